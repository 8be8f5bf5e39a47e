
/- The reference of layer 15. -/
import Derived.Test.YtgfnpcoigooblaaCodeB
set_option linter.all false
namespace Go.Proofs.Ytgfnpcoigooblaa
open Go.RowKit

set_option maxHeartbeats 2000000 in
theorem rkinds_any (n : Int) (w : World) :
    Calls Try.prog 77 #[.int .i64 n] w fun e w' => e = .returned (.string (kindsS n)) ∧ w = w' := by
  go_enter Try.func77, Try.ntmps77
  go_wp2_with fail
  all_goals go_ret
  all_goals try simp only [beq_iff_eq, beq_eq_false_iff_ne, ne_eq] at *
  all_goals exact ⟨ret_str (by unfold kindsS; (repeat' split) <;> first | omega | rfl), by trivial⟩

set_option maxHeartbeats 400000 in
theorem rfine_any (k n : Int) (w : World) :
    Calls Try.prog 85 #[.int .u8 k, .int .i64 n] w fun e w' => e = .returned (.bool (fineB k n)) ∧ w' = w := by
  go_enter Try.func85, Try.ntmps85
  go_wp2_with fail
  all_goals go_ret
  all_goals exact ⟨ret_bool (by rw [Bool.eq_iff_iff]; simp only [fineB, bnd, *]; simp <;> omega), rfl⟩

theorem str3_ne (c0 c1 c2 : UInt8) : (str3 c0 c1 c2).toList.isEmpty = false := by simp [ByteArray.toList, ByteArray.toList.loop, str3_size]
theorem right_out {op a b c : Int} (h : ¬ (0 ≤ op ∧ op ≤ 29)) : rightB op a b c = false := by
  unfold rightB
  by_cases h0 : 0 ≤ op
  · rw [decide_eq_false (p := op ≤ 29) (by omega)]; simp
  · rw [decide_eq_false (p := 0 ≤ op) (by omega)]; simp
set_option maxHeartbeats 1000000 in
theorem rright_any (op a b c : Int) (w : World) :
    Calls Try.prog 78 #[.agg #[.int .i64 op, .int .i64 a, .int .i64 b, .int .i64 c]] w fun e w' => e = .returned (.bool (rightB op a b c)) ∧ Ext w w' := by
  by_cases hop : 0 ≤ op ∧ op ≤ 29
  · obtain ⟨o0, o1⟩ := hop
    obtain ⟨c0, c1, c2, hk, h0, h1, h2, k0, k1, k2⟩ := kinds_form op o0 o1
    have hr : rightB op a b c = (fineB c0.toNat a && fineB c1.toNat b && fineB c2.toNat c) := by
      unfold rightB; rw [k0, k1, k2]; simp [o0, o1]
    have HR := Lib.hid hr
    have HK := Lib.hid hk
    have hne := str3_ne c0 c1 c2
    have hsz := str3_size c0 c1 c2
    clear hr hk k0 k1 k2
    go_enter Try.func78, Try.ntmps78
    go_wp2_with (go_at_call 77; refine (rkinds_any _ _).mono ?_; rw [HK.out]; rintro e w' ⟨rfl, rfl⟩)
    have i0 : ∀ h, (str3 c0 c1 c2)[0]'h = c0 := fun _ => rfl
    have i1 : ∀ h, (str3 c0 c1 c2)[1]'h = c1 := fun _ => rfl
    have i2 : ∀ h, (str3 c0 c1 c2)[2]'h = c2 := fun _ => rfl
    have hb := Ext.alloc (Below.refl _ w) (.cells #[.int .i64 op, .int .i64 a, .int .i64 b, .int .i64 c] 79)
    have HB := Lib.hid hb
    clear hb
    cases f0 : fineB c0.toNat a
    · go_quiet ((go_at_call 85; exact Calls.quiet_of_same (rfine_any _ _ _)))
      go_wp2
      go_ret
      exact ⟨ret_bool (by rw [HR.out, f0]; rfl), Ext.drewN HB.out _⟩
    · cases f1 : fineB c1.toNat b
      · go_quiet ((go_at_call 85; exact Calls.quiet_of_same (rfine_any _ _ _)))
        go_wp2
        go_ret
        exact ⟨ret_bool (by rw [HR.out, f0, f1]; rfl), Ext.drewN HB.out _⟩
      · go_quiet ((go_at_call 85; exact Calls.quiet_of_same (rfine_any _ _ _)))
        go_wp2
        go_ret
        exact ⟨ret_bool (by rw [HR.out, f0, f1]; rfl), Ext.drewN HB.out _⟩
  · have hk := kinds_out op (by omega)
    have hr := right_out (a := a) (b := b) (c := c) hop
    have HR := Lib.hid hr
    have HK := Lib.hid hk
    clear hr hk
    go_enter Try.func78, Try.ntmps78
    go_wp2_with (go_at_call 77; refine (rkinds_any _ _).mono ?_; rw [HK.out]; rintro e w' ⟨rfl, rfl⟩)
    go_quiet (fail)
    go_wp2
    go_ret
    exact ⟨ret_bool (by rw [HR.out]), Ext.drewN (Ext.alloc (Below.refl _ w) _) _⟩

end Go.Proofs.Ytgfnpcoigooblaa

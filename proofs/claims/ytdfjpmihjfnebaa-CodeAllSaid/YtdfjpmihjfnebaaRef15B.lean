/- The reference of layer 15: bytes. -/
import Derived.Test.YtdfjpmihjfnebaaRef15
set_option linter.all false
namespace Go.Proofs.Ytdfjpmihjfnebaa
open Go.RowKit

theorem right_wide {op a b c : Int} (h : rightB op a b c = true) (hw : wideB op = true) : -32768 ≤ b ∧ b ≤ 32767 := by
  unfold rightB at h
  unfold wideB at hw
  rw [beq_iff_eq] at hw
  rw [hw] at h
  simp [fineB, bnd] at h
  omega
theorem kinds_wide {op : Int} (o0 : 0 ≤ op) (o1 : op ≤ 29) : ∃ c0 c1 c2 : UInt8, kindsS op = str3 c0 c1 c2 ∧ wideB op = (((c1.toNat : Nat) : Int) == 119) := by
  obtain ⟨c0, c1, c2, hk, -, -, -, -, k1, -⟩ := kinds_form op o0 o1
  exact ⟨c0, c1, c2, hk, by unfold wideB; rw [k1]⟩
theorem right_op {op a b c : Int} (h : rightB op a b c = true) : 0 ≤ op ∧ op ≤ 29 := by
  unfold rightB at h
  simp at h
  omega

set_option maxHeartbeats 1000000 in
theorem rput_any (op a b c : Int) (w : World) :
    Calls Try.prog 20 #[.agg #[.int .i64 op, .int .i64 a, .int .i64 b, .int .i64 c]] w (Gives w 5 1 (putL op a b c).length (bs (putL op a b c))) := by
  cases hr : rightB op a b c
  · have hp : putL op a b c = [] := by unfold putL; rw [hr]; rfl
    rw [hp]
    go_enter Try.func20, Try.ntmps20
    go_wp2_with (go_at_call 18; refine (rright_any _ _ _ _ _).mono ?_; rintro e w1 ⟨rfl, hb1⟩; obtain ⟨hc1, hf1, hz1⟩ := bcellN hb1 (w.heap.size + 1) (by simpa using Nat.le_refl _))
    go_ret
    exact gives_nil (by repeat first | (with_reducible exact Below.refl _ _) | (with_reducible apply Ext.alloc) | (with_reducible apply Ext.drew) | (with_reducible apply Ext.drewN) | (with_reducible refine Ext.set ?_ (by simp)) | (with_reducible refine Ext.then ?_ hb1))
  · obtain ⟨o0, o1⟩ := right_op hr
    obtain ⟨c0, c1, c2, hk, hw1⟩ := kinds_wide o0 o1
    have HK := Lib.hid hk
    have hsz := str3_size c0 c1 c2
    have i1 : ∀ h, (str3 c0 c1 c2)[1]'h = c1 := fun _ => rfl
    clear hk
    cases hw : wideB op
    · have hp : putL op a b c = [op % 256, a % 256, b % 256, c % 256] := by unfold putL; rw [hr, hw]; rfl
      rw [hp]
      rw [hw] at hw1
      have hc : (((c1.toNat : Nat) : Int) == 119) = false := hw1.symm
      clear hw1 hp
      go_enter Try.func20, Try.ntmps20
      go_wp2_with (first | (go_at_call 18; refine (rright_any _ _ _ _ _).mono ?_; rintro e w1 ⟨rfl, hb1⟩; obtain ⟨hc1, hf1, hz1⟩ := bcellN hb1 (w.heap.size + 1) (by simpa using Nat.le_refl _)) | (go_at_call 16; refine (rkinds_any _ _).mono ?_; rw [HK.out]; rintro e w' ⟨rfl, rfl⟩))
      go_ret
      have hE : Ext w w1 := (by repeat first | (with_reducible exact Below.refl _ _) | (with_reducible apply Ext.alloc) | (with_reducible apply Ext.drew) | (with_reducible apply Ext.drewN) | (with_reducible refine Ext.set ?_ (by simp)) | (with_reducible refine Ext.then ?_ hb1))
      rw [show op % 256 = op by omega]
      exact gives_lit (n := 4) hE rfl (by unfold maxLen; omega)
    · obtain ⟨b0, b1⟩ := right_wide hr hw
      have hp : putL op a b c = [op % 256, a % 256, b / 256 % 256, b % 256] := by unfold putL; rw [hr, hw]; rfl
      rw [hp]
      rw [hw] at hw1
      have hc : (((c1.toNat : Nat) : Int) == 119) = true := hw1.symm
      clear hw1 hp
      by_cases hn : b < 0
      · have e1 : b / 256 % 256 = (b + 65536) / 256 := by omega
        have e2 : b % 256 = (b + 65536) % 256 := by omega
        have e3 : op % 256 = op := by omega
        rw [e1, e2, e3]
        clear e1 e2 e3
        go_enter Try.func20, Try.ntmps20
        go_wp2_with (first | (go_at_call 18; refine (rright_any _ _ _ _ _).mono ?_; rintro e w1 ⟨rfl, hb1⟩; obtain ⟨hc1, hf1, hz1⟩ := bcellN hb1 (w.heap.size + 1) (by simpa using Nat.le_refl _)) | (go_at_call 16; refine (rkinds_any _ _).mono ?_; rw [HK.out]; rintro e w' ⟨rfl, rfl⟩))
        have hE : Ext w w1 := (by repeat first | (with_reducible exact Below.refl _ _) | (with_reducible apply Ext.alloc) | (with_reducible apply Ext.drew) | (with_reducible apply Ext.drewN) | (with_reducible refine Ext.set ?_ (by simp)) | (with_reducible refine Ext.then ?_ hb1))
        go_ret
        exact gives_lit (n := 4) hE rfl (by unfold maxLen; omega)
      · have e1 : b / 256 % 256 = b / 256 := by omega
        have e3 : op % 256 = op := by omega
        rw [e1, e3]
        clear e1 e3
        go_enter Try.func20, Try.ntmps20
        go_wp2_with (first | (go_at_call 18; refine (rright_any _ _ _ _ _).mono ?_; rintro e w1 ⟨rfl, hb1⟩; obtain ⟨hc1, hf1, hz1⟩ := bcellN hb1 (w.heap.size + 1) (by simpa using Nat.le_refl _)) | (go_at_call 16; refine (rkinds_any _ _).mono ?_; rw [HK.out]; rintro e w' ⟨rfl, rfl⟩))
        have hE : Ext w w1 := (by repeat first | (with_reducible exact Below.refl _ _) | (with_reducible apply Ext.alloc) | (with_reducible apply Ext.drew) | (with_reducible apply Ext.drewN) | (with_reducible refine Ext.set ?_ (by simp)) | (with_reducible refine Ext.then ?_ hb1))
        go_ret
        exact gives_lit (n := 4) hE rfl (by unfold maxLen; omega)
end Go.Proofs.Ytdfjpmihjfnebaa

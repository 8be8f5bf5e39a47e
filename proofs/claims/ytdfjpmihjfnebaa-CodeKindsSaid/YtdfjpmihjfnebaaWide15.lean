/- CodeWide: its walk. -/
import Derived.Test.YtdfjpmihjfnebaaHead15
import Derived.Test.YtdfjpmihjfnebaaPhi
import Derived.Test.YtdfjpmihjfnebaaUnlike15
set_option linter.all false
namespace Go.Proofs.Ytdfjpmihjfnebaa
open Go.RowKit

theorem u16_tests (n : Int) (n0 : -32768 ≤ n) (n1 : n < 32768) : (n / 256 % 256 == IntKind.u16.wrap ((IntKind.u16.wrap n).tdiv 256) % 256) = true ∧ (n % 256 == (IntKind.u16.wrap n).tmod 256 % 256) = true := by
  have e : IntKind.u16.wrap n = n % 65536 := by rw [IntKind.wrap_u16]
  have h0 : 0 ≤ n % 65536 := by omega
  rw [e, Int.tdiv_eq_ediv_of_nonneg h0, Int.tmod_eq_emod_of_nonneg h0, IntKind.wrap_u16]
  constructor <;> (rw [beq_iff_eq]; omega)

set_option maxHeartbeats 4000000 in
theorem wide_no (k a n : Int) (w : World) (k0 : 0 ≤ k) (k1 : k < 256) (a0 : 0 ≤ a) (a1 : a < 256) (n0 : -32768 ≤ n) (n1 : n < 32768) (c0 c1 c2 : UInt8) (hk : kindsS (k % 30) = str3 c0 c1 c2) (hw : (((c1.toNat : Nat) : Int) != 119) = true) :
    Calls Try.prog 8 #[.int .u8 k, .int .u8 a, .int .i16 n] w fun e w' => e = .returned (.bool true) ∧ Ext w w' := by
  have HK := Lib.hid hk
  clear hk
  have hsz := str3_size c0 c1 c2
  have hw : (((str3 c0 c1 c2)[1].toNat : Int) != 119) = true := hw
  go_enter Try.func8, Try.ntmps8
  go_wp2_with fail
  refine (head_any _).mono ?_
  rintro e w1 ⟨rfl, hb1⟩
  go_wp2_with fail
  refine (kinds_any _ _).mono ?_
  rw [HK.out]
  rintro e w2 ⟨rfl, hb2⟩
  go_wp2_with fail
  go_ret
  exact ⟨rfl, hb1.then ((Ext.alloc (Below.refl _ _) _).then hb2)⟩

set_option maxHeartbeats 4000000 in
theorem wide_r (k a n : Int) (w : World) (k0 : 0 ≤ k) (k1 : k < 256) (a0 : 0 ≤ a) (a1 : a < 256) (n0 : -32768 ≤ n) (n1 : n < 32768) (c2 : UInt8) (hk : kindsS (k % 30) = str3 114 119 c2) (hr : rightI ⟨k % 30, a % 8, n, 0⟩ = true) :
    Calls Try.prog 8 #[.int .u8 k, .int .u8 a, .int .i16 n] w fun e w' => e = .returned (.bool true) ∧ Ext w w' := by
  have HK := Lib.hid hk
  clear hk
  have hsz := str3_size 114 119 c2
  have g1 : (((str3 114 119 c2)[1].toNat : Int) != 119) = false := rfl
  have g0 : (((str3 114 119 c2)[0].toNat : Int) == 45) = false := rfl
  go_enter Try.func8, Try.ntmps8
  go_wp2_with fail
  refine (head_any _).mono ?_
  rintro e w1 ⟨rfl, hb1⟩
  go_wp2_with fail
  refine (kinds_any _ _).mono ?_
  rw [HK.out]
  rintro e w2 ⟨rfl, hb2⟩
  obtain ⟨hc2, hf2, hz2⟩ := bcellN hb2 (w1.heap.size + 1) (by simp)
  go_wp2_with fail
  refine (put_any _ _ _ _ _).mono ?_
  rintro e w3 ⟨v3, rfl, ho3, hb3⟩
  obtain ⟨hc3, hf3, hz3⟩ := bcellN hb3 (w1.heap.size + 1) (by omega)
  obtain ⟨g3, c3, rfl, hc3', hg3, -, b3, d3, e3, q0, q1, q2, q3, ha3⟩ := four_of (x := ⟨k % 30, a % 8, n, 0⟩) hr ho3
  go_wp2_with fail
  have G := get_any (some ⟨g3, 0, none⟩) c3 _ w3 ha3 (put_bytes _)
  rw [get_put hr, e3] at G
  refine G.mono ?_
  rintro e w4 ⟨rfl, hb4⟩
  obtain ⟨hc4, hf4, hz4⟩ := bcellN hb4 (w1.heap.size + 1) (by omega)
  have u4 : w1.heap.size < w4.heap.size := by omega
  have u5 : g3 < w4.heap.size := Nat.lt_of_lt_of_le hg3 hb4.size
  obtain ⟨b, d, e, -, -, hbd⟩ := put_four hr
  have hI := eqI ⟨k % 30, a % 8, n, 0⟩ ⟨k % 30, a % 8, n, 0⟩ true (by simp)
  have hwd : wideB (k % 30) = true := by unfold wideB kch; rw [HK.out]; rfl
  rw [e3] at e
  rw [if_pos hwd] at hbd
  obtain ⟨rfl, rfl, -⟩ := hbd
  simp only [List.cons.injEq, and_true, true_and] at e
  obtain ⟨rfl, rfl⟩ := e
  have r2 := (hb4.cell (p := ⟨g3, 2, none⟩) hg3).trans q2
  have r3 := (hb4.cell (p := ⟨g3, 3, none⟩) hg3).trans q3
  have EW : Ext w w4 := hb1.then ((Ext.alloc (Below.refl _ _) _).then (hb2.then (hb3.then hb4)))
  clear G ha3 e3 hb1 hb2 hb3 hb4
  obtain ⟨t1, t2⟩ := u16_tests n n0 n1
  go_wp2_with fail
  go_ret
  exact ⟨rfl, Ext.alloc EW _⟩
set_option maxHeartbeats 4000000 in
theorem wide_m (k a n : Int) (w : World) (k0 : 0 ≤ k) (k1 : k < 256) (a0 : 0 ≤ a) (a1 : a < 256) (n0 : -32768 ≤ n) (n1 : n < 32768) (c2 : UInt8) (hk : kindsS (k % 30) = str3 45 119 c2) (hr : rightI ⟨k % 30, 0, n, 0⟩ = true) :
    Calls Try.prog 8 #[.int .u8 k, .int .u8 a, .int .i16 n] w fun e w' => e = .returned (.bool true) ∧ Ext w w' := by
  have HK := Lib.hid hk
  clear hk
  have hsz := str3_size 45 119 c2
  have g1 : (((str3 45 119 c2)[1].toNat : Int) != 119) = false := rfl
  have g0 : (((str3 45 119 c2)[0].toNat : Int) == 45) = true := rfl
  go_enter Try.func8, Try.ntmps8
  go_wp2_with fail
  refine (head_any _).mono ?_
  rintro e w1 ⟨rfl, hb1⟩
  go_wp2_with fail
  refine (kinds_any _ _).mono ?_
  rw [HK.out]
  rintro e w2 ⟨rfl, hb2⟩
  obtain ⟨hc2, hf2, hz2⟩ := bcellN hb2 (w1.heap.size + 1) (by simp)
  go_wp2_with fail
  refine (put_any _ _ _ _ _).mono ?_
  rintro e w3 ⟨v3, rfl, ho3, hb3⟩
  obtain ⟨hc3, hf3, hz3⟩ := bcellN hb3 (w1.heap.size + 1) (by simp; omega)
  obtain ⟨g3, c3, rfl, hc3', hg3, -, b3, d3, e3, q0, q1, q2, q3, ha3⟩ := four_of (x := ⟨k % 30, 0, n, 0⟩) hr ho3
  go_wp2_with fail
  have G := get_any (some ⟨g3, 0, none⟩) c3 _ w3 ha3 (put_bytes _)
  rw [get_put hr, e3] at G
  refine G.mono ?_
  rintro e w4 ⟨rfl, hb4⟩
  obtain ⟨hc4, hf4, hz4⟩ := bcellN hb4 (w1.heap.size + 1) (by omega)
  have u4 : w1.heap.size < w4.heap.size := by omega
  have u5 : g3 < w4.heap.size := Nat.lt_of_lt_of_le hg3 hb4.size
  obtain ⟨b, d, e, -, -, hbd⟩ := put_four hr
  have hI := eqI ⟨k % 30, 0, n, 0⟩ ⟨k % 30, 0, n, 0⟩ true (by simp)
  have hwd : wideB (k % 30) = true := by unfold wideB kch; rw [HK.out]; rfl
  rw [e3] at e
  rw [if_pos hwd] at hbd
  obtain ⟨rfl, rfl, -⟩ := hbd
  simp only [List.cons.injEq, and_true, true_and] at e
  obtain ⟨rfl, rfl⟩ := e
  have r2 := (hb4.cell (p := ⟨g3, 2, none⟩) hg3).trans q2
  have r3 := (hb4.cell (p := ⟨g3, 3, none⟩) hg3).trans q3
  have EW : Ext w w4 := Ext.then (Ext.set (hb1.then ((Ext.alloc (Below.refl _ _) _).then hb2)) (by simpa using hb1.size)) (hb3.then hb4)
  clear G ha3 e3 hb1 hb2 hb3 hb4
  obtain ⟨t1, t2⟩ := u16_tests n n0 n1
  go_wp2_with fail
  go_ret
  exact ⟨rfl, Ext.alloc EW _⟩
theorem wide_law (k a n : Int) (w : World) (k0 : 0 ≤ k) (k1 : k < 256) (a0 : 0 ≤ a) (a1 : a < 256) (n0 : -32768 ≤ n) (n1 : n < 32768) :
    Calls Try.prog 8 #[.int .u8 k, .int .u8 a, .int .i16 n] w fun e w' => e = .returned (.bool true) ∧ Ext w w' := by
  obtain ⟨c0, c1, c2, hk, -, -, -, h0, h1, h2⟩ := kinds_form (k % 30) (by omega) (by omega)
  have hall : ∀ m : Fin 30, kch (m.val : Int) 1 = 119 → kch (m.val : Int) 2 = 118 ∧ (kch (m.val : Int) 0 = 114 ∨ kch (m.val : Int) 0 = 45) := by decide +kernel
  by_cases hw : kch (k % 30) 1 = 119
  · have hm := hall ⟨(k % 30).toNat, by omega⟩
    simp only at hm
    rw [show (((k % 30).toNat : Nat) : Int) = k % 30 by omega] at hm
    obtain ⟨m2, m0⟩ := hm hw
    have e1 : c1 = 119 := by
      have : c1.toNat = 119 := by omega
      exact UInt8.toNat_inj.1 this
    have fb : fineB 119 n = true := by
      unfold fineB
      rw [show bnd 119 = (-32768, 32767) by decide]
      simp
      omega
    have fa : fineB 114 (a % 8) = true := by
      unfold fineB
      rw [show bnd 114 = (0, 7) by decide]
      simp
      omega
    have hr : ∀ a', fineB (kch (k % 30) 0) a' = true → rightI ⟨k % 30, a', n, 0⟩ = true := fun a' ha => by
      have f2 : fineB (kch (k % 30) 2) 0 = true := by rw [m2]; decide
      have f1 : fineB (kch (k % 30) 1) n = true := by rw [hw]; exact fb
      unfold rightI rightB
      simp [ha, f1, f2]
      omega
    subst e1
    rcases m0 with m0 | m0
    · have e0 : c0 = 114 := by
        have : c0.toNat = 114 := by omega
        exact UInt8.toNat_inj.1 this
      subst e0
      exact wide_r k a n w k0 k1 a0 a1 n0 n1 c2 hk (hr _ (by rw [m0]; exact fa))
    · have e0 : c0 = 45 := by
        have : c0.toNat = 45 := by omega
        exact UInt8.toNat_inj.1 this
      subst e0
      exact wide_m k a n w k0 k1 a0 a1 n0 n1 c2 hk (hr _ (by rw [m0]; decide))
  · exact wide_no k a n w k0 k1 a0 a1 n0 n1 c0 c1 c2 hk (by rw [bne_iff_ne]; omega)
end Go.Proofs.Ytdfjpmihjfnebaa


/- seizinref01.bit, Has; seizinref02.Under. -/
import Derived.Test.YtalndcjbnedigaaCapR
import Derived.Test.YtalndcjbnedigaaCapA
set_option linter.all false
namespace Go.Proofs.Ytalndcjbnedigaa
open Go.RowKit
attribute [local go_sem] seen dstOf boolOf
def bitR (n : Int) (k : Nat) : Bool := (n / 2 ^ k).tmod 2 == 1
theorem bitR_eq {n : Int} (h : permB n = true) (k : Nat) : bitR n k = n.toNat.testBit k := by
  unfold permB at h
  rw [Bool.and_eq_true, decide_eq_true_eq, decide_eq_true_eq] at h
  obtain ⟨m, rfl⟩ := Int.eq_ofNat_of_zero_le h.1
  unfold bitR
  rw [Int.toNat_natCast, Nat.testBit_eq_decide_div_mod_eq]
  have h1 : ((m : Int) / 2 ^ k) = ((m / 2 ^ k : Nat) : Int) := by simp
  rw [h1, Int.tmod_eq_emod_of_nonneg (Int.natCast_nonneg _), Bool.eq_iff_iff, beq_iff_eq, decide_eq_true_iff]
  omega
theorem hasP_all {p q : Int} (h : ∀ k, k < 7 → (bitR q k && !bitR p k) = false) : hasP p q = (permB p && permB q) := by
  rw [Bool.eq_iff_iff, hasP_iff, Bool.and_eq_true]
  refine ⟨fun h => ⟨h.1, h.2.1⟩, fun ⟨hp, hq⟩ => ⟨hp, hq, fun i hi => ?_⟩⟩
  by_cases hi7 : i < 7
  · have := h i hi7
    rw [bitR_eq hq, bitR_eq hp, hi] at this
    simpa using this
  · exfalso
    have hq2 := hq
    unfold permB at hq2
    rw [Bool.and_eq_true, decide_eq_true_eq, decide_eq_true_eq] at hq2
    have h2 : q.toNat < 2 ^ i := Nat.lt_of_lt_of_le (show q.toNat < 2 ^ 7 by omega) (Nat.pow_le_pow_right (by decide) (by omega))
    rw [Nat.testBit_lt_two_pow h2] at hi
    cases hi
theorem hasP_no {p q : Int} {k : Nat} (h : (bitR q k && !bitR p k) = true) : hasP p q = false := by
  cases hh : hasP p q with
  | false => rfl
  | true =>
    obtain ⟨hp, hq, hb⟩ := hasP_iff.1 hh
    rw [bitR_eq hq, bitR_eq hp, Bool.and_eq_true, Bool.not_eq_true'] at h
    rw [hb k h.1] at h
    cases h.2
set_option maxRecDepth 20000 in
theorem refBit_any (n : Int) (k : Nat) (w : World) (hk : k < 7) : Calls Try.prog 65 #[.int .i64 n, .int .i64 (k : Int)] w (Tell w (bitR n k)) := by
  go_enter Try.func65, Try.ntmps65
  go_wp2_with fail
  go_ret
  exact ⟨rfl, Below.refl _ _⟩
set_option maxHeartbeats 1000000 in
set_option maxRecDepth 20000 in
theorem refHas_any (p q : Int) (w : World) : Calls Try.prog 35 #[.int .i64 p, .int .i64 q] w (Tell w (hasP p q)) := by
  obtain ⟨r, hr⟩ : ∃ r, r = hasP p q := ⟨_, rfl⟩
  rw [← hr]
  have HR := Lib.hid hr
  clear hr
  have HB := Lib.hid (fun n k w hk => refBit_any n k w hk)
  have HP := Lib.hid (fun n w => permRef_any n w)
  go_enter Try.func35, Try.ntmps35
  go_wp2_with fail
  go_loopw [5] (fun i wr => ∃ k : Nat, k ≤ 7 ∧ i = .int .i64 (k : Int) ∧ Ext w wr ∧ Hid (∀ j, j < k → (bitR q j && !bitR p j) = false)) (fun i _ => 7 - (intOf i).toNat)
  case atStart => exact ⟨0, Nat.zero_le _, rfl, Below.refl _ _, fun j hj => by omega⟩
  case round =>
    obtain ⟨k, hk, rfl, hE, hs⟩ := hrel
    by_cases hlt : k < 7
    · go_wp2_with fail
      refine (HB.out q k wr hlt).mono ?_
      rintro e w1 ⟨rfl, hE1⟩
      have E1 := Lib.hid (hE.then hE1)
      clear hE hE1
      cases hq : bitR q k with
      | false =>
        go_wp2_with fail
        exact ⟨⟨k + 1, by omega, by simp, E1.out, fun j hj => by rcases Nat.lt_succ_iff_lt_or_eq.1 hj with hj | rfl; exact hs.out j hj; rw [hq]; rfl⟩, by simp [intOf]; omega⟩
      | true =>
        go_wp2_with fail
        refine (HB.out p k w1 hlt).mono ?_
        rintro e w2 ⟨rfl, hE2⟩
        have E2 := Lib.hid (E1.out.then hE2)
        clear hE2
        cases hp : bitR p k with
        | true =>
          go_wp2_with fail
          exact ⟨⟨k + 1, by omega, by simp, E2.out, fun j hj => by rcases Nat.lt_succ_iff_lt_or_eq.1 hj with hj | rfl; exact hs.out j hj; rw [hq, hp]; rfl⟩, by simp [intOf]; omega⟩
        | false =>
          have hr : r = false := by rw [HR.out]; exact hasP_no (k := k) (by rw [hq, hp]; rfl)
          subst hr
          go_wp2_with fail
          go_ret
          exact ⟨rfl, E2.out⟩
    · obtain rfl : k = 7 := by omega
      have hr : r = (permB p && permB q) := by rw [HR.out]; exact hasP_all hs.out
      have H2 := Lib.hid hr
      clear hr
      go_wp2_with fail
      refine (HP.out p wr).mono ?_
      rintro e w1 ⟨rfl, hE1⟩
      have E1 := Lib.hid (hE.then hE1)
      clear hE hE1
      cases hp : permB p with
      | false =>
        have hr : r = false := by rw [H2.out, hp]; rfl
        subst hr
        go_wp2_with fail
        go_ret
        exact ⟨rfl, E1.out⟩
      | true =>
        have hr : r = permB q := by rw [H2.out, hp]; rfl
        subst hr
        go_wp2_with fail
        refine (HP.out q w1).mono ?_
        rintro e w2 ⟨rfl, hE2⟩
        have E2 := Lib.hid (E1.out.then hE2)
        clear hE2
        go_wp2_with fail
        go_ret
        exact ⟨rfl, E2.out⟩
set_option maxHeartbeats 1000000 in
set_option maxRecDepth 20000 in
theorem refUnder_any (c d : Cap) (w : World) : Calls Try.prog 22 #[c.val, d.val] w (Tell w (underC c d)) := by
  obtain ⟨r, hr⟩ : ∃ r, r = underC c d := ⟨_, rfl⟩
  rw [← hr]
  unfold underC at hr
  have HR := Lib.hid hr
  clear hr
  go_enter Try.func22, Try.ntmps22
  by_cases k1 : c.base ≤ c.top
  · have d1 : decide (c.base ≤ c.top) = true := decide_eq_true k1
    by_cases k2 : d.base ≤ c.base
    · have d2 : decide (d.base ≤ c.base) = true := decide_eq_true k2
      by_cases k3 : c.top ≤ d.top
      · have d3 : decide (c.top ≤ d.top) = true := decide_eq_true k3
        have hr : r = hasP d.perms c.perms := by rw [HR.out]; simp [k1, k2, k3]
        rw [hr]
        go_wp2_with fail
        refine (refHas_any d.perms c.perms _).mono ?_
        rintro e w1 ⟨rfl, hE⟩
        go_wp2_with fail
        go_ret
        exact ⟨rfl, (by repeat first | (with_reducible exact Below.refl _ _) | (with_reducible apply Ext.alloc) | (with_reducible apply Ext.drew) | (with_reducible apply Ext.drewN) | (with_reducible refine Ext.set ?_ (by simp)) | (with_reducible refine Ext.then ?_ hE))⟩
      · have d3 : decide (c.top ≤ d.top) = false := decide_eq_false k3
        have hr : r = false := by rw [HR.out]; simp [k1, k2, k3]
        subst hr
        go_wp2_with fail
        go_ret
        exact ⟨rfl, (by repeat first | (with_reducible exact Below.refl _ _) | (with_reducible apply Ext.alloc) | (with_reducible apply Ext.drew) | (with_reducible apply Ext.drewN) | (with_reducible refine Ext.set ?_ (by simp)))⟩
    · have d2 : decide (d.base ≤ c.base) = false := decide_eq_false k2
      have hr : r = false := by rw [HR.out]; simp [k1, k2]
      subst hr
      go_wp2_with fail
      go_ret
      exact ⟨rfl, (by repeat first | (with_reducible exact Below.refl _ _) | (with_reducible apply Ext.alloc) | (with_reducible apply Ext.drew) | (with_reducible apply Ext.drewN) | (with_reducible refine Ext.set ?_ (by simp)))⟩
  · have d1 : decide (c.base ≤ c.top) = false := decide_eq_false k1
    have hr : r = false := by rw [HR.out]; simp [k1]
    subst hr
    go_wp2_with fail
    go_ret
    exact ⟨rfl, (by repeat first | (with_reducible exact Below.refl _ _) | (with_reducible apply Ext.alloc) | (with_reducible apply Ext.drew) | (with_reducible apply Ext.drewN) | (with_reducible refine Ext.set ?_ (by simp)))⟩
end Go.Proofs.Ytalndcjbnedigaa

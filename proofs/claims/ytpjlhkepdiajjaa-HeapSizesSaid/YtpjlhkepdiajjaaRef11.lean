
/- seizinref11.Round. -/
import Derived.Test.YtpjlhkepdiajjaaSize11
set_option linter.all false
namespace Go.Proofs.Ytpjlhkepdiajjaa
open Go.RowKit Go.Shelf
attribute [local go_sem] seen dstOf boolOf

abbrev szS (j : Nat) : Int := sizesL.getD j 0
theorem szS_get {j : Nat} (hj : j < sizesL.length) : sizesL[j] = szS j := by simp [szS, List.getD, hj]
theorem class_at {n : Int} {i : Nat} (hi : i < 14) (h1 : ∀ j, j < i → szS j < n) (h2 : n ≤ szS i) : classN n = i := by
  have hlen : sizesL.length = 14 := rfl
  have e : sizesL = sizesL.take i ++ sizesL.drop i := (List.take_append_drop i sizesL).symm
  have hr : sizesL.Pairwise (· ≤ ·) := by decide
  unfold classN
  rw [e, List.countP_append]
  have c1 : (sizesL.take i).countP (fun x => decide (x < n)) = i := by
    rw [List.countP_eq_length.2 fun x hx => ?_]
    · rw [List.length_take, hlen]
      omega
    · obtain ⟨j, hj, rfl⟩ := List.getElem_of_mem hx
      rw [List.length_take] at hj
      rw [List.getElem_take, szS_get (by omega)]
      exact decide_eq_true (h1 j (by omega))
  have c2 : (sizesL.drop i).countP (fun x => decide (x < n)) = 0 := by
    rw [List.countP_eq_zero]
    intro x hx
    obtain ⟨j, hj, rfl⟩ := List.getElem_of_mem hx
    rw [List.length_drop] at hj
    rw [List.getElem_drop]
    have hle : sizesL[i]'(by omega) ≤ sizesL[i + j]'(by omega) := by
      rcases Nat.eq_zero_or_pos j with rfl | hp
      · exact Int.le_refl _
      · exact List.pairwise_iff_getElem.1 hr i (i + j) (by omega) (by omega) (by omega)
    rw [szS_get (by omega)] at hle
    simp only [decide_eq_true_eq]
    omega
  rw [c1, c2]
  rfl
theorem class_all {n : Int} (h1 : ∀ j, j < 14 → szS j < n) : classN n = 14 ∧ 1024 < n := by
  refine ⟨?_, h1 13 (by decide)⟩
  unfold classN
  rw [List.countP_eq_length.2 fun x hx => ?_]
  · rfl
  · obtain ⟨j, hj, rfl⟩ := List.getElem_of_mem hx
    rw [szS_get hj]
    exact decide_eq_true (h1 j hj)
theorem round_ref {n : Int} (h0 : 0 ≤ n) (h1 : n ≤ 65536) : roundD n = if classN n < 14 then (sizesL.getD (classN n) 0, true) else ((n + 255) / 256 * 256, true) := by
  unfold roundD
  rw [if_neg (by omega)]
  split
  · rfl
  · rw [show n + 256 - 1 = n + 255 by omega]
set_option maxHeartbeats 1000000 in
set_option maxRecDepth 20000 in
theorem refRound_any (n : Int) (w : World) (h0 : 0 ≤ n) (h1 : n ≤ 65536) : Calls Try.prog 24 #[.int .i64 n] w fun e w' => e = .returned (.tuple #[.int .i64 (roundD n).1, .bool true]) ∧ Ext w w' := by
  have hS : ∀ W : World, Calls Try.prog 45 #[] W fun e w' => e = .returned (.slice (some ⟨W.heap.size, 0, none⟩) 14 14) ∧ w' = W.alloc (.cells (sizesL.map (.int .i64 ·)).toArray 3) := fun W => by
    go_enter Try.func45, Try.ntmps45
    go_wp2_with fail
    go_ret
    exact ⟨rfl, rfl⟩
  have HS := Lib.hid hS
  clear hS
  go_enter Try.func24, Try.ntmps24
  go_wp2_with fail
  refine (HS.out w).mono ?_
  rintro _ w1 ⟨rfl, hw1⟩
  have e1 : Ext w w1 := by rw [hw1]; exact (by repeat first | (with_reducible exact Below.refl _ _) | (with_reducible apply Ext.alloc) | (with_reducible apply Ext.drew) | (with_reducible apply Ext.drewN) | (with_reducible refine Ext.set ?_ (by simp)))
  have hb : w1.heap[w.heap.size]? = some (.cells (sizesL.map (.int .i64 ·)).toArray 3) := by rw [hw1]; exact heap_alloc_new w _
  have H1 := Lib.hid (And.intro e1 hb)
  clear hw1 e1 hb
  obtain ⟨W1, hW1⟩ : ∃ W1, W1 = w1 := ⟨_, rfl⟩
  rw [← hW1] at H1 ⊢
  clear hW1
  go_wp2_with fail
  go_loopw [5] (fun i wr => ∃ k : Nat, k ≤ 14 ∧ i = .int .i64 (k : Int) ∧ wr = W1 ∧ ∀ j, j < k → szS j < n) (fun i _ => 14 - (intOf i).toNat)
  case atStart => exact ⟨0, Nat.zero_le _, rfl, by simp, fun j hj => by omega⟩
  case round =>
    obtain ⟨k, hk, rfl, rfl, hall⟩ := hrel
    by_cases hlt : k < 14
    · have hlen : sizesL.length = 14 := rfl
      have xk := cellAt H1.out.2 k (.int .i64 (szS k)) (by simp [hlen, hlt, szS, List.getD])
      have hkl := cell_lt xk
      simp only at hkl
      have hca := fun h2 => class_at hlt hall h2
      have HA := Lib.hid (And.intro hall hca)
      have hsx : 16 ≤ szS k ∧ szS k ≤ 1024 := by
        have : ∀ x ∈ sizesL, 16 ≤ x ∧ x ≤ 1024 := by decide
        rw [← szS_get (show k < sizesL.length by omega)]
        exact this _ (List.getElem_mem _)
      clear hall hca
      obtain ⟨x, hx⟩ : ∃ x, x = szS k := ⟨_, rfl⟩
      rw [← hx] at xk hsx
      have HX := Lib.hid hx
      clear hx
      by_cases hge : n ≤ x
      · have hr : roundD n = (x, true) := by
          have hc := HA.out.2 (by rw [← HX.out]; exact hge)
          rw [round_ref h0 h1, hc, if_pos hlt, HX.out]
        have HR := Lib.hid hr
        clear hr
        go_wp2_with fail
        go_ret2
        exact ⟨by rw [HR.out]; rfl, H1.out.1⟩
      · have hge' : ¬ x ≥ n := by omega
        go_wp2_with fail
        refine ⟨⟨k + 1, by omega, by go_num, by simp, fun j hjk => ?_⟩, by simp [intOf]; omega⟩
        by_cases hj2 : j < k
        · exact HA.out.1 j hj2
        · obtain rfl : j = k := by omega
          rw [← HX.out]
          omega
    · obtain rfl : k = 14 := by omega
      have hca := class_all hall
      have hr : roundD n = ((n + 255) / 256 * 256, true) := by rw [round_ref h0 h1, hca.1, if_neg (by omega)]
      have HR := Lib.hid (And.intro hr hca.2)
      clear hr hca hall
      go_wp2_with fail
      go_loopw [6] (fun m wz => ∃ q : Int, 5 ≤ q ∧ q ≤ 300 ∧ m = .int .i64 (256 * q) ∧ wz = wr ∧ (q = 5 ∨ 256 * q - 256 < n)) (fun m _ => (n - intOf m + 256).toNat)
      case atStart => exact ⟨5, by omega, by omega, rfl, by simp, .inl rfl⟩
      case round =>
        obtain ⟨q, hq1, hq2, rfl, rfl, hq3⟩ := hrel
        have hw : IntKind.i64.wrap (256 * q + 256) = 256 * q + 256 := IntWalk.i64_in _ (by omega)
        by_cases hlt2 : 256 * q < n
        · go_wp2_with fail
          exact ⟨⟨q + 1, by omega, by omega, by rw [show 256 * (q + 1) = 256 * q + 256 by omega], by simp, by omega⟩, by simp [intOf]; omega⟩
        · have e : (n + 255) / 256 * 256 = 256 * q := by have := HR.out.2; omega
          have HE := Lib.hid e
          clear e
          go_wp2_with fail
          go_ret2
          exact ⟨by rw [HR.out.1, HE.out]; rfl, H1.out.1⟩
end Go.Proofs.Ytpjlhkepdiajjaa


/- Package image: many (with slices.Max). -/
import Derived.Test.YtgfnpcoigooblaaImgC
set_option linter.all false
namespace Go.Proofs.Ytgfnpcoigooblaa
open Go.RowKit

def maxL (x : Int) (l : List Int) : Int := l.foldl (fun n y => max n y) x
theorem maxL_le (m : Int) : ∀ (l : List Int) (x : Int), maxL x l ≤ m ↔ x ≤ m ∧ ∀ y ∈ l, y ≤ m
  | [], x => by simp [maxL]
  | y :: l, x => by
    have := maxL_le m l (max x y)
    unfold maxL at this ⊢
    rw [List.foldl_cons, this]
    simp only [List.mem_cons, forall_eq_or_imp]
    constructor
    · rintro ⟨h1, h2⟩; exact ⟨by omega, by omega, h2⟩
    · rintro ⟨h1, h2, h3⟩; exact ⟨by omega, h3⟩
theorem maxL_take {x : Int} {l : List Int} {k : Nat} (hk : k < l.length) : maxL x (l.take (k + 1)) = max (maxL x (l.take k)) l[k] := by
  unfold maxL
  rw [List.take_add_one, List.getElem?_eq_getElem hk, List.foldl_append]
  simp
set_option maxHeartbeats 1000000 in
theorem max_any (A : Option Addr) (c : Nat) (x : Int) (l : List Int) (w : World) (hA : Arr w A ((x :: l).map (.int .i64 ·))) (hl : l.length ≤ 140737488351232) :
    Calls Try.prog 70 #[.slice A (l.length + 1) c] w fun e w' => e = .returned (.int .i64 (maxL x l)) ∧ w = w' := by
  obtain ⟨b1, o1, rfl, -, q1⟩ := hA.open (by simp)
  have x0 : w.cell? ⟨b1, o1, none⟩ = some (.int .i64 x) := by have := q1 0 (by simp); simpa using this
  have Q := Lib.hid q1
  clear q1 hA
  have hn : decide ((l.length : Int) + 1 < 1) = false := decide_eq_false (by omega)
  have hn2 : decide (((l.length + 1 : Nat) : Int) < 1) = false := decide_eq_false (by omega)
  have hpos : 0 < l.length + 1 := by omega
  go_enter Try.func70, Try.ntmps70
  go_wp2_with fail
  go_loop [3, 4] (fun s i => ∃ k : Nat, k ≤ l.length ∧ i = .int .i64 ((k : Int) + 1) ∧ s = .int .i64 (maxL x (l.take k))) (fun _ i => l.length + 1 - (intOf i).toNat)
  case atStart => exact ⟨0, Nat.zero_le _, rfl, rfl⟩
  case round =>
    obtain ⟨k, hk, rfl, rfl⟩ := hrel
    by_cases hlt : k < l.length
    · have x1 : w.cell? ⟨b1, o1 + (k + 1), none⟩ = some (.int .i64 l[k]) := by have := Q.out (k + 1) (by simp; omega); simpa using this
      have HM := Lib.hid (maxL_take (x := x) hlt)
      have hlt1 : (k : Int) + 1 < (l.length : Int) + 1 := by omega
      have hlt2 : k + 1 < l.length + 1 := by omega
      have hk0 : (0 : Int) ≤ (k : Int) + 1 := by omega
      have hkt : ((k : Int) + 1).toNat = k + 1 := by omega
      go_wp2_with fail
      go_round
      case rel => exact ⟨k + 1, by omega, by go_num, by rw [HM.out, Int.max_def]; congr 1; split <;> split <;> omega⟩
      case measure => simp [intOf]; omega
    · obtain rfl : k = l.length := by omega
      rw [List.take_length]
      go_wp2_with fail
      go_ret
      exact ⟨rfl, rfl⟩
def cntL (l : List LinkM) (k : Int) : Int := ((l.filter fun x => decide (x.fr = k)).length : Int)
theorem cntL_take {l : List LinkM} {i : Nat} (hi : i < l.length) (k : Int) : cntL (l.take (i + 1)) k = cntL (l.take i) k + if l[i].fr = k then 1 else 0 := by
  unfold cntL
  rw [List.take_add_one, List.getElem?_eq_getElem hi, List.filter_append, List.length_append]
  by_cases h : l[i].fr = k <;> simp [h]
theorem cntL_small (l : List LinkM) (i : Nat) (k : Int) : 0 ≤ cntL (l.take i) k ∧ cntL (l.take i) k ≤ i := by
  unfold cntL
  have := List.length_filter_le (fun x => decide (x.fr = k)) (l.take i)
  simp only [List.length_take] at this
  omega
theorem cntL_nil (k : Int) : cntL [] k = 0 := rfl
theorem many_eq (l : List LinkM) : decide (maxL (cntL l 0) [cntL l 1, cntL l 2, cntL l 3] ≤ 8) = manyOk l := by
  rw [Bool.eq_iff_iff, decide_eq_true_iff, maxL_le]
  unfold manyOk cntL
  simp [List.range_succ]
  omega
set_option maxHeartbeats 4000000 in
theorem many_any (A : Option Addr) (c : Nat) (l : List LinkM) (w : World) (hA : Arr w A (l.flatMap LinkM.cells)) (hfr : ∀ x ∈ l, 0 ≤ x.fr ∧ x.fr < 4) (hl : l.length ≤ 140737488351232) :
    Calls Try.prog 55 #[.slice A l.length c] w fun e w' => e = .returned (.bool (manyOk l)) ∧ Ext w w' := by
  have HFR := Lib.hid hfr
  clear hfr
  go_enter Try.func55, Try.ntmps55
  go_wp2_with fail
  go_loopw [8] (fun i wr => ∃ k : Nat, k ≤ l.length ∧ i = .int .i64 (k : Int) ∧ wr.heap[w.heap.size]? = some (.cells #[.int .i64 (cntL (l.take k) 0), .int .i64 (cntL (l.take k) 1), .int .i64 (cntL (l.take k) 2), .int .i64 (cntL (l.take k) 3)] 104) ∧ Ext w wr) (fun i _ => l.length - (intOf i).toNat)
  case atStart => exact ⟨0, Nat.zero_le _, rfl, by rw [List.take_zero, cntL_nil, cntL_nil, cntL_nil, cntL_nil]; exact heap_alloc_new w _, (by repeat first | (with_reducible exact Below.refl _ _) | (with_reducible apply Ext.alloc) | (with_reducible apply Ext.drew) | (with_reducible apply Ext.drewN) | (with_reducible refine Ext.set ?_ (by simp)))⟩
  case round =>
    obtain ⟨k, hk, rfl, hB, hE⟩ := hrel
    have c0 : wr.cell? ⟨w.heap.size, 0, none⟩ = some (.int .i64 (cntL (l.take k) 0)) := by simp [World.cell?, hB]
    have c1 : wr.cell? ⟨w.heap.size, 1, none⟩ = some (.int .i64 (cntL (l.take k) 1)) := by simp [World.cell?, hB]
    have c2 : wr.cell? ⟨w.heap.size, 2, none⟩ = some (.int .i64 (cntL (l.take k) 2)) := by simp [World.cell?, hB]
    have c3 : wr.cell? ⟨w.heap.size, 3, none⟩ = some (.int .i64 (cntL (l.take k) 3)) := by simp [World.cell?, hB]
    have f0 : wr.frozen? ⟨w.heap.size, 0, none⟩ = false := by simp [World.frozen?, hB]
    have f1 : wr.frozen? ⟨w.heap.size, 1, none⟩ = false := by simp [World.frozen?, hB]
    have f2 : wr.frozen? ⟨w.heap.size, 2, none⟩ = false := by simp [World.frozen?, hB]
    have f3 : wr.frozen? ⟨w.heap.size, 3, none⟩ = false := by simp [World.frozen?, hB]
    have hlb : w.heap.size < wr.heap.size := (Array.getElem?_eq_some_iff.1 hB).1
    have HB := Lib.hid hB
    clear hB
    by_cases hlt : k < l.length
    · obtain ⟨b1, o1, rfl, -, q1⟩ := (hA.ext hE).flat (s := 3) (fun _ => rfl) (by decide) hlt
      have x0 : wr.cell? ⟨b1, o1 + k * 3, none⟩ = some (.int .i64 l[k].fr) := by simpa using q1 0 _ rfl
      have x1 := q1 1 _ rfl
      have x2 := q1 2 _ rfl
      clear q1
      obtain ⟨s00, s01⟩ := cntL_small l k 0
      obtain ⟨s10, s11⟩ := cntL_small l k 1
      obtain ⟨s20, s21⟩ := cntL_small l k 2
      obtain ⟨s30, s31⟩ := cntL_small l k 3
      obtain ⟨r0, r1⟩ := HFR.out l[k] (List.getElem_mem hlt)
      have hcase : l[k].fr = 0 ∨ l[k].fr = 1 ∨ l[k].fr = 2 ∨ l[k].fr = 3 := by omega
      clear r0 r1
      rcases hcase with hj | hj | hj | hj
      · have hadd := cntL_take hlt 0
        have e0 : cntL (l.take (k + 1)) 0 = cntL (l.take k) 0 + 1 := by rw [cntL_take hlt, if_pos (by omega)]
        have e1 : cntL (l.take (k + 1)) 1 = cntL (l.take k) 1 + 0 := by rw [cntL_take hlt, if_neg (by omega)]
        have e2 : cntL (l.take (k + 1)) 2 = cntL (l.take k) 2 + 0 := by rw [cntL_take hlt, if_neg (by omega)]
        have e3 : cntL (l.take (k + 1)) 3 = cntL (l.take k) 3 + 0 := by rw [cntL_take hlt, if_neg (by omega)]
        have E := Lib.hid (And.intro e0 (And.intro e1 (And.intro e2 e3)))
        rw [hj] at x0
        clear hadd e0 e1 e2 e3 hj
        go_wp2_with fail
        refine ⟨⟨k + 1, by omega, by simp, ?_, (by repeat first | (with_reducible exact Below.refl _ _) | (with_reducible apply Ext.alloc) | (with_reducible apply Ext.drew) | (with_reducible apply Ext.drewN) | (with_reducible refine Ext.set ?_ (by simp)) | (with_reducible refine Ext.then ?_ hE))⟩, by simp [intOf]; omega⟩
        rw [Below.heap_alloc _ _ _ (by simp; exact hlb), heap_setCell_same wr w.heap.size 0 _ _ _ HB.out, E.out.1, E.out.2.1, E.out.2.2.1, E.out.2.2.2]
        simp
      · have hadd := cntL_take hlt 1
        have e0 : cntL (l.take (k + 1)) 0 = cntL (l.take k) 0 + 0 := by rw [cntL_take hlt, if_neg (by omega)]
        have e1 : cntL (l.take (k + 1)) 1 = cntL (l.take k) 1 + 1 := by rw [cntL_take hlt, if_pos (by omega)]
        have e2 : cntL (l.take (k + 1)) 2 = cntL (l.take k) 2 + 0 := by rw [cntL_take hlt, if_neg (by omega)]
        have e3 : cntL (l.take (k + 1)) 3 = cntL (l.take k) 3 + 0 := by rw [cntL_take hlt, if_neg (by omega)]
        have E := Lib.hid (And.intro e0 (And.intro e1 (And.intro e2 e3)))
        rw [hj] at x0
        clear hadd e0 e1 e2 e3 hj
        go_wp2_with fail
        refine ⟨⟨k + 1, by omega, by simp, ?_, (by repeat first | (with_reducible exact Below.refl _ _) | (with_reducible apply Ext.alloc) | (with_reducible apply Ext.drew) | (with_reducible apply Ext.drewN) | (with_reducible refine Ext.set ?_ (by simp)) | (with_reducible refine Ext.then ?_ hE))⟩, by simp [intOf]; omega⟩
        rw [Below.heap_alloc _ _ _ (by simp; exact hlb), heap_setCell_same wr w.heap.size 1 _ _ _ HB.out, E.out.1, E.out.2.1, E.out.2.2.1, E.out.2.2.2]
        simp
      · have hadd := cntL_take hlt 2
        have e0 : cntL (l.take (k + 1)) 0 = cntL (l.take k) 0 + 0 := by rw [cntL_take hlt, if_neg (by omega)]
        have e1 : cntL (l.take (k + 1)) 1 = cntL (l.take k) 1 + 0 := by rw [cntL_take hlt, if_neg (by omega)]
        have e2 : cntL (l.take (k + 1)) 2 = cntL (l.take k) 2 + 1 := by rw [cntL_take hlt, if_pos (by omega)]
        have e3 : cntL (l.take (k + 1)) 3 = cntL (l.take k) 3 + 0 := by rw [cntL_take hlt, if_neg (by omega)]
        have E := Lib.hid (And.intro e0 (And.intro e1 (And.intro e2 e3)))
        rw [hj] at x0
        clear hadd e0 e1 e2 e3 hj
        go_wp2_with fail
        refine ⟨⟨k + 1, by omega, by simp, ?_, (by repeat first | (with_reducible exact Below.refl _ _) | (with_reducible apply Ext.alloc) | (with_reducible apply Ext.drew) | (with_reducible apply Ext.drewN) | (with_reducible refine Ext.set ?_ (by simp)) | (with_reducible refine Ext.then ?_ hE))⟩, by simp [intOf]; omega⟩
        rw [Below.heap_alloc _ _ _ (by simp; exact hlb), heap_setCell_same wr w.heap.size 2 _ _ _ HB.out, E.out.1, E.out.2.1, E.out.2.2.1, E.out.2.2.2]
        simp
      · have hadd := cntL_take hlt 3
        have e0 : cntL (l.take (k + 1)) 0 = cntL (l.take k) 0 + 0 := by rw [cntL_take hlt, if_neg (by omega)]
        have e1 : cntL (l.take (k + 1)) 1 = cntL (l.take k) 1 + 0 := by rw [cntL_take hlt, if_neg (by omega)]
        have e2 : cntL (l.take (k + 1)) 2 = cntL (l.take k) 2 + 0 := by rw [cntL_take hlt, if_neg (by omega)]
        have e3 : cntL (l.take (k + 1)) 3 = cntL (l.take k) 3 + 1 := by rw [cntL_take hlt, if_pos (by omega)]
        have E := Lib.hid (And.intro e0 (And.intro e1 (And.intro e2 e3)))
        rw [hj] at x0
        clear hadd e0 e1 e2 e3 hj
        go_wp2_with fail
        refine ⟨⟨k + 1, by omega, by simp, ?_, (by repeat first | (with_reducible exact Below.refl _ _) | (with_reducible apply Ext.alloc) | (with_reducible apply Ext.drew) | (with_reducible apply Ext.drewN) | (with_reducible refine Ext.set ?_ (by simp)) | (with_reducible refine Ext.then ?_ hE))⟩, by simp [intOf]; omega⟩
        rw [Below.heap_alloc _ _ _ (by simp; exact hlb), heap_setCell_same wr w.heap.size 3 _ _ _ HB.out, E.out.1, E.out.2.1, E.out.2.2.1, E.out.2.2.2]
        simp
    · obtain rfl : k = l.length := by omega
      rw [List.take_length] at c0 c1 c2 c3
      go_wp2_with fail
      refine (max_any (some ⟨w.heap.size, 0, none⟩) 4 (cntL l 0) [cntL l 1, cntL l 2, cntL l 3] wr ?_ (by simp)).mono ?_
      · have hB := HB.out
        rw [List.take_length] at hB
        exact arr_lit (cs := [.int .i64 (cntL l 0), .int .i64 (cntL l 1), .int .i64 (cntL l 2), .int .i64 (cntL l 3)]) hB
      · rintro e w2 ⟨rfl, rfl⟩
        have HM := Lib.hid (many_eq l)
        go_wp2_with fail
        go_ret
        exact ⟨ret_bool HM.out, hE⟩
end Go.Proofs.Ytgfnpcoigooblaa

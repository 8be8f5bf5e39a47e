/- Package seizinref12: what a Free is in memory; New, Runs, All, Most. -/
import Derived.Test.YtipnkjegiiphnaaExtE
import Derived.Test.YtipnkjegiiphnaaRefP
import Derived.Test.YtipnkjegiiphnaaPhi3
import Derived.Laws.NewBlocks
set_option linter.all false
namespace Go.Proofs.Ytipnkjegiiphnaa
open Go.RowKit

structure RefAt (w : World) (q : Nat) (a : Int) (g : Nat) (F : List Bool) : Prop where
  blk : w.heap[q]? = some (.cells #[.int .i64 a, .slice (some ⟨g, 0, none⟩) F.length F.length] 50)
  row : w.heap[g]? = some (.cells (F.map Value.bool).toArray 4)
theorem RefAt.ext {w w' : World} {q : Nat} {a : Int} {g : Nat} {F : List Bool} (h : RefAt w q a g F) (he : Ext w w') : RefAt w' q a g F :=
  ⟨(he.block q (Array.getElem?_eq_some_iff.1 h.blk).1).trans h.blk, (he.block g (Array.getElem?_eq_some_iff.1 h.row).1).trans h.row⟩
theorem RefAt.lt {w : World} {q : Nat} {a : Int} {g : Nat} {F : List Bool} (h : RefAt w q a g F) : q < w.heap.size ∧ g < w.heap.size := ⟨(Array.getElem?_eq_some_iff.1 h.blk).1, (Array.getElem?_eq_some_iff.1 h.row).1⟩
theorem RefAt.c0 {w : World} {q : Nat} {a : Int} {g : Nat} {F : List Bool} (h : RefAt w q a g F) : w.cell? ⟨q, 0, none⟩ = some (.int .i64 a) := by simp [World.cell?, h.blk]
theorem RefAt.c1 {w : World} {q : Nat} {a : Int} {g : Nat} {F : List Bool} (h : RefAt w q a g F) : w.cell? ⟨q, 1, none⟩ = some (.slice (some ⟨g, 0, none⟩) F.length F.length) := by simp [World.cell?, h.blk]
theorem RefAt.at {w : World} {q : Nat} {a : Int} {g : Nat} {F : List Bool} (h : RefAt w q a g F) {i : Nat} (hi : i < F.length) : w.cell? ⟨g, i, none⟩ = some (.bool F[i]) := by simp [World.cell?, h.row, hi]
theorem RefAt.free {w : World} {q : Nat} {a : Int} {g : Nat} {F : List Bool} (h : RefAt w q a g F) {i : Nat} : w.frozen? ⟨g, i, none⟩ = false := by simp [World.frozen?, h.row]
theorem RefAt.ne {w : World} {q : Nat} {a : Int} {g : Nat} {F : List Bool} (h : RefAt w q a g F) : q ≠ g := by
  rintro rfl
  have := h.blk
  rw [h.row] at this
  simp at this
theorem RefAt.set {w : World} {q : Nat} {a : Int} {g : Nat} {F : List Bool} (h : RefAt w q a g F) {i : Nat} (hi : i < F.length) (b : Bool) : RefAt (w.setCell ⟨g, i, none⟩ (.bool b)) q a g (F.set i b) := by
  refine ⟨?_, ?_⟩
  · rw [Below.heap_setCell w ⟨g, i, none⟩ (.bool b) q h.ne, List.length_set]
    exact h.blk
  · rw [heap_setCell_same w g i _ _ _ h.row]
    simp [List.map_set]
theorem RefAt.drew {w : World} {q : Nat} {a : Int} {g : Nat} {F : List Bool} (h : RefAt w q a g F) (n : Nat) : RefAt (w.drewN n) q a g F := ⟨h.blk, h.row⟩

set_option maxHeartbeats 4000000 in
theorem ref_no (a b : Int) (w : World) (h : ¬ mayBe a b) : Calls Try.prog 10 #[.int .i64 a, .int .i64 b] w fun e w' => e = .returned (.pointer none) ∧ Ext w w' := by
  unfold mayBe at h
  go_enter Try.func10, Try.ntmps10
  go_wp2_with fail
  all_goals first
    | (go_ret; exact ⟨rfl, (by repeat first | (with_reducible exact Below.refl _ _) | (with_reducible apply Ext.alloc) | (with_reducible apply Ext.drew) | (with_reducible apply Ext.drewN) | (with_reducible refine Ext.set ?_ (by simp)))⟩)
    | (exfalso; simp only [tmod_zero] at *; omega)
theorem infoBool : (Try.prog.info? 4).map (fun i => (i.zero, i.size, i.bytes)) = some (some (.bool false), 1, 1) := by kernel_rfl
theorem made_bools (k : Nat) : madeCells #[Value.bool false] (k * 1) = ((List.replicate k false).map Value.bool).toArray := by
  apply Array.ext
  · simp [madeCells]
  · intro i h1 h2
    simp [madeCells, Nat.mod_one]
theorem make_bools (w : World) (k : Nat) (hk : k ≤ 2000000) : (Instr.makeSlice 43 (.int .i64 (k : Int)) (.int .i64 (k : Int))).run Try.prog w = .ok (.slice (some ⟨w.heap.size, 0, none⟩) k k) (w.alloc (.cells ((List.replicate k false).map Value.bool).toArray 4)) := by
  obtain ⟨i0, hi, hz0, hz1, hz2⟩ := info_parts infoBool
  have h := run_makeSlice (P := Try.prog) w 43 4 i0 (.bool false) Try.underlying43 hi hz0 .i64 .i64 (k : Int) (k : Int) (by omega) (Int.le_refl _) (by rw [hz1]; simp; omega) (by rw [hz2]; omega) (by omega)
  rw [h, hz1]
  simp only [Int.toNat_natCast]
  rw [show (Value.bool false).cells = #[Value.bool false] from rfl, made_bools]
set_option maxHeartbeats 4000000 in
theorem ref_yes (a b : Int) (w : World) (h : mayBe a b) : Calls Try.prog 10 #[.int .i64 a, .int .i64 b] w fun e w' => Ext w w' ∧ ∃ q g F, e = .returned (.pointer (some ⟨q, 0, none⟩)) ∧ RefAt w' q a g F ∧ Rep a F (startR a b) ∧ b = a + 16 * F.length ∧ w.heap.size ≤ q ∧ w.heap.size ≤ g := by
  obtain ⟨k, hk⟩ : ∃ k : Nat, 16 * (k : Int) = b - a := ⟨((b - a) / 16).toNat, by have := h; unfold mayBe at this; omega⟩
  have hR := rep_start h k hk
  obtain ⟨h1, h2, h3, h4, h5⟩ := h
  have t1 : a.tmod 16 = 0 := tmod_zero.2 h1
  have t2 : b.tmod 16 = 0 := tmod_zero.2 h2
  have hk2 : k ≤ 2000000 := by omega
  have hdiv : (b - a) / 16 = (k : Int) := by omega
  have hmk := fun w => make_bools w k hk2
  have HK := Lib.hid hk
  clear hk
  obtain ⟨F0, hF0⟩ : ∃ F0, F0 = List.replicate k false := ⟨_, rfl⟩
  have hl0 : F0.length = k := by rw [hF0, List.length_replicate]
  have HF0 := Lib.hid hF0
  have hlen : ∀ j, (setR F0 0 true j).length = k := fun j => by rw [setR_len, hl0]
  have HL := Lib.hid hlen
  have HL0 := Lib.hid hl0
  clear hF0 hlen hl0
  go_enter Try.func10, Try.ntmps10
  go_wp2_with fail
  go_loopw [6] (fun i wr => ∃ j : Nat, j ≤ k ∧ i = .int .i64 (j : Int) ∧ RefAt wr (w.heap.size + 1) a w.heap.size (setR F0 0 true j) ∧ Ext w wr) (fun i _ => k - (intOf i).toNat)
  case atStart =>
    refine ⟨0, Nat.zero_le _, rfl, ⟨?_, ?_⟩, (by repeat first | (with_reducible exact Below.refl _ _) | (with_reducible apply Ext.alloc) | (with_reducible apply Ext.drew) | (with_reducible apply Ext.drewN) | (with_reducible refine Ext.set ?_ (by simp)))⟩
    · rw [setR, HL0.out]
      have := heap_alloc_new (w.alloc (.cells (Array.replicate k (Value.bool false)) 4)) (.cells #[Value.int .i64 a, Value.slice (some ⟨w.heap.size, 0, none⟩) k k] 50)
      simpa using this
    · rw [setR, HF0.out, Below.heap_alloc _ _ _ (by simp), heap_alloc_new]
      simp
  case round =>
    obtain ⟨j, hj, rfl, hA, hE⟩ := hrel
    have c1 := hA.c1
    rw [HL.out] at c1
    by_cases hlt : j < k
    · have x0 := hA.at (show j < (setR F0 0 true j).length by rw [HL.out]; exact hlt)
      have xf := hA.free (i := j)
      have hS := hA.set (show j < (setR F0 0 true j).length by rw [HL.out]; exact hlt) true
      have hE2 := Ext.set (p := ⟨w.heap.size, j, none⟩) (u := .bool true) hE (Nat.le_refl _)
      have HS := Lib.hid hS
      clear hS
      go_wp2_with fail
      exact ⟨⟨j + 1, by omega, by simp, by rw [setR, Nat.zero_add]; exact HS.out, hE2⟩, by simp [intOf]; omega⟩
    · obtain rfl : j = k := by omega
      have hfull : setR F0 0 true j = List.replicate j true := by
        apply List.ext_getElem
        · rw [HL.out, List.length_replicate]
        · intro i h1 h2
          rw [setR_get F0 0 true j (by rw [HL0.out]; omega) i h1, List.getElem_replicate, if_pos (by rw [HL.out] at h1; omega)]
      rw [hfull] at hA
      go_wp2_with fail
      go_ret
      exact ⟨hE, _, _, _, rfl, hA, hR, by rw [List.length_replicate]; have := HK.out; omega, by omega, Nat.le_refl _⟩
set_option maxHeartbeats 4000000 in
theorem ref_all (q : Nat) (a : Int) (g : Nat) (F : List Bool) (R : List Run) (w : World) (h : RefAt w q a g F) (hR : Rep a F R) (hl : F.length ≤ 1100000) : Calls Try.prog 16 #[.pointer (some ⟨q, 0, none⟩)] w fun e w' => e = .returned (.int .i64 (sumR R)) ∧ Ext w w' := by
  rw [← cnt_sum hR]
  have c0 := h.c0
  have c1 := h.c1
  go_enter Try.func16, Try.ntmps16
  go_wp2_with fail
  go_loop [3, 4] (fun s i => ∃ k : Nat, k ≤ F.length ∧ i = .int .i64 (k : Int) ∧ s = .int .i64 (cntF (F.take k))) (fun _ i => F.length - (intOf i).toNat)
  case atStart => exact ⟨0, Nat.zero_le _, rfl, rfl⟩
  case round =>
    obtain ⟨k, hk, rfl, rfl⟩ := hrel
    by_cases hlt : k < F.length
    · have x0 := h.at hlt
      have hc : cntF (F.take (k + 1)) = cntF (F.take k) + (if F[k] = true then 16 else 0) := by
        unfold cntF
        rw [List.take_add_one, List.getElem?_eq_getElem hlt]
        cases F[k] <;> simp <;> omega
      have hb : 0 ≤ cntF (F.take k) ∧ cntF (F.take k) ≤ 16 * k := by
        unfold cntF
        have := List.count_le_length (a := true) (l := F.take k)
        simp at this
        omega
      obtain ⟨v, hv⟩ : ∃ v, v = F[k] := ⟨_, rfl⟩
      rw [← hv] at x0 hc
      clear hv
      cases v with
      | true =>
        have HC := Lib.hid hc
        clear hc
        go_wp2_with fail
        go_round
        case rel => exact ⟨k + 1, by omega, by go_num, by rw [HC.out]; rfl⟩
        case measure => simp [intOf]; omega
      | false =>
        have HC := Lib.hid hc
        clear hc
        go_wp2_with fail
        go_round
        case rel => exact ⟨k + 1, by omega, by go_num, by rw [HC.out]; go_num⟩
        case measure => simp [intOf]; omega
    · obtain rfl : k = F.length := by omega
      rw [List.take_length]
      go_wp2_with fail
      go_ret
      exact ⟨rfl, Below.refl _ _⟩
end Go.Proofs.Ytipnkjegiiphnaa


/- A heap while a statement runs. -/
import Derived.Test.YtpjlhkepdiajjaaHeapQ
import Derived.Test.YtpjlhkepdiajjaaHeapF
import Derived.Test.YtpjlhkepdiajjaaHeapG
import Derived.Test.YtpjlhkepdiajjaaHeapH
import Derived.Test.YtpjlhkepdiajjaaHeapK
set_option linter.all false
namespace Go.Proofs.Ytpjlhkepdiajjaa
open Go.RowKit Go.Shelf
attribute [local go_sem] seen dstOf boolOf

abbrev turnT : List TypeId := [94, 91, 106, 86, 96, 79]
/-- Rows of other types are as they were. -/
structure Calm (w w' : World) : Prop where
  size : w.heap.size ≤ w'.heap.size
  row : ∀ (k : Nat) (C : Array Value) (t : TypeId) (f : Nat × Nat), w.heap[k]? = some (.cells C t f) → t ∉ turnT → w'.heap[k]? = some (.cells C t f)
theorem Calm.ext {w w' : World} (e : Ext w w') : Calm w w' := ⟨e.size, fun k C t f h _ => (e.block _ (Array.getElem?_eq_some_iff.1 h).1).trans h⟩
theorem Calm.trans {a b c : World} (h : Calm a b) (k : Calm b c) : Calm a c := ⟨Nat.le_trans h.size k.size, fun j C t f hj ht => k.row j C t f (h.row j C t f hj ht) ht⟩
theorem Calm.step {w w' : World} {hp : Nat} {B B' : HeapB} {X : HeapD} (h : HStep B B' w w') (hH : HeapAt w hp B X) : Calm w w' := ⟨h.foot.size, fun _ _ _ _ hk ht => h.row hH hk ht⟩
theorem Calm.own {w w' : World} (h : Calm w w') {base n : Nat} {t : TypeId} {sz : Nat} {v : Value} {xs : List Value} (ho : w.ownsRow base t sz v n xs) (ht : t ∉ turnT) : w'.ownsRow base t sz v n xs := by
  obtain ⟨hl, ho⟩ := ho
  refine ⟨hl, ?_⟩
  rcases ho with ho | ⟨g, cap, cur, h1, h2, h3, h4⟩
  · exact .inl ho
  · exact .inr ⟨g, cap, cur, h1, h2, h.row _ _ _ _ h3 ht, h4⟩
/-- A heap that was made behind the beginning. -/
def RunAt (w0 : World) (hp s : Nat) (X : HeapD) (W : World) : Prop := ∃ B, HeapAt W hp B X ∧ B.fresh w0.heap.size ∧ Ext w0 W ∧ B.s = s
section
variable {w0 W W' : World} {hp s : Nat} {X : HeapD}
theorem RunAt.ext (h : RunAt w0 hp s X W) (e : Ext W W') : RunAt w0 hp s X W' := by
  obtain ⟨B, h1, h2, h3, h4⟩ := h
  exact ⟨B, h1.ext e, h2, h3.then e, h4⟩
theorem RunAt.from (h : RunAt w0 hp s X W) : Ext w0 W := by
  obtain ⟨B, h1, h2, h3, h4⟩ := h
  exact h3
theorem RunAt.lt (h : RunAt w0 hp s X W) : hp < W.heap.size := by
  obtain ⟨B, h1, h2, h3, h4⟩ := h
  exact h1.lt
/-- .. while another row is written. -/
theorem RunAt.only {B0 : Nat} {T : List TypeId} (h : RunAt w0 hp s X W) (k : Only B0 T W W') (hB : w0.heap.size ≤ B0) (hT : ∀ t ∈ [59, 94, 91, 67, 106, 86, 96, 79, 77], t ∉ T) : RunAt w0 hp s X W' := by
  obtain ⟨B, h1, h2, h3, h4⟩ := h
  exact ⟨B, h1.only (k.mono (Nat.zero_le _) (fun _ ht => ht)) hT, h2, Only.below h3 hB k, h4⟩
theorem RunAt.step {B B' : HeapB} {X' : HeapD} (h1 : HeapAt W hp B X) (h2 : B.fresh w0.heap.size) (h3 : Ext w0 W) (h4 : B.s = s) (k1 : HeapAt W' hp B' X') (k2 : HStep B B' W W') : RunAt w0 hp s X' W' :=
  ⟨B', k1, k2.fresh h2 h3.size, k2.below h2 h3, k2.s.trans h4⟩
theorem alloc_run (h : RunAt w0 hp s X W) (ok : HeapOk X) (n : Int) (hn : i64ok' n) : Calls Try.prog 15 #[.pointer (some ⟨hp, 0, none⟩), .int .i64 n] W fun e w' => e = .returned (.tuple #[(allocD X n).2.1.val, .int .i64 (allocD X n).2.2]) ∧ RunAt w0 hp s (allocD X n).1 w' ∧ Calm W w' := by
  obtain ⟨B, h1, h2, h3, h4⟩ := h
  exact (alloc_any hp B X n W h1 ok hn).mono fun e w' h => ⟨h.1, by obtain ⟨-, B', k1, k2⟩ := h; exact ⟨RunAt.step h1 h2 h3 h4 k1 k2, Calm.step k2 h1⟩⟩
theorem free_run (h : RunAt w0 hp s X W) (ok : HeapOk X) (c : Cap) (hc : CapWf c) : Calls Try.prog 12 #[.pointer (some ⟨hp, 0, none⟩), c.val] W fun e w' => e = .returned (.int .i64 (ofD X.L c).1) ∧ RunAt w0 hp s (freeD X c) w' ∧ Calm W w' := by
  obtain ⟨B, h1, h2, h3, h4⟩ := h
  exact (free_any hp B X c W h1 ok hc).mono fun e w' h => ⟨h.1, by obtain ⟨-, B', k1, k2⟩ := h; exact ⟨RunAt.step h1 h2 h3 h4 k1 k2, Calm.step k2 h1⟩⟩
theorem begin_run (h : RunAt w0 hp s X W) (ok : HeapOk X) : Calls Try.prog 13 #[.pointer (some ⟨hp, 0, none⟩)] W fun e w' => e = .returned (.bool (beginB X.time)) ∧ RunAt w0 hp s (beginD X) w' ∧ Calm W w' := by
  obtain ⟨B, h1, h2, h3, h4⟩ := h
  exact (hbegin_any hp B X W h1 ok).mono fun e w' h => ⟨h.1, by obtain ⟨-, k1, k2⟩ := h; exact ⟨RunAt.step h1 h2 h3 h4 k1 k2, Calm.step k2 h1⟩⟩
theorem end_run (h : RunAt w0 hp s X W) (ok : HeapOk X) : Calls Try.prog 14 #[.pointer (some ⟨hp, 0, none⟩)] W fun e w' => e = .returned (.bool (runsB X.time)) ∧ RunAt w0 hp s (endD X) w' ∧ Calm W w' := by
  obtain ⟨B, h1, h2, h3, h4⟩ := h
  exact (hend_any hp B X W h1 ok).mono fun e w' h => ⟨h.1, by obtain ⟨-, B', k1, k2⟩ := h; exact ⟨RunAt.step h1 h2 h3 h4 k1 k2, Calm.step k2 h1⟩⟩
theorem size_run (h : RunAt w0 hp s X W) (ok : HeapOk X) (c : Cap) (hc : CapWf c) : Calls Try.prog 16 #[.pointer (some ⟨hp, 0, none⟩), c.val] W fun e w' => e = .returned (.tuple #[.int .i64 (sizeD X.L c).1, .int .i64 (sizeD X.L c).2]) ∧ Ext W w' := by
  obtain ⟨B, h1, h2, h3, h4⟩ := h
  exact hsize_any hp B X c W h1 hc ok.small
theorem left_run (h : RunAt w0 hp s X W) : Calls Try.prog 18 #[.pointer (some ⟨hp, 0, none⟩)] W fun e w' => e = .returned (.int .i64 (sumR X.R)) ∧ Ext W w' := by
  obtain ⟨B, h1, h2, h3, h4⟩ := h
  exact left_any hp B X W h1
theorem apart_run (h : RunAt w0 hp s X W) : Calls Try.prog 21 #[.pointer (some ⟨hp, 0, none⟩)] W fun e w' => e = .returned (.int .i64 (sumN X.Q)) ∧ Ext W w' := by
  obtain ⟨B, h1, h2, h3, h4⟩ := h
  exact apart_any hp B X W h1
theorem wants_run (h : RunAt w0 hp s X W) (ok : HeapOk X) : Calls Try.prog 22 #[.pointer (some ⟨hp, 0, none⟩)] W fun e w' => e = .returned (.bool (wantsD X)) ∧ Ext W w' := by
  obtain ⟨B, h1, h2, h3, h4⟩ := h
  exact wants_any hp B X W h1 ok.time.1 (Int.le_trans ok.time.2 (by decide))
theorem live_run (h : RunAt w0 hp s X W) (ok : HeapOk X) : Calls Try.prog 20 #[.pointer (some ⟨hp, 0, none⟩)] W fun e w' => e = .returned (.tuple #[.int .i64 (X.L.length : Int), .int .i64 (sumT X.L)]) ∧ Ext W w' := by
  obtain ⟨B, h1, h2, h3, h4⟩ := h
  exact live_any hp B X W h1 ok
theorem many_run (h : RunAt w0 hp s X W) : Calls Try.prog 25 #[.pointer (some ⟨s, 0, none⟩)] W fun e w' => e = .returned (.int .i64 (manyW X.ws X.G : Nat)) ∧ Ext W w' := by
  obtain ⟨B, h1, h2, h3, rfl⟩ := h
  exact many_any B.s B.wb X.G X.ws W h1.shad
/-- The clock, for what asks it by itself. -/
theorem RunAt.clock (h : RunAt w0 hp s X W) : ∃ c, W.cell? ⟨hp, 8, none⟩ = some (.pointer (some ⟨c, 0, none⟩)) ∧ ClockAt W c X.time := by
  obtain ⟨B, h1, h2, h3, h4⟩ := h
  exact ⟨B.c, cellAt h1.blk 8 _ rfl, h1.clk⟩
theorem new_run {w : World} (root : Cap) (s wb G : Nat) (ws : List Nat) (full : Int) (e0 : Ext w0 w) (hwb : w0.heap.size ≤ wb) (hS : ShadAt w s wb G ws) (hw : CapWf root) (ok : newOk root full) : Calls Try.prog 11 #[root.val, .pointer (some ⟨s, 0, none⟩), .int .i64 full] w fun e w' => Ext w w' ∧ ∃ hp, e = .returned (.pointer (some ⟨hp, 0, none⟩)) ∧ RunAt w0 hp s (startD root full G ws) w' :=
  (newH_yes root s wb G ws full w hS hw ok).mono fun e w' h => by
    obtain ⟨h1, hp, B, h2, h3, h4, h5, h6⟩ := h
    exact ⟨h1, hp, h2, B, h3, h6 _ e0.size hwb, e0.then h1, h4⟩
end
theorem only_gr {W W' : World} {q B0 : Nat} {C : Array Value} {t : TypeId} {f : Nat × Nat} (hq : W.heap[q]? = some (.cells C t f)) (hB : B0 ≤ q) (g : W.grownBy W' (some q)) : Only B0 [t] W W' :=
  ⟨g.os, g.tape, g.output, g.size, fun k o hk hc => (g.block k (Array.getElem?_eq_some_iff.1 hk).1 (fun e => by
    simp only [Option.some.injEq] at e
    subst e
    rw [hq] at hk
    cases hk
    rcases hc with hc | hc
    · omega
    · exact hc _ _ _ rfl (by simp))).trans hk⟩
/-- Root. -/
def rootC (f g : Int) : Cap := ⟨true, f, f + 16 * g, f, 31, 0⟩
set_option maxRecDepth 20000 in
theorem root_any (f g : Int) (w : World) (hf : 0 ≤ f ∧ f ≤ 1099511627776) (hg : 0 ≤ g ∧ g ≤ 1099511627776) : Calls Try.prog 10 #[.int .i64 f, .int .i64 g] w fun e w' => e = .returned (rootC f g).val ∧ Ext w w' := by
  have h1 : IntKind.i64.wrap (16 * g) = 16 * g := IntWalk.i64_in _ (by omega)
  have h2 : IntKind.i64.wrap (f + 16 * g) = f + 16 * g := IntWalk.i64_in _ (by omega)
  go_enter Try.func10, Try.ntmps10
  go_wp2_with fail
  refine bodyPost_ret (v := (rootC f g).val) (by simp [results, Try.results10, go_sem, rootC]) rfl ⟨rfl, (by repeat first | (with_reducible exact Below.refl _ _) | (with_reducible apply Ext.alloc) | (with_reducible apply Ext.drew) | (with_reducible apply Ext.drewN) | (with_reducible refine Ext.set ?_ (by simp)))⟩
end Go.Proofs.Ytpjlhkepdiajjaa

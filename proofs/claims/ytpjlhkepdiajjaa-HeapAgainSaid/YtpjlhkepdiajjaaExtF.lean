
/- Package extent: New, Take. -/
import Derived.Test.YtpjlhkepdiajjaaExtE
set_option linter.all false
namespace Go.Proofs.Ytpjlhkepdiajjaa
open Go.RowKit

/-- May memory be from a up to b? -/
def mayBe (a b : Int) : Prop := a % 16 = 0 ∧ b % 16 = 0 ∧ 0 ≤ a ∧ a ≤ b ∧ b ≤ 16777216
instance (a b : Int) : Decidable (mayBe a b) := by unfold mayBe; infer_instance
def startR (a b : Int) : List Run := if a < b then [(a, b)] else []

theorem tmod_pos {n : Int} (h : 0 ≤ n) : n.tmod 16 = n % 16 := by rw [Int.tmod_eq_emod_of_nonneg h]
theorem tmod_zero {n : Int} : (n.tmod 16 = 0) ↔ (n % 16 = 0) :=
  ⟨fun h => Int.emod_eq_zero_of_dvd (Int.dvd_of_tmod_eq_zero h), fun h => Int.tmod_eq_zero_of_dvd (Int.dvd_of_emod_eq_zero h)⟩

set_option maxHeartbeats 4000000 in
theorem new_no (a b : Int) (w : World) (h : ¬ mayBe a b) : Calls Try.prog 27 #[.int .i64 a, .int .i64 b] w fun e w' => e = .returned (.pointer none) ∧ Ext w w' := by
  unfold mayBe at h
  go_enter Try.func27, Try.ntmps27
  go_wp2_with fail
  all_goals first
    | (go_ret; exact ⟨rfl, (by repeat first | (with_reducible exact Below.refl _ _) | (with_reducible apply Ext.alloc) | (with_reducible apply Ext.drew) | (with_reducible apply Ext.drewN) | (with_reducible refine Ext.set ?_ (by simp)))⟩)
    | (exfalso; simp only [tmod_zero] at *; omega)
set_option maxHeartbeats 4000000 in
theorem new_yes (a b : Int) (w : World) (h : mayBe a b) : Calls Try.prog 27 #[.int .i64 a, .int .i64 b] w fun e w' => Ext w w' ∧ ∃ p v, e = .returned (.pointer (some ⟨p, 0, none⟩)) ∧ FreeAt w' p a b v w.heap.size (startR a b) := by
  obtain ⟨h1, h2, h3, h4, h5⟩ := h
  have t1 : a.tmod 16 = 0 := tmod_zero.2 h1
  have t2 : b.tmod 16 = 0 := tmod_zero.2 h2
  have h6 : ¬ (a < 0) := by omega
  have h7 : ¬ (b < a) := by omega
  have h8 : ¬ (16777216 < b) := by omega
  go_enter Try.func27, Try.ntmps27
  go_wp2_with fail
  · have hlt : a < b := by assumption
    go_ret
    have hs : startR a b = [(a, b)] := by unfold startR; rw [if_pos hlt]
    rw [hs]
    refine ⟨(by repeat first | (with_reducible exact Below.refl _ _) | (with_reducible apply Ext.alloc) | (with_reducible apply Ext.drew) | (with_reducible apply Ext.drewN) | (with_reducible refine Ext.set ?_ (by simp))), w.heap.size, rfl, _, ⟨(Go.heap_alloc_old _ _ (by simp)).trans (heap_alloc_new _ _), ⟨rfl, .inr ⟨w.heap.size + 1, 1, #[.int .i64 a, .int .i64 b], rfl, by omega, ?_, by simp, by simp [maxLen], rfl, rfl⟩⟩, Nat.le_refl _, ?_, by simp, h3, h4, h5⟩⟩
    · have := heap_alloc_new (w.alloc (.cells #[.int .i64 a, .int .i64 b, .slice (some ⟨w.heap.size + 1, 0, none⟩) 1 1] 94)) (.cells #[.int .i64 a, .int .i64 b] 91)
      simpa using this
    · intro r hr
      simp only [List.mem_singleton] at hr
      subst hr
      exact ⟨h3, by simp only; omega, by simp only; omega, h5⟩
  · have hle : b ≤ a := by assumption
    go_ret
    have hs : startR a b = [] := by unfold startR; rw [if_neg (by omega)]
    rw [hs]
    exact ⟨(by repeat first | (with_reducible exact Below.refl _ _) | (with_reducible apply Ext.alloc) | (with_reducible apply Ext.drew) | (with_reducible apply Ext.drewN) | (with_reducible refine Ext.set ?_ (by simp))), w.heap.size, rfl, _, ⟨heap_alloc_new _ _, World.ownsRow_nil _ _ _ _, Nat.le_refl _, fun r hr => by simp at hr, by simp, h3, h4, h5⟩⟩

/-- What a Take comes to. -/
def fitsR (n : Int) (r : Run) : Bool := decide (n ≤ r.2 - r.1)
def takeR (R : List Run) (n : Int) : List Run × Int × Bool :=
  if n < 1 ∨ n % 16 ≠ 0 then (R, 0, false) else
  match R.findIdx? (fitsR n) with
  | none => (R, 0, false)
  | some i => (if (R.getD i (0, 0)).1 + n = (R.getD i (0, 0)).2 then R.eraseIdx i else R.set i ((R.getD i (0, 0)).1 + n, (R.getD i (0, 0)).2), (R.getD i (0, 0)).1, true)

def TakePost (p : Nat) (a b : Int) (v : Value) (base : Nat) (R : List Run) (n : Int) (w : World) (e : Ending) (w' : World) : Prop :=
  e = .returned (.tuple #[.int .i64 (takeR R n).2.1, .bool (takeR R n).2.2]) ∧ ∃ v', FreeAt w' p a b v' base (takeR R n).1 ∧ Kept p v.ownBlock w w' ∧ v'.ownBlock = v.ownBlock

set_option maxHeartbeats 4000000 in
theorem take_bad (p : Nat) (a b : Int) (v : Value) (base : Nat) (R : List Run) (n : Int) (w : World) (h : FreeAt w p a b v base R) (hn : n < 1 ∨ n % 16 ≠ 0) :
    Calls Try.prog 40 #[.pointer (some ⟨p, 0, none⟩), .int .i64 n] w (TakePost p a b v base R n w) := by
  have ht : takeR R n = (R, 0, false) := by unfold takeR; rw [if_pos hn]
  have hp := h.lt
  have H := Lib.hid h
  clear h
  go_enter Try.func40, Try.ntmps40
  unfold TakePost
  rw [ht]
  by_cases h1 : n < 1
  · go_wp2_with fail
    go_ret2
    exact ⟨rfl, v, H.out.ext (by repeat first | (with_reducible exact Below.refl _ _) | (with_reducible apply Ext.alloc) | (with_reducible apply Ext.drew) | (with_reducible apply Ext.drewN) | (with_reducible refine Ext.set ?_ (by simp))), Kept.of_ext (by repeat first | (with_reducible exact Below.refl _ _) | (with_reducible apply Ext.alloc) | (with_reducible apply Ext.drew) | (with_reducible apply Ext.drewN) | (with_reducible refine Ext.set ?_ (by simp))), rfl⟩
  · have h2 : ¬ (n.tmod 16 = 0) := fun h => by rw [tmod_zero] at h; omega
    go_wp2_with fail
    go_ret2
    exact ⟨rfl, v, H.out.ext (by repeat first | (with_reducible exact Below.refl _ _) | (with_reducible apply Ext.alloc) | (with_reducible apply Ext.drew) | (with_reducible apply Ext.drewN) | (with_reducible refine Ext.set ?_ (by simp))), Kept.of_ext (by repeat first | (with_reducible exact Below.refl _ _) | (with_reducible apply Ext.alloc) | (with_reducible apply Ext.drew) | (with_reducible apply Ext.drewN) | (with_reducible refine Ext.set ?_ (by simp))), rfl⟩

set_option maxHeartbeats 4000000 in
theorem take_none (p : Nat) (a b : Int) (v : Value) (base : Nat) (R : List Run) (n : Int) (w : World) (h : FreeAt w p a b v base R) (hn : 1 ≤ n ∧ n % 16 = 0) (hi : R.findIdx? (fitsR n) = none) :
    Calls Try.prog 40 #[.pointer (some ⟨p, 0, none⟩), .int .i64 n] w (TakePost p a b v base R n w) := by
  have ht : takeR R n = (R, 0, false) := by unfold takeR; rw [if_neg (by omega), hi]
  have hx : idxI (fitsR n) R = -1 := by unfold idxI; rw [hi]
  have hp := h.lt
  have h1 : ¬ (n < 1) := by omega
  have h2 : n.tmod 16 = 0 := tmod_zero.2 hn.2
  have c2 := h.c2
  have H := Lib.hid h
  obtain ⟨A, c, rfl, hc, hA⟩ := Arr.own h.row
  have hcall := index_any A c R 61 (.pointer (some ⟨w.heap.size, 0, none⟩)) (fitsR n) (w.alloc (.cells #[.int .i64 n] 3)) (hA.ext (by repeat first | (with_reducible exact Below.refl _ _) | (with_reducible apply Ext.alloc) | (with_reducible apply Ext.drew) | (with_reducible apply Ext.drewN) | (with_reducible refine Ext.set ?_ (by simp)))) (by have := h.len; omega) (fun args w => by kernel_rfl)
    (fun W r hr hE => fits_any r.1 r.2 n w.heap.size W (h.fine r hr) (by
      have := ext_cell hE ⟨w.heap.size, 0, none⟩ (.int .i64 n) (by simp)
      exact this))
  rw [hx] at hcall
  have HC := Lib.hid hcall
  clear h hcall hn hA
  go_enter Try.func40, Try.ntmps40
  unfold TakePost
  rw [ht]
  go_wp2_with fail
  refine HC.out.mono ?_
  rintro e w1 ⟨rfl, hb1⟩
  go_wp2_with fail
  go_ret2
  exact ⟨rfl, _, H.out.ext ((Ext.alloc (Below.refl _ w) _).then hb1), Kept.of_ext ((Ext.alloc (Below.refl _ w) _).then hb1), rfl⟩

theorem own_form {w : World} {base : Nat} {v : Value} {R : List Run} (h : OwnR w base v R) (hR : 0 < R.length) : ∃ g cap C, v = .slice (some ⟨g, 0, none⟩) R.length cap ∧ base ≤ g ∧ w.heap[g]? = some (.cells C 91 (0, 0)) ∧ R.length ≤ cap ∧ cap ≤ maxLen ∧ C.size = cap * 2 ∧ C.toList.take (R.length * 2) = rowC R := by
  rcases h.2 with ⟨-, h0⟩ | h
  · omega
  · exact h
theorem rowC_cons (x : Run) (R : List Run) : rowC (x :: R) = .int .i64 x.1 :: .int .i64 x.2 :: rowC R := rfl
theorem rowC_set1 : ∀ (R : List Run) (i : Nat) (hi : i < R.length) (y : Int), (rowC R).set (i * 2) (.int .i64 y) = rowC (R.set i (y, R[i].2))
  | x :: R, 0, _, y => by simp [rowC_cons]
  | x :: R, i + 1, hi, y => by
    have ih := rowC_set1 R i (by simpa using hi) y
    rw [show (i + 1) * 2 = i * 2 + 1 + 1 by omega, rowC_cons, List.set_cons_succ, List.set_cons_succ, ih, List.set_cons_succ, rowC_cons]
    rfl
/-- One number of a run is written over. -/
theorem own_set1 {w : World} {base : Nat} {g cap i : Nat} {R : List Run} (h : OwnR w base (.slice (some ⟨g, 0, none⟩) R.length cap) R) (hi : i < R.length) (y : Int) :
    OwnR (w.setCell ⟨g, i * 2, none⟩ (.int .i64 y)) base (.slice (some ⟨g, 0, none⟩) R.length cap) (R.set i (y, R[i].2)) := by
  obtain ⟨g', cap', C, e, hb, hg, hn, hm, hs, ht⟩ := own_form h (by omega)
  simp at e
  obtain ⟨rfl, rfl⟩ := e
  have hC : C.toList.length = cap * 2 := by simpa using hs
  refine ⟨by rw [rowC_len, List.length_set], .inr ⟨g, cap, C.setIfInBounds (i * 2) (.int .i64 y), by rw [List.length_set], hb, ?_, by rw [List.length_set]; exact hn, hm, by simpa using hs, ?_⟩⟩
  · rw [setCell_eq_setRow w g (i * 2) C _ (0, 0) _ hg]
    exact setRow_heap w g C _ _ _ hg
  · rw [List.length_set, Array.toList_setIfInBounds, List.take_set, ht]
    exact rowC_set1 R i hi y

theorem fine_set {R : List Run} {i : Nat} {n : Int} (h : AllFine R) (hi : i < R.length) (h1 : 1 ≤ n) (h2 : n ≤ R[i].2 - R[i].1) : AllFine (R.set i (R[i].1 + n, R[i].2)) := by
  intro r hr
  rcases List.mem_or_eq_of_mem_set hr with hr | rfl
  · exact h r hr
  · obtain ⟨f0, f1, f2, f3⟩ := h R[i] (List.getElem_mem hi)
    exact ⟨by simp only; omega, by simp only; omega, f2, f3⟩
theorem Kept.two {p g : Nat} {w w' : World} (hs : w.heap.size ≤ w'.heap.size) (h1 : w'.os = w.os) (h2 : w'.tape = w.tape) (h3 : w'.output = w.output) (h : ∀ k, k < w.heap.size → k ≠ p → k ≠ g → w'.heap[k]? = w.heap[k]?) : Kept p (some g) w w' :=
  ⟨h1, h2, h3, hs, fun k hk hp hg => h k hk hp (fun e => hg (by rw [e]))⟩

/-- The runs of a Free are written over. -/
theorem free_store {w : World} {p : Nat} {a b : Int} {v v' : Value} {base : Nat} {R : List Run} (hb : w.heap[p]? = some (.cells #[.int .i64 a, .int .i64 b, v] 94)) (ho : OwnR w base v' R) (hl : base ≤ p) (hf : AllFine R) (hn : R.length ≤ 2000000) (he : 0 ≤ a ∧ a ≤ b ∧ b ≤ 16777216) :
    FreeAt (w.setCell ⟨p, 2, none⟩ v') p a b v' base R := by
  refine ⟨?_, ?_, hl, hf, hn, he⟩
  · rw [setCell_eq_setRow w p 2 _ _ (0, 0) _ hb]
    exact setRow_heap w p _ _ _ _ hb
  · refine World.ownsRow.kept ho (row := some p) ⟨rfl, rfl, rfl, by simp, fun k _ hk => Below.heap_setCell w ⟨p, 2, none⟩ v' k (fun e => hk (by rw [e]))⟩ ?_
    rcases ho.2 with ⟨rfl, -⟩ | ⟨g, cap, C, rfl, -, hg, -⟩
    · exact .inl rfl
    · refine .inr ?_
      simp only [Value.ownBlock, ne_eq, Option.some.injEq]
      rintro rfl
      rw [hg] at hb
      simp at hb
set_option maxHeartbeats 4000000 in
theorem take_some (p : Nat) (a b : Int) (v : Value) (base : Nat) (R : List Run) (n : Int) (w : World) (h : FreeAt w p a b v base R) (hn : 1 ≤ n ∧ n % 16 = 0) (i : Nat) (hi : R.findIdx? (fitsR n) = some i) :
    Calls Try.prog 40 #[.pointer (some ⟨p, 0, none⟩), .int .i64 n] w (TakePost p a b v base R n w) := by
  obtain ⟨hlt, hfit, -⟩ := List.findIdx?_eq_some_iff_getElem.1 hi
  have hgd : R.getD i (0, 0) = R[i] := by simp [List.getD, hlt]
  have ht : takeR R n = (if R[i].1 + n = R[i].2 then R.eraseIdx i else R.set i (R[i].1 + n, R[i].2), R[i].1, true) := by unfold takeR; rw [if_neg (by omega), hi]; simp only [hgd]
  have hx : idxI (fitsR n) R = (i : Int) := by unfold idxI; rw [hi]
  have hsz : n ≤ R[i].2 - R[i].1 := by simpa [fitsR] using hfit
  have hp := h.lt
  have h1 : ¬ (n < 1) := by omega
  have h2 : n.tmod 16 = 0 := tmod_zero.2 hn.2
  have c2 := h.c2
  obtain ⟨g, cap, C, rfl, hb, hg, hc, hm, hs, htk⟩ := own_form h.row (by omega)
  have hcC : ∀ j u, (rowC R)[j]? = some u → w.cell? ⟨g, j, none⟩ = some u := fun j u hj => by
    have := h.row.cells (g := g) rfl j u hj
    rwa [add_none, Nat.zero_add] at this
  have hA : Arr w (some ⟨g, 0, none⟩) (rowC R) := by obtain ⟨A, c, e, -, hA⟩ := Arr.own h.row; simp at e; rw [← e.1] at hA; exact hA
  have hcall := index_any (some ⟨g, 0, none⟩) cap R 61 (.pointer (some ⟨w.heap.size, 0, none⟩)) (fitsR n) (w.alloc (.cells #[.int .i64 n] 3)) (hA.ext (by repeat first | (with_reducible exact Below.refl _ _) | (with_reducible apply Ext.alloc) | (with_reducible apply Ext.drew) | (with_reducible apply Ext.drewN) | (with_reducible refine Ext.set ?_ (by simp)))) (by have := h.len; omega) (fun args w => by kernel_rfl)
    (fun W r hr hE => fits_any r.1 r.2 n w.heap.size W (h.fine r hr) (by
      have := ext_cell hE ⟨w.heap.size, 0, none⟩ (.int .i64 n) (by simp)
      exact this))
  rw [hx] at hcall
  have HC := Lib.hid hcall
  have hgl : g < w.heap.size := (Array.getElem?_eq_some_iff.1 hg).1
  have hpg : p ≠ g := fun e => by have := h.blk; rw [e, hg] at this; simp at this
  have hgp : g ≠ p := fun e => hpg e.symm
  have hf0 : w.frozen? ⟨g, i * 2, none⟩ = false := by simp [World.frozen?, hg]
  have hq1 := hcC (i * 2) (.int .i64 R[i].1) (by have := flat_get cell2 2 (fun _ => rfl) R i 0 hlt (by decide); simpa [rowC] using this)
  have hq2 := hcC (i * 2 + 1) (.int .i64 R[i].2) (by have := flat_get cell2 2 (fun _ => rfl) R i 1 hlt (by decide); simpa [rowC] using this)
  have hff := h.fine R[i] (List.getElem_mem hlt)
  have HF := Lib.hid (And.intro h (And.intro hff (And.intro hsz hlt)))
  have hwr : IntKind.i64.wrap (R[i].1 + n) = R[i].1 + n := IntWalk.i64_in _ (by obtain ⟨f0, f1, f2, f3⟩ := hff; omega)
  have h1' := hn.1
  have hi1 : (0 : Int) ≤ (i : Int) := by omega
  have hi2 : (i : Int) < (R.length : Int) := by omega
  clear h hcall hn hA hcC hg hs htk hff hsz hfit hi hgd hx
  unfold TakePost
  rw [ht]
  clear ht
  generalize hX : (if R[i].1 + n = R[i].2 then R.eraseIdx i else R.set i (R[i].1 + n, R[i].2)) = X
  go_enter Try.func40, Try.ntmps40
  go_wp2_with fail
  refine HC.out.mono ?_
  rintro e w1 ⟨rfl, hb1⟩
  obtain ⟨hc1, hf1, hz1⟩ := bcellN hb1 (w.heap.size + 1) (by simp)
  have hcn : w1.cell? ⟨w.heap.size, 0, none⟩ = some (.int .i64 n) := ext_cell hb1 _ _ (by simp)
  go_wp2_with fail
  go_region
  have hE1 : Ext w w1 := (Ext.alloc (Below.refl _ w) _).then hb1
  have h1 := HF.out.1.ext hE1
  obtain ⟨W, hW⟩ : ∃ W, W = (w1.setCell ⟨g, i * 2, none⟩ (.int .i64 (R[i].1 + n))).drew := ⟨_, rfl⟩
  have HW : FreeAt W p a b (.slice (some ⟨g, 0, none⟩) R.length cap) base (R.set i (R[i].1 + n, R[i].2)) := by
    rw [hW]
    have hsm := HF.out.2.2.1
    refine ⟨(Below.heap_setCell w1 ⟨g, i * 2, none⟩ _ p hpg).trans h1.blk, ?_, h1.low, fine_set h1.fine hlt h1' hsm, by rw [List.length_set]; exact h1.len, h1.ends⟩
    have := own_set1 h1.row hlt (R[i].1 + n)
    exact this
  have KW : Kept p (some g) w W := by
    refine (Kept.of_ext hE1).trans (s := some g) ?_ (.inl rfl)
    rw [hW]
    exact Kept.two (by simp) rfl rfl rfl (fun k _ _ hg => Below.heap_setCell w1 ⟨g, i * 2, none⟩ _ k hg)
  rw [← hW]
  clear hW hc1 hf1 hb1 hcn hq1 hq2 c2 hf0 h1 HC
  have z2 := HW.c2
  have hcC : ∀ j u, (rowC (R.set i (R[i].1 + n, R[i].2)))[j]? = some u → W.cell? ⟨g, j, none⟩ = some u := fun j u hj => by
    have := HW.row.cells (g := g) rfl j u hj
    rwa [add_none, Nat.zero_add] at this
  have hl2 : i < (R.set i (R[i].1 + n, R[i].2)).length := by rw [List.length_set]; exact hlt
  have z0 := hcC (i * 2) (.int .i64 (R[i].1 + n)) (by have := flat_get cell2 2 (fun _ => rfl) _ i 0 hl2 (by decide); simpa [rowC] using this)
  have z1 := hcC (i * 2 + 1) (.int .i64 R[i].2) (by have := flat_get cell2 2 (fun _ => rfl) _ i 1 hl2 (by decide); simpa [rowC] using this)
  clear hcC hl2
  have hfi : Fine (R[i].1 + n, R[i].2) := by
    obtain ⟨f0, f1, f2, f3⟩ := HF.out.2.1
    have := HF.out.2.2.1
    exact ⟨by simp only; omega, by simp only; omega, f2, f3⟩
  have HS := Lib.hid (size_any (R[i].1 + n) R[i].2 W hfi)
  have HW := Lib.hid HW
  go_wp2_with fail
  refine HS.out.mono ?_
  rintro e w2 ⟨rfl, hb2⟩
  by_cases he : R[i].1 + n = R[i].2
  · have he0 : (R[i].2 - (R[i].1 + n) == 0) = true := by simp; omega
    rw [if_pos he] at hX
    subst hX
    have z3 := ext_cell hb2 _ _ z2
    have hsl : (R.set i (R[i].1 + n, R[i].2)).length = R.length := List.length_set
    have H2 := HW.out.ext hb2
    have hdel := delete_any base (.slice (some ⟨g, 0, none⟩) R.length cap) (R.set i (R[i].1 + n, R[i].2)) i w2 (by rw [hsl]; exact hlt) H2.row (by have := H2.len; omega)
    have hers : (R.set i (R[i].1 + n, R[i].2)).eraseIdx i = R.eraseIdx i := by rw [List.eraseIdx_set_eq]
    rw [hers] at hdel
    have HD := Lib.hid hdel
    have hwi : IntKind.i64.wrap ((i : Int) + 1) = (i : Int) + 1 := IntWalk.i64_in _ (by have := H2.len; omega)
    have hi3 : i ≤ 2000000 := by have := HF.out.1.len; omega
    have hpl := H2.lt
    have H2 := Lib.hid H2
    clear hdel hers
    go_wp2_with fail
    refine HD.out.mono ?_
    rintro e w3 ⟨v3, rfl, ho3, hg3, ha3⟩
    have hb3 : w3.heap[p]? = some (.cells #[.int .i64 a, .int .i64 b, .slice (some ⟨g, 0, none⟩) R.length cap] 94) := (hg3.block p hpl (by simpa [Value.ownBlock] using hpg)).trans H2.out.blk
    have y3 : w3.cell? ⟨p, 2, none⟩ = some (.slice (some ⟨g, 0, none⟩) R.length cap) := by simp [World.cell?, hb3]
    have f3 : w3.frozen? ⟨p, 2, none⟩ = false := by simp [World.frozen?, hb3]
    obtain ⟨A3, c3, rfl, hc3, -⟩ := Arr.own ho3
    go_wp2_with fail
    go_ret2
    have hsm := H2.out
    exact ⟨rfl, _, free_store hb3 ho3 hsm.low (fun r hr => HF.out.1.fine r (List.mem_of_mem_eraseIdx hr)) (by have := HF.out.1.len; rw [List.length_eraseIdx]; split <;> omega) hsm.ends, ((KW.trans (Kept.of_ext (r := some g) hb2) (.inl rfl)).trans (Kept.of_grown hg3) (.inl rfl)).trans (Kept.set w3 2 (some g) _) (.inl rfl), ha3⟩
  · have he0 : (R[i].2 - (R[i].1 + n) == 0) = false := by simp; omega
    rw [if_neg he] at hX
    subst hX
    go_wp2_with fail
    go_ret2
    exact ⟨rfl, _, HW.out.ext hb2, KW.trans (Kept.of_ext hb2) (.inl rfl), rfl⟩
theorem take_any (p : Nat) (a b : Int) (v : Value) (base : Nat) (R : List Run) (n : Int) (w : World) (h : FreeAt w p a b v base R) :
    Calls Try.prog 40 #[.pointer (some ⟨p, 0, none⟩), .int .i64 n] w (TakePost p a b v base R n w) := by
  by_cases hn : n < 1 ∨ n % 16 ≠ 0
  · exact take_bad p a b v base R n w h hn
  · cases hi : R.findIdx? (fitsR n) with
    | none => exact take_none p a b v base R n w h (by omega) hi
    | some i => exact take_some p a b v base R n w h (by omega) i hi
end Go.Proofs.Ytpjlhkepdiajjaa

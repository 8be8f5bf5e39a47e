
/- The map of what is live: where it begins to its block. -/
import Derived.Test.YtpjlhkepdiajjaaExtE
import Derived.Test.YtpjlhkepdiajjaaCapA
import Derived.Maps.OwnSet
import Derived.Maps.RangeWalk
set_option linter.all false
namespace Go.Proofs.Ytpjlhkepdiajjaa
open Go.RowKit

/-- What is live: where it begins, how much was asked for, how much it takes. -/
structure LiveD where
  at' : Int
  asked : Int
  takes : Int
deriving DecidableEq, Inhabited

/-- How a pointer to a block reads: as the block's number; nil: as -1. -/
def blkR : Value → Option (DataW Unit × List MemPlace)
  | .pointer (some a) => if a.off = 0 ∧ a.spot = none then some (.lit (.int .i64 (a.block : Int)), []) else none
  | .pointer none => some (.lit (.int .i64 (-1)), [])
  | _ => none
theorem blkR_some (b : Nat) : blkR (.pointer (some ⟨b, 0, none⟩)) = some (.lit (.int .i64 (b : Int)), []) := by simp [blkR]
theorem blkR_none : blkR (.pointer none) = some (.lit (.int .i64 (-1)), []) := rfl
theorem blkR_shape {v : Value} {y : DataW Unit × List MemPlace} (h : blkR v = some y) : ∃ a : Option Nat, v = .pointer (a.map fun b => ⟨b, 0, none⟩) ∧ y = (.lit (.int .i64 (match a with | some b => (b : Int) | none => -1)), []) := by
  unfold blkR at h
  split at h
  · rename_i a
    split at h
    · rename_i hc
      obtain ⟨b, o, s⟩ := a
      simp only at hc
      obtain ⟨rfl, rfl⟩ := hc
      cases h
      exact ⟨some b, rfl, rfl⟩
    · cases h
  · cases h
    exact ⟨none, rfl, rfl⟩
  · cases h
theorem blkR_is {v : Value} {b : Nat} {ps : List MemPlace} (h : blkR v = some (.lit (.int .i64 (b : Int)), ps)) : v = .pointer (some ⟨b, 0, none⟩) := by
  obtain ⟨a, rfl, h2⟩ := blkR_shape h
  cases a with
  | none =>
    simp only [Prod.mk.injEq, DataW.lit.injEq, Lit.int.injEq, true_and] at h2
    omega
  | some c =>
    simp only [Prod.mk.injEq, DataW.lit.injEq, Lit.int.injEq, true_and] at h2
    have : b = c := by omega
    subst this
    rfl
theorem blkR_nil {v : Value} {ps : List MemPlace} (h : blkR v = some (.lit (.int .i64 (-1)), ps)) : v = .pointer none := by
  obtain ⟨a, rfl, h2⟩ := blkR_shape h
  cases a with
  | none => rfl
  | some c =>
    simp only [Prod.mk.injEq, DataW.lit.injEq, Lit.int.injEq, true_and] at h2
    omega
theorem keyInt : Maps.Keyed Try.prog 3 := Maps.int_keyed Try.underlying3
theorem zeroBlk (w : World) : (zeroValue 72).run Try.prog w = .ok (.pointer none) w := by kernel_rfl
theorem keyI {x : Int} (hx : i64ok' x) : keyOf Try.prog 3 (.int .i64 x) = some (.int .i64 x) := Maps.keyOf_int_mk Try.underlying3 (WalkArith.wf_i64 hx)
theorem isKey {x : Int} (hx : i64ok' x) : WideAt.IsKeyLit (Lit.int .i64 x) := trivial

def hasL (L : List LiveD) (x : Int) : Bool := L.any fun l => decide (l.at' = x)
/-- What is live, in memory. -/
structure LiveAt (W : World) (b : Nat) (L : List LiveD) : Prop where
  map : ∃ D : DataW Unit, W.ownsMap Try.prog 3 blkR b L.length D ∧ Maps.size D = L.length ∧ (∀ x, i64ok' x → Maps.has D (.int .i64 x) = hasL L x) ∧
    ∀ l ∈ L, ∃ k : Nat, (∀ z, D.atKey (.int .i64 l.at') z = .lit (.int .i64 (k : Int))) ∧ ∃ f, W.heap[k]? = some (.cells #[.int .i64 l.asked, .int .i64 l.takes] 77 f)
  once : L.Pairwise fun l m => l.at' ≠ m.at'
  wf : ∀ l ∈ L, i64ok' l.at'
section
variable {W W' : World} {b : Nat} {L : List LiveD}
theorem LiveAt.lt (h : LiveAt W b L) : b < W.heap.size := by
  obtain ⟨D, h1, -⟩ := h.map
  exact h1.lt
/-- It stays what it is while its map, and all blocks' cells, stay. -/
theorem LiveAt.at (h : LiveAt W b L) (hm : W'.heap[b]? = W.heap[b]?) (hk : ∀ (k : Nat) (C : Array Value) (f : Nat × Nat), W.heap[k]? = some (.cells C 77 f) → W'.heap[k]? = some (.cells C 77 f)) : LiveAt W' b L := by
  obtain ⟨D, ⟨es, clock, h1, h2⟩, h3, h4, h5⟩ := h.map
  refine ⟨⟨D, ⟨es, clock, hm.trans h1, h2⟩, h3, h4, fun l hl => ?_⟩, h.once, h.wf⟩
  obtain ⟨k, h6, f, h7⟩ := h5 l hl
  exact ⟨k, h6, f, hk k _ f h7⟩
theorem LiveAt.ext (h : LiveAt W b L) (e : Ext W W') : LiveAt W' b L := h.at (e.block _ h.lt) (fun k C f hk => (e.block k (Array.getElem?_eq_some_iff.1 hk).1).trans hk)
/-- A map's bound is how many entries it has. -/
theorem tight {P : Program} {k : TypeId} {R : Value → Option (DataW Unit × List MemPlace)} {w : World} {b n : Nat} {D : DataW Unit} (h : w.ownsMap P k R b n D) : w.ownsMap P k R b (Maps.size D) D := by
  obtain ⟨es, clock, h1, h2, h3, rfl⟩ := h
  exact ⟨es, clock, h1, h2, by simp [Maps.size, length_sorted], rfl⟩
theorem LiveAt.made (w : World) : LiveAt (w.alloc (.map #[] 0)) w.heap.size [] :=
  ⟨⟨.map [], World.ownsMap_made w _ _ _, rfl, fun _ _ => rfl, fun _ h => by cases h⟩, List.Pairwise.nil, fun _ h => by cases h⟩
theorem hasL_iff {x : Int} : hasL L x = true ↔ ∃ l ∈ L, l.at' = x := by simp [hasL]
/-- What is at one. -/
theorem LiveAt.look (h : LiveAt W b L) {x : Int} (hx : i64ok' x) : ∃ v, (Instr.lookup 57 (.map (some b)) (.int .i64 x) true).run Try.prog W = .ok (.tuple #[v, .bool (hasL L x)]) W ∧
    ((hasL L x = false ∧ v = .pointer none) ∨ ∃ l ∈ L, l.at' = x ∧ hasL L x = true ∧ ∃ (k : Nat) (f : Nat × Nat), v = .pointer (some ⟨k, 0, none⟩) ∧ W.heap[k]? = some (.cells #[.int .i64 l.asked, .int .i64 l.takes] 77 f)) := by
  obtain ⟨D, h1, h2, h3, h4⟩ := h.map
  obtain ⟨v, ps, hr, hv⟩ := h1.look_ok (keyInt) Try.underlying57 (zeroBlk W) blkR_none (keyI hx)
  rw [h3 x hx] at hr
  refine ⟨v, hr, ?_⟩
  cases hh : hasL L x with
  | false =>
    left
    refine ⟨rfl, ?_⟩
    rw [Maps.atKey_of_not_has (by rw [h3 x hx]; exact hh)] at hv
    exact blkR_nil hv
  | true =>
    right
    obtain ⟨l, hl, rfl⟩ := hasL_iff.1 hh
    obtain ⟨k, h6, f, h7⟩ := h4 l hl
    rw [h6] at hv
    exact ⟨l, hl, rfl, rfl, k, f, blkR_is hv, h7⟩
/-- A new one. -/
theorem LiveAt.store (h : LiveAt W b L) {x a t : Int} (hx : i64ok' x) (hn : hasL L x = false) (hL : L.length < 1000000000) {k : Nat} {f : Nat × Nat} (hk : W.heap[k]? = some (.cells #[.int .i64 a, .int .i64 t] 77 f)) :
    ∃ w', (Instr.mapUpdate 57 (.map (some b)) (.int .i64 x) (.pointer (some ⟨k, 0, none⟩))).run Try.prog W = .ok () w' ∧ LiveAt w' b (L ++ [⟨x, a, t⟩]) ∧ W.grownBy w' (some b) := by
  obtain ⟨D, h1, h2, h3, h4⟩ := h.map
  obtain ⟨w', hr, h5, h6⟩ := h1.update keyInt Try.underlying57 (by unfold maxLen; omega) (keyI hx) (blkR_some k)
  have hM : Maps.IsMap D := h1.isMap
  have hcell : ∀ {j : Nat} {C : Array Value} {f : Nat × Nat}, W.heap[j]? = some (.cells C 77 f) → w'.heap[j]? = some (.cells C 77 f) := fun {j C f} hj => by
    refine (h6.block j (Array.getElem?_eq_some_iff.1 hj).1 (fun e => ?_)).trans hj
    obtain ⟨es, clock, h9, -⟩ := h1
    simp only [Option.some.injEq] at e
    subst e
    rw [h9] at hj
    cases hj
  have hsz : Maps.size (D.put (.int .i64 x) (.lit (.int .i64 (k : Int)))) = L.length + 1 := by
    rw [Maps.size_put (h1.tidy keyInt), h3 x hx, hn, h2]
    rfl
  have hne : ∀ l ∈ L, l.at' ≠ x := fun l hl e => by
    have : hasL L x = true := hasL_iff.2 ⟨l, hl, e⟩
    rw [hn] at this
    cases this
  refine ⟨w', hr, ⟨⟨D.put (.int .i64 x) (.lit (.int .i64 (k : Int))), ?_, ?_, ?_, ?_⟩, ?_, ?_⟩, h6⟩
  · have := tight h5
    rw [hsz] at this
    rw [List.length_append]
    exact this
  · rw [hsz]; simp
  · intro y hy
    by_cases hxy : y = x
    · subst hxy
      rw [Maps.has_put_same hM (isKey hx)]
      exact (hasL_iff.2 ⟨⟨y, a, t⟩, by simp, rfl⟩).symm
    · rw [Maps.has_put_other (by simpa using hxy), h3 y hy]
      simp [hasL, Ne.symm hxy]
  · intro l hl
    rcases List.mem_append.1 hl with hl | hl
    · obtain ⟨j, h7, f', h8⟩ := h4 l hl
      exact ⟨j, fun z => by rw [Maps.atKey_put_other (by simpa using hne l hl)]; exact h7 z, f', hcell h8⟩
    · rw [List.mem_singleton.1 hl]
      exact ⟨k, fun z => Maps.atKey_put_same hM (isKey hx) _ z, f, hcell hk⟩
  · refine List.pairwise_append.2 ⟨h.once, List.pairwise_singleton _ _, fun l hl m hm => ?_⟩
    rw [List.mem_singleton.1 hm]
    exact hne l hl
  · intro l hl
    rcases List.mem_append.1 hl with hl | hl
    · exact h.wf l hl
    · rw [List.mem_singleton.1 hl]; exact hx
/-- One less. -/
theorem LiveAt.drop (h : LiveAt W b L) {x : Int} (hx : i64ok' x) (ty : TypeId) :
    ∃ w', (Builtin.delete_ #[57, 3] ty #[.map (some b), .int .i64 x]).run Try.prog W = .ok (.tuple #[]) w' ∧ LiveAt w' b (L.filter fun l => decide (l.at' ≠ x)) ∧ W.grownBy w' (some b) := by
  obtain ⟨D, h1, h2, h3, h4⟩ := h.map
  obtain ⟨w', hr, h5, h6⟩ := h1.drop keyInt Try.underlying57 (keyI hx) ty
  have hcell : ∀ {j : Nat} {C : Array Value} {f : Nat × Nat}, W.heap[j]? = some (.cells C 77 f) → w'.heap[j]? = some (.cells C 77 f) := fun {j C f} hj => by
    refine (h6.grown.block j (Array.getElem?_eq_some_iff.1 hj).1 (fun e => ?_)).trans hj
    obtain ⟨es, clock, h9, -⟩ := h1
    simp only [Option.some.injEq] at e
    subst e
    rw [h9] at hj
    cases hj
  have hlen : (L.filter fun l => decide (l.at' ≠ x)).length + (if hasL L x then 1 else 0) = L.length := by
    have ho := h.once
    clear h1 h2 h3 h4 hr h5 h6 hcell h
    induction L with
    | nil => rfl
    | cons l L ih =>
      obtain ⟨ho1, ho2⟩ := List.pairwise_cons.1 ho
      have ih := ih ho2
      by_cases he : l.at' = x
      · have hno : hasL L x = false := by
          cases hh : hasL L x with
          | false => rfl
          | true =>
            obtain ⟨m, hm, hme⟩ := hasL_iff.1 hh
            exact absurd (he.trans hme.symm) (ho1 m hm)
        have hy : hasL (l :: L) x = true := hasL_iff.2 ⟨l, by simp, he⟩
        rw [hno] at ih
        simp only [List.filter_cons, he, hy, List.length_cons, ne_eq, not_true_eq_false, decide_false, Bool.false_eq_true, if_false, if_true] at ih ⊢
        omega
      · have hy : hasL (l :: L) x = hasL L x := by simp [hasL, he]
        simp only [ne_eq] at ih
        simp only [List.filter_cons, he, hy, List.length_cons, ne_eq, not_false_eq_true, decide_true, if_true]
        rw [← ih]
        omega
  have hsz : Maps.size (D.del (.int .i64 x)) = (L.filter fun l => decide (l.at' ≠ x)).length := by
    have := Maps.size_del (k := .int .i64 x) (h1.tidy keyInt)
    rw [h3 x hx, h2] at this
    exact Nat.add_right_cancel (this.trans hlen.symm)
  refine ⟨w', hr, ⟨⟨D.del (.int .i64 x), ?_, hsz, ?_, ?_⟩, h.once.filter _, fun l hl => h.wf l (List.mem_filter.1 hl).1⟩, h6.grown⟩
  · have := tight h5
    rw [hsz] at this
    exact this
  · intro y hy
    by_cases hxy : y = x
    · subst hxy
      rw [Maps.has_del_same]
      symm
      cases hh : hasL (L.filter fun l => decide (l.at' ≠ y)) y with
      | false => rfl
      | true =>
        obtain ⟨m, hm, hme⟩ := hasL_iff.1 hh
        have := (List.mem_filter.1 hm).2
        simp [hme] at this
    · rw [Maps.has_del_other (by simpa using hxy), h3 y hy, Bool.eq_iff_iff, hasL_iff, hasL_iff]
      constructor
      · rintro ⟨l, hl, rfl⟩
        exact ⟨l, List.mem_filter.2 ⟨hl, by simpa using hxy⟩, rfl⟩
      · rintro ⟨l, hl, rfl⟩
        exact ⟨l, (List.mem_filter.1 hl).1, rfl⟩
  · intro l hl
    obtain ⟨h7, h8⟩ := List.mem_filter.1 hl
    obtain ⟨j, h9, f', h10⟩ := h4 l h7
    exact ⟨j, fun z => by rw [Maps.atKey_del_other (by simpa using h8)]; exact h9 z, f', hcell h10⟩
/-- How many. -/
theorem LiveAt.len (h : LiveAt W b L) (ty : TypeId) : (Builtin.len_ #[57] ty #[.map (some b)]).run Try.prog W = .ok (.int .i64 (L.length : Int)) W := by
  obtain ⟨D, h1, h2, h3, h4⟩ := h.map
  rw [h1.len Try.underlying57 ty, h2]
end
end Go.Proofs.Ytpjlhkepdiajjaa

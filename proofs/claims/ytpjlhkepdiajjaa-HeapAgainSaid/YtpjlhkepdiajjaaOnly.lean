
/- Only rows of some types, at or above some block, may turn. -/
import Derived.Test.YtpjlhkepdiajjaaMem
set_option linter.all false
namespace Go.Proofs.Ytpjlhkepdiajjaa
open Go.RowKit

/-- Only rows at or above B of these types may have turned. -/
structure Only (B : Nat) (T : List TypeId) (a b : World) : Prop where
  os : b.os = a.os
  tape : b.tape = a.tape
  output : b.output = a.output
  size : a.heap.size ≤ b.heap.size
  block : ∀ k o, a.heap[k]? = some o → (k < B ∨ ∀ c t f, o = .cells c t f → t ∉ T) → b.heap[k]? = some o
section
variable {B : Nat} {T : List TypeId} {a b c : World}
theorem Only.refl (B : Nat) (T : List TypeId) (a : World) : Only B T a a := ⟨rfl, rfl, rfl, Nat.le_refl _, fun _ _ h _ => h⟩
theorem Only.trans (h : Only B T a b) (k : Only B T b c) : Only B T a c :=
  ⟨k.os.trans h.os, k.tape.trans h.tape, k.output.trans h.output, Nat.le_trans h.size k.size, fun i o ho hc => k.block i o (h.block i o ho hc) hc⟩
theorem Only.mono {B' : Nat} {T' : List TypeId} (h : Only B T a b) (hB : B' ≤ B) (hT : ∀ t ∈ T, t ∈ T') : Only B' T' a b :=
  ⟨h.os, h.tape, h.output, h.size, fun i o ho hc => h.block i o ho (hc.elim (fun h => .inl (Nat.lt_of_lt_of_le h hB)) fun h => .inr fun c t f e ht => h c t f e (hT t ht))⟩
theorem Only.ext (h : Ext a b) : Only B T a b :=
  ⟨h.os, h.tape, h.output, h.size, fun k o ho _ => (h.block k (Array.getElem?_eq_some_iff.1 ho).1).trans ho⟩
theorem Only.then (h : Only B T a b) (k : Ext b c) : Only B T a c := h.trans (Only.ext k)
theorem Only.alloc (h : Only B T a b) (o : Obj) : Only B T a (b.alloc o) := h.then ((Below.refl _ _).alloc (Nat.le_refl _) o)
theorem Only.drew (h : Only B T a b) : Only B T a b.drew := h.then (Ext.drew (Below.refl _ _))
theorem Only.drewN (h : Only B T a b) (n : Nat) : Only B T a (b.drewN n) := h.then (Ext.drewN (Below.refl _ _) n)
/-- An own row that grows. -/
theorem Only.grown {t : TypeId} {sz n : Nat} {v : Value} {xs : List Value} (h : a.ownsRow B t sz v n xs) (hg : a.grownBy b v.ownBlock) (ht : t ∈ T) : Only B T a b := by
  refine ⟨hg.os, hg.tape, hg.output, hg.size, fun k o ho hc => (hg.block k (Array.getElem?_eq_some_iff.1 ho).1 ?_).trans ho⟩
  rcases h with ⟨-, ⟨rfl, -⟩ | ⟨g, cap, C, rfl, hb, hgb, -⟩⟩
  · simp [Value.ownBlock]
  · intro e
    simp only [Value.ownBlock, Option.some.injEq] at e
    subst e
    rcases hc with hc | hc
    · omega
    · rw [hgb] at ho
      cases ho
      exact hc _ _ _ rfl ht
/-- A cell that is set. -/
theorem Only.set {g o : Nat} {C : Array Value} {t : TypeId} {f : Nat × Nat} (hg : a.heap[g]? = some (.cells C t f)) (hB : B ≤ g) (ht : t ∈ T) (u : Value) : Only B T a (a.setCell ⟨g, o, none⟩ u) := by
  refine ⟨rfl, rfl, rfl, by simp [World.setCell], fun k x hx hc => ?_⟩
  have hne : k ≠ g := by
    rintro rfl
    rw [hg] at hx
    cases hx
    rcases hc with hc | hc
    · omega
    · exact hc _ _ _ rfl ht
  rw [← hx]
  simp [World.setCell, Array.getElem?_modify, Ne.symm hne]
theorem set_row {g o : Nat} {C : Array Value} {t : TypeId} {f : Nat × Nat} (hg : a.heap[g]? = some (.cells C t f)) (u : Value) : (a.setCell ⟨g, o, none⟩ u).heap[g]? = some (.cells (C.setIfInBounds o u) t f) := by
  simp [World.setCell, Array.getElem?_modify, hg]
theorem Only.putRow {g : Nat} {C D : Array Value} {t : TypeId} {f : Nat × Nat} (hg : a.heap[g]? = some (.cells C t f)) (hB : B ≤ g) (ht : t ∈ T) : Only B T a (a.setRow g D) := by
  have h := setRow_grown a g D
  refine ⟨h.os, h.tape, h.output, h.size, fun k x hx hc => (h.block k (Array.getElem?_eq_some_iff.1 hx).1 ?_).trans hx⟩
  intro e
  obtain rfl : k = g := by simpa using e
  rw [hg] at hx
  cases hx
  rcases hc with hc | hc
  · omega
  · exact hc _ _ _ rfl ht
theorem Only.row (h : Only B T a b) {k : Nat} {C : Array Value} {t : TypeId} {f : Nat × Nat} (hk : a.heap[k]? = some (.cells C t f)) (ht : t ∉ T) : b.heap[k]? = some (.cells C t f) :=
  h.block k _ hk (.inr fun c' t' f' e => by cases e; exact ht)
theorem Only.low (h : Only B T a b) {k : Nat} {o : Obj} (hk : a.heap[k]? = some o) (hB : k < B) : b.heap[k]? = some o := h.block k _ hk (.inl hB)
theorem Only.own (h : Only B T a b) {base n : Nat} {t : TypeId} {sz : Nat} {v : Value} {xs : List Value} (ho : a.ownsRow base t sz v n xs) (ht : t ∉ T) : b.ownsRow base t sz v n xs := by
  obtain ⟨hl, ho⟩ := ho
  refine ⟨hl, ?_⟩
  rcases ho with ho | ⟨g, cap, cur, h1, h2, h3, h4⟩
  · exact .inl ho
  · exact .inr ⟨g, cap, cur, h1, h2, h.row h3 ht, h4⟩
theorem Only.boxed (h : Only B T a b) {k : Nat} {t : TypeId} {v : Value} (hk : Boxed a k t v) (ht : t ∉ T) : Boxed b k t v := h.row hk ht
theorem Only.cell (h : Only B T a b) {k o : Nat} {v : Value} (hk : a.cell? ⟨k, o, none⟩ = some v) (hB : k < B) : b.cell? ⟨k, o, none⟩ = some v := by
  have hlt := cell_lt hk
  have := h.block k _ (Array.getElem?_eq_getElem hlt) (.inl hB)
  unfold World.cell? at hk ⊢
  simp only at hk ⊢
  rw [this]
  rw [Array.getElem?_eq_getElem hlt] at hk
  exact hk
theorem Only.arr (h : Only B T a b) {A : Option Addr} {cs : List Value} (hA : Arr a A cs) (hB : a.heap.size ≤ B) : Arr b A cs := by
  rcases hA with rfl | ⟨b', o, rfl, hc⟩
  · exact .inl rfl
  · refine .inr ⟨b', o, rfl, fun j hj => h.cell (hc j hj) ?_⟩
    exact Nat.lt_of_lt_of_le (World.block_lt_of_cell? a ⟨b', o + j, none⟩ (hc j hj)) hB
/-- Seen from below. -/
theorem Only.below {w : World} (h : Ext w a) (hB : w.heap.size ≤ B) (k : Only B T a b) : Ext w b :=
  ⟨k.os.trans h.os, k.tape.trans h.tape, k.output.trans h.output, Nat.le_trans h.size k.size, fun i hi => by
    have h1 := h.block i hi
    cases ho : a.heap[i]? with
    | none => exfalso; rw [Array.getElem?_eq_none_iff] at ho; have := h.size; omega
    | some o => rw [k.block i o ho (.inl (by omega)), ← ho, h1]⟩
/-- Cells of a row of another type. -/
theorem Only.typedArr (h : Only B T a b) {g o : Nat} {C : Array Value} {t : TypeId} {f : Nat × Nat} {cs : List Value} (hg : a.heap[g]? = some (.cells C t f)) (ht : t ∉ T) (hA : Arr a (some ⟨g, o, none⟩) cs) : Arr b (some ⟨g, o, none⟩) cs := by
  have hr := h.row hg ht
  rcases hA with rfl | ⟨b', o', he, hc⟩
  · exact .inl rfl
  · cases he
    refine .inr ⟨_, _, rfl, fun j hj => ?_⟩
    rw [← hc j hj]
    unfold World.cell?
    simp only
    rw [hr, hg]
end
theorem frozen_row' {W : World} {q : Nat} {C : Array Value} {t : TypeId} (h : W.heap[q]? = some (.cells C t)) : ∀ o, W.frozen? ⟨q, o, none⟩ = false := fun o => by simp [World.frozen?, h]
theorem new1 {w W : World} {a : Obj} (h : Ext (w.alloc a) W) : W.heap[w.heap.size]? = some a := (h.block _ (by simp)).trans (heap_alloc_new w a)
theorem new2 {w W : World} {a b : Obj} (h : Ext ((w.alloc a).alloc b) W) : W.heap[w.heap.size]? = some a ∧ W.heap[w.heap.size + 1]? = some b := by
  have h1 := new1 (w := w.alloc a) h
  exact ⟨new1 (((Below.refl _ _).alloc (Nat.le_refl _) b : Ext (w.alloc a) _).trans (h.mono (by simp))), by simpa using h1⟩
theorem new3 {w W : World} {a b c : Obj} (h : Ext (((w.alloc a).alloc b).alloc c) W) : W.heap[w.heap.size]? = some a ∧ W.heap[w.heap.size + 1]? = some b ∧ W.heap[w.heap.size + 1 + 1]? = some c := by
  have h1 := new2 (w := w.alloc a) h
  exact ⟨(new2 (((Below.refl _ _).alloc (Nat.le_refl _) c : Ext ((w.alloc a).alloc b) _).trans (h.mono (by simp)))).1, by simpa using h1.1, by simpa using h1.2⟩
/-- A new literal's row. -/
def NewLit (B n : Nat) (cs : List Value) (t : TypeId) : Value → World → Prop := fun v W => ∃ b, v = .slice (some ⟨b, 0, none⟩) n n ∧ B ≤ b ∧ W.heap[b]? = some (.cells cs.toArray t)
theorem NewLit.ext {B n : Nat} {cs : List Value} {t : TypeId} {v : Value} {w w' : World} (h : NewLit B n cs t v w) (e : Ext w w') : NewLit B n cs t v w' := by
  obtain ⟨b, h1, h2, h3⟩ := h
  exact ⟨b, h1, h2, (e.block b (Array.getElem?_eq_some_iff.1 h3).1).trans h3⟩
theorem NewLit.only {B n p : Nat} {cs : List Value} {t : TypeId} {T : List TypeId} {v : Value} {w w' : World} (h : NewLit B n cs t v w) (e : Only p T w w') (ht : t ∉ T) : NewLit B n cs t v w' := by
  obtain ⟨b, h1, h2, h3⟩ := h
  exact ⟨b, h1, h2, e.row h3 ht⟩
theorem NewLit.new {B n : Nat} {cs : List Value} {t : TypeId} {w : World} (hB : B ≤ w.heap.size) : NewLit B n cs t (.slice (some ⟨w.heap.size, 0, none⟩) n n) (w.alloc (.cells cs.toArray t)) := ⟨_, rfl, hB, heap_alloc_new w _⟩
theorem lies_lit {w : World} {b n c : Nat} {cs : List Value} {t : TypeId} (h : w.heap[b]? = some (.cells cs.toArray t)) : Lies w.heap.size w (.slice (some ⟨b, 0, none⟩) n c) n cs := by
  refine Lies.arr (.inr ⟨_, 0, rfl, fun j hj => ?_⟩)
  rw [cell_of_row _ _ _ _ _ _ h]
  simp
end Go.Proofs.Ytpjlhkepdiajjaa

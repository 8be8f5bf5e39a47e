
/- Small lemmas that name no function of the program: what is read, what is kept. -/
import Derived.WalkKit
import Derived.WalkSpells
import Derived.WalkLawsBesides
import Derived.Outline
import Derived.Lib.Hide
import Derived.LoopN
import Derived.IntWalk
import Derived.Deep.LoopGhost
import Derived.RangeFuncBox
import Derived.RangeFuncNested
set_option linter.all false
namespace Go.Proofs.Ytpjlhkepdiajjaa
open Go.RowKit

theorem ret_pair {k l : IntKind} {a b c d : Int} (h : a = b) (h' : c = d) : Ending.returned (.tuple #[.int k a, .int l c]) = .returned (.tuple #[.int k b, .int l d]) := by rw [h, h']
theorem ret_bool {a b : Bool} (h : a = b) : Ending.returned (.bool a) = .returned (.bool b) := by rw [h]
theorem ret_int {k : IntKind} {a b : Int} (h : a = b) : Ending.returned (.int k a) = .returned (.int k b) := by rw [h]
theorem ret_str {a b : ByteArray} (h : a = b) : Ending.returned (.string a) = .returned (.string b) := by rw [h]

theorem bnot_t {b : Bool} (h : (!b) = true) : b = false := by simpa using h
theorem bnot_f {b : Bool} (h : (!b) = false) : b = true := by simpa using h

/-- Old blocks lie as they lay. -/
abbrev Ext (w w' : World) : Prop := Below w.heap.size w w'
theorem Ext.then {a b c : World} (h : Ext a b) (k : Ext b c) : Ext a c := h.trans (k.mono h.size)
theorem Ext.alloc {a b : World} (h : Ext a b) (o : Obj) : Ext a (b.alloc o) := Below.alloc h h.size o

theorem Ext.drew {a b : World} (h : Ext a b) : Ext a b.drew := Below.drew h
theorem Ext.drewN {a b : World} (h : Ext a b) (n : Nat) : Ext a (b.drewN n) := ⟨h.os, h.tape, h.output, h.size, h.block⟩
theorem Ext.set {a b : World} {p : Addr} {u : Value} (h : Ext a b) (hp : a.heap.size ≤ p.block) : Ext a (b.setCell p u) := Below.setCell h hp u

theorem bcell {W w1 : World} (hb : Ext W w1) : (∀ b o, b < W.heap.size → w1.cell? ⟨b, o, none⟩ = W.cell? ⟨b, o, none⟩) ∧ (∀ b o, b < W.heap.size → w1.frozen? ⟨b, o, none⟩ = W.frozen? ⟨b, o, none⟩) ∧ (∀ n, n < W.heap.size → (n < w1.heap.size) = True) :=
  ⟨fun b o h => hb.cell (p := ⟨b, o, none⟩) h, fun b o h => hb.frozen (p := ⟨b, o, none⟩) h, fun _ h => eq_true (Nat.lt_of_lt_of_le h hb.size)⟩

/-- What stands below N (a number that the walk can hold against w.heap.size + k) reads as it read. -/
theorem bcellN {W w1 : World} (hb : Ext W w1) (N : Nat) (hN : N ≤ W.heap.size) : (∀ b o, b < N → w1.cell? ⟨b, o, none⟩ = W.cell? ⟨b, o, none⟩) ∧ (∀ b o, b < N → w1.frozen? ⟨b, o, none⟩ = W.frozen? ⟨b, o, none⟩) ∧ N ≤ w1.heap.size :=
  ⟨fun b o h => hb.cell (p := ⟨b, o, none⟩) (Nat.lt_of_lt_of_le h hN), fun b o h => hb.frozen (p := ⟨b, o, none⟩) (Nat.lt_of_lt_of_le h hN), Nat.le_trans hN hb.size⟩

theorem cell_iter (w : World) (s : ByteArray) (p : Nat) (a : Addr) : (w.iter s p).cell? a = w.cell? a := by
  unfold World.iter World.cell?
  by_cases h : a.block < w.heap.size
  · rw [show (w.alloc (.stringIter s p)).heap[a.block]? = w.heap[a.block]? from Below.heap_alloc _ _ _ h]
  · have h1 : w.heap[a.block]? = none := by simp; omega
    rw [h1]
    by_cases h2 : a.block = w.heap.size
    · rw [h2, heap_alloc_new]
    · have : (w.alloc (.stringIter s p)).heap[a.block]? = none := by simp; omega
      rw [this]

/-- The cells cs stand at A. -/
def Arr (w : World) (A : Option Addr) (cs : List Value) : Prop := cs = [] ∨ ∃ b o, A = some ⟨b, o, none⟩ ∧ ∀ j (h : j < cs.length), w.cell? ⟨b, o + j, none⟩ = some cs[j]
theorem Arr.lt {w : World} {b o : Nat} {cs : List Value} (h : Arr w (some ⟨b, o, none⟩) cs) (hn : 0 < cs.length) : b < w.heap.size := by
  rcases h with rfl | ⟨b', o', he, hc⟩
  · simp at hn
  · cases he; exact World.block_lt_of_cell? w ⟨b, o + 0, none⟩ (hc 0 hn)
theorem Arr.ext {w w' : World} {A : Option Addr} {cs : List Value} (h : Arr w A cs) (he : Ext w w') : Arr w' A cs := by
  rcases h with rfl | ⟨b, o, rfl, hc⟩
  · exact .inl rfl
  · refine .inr ⟨b, o, rfl, fun j hj => ?_⟩
    have := hc j hj
    rw [he.cell (World.block_lt_of_cell? w ⟨b, o + j, none⟩ this)]; exact this
theorem Arr.open {w : World} {A : Option Addr} {cs : List Value} (h : Arr w A cs) (hn : 0 < cs.length) : ∃ b o, A = some ⟨b, o, none⟩ ∧ b < w.heap.size ∧ ∀ j (h : j < cs.length), w.cell? ⟨b, o + j, none⟩ = some cs[j] := by
  rcases h with rfl | ⟨b, o, rfl, hc⟩
  · simp at hn
  · exact ⟨b, o, rfl, World.block_lt_of_cell? w ⟨b, o + 0, none⟩ (hc 0 hn), hc⟩

/-- In cells of one length each, laid one behind the other. -/
theorem flat_get {α : Type} (f : α → List Value) (s : Nat) (hf : ∀ x, (f x).length = s) : ∀ (l : List α) (k j : Nat) (hk : k < l.length), j < s → (l.flatMap f)[k * s + j]? = (f l[k])[j]? := by
  intro l
  induction l with
  | nil => intro k j hk; simp at hk
  | cons x t ih =>
    intro k j hk hj
    rw [List.flatMap_cons]
    cases k with
    | zero => rw [List.getElem?_append_left (by rw [hf]; omega)]; simp
    | succ k =>
      rw [List.getElem?_append_right (by rw [hf, Nat.succ_mul]; omega), hf]
      have := ih k j (by simpa using hk) hj
      simp only [List.getElem_cons_succ]
      rw [← this]; congr 1; rw [Nat.succ_mul]; omega
theorem flat_length {α : Type} (f : α → List Value) (s : Nat) (hf : ∀ x, (f x).length = s) (l : List α) : (l.flatMap f).length = l.length * s := by
  induction l with
  | nil => simp
  | cons x t ih => rw [List.flatMap_cons, List.length_append, hf, ih, List.length_cons, Nat.succ_mul]; omega
/-- The cells of the k-th. -/
theorem Arr.flat {α : Type} {f : α → List Value} {s : Nat} (hf : ∀ x, (f x).length = s) (hs : 0 < s) {w : World} {A : Option Addr} {l : List α} (h : Arr w A (l.flatMap f)) {k : Nat} (hk : k < l.length) :
    ∃ b o, A = some ⟨b, o, none⟩ ∧ b < w.heap.size ∧ ∀ j v, (f l[k])[j]? = some v → w.cell? ⟨b, o + k * s + j, none⟩ = some v := by
  have hlen := flat_length f s hf l
  have hks : k * s + s ≤ l.length * s := by rw [← Nat.succ_mul]; exact Nat.mul_le_mul_right s hk
  obtain ⟨b, o, rfl, hb, hc⟩ := h.open (by rw [hlen]; omega)
  refine ⟨b, o, rfl, hb, fun j v hv => ?_⟩
  have hj : j < s := by rw [← hf l[k]]; exact (List.getElem?_eq_some_iff.1 hv).1
  have := flat_get f s hf l k j hk hj
  rw [hv] at this
  obtain ⟨h1, h2⟩ := List.getElem?_eq_some_iff.1 this
  rw [Nat.add_assoc, hc _ h1, h2]

/-- A row of the call's own reads. -/
theorem Arr.own {w : World} {base n : Nat} {e : TypeId} {size : Nat} {v : Value} {cs : List Value} (h : w.ownsRow base e size v n cs) : ∃ A c, v = .slice A n c ∧ n ≤ c ∧ Arr w A cs := by
  obtain ⟨hl, h⟩ := h
  rcases h with ⟨rfl, rfl⟩ | ⟨g, cap, cur, rfl, hg, hb, hn, hm, hs, ht⟩
  · exact ⟨none, 0, rfl, Nat.le_refl _, .inl (List.length_eq_zero_iff.1 (by simpa using hl))⟩
  · refine ⟨_, cap, rfl, hn, .inr ⟨g, 0, rfl, fun j hj => ?_⟩⟩
    subst ht
    rw [Nat.zero_add, cell_of_row w g j cur e (0, 0) hb]
    simp at hj ⊢

/-- A new list of the call's own, and nothing else turned. -/
def Gives (w : World) (e : TypeId) (sz n : Nat) (cs : List Value) (x : Ending) (w' : World) : Prop := ∃ v, x = .returned v ∧ w'.ownsRow w.heap.size e sz v n cs ∧ Ext w w'
theorem own_lit (w : World) (base : Nat) (e : TypeId) (sz n : Nat) (cs : List Value) (hb : base ≤ w.heap.size) (hl : cs.length = n * sz) (hm : n ≤ maxLen) :
    (w.alloc (.cells cs.toArray e)).ownsRow base e sz (.slice (some ⟨w.heap.size, 0, none⟩) n n) n cs :=
  ⟨hl, .inr ⟨_, n, _, rfl, hb, heap_alloc_new w _, Nat.le_refl _, hm, by simpa using hl, by rw [← hl]; simp⟩⟩
theorem gives_nil {w w' : World} {e : TypeId} {sz : Nat} (h : Ext w w') : Gives w e sz 0 [] (.returned (.slice none 0 0)) w' := ⟨_, rfl, World.ownsRow_nil _ _ _ _, h⟩
theorem gives_lit {w w' : World} {e : TypeId} {sz n : Nat} {cs : List Value} (h : Ext w w') (hl : cs.length = n * sz) (hm : n ≤ maxLen) : Gives w e sz n cs (.returned (.slice (some ⟨w'.heap.size, 0, none⟩) n n)) (w'.alloc (.cells cs.toArray e)) :=
  ⟨_, rfl, own_lit w' _ e sz n cs h.size hl hm, Ext.alloc h _⟩

theorem lt_more {g s : Nat} (h : g < s) : ∀ n, (g < s + n) = True := fun n => eq_true (by omega)

/-! ### What a round of a loop over an iterator keeps -/
/-- The blocks of S lie as they lay. -/
def KeepsB (S : List Nat) (W W' : World) : Prop := ∀ k ∈ S, W'.heap[k]? = W.heap[k]?
theorem keepsB_t {S : List Nat} {A B C : World} (h : KeepsB S A B) (k : KeepsB S B C) : KeepsB S A C := fun i hi => (k i hi).trans (h i hi)
theorem keepsB_b {S : List Nat} {w : World} (hS : ∀ k ∈ S, k < w.heap.size) (W : World) (l : Nat) (o o' : Obj) (hl : w.heap.size ≤ l) (_ : W.heap[l]? = some o) (_ : o.isCells = false) (_ : o.isWalk = false) : KeepsB S W (W.putObj l o') :=
  fun k hk => World.putObj_heap_other (by have := hS k hk; omega)
theorem KeepsB.cell {S : List Nat} {W W' : World} (h : KeepsB S W W') {b o : Nat} (hb : b ∈ S) : W'.cell? ⟨b, o, none⟩ = W.cell? ⟨b, o, none⟩ := World.cell?_of_block (h b hb)
theorem box_ext {W W' : World} {B : Nat} {t : TypeId} {v : Value} (h : Boxed W B t v) (he : Ext W W') : Boxed W' B t v := (he.block B h.lt).trans h
theorem boxed_new' (w : World) (B : Nat) (t : TypeId) (v : Value) (h : B = w.heap.size) : Boxed (w.alloc (.cells #[v] t)) B t v := h ▸ Boxed.new w t v
theorem others_ext {W W' : World} (he : Ext W W') : KeepsOthers W W' := ⟨he.size, fun k o hk _ => (he.block k (Array.getElem?_eq_some_iff.1 hk).1).trans hk⟩
theorem own_ext {W W' : World} {base n : Nat} {e : TypeId} {size : Nat} {v : Value} {xs : List Value} (h : W.ownsRow base e size v n xs) (he : Ext W W') : W'.ownsRow base e size v n xs :=
  h.kept (row := none) ⟨he.os, he.tape, he.output, he.size, fun k hk _ => he.block k hk⟩ (by cases v.ownBlock <;> simp)
theorem own_notcells {W W' : World} {base n : Nat} {e : TypeId} {size : Nat} {v : Value} {xs : List Value} {row : Option Nat} (h : W.ownsRow base e size v n xs) (hg : W.grownBy W' row) (hr : ∀ r, row = some r → ∃ o : Obj, W.heap[r]? = some o ∧ o.isCells = false) : W'.ownsRow base e size v n xs := by
  refine h.kept hg ?_
  rcases h.2 with ⟨rfl, _⟩ | ⟨g, cap, cur, rfl, _, hgb, _⟩
  · exact .inl rfl
  · refine .inr fun e' => ?_
    obtain ⟨o, ho, hc⟩ := hr g (by simpa [Value.ownBlock] using e'.symm)
    rw [hgb] at ho; cases ho; cases hc
theorem boxed_far {W W' : World} {B : Nat} {t : TypeId} {v : Value} {row : Option Nat} (h : Boxed W B t v) (hg : W.grownBy W' row) (hr : ∀ r, row = some r → ∃ o : Obj, W.heap[r]? = some o ∧ o.isCells = false) : Boxed W' B t v :=
  h.kept hg (fun e => by obtain ⟨o, ho, hc⟩ := hr B e.symm; rw [show W.heap[B]? = _ from h] at ho; cases ho; cases hc)
theorem ext_far {w W W' : World} {row : Option Nat} (h : Ext w W) (hg : W.grownBy W' row) (hr : ∀ r, row = some r → w.heap.size ≤ r) : Ext w W' := Below.grown h hg h.size hr

theorem box_far {W : World} {B : Nat} {t : TypeId} {v : Value} (h : Boxed W B t v) {p : Addr} (hp : B ≠ p.block) (u : Value) : Boxed (W.setCell p u) B t v := (Below.heap_setCell W p u B hp).trans h
theorem box_far2 {W : World} {B : Nat} {t : TypeId} {v : Value} {p : Addr} {u : Value} (hp : B ≠ p.block) (h : Boxed W B t v) : Boxed (W.setCell p u) B t v := box_far h hp u
theorem box_drew {W : World} {B : Nat} {t : TypeId} {v : Value} (h : Boxed W B t v) : Boxed W.drew B t v := h
theorem box_set {W : World} {B : Nat} {t : TypeId} (h : ∃ v, Boxed W B t v) (v' : Value) : Boxed (W.setCell ⟨B, 0, none⟩ v') B t v' := h.elim fun _ h => h.set v'
theorem box_grow {W w1 : World} {B : Nat} {t e : TypeId} {u : Value} (h : Boxed W B t u) (hte : t ≠ e) {base size k : Nat} {v : Value} {xs : List Value} (hr : W.ownsRow base e size v k xs) {tmp : Obj} (hg : (W.alloc tmp).grownBy w1 v.ownBlock) : Boxed w1 B t u :=
  (h.alloc tmp).kept hg (h.not_row hte hr)
theorem cells_new (w : World) (cs : List Value) (t : TypeId) (b : Nat) (hb : b = w.heap.size) : ∀ j u, cs[j]? = some u → (w.alloc (.cells cs.toArray t)).cell? ((⟨b, 0, none⟩ : Addr).add j) = some u := by
  intro j u hj
  subst hb
  have hadd : (⟨w.heap.size, 0, none⟩ : Addr).add j = ⟨w.heap.size, j, none⟩ := by unfold Addr.add; split <;> simp_all
  rw [hadd, cell_of_row _ _ _ _ _ _ (heap_alloc_new w (.cells cs.toArray t))]
  simpa using hj

end Go.Proofs.Ytpjlhkepdiajjaa


/- What operations leave in memory: resources in common use. -/
import Derived.Test.YtgfnpcoigooblaaPhiR
import Derived.Test.YtgfnpcoigooblaaMem
import Derived.Test.YtgfnpcoigooblaaCodeB
import Derived.Lib.SlBytesConst
set_option linter.all false
namespace Go.Proofs.Ytgfnpcoigooblaa
open Go.RowKit

/-- A list of bytes that can be seen. -/
def SeenB (l : List Int) : Pr := fun v W => ∃ A c, v = .slice A l.length c ∧ Lies W.heap.size W v l.length (bs l)
theorem SeenB.ext {l : List Int} {v : Value} {w w' : World} (h : SeenB l v w) (e : Ext w w') : SeenB l v w' := by
  obtain ⟨A, c, rfl, h⟩ := h
  exact ⟨A, c, rfl, (h.ext e).mono e.size⟩
theorem SeenB.own {l : List Int} {v : Value} {w : World} {base : Nat} (h : w.ownsRow base 5 1 v l.length (bs l)) : SeenB l v w := by
  obtain ⟨A, c, rfl, -, -⟩ := Arr.own h
  exact ⟨A, c, rfl, Lies.own h⟩
theorem arr_new {w : World} {b : Nat} {cs : List Value} {t : TypeId} (h : w.heap[b]? = some (.cells cs.toArray t)) : Arr w (some ⟨b, 0, none⟩) cs := by
  refine .inr ⟨_, 0, rfl, fun j hj => ?_⟩
  rw [cell_of_row _ _ _ _ _ _ h]
  simp
theorem SeenB.new {l : List Int} {w : World} {b : Nat} {t : TypeId} (h : w.heap[b]? = some (.cells (bs l).toArray t)) : SeenB l (.slice (some ⟨b, 0, none⟩) l.length l.length) w :=
  ⟨_, _, rfl, Lies.arr (arr_new h)⟩
theorem own_low {w : World} {base base' : Nat} {e : TypeId} {size : Nat} {v : Value} {n : Nat} {xs : List Value} (h : w.ownsRow base e size v n xs) (hb : base' ≤ base) : w.ownsRow base' e size v n xs := by
  obtain ⟨hl, h⟩ := h
  refine ⟨hl, ?_⟩
  rcases h with h | ⟨g, cap, cur, h1, h2, h3⟩
  · exact .inl h
  · exact .inr ⟨g, cap, cur, h1, Nat.le_trans hb h2, h3⟩
/-- A row of one's own. -/
def Owns (B : Nat) (t : TypeId) (sz n : Nat) (cs : List Value) : Pr := fun v W => B ≤ W.heap.size ∧ W.ownsRow B t sz v n cs
theorem Owns.ext {B : Nat} {t : TypeId} {sz n : Nat} {cs : List Value} {v : Value} {w w' : World} (h : Owns B t sz n cs v w) (e : Ext w w') : Owns B t sz n cs v w' := ⟨Nat.le_trans h.1 e.size, own_ext h.2 e⟩
theorem Owns.gives {B : Nat} {t : TypeId} {sz n : Nat} {cs : List Value} {v : Value} {w w' : World} (h : w'.ownsRow w.heap.size t sz v n cs) (e : Ext w w') (hB : B ≤ w.heap.size) : Owns B t sz n cs v w' := ⟨Nat.le_trans hB e.size, own_low h hB⟩

/-- What lies below B, and all that is no row of this type, lies as it lay. -/
structure Typed (B : Nat) (t : TypeId) (a b : World) : Prop where
  os : b.os = a.os
  tape : b.tape = a.tape
  output : b.output = a.output
  size : a.heap.size ≤ b.heap.size
  block : ∀ k o, a.heap[k]? = some o → (k < B ∨ ∀ c f, o ≠ .cells c t f) → b.heap[k]? = some o
theorem Typed.refl (B : Nat) (t : TypeId) (a : World) : Typed B t a a := ⟨rfl, rfl, rfl, Nat.le_refl _, fun _ _ h _ => h⟩
theorem Typed.trans {B : Nat} {t : TypeId} {a b c : World} (h : Typed B t a b) (k : Typed B t b c) : Typed B t a c :=
  ⟨k.os.trans h.os, k.tape.trans h.tape, k.output.trans h.output, Nat.le_trans h.size k.size, fun i o ho hc => k.block i o (h.block i o ho hc) hc⟩
theorem Typed.ext {B : Nat} {t : TypeId} {a b : World} (h : Ext a b) : Typed B t a b :=
  ⟨h.os, h.tape, h.output, h.size, fun k o ho _ => (h.block k (Array.getElem?_eq_some_iff.1 ho).1).trans ho⟩
theorem Typed.grown {B : Nat} {t : TypeId} {a b : World} {sz n : Nat} {v : Value} {xs : List Value} (h : a.ownsRow B t sz v n xs) (hg : a.grownBy b v.ownBlock) : Typed B t a b := by
  refine ⟨hg.os, hg.tape, hg.output, hg.size, fun k o ho hc => (hg.block k (Array.getElem?_eq_some_iff.1 ho).1 ?_).trans ho⟩
  rcases h with ⟨-, ⟨rfl, -⟩ | ⟨g, cap, C, rfl, hb, hgb, -⟩⟩
  · simp [Value.ownBlock]
  · intro e
    simp only [Value.ownBlock, Option.some.injEq] at e
    subst e
    rcases hc with hc | hc
    · omega
    · rw [hgb] at ho
      cases ho
      exact hc _ _ rfl
theorem Ext.typed {w a b : World} {B : Nat} {t : TypeId} (h : Ext w a) (hB : w.heap.size ≤ B) (k : Typed B t a b) : Ext w b :=
  ⟨k.os.trans h.os, k.tape.trans h.tape, k.output.trans h.output, Nat.le_trans h.size k.size, fun i hi => by
    have h1 := h.block i hi
    cases ho : a.heap[i]? with
    | none => exfalso; rw [Array.getElem?_eq_none_iff] at ho; have := h.size; omega
    | some o => rw [k.block i o ho (.inl (by omega)), ← ho, h1]⟩
/-- A list of bytes that can be seen, in another block. -/
def FarB (g : Option Nat) (l : List Int) : Pr := fun u W => ∃ A c, u = .slice A l.length c ∧ Lies W.heap.size W u l.length (bs l) ∧ ∀ a, A = some a → some a.block ≠ g
theorem FarB.ext {g : Option Nat} {l : List Int} {v : Value} {w w' : World} (h : FarB g l v w) (e : Ext w w') : FarB g l v w' := by
  obtain ⟨A, c, rfl, h, hg⟩ := h
  exact ⟨A, c, rfl, (h.ext e).mono e.size, hg⟩
theorem FarB.grown {g : Option Nat} {l : List Int} {v : Value} {w w' : World} (h : FarB g l v w) (e : w.grownBy w' g) : FarB g l v w' := by
  obtain ⟨A, c, rfl, h, hg⟩ := h
  refine ⟨A, c, rfl, ?_, hg⟩
  rcases h with h | ⟨ad, c2, h1, h2, h3⟩
  · exact .inl h
  · refine .inr ⟨ad, c2, h1, fun h0 => Nat.lt_of_lt_of_le (h2 h0) e.size, fun j u hj => ?_⟩
    have h4 := h3 j u hj
    rw [← h4]
    simp only [Value.slice.injEq] at h1
    have h5 : (ad.add j).block = ad.block := add_block ad j
    exact World.cell?_of_block (e.block _ (cell_lt h4) (by rw [h5]; exact hg ad h1.1))
theorem FarB.new {g : Option Nat} {l : List Int} {w : World} {t : TypeId} (hg : ∀ k, g = some k → k < w.heap.size) : FarB g l (.slice (some ⟨w.heap.size, 0, none⟩) l.length l.length) (w.alloc (.cells (bs l).toArray t)) :=
  ⟨_, _, rfl, Lies.arr (arr_new (heap_alloc_new w _)), fun a ha h => by cases ha; exact absurd (hg _ h.symm) (Nat.lt_irrefl _)⟩
theorem FarB.gives {g : Option Nat} {l : List Int} {v : Value} {w w' : World} (hg : ∀ k, g = some k → k < w.heap.size) (h : w'.ownsRow w.heap.size 5 1 v l.length (bs l)) : FarB g l v w' := by
  obtain ⟨A, c, rfl, -, -⟩ := Arr.own h
  refine ⟨A, c, rfl, Lies.own h, fun a ha hh => ?_⟩
  subst ha
  have := (h.lt a.block rfl).1
  have := hg _ hh.symm
  omega
theorem own_lt {w : World} {B n sz : Nat} {t : TypeId} {v : Value} {xs : List Value} (h : w.ownsRow B t sz v n xs) {W : World} (hW : w.heap.size ≤ W.heap.size) : ∀ k, v.ownBlock = some k → k < W.heap.size := fun k hk => Nat.lt_of_lt_of_le (h.lt k hk).2 hW
/-- All cells read as they read. -/
def CellsKept (a b : World) : Prop := a.heap.size ≤ b.heap.size ∧ ∀ p v, a.cell? p = some v → b.cell? p = some v
theorem SeenB.cells {l : List Int} {v : Value} {w w' : World} (h : SeenB l v w) (e : CellsKept w w') : SeenB l v w' := by
  obtain ⟨A, c, rfl, h⟩ := h
  refine ⟨A, c, rfl, ?_⟩
  rcases h with h | ⟨ad, c2, h1, h2, h3⟩
  · exact .inl h
  · exact .inr ⟨ad, c2, h1, fun h0 => Nat.lt_of_lt_of_le (h2 h0) e.1, fun j u hj => e.2 _ _ (h3 j u hj)⟩
theorem CellsKept.ext {a b : World} (h : Ext a b) : CellsKept a b := ⟨h.size, fun p v hv => ext_cell h p v hv⟩
/-- A constant's bytes, marked. -/
theorem conv_lit {P : Program} (W : World) (t e : TypeId) (b : Nat) (C : Array Value) (n c : Nat) (ht : P.underlying t = some (.slice e)) (he : P.underlying e = some (.int .u8)) (hb : W.heap[b]? = some (.cells C e)) :
    ∃ W', (convert t t (.slice (some ⟨b, 0, none⟩) n c)).run P W = .ok (.slice (some ⟨b, 0, none⟩) n c) W' ∧ W'.grownBy W' none ∧ W.grownBy W' (some b) ∧ W'.heap.size = W.heap.size ∧ W'.heap[b]? = some (.cells C e (C.size, C.size + 1)) := by
  have hsh : W.shape? b = some (e, C.size) := by simp [World.shape?, hb]
  have hlt := (Array.getElem?_eq_some_iff.1 hb).1
  refine ⟨W.freeze ⟨b, C.size, none⟩ 1, ?_, grown_refl _ _, ⟨?_, ?_, ?_, ?_, fun k hk hne => ?_⟩, ?_, ?_⟩
  · simp [convert, run_underlying ht, run_underlying he, markStringish, hsh]
  · simp [World.freeze]
  · simp [World.freeze]
  · simp [World.freeze]
  · simp [World.freeze]
  · have : b ≠ k := fun e => hne (by rw [e])
    simp [World.freeze, Array.getElem?_modify, this]
  · simp [World.freeze]
  · simp [World.freeze, Array.getElem?_modify, hb]
theorem lit_kept {W W' : World} {b : Nat} {C : Array Value} {e : TypeId} {q : Nat × Nat} (hg : W.grownBy W' (some b)) (hb : W.heap[b]? = some (.cells C e)) (hb' : W'.heap[b]? = some (.cells C e q)) : CellsKept W W' := by
  refine ⟨hg.size, fun p v hv => ?_⟩
  by_cases hp : p.block = b
  · unfold World.cell? at hv ⊢
    rw [hp, hb] at hv
    rw [hp, hb']
    exact hv
  · have hlt := cell_lt hv
    have := hg.block p.block hlt (by simpa using hp)
    unfold World.cell? at hv ⊢
    rw [this]
    exact hv
theorem lit_typed {W W' : World} {b B : Nat} {C : Array Value} {e : TypeId} (hg : W.grownBy W' (some b)) (hb : W.heap[b]? = some (.cells C e)) (hB : B ≤ b) : Typed B e W W' := by
  refine ⟨hg.os, hg.tape, hg.output, hg.size, fun k o ho hc => (hg.block k (Array.getElem?_eq_some_iff.1 ho).1 ?_).trans ho⟩
  intro h
  obtain rfl : k = b := by simpa using h
  rcases hc with hc | hc
  · omega
  · rw [hb] at ho
    cases ho
    exact hc _ _ rfl
/-- A new constant's row. -/
def LitAt (B : Nat) (cs : List Value) (t : TypeId) : Pr := fun v W => ∃ b, v = .slice (some ⟨b, 0, none⟩) cs.length cs.length ∧ B ≤ b ∧ W.heap[b]? = some (.cells cs.toArray t)
theorem LitAt.ext {B : Nat} {cs : List Value} {t : TypeId} {v : Value} {w w' : World} (h : LitAt B cs t v w) (e : Ext w w') : LitAt B cs t v w' := by
  obtain ⟨b, h1, h2, h3⟩ := h
  exact ⟨b, h1, h2, (e.block b (Array.getElem?_eq_some_iff.1 h3).1).trans h3⟩
theorem LitAt.new {B : Nat} {cs : List Value} {t : TypeId} {w : World} (hB : B ≤ w.heap.size) : LitAt B cs t (.slice (some ⟨w.heap.size, 0, none⟩) cs.length cs.length) (w.alloc (.cells cs.toArray t)) := ⟨_, rfl, hB, heap_alloc_new w _⟩
theorem lieT {B : Nat} {t : TypeId} {w W : World} (h : Typed B t w W) {p : Addr} {v : Value} (hp : w.cell? p = some v) (hc : p.block < B) : W.cell? p = some v := by
  have hlt := cell_lt hp
  have := h.block p.block _ (Array.getElem?_eq_getElem hlt) (.inl hc)
  unfold World.cell? at hp ⊢
  rw [this]
  rw [Array.getElem?_eq_getElem hlt] at hp
  exact hp
end Go.Proofs.Ytgfnpcoigooblaa

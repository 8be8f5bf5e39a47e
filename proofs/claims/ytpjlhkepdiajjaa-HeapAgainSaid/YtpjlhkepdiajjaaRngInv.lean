
/- A range over an iterator that reads what the loop's body writes; the body always goes on. -/
import Derived.RangeFuncNested
import Derived.RangeFuncWrites
import Derived.RangeFuncCalls
import Derived.Shelf.Abstract
import Derived.WalkKit
import Derived.OwnWalkIn
set_option linter.all false
namespace Go.Proofs.Ytpjlhkepdiajjaa
open Go.RowKit Go.Shelf

/-- What an iterator owes to a loop whose every state bears Inv, and that takes what Ok lets it take: all rounds go on. -/
def SeqInv {α : Type} (F : Fence) (n : Nat) (P : Program) (g : Nat) (lb : Array Value) (encs : α → Array Value) (Inv : List α → World → Prop) (Ok : List α → α → Prop) (S : List α → Prop) (B : Nat) : Prop :=
  ∀ (l : Nat) (J : List α → World → Prop) (W : World), B ≤ W.heap.size → AbidesFrom W.heap.size J → (∀ pre W1, J pre W1 → Inv pre W1) →
    (∀ pre x W1, J pre W1 → Ok pre x → YieldAt F (n - 1) P l (encs x) W1 fun e W' => e = .returned (.bool true) ∧ J (pre ++ [x]) W') →
    J [] W → CallsIn F n P g (#[.func (.yield l) #[] #[]] ++ lb) W fun e W' => (∃ v, e = .returned v) ∧ ∃ xs, S xs ∧ J xs W'
/-- The body is left at its end alone. -/
def goesOn {α : Type} (B : Nat) (I : List α → World → Prop) (xs : List α) (W : World) (e : Exit) (_ : Act) (W' : World) : Prop := e = .normal ∧ KeepsFrom B W W' ∧ I xs W'
section
variable {F : Fence} {n : Nat} {P : Program}
theorem wpIn_range_inv {α : Type} {g : Operand} {ps : Array Tmp} {assign body : Code} {Q : Exit → Act → World → Prop} {a : Act} {w : World}
    (hro : F.round = none) (h1 : 1 ≤ n) {gf : Nat} {lb : Array Value} (hg : a.eval g = .func (.func gf) #[] lb) (hFg : F.fn gf) (eg : ∀ args w, (callFunc gf args).run P w = .ok (.enter gf args) w)
    {encs : α → Array Value} {Inv : List α → World → Prop} {Ok : List α → α → Prop} {S : List α → Prop} {B : Nat} (hseq : SeqInv F (n - 1) P gf lb encs Inv Ok S B) (hB : B ≤ w.heap.size) (hps : ∀ x, (encs x).size = ps.size)
    (I : List α → World → Prop) (hI : OwnFrom w.heap.size I) (hInv : ∀ pre W, I pre W → Inv pre W) (h0 : I [] w) (Ax : α → Act → World → Prop) (hAx : ∀ x a', OwnFrom w.heap.size fun (_ : Unit) W => Ax x a' W)
    (hassign : ∀ (l : Nat) (pre : List α) (x : α) (W : World) (K : Act → World → Prop), I pre W → Ok pre x → (∀ a' W', Ax x a' W' → I pre W' → KeepsFrom w.heap.size W W' → K a' W') →
      assign.wpIn (F.inRound l) (n - 1 - 1) P (Exit.then K (fun _ _ _ => False)) { tmps := (ps.zip (encs x)).foldl (fun t (p, v) => t.setIfInBounds p v) a.tmps, defers := [] } W)
    (hbody : ∀ (l : Nat) (pre : List α) (x : α) (a' : Act) (W : World), I pre W → Ok pre x → Ax x a' W → body.wpIn (F.inRound l) (n - 1 - 1) P (goesOn w.heap.size I (pre ++ [x]) W) a' W)
    (hdone : ∀ (D : Nat) (xs : List α) (W : World), w.heap.size ≤ D → S xs → I xs W → W.heap[D]? = some (.deferred (some [])) → Q .normal { a with defers := { target := .collected D, args := #[] } :: a.defers } W) :
    (Code.rangeFunc g ps assign body).wpIn F n P Q a w := by
  refine wpIn_rangeFunc fun fn hfn => ?_
  rw [hro]
  -- the loop's record, by its state
  let R : LoopState → Option Code → Loop := fun st pe => { state := st, pending := pe, fn, tmps := a.tmps, params := ps, assign, body, defers := w.heap.size }
  obtain ⟨U, hU⟩ : ∃ U, U = (w.alloc (.deferred (some []))).alloc (.loop (R .ready none)) := ⟨_, rfl⟩
  have sU : U.heap.size = w.heap.size + 2 := by rw [hU]; simp
  have rU : U.heap[w.heap.size + 1]? = some (.loop (R .ready none)) := by
    have h := World.alloc_heap_new (w.alloc (.deferred (some []))) (.loop (R .ready none))
    rw [World.size_alloc] at h
    rw [hU]; exact h
  have dU : U.heap[w.heap.size]? = some (.deferred (some [])) := by rw [hU]; exact (Below.heap_alloc _ _ _ (by simp)).trans (World.alloc_heap_new w _)
  have iU : I [] U := by rw [hU]; exact hI.alloc _ (hI.alloc _ h0)
  have put : ∀ {xs : List α} {W : World} {r : LoopState} {pe : Option Code} (o : Obj), W.heap[w.heap.size + 1]? = some (.loop (R r pe)) → I xs W → I xs (W.putObj (w.heap.size + 1) o) := fun o hl hi => hI.putObj o hi (by omega) hl rfl
  refine ⟨w.heap.size + 1, [{ target := .collected w.heap.size, args := #[] }], U, { target := .fn (.func gf) lb, args := #[.func (.yield (w.heap.size + 1)) #[] #[]] }, U, gf, #[.func (.yield (w.heap.size + 1)) #[] #[]] ++ lb, U, ?_, ?_, ?_, ?_, fun _ => h1, ?_⟩
  · rw [hU]; exact run_enterLoop_outer _ _ _ _ _
  · simp only [resolve, hg]; simp [go_sem]
  · intro f hf; simp [Target.leads] at hf; subst hf; exact hFg
  · simp [invoke, go_sem, eg]
  · have keepR : ∀ {A C : World} {row : Option Nat} {k : Nat} {o : Obj}, A.grownBy C row → (∀ r, row = some r → U.heap.size ≤ r ∧ ∃ o : Obj, A.heap[r]? = some o ∧ o.isWalk = true) → A.heap[k]? = some o → o.isWalk = false → C.heap[k]? = some o := fun hgr hr hk hw => (grownBy_keeps hgr (fun r e => (hr r e).2) hk hw).trans hk
    refine (hseq (w.heap.size + 1) (fun pre W => I pre W ∧ W.heap[w.heap.size + 1]? = some (.loop (R .ready none)) ∧ W.heap[w.heap.size]? = some (.deferred (some []))) U (by omega) ?_ (fun pre W h => hInv pre W h.1) ?_ ⟨iU, rU, dU⟩).mono ?_
    · intro s A C row hs hgr hr
      refine ⟨hI s A C row hs.1 hgr fun r e => ?_, keepR hgr hr hs.2.1 rfl, keepR hgr hr hs.2.2 rfl⟩
      obtain ⟨h2, o, ho, hw⟩ := hr r e
      exact ⟨by omega, o, ho, Obj.not_cells_of_walk hw⟩
    · rintro pre x W ⟨hi, hl, hd⟩ hok
      refine ⟨fn, _, assign, body, run_yield (P := P) (args := encs x) hl (hps x), roundIn_of_wpIn hfn (hassign _ pre x W _ hi hok fun a' V hax hiV hkV => ?_)⟩
      have lV := hkV.same _ _ (by omega) hl rfl
      have dV := hkV.same _ _ (Nat.le_refl _) hd rfl
      have hltV : w.heap.size + 1 < V.heap.size := (Array.getElem?_eq_some_iff.1 lV).1
      refine ⟨_, run_beginRound lV rfl, ?_⟩
      have lb2 : (V.putObj (w.heap.size + 1) (.loop { R .ready none with state := .busy })).heap[w.heap.size + 1]? = some (.loop (R .busy none)) := World.putObj_heap_same hltV
      have db2 : (V.putObj (w.heap.size + 1) (.loop { R .ready none with state := .busy })).heap[w.heap.size]? = some (.deferred (some [])) := (World.putObj_heap_other (by omega)).trans dV
      have ax2 : Ax x a' (V.putObj (w.heap.size + 1) (.loop { R .ready none with state := .busy })) := (hAx x a').putObj (s := ()) _ hax (by omega) lV rfl
      refine wpIn_mono (hbody _ pre x a' _ (put _ lV hiV) hok ax2) ?_
      rintro e b W3 ⟨rfl, hk, hi3⟩
      have lb3 := hk.same _ _ (by omega) lb2 rfl
      have db3 := hk.same _ _ (Nat.le_refl _) db2 rfl
      exact ⟨_, _, run_endRound (P := P) none lb3, rfl, put _ lb3 hi3, World.putObj_heap_same (Array.getElem?_eq_some_iff.1 lb3).1, (World.putObj_heap_other (by omega)).trans db3⟩
    · rintro e W2 ⟨⟨v, rfl⟩, xs, hS, hi, hl, hd⟩
      exact ⟨none, _, run_endLoop (P := P) hl (by simp [R]), hdone _ xs _ (Nat.le_refl _) hS (put _ hl hi) ((World.putObj_heap_other (by omega)).trans hd)⟩
end
end Go.Proofs.Ytpjlhkepdiajjaa

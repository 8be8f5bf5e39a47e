
/- Package heap: a heap as it lies; what an operation may change. -/
import Derived.Test.YtpjlhkepdiajjaaHeapM
import Derived.Test.YtpjlhkepdiajjaaQuarD
import Derived.Test.YtpjlhkepdiajjaaShad
import Derived.Test.YtpjlhkepdiajjaaExtH
import Derived.Test.YtpjlhkepdiajjaaHeldP
set_option linter.all false
namespace Go.Proofs.Ytpjlhkepdiajjaa
open Go.RowKit Go.Shelf

/-- A heap: what it spans, how much is to be kept apart, the time; what is free, kept apart, live; which granules are painted. -/
structure HeapD where
  root : Cap
  full : Int
  time : Int
  R : List Run
  Q : List HeldD
  L : List LiveD
  G : Nat
  ws : List Nat
/-- Where it lies. -/
structure HeapB where
  f : Nat
  vf : Value
  bf : Nat
  s : Nat
  wb : Nat
  c : Nat
  q : Nat
  vq : Value
  bq : Nat
  m : Nat
structure HeapAt (W : World) (hp : Nat) (B : HeapB) (X : HeapD) : Prop where
  blk : W.heap[hp]? = some (.cells #[.bool X.root.tag, .int .i64 X.root.base, .int .i64 X.root.top, .int .i64 X.root.at', .int .i64 X.root.perms, .int .i64 X.root.ty, .pointer (some ⟨B.f, 0, none⟩), .pointer (some ⟨B.s, 0, none⟩), .pointer (some ⟨B.c, 0, none⟩), .pointer (some ⟨B.q, 0, none⟩), .map (some B.m)] 59)
  free : FreeAt W B.f X.root.base X.root.top B.vf B.bf X.R
  shad : ShadAt W B.s B.wb X.G X.ws
  clk : ClockAt W B.c X.time
  quar : QuarAt W B.q X.full (sumN X.Q) B.bq B.vq X.Q
  live : LiveAt W B.m X.L
  low : B.bq ≤ B.q

/-- Blocks beside these are as they were. -/
structure Foot (F : Nat → Prop) (w w' : World) : Prop where
  os : w'.os = w.os
  tape : w'.tape = w.tape
  output : w'.output = w.output
  size : w.heap.size ≤ w'.heap.size
  block : ∀ k, k < w.heap.size → ¬ F k → w'.heap[k]? = w.heap[k]?
section
variable {F F' : Nat → Prop} {a b c w w' : World}
theorem Foot.ext (h : Ext a b) : Foot F a b := ⟨h.os, h.tape, h.output, h.size, fun k hk _ => h.block k hk⟩
theorem Foot.trans (h : Foot F a b) (k : Foot F' b c) (hs : ∀ j, F' j → F j ∨ a.heap.size ≤ j) : Foot F a c :=
  ⟨k.os.trans h.os, k.tape.trans h.tape, k.output.trans h.output, Nat.le_trans h.size k.size, fun j hj hF => (k.block j (Nat.lt_of_lt_of_le hj h.size) (fun hF' => (hs j hF').elim hF (fun h => by omega))).trans (h.block j hj hF)⟩
theorem Foot.kept {p : Nat} {r : Option Nat} (h : Kept p r a b) (hp : F p) (hr : ∀ g, r = some g → F g) : Foot F a b :=
  ⟨h.os, h.tape, h.output, h.size, fun k hk hF => h.block k hk (fun e => hF (e ▸ hp)) (fun e => hF (hr k e.symm))⟩
theorem Foot.grown {r : Option Nat} (h : a.grownBy b r) (hr : ∀ g, r = some g → F g) : Foot F a b :=
  ⟨h.os, h.tape, h.output, h.size, fun k hk hF => h.block k hk (fun e => hF (hr k e.symm))⟩
/-- .. seen by types. -/
theorem Foot.only {T : List TypeId} (h : Foot F a b) (hT : ∀ k, F k → ∃ C t f, a.heap[k]? = some (.cells C t f) ∧ t ∈ T) : Only 0 T a b :=
  ⟨h.os, h.tape, h.output, h.size, fun k o hk hc => (h.block k (Array.getElem?_eq_some_iff.1 hk).1 (fun hF => by
    obtain ⟨C, t, f, h1, h2⟩ := hT k hF
    rw [hk] at h1
    cases h1
    rcases hc with hc | hc
    · omega
    · exact hc _ _ _ rfl h2)).trans hk⟩
theorem Kept.only {p : Nat} {r : Option Nat} {T : List TypeId} (h : Kept p r a b) (hp : ∃ C t f, a.heap[p]? = some (.cells C t f) ∧ t ∈ T) (hr : ∀ g, r = some g → ∃ C t f, a.heap[g]? = some (.cells C t f) ∧ t ∈ T) : Only 0 T a b :=
  Foot.only (F := fun k => k = p ∨ r = some k) (Foot.kept h (.inl rfl) (fun g e => .inr e)) fun k hk => hk.elim (fun e => e ▸ hp) (hr k)
end
theorem own_obj {W : World} {base size n : Nat} {e : TypeId} {v : Value} {xs : List Value} (h : W.ownsRow base e size v n xs) {b : Nat} (hb : v.ownBlock = some b) : ∃ C f, W.heap[b]? = some (.cells C e f) := (MidRow.own h).obj hb
section
variable {w w' : World} {hp : Nat} {B : HeapB} {X : HeapD} {T : List TypeId}
theorem FreeAt.only {p : Nat} {a b : Int} {v : Value} {base : Nat} {R : List Run} (h : FreeAt w p a b v base R) (k : Only 0 T w w') (h1 : 94 ∉ T) (h2 : 91 ∉ T) : FreeAt w' p a b v base R :=
  ⟨k.row h.blk h1, k.own h.row h2, h.low, h.fine, h.len, h.ends⟩
theorem ShadAt.only {s b G : Nat} {ws : List Nat} (h : ShadAt w s b G ws) (k : Only 0 T w w') (h1 : 67 ∉ T) (h2 : 106 ∉ T) : ShadAt w' s b G ws :=
  ⟨k.row h.blk h1, k.row h.row h2, h.len, h.lt, h.big⟩
theorem MidRow.only {base size n : Nat} {e : TypeId} {v : Value} {xs : List Value} (h : MidRow w base e size v n xs) (k : Only 0 T w w') (h1 : e ∉ T) : MidRow w' base e size v n xs :=
  h.at fun b hb => by
    obtain ⟨C, f, h2⟩ := h.obj hb
    exact (k.row h2 h1).trans h2.symm
theorem QuarAt.only {p : Nat} {full bytes : Int} {base : Nat} {v : Value} {L : List HeldD} (h : QuarAt w p full bytes base v L) (k : Only 0 T w w') (h1 : 96 ∉ T) (h2 : 79 ∉ T) : QuarAt w' p full bytes base v L :=
  ⟨k.row h.blk h1, h.row.only k h2⟩
theorem LiveAt.obj {b : Nat} {L : List LiveD} (h : LiveAt w b L) : ∃ es c, w.heap[b]? = some (.map es c) := by
  obtain ⟨D, ⟨es, c, h1, -⟩, -⟩ := h.map
  exact ⟨es, c, h1⟩
theorem LiveAt.only {b : Nat} {L : List LiveD} (h : LiveAt w b L) (k : Only 0 T w w') (h1 : 77 ∉ T) : LiveAt w' b L := by
  obtain ⟨es, c, h2⟩ := h.obj
  exact h.at ((k.block b _ h2 (.inr fun _ _ _ e => by cases e)).trans h2.symm) (fun j C f hj => k.row hj h1)
theorem HeapAt.ext (h : HeapAt w hp B X) (e : Ext w w') : HeapAt w' hp B X :=
  ⟨(e.block _ (Array.getElem?_eq_some_iff.1 h.blk).1).trans h.blk, h.free.ext e, h.shad.ext e, (e.block _ (Array.getElem?_eq_some_iff.1 h.clk).1).trans h.clk, h.quar.ext e, h.live.ext e, h.low⟩
theorem HeapAt.lt (h : HeapAt w hp B X) : hp < w.heap.size := (Array.getElem?_eq_some_iff.1 h.blk).1
/-- What an operation does to where a heap lies. -/
structure HStep (B B' : HeapB) (w w' : World) : Prop where
  f : B'.f = B.f
  s : B'.s = B.s
  wb : B'.wb = B.wb
  c : B'.c = B.c
  q : B'.q = B.q
  m : B'.m = B.m
  vf : B'.vf.ownBlock = B.vf.ownBlock ∨ ∃ g, B'.vf.ownBlock = some g ∧ w.heap.size ≤ g
  vq : B'.vq.ownBlock = B.vq.ownBlock ∨ ∃ g, B'.vq.ownBlock = some g ∧ w.heap.size ≤ g
  foot : Foot (fun k => k = B.f ∨ B.vf.ownBlock = some k ∨ k = B.wb ∨ k = B.c ∨ k = B.q ∨ B.vq.ownBlock = some k ∨ k = B.m) w w'
theorem HStep.ext (e : Ext w w') : HStep B B w w' := ⟨rfl, rfl, rfl, rfl, rfl, rfl, .inl rfl, .inl rfl, Foot.ext e⟩
theorem HStep.trans {B' B'' : HeapB} {w'' : World} (h : HStep B B' w w') (k : HStep B' B'' w' w'') : HStep B B'' w w'' := by
  refine ⟨k.f.trans h.f, k.s.trans h.s, k.wb.trans h.wb, k.c.trans h.c, k.q.trans h.q, k.m.trans h.m, ?_, ?_, h.foot.trans k.foot fun j hj => ?_⟩
  · rcases k.vf with e | ⟨g, e, hg⟩
    · rw [e]; exact h.vf
    · exact .inr ⟨g, e, Nat.le_trans h.foot.size hg⟩
  · rcases k.vq with e | ⟨g, e, hg⟩
    · rw [e]; exact h.vq
    · exact .inr ⟨g, e, Nat.le_trans h.foot.size hg⟩
  · rw [h.f, h.wb, h.c, h.q, h.m] at hj
    rcases hj with e | e | e | e | e | e | e
    · exact .inl (.inl e)
    · rcases h.vf with e' | ⟨g, e', hg⟩
      · exact .inl (.inr (.inl (e' ▸ e)))
      · rw [e'] at e; cases e; exact .inr hg
    · exact .inl (.inr (.inr (.inl e)))
    · exact .inl (.inr (.inr (.inr (.inl e))))
    · exact .inl (.inr (.inr (.inr (.inr (.inl e)))))
    · rcases h.vq with e' | ⟨g, e', hg⟩
      · exact .inl (.inr (.inr (.inr (.inr (.inr (.inl (e' ▸ e)))))))
      · rw [e'] at e; cases e; exact .inr hg
    · exact .inl (.inr (.inr (.inr (.inr (.inr (.inr e))))))
theorem HStep.then {B' : HeapB} {w'' : World} (h : HStep B B' w w') (e : Ext w' w'') : HStep B B' w w'' := h.trans (HStep.ext e)
theorem HStep.after {B' : HeapB} {w'' : World} (e : Ext w w') (h : HStep B B' w' w'') : HStep B B' w w'' := (HStep.ext e).trans h
/-- Blocks of no heap's types are as they were. -/
theorem HStep.row {B' : HeapB} (h : HStep B B' w w') (hH : HeapAt w hp B X) {k : Nat} {C : Array Value} {t : TypeId} {f : Nat × Nat} (hk : w.heap[k]? = some (.cells C t f)) (ht : t ∉ [94, 91, 106, 86, 96, 79]) : w'.heap[k]? = some (.cells C t f) := by
  have hne : ∀ {j : Nat} {C' : Array Value} {t' : TypeId} {f' : Nat × Nat}, w.heap[j]? = some (.cells C' t' f') → t' ∈ [94, 91, 106, 86, 96, 79] → k ≠ j := fun hj ht' e => by
    rw [← e, hk] at hj; cases hj; exact ht ht'
  refine (h.foot.block k (Array.getElem?_eq_some_iff.1 hk).1 ?_).trans hk
  rintro (e | e | e | e | e | e | e)
  · exact hne hH.free.blk (by simp) e
  · obtain ⟨C', f', h1⟩ := own_obj hH.free.row e; exact hne h1 (by simp) rfl
  · exact hne hH.shad.row (by simp) e
  · exact hne hH.clk (by simp) e
  · exact hne hH.quar.blk (by simp) e
  · obtain ⟨C', f', h1⟩ := hH.quar.row.obj e; exact hne h1 (by simp) rfl
  · obtain ⟨es, c, h1⟩ := hH.live.obj
    rw [← e, hk] at h1; cases h1
theorem HeapAt.free' (h : HeapAt w hp B X) {v' : Value} {b' : Nat} {R' : List Run} (k : Kept B.f B.vf.ownBlock w w') (hf : FreeAt w' B.f X.root.base X.root.top v' b' R') : HeapAt w' hp { B with vf := v', bf := b' } { X with R := R' } := by
  have hO : Only 0 [94, 91] w w' := k.only ⟨_, _, _, h.free.blk, by simp⟩ (fun g e => by obtain ⟨C, f, h1⟩ := own_obj h.free.row e; exact ⟨C, _, f, h1, by simp⟩)
  exact ⟨hO.row h.blk (by decide), hf, h.shad.only hO (by decide) (by decide), hO.row h.clk (by decide), h.quar.only hO (by decide) (by decide), h.live.only hO (by decide), h.low⟩
theorem HStep.free {v' : Value} {b' : Nat} (k : Kept B.f B.vf.ownBlock w w') (hv : v'.ownBlock = B.vf.ownBlock ∨ ∃ g, v'.ownBlock = some g ∧ w.heap.size ≤ g) : HStep B { B with vf := v', bf := b' } w w' :=
  ⟨rfl, rfl, rfl, rfl, rfl, rfl, hv, .inl rfl, Foot.kept k (.inl rfl) (fun _ e => .inr (.inl e))⟩
theorem HeapAt.quar' (h : HeapAt w hp B X) {v' : Value} {Q' : List HeldD} {y : Option Nat} (k : Kept B.q y w w') (hy : y = none ∨ y = B.vq.ownBlock) (hf : QuarAt w' B.q X.full (sumN Q') B.bq v' Q') : HeapAt w' hp { B with vq := v' } { X with Q := Q' } := by
  have hO : Only 0 [96, 79] w w' := k.only ⟨_, _, _, h.quar.blk, by simp⟩ (fun g e => by
    rcases hy with rfl | rfl
    · cases e
    · obtain ⟨C, f, h1⟩ := h.quar.row.obj e; exact ⟨C, _, f, h1, by simp⟩)
  exact ⟨hO.row h.blk (by decide), h.free.only hO (by decide) (by decide), h.shad.only hO (by decide) (by decide), hO.row h.clk (by decide), hf, h.live.only hO (by decide), h.low⟩
theorem HStep.quar {v' : Value} {y : Option Nat} (k : Kept B.q y w w') (hy : y = none ∨ y = B.vq.ownBlock) (hv : v'.ownBlock = B.vq.ownBlock ∨ ∃ g, v'.ownBlock = some g ∧ w.heap.size ≤ g) : HStep B { B with vq := v' } w w' :=
  ⟨rfl, rfl, rfl, rfl, rfl, rfl, .inl rfl, hv, Foot.kept k (.inr (.inr (.inr (.inr (.inl rfl))))) (fun g e => by
    rcases hy with rfl | rfl
    · cases e
    · exact .inr (.inr (.inr (.inr (.inr (.inl e))))))⟩
theorem HeapAt.clk' (h : HeapAt w hp B X) {t' : Int} (k : w.grownBy w' (some B.c)) (hf : ClockAt w' B.c t') : HeapAt w' hp B { X with time := t' } := by
  have hO : Only 0 [86] w w' := (Kept.of_grown (p := B.c) k).only ⟨_, _, _, h.clk, by simp⟩ (fun g e => by cases e; exact ⟨_, _, _, h.clk, by simp⟩)
  exact ⟨hO.row h.blk (by decide), h.free.only hO (by decide) (by decide), h.shad.only hO (by decide) (by decide), hf, h.quar.only hO (by decide) (by decide), h.live.only hO (by decide), h.low⟩
theorem HStep.clk (k : w.grownBy w' (some B.c)) : HStep B B w w' :=
  ⟨rfl, rfl, rfl, rfl, rfl, rfl, .inl rfl, .inl rfl, Foot.grown k (fun g e => by cases e; exact .inr (.inr (.inr (.inl rfl))))⟩
theorem HeapAt.shad' (h : HeapAt w hp B X) {ws' : List Nat} (k : w.grownBy w' (some B.wb)) (hf : ShadAt w' B.s B.wb X.G ws') : HeapAt w' hp B { X with ws := ws' } := by
  have hO : Only 0 [106] w w' := (Kept.of_grown (p := B.wb) k).only ⟨_, _, _, h.shad.row, by simp⟩ (fun g e => by cases e; exact ⟨_, _, _, h.shad.row, by simp⟩)
  exact ⟨hO.row h.blk (by decide), h.free.only hO (by decide) (by decide), hf, hO.row h.clk (by decide), h.quar.only hO (by decide) (by decide), h.live.only hO (by decide), h.low⟩
theorem HStep.shad (k : w.grownBy w' (some B.wb)) : HStep B B w w' :=
  ⟨rfl, rfl, rfl, rfl, rfl, rfl, .inl rfl, .inl rfl, Foot.grown k (fun g e => by cases e; exact .inr (.inr (.inl rfl)))⟩
theorem map_only {b : Nat} {L : List LiveD} (h : LiveAt w b L) (k : w.grownBy w' (some b)) {j : Nat} {C : Array Value} {t : TypeId} {f : Nat × Nat} (hj : w.heap[j]? = some (.cells C t f)) : w'.heap[j]? = some (.cells C t f) :=
  far_row hj k fun r e => by cases e; obtain ⟨es, c, h1⟩ := h.obj; exact ⟨_, h1, rfl⟩
theorem HeapAt.live' (h : HeapAt w hp B X) {L' : List LiveD} (k : w.grownBy w' (some B.m)) (hf : LiveAt w' B.m L') : HeapAt w' hp B { X with L := L' } := by
  have hr : ∀ r, some B.m = some r → ∃ o : Obj, w.heap[r]? = some o ∧ o.isCells = false := fun r e => by cases e; obtain ⟨es, c, h1⟩ := h.live.obj; exact ⟨_, h1, rfl⟩
  exact ⟨far_row h.blk k hr, ⟨far_row h.free.blk k hr, far_own h.free.row k hr, h.free.low, h.free.fine, h.free.len, h.free.ends⟩, ⟨far_row h.shad.blk k hr, far_row h.shad.row k hr, h.shad.len, h.shad.lt, h.shad.big⟩, far_row h.clk k hr, ⟨far_row h.quar.blk k hr, far_mid h.quar.row k hr⟩, hf, h.low⟩
theorem HStep.live (k : w.grownBy w' (some B.m)) : HStep B B w w' :=
  ⟨rfl, rfl, rfl, rfl, rfl, rfl, .inl rfl, .inl rfl, Foot.grown k (fun g e => by cases e; exact .inr (.inr (.inr (.inr (.inr (.inr rfl))))))⟩
/-- All blocks that an operation may change are at or above one. -/
def HeapB.fresh (B : HeapB) (N : Nat) : Prop := N ≤ B.f ∧ (∀ g, B.vf.ownBlock = some g → N ≤ g) ∧ N ≤ B.wb ∧ N ≤ B.c ∧ N ≤ B.q ∧ (∀ g, B.vq.ownBlock = some g → N ≤ g) ∧ N ≤ B.m
theorem HStep.fresh {B' : HeapB} {N : Nat} (h : HStep B B' w w') (f : B.fresh N) (hN : N ≤ w.heap.size) : B'.fresh N := by
  obtain ⟨f1, f2, f3, f4, f5, f6, f7⟩ := f
  refine ⟨h.f ▸ f1, fun g e => ?_, h.wb ▸ f3, h.c ▸ f4, h.q ▸ f5, fun g e => ?_, h.m ▸ f7⟩
  · rcases h.vf with e' | ⟨g', e', hg⟩
    · exact f2 g (e' ▸ e)
    · rw [e'] at e; cases e; exact Nat.le_trans hN hg
  · rcases h.vq with e' | ⟨g', e', hg⟩
    · exact f6 g (e' ▸ e)
    · rw [e'] at e; cases e; exact Nat.le_trans hN hg
theorem HStep.below {B' : HeapB} {w0 : World} (h : HStep B B' w w') (f : B.fresh w0.heap.size) (e : Ext w0 w) : Ext w0 w' := by
  obtain ⟨f1, f2, f3, f4, f5, f6, f7⟩ := f
  refine ⟨h.foot.os.trans e.os, h.foot.tape.trans e.tape, h.foot.output.trans e.output, Nat.le_trans e.size h.foot.size, fun k hk => (h.foot.block k (Nat.lt_of_lt_of_le hk e.size) ?_).trans (e.block k hk)⟩
  rintro (x | x | x | x | x | x | x)
  · omega
  · have := f2 k x; omega
  · omega
  · omega
  · omega
  · have := f6 k x; omega
  · omega
end
end Go.Proofs.Ytpjlhkepdiajjaa


/- slices.Chunk, and what code.All makes of its parts. -/
import Derived.Test.YtgfnpcoigooblaaCodeB
import Derived.RangeFuncNested
import Derived.RangeFuncBound
import Derived.RangeFuncCalls
import Derived.RangeFuncLeaves
import Derived.RangeFuncBox
import Derived.Shelf.Abstract
import Derived.Shelf.RegionOpen
import Derived.OwnWalkIn
import Derived.TacticsInMore
import Derived.LoopNIn
import Derived.LoopIn
import Derived.RegionIn
import Derived.Maps.AppendAt
set_option linter.all false
namespace Go.Proofs.Ytgfnpcoigooblaa
open Go.RowKit Go.Shelf
attribute [local go_sem] Oper.semAt_some

set_option maxHeartbeats 400000 in
theorem chunk_any (A : Option Addr) (n c : Nat) (k : Int) (hk : 1 ≤ k) (w : World) :
    Calls Try.prog 74 #[.slice A n c, .int .i64 k] w fun e w' => e = .returned (.func (.func 82) #[] #[.pointer (some ⟨w.heap.size, 0, none⟩), .pointer (some ⟨w.heap.size + 1, 0, none⟩)]) ∧ (w.alloc (.cells #[.slice A n c] 27)).alloc (.cells #[.int .i64 k] 3) = w' := by
  go_enter Try.func74, Try.ntmps74
  go_wp2
  go_ret
  exact ⟨rfl, rfl⟩

/-- The i-th part of bytes. -/
def part (g o len : Nat) (i : Nat) : Array Value := #[.slice (some ⟨g, o + 4 * i, none⟩) (min 4 (len - 4 * i)) (min 4 (len - 4 * i))]
theorem range_prefix {k N : Nat} (h : k ≤ N) : List.range k <+: List.range N := by
  rw [List.prefix_iff_eq_take]; simp [List.take_range, Nat.min_eq_left h]
theorem abides_drew {β : Type} {B : Nat} {J : β → World → Prop} (hJ : AbidesFrom B J) {s : β} {W : World} (h : J s W) : J s W.drew :=
  hJ s W W.drew none h ⟨rfl, rfl, rfl, Nat.le_refl _, fun _ _ _ => rfl⟩ (fun r e => by cases e)
set_option maxHeartbeats 1000000 in
theorem chunk_stops (n : Nat) (hn : 1 ≤ n) (bs bn : Nat) (A : Option Addr) (g o len cap : Nat) (hA : 0 < len → A = some ⟨g, o, none⟩) (w : World) (hs : bs < w.heap.size) (hb : bn < w.heap.size) (h0 : w.cell? ⟨bs, 0, none⟩ = some (.slice A len cap)) (h1 : w.cell? ⟨bn, 0, none⟩ = some (.int .i64 4)) (hl : len ≤ cap) (hm : len ≤ 140737488351232) :
    SeqStopsK Fence.wide n Try.prog 82 #[.pointer (some ⟨bs, 0, none⟩), .pointer (some ⟨bn, 0, none⟩)] (part g o len) (KeepsB [bs, bn]) (fun xs => xs = List.range ((len + 3) / 4)) (fun pre => pre <+: List.range ((len + 3) / 4)) ((len + 3) / 4) w := by
  intro l J Jx W hW hJ hJx hY hJ0
  refine callsIn_of_wp Try.func82 rfl trivial ?_ rfl
  simp only [Try.ntmps82, List.size_toArray, List.length_cons, List.length_nil, Nat.reduceAdd, Nat.reduceSub, Array.replicate_succ, Array.replicate_zero, List.push_toArray, List.append_toArray, List.nil_append, List.cons_append]
  gi_wp2
  gi_loopw [4] (fun i wr => ∃ k : Nat, k ≤ (len + 3) / 4 ∧ i = .int .i64 ((4 * k : Nat) : Int) ∧ J (List.range k) wr ∧ wr.cell? ⟨bs, 0, none⟩ = some (.slice A len cap) ∧ wr.cell? ⟨bn, 0, none⟩ = some (.int .i64 4)) (fun i _ => len + 4 - (intOf i).toNat)
  case atStart => exact ⟨0, Nat.zero_le _, rfl, hJ0, (hW.cell (p := ⟨bs, 0, none⟩) hs).trans h0, (hW.cell (p := ⟨bn, 0, none⟩) hb).trans h1⟩
  case round =>
    obtain ⟨k, hk, rfl, hJk, c0, c1⟩ := hrel
    by_cases hlt : 4 * k < len
    · obtain rfl := hA (by omega)
      have HA := Lib.hid hA
      clear hA
      obtain ⟨fn, tmps, assign, body, hy, hR⟩ := hY (List.range k) k wr.drew (abides_drew hJ hJk) (by simp; omega)
      obtain ⟨e, he⟩ : ∃ e, e = min 4 (len - 4 * k) := ⟨_, rfl⟩
      have hmin : (if ((len - 4 * k : Nat) : Int) < 4 then ((len - 4 * k : Nat) : Int) else 4) = (e : Int) := by split <;> omega
      have e1 : 1 ≤ e := by omega
      have e2 : 4 * k + e ≤ len := by omega
      have e3 : e ≤ 4 := by omega
      simp only [part] at hy
      rw [← he] at hy
      clear he
      gi_wp2
      gi_region
      gi_wp2
      refine hR.mono ?_
      rintro e W3 (⟨rfl, hJ3, hk3⟩ | ⟨rfl, hJx3⟩)
      · have c0' : W3.cell? ⟨bs, 0, none⟩ = some (.slice (some ⟨g, o, none⟩) len cap) := (hk3.cell (by simp)).trans c0
        have c1' : W3.cell? ⟨bn, 0, none⟩ = some (.int .i64 4) := (hk3.cell (by simp)).trans c1
        gi_wp2
        go_roundw
        case rel => exact ⟨k + 1, by omega, by go_num, by rw [List.range_succ]; exact hJ3, c0', c1'⟩
        case measure => simp [intOf]; omega
      · gi_wp2
        refine bodyPost_ret (results_none rfl _ _ _) rfl ?_
        exact ⟨⟨_, rfl⟩, .inr ⟨_, range_prefix (by omega), List.range_succ ▸ hJx3⟩⟩
    · gi_wp2
      go_end0
      exact ⟨⟨_, rfl⟩, .inl ⟨_, by rw [show k = (len + 3) / 4 by omega], hJk⟩⟩

/-- Get, of bytes that read. -/
theorem get_any (A : Option Addr) (c : Nat) (l : List Int) (w : World) (h : Arr w A (bs l)) (hl : ∀ x ∈ l, 0 ≤ x ∧ x < 256) : Calls Try.prog 75 #[.slice A l.length c] w (Gave w (getI l)) := by
  match l, h, hl with
  | [p, a, b, d], h, hl =>
    obtain ⟨g, o, rfl, hg, hc⟩ := h.open (by simp [bs])
    have e0 := hc 0 (by simp [bs])
    have e1 := hc 1 (by simp [bs])
    have e2 := hc 2 (by simp [bs])
    have e3 := hc 3 (by simp [bs])
    simp [bs] at e0 e1 e2 e3
    simp at hl
    exact get_four g o c p a b d w e0 e1 e2 e3 hg hl.1.1 hl.1.2 hl.2.1.1 hl.2.1.2 hl.2.2.1.1 hl.2.2.1.2 hl.2.2.2.1 hl.2.2.2.2
  | [], _, _ => exact get_bad A 0 c w (by simp)
  | [_], _, _ => exact get_bad A 1 c w (by simp)
  | [_, _], _, _ => exact get_bad A 2 c w (by simp)
  | [_, _, _], _, _ => exact get_bad A 3 c w (by simp)
  | _ :: _ :: _ :: _ :: _ :: t, _, _ => exact get_bad A (t.length + 5) c w (by omega)

/-- The i-th four bytes. -/
def chunkL (l : List Int) (i : Nat) : List Int := (l.drop (4 * i)).take 4
theorem chunkL_length (l : List Int) (i : Nat) : (chunkL l i).length = min 4 (l.length - 4 * i) := by simp [chunkL]
theorem chunkL_mem {l : List Int} {i : Nat} (hl : ∀ x ∈ l, 0 ≤ x ∧ x < 256) : ∀ x ∈ chunkL l i, 0 ≤ x ∧ x < 256 := fun x hx => hl x (List.mem_of_mem_drop (List.mem_of_mem_take hx))
theorem Arr.chunk {w : World} {g o : Nat} {l : List Int} (h : Arr w (some ⟨g, o, none⟩) (bs l)) (i : Nat) : Arr w (some ⟨g, o + 4 * i, none⟩) (bs (chunkL l i)) := by
  rcases h with h | ⟨b, o', he, hc⟩
  · left; rw [bs, List.map_eq_nil_iff] at h; subst h; simp [chunkL, bs]
  · cases he
    refine .inr ⟨_, _, rfl, fun j hj => ?_⟩
    rw [bs_length, chunkL_length] at hj
    have := hc (4 * i + j) (by rw [bs_length]; omega)
    rw [Nat.add_assoc, this]
    simp [bs, chunkL]

/-- What holds when so many parts have come. -/
structure AllI (w : World) (l : List Int) (pre : List Nat) (W : World) : Prop where
  r0 : Boxed W w.heap.size 75 (.slice none 0 0)
  r1 : Boxed W (w.heap.size + 1) 3 (.int .i64 0)
  r2 : Boxed W (w.heap.size + 2) 30 (.int .i64 0)
  at4 : Boxed W (w.heap.size + 4) 3 (.int .i64 ((4 * pre.length : Nat) : Int))
  out : ∃ v, Boxed W (w.heap.size + 3) 75 v ∧ W.ownsRow w.heap.size 79 4 v pre.length (pre.flatMap fun x => (getI (chunkL l x)).1.cells)
  ok : ∀ x ∈ pre, (getI (chunkL l x)).2 = 0
  s5 : ∃ u, Boxed W (w.heap.size + 5) 27 u
  s6 : ∃ u, Boxed W (w.heap.size + 6) 3 u
  ext : Ext w W
/-- What holds when one of them is none. -/
structure AllX (w : World) (l : List Int) (c : Code) (pre : List Nat) (W : World) : Prop where
  ret : c = .ret
  r0 : Boxed W w.heap.size 75 (.slice none 0 0)
  what : ∃ pre' x, pre = pre' ++ [x] ∧ (∀ x ∈ pre', (getI (chunkL l x)).2 = 0) ∧ (getI (chunkL l x)).2 ≠ 0 ∧ Boxed W (w.heap.size + 1) 3 (.int .i64 ((4 * pre'.length : Nat) : Int)) ∧ Boxed W (w.heap.size + 2) 30 (.int .i64 (getI (chunkL l x)).2)
  ext : Ext w W
theorem AllI.own (w : World) (l : List Int) (B : Nat) (hB : w.heap.size ≤ B) : OwnFrom B (AllI w l) := by
  intro s W W' row h hg hr
  have hr' : ∀ r, row = some r → ∃ o : Obj, W.heap[r]? = some o ∧ o.isCells = false := fun r e => (hr r e).2
  obtain ⟨v, hv, ho⟩ := h.out
  obtain ⟨u5, h5⟩ := h.s5
  obtain ⟨u6, h6⟩ := h.s6
  exact ⟨boxed_far h.r0 hg hr', boxed_far h.r1 hg hr', boxed_far h.r2 hg hr', boxed_far h.at4 hg hr', ⟨v, boxed_far hv hg hr', own_notcells ho hg hr'⟩, h.ok, ⟨u5, boxed_far h5 hg hr'⟩, ⟨u6, boxed_far h6 hg hr'⟩, ext_far h.ext hg (fun r e => Nat.le_trans hB (hr r e).1)⟩
theorem AllX.own (w : World) (l : List Int) (c : Code) (B : Nat) (hB : w.heap.size ≤ B) : OwnFrom B (AllX w l c) := by
  intro s W W' row h hg hr
  have hr' : ∀ r, row = some r → ∃ o : Obj, W.heap[r]? = some o ∧ o.isCells = false := fun r e => (hr r e).2
  obtain ⟨pre', x, h1, h2, h3, h4, h5⟩ := h.what
  exact ⟨h.ret, boxed_far h.r0 hg hr', ⟨pre', x, h1, h2, h3, boxed_far h4 hg hr', boxed_far h5 hg hr'⟩, ext_far h.ext hg (fun r e => Nat.le_trans hB (hr r e).1)⟩

section step
variable {w : World} {l : List Int} {pre : List Nat} {W w2 w1 : World} (h : AllI w l pre W) (hb : Ext W w2) (x : Nat) (X tmp : Obj) {v v' : Value} (hv : Boxed W (w.heap.size + 3) 75 v)
    (ho : W.ownsRow w.heap.size 79 4 v pre.length (pre.flatMap fun x => (getI (chunkL l x)).1.cells)) (hg : ((w2.alloc X).alloc tmp).grownBy w1 v.ownBlock)
include ho hb hg
theorem AllI.keep {B t u} (hB : Boxed W B t u) (ht : t ≠ 79) : Boxed w1 B t u := box_grow ((box_ext hB hb).alloc X) ht ((own_ext ho hb).alloc X) hg
include h hv
theorem AllI.step (hx : (getI (chunkL l x)).2 = 0) (ho' : w1.ownsRow w.heap.size 79 4 v' (pre.length + 1) ((pre.flatMap fun x => (getI (chunkL l x)).1.cells) ++ (getI (chunkL l x)).1.cells))
    (q : Int) (hq : q = ((4 * (pre.length + 1) : Nat) : Int)) :
    KeepsOthers W ((w1.setCell ⟨w.heap.size + 3, 0, none⟩ v').setCell ⟨w.heap.size + 4, 0, none⟩ (.int .i64 q)) ∧
    KeepsB [w.heap.size + 5, w.heap.size + 6] W ((w1.setCell ⟨w.heap.size + 3, 0, none⟩ v').setCell ⟨w.heap.size + 4, 0, none⟩ (.int .i64 q)) ∧
    AllI w l (pre ++ [x]) ((w1.setCell ⟨w.heap.size + 3, 0, none⟩ v').setCell ⟨w.heap.size + 4, 0, none⟩ (.int .i64 q)) := by
  have ho2 := (own_ext ho hb).alloc X
  have G : ∀ {B t u}, Boxed W B t u → t ≠ 79 → Boxed w1 B t u := fun hB ht => AllI.keep hb X tmp ho hg hB ht
  obtain ⟨u5, h5⟩ := h.s5
  obtain ⟨u6, h6⟩ := h.s6
  have g3 := G hv (by decide)
  have g4 := G h.at4 (by decide)
  have F : ∀ {B t u}, Boxed W B t u → t ≠ 79 → B ≠ w.heap.size + 3 → B ≠ w.heap.size + 4 → Boxed ((w1.setCell ⟨w.heap.size + 3, 0, none⟩ v').setCell ⟨w.heap.size + 4, 0, none⟩ (.int .i64 q)) B t u :=
    fun hB ht h3 h4 => box_far (box_far (G hB ht) h3 _) h4 _
  have hgr : ∀ k, v.ownBlock = some k → w.heap.size ≤ k := fun k hk => (ho.lt k hk).1
  refine ⟨?_, ?_, ⟨F h.r0 (by decide) (by omega) (by omega), F h.r1 (by decide) (by omega) (by omega), F h.r2 (by decide) (by omega) (by omega), ?_, ?_, ?_, ⟨u5, F h5 (by decide) (by omega) (by omega)⟩, ⟨u6, F h6 (by decide) (by omega) (by omega)⟩, ?_⟩⟩
  · refine (((((others_ext hb).trans (KeepsOthers.alloc _ _)).trans (KeepsOthers.alloc _ _)).trans (KeepsOthers.of_grownBy hg fun j o ej hj => ?_)).trans (KeepsOthers.setCell _ _ _)).trans (KeepsOthers.setCell _ _ _)
    rcases (ho2.alloc tmp).2 with ⟨rfl, _⟩ | ⟨g, cap, cur, rfl, _, hgb, _⟩
    · simp [Value.ownBlock] at ej
    · obtain rfl : g = j := by simpa [Value.ownBlock] using ej
      rw [hgb] at hj; cases hj; rfl
  · intro k hk
    simp at hk
    rcases hk with rfl | rfl
    · exact (F h5 (by decide) (by omega) (by omega)).trans h5.symm
    · exact (F h6 (by decide) (by omega) (by omega)).trans h6.symm
  · have := (box_far g4 (p := ⟨w.heap.size + 3, 0, none⟩) (by show w.heap.size + 4 ≠ w.heap.size + 3; omega) v').set (.int .i64 q)
    subst hq
    simpa using this
  · refine ⟨v', box_far (g3.set v') (by show w.heap.size + 3 ≠ w.heap.size + 4; omega) _, ?_⟩
    have n3 := g3.not_row (by decide) ho'
    have n4 := g4.not_row (by decide) ho'
    have := (ho'.kept (grownBy_setCell' w1 (w.heap.size + 3) v') (.inr n3.symm)).kept (grownBy_setCell' _ (w.heap.size + 4) (.int .i64 q)) (.inr n4.symm)
    simpa using this
  · intro y hy
    rcases List.mem_append.1 hy with hy | hy
    · exact h.ok y hy
    · rw [List.mem_singleton.1 hy]; exact hx
  · exact Ext.set (Ext.set (Below.grown (Ext.alloc (Ext.alloc (h.ext.then hb) X) tmp) hg (Ext.alloc (Ext.alloc (h.ext.then hb) X) tmp).size hgr) (by show w.heap.size ≤ w.heap.size + 3; omega)) (by show w.heap.size ≤ w.heap.size + 4; omega)
end step

theorem AllI.stop {w : World} {l : List Int} {pre : List Nat} {W w2 : World} (h : AllI w l pre W) (hb : Ext W w2) (x : Nat) (X : Obj) (hx : (getI (chunkL l x)).2 ≠ 0) (q : Int) (hq : q = ((4 * pre.length : Nat) : Int)) :
    KeepsOthers W ((((w2.setCell ⟨w.heap.size, 0, none⟩ (.slice none 0 0)).setCell ⟨w.heap.size + 1, 0, none⟩ (.int .i64 q)).setCell ⟨w.heap.size + 2, 0, none⟩ (.int .i64 (getI (chunkL l x)).2)).alloc X).drew ∧
    AllX w l .ret (pre ++ [x]) ((((w2.setCell ⟨w.heap.size, 0, none⟩ (.slice none 0 0)).setCell ⟨w.heap.size + 1, 0, none⟩ (.int .i64 q)).setCell ⟨w.heap.size + 2, 0, none⟩ (.int .i64 (getI (chunkL l x)).2)).alloc X).drew := by
  have hE := h.ext.then hb
  subst hq
  refine ⟨(by repeat first | (with_reducible exact others_ext hb) | (with_reducible exact KeepsOthers.refl _) | (with_reducible refine KeepsOthers.trans ?_ (KeepsOthers.setCell _ _ _)) | (with_reducible refine KeepsOthers.trans ?_ (KeepsOthers.alloc _ _)) | (with_reducible refine KeepsOthers.trans ?_ (KeepsOthers.drew _))), ⟨rfl, ?_, ⟨pre, x, rfl, h.ok, hx, ?_, ?_⟩, ?_⟩⟩
  · exact box_drew (Boxed.alloc (box_far2 (by simp) (box_far2 (by simp) (box_set ⟨_, box_ext h.r0 hb⟩ _))) _)
  · exact box_drew (Boxed.alloc (box_far2 (by simp) (box_set ⟨_, box_far2 (by simp) (box_ext h.r1 hb)⟩ _)) _)
  · exact box_drew (Boxed.alloc (box_set ⟨_, box_far2 (by simp) (box_far2 (by simp) (box_ext h.r2 hb))⟩ _) _)
  · exact Ext.drew (Ext.alloc (Ext.set (Ext.set (Ext.set hE (by simp)) (by simp)) (by simp)) _)

theorem own_set {W : World} {base n : Nat} {e t : TypeId} {size : Nat} {v u : Value} {xs : List Value} (h : W.ownsRow base e size v n xs) {B : Nat} (hB : Boxed W B t u) (ht : t ≠ e) (x : Value) : (W.setCell ⟨B, 0, none⟩ x).ownsRow base e size v n xs :=
  h.kept (grownBy_setCell' W B x) (.inr (hB.not_row ht h).symm)
/-- The world when all parts have come, and the results are laid. -/
def allW (w W : World) (v : Value) (q : Int) : World := (((W.setCell ⟨w.heap.size, 0, none⟩ v).setCell ⟨w.heap.size + 1, 0, none⟩ (.int .i64 q)).setCell ⟨w.heap.size + 2, 0, none⟩ (.int .i64 0)).drew
theorem AllI.last {w : World} {l : List Int} {pre : List Nat} {W : World} (h : AllI w l pre W) {v : Value} {n : Nat} {cs : List Value} (ho : W.ownsRow w.heap.size 79 4 v n cs) (q : Int)
    {D : Nat} {o : Obj} (hD : W.heap[D]? = some o) (hc : o.isCells = false) (hDw : w.heap.size ≤ D) (o' : Obj) :
    (allW w W v q).heap[D]? = some o ∧ Boxed ((allW w W v q).putObj D o') w.heap.size 75 v ∧ Boxed ((allW w W v q).putObj D o') (w.heap.size + 1) 3 (.int .i64 q) ∧ Boxed ((allW w W v q).putObj D o') (w.heap.size + 2) 30 (.int .i64 0) ∧
    ((allW w W v q).putObj D o').ownsRow w.heap.size 79 4 v n cs ∧ Ext w ((allW w W v q).putObj D o') := by
  have hD' : (allW w W v q).heap[D]? = some o := (((KeepsOthers.setCell W _ _).trans (KeepsOthers.setCell _ _ _)).trans (KeepsOthers.setCell _ _ _)).same D o hD hc
  have hg := grownBy_putObj' (allW w W v q) D o'
  have hr : ∀ r, some D = some r → ∃ o : Obj, (allW w W v q).heap[r]? = some o ∧ o.isCells = false := fun r e => by cases e; exact ⟨_, hD', hc⟩
  have b1 := box_far2 (p := ⟨w.heap.size, 0, none⟩) (u := v) (by simp) h.r1
  have b2 := box_far2 (p := ⟨w.heap.size + 1, 0, none⟩) (u := .int .i64 q) (by simp) (box_far2 (p := ⟨w.heap.size, 0, none⟩) (u := v) (by simp) h.r2)
  refine ⟨hD', boxed_far ?_ hg hr, boxed_far ?_ hg hr, boxed_far ?_ hg hr, own_notcells ?_ hg hr, ext_far ?_ hg (fun r e => by cases e; exact hDw)⟩
  · exact box_drew (box_far2 (by simp) (box_far2 (by simp) (box_set ⟨_, h.r0⟩ _)))
  · exact box_drew (box_far2 (by simp) (box_set ⟨_, b1⟩ _))
  · exact box_drew (box_set ⟨_, b2⟩ _)
  · exact (own_set (own_set (own_set ho h.r0 (by decide) v) b1 (by decide) _) b2 (by decide) _ : World.ownsRow _ _ _ _ _ _ _)
  · exact Ext.drew (Ext.set (Ext.set (Ext.set h.ext (by simp)) (by simp)) (by simp))

/-- The instructions of bytes; where it stopped, and what is wrong. -/
def allS (l : List Int) : List Ins × Int × Int :=
  match (List.range ((l.length + 3) / 4)).findIdx? (fun i => (getI (chunkL l i)).2 != 0) with
  | none => ((List.range ((l.length + 3) / 4)).map fun i => (getI (chunkL l i)).1, ((4 * ((l.length + 3) / 4) : Nat) : Int), 0)
  | some i => ([], ((4 * i : Nat) : Int), (getI (chunkL l i)).2)
theorem allS_ok {l : List Int} (h : ∀ x ∈ List.range ((l.length + 3) / 4), (getI (chunkL l x)).2 = 0) : allS l = ((List.range ((l.length + 3) / 4)).map fun i => (getI (chunkL l i)).1, ((4 * ((l.length + 3) / 4) : Nat) : Int), 0) := by
  have : (List.range ((l.length + 3) / 4)).findIdx? (fun i => (getI (chunkL l i)).2 != 0) = none := by
    rw [List.findIdx?_eq_none_iff]; intro x hx; simp [h x hx]
  simp only [allS, this]
theorem allS_no {l : List Int} {pre : List Nat} {x : Nat} (hp : pre ++ [x] <+: List.range ((l.length + 3) / 4)) (h : ∀ x ∈ pre, (getI (chunkL l x)).2 = 0) (hx : (getI (chunkL l x)).2 ≠ 0) : allS l = ([], ((4 * pre.length : Nat) : Int), (getI (chunkL l x)).2) := by
  have hlen := hp.length_le
  simp at hlen
  have e := List.prefix_iff_eq_take.1 hp
  rw [List.take_range] at e
  simp at e
  rw [Nat.min_eq_left (by omega), List.range_succ] at e
  obtain ⟨e1, e2⟩ := List.append_inj' e rfl
  simp at e2
  have : (List.range ((l.length + 3) / 4)).findIdx? (fun i => (getI (chunkL l i)).2 != 0) = some pre.length := by
    rw [List.findIdx?_eq_some_iff_getElem]
    refine ⟨by simp; omega, by simp [← e2, hx], fun j hj => ?_⟩
    have := h j (by rw [e1]; simp; omega)
    simp [this]
  simp only [allS, this, e2]

def AllPost (w : World) (l : List Int) (e : Ending) (w' : World) : Prop :=
  ∃ v, e = .returned (.tuple #[v, .int .i64 (allS l).2.1, .int .i64 (allS l).2.2]) ∧ w'.ownsRow w.heap.size 79 4 v (allS l).1.length ((allS l).1.flatMap Ins.cells) ∧ Ext w w'

theorem infoIns : (Try.prog.info? 79).map (fun i => (i.zero, i.size, i.bytes)) = some (some (.agg #[.int .i64 0, .int .i64 0, .int .i64 0, .int .i64 0]), 4, 32) := by kernel_rfl
end Go.Proofs.Ytgfnpcoigooblaa

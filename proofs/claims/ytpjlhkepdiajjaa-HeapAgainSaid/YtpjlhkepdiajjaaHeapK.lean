
/- Package heap: Alloc. -/
import Derived.Test.YtpjlhkepdiajjaaHeapP
import Derived.Test.YtpjlhkepdiajjaaPhi3
set_option linter.all false
namespace Go.Proofs.Ytpjlhkepdiajjaa
open Go.RowKit Go.Shelf
attribute [local go_sem] seen dstOf boolOf

/-- Six cells that are set. -/
def put6 (W : World) (q : Nat) (v0 v1 v2 v3 v4 v5 : Value) : World := (((((W.setCell ⟨q, 0, none⟩ v0).setCell ⟨q, 1, none⟩ v1).setCell ⟨q, 2, none⟩ v2).setCell ⟨q, 3, none⟩ v3).setCell ⟨q, 4, none⟩ v4).setCell ⟨q, 5, none⟩ v5
theorem put6_row {W : World} {q : Nat} {a0 a1 a2 a3 a4 a5 : Value} {t : TypeId} (hq : W.heap[q]? = some (.cells #[a0, a1, a2, a3, a4, a5] t)) (v0 v1 v2 v3 v4 v5 : Value) : (put6 W q v0 v1 v2 v3 v4 v5).heap[q]? = some (.cells #[v0, v1, v2, v3, v4, v5] t) := by
  have h0 := set_row (o := 0) hq v0
  have h1 := set_row (o := 1) h0 v1
  have h2 := set_row (o := 2) h1 v2
  have h3 := set_row (o := 3) h2 v3
  have h4 := set_row (o := 4) h3 v4
  have h5 := set_row (o := 5) h4 v5
  unfold put6
  rw [h5]
  rfl
theorem put6_gr {W : World} {q : Nat} {v0 v1 v2 v3 v4 v5 : Value} : W.grownBy (put6 W q v0 v1 v2 v3 v4 v5) (some q) :=
  World.grownBy.trans (World.grownBy.trans (World.grownBy.trans (World.grownBy.trans (World.grownBy.trans set_gr set_gr) set_gr) set_gr) set_gr) set_gr
theorem put6_ext {w W : World} {q : Nat} {v0 v1 v2 v3 v4 v5 : Value} (h : Ext w W) (hq : w.heap.size ≤ q) : Ext w (put6 W q v0 v1 v2 v3 v4 v5) := ext_far h put6_gr (fun r e => by cases e; exact hq)
theorem HStep.far {B B' : HeapB} {w w' w'' : World} (h : HStep B B' w w') {k : Nat} (hk : w.heap.size ≤ k) (g : w'.grownBy w'' (some k)) : HStep B B' w w'' :=
  ⟨h.f, h.s, h.wb, h.c, h.q, h.m, h.vf, h.vq, h.foot.trans (Foot.grown (F := fun j => j = k) g (fun _ e => by cases e; rfl)) (fun j e => .inr (e ▸ hk))⟩
theorem HeapAt.only {w w' : World} {hp : Nat} {B : HeapB} {X : HeapD} {T : List TypeId} (h : HeapAt w hp B X) (k : Only 0 T w w') (hT : ∀ t ∈ [59, 94, 91, 67, 106, 86, 96, 79, 77], t ∉ T) : HeapAt w' hp B X :=
  ⟨k.row h.blk (hT _ (by simp)), h.free.only k (hT _ (by simp)) (hT _ (by simp)), h.shad.only k (hT _ (by simp)) (hT _ (by simp)), k.row h.clk (hT _ (by simp)), h.quar.only k (hT _ (by simp)) (hT _ (by simp)), h.live.only k (hT _ (by simp)), h.low⟩
set_option maxHeartbeats 2000000 in
set_option maxRecDepth 40000 in
theorem alloc_any (hp : Nat) (B : HeapB) (X : HeapD) (n : Int) (w : World) (h : HeapAt w hp B X) (ok : HeapOk X) (hn : i64ok' n) : Calls Try.prog 15 #[.pointer (some ⟨hp, 0, none⟩), .int .i64 n] w fun e w' => e = .returned (.tuple #[(allocD X n).2.1.val, .int .i64 (allocD X n).2.2]) ∧ ∃ B', HeapAt w' hp B' (allocD X n).1 ∧ HStep B B' w w' := by
  have HR := Lib.hid (round_any n (w.alloc (.cells #[.bool false, .int .i64 0, .int .i64 0, .int .i64 0, .int .i64 0, .int .i64 0] 27)) hn)
  have HH := Lib.hid (And.intro h ok)
  have hlt := h.lt
  unfold allocD
  clear h ok
  cases hr : (roundD n).2 with
  | false =>
    rw [hr] at HR
    go_enter Try.func15, Try.ntmps15
    go_wp2_with fail
    refine HR.out.mono ?_
    rintro _ w1 ⟨rfl, hE⟩
    have h1 := (hE.block _ (by simp)).trans (heap_alloc_new w _)
    obtain ⟨y0, y1, y2, y3, y4, y5⟩ := lie6' h1 (Below.refl _ w1)
    have fz := frozen_row' h1
    have hl1 := cell_lt y0
    simp only at hl1
    have H1 := Lib.hid (And.intro ((Ext.alloc (Below.refl _ _) _).then hE) h1)
    clear hE h1
    go_wp2_with fail
    have h6 := put6_row H1.out.2 (.bool false) (.int .i64 0) (.int .i64 0) (.int .i64 0) (.int .i64 0) (.int .i64 0)
    have hX := put6_ext (q := w.heap.size) (v0 := .bool false) (v1 := .int .i64 0) (v2 := .int .i64 0) (v3 := .int .i64 0) (v4 := .int .i64 0) (v5 := .int .i64 0) H1.out.1 (Nat.le_refl _)
    obtain ⟨c0, c1, c2, c3, c4, c5⟩ := lie6' h6 (Below.refl _ _)
    unfold put6 at c0 c1 c2 c3 c4 c5
    exact bodyPost_ret (v := .tuple #[Cap.zero.val, .int .i64 1]) (by simp [results, Try.results15, go_sem, c0, c1, c2, c3, c4, c5, Cap.zero]) rfl ⟨rfl, B, HH.out.1.ext hX, HStep.ext hX⟩
  | true =>
    have hf := round_fits hr
    rw [hr] at HR
    cases ht : (takeR X.R (roundD n).1).2.2 with
    | false =>
      have hw := take_same ht
      obtain ⟨tk, htk⟩ : ∃ tk, tk = (roundD n).1 := ⟨_, rfl⟩
      rw [← htk] at HR ht hw
      have HT := Lib.hid (And.intro hf (And.intro ht hw))
      clear htk hf ht hw
      go_enter Try.func15, Try.ntmps15
      go_wp2_with fail
      refine HR.out.mono ?_
      rintro _ w1 ⟨rfl, hE⟩
      have h1 := (hE.block _ (by simp)).trans (heap_alloc_new w _)
      have e1 : Ext w w1 := (Ext.alloc (Below.refl _ _) _).then hE
      have hh := HH.out.1.ext e1
      have x6 := cellAt hh.blk 6 (.pointer (some ⟨B.f, 0, none⟩)) rfl
      have hl0 := hh.lt
      have HK := Lib.hid (take_any B.f X.root.base X.root.top B.vf B.bf X.R tk w1 hh.free)
      have H1 := Lib.hid (And.intro e1 (And.intro h1 hh))
      clear hE h1 e1 hh
      go_wp2_with fail
      refine HK.out.mono ?_
      rintro _ w2 ⟨rfl, v', p1, p2, p3⟩
      rw [HT.out.2.1]
      have h2 := H1.out.2.2.free' p2 p1
      rw [HT.out.2.2] at h2
      have hs2 := (HStep.ext (B := B) H1.out.1).trans (HStep.free (b' := B.bf) p2 (.inl p3))
      have hc2 : w2.heap[w.heap.size]? = some (.cells #[.bool false, .int .i64 0, .int .i64 0, .int .i64 0, .int .i64 0, .int .i64 0] 27) := (HStep.free (b' := B.bf) p2 (.inl p3)).row H1.out.2.2 H1.out.2.1 (by decide)
      obtain ⟨y0, y1, y2, y3, y4, y5⟩ := lie6' hc2 (Below.refl _ w2)
      have fz := frozen_row' hc2
      have hl1 := cell_lt y0
      simp only at hl1
      have H2 := Lib.hid (And.intro h2 (And.intro hs2 hc2))
      clear p1 p2 p3 h2 hs2 hc2 x6
      go_wp2_with fail
      have h6 := put6_row H2.out.2.2 (.bool false) (.int .i64 0) (.int .i64 0) (.int .i64 0) (.int .i64 0) (.int .i64 0)
      have hg := put6_gr (W := w2) (q := w.heap.size) (v0 := .bool false) (v1 := .int .i64 0) (v2 := .int .i64 0) (v3 := .int .i64 0) (v4 := .int .i64 0) (v5 := .int .i64 0)
      have hO : Only 0 [27] _ _ := (Kept.of_grown (p := w.heap.size) hg).only ⟨_, _, _, H2.out.2.2, by simp⟩ (fun g e => by cases e; exact ⟨_, _, _, H2.out.2.2, by simp⟩)
      obtain ⟨c0, c1, c2, c3, c4, c5⟩ := lie6' h6 (Below.refl _ _)
      unfold put6 at c0 c1 c2 c3 c4 c5
      exact bodyPost_ret (v := .tuple #[Cap.zero.val, .int .i64 5]) (by simp [results, Try.results15, go_sem, c0, c1, c2, c3, c4, c5, Cap.zero]) rfl ⟨rfl, _, H2.out.1.only hO (by decide), H2.out.2.1.far (Nat.le_refl _) hg⟩
    | true =>
      have hw := take_new HH.out.2 ht
      have hi : i64ok' (takeR X.R (roundD n).1).2.1 := by
        have h1 := HH.out.2.ends
        unfold mayBe at h1
        unfold i64ok'
        omega
      have hlen := HH.out.2.lens.1
      obtain ⟨tk, htk⟩ : ∃ tk, tk = (roundD n).1 := ⟨_, rfl⟩
      rw [← htk] at HR ht hw hf hi
      obtain ⟨at', hat⟩ : ∃ at', at' = (takeR X.R tk).2.1 := ⟨_, rfl⟩
      rw [← hat] at hw hi
      have HA := Lib.hid (And.intro htk hat)
      have HT := Lib.hid (And.intro hf (And.intro ht (And.intro hi (And.intro hw.1 (Nat.lt_of_le_of_lt hlen (by decide : 100000 < 1000000000))))))
      have hw' : 0 ≤ at' ∧ at' ≤ 16777216 := by
        have h1 := HH.out.2.ends
        unfold mayBe at h1
        omega
      have hn01 : 0 ≤ n ∧ n ≤ 65536 := ⟨hf.1, hf.2.1⟩
      clear hf ht hi hw htk
      go_enter Try.func15, Try.ntmps15
      go_wp2_with fail
      refine HR.out.mono ?_
      rintro _ w1 ⟨rfl, hE⟩
      have h1 := (hE.block _ (by simp)).trans (heap_alloc_new w _)
      have e1 : Ext w w1 := (Ext.alloc (Below.refl _ _) _).then hE
      have hh := HH.out.1.ext e1
      have x6 := cellAt hh.blk 6 (.pointer (some ⟨B.f, 0, none⟩)) rfl
      have hl0 := hh.lt
      have HK := Lib.hid (take_any B.f X.root.base X.root.top B.vf B.bf X.R tk w1 hh.free)
      have H1 := Lib.hid (And.intro e1 (And.intro h1 hh))
      clear hE h1 e1 hh
      go_wp2_with fail
      refine HK.out.mono ?_
      rintro _ w2 ⟨rfl, v', p1, p2, p3⟩
      rw [HT.out.2.1, ← hat]
      have h2 := H1.out.2.2.free' p2 p1
      have hs2 := (HStep.ext (B := B) H1.out.1).trans (HStep.free (b' := B.bf) p2 (.inl p3))
      have hc2 : w2.heap[w.heap.size]? = some (.cells #[.bool false, .int .i64 0, .int .i64 0, .int .i64 0, .int .i64 0, .int .i64 0] 27) := (HStep.free (b' := B.bf) p2 (.inl p3)).row H1.out.2.2 H1.out.2.1 (by decide)
      have H2 := Lib.hid (And.intro h2 (And.intro hs2 hc2))
      have hs9 : w.heap.size < w2.heap.size := (Array.getElem?_eq_some_iff.1 hc2).1
      clear p1 p2 p3 h2 hs2 hc2 x6 hat
      by_cases hn1 : n < 1
      · have hm1 : max n 1 = 1 := by omega
        obtain ⟨U, hU⟩ : ∃ U, U = w2.alloc (.cells #[.int .i64 1, .int .i64 tk] 77) := ⟨_, rfl⟩
        have eU : Ext w2 U := by rw [hU]; exact (by repeat first | (with_reducible exact Below.refl _ _) | (with_reducible apply Ext.alloc) | (with_reducible apply Ext.drew) | (with_reducible apply Ext.drewN) | (with_reducible refine Ext.set ?_ (by simp)))
        have hbU : U.heap[w2.heap.size]? = some (.cells #[.int .i64 1, .int .i64 tk] 77) := by rw [hU]; exact heap_alloc_new w2 _
        obtain ⟨w4, hup, hl4, hg4⟩ := (H2.out.1.live.ext eU).store HT.out.2.2.1 HT.out.2.2.2.1 HT.out.2.2.2.2 hbU
        have x10 := cellAt H2.out.1.blk 10 (.map (some B.m)) rfl
        have hl3 := H2.out.1.lt
        have h4 := (H2.out.1.ext eU).live' hg4 hl4
        have hs4 := (H2.out.2.1.then eU).trans (HStep.live hg4)
        have hc4 := map_only (H2.out.1.ext eU).live hg4 ((eU.block _ hs9).trans H2.out.2.2)
        have hk4 := map_only (H2.out.1.ext eU).live hg4 hbU
        have H4 := Lib.hid (And.intro h4 (And.intro hs4 (And.intro hc4 hk4)))
        rw [hU] at hup
        clear eU hbU hl4 hg4 hU
        obtain ⟨r0, r1, r2, r3, r4, r5⟩ : w4.cell? ⟨hp, 0, none⟩ = some (.bool X.root.tag) ∧ w4.cell? ⟨hp, 1, none⟩ = some (.int .i64 X.root.base) ∧ w4.cell? ⟨hp, 2, none⟩ = some (.int .i64 X.root.top) ∧ w4.cell? ⟨hp, 3, none⟩ = some (.int .i64 X.root.at') ∧ w4.cell? ⟨hp, 4, none⟩ = some (.int .i64 X.root.perms) ∧ w4.cell? ⟨hp, 5, none⟩ = some (.int .i64 X.root.ty) := ⟨cellAt h4.blk 0 _ rfl, cellAt h4.blk 1 _ rfl, cellAt h4.blk 2 _ rfl, cellAt h4.blk 3 _ rfl, cellAt h4.blk 4 _ rfl, cellAt h4.blk 5 _ rfl⟩
        have hl4 := h4.lt
        have x0b := cellAt hk4 0 (.int .i64 1) rfl
        have hkl := cell_lt x0b
        have hwm : IntKind.i64.wrap (at' + 1) = at' + 1 := IntWalk.i64_in _ (by omega)
        obtain ⟨y0, y1, y2, y3, y4, y5⟩ := lie6' hc4 (Below.refl _ w4)
        have fz := frozen_row' hc4
        have hl1 := cell_lt y0
        simp only at hl1 hkl
        clear h4 hs4 hc4 hk4
        go_wp2_with fail
        go_region
        go_wp2_with fail
        rw [← HA.out.1, ← HA.out.2]
        have h6 := put6_row H4.out.2.2.1 (.bool X.root.tag) (.int .i64 at') (.int .i64 (at' + 1)) (.int .i64 at') (.int .i64 X.root.perms) (.int .i64 X.root.ty)
        have hg := put6_gr (W := w4) (q := w.heap.size) (v0 := .bool X.root.tag) (v1 := .int .i64 at') (v2 := .int .i64 (at' + 1)) (v3 := .int .i64 at') (v4 := .int .i64 X.root.perms) (v5 := .int .i64 X.root.ty)
        have hO : Only 0 [27] _ _ := (Kept.of_grown (p := w.heap.size) hg).only ⟨_, _, _, H4.out.2.2.1, by simp⟩ (fun g e => by cases e; exact ⟨_, _, _, H4.out.2.2.1, by simp⟩)
        obtain ⟨c0, c1, c2, c3, c4, c5⟩ := lie6' h6 (Ext.alloc (Below.refl _ _) (.cells #[.bool X.root.tag, .int .i64 at', .int .i64 (at' + 1), .int .i64 at', .int .i64 X.root.perms, .int .i64 X.root.ty] 27))
        have hfin := (H4.out.1.only hO (by decide)).ext (Ext.drew (Ext.alloc (Below.refl _ _) (.cells #[.bool X.root.tag, .int .i64 at', .int .i64 (at' + 1), .int .i64 at', .int .i64 X.root.perms, .int .i64 X.root.ty] 27)))
        have hst := (H4.out.2.1.far (Nat.le_refl _) hg).then (Ext.drew (Ext.alloc (Below.refl _ _) (.cells #[.bool X.root.tag, .int .i64 at', .int .i64 (at' + 1), .int .i64 at', .int .i64 X.root.perms, .int .i64 X.root.ty] 27)))
        unfold put6 at c0 c1 c2 c3 c4 c5
        exact bodyPost_ret (v := .tuple #[.agg #[.bool X.root.tag, .int .i64 at', .int .i64 (at' + 1), .int .i64 at', .int .i64 X.root.perms, .int .i64 X.root.ty], .int .i64 0]) (by simp [results, Try.results15, go_sem, c0, c1, c2, c3, c4, c5]) rfl ⟨rfl, _, hfin, hst⟩
      · have hm1 : max n 1 = n := by omega
        obtain ⟨U, hU⟩ : ∃ U, U = w2.alloc (.cells #[.int .i64 n, .int .i64 tk] 77) := ⟨_, rfl⟩
        have eU : Ext w2 U := by rw [hU]; exact (by repeat first | (with_reducible exact Below.refl _ _) | (with_reducible apply Ext.alloc) | (with_reducible apply Ext.drew) | (with_reducible apply Ext.drewN) | (with_reducible refine Ext.set ?_ (by simp)))
        have hbU : U.heap[w2.heap.size]? = some (.cells #[.int .i64 n, .int .i64 tk] 77) := by rw [hU]; exact heap_alloc_new w2 _
        obtain ⟨w4, hup, hl4, hg4⟩ := (H2.out.1.live.ext eU).store HT.out.2.2.1 HT.out.2.2.2.1 HT.out.2.2.2.2 hbU
        have x10 := cellAt H2.out.1.blk 10 (.map (some B.m)) rfl
        have hl3 := H2.out.1.lt
        have h4 := (H2.out.1.ext eU).live' hg4 hl4
        have hs4 := (H2.out.2.1.then eU).trans (HStep.live hg4)
        have hc4 := map_only (H2.out.1.ext eU).live hg4 ((eU.block _ hs9).trans H2.out.2.2)
        have hk4 := map_only (H2.out.1.ext eU).live hg4 hbU
        have H4 := Lib.hid (And.intro h4 (And.intro hs4 (And.intro hc4 hk4)))
        rw [hU] at hup
        clear eU hbU hl4 hg4 hU
        obtain ⟨r0, r1, r2, r3, r4, r5⟩ : w4.cell? ⟨hp, 0, none⟩ = some (.bool X.root.tag) ∧ w4.cell? ⟨hp, 1, none⟩ = some (.int .i64 X.root.base) ∧ w4.cell? ⟨hp, 2, none⟩ = some (.int .i64 X.root.top) ∧ w4.cell? ⟨hp, 3, none⟩ = some (.int .i64 X.root.at') ∧ w4.cell? ⟨hp, 4, none⟩ = some (.int .i64 X.root.perms) ∧ w4.cell? ⟨hp, 5, none⟩ = some (.int .i64 X.root.ty) := ⟨cellAt h4.blk 0 _ rfl, cellAt h4.blk 1 _ rfl, cellAt h4.blk 2 _ rfl, cellAt h4.blk 3 _ rfl, cellAt h4.blk 4 _ rfl, cellAt h4.blk 5 _ rfl⟩
        have hl4 := h4.lt
        have x0b := cellAt hk4 0 (.int .i64 n) rfl
        have hkl := cell_lt x0b
        have hwm : IntKind.i64.wrap (at' + n) = at' + n := IntWalk.i64_in _ (by omega)
        obtain ⟨y0, y1, y2, y3, y4, y5⟩ := lie6' hc4 (Below.refl _ w4)
        have fz := frozen_row' hc4
        have hl1 := cell_lt y0
        simp only at hl1 hkl
        clear h4 hs4 hc4 hk4
        go_wp2_with fail
        go_region
        go_wp2_with fail
        rw [← HA.out.1, ← HA.out.2]
        have h6 := put6_row H4.out.2.2.1 (.bool X.root.tag) (.int .i64 at') (.int .i64 (at' + n)) (.int .i64 at') (.int .i64 X.root.perms) (.int .i64 X.root.ty)
        have hg := put6_gr (W := w4) (q := w.heap.size) (v0 := .bool X.root.tag) (v1 := .int .i64 at') (v2 := .int .i64 (at' + n)) (v3 := .int .i64 at') (v4 := .int .i64 X.root.perms) (v5 := .int .i64 X.root.ty)
        have hO : Only 0 [27] _ _ := (Kept.of_grown (p := w.heap.size) hg).only ⟨_, _, _, H4.out.2.2.1, by simp⟩ (fun g e => by cases e; exact ⟨_, _, _, H4.out.2.2.1, by simp⟩)
        obtain ⟨c0, c1, c2, c3, c4, c5⟩ := lie6' h6 (Ext.alloc (Below.refl _ _) (.cells #[.bool X.root.tag, .int .i64 at', .int .i64 (at' + n), .int .i64 at', .int .i64 X.root.perms, .int .i64 X.root.ty] 27))
        have hfin := (H4.out.1.only hO (by decide)).ext (Ext.drew (Ext.alloc (Below.refl _ _) (.cells #[.bool X.root.tag, .int .i64 at', .int .i64 (at' + n), .int .i64 at', .int .i64 X.root.perms, .int .i64 X.root.ty] 27)))
        have hst := (H4.out.2.1.far (Nat.le_refl _) hg).then (Ext.drew (Ext.alloc (Below.refl _ _) (.cells #[.bool X.root.tag, .int .i64 at', .int .i64 (at' + n), .int .i64 at', .int .i64 X.root.perms, .int .i64 X.root.ty] 27)))
        unfold put6 at c0 c1 c2 c3 c4 c5
        exact bodyPost_ret (v := .tuple #[.agg #[.bool X.root.tag, .int .i64 at', .int .i64 (at' + n), .int .i64 at', .int .i64 X.root.perms, .int .i64 X.root.ty], .int .i64 0]) (by simp [results, Try.results15, go_sem, c0, c1, c2, c3, c4, c5]) rfl ⟨rfl, _, hfin, hst⟩
end Go.Proofs.Ytpjlhkepdiajjaa

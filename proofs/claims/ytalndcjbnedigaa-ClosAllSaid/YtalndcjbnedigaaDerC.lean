
/- Package derive: made, and what it is given. -/
import Derived.Test.YtalndcjbnedigaaDerB
set_option linter.all false
namespace Go.Proofs.Ytalndcjbnedigaa
open Go.RowKit Go.Shelf
attribute [local go_sem] seen dstOf boolOf

/-- What a change of one's own capability does. -/
def Chg (f : Cap → Cap) (c : Cap) (b : Nat) (W : World) (e : Ending) (W' : World) : Prop := e = .returned (.tuple #[]) ∧ W'.heap[b]? = some (.cells (f c).cells.toArray 24) ∧ W.grownBy W' (some b)
def TupPost (w : World) (x : Cap × Int) (e : Ending) (w' : World) : Prop := e = .returned (.tuple #[x.1.val, .int .i64 x.2]) ∧ Ext w w'
theorem set_cells6 {W : World} {q : Nat} {a0 a1 a2 a3 a4 a5 : Value} {t : TypeId} (hq : W.heap[q]? = some (.cells #[a0, a1, a2, a3, a4, a5] t)) (v0 v1 v2 v3 v4 v5 : Value) :
    ((((((W.setCell ⟨q, 0, none⟩ v0).setCell ⟨q, 1, none⟩ v1).setCell ⟨q, 2, none⟩ v2).setCell ⟨q, 3, none⟩ v3).setCell ⟨q, 4, none⟩ v4).setCell ⟨q, 5, none⟩ v5).heap[q]? = some (.cells #[v0, v1, v2, v3, v4, v5] t) := by
  have h0 := set_row (o := 0) hq v0
  have h1 := set_row (o := 1) h0 v1
  have h2 := set_row (o := 2) h1 v2
  have h3 := set_row (o := 3) h2 v3
  have h4 := set_row (o := 4) h3 v4
  have h5 := set_row (o := 5) h4 v5
  rw [h5]
  rfl
set_option maxHeartbeats 1000000 in
set_option maxRecDepth 20000 in
theorem made_any (f : Cap → Cap) (g : Nat) (q : Array Value) (c : Cap) (A : Option Addr) (cp : Nat) (l : List Must) (w : World) (hA : Arr w A (mustCells l)) (hl : l.length ≤ 1000) (eg : ∀ args w, (callFunc g args).run Try.prog w = .ok (.enter g args) w)
    (hf : ∀ (W : World) (b : Nat), Ext w W → w.heap.size ≤ b → W.heap[b]? = some (.cells c.cells.toArray 24) → Calls Try.prog g (#[.pointer (some ⟨b, 0, none⟩)] ++ q) W (Chg f c b W)) :
    Calls Try.prog 69 #[c.val, .func (.func g) #[] q, .slice A l.length cp] w (TupPost w (madeD f c l)) := by
  have HF := Lib.hid hf
  obtain ⟨r, hr⟩ : ∃ r, r = madeD f c l := ⟨_, rfl⟩
  rw [← hr]
  unfold madeD at hr
  have HR := Lib.hid hr
  clear hf hr
  go_enter Try.func69, Try.ntmps69
  go_wp2_with fail
  refine (first_any A cp l _ (hA.ext (by repeat first | (with_reducible exact Below.refl _ _) | (with_reducible apply Ext.alloc) | (with_reducible apply Ext.drew) | (with_reducible apply Ext.drewN) | (with_reducible refine Ext.set ?_ (by simp)))) hl).mono ?_
  rintro _ w1 ⟨rfl, hE⟩
  have hb0 : Hid (w1.heap[w.heap.size]? = some (.cells c.cells.toArray 24)) := Lib.hid ((hE.block _ (by simp; omega)).trans (new_at (w := w) rfl (Ext.alloc (Below.refl _ _) _)))
  have hb1 : Hid (w1.heap[w.heap.size + 1]? = some (.cells #[.bool false, .int .i64 0, .int .i64 0, .int .i64 0, .int .i64 0, .int .i64 0] 24)) := Lib.hid ((hE.block _ (by simp)).trans (new_at (w := w.alloc _) (by simp) (Below.refl _ _)))
  have E1 : Hid (Ext w w1) := Lib.hid (Ext.then (by repeat first | (with_reducible exact Below.refl _ _) | (with_reducible apply Ext.alloc) | (with_reducible apply Ext.drew) | (with_reducible apply Ext.drewN) | (with_reducible refine Ext.set ?_ (by simp))) hE)
  clear hE
  generalize firstE l = e at HR
  by_cases he : e = 0
  · have d1 : (e != 0) = false := by rw [he]; rfl
    have hr : r = (f c, 0) := by rw [HR.out, if_pos he]
    subst hr
    clear he
    go_wp2_with fail
    refine (HF.out _ _ E1.out (Nat.le_refl _) hb0.out).mono ?_
    rintro _ w2 ⟨rfl, h2, hg⟩
    have h3 := (hg.block (w.heap.size + 1) (Array.getElem?_eq_some_iff.1 hb1.out).1 (by simp)).trans hb1.out
    have E2 : Hid (Ext w w2) := Lib.hid ⟨hg.os.trans E1.out.os, hg.tape.trans E1.out.tape, hg.output.trans E1.out.output, Nat.le_trans E1.out.size hg.size, fun k hk => (hg.block k (Nat.lt_of_lt_of_le hk E1.out.size) (by simp; omega)).trans (E1.out.block k hk)⟩
    obtain ⟨z0, z1, z2, z3, z4, z5⟩ := lie6' h2 (Below.refl _ w2)
    obtain ⟨y0, y1, y2, y3, y4, y5⟩ := lie6' h3 (Below.refl _ w2)
    have fz := frozen_row' h3
    have hlt := cell_lt y0
    have hlt0 := cell_lt z0
    simp only at hlt hlt0
    have H3 := Lib.hid h3
    clear h2 hg h3
    go_wp2_with fail
    have h6 := set_cells6 H3.out (.bool (f c).tag) (.int .i64 (f c).base) (.int .i64 (f c).top) (.int .i64 (f c).at') (.int .i64 (f c).perms) (.int .i64 (f c).ty)
    obtain ⟨c0, c1, c2, c3, c4, c5⟩ := lie6' h6 (Below.refl _ _)
    exact bodyPost_ret (v := .tuple #[(f c).val, .int .i64 0]) (by simp [results, Try.results69, go_sem, c0, c1, c2, c3, c4, c5]) rfl ⟨rfl, (((((E2.out.set (by simp)).set (by simp)).set (by simp)).set (by simp)).set (by simp)).set (by simp)⟩
  · have d1 : (e != 0) = true := by rw [bne_iff_ne]; exact he
    have hr : r = (Cap.zero, e) := by rw [HR.out, if_neg he]
    subst hr
    clear he
    obtain ⟨y0, y1, y2, y3, y4, y5⟩ := lie6' hb1.out (Below.refl _ w1)
    have fz := frozen_row' hb1.out
    have hlt := cell_lt y0
    simp only at hlt
    go_wp2_with fail
    have h6 := set_cells6 hb1.out (.bool false) (.int .i64 0) (.int .i64 0) (.int .i64 0) (.int .i64 0) (.int .i64 0)
    obtain ⟨c0, c1, c2, c3, c4, c5⟩ := lie6' h6 (Below.refl _ _)
    exact bodyPost_ret (v := .tuple #[Cap.zero.val, .int .i64 e]) (by simp [results, Try.results69, go_sem, c0, c1, c2, c3, c4, c5, Cap.zero]) rfl ⟨rfl, (((((E1.out.set (by simp)).set (by simp)).set (by simp)).set (by simp)).set (by simp)).set (by simp)⟩
end Go.Proofs.Ytalndcjbnedigaa

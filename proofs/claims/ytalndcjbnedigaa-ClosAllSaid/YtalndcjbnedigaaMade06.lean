
/- What is made of two, in some way: seizinlaw06's own made. -/
import Derived.Test.YtalndcjbnedigaaDerG
import Derived.Test.YtalndcjbnedigaaDerQ
import Derived.Deep.DeepCutAuto
set_option linter.all false
namespace Go.Proofs.Ytalndcjbnedigaa
open Go.RowKit Go.Shelf
attribute [local go_sem] seen dstOf boolOf

def CapPost (w : World) (c : Cap) (e : Ending) (w' : World) : Prop := e = .returned c.val ∧ Ext w w'
set_option maxHeartbeats 4000000 in
set_option maxRecDepth 20000 in
theorem made06_any (c d : Cap) (n k : Int) (w : World) (hc : CapWf c) (hd : CapWf d) (hn : i64ok' n) (h1 : 0 ≤ k) (h2 : k ≤ 255) : Calls Try.prog 23 #[c.val, d.val, .int .i64 n, .int .u8 k] w (CapPost w (madeC c d n (k % 8))) := by
  obtain ⟨X, hX⟩ : ∃ X, X = madeC c d n (k % 8) := ⟨_, rfl⟩
  rw [← hX]
  unfold madeC at hX
  have hm : k.tmod 8 = k % 8 := Int.tmod_eq_emod_of_nonneg h1
  obtain ⟨r, hr⟩ : ∃ r, r = k % 8 := ⟨_, rfl⟩
  rw [← hr] at hm hX
  have hr1 : 0 ≤ r := by omega
  have hr2 : r < 8 := by omega
  clear hr
  by_cases e0 : r = 0
  · rw [if_pos e0] at hX
    subst e0
    have HX := Lib.hid hX
    have HB := Lib.hid (fun w => bounds_any c n w hc)
    clear hX
    go_enter Try.func23, Try.ntmps23
    go_wp2_with fail
    refine (HB.out _).mono ?_
    generalize boundsD c n = Y at HX
    rintro _ w1 ⟨rfl, hE⟩
    have E1 : Hid (Ext w w1) := Lib.hid (Ext.then (by repeat first | (with_reducible exact Below.refl _ _) | (with_reducible apply Ext.alloc) | (with_reducible apply Ext.drew) | (with_reducible apply Ext.drewN) | (with_reducible refine Ext.set ?_ (by simp))) hE)
    have b2 := Lib.hid ((hE.block _ (by simp)).trans (new_at (w := (w.alloc _).alloc _) (b := w.heap.size + 1 + 1) (o := .cells #[.bool false, .int .i64 0, .int .i64 0, .int .i64 0, .int .i64 0, .int .i64 0] 24) (by simp) (Ext.alloc (Below.refl _ _) _)))
    have b3 := Lib.hid ((hE.block _ (by simp)).trans (new_at (w := ((w.alloc _).alloc _).alloc _) (b := w.heap.size + 1 + 1 + 1) (o := .cells #[.bool false, .int .i64 0, .int .i64 0, .int .i64 0, .int .i64 0, .int .i64 0] 24) (by simp) (Below.refl _ _)))
    clear hE
    go_upto_region 8 with fail
    obtain ⟨V, hV⟩ : ∃ V, V = w1.alloc (.cells #[.bool Y.1.tag, .int .i64 Y.1.base, .int .i64 Y.1.top, .int .i64 Y.1.at', .int .i64 Y.1.perms, .int .i64 Y.1.ty] 24) := ⟨_, rfl⟩
    have EV : Hid (Ext w1 V) := Lib.hid (by rw [hV]; exact (by repeat first | (with_reducible exact Below.refl _ _) | (with_reducible apply Ext.alloc) | (with_reducible apply Ext.drew) | (with_reducible apply Ext.drewN) | (with_reducible refine Ext.set ?_ (by simp))))
    have xb : V.heap[w1.heap.size]? = some (.cells #[.bool Y.1.tag, .int .i64 Y.1.base, .int .i64 Y.1.top, .int .i64 Y.1.at', .int .i64 Y.1.perms, .int .i64 Y.1.ty] 24) := by rw [hV]; exact heap_alloc_new w1 _
    rw [← hV]
    obtain ⟨x0, x1, x2, x3, x4, x5⟩ := lie6' xb (Below.refl _ V)
    have HV2 := Lib.hid (ext_at EV.out b2.out)
    have h3 := ext_at EV.out b3.out
    obtain ⟨y0, y1, y2, y3, y4, y5⟩ := lie6' h3 (Below.refl _ V)
    obtain ⟨z0, z1, z2, z3, z4, z5⟩ := lie6' HV2.out (Below.refl _ V)
    have fz := frozen_row' h3
    have fz2 := frozen_row' HV2.out
    have hlt := cell_lt y0
    have hlt1 := cell_lt z0
    have hlt2 := cell_lt x0
    simp only at hlt hlt1 hlt2
    clear hV xb h3
    go_wp2_with fail
    have g2 := grown_at (grown_set6 (w := V) (b := w.heap.size + 1 + 1 + 1) (v0 := .bool Y.1.tag) (v1 := .int .i64 Y.1.base) (v2 := .int .i64 Y.1.top) (v3 := .int .i64 Y.1.at') (v4 := .int .i64 Y.1.perms) (v5 := .int .i64 Y.1.ty)) HV2.out (by omega)
    obtain ⟨c0, c1, c2, c3, c4, c5⟩ := lie6' (set_cells6 g2 (.bool Y.1.tag) (.int .i64 Y.1.base) (.int .i64 Y.1.top) (.int .i64 Y.1.at') (.int .i64 Y.1.perms) (.int .i64 Y.1.ty)) (Below.refl _ _)
    refine bodyPost_ret (v := Y.1.val) (by simp [results, Try.results23, go_sem, c0, c1, c2, c3, c4, c5]) rfl ⟨by rw [HX.out], ext_grown (ext_grown (E1.out.then EV.out) grown_set6 (by omega)) grown_set6 (by omega)⟩
  rw [if_neg e0] at hX
  by_cases e1 : r = 1
  · rw [if_pos e1] at hX
    subst e1
    have HX := Lib.hid hX
    have HB := Lib.hid (fun w => perms_any c n w hc hn)
    clear hX
    go_enter Try.func23, Try.ntmps23
    go_wp2_with fail
    refine (HB.out _).mono ?_
    generalize permsD c n = Y at HX
    rintro _ w1 ⟨rfl, hE⟩
    have E1 : Hid (Ext w w1) := Lib.hid (Ext.then (by repeat first | (with_reducible exact Below.refl _ _) | (with_reducible apply Ext.alloc) | (with_reducible apply Ext.drew) | (with_reducible apply Ext.drewN) | (with_reducible refine Ext.set ?_ (by simp))) hE)
    have b2 := Lib.hid ((hE.block _ (by simp)).trans (new_at (w := (w.alloc _).alloc _) (b := w.heap.size + 1 + 1) (o := .cells #[.bool false, .int .i64 0, .int .i64 0, .int .i64 0, .int .i64 0, .int .i64 0] 24) (by simp) (Ext.alloc (Below.refl _ _) _)))
    have b3 := Lib.hid ((hE.block _ (by simp)).trans (new_at (w := ((w.alloc _).alloc _).alloc _) (b := w.heap.size + 1 + 1 + 1) (o := .cells #[.bool false, .int .i64 0, .int .i64 0, .int .i64 0, .int .i64 0, .int .i64 0] 24) (by simp) (Below.refl _ _)))
    clear hE
    go_upto_region 11 with fail
    obtain ⟨V, hV⟩ : ∃ V, V = w1.alloc (.cells #[.bool Y.1.tag, .int .i64 Y.1.base, .int .i64 Y.1.top, .int .i64 Y.1.at', .int .i64 Y.1.perms, .int .i64 Y.1.ty] 24) := ⟨_, rfl⟩
    have EV : Hid (Ext w1 V) := Lib.hid (by rw [hV]; exact (by repeat first | (with_reducible exact Below.refl _ _) | (with_reducible apply Ext.alloc) | (with_reducible apply Ext.drew) | (with_reducible apply Ext.drewN) | (with_reducible refine Ext.set ?_ (by simp))))
    have xb : V.heap[w1.heap.size]? = some (.cells #[.bool Y.1.tag, .int .i64 Y.1.base, .int .i64 Y.1.top, .int .i64 Y.1.at', .int .i64 Y.1.perms, .int .i64 Y.1.ty] 24) := by rw [hV]; exact heap_alloc_new w1 _
    rw [← hV]
    obtain ⟨x0, x1, x2, x3, x4, x5⟩ := lie6' xb (Below.refl _ V)
    have HV2 := Lib.hid (ext_at EV.out b2.out)
    have h3 := ext_at EV.out b3.out
    obtain ⟨y0, y1, y2, y3, y4, y5⟩ := lie6' h3 (Below.refl _ V)
    obtain ⟨z0, z1, z2, z3, z4, z5⟩ := lie6' HV2.out (Below.refl _ V)
    have fz := frozen_row' h3
    have fz2 := frozen_row' HV2.out
    have hlt := cell_lt y0
    have hlt1 := cell_lt z0
    have hlt2 := cell_lt x0
    simp only at hlt hlt1 hlt2
    clear hV xb h3
    go_wp2_with fail
    have g2 := grown_at (grown_set6 (w := V) (b := w.heap.size + 1 + 1 + 1) (v0 := .bool Y.1.tag) (v1 := .int .i64 Y.1.base) (v2 := .int .i64 Y.1.top) (v3 := .int .i64 Y.1.at') (v4 := .int .i64 Y.1.perms) (v5 := .int .i64 Y.1.ty)) HV2.out (by omega)
    obtain ⟨c0, c1, c2, c3, c4, c5⟩ := lie6' (set_cells6 g2 (.bool Y.1.tag) (.int .i64 Y.1.base) (.int .i64 Y.1.top) (.int .i64 Y.1.at') (.int .i64 Y.1.perms) (.int .i64 Y.1.ty)) (Below.refl _ _)
    refine bodyPost_ret (v := Y.1.val) (by simp [results, Try.results23, go_sem, c0, c1, c2, c3, c4, c5]) rfl ⟨by rw [HX.out], ext_grown (ext_grown (E1.out.then EV.out) grown_set6 (by omega)) grown_set6 (by omega)⟩
  rw [if_neg e1] at hX
  by_cases e2 : r = 2
  · rw [if_pos e2] at hX
    subst e2
    have HX := Lib.hid hX
    have HB := Lib.hid (fun w => move_any c n w hc)
    clear hX
    go_enter Try.func23, Try.ntmps23
    go_wp2_with fail
    refine (HB.out _).mono ?_
    generalize moveD c n = Y at HX
    rintro _ w1 ⟨rfl, hE⟩
    have E1 : Hid (Ext w w1) := Lib.hid (Ext.then (by repeat first | (with_reducible exact Below.refl _ _) | (with_reducible apply Ext.alloc) | (with_reducible apply Ext.drew) | (with_reducible apply Ext.drewN) | (with_reducible refine Ext.set ?_ (by simp))) hE)
    have b2 := Lib.hid ((hE.block _ (by simp)).trans (new_at (w := (w.alloc _).alloc _) (b := w.heap.size + 1 + 1) (o := .cells #[.bool false, .int .i64 0, .int .i64 0, .int .i64 0, .int .i64 0, .int .i64 0] 24) (by simp) (Ext.alloc (Below.refl _ _) _)))
    have b3 := Lib.hid ((hE.block _ (by simp)).trans (new_at (w := ((w.alloc _).alloc _).alloc _) (b := w.heap.size + 1 + 1 + 1) (o := .cells #[.bool false, .int .i64 0, .int .i64 0, .int .i64 0, .int .i64 0, .int .i64 0] 24) (by simp) (Below.refl _ _)))
    clear hE
    go_upto_region 14 with fail
    obtain ⟨V, hV⟩ : ∃ V, V = w1.alloc (.cells #[.bool Y.1.tag, .int .i64 Y.1.base, .int .i64 Y.1.top, .int .i64 Y.1.at', .int .i64 Y.1.perms, .int .i64 Y.1.ty] 24) := ⟨_, rfl⟩
    have EV : Hid (Ext w1 V) := Lib.hid (by rw [hV]; exact (by repeat first | (with_reducible exact Below.refl _ _) | (with_reducible apply Ext.alloc) | (with_reducible apply Ext.drew) | (with_reducible apply Ext.drewN) | (with_reducible refine Ext.set ?_ (by simp))))
    have xb : V.heap[w1.heap.size]? = some (.cells #[.bool Y.1.tag, .int .i64 Y.1.base, .int .i64 Y.1.top, .int .i64 Y.1.at', .int .i64 Y.1.perms, .int .i64 Y.1.ty] 24) := by rw [hV]; exact heap_alloc_new w1 _
    rw [← hV]
    obtain ⟨x0, x1, x2, x3, x4, x5⟩ := lie6' xb (Below.refl _ V)
    have HV2 := Lib.hid (ext_at EV.out b2.out)
    have h3 := ext_at EV.out b3.out
    obtain ⟨y0, y1, y2, y3, y4, y5⟩ := lie6' h3 (Below.refl _ V)
    obtain ⟨z0, z1, z2, z3, z4, z5⟩ := lie6' HV2.out (Below.refl _ V)
    have fz := frozen_row' h3
    have fz2 := frozen_row' HV2.out
    have hlt := cell_lt y0
    have hlt1 := cell_lt z0
    have hlt2 := cell_lt x0
    simp only at hlt hlt1 hlt2
    clear hV xb h3
    go_wp2_with fail
    have g2 := grown_at (grown_set6 (w := V) (b := w.heap.size + 1 + 1 + 1) (v0 := .bool Y.1.tag) (v1 := .int .i64 Y.1.base) (v2 := .int .i64 Y.1.top) (v3 := .int .i64 Y.1.at') (v4 := .int .i64 Y.1.perms) (v5 := .int .i64 Y.1.ty)) HV2.out (by omega)
    obtain ⟨c0, c1, c2, c3, c4, c5⟩ := lie6' (set_cells6 g2 (.bool Y.1.tag) (.int .i64 Y.1.base) (.int .i64 Y.1.top) (.int .i64 Y.1.at') (.int .i64 Y.1.perms) (.int .i64 Y.1.ty)) (Below.refl _ _)
    refine bodyPost_ret (v := Y.1.val) (by simp [results, Try.results23, go_sem, c0, c1, c2, c3, c4, c5]) rfl ⟨by rw [HX.out], ext_grown (ext_grown (E1.out.then EV.out) grown_set6 (by omega)) grown_set6 (by omega)⟩
  rw [if_neg e2] at hX
  by_cases e3 : r = 3
  · rw [if_pos e3] at hX
    subst e3
    have HX := Lib.hid hX
    have HB := Lib.hid (fun w => seal_any c d w hc hd)
    clear hX
    go_enter Try.func23, Try.ntmps23
    go_wp2_with fail
    refine (HB.out _).mono ?_
    generalize sealD c d = Y at HX
    rintro _ w1 ⟨rfl, hE⟩
    have E1 : Hid (Ext w w1) := Lib.hid (Ext.then (by repeat first | (with_reducible exact Below.refl _ _) | (with_reducible apply Ext.alloc) | (with_reducible apply Ext.drew) | (with_reducible apply Ext.drewN) | (with_reducible refine Ext.set ?_ (by simp))) hE)
    have b2 := Lib.hid ((hE.block _ (by simp)).trans (new_at (w := (w.alloc _).alloc _) (b := w.heap.size + 1 + 1) (o := .cells #[.bool false, .int .i64 0, .int .i64 0, .int .i64 0, .int .i64 0, .int .i64 0] 24) (by simp) (Ext.alloc (Below.refl _ _) _)))
    have b3 := Lib.hid ((hE.block _ (by simp)).trans (new_at (w := ((w.alloc _).alloc _).alloc _) (b := w.heap.size + 1 + 1 + 1) (o := .cells #[.bool false, .int .i64 0, .int .i64 0, .int .i64 0, .int .i64 0, .int .i64 0] 24) (by simp) (Below.refl _ _)))
    clear hE
    go_upto_region 17 with fail
    obtain ⟨V, hV⟩ : ∃ V, V = w1.alloc (.cells #[.bool Y.1.tag, .int .i64 Y.1.base, .int .i64 Y.1.top, .int .i64 Y.1.at', .int .i64 Y.1.perms, .int .i64 Y.1.ty] 24) := ⟨_, rfl⟩
    have EV : Hid (Ext w1 V) := Lib.hid (by rw [hV]; exact (by repeat first | (with_reducible exact Below.refl _ _) | (with_reducible apply Ext.alloc) | (with_reducible apply Ext.drew) | (with_reducible apply Ext.drewN) | (with_reducible refine Ext.set ?_ (by simp))))
    have xb : V.heap[w1.heap.size]? = some (.cells #[.bool Y.1.tag, .int .i64 Y.1.base, .int .i64 Y.1.top, .int .i64 Y.1.at', .int .i64 Y.1.perms, .int .i64 Y.1.ty] 24) := by rw [hV]; exact heap_alloc_new w1 _
    rw [← hV]
    obtain ⟨x0, x1, x2, x3, x4, x5⟩ := lie6' xb (Below.refl _ V)
    have HV2 := Lib.hid (ext_at EV.out b2.out)
    have h3 := ext_at EV.out b3.out
    obtain ⟨y0, y1, y2, y3, y4, y5⟩ := lie6' h3 (Below.refl _ V)
    obtain ⟨z0, z1, z2, z3, z4, z5⟩ := lie6' HV2.out (Below.refl _ V)
    have fz := frozen_row' h3
    have fz2 := frozen_row' HV2.out
    have hlt := cell_lt y0
    have hlt1 := cell_lt z0
    have hlt2 := cell_lt x0
    simp only at hlt hlt1 hlt2
    clear hV xb h3
    go_wp2_with fail
    have g2 := grown_at (grown_set6 (w := V) (b := w.heap.size + 1 + 1 + 1) (v0 := .bool Y.1.tag) (v1 := .int .i64 Y.1.base) (v2 := .int .i64 Y.1.top) (v3 := .int .i64 Y.1.at') (v4 := .int .i64 Y.1.perms) (v5 := .int .i64 Y.1.ty)) HV2.out (by omega)
    obtain ⟨c0, c1, c2, c3, c4, c5⟩ := lie6' (set_cells6 g2 (.bool Y.1.tag) (.int .i64 Y.1.base) (.int .i64 Y.1.top) (.int .i64 Y.1.at') (.int .i64 Y.1.perms) (.int .i64 Y.1.ty)) (Below.refl _ _)
    refine bodyPost_ret (v := Y.1.val) (by simp [results, Try.results23, go_sem, c0, c1, c2, c3, c4, c5]) rfl ⟨by rw [HX.out], ext_grown (ext_grown (E1.out.then EV.out) grown_set6 (by omega)) grown_set6 (by omega)⟩
  rw [if_neg e3] at hX
  by_cases e4 : r = 4
  · rw [if_pos e4] at hX
    subst e4
    have HX := Lib.hid hX
    have HB := Lib.hid (fun w => unseal_any c d w hc hd)
    clear hX
    go_enter Try.func23, Try.ntmps23
    go_wp2_with fail
    refine (HB.out _).mono ?_
    generalize unsealD c d = Y at HX
    rintro _ w1 ⟨rfl, hE⟩
    have E1 : Hid (Ext w w1) := Lib.hid (Ext.then (by repeat first | (with_reducible exact Below.refl _ _) | (with_reducible apply Ext.alloc) | (with_reducible apply Ext.drew) | (with_reducible apply Ext.drewN) | (with_reducible refine Ext.set ?_ (by simp))) hE)
    have b2 := Lib.hid ((hE.block _ (by simp)).trans (new_at (w := (w.alloc _).alloc _) (b := w.heap.size + 1 + 1) (o := .cells #[.bool false, .int .i64 0, .int .i64 0, .int .i64 0, .int .i64 0, .int .i64 0] 24) (by simp) (Ext.alloc (Below.refl _ _) _)))
    have b3 := Lib.hid ((hE.block _ (by simp)).trans (new_at (w := ((w.alloc _).alloc _).alloc _) (b := w.heap.size + 1 + 1 + 1) (o := .cells #[.bool false, .int .i64 0, .int .i64 0, .int .i64 0, .int .i64 0, .int .i64 0] 24) (by simp) (Below.refl _ _)))
    clear hE
    go_upto_region 20 with fail
    obtain ⟨V, hV⟩ : ∃ V, V = w1.alloc (.cells #[.bool Y.1.tag, .int .i64 Y.1.base, .int .i64 Y.1.top, .int .i64 Y.1.at', .int .i64 Y.1.perms, .int .i64 Y.1.ty] 24) := ⟨_, rfl⟩
    have EV : Hid (Ext w1 V) := Lib.hid (by rw [hV]; exact (by repeat first | (with_reducible exact Below.refl _ _) | (with_reducible apply Ext.alloc) | (with_reducible apply Ext.drew) | (with_reducible apply Ext.drewN) | (with_reducible refine Ext.set ?_ (by simp))))
    have xb : V.heap[w1.heap.size]? = some (.cells #[.bool Y.1.tag, .int .i64 Y.1.base, .int .i64 Y.1.top, .int .i64 Y.1.at', .int .i64 Y.1.perms, .int .i64 Y.1.ty] 24) := by rw [hV]; exact heap_alloc_new w1 _
    rw [← hV]
    obtain ⟨x0, x1, x2, x3, x4, x5⟩ := lie6' xb (Below.refl _ V)
    have HV2 := Lib.hid (ext_at EV.out b2.out)
    have h3 := ext_at EV.out b3.out
    obtain ⟨y0, y1, y2, y3, y4, y5⟩ := lie6' h3 (Below.refl _ V)
    obtain ⟨z0, z1, z2, z3, z4, z5⟩ := lie6' HV2.out (Below.refl _ V)
    have fz := frozen_row' h3
    have fz2 := frozen_row' HV2.out
    have hlt := cell_lt y0
    have hlt1 := cell_lt z0
    have hlt2 := cell_lt x0
    simp only at hlt hlt1 hlt2
    clear hV xb h3
    go_wp2_with fail
    have g2 := grown_at (grown_set6 (w := V) (b := w.heap.size + 1 + 1 + 1) (v0 := .bool Y.1.tag) (v1 := .int .i64 Y.1.base) (v2 := .int .i64 Y.1.top) (v3 := .int .i64 Y.1.at') (v4 := .int .i64 Y.1.perms) (v5 := .int .i64 Y.1.ty)) HV2.out (by omega)
    obtain ⟨c0, c1, c2, c3, c4, c5⟩ := lie6' (set_cells6 g2 (.bool Y.1.tag) (.int .i64 Y.1.base) (.int .i64 Y.1.top) (.int .i64 Y.1.at') (.int .i64 Y.1.perms) (.int .i64 Y.1.ty)) (Below.refl _ _)
    refine bodyPost_ret (v := Y.1.val) (by simp [results, Try.results23, go_sem, c0, c1, c2, c3, c4, c5]) rfl ⟨by rw [HX.out], ext_grown (ext_grown (E1.out.then EV.out) grown_set6 (by omega)) grown_set6 (by omega)⟩
  rw [if_neg e4] at hX
  by_cases e5 : r = 5
  · rw [if_pos e5] at hX
    subst e5
    have HX := Lib.hid hX
    have HB := Lib.hid (fun w => enter_any c w hc)
    clear hX
    go_enter Try.func23, Try.ntmps23
    go_wp2_with fail
    refine (HB.out _).mono ?_
    generalize enterD c = Y at HX
    rintro _ w1 ⟨rfl, hE⟩
    have E1 : Hid (Ext w w1) := Lib.hid (Ext.then (by repeat first | (with_reducible exact Below.refl _ _) | (with_reducible apply Ext.alloc) | (with_reducible apply Ext.drew) | (with_reducible apply Ext.drewN) | (with_reducible refine Ext.set ?_ (by simp))) hE)
    have b2 := Lib.hid ((hE.block _ (by simp)).trans (new_at (w := (w.alloc _).alloc _) (b := w.heap.size + 1 + 1) (o := .cells #[.bool false, .int .i64 0, .int .i64 0, .int .i64 0, .int .i64 0, .int .i64 0] 24) (by simp) (Ext.alloc (Below.refl _ _) _)))
    have b3 := Lib.hid ((hE.block _ (by simp)).trans (new_at (w := ((w.alloc _).alloc _).alloc _) (b := w.heap.size + 1 + 1 + 1) (o := .cells #[.bool false, .int .i64 0, .int .i64 0, .int .i64 0, .int .i64 0, .int .i64 0] 24) (by simp) (Below.refl _ _)))
    clear hE
    go_upto_region 23 with fail
    obtain ⟨V, hV⟩ : ∃ V, V = w1.alloc (.cells #[.bool Y.1.tag, .int .i64 Y.1.base, .int .i64 Y.1.top, .int .i64 Y.1.at', .int .i64 Y.1.perms, .int .i64 Y.1.ty] 24) := ⟨_, rfl⟩
    have EV : Hid (Ext w1 V) := Lib.hid (by rw [hV]; exact (by repeat first | (with_reducible exact Below.refl _ _) | (with_reducible apply Ext.alloc) | (with_reducible apply Ext.drew) | (with_reducible apply Ext.drewN) | (with_reducible refine Ext.set ?_ (by simp))))
    have xb : V.heap[w1.heap.size]? = some (.cells #[.bool Y.1.tag, .int .i64 Y.1.base, .int .i64 Y.1.top, .int .i64 Y.1.at', .int .i64 Y.1.perms, .int .i64 Y.1.ty] 24) := by rw [hV]; exact heap_alloc_new w1 _
    rw [← hV]
    obtain ⟨x0, x1, x2, x3, x4, x5⟩ := lie6' xb (Below.refl _ V)
    have HV2 := Lib.hid (ext_at EV.out b2.out)
    have h3 := ext_at EV.out b3.out
    obtain ⟨y0, y1, y2, y3, y4, y5⟩ := lie6' h3 (Below.refl _ V)
    obtain ⟨z0, z1, z2, z3, z4, z5⟩ := lie6' HV2.out (Below.refl _ V)
    have fz := frozen_row' h3
    have fz2 := frozen_row' HV2.out
    have hlt := cell_lt y0
    have hlt1 := cell_lt z0
    have hlt2 := cell_lt x0
    simp only at hlt hlt1 hlt2
    clear hV xb h3
    go_wp2_with fail
    have g2 := grown_at (grown_set6 (w := V) (b := w.heap.size + 1 + 1 + 1) (v0 := .bool Y.1.tag) (v1 := .int .i64 Y.1.base) (v2 := .int .i64 Y.1.top) (v3 := .int .i64 Y.1.at') (v4 := .int .i64 Y.1.perms) (v5 := .int .i64 Y.1.ty)) HV2.out (by omega)
    obtain ⟨c0, c1, c2, c3, c4, c5⟩ := lie6' (set_cells6 g2 (.bool Y.1.tag) (.int .i64 Y.1.base) (.int .i64 Y.1.top) (.int .i64 Y.1.at') (.int .i64 Y.1.perms) (.int .i64 Y.1.ty)) (Below.refl _ _)
    refine bodyPost_ret (v := Y.1.val) (by simp [results, Try.results23, go_sem, c0, c1, c2, c3, c4, c5]) rfl ⟨by rw [HX.out], ext_grown (ext_grown (E1.out.then EV.out) grown_set6 (by omega)) grown_set6 (by omega)⟩
  rw [if_neg e5] at hX
  by_cases e6 : r = 6
  · rw [if_pos e6] at hX
    subst e6
    have HX := Lib.hid hX
    have HC := Lib.hid (fun w => clear_any c w)
    have hwc : CapWf (clearD c) := ⟨hc.base, hc.top, hc.at', hc.perms, hc.ty⟩
    have HB := Lib.hid (fun w => build_any (clearD c) d w hwc hd)
    obtain ⟨e, he⟩ : ∃ e, e = clearD c := ⟨_, rfl⟩
    rw [← he] at HX HC HB
    obtain ⟨Y, hY⟩ : ∃ Y, Y = buildD e d := ⟨_, rfl⟩
    rw [← hY] at HX HB
    obtain ⟨U, hU⟩ : ∃ U, U = (((w.alloc (.cells c.cells.toArray 24)).alloc (.cells d.cells.toArray 24)).alloc (.cells zeroCells 24)).alloc (.cells zeroCells 24) := ⟨_, rfl⟩
    have HU := Lib.hid hU
    have hUs : U.heap.size = w.heap.size + 1 + 1 + 1 + 1 := by rw [hU]; simp
    have HUs := Lib.hid hUs
    have EU : Hid (Ext w U) := Lib.hid (by rw [hU]; exact (by repeat first | (with_reducible exact Below.refl _ _) | (with_reducible apply Ext.alloc) | (with_reducible apply Ext.drew) | (with_reducible apply Ext.drewN) | (with_reducible refine Ext.set ?_ (by simp))))
    have Hbc : Hid (U.heap[w.heap.size]? = some (.cells c.cells.toArray 24)) := Lib.hid (by rw [hU]; exact new_at (w := w) (by simp) (Ext.alloc (Ext.alloc (Ext.alloc (Below.refl _ _) _) _) _))
    have Hbd : Hid (U.heap[w.heap.size + 1]? = some (.cells d.cells.toArray 24)) := Lib.hid (by rw [hU]; exact new_at (w := w.alloc _) (by simp) (Ext.alloc (Ext.alloc (Below.refl _ _) _) _))
    have b2 : Hid (U.heap[w.heap.size + 1 + 1]? = some (.cells zeroCells 24)) := Lib.hid (by rw [hU]; exact new_at (w := (w.alloc _).alloc _) (by simp) (Ext.alloc (Below.refl _ _) _))
    have b3 : Hid (U.heap[w.heap.size + 1 + 1 + 1]? = some (.cells zeroCells 24)) := Lib.hid (by rw [hU]; exact new_at (w := ((w.alloc _).alloc _).alloc _) (by simp) (Below.refl _ _))
    clear hX he hY hU hUs hwc
    go_enter Try.func23, Try.ntmps23
    go_wp2_with fail
    rw [← HU.out]
    refine wp_region_res (fun x y => Ext U x → Ext U y) [⟨some 7, [(7, [])], [8]⟩, ⟨some 8, [(7, [7])], []⟩] [(fun (u : Nat → Value) (W : World) => (fun (v : Value) (W : World) => ∃ b, v = .pointer (some ⟨b, 0, none⟩) ∧ U.heap.size ≤ b ∧ W.heap[b]? = some (.cells zeroCells 24)) (u 7) W), (fun (u : Nat → Value) (W : World) => ∃ b, u 7 = .pointer (some ⟨b, 0, none⟩) ∧ U.heap.size ≤ b ∧ W.heap[b]? = some (.cells Y.1.cells.toArray 24))] [⟨[], [.keep, .early [0]]⟩, ⟨[], [.keep, .early [1]]⟩, ⟨[], [.keep, .early [2]]⟩, ⟨[], [.keep, .early [3]]⟩, ⟨[], [.keep, .early [4]]⟩, ⟨[], [.keep, .early [5]]⟩, ⟨[], [.keep, .keep]⟩, ⟨[], [.last, .early [7]]⟩, ⟨[(0, [7])], [.late [[]], .last]⟩, ⟨[(1, [8])], [.late [[8]], .keep]⟩] [87, 88, 89, 90, 86, 91, 92, 22, 23] (by kernel_rfl) (fun _ k => k) (fun _ _ _ h k e => k (h e)) (by kernel_rfl) (by kernel_rfl) (by kernel_rfl) (by kernel_rfl) (by kernel_rfl) ?start ?_
    case start =>
      exact trivial
    apply ex_is; apply Exists.intro
    apply ex_is; apply Exists.intro
    apply ex_is; apply Exists.intro
    apply ex_is; apply Exists.intro
    apply ex_is; apply Exists.intro
    apply ex_is; apply Exists.intro
    apply ex_is; apply Exists.intro
    refine ex_phi (fun _ _ => True) ?_
    refine ex_phi (fun _ _ => True) ?_
    apply ex_is; apply Exists.intro
    refine ⟨[], ⟨?steps, ?stab, ?ends⟩⟩
    case steps =>
      refine And.intro (obX_pure (fun _ k => k) ?_) ?_
      · intro act W hR hf ho hu K hK
        replace hK := fun v h2 => hK v W rfl h2 trivial
        have G : act.tmps[4]?.getD undef = _ ∧ True := ho
        obtain ⟨g4, -⟩ := G
        clear ho hf hu
        obtain ⟨y0, y1, y2, y3, y4, y5⟩ := lie6' Hbc.out (hR (Ext.drew (Below.refl _ _)))
        go_simp
        exact hK _ (Eq.refl _)
      refine And.intro (obX_eff (Ext) (fun _ _ h k => k.then h) (And.intro (fun _ _ _ h e => by obtain ⟨b, h1, h2, h3⟩ := h; exact ⟨b, h1, h2, ext_at e h3⟩) (trivial)) ?_) ?_
      · intro act W hR hf ho hu K hK
        replace hK := fun v (w' : World) (h1 : (Ext) W w') h2 => hK v w' h1 h2 trivial
        have F : act.tmps[87]?.getD undef = _ ∧ True := hf
        obtain ⟨f0, -⟩ := F
        clear ho hf hu
        go_simp
        refine (HC.out _).mono ?_; rintro _ W1 ⟨rfl, hE⟩; exact hK _ _ hE (Eq.refl _)
      refine And.intro (obX_pure (fun _ k => k) ?_) ?_
      · intro act W hR hf ho hu K hK
        replace hK := fun v h2 => hK v W rfl h2 trivial
        have G : act.tmps[5]?.getD undef = _ ∧ True := ho
        obtain ⟨g5, -⟩ := G
        clear ho hf hu
        obtain ⟨z0, z1, z2, z3, z4, z5⟩ := lie6' Hbd.out (hR (Ext.drew (Below.refl _ _)))
        go_simp
        exact hK _ (Eq.refl _)
      refine And.intro (obX_eff (Ext) (fun _ _ h k => k.then h) (And.intro (fun _ _ _ h e => by obtain ⟨b, h1, h2, h3⟩ := h; exact ⟨b, h1, h2, ext_at e h3⟩) (trivial)) ?_) ?_
      · intro act W hR hf ho hu K hK
        replace hK := fun v (w' : World) (h1 : (Ext) W w') h2 => hK v w' h1 h2 trivial
        have F : act.tmps[88]?.getD undef = _ ∧ act.tmps[89]?.getD undef = _ ∧ act.tmps[88]?.getD undef = _ ∧ True := hf
        obtain ⟨f1, f2, -, -⟩ := F
        clear ho hf hu
        go_simp
        refine (HB.out _).mono ?_; rintro _ W1 ⟨rfl, hE⟩; exact hK _ _ hE (Eq.refl _)
      refine And.intro (obX_pure (fun _ k => k) ?_) ?_
      · intro act W hR hf ho hu K hK
        replace hK := fun v h2 => hK v W rfl h2 trivial
        have F : act.tmps[90]?.getD undef = _ ∧ True := hf
        obtain ⟨f3, -⟩ := F
        clear ho hf hu
        go_simp
        exact hK _ (Eq.refl _)
      refine And.intro (obX_pure (fun _ k => k) ?_) ?_
      · intro act W hR hf ho hu K hK
        replace hK := fun v h2 => hK v W rfl h2 trivial
        have F : act.tmps[86]?.getD undef = _ ∧ True := hf
        obtain ⟨f4, -⟩ := F
        clear ho hf hu
        go_simp
        exact hK _ (Eq.refl _)
      refine And.intro (obX_pure (fun _ k => k) ?_) ?_
      · intro act W hR hf ho hu K hK
        replace hK := fun v h2 => hK v W rfl h2 trivial
        have F : act.tmps[86]?.getD undef = _ ∧ True := hf
        obtain ⟨f4, -⟩ := F
        clear ho hf hu
        go_simp
        exact hK _ (Eq.refl _)
      refine And.intro (obX_eff (Ext) (fun _ _ h k => k.then h) (trivial) ?_) ?_
      · intro act W hR hf ho hu K hK
        replace hK := fun v (w' : World) (h1 : (Ext) W w') (b0 : (fun (v : Value) (W : World) => ∃ b, v = .pointer (some ⟨b, 0, none⟩) ∧ U.heap.size ≤ b ∧ W.heap[b]? = some (.cells zeroCells 24)) (v) w') => hK v w' h1 trivial ⟨b0, trivial⟩
        clear ho hf hu
        go_simp
        exact hK _ _ (by repeat first | (with_reducible exact Below.refl _ _) | (with_reducible apply Ext.alloc) | (with_reducible apply Ext.drew) | (with_reducible apply Ext.drewN) | (with_reducible refine Ext.set ?_ (by simp))) ⟨_, rfl, (hR (Ext.drew (Below.refl _ _))).size, heap_alloc_new W _⟩
      refine And.intro (obX_eff (fun x y => ∃ b, U.heap.size ≤ b ∧ World.grownBy x y (some b)) (fun _ _ h k => by obtain ⟨b, h1, h2⟩ := h; exact ext_grown k h2 h1) (trivial) ?_) ?_
      · intro act W hR hf ho hu K hK
        replace hK := fun (w' : World) (h1 : (fun x y => ∃ b, U.heap.size ≤ b ∧ World.grownBy x y (some b)) W w') (b1 : (fun (W : World) => ∃ b, (act.tmps[22]?.getD undef) = .pointer (some ⟨b, 0, none⟩) ∧ U.heap.size ≤ b ∧ W.heap[b]? = some (.cells Y.1.cells.toArray 24)) w') => hK undef w' h1 trivial ⟨b1, trivial⟩
        have F : (fun _ _ => True) (act.tmps[22]?.getD undef) W ∧ act.tmps[91]?.getD undef = _ ∧ act.tmps[90]?.getD undef = _ ∧ act.tmps[87]?.getD undef = _ ∧ act.tmps[88]?.getD undef = _ ∧ act.tmps[89]?.getD undef = _ ∧ act.tmps[90]?.getD undef = _ ∧ act.tmps[86]?.getD undef = _ ∧ act.tmps[91]?.getD undef = _ ∧ (fun _ _ => True) (act.tmps[22]?.getD undef) W ∧ True := hf
        obtain ⟨-, f5, f3, f0, f1, f2, -, f4, -, -, -⟩ := F
        have U : (fun (v : Value) (W : World) => ∃ b, v = .pointer (some ⟨b, 0, none⟩) ∧ U.heap.size ≤ b ∧ W.heap[b]? = some (.cells zeroCells 24)) (act.tmps[22]?.getD undef) W ∧ True := hu
        obtain ⟨r_nb, -⟩ := U
        generalize f7 : act.tmps[22]?.getD undef = v7 at r_nb hK
        clear ho hf hu
        obtain ⟨b, rfl, hbU, hb⟩ := r_nb; have fz := frozen_row' hb; obtain ⟨q0, q1, q2, q3, q4, q5⟩ := lie6' hb (Below.refl _ W); have hlq := cell_lt q0; simp only at hlq; have hq := set_cells6 hb (.bool Y.1.tag) (.int .i64 Y.1.base) (.int .i64 Y.1.top) (.int .i64 Y.1.at') (.int .i64 Y.1.perms) (.int .i64 Y.1.ty); have HBU := Lib.hid (And.intro hbU hq)
        go_simp
        exact hK _ ⟨b, HBU.out.1, grown_set6⟩ ⟨b, rfl, HBU.out.1, HBU.out.2⟩
      refine And.intro (obX_pure (fun _ k => k) ?_) ?_
      · intro act W hR hf ho hu K hK
        replace hK := fun v h2 => hK v W rfl h2 trivial
        have F : act.tmps[92]?.getD undef = _ ∧ (fun _ _ => True) (undef) W ∧ act.tmps[87]?.getD undef = _ ∧ act.tmps[88]?.getD undef = _ ∧ act.tmps[89]?.getD undef = _ ∧ act.tmps[90]?.getD undef = _ ∧ act.tmps[86]?.getD undef = _ ∧ act.tmps[91]?.getD undef = _ ∧ act.tmps[92]?.getD undef = _ ∧ (fun _ _ => True) (act.tmps[22]?.getD undef) W ∧ (fun _ _ => True) (undef) W ∧ True := hf
        obtain ⟨f6, -, f0, f1, f2, f3, f4, f5, -, -, -, -⟩ := F
        have U : (fun (W : World) => ∃ b, (act.tmps[22]?.getD undef) = .pointer (some ⟨b, 0, none⟩) ∧ U.heap.size ≤ b ∧ W.heap[b]? = some (.cells Y.1.cells.toArray 24)) W ∧ True := hu
        obtain ⟨r_out, -⟩ := U
        generalize f7 : act.tmps[22]?.getD undef = v7 at r_out
        clear ho hf hu
        go_simp
        exact hK _ (Eq.refl _)
      exact trivial
    case stab =>
      refine And.intro is_stable ?_
      refine And.intro is_stable ?_
      refine And.intro is_stable ?_
      refine And.intro is_stable ?_
      refine And.intro is_stable ?_
      refine And.intro is_stable ?_
      refine And.intro is_stable ?_
      refine And.intro (fun _ _ _ h _ => h) ?_
      refine And.intro (fun _ _ _ h _ => h) ?_
      refine And.intro is_stable ?_
      exact trivial
    case ends =>
      intro vals W hR hE hall
      have E : (fun (W : World) => ∃ b, (vals 22) = .pointer (some ⟨b, 0, none⟩) ∧ U.heap.size ≤ b ∧ W.heap[b]? = some (.cells Y.1.cells.toArray 24)) W ∧ True := hE
      obtain ⟨e_out, -⟩ := E
      clear hE
      clear hall
      generalize ev22 : vals 22 = x22 at e_out
      simp only [fill, List.setIfInBounds_toArray, List.set_cons_succ, List.set_cons_zero, ev22]
      obtain ⟨b, rfl, hbU, xb⟩ := e_out
      rename World => V
      have EV : Hid (Ext U V) := Lib.hid (hR (Ext.drew (Below.refl _ _)))
      clear hR
      obtain ⟨x0, x1, x2, x3, x4, x5⟩ := lie6' xb (Below.refl _ V)
      have HV2 := Lib.hid (ext_at EV.out b2.out)
      have h3 := ext_at EV.out b3.out
      obtain ⟨y0, y1, y2, y3, y4, y5⟩ := lie6' h3 (Below.refl _ V)
      obtain ⟨z0, z1, z2, z3, z4, z5⟩ := lie6' HV2.out (Below.refl _ V)
      have fz := frozen_row' h3
      have fz2 := frozen_row' HV2.out
      have hlt := cell_lt y0
      have hlt1 := cell_lt z0
      have hlt2 := cell_lt x0
      have hne : b ≠ w.heap.size + 1 + 1 + 1 := by rw [HUs.out] at hbU; omega
      simp only at hlt hlt1 hlt2
      clear xb h3 hbU
      go_wp2_with fail
      have g2 := grown_at (grown_set6 (w := V) (b := w.heap.size + 1 + 1 + 1) (v0 := .bool Y.1.tag) (v1 := .int .i64 Y.1.base) (v2 := .int .i64 Y.1.top) (v3 := .int .i64 Y.1.at') (v4 := .int .i64 Y.1.perms) (v5 := .int .i64 Y.1.ty)) HV2.out (by omega)
      obtain ⟨c0, c1, c2, c3, c4, c5⟩ := lie6' (set_cells6 g2 (.bool Y.1.tag) (.int .i64 Y.1.base) (.int .i64 Y.1.top) (.int .i64 Y.1.at') (.int .i64 Y.1.perms) (.int .i64 Y.1.ty)) (Below.refl _ _)
      refine bodyPost_ret (v := Y.1.val) (by simp [results, Try.results23, go_sem, c0, c1, c2, c3, c4, c5]) rfl ⟨by rw [HX.out], ext_grown (ext_grown (EU.out.then EV.out) grown_set6 (by omega)) grown_set6 (by omega)⟩
  rw [if_neg e6] at hX
  obtain rfl : r = 7 := by omega
  by_cases hy : c.ty = 1
  · rw [if_pos hy] at hX
    have HX := Lib.hid hX
    obtain ⟨tg, cb, ct, ca, cp, cy⟩ := c
    simp only at hy
    subst hy
    clear hX
    go_enter Try.func23, Try.ntmps23
    go_wp2_with fail
    refine bodyPost_ret (v := Cap.val ⟨tg, cb, ct, ca, cp, 0⟩) (by simp [results, Try.results23, go_sem]) rfl ⟨by rw [HX.out], (by repeat first | (with_reducible exact Below.refl _ _) | (with_reducible apply Ext.alloc) | (with_reducible apply Ext.drew) | (with_reducible apply Ext.drewN) | (with_reducible refine Ext.set ?_ (by simp)))⟩
  · rw [if_neg hy] at hX
    have d1 : (c.ty == 1) = false := beq_eq_false_iff_ne.2 hy
    have HX := Lib.hid hX
    clear hX hy
    go_enter Try.func23, Try.ntmps23
    go_wp2_with fail
    refine bodyPost_ret (v := c.val) (by simp [results, Try.results23, go_sem]) rfl ⟨by rw [HX.out], (by repeat first | (with_reducible exact Below.refl _ _) | (with_reducible apply Ext.alloc) | (with_reducible apply Ext.drew) | (with_reducible apply Ext.drewN) | (with_reducible refine Ext.set ?_ (by simp)))⟩
end Go.Proofs.Ytalndcjbnedigaa

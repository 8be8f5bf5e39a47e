
/- Package derive: Move. (Printed by gen_der.py.) -/
import Derived.Test.YtalndcjbnedigaaDerF
set_option linter.all false
namespace Go.Proofs.Ytalndcjbnedigaa
open Go.RowKit Go.Shelf
attribute [local go_sem] seen dstOf boolOf

set_option maxHeartbeats 4000000 in
set_option maxRecDepth 20000 in
theorem move_any (c : Cap) (n : Int) (w : World) (hc : CapWf c) : Calls Try.prog 48 #[c.val, .int .i64 n] w (TupPost w (moveD c n)) := by
  obtain ⟨i0, hi, hz0, hz1, hz2⟩ := info_parts infoMust
  obtain ⟨X, hX⟩ : ∃ X, X = moveD c n := ⟨_, rfl⟩
  rw [← hX]
  unfold moveD at hX
  obtain ⟨L, hL⟩ : ∃ L : List Must, L = [(rightC c, 1), (looseB c, 42)] := ⟨_, rfl⟩
  rw [← hL] at hX
  have HX := Lib.hid hX
  have hll : Hid (L.length ≤ 1000) := Lib.hid (by rw [hL]; exact (show (2 : Nat) ≤ 1000 by decide))
  unfold looseB at hL
  have HL := Lib.hid hL
  clear hX hL
  cases ht : c.tag with
  | false =>
    have d1 : (!c.tag) = true := by rw [ht]; rfl
    have HT := Lib.hid ht
    clear ht
    have HL' : Hid (L = [(rightC c, 1), (true, 42)]) := Lib.hid (by rw [HL.out, HT.out]; rfl)
    obtain ⟨U, hU⟩ : ∃ U, U = (((w.alloc (.cells c.cells.toArray 24)).alloc (.cells #[.int .i64 n] 3)).alloc (.cells zeroCells 24)).alloc (.cells #[.bool true, .int .i64 42] 87) := ⟨_, rfl⟩
    have HU := Lib.hid hU
    have EU : Hid (Ext w U.drew) := Lib.hid (by rw [hU]; exact (by repeat first | (with_reducible exact Below.refl _ _) | (with_reducible apply Ext.alloc) | (with_reducible apply Ext.drew) | (with_reducible apply Ext.drewN) | (with_reducible refine Ext.set ?_ (by simp))))
    have Hbc : Hid (U.drew.heap[w.heap.size]? = some (.cells c.cells.toArray 24)) := Lib.hid (by rw [hU]; exact new_at (w := w) (by simp) (Ext.drew (Ext.alloc (Ext.alloc (Ext.alloc (Below.refl _ _) _) _) _)))
    have Hbn : Hid (U.drew.heap[w.heap.size + 1]? = some (.cells #[.int .i64 n] 3)) := Lib.hid (by rw [hU]; exact new_at (w := w.alloc _) (by simp) (Ext.drew (Ext.alloc (Ext.alloc (Below.refl _ _) _) _)))
    have Hbr : Hid (U.drew.heap[w.heap.size + 1 + 1]? = some (.cells zeroCells 24)) := Lib.hid (by rw [hU]; exact new_at (w := (w.alloc _).alloc _) (by simp) (Ext.drew (Ext.alloc (Below.refl _ _) _)))
    have Hbm : Hid (U.drew.heap[w.heap.size + 1 + 1 + 1]? = some (.cells #[.bool true, .int .i64 42] 87)) := Lib.hid (by rw [hU]; exact new_at (w := ((w.alloc _).alloc _).alloc _) (by simp) (Ext.drew (Below.refl _ _)))
    clear hU
    go_enter Try.func48, Try.ntmps48
    go_wp2_with fail
    rw [← HU.out]
    refine wp_region_res (fun x y => Ext w x → Ext w y) [⟨none, [], []⟩, ⟨none, [], []⟩, ⟨none, [], [9]⟩, ⟨some 9, [], []⟩, ⟨none, [], []⟩, ⟨some 5, [(5, [])], [6]⟩] [(fun (u : Nat → Value) (W : World) => (fun (_ : Value) (W : World) => W.heap[w.heap.size]? = some (.cells c.cells.toArray 24)) (undef) W), (fun (u : Nat → Value) (W : World) => (fun (_ : Value) (W : World) => W.heap[w.heap.size + 1]? = some (.cells #[.int .i64 n] 3)) (undef) W), (fun (u : Nat → Value) (W : World) => (fun (_ : Value) (W : World) => W.heap[w.heap.size + 1 + 1]? = some (.cells zeroCells 24)) (undef) W), (fun (u : Nat → Value) (W : World) => (fun (_ : Value) (W : World) => W.heap[w.heap.size + 1 + 1]? = some (.cells X.1.cells.toArray 24)) (undef) W), (fun (u : Nat → Value) (W : World) => (fun (_ : Value) (W : World) => W.heap[w.heap.size + 1 + 1 + 1]? = some (.cells #[.bool true, .int .i64 42] 87)) (undef) W), (fun (u : Nat → Value) (W : World) => (OwnM w.heap.size L) (u 5) W)] [⟨[(0, []), (1, []), (4, [])], [.keep, .keep, .keep, .early [0], .keep, .keep]⟩, ⟨[(0, []), (1, []), (4, [])], [.keep, .keep, .keep, .early [1], .keep, .keep]⟩, ⟨[(0, []), (1, []), (4, [])], [.keep, .keep, .keep, .early [2], .keep, .early [3, 2]]⟩, ⟨[(0, []), (1, []), (4, [])], [.keep, .keep, .keep, .early [3], .keep, .early [3]]⟩, ⟨[(0, []), (1, []), (4, [])], [.keep, .keep, .keep, .early [4], .keep, .early [4]]⟩, ⟨[(0, []), (1, []), (4, [])], [.keep, .keep, .keep, .early [5], .keep, .last]⟩, ⟨[(0, []), (1, []), (4, []), (5, [5])], [.keep, .keep, .keep, .early [6], .keep, .late [[]]]⟩, ⟨[(0, []), (1, []), (4, [])], [.keep, .keep, .keep, .early [7], .keep, .late [[6]]]⟩, ⟨[(0, []), (1, []), (4, [])], [.keep, .keep, .keep, .early [8], .keep, .late [[6]]]⟩, ⟨[(0, []), (1, []), (2, []), (4, [])], [.keep, .keep, .late [[]], .last, .keep, .late [[6]]]⟩, ⟨[(0, []), (1, []), (3, [9]), (4, [])], [.keep, .keep, .late [[9]], .keep, .keep, .late [[6]]]⟩] [16, 17, 18, 19, 20, 21, 22, 23, 24, 5] (by kernel_rfl) (fun _ k => k) (fun _ _ _ h k e => k (h e)) (by kernel_rfl) (by kernel_rfl) (by kernel_rfl) (by kernel_rfl) (by kernel_rfl) ?start ?_
    case start =>
      refine And.intro ?_ ?_
      · exact Hbc.out
      refine And.intro ?_ ?_
      · exact Hbn.out
      refine And.intro ?_ ?_
      · exact Hbr.out
      refine And.intro ?_ ?_
      · exact Hbm.out
      exact trivial
    apply ex_is; apply Exists.intro
    apply ex_is; apply Exists.intro
    apply ex_is; apply Exists.intro
    apply ex_is; apply Exists.intro
    apply ex_is; apply Exists.intro
    refine ex_phi (fun _ _ => True) ?_
    apply ex_is; apply Exists.intro
    apply ex_is; apply Exists.intro
    apply ex_is; apply Exists.intro
    refine ex_phi (fun _ _ => True) ?_
    apply ex_is; apply Exists.intro
    refine ⟨[], ⟨?steps, ?stab, ?ends⟩⟩
    case steps =>
      refine And.intro (obX_pure (fun _ k => k) ?_) ?_
      · intro act W hR hf ho hu K hK
        replace hK := fun v h2 => hK v W rfl h2 trivial
        have G : act.tmps[2]?.getD undef = _ ∧ True := ho
        obtain ⟨g2, -⟩ := G
        have U : (fun (_ : Value) (W : World) => W.heap[w.heap.size]? = some (.cells c.cells.toArray 24)) (undef) W ∧ (fun (_ : Value) (W : World) => W.heap[w.heap.size + 1]? = some (.cells #[.int .i64 n] 3)) (undef) W ∧ (fun (_ : Value) (W : World) => W.heap[w.heap.size + 1 + 1 + 1]? = some (.cells #[.bool true, .int .i64 42] 87)) (undef) W ∧ True := hu
        obtain ⟨r_bc, r_bn, r_bm, -⟩ := U
        clear ho hf hu
        obtain ⟨y0, y1, y2, y3, y4, y5⟩ := lie6' r_bc (Below.refl _ W)
        go_simp
        exact hK _ (Eq.refl _)
      refine And.intro (obX_pure (fun _ k => k) ?_) ?_
      · intro act W hR hf ho hu K hK
        replace hK := fun v h2 => hK v W rfl h2 trivial
        have G : act.tmps[3]?.getD undef = _ ∧ True := ho
        obtain ⟨g3, -⟩ := G
        have U : (fun (_ : Value) (W : World) => W.heap[w.heap.size]? = some (.cells c.cells.toArray 24)) (undef) W ∧ (fun (_ : Value) (W : World) => W.heap[w.heap.size + 1]? = some (.cells #[.int .i64 n] 3)) (undef) W ∧ (fun (_ : Value) (W : World) => W.heap[w.heap.size + 1 + 1 + 1]? = some (.cells #[.bool true, .int .i64 42] 87)) (undef) W ∧ True := hu
        obtain ⟨r_bc, r_bn, r_bm, -⟩ := U
        clear ho hf hu
        go_simp
        exact hK _ (Eq.refl _)
      refine And.intro (obX_pure (fun _ k => k) ?_) ?_
      · intro act W hR hf ho hu K hK
        replace hK := fun v h2 => hK v W rfl h2 trivial
        have G : act.tmps[2]?.getD undef = _ ∧ True := ho
        obtain ⟨g2, -⟩ := G
        have U : (fun (_ : Value) (W : World) => W.heap[w.heap.size]? = some (.cells c.cells.toArray 24)) (undef) W ∧ (fun (_ : Value) (W : World) => W.heap[w.heap.size + 1]? = some (.cells #[.int .i64 n] 3)) (undef) W ∧ (fun (_ : Value) (W : World) => W.heap[w.heap.size + 1 + 1 + 1]? = some (.cells #[.bool true, .int .i64 42] 87)) (undef) W ∧ True := hu
        obtain ⟨r_bc, r_bn, r_bm, -⟩ := U
        clear ho hf hu
        obtain ⟨y0, y1, y2, y3, y4, y5⟩ := lie6' r_bc (Below.refl _ W)
        go_simp
        exact hK _ (Eq.refl _)
      refine And.intro (obX_eff (Ext) (fun _ _ h k => k.then h) (And.intro (fun _ _ _ h e => ext_at e h) (And.intro (fun _ _ _ h e => ext_at e h) (And.intro (fun _ _ _ h e => ext_at e h) (And.intro (fun _ _ _ h e => ext_at e h) (trivial))))) ?_) ?_
      · intro act W hR hf ho hu K hK
        replace hK := fun v (w' : World) (h1 : (Ext) W w') h2 => hK v w' h1 h2 trivial
        have F : act.tmps[18]?.getD undef = _ ∧ True := hf
        obtain ⟨f2, -⟩ := F
        have U : (fun (_ : Value) (W : World) => W.heap[w.heap.size]? = some (.cells c.cells.toArray 24)) (undef) W ∧ (fun (_ : Value) (W : World) => W.heap[w.heap.size + 1]? = some (.cells #[.int .i64 n] 3)) (undef) W ∧ (fun (_ : Value) (W : World) => W.heap[w.heap.size + 1 + 1 + 1]? = some (.cells #[.bool true, .int .i64 42] 87)) (undef) W ∧ True := hu
        obtain ⟨r_bc, r_bn, r_bm, -⟩ := U
        clear ho hf hu
        go_simp
        refine (right_must c _ hc).mono ?_; rintro _ W1 ⟨rfl, hE⟩; exact hK _ _ hE (Eq.refl _)
      refine And.intro (obX_pure (fun _ k => k) ?_) ?_
      · intro act W hR hf ho hu K hK
        replace hK := fun v h2 => hK v W rfl h2 trivial
        have G : act.tmps[6]?.getD undef = _ ∧ True := ho
        obtain ⟨g6, -⟩ := G
        have U : (fun (_ : Value) (W : World) => W.heap[w.heap.size]? = some (.cells c.cells.toArray 24)) (undef) W ∧ (fun (_ : Value) (W : World) => W.heap[w.heap.size + 1]? = some (.cells #[.int .i64 n] 3)) (undef) W ∧ (fun (_ : Value) (W : World) => W.heap[w.heap.size + 1 + 1 + 1]? = some (.cells #[.bool true, .int .i64 42] 87)) (undef) W ∧ True := hu
        obtain ⟨r_bc, r_bn, r_bm, -⟩ := U
        clear ho hf hu
        have x0 := cellAt r_bm 0 (.bool true) rfl; have x1 := cellAt r_bm 1 (.int .i64 42) rfl
        go_simp
        exact hK _ (Eq.refl _)
      refine And.intro (obX_eff (Ext) (fun _ _ h k => k.then h) (And.intro (fun _ _ _ h e => ext_at e h) (And.intro (fun _ _ _ h e => ext_at e h) (And.intro (fun _ _ _ h e => ext_at e h) (And.intro (fun _ _ _ h e => ext_at e h) (trivial))))) ?_) ?_
      · intro act W hR hf ho hu K hK
        replace hK := fun v (w' : World) (h1 : (Ext) W w') (b5 : (OwnM w.heap.size L) (v) w') => hK v w' h1 trivial ⟨b5, trivial⟩
        have F : act.tmps[19]?.getD undef = _ ∧ act.tmps[20]?.getD undef = _ ∧ True := hf
        obtain ⟨f3, f4, -⟩ := F
        have U : (fun (_ : Value) (W : World) => W.heap[w.heap.size]? = some (.cells c.cells.toArray 24)) (undef) W ∧ (fun (_ : Value) (W : World) => W.heap[w.heap.size + 1]? = some (.cells #[.int .i64 n] 3)) (undef) W ∧ (fun (_ : Value) (W : World) => W.heap[w.heap.size + 1 + 1 + 1]? = some (.cells #[.bool true, .int .i64 42] 87)) (undef) W ∧ True := hu
        obtain ⟨r_bc, r_bn, r_bm, -⟩ := U
        clear ho hf hu
        go_simp
        exact hK _ _ (by repeat first | (with_reducible exact Below.refl _ _) | (with_reducible apply Ext.alloc) | (with_reducible apply Ext.drew) | (with_reducible apply Ext.drewN) | (with_reducible refine Ext.set ?_ (by simp))) (HL'.out ▸ own_lit W w.heap.size 87 2 2 (mustCells [(rightC c, 1), (true, 42)]) (hR EU.out).size rfl (by simp [maxLen]))
      refine And.intro (obX_eff (Ext) (fun _ _ h k => k.then h) (And.intro (fun _ _ _ h e => ext_at e h) (And.intro (fun _ _ _ h e => ext_at e h) (And.intro (fun _ _ _ h e => ext_at e h) (And.intro (fun _ _ _ h e => ext_at e h) (trivial))))) ?_) ?_
      · intro act W hR hf ho hu K hK
        replace hK := fun v (w' : World) (h1 : (Ext) W w') h2 => hK v w' h1 h2 trivial
        have F : act.tmps[16]?.getD undef = _ ∧ act.tmps[17]?.getD undef = _ ∧ (fun _ _ => True) (act.tmps[21]?.getD undef) W ∧ act.tmps[19]?.getD undef = _ ∧ True := hf
        obtain ⟨f0, f1, -, f3, -⟩ := F
        have U : (fun (_ : Value) (W : World) => W.heap[w.heap.size]? = some (.cells c.cells.toArray 24)) (undef) W ∧ (fun (_ : Value) (W : World) => W.heap[w.heap.size + 1]? = some (.cells #[.int .i64 n] 3)) (undef) W ∧ (fun (_ : Value) (W : World) => W.heap[w.heap.size + 1 + 1 + 1]? = some (.cells #[.bool true, .int .i64 42] 87)) (undef) W ∧ (OwnM w.heap.size L) (act.tmps[21]?.getD undef) W ∧ True := hu
        obtain ⟨r_bc, r_bn, r_bm, r_r8, -⟩ := U
        generalize f5 : act.tmps[21]?.getD undef = v5 at r_r8
        clear ho hf hu
        obtain ⟨A8, c8, rfl, -, ha8⟩ := Arr.own r_r8
        go_simp
        refine (made_any (moveF n) 74 #[.pointer (some ⟨w.heap.size + 1, 0, none⟩)] c A8 c8 L _ ha8 hll.out (enters_of Try.func74 (by kernel_rfl) rfl) (fun W' b hE' hb' h' => move1_any n c b _ W' h' (ext_at hE' r_bn))).mono ?_; rintro _ W1 ⟨rfl, hE⟩; rw [← HX.out]; exact hK _ _ hE (Eq.refl _)
      refine And.intro (obX_pure (fun _ k => k) ?_) ?_
      · intro act W hR hf ho hu K hK
        replace hK := fun v h2 => hK v W rfl h2 trivial
        have F : act.tmps[22]?.getD undef = _ ∧ True := hf
        obtain ⟨f6, -⟩ := F
        have U : (fun (_ : Value) (W : World) => W.heap[w.heap.size]? = some (.cells c.cells.toArray 24)) (undef) W ∧ (fun (_ : Value) (W : World) => W.heap[w.heap.size + 1]? = some (.cells #[.int .i64 n] 3)) (undef) W ∧ (fun (_ : Value) (W : World) => W.heap[w.heap.size + 1 + 1 + 1]? = some (.cells #[.bool true, .int .i64 42] 87)) (undef) W ∧ True := hu
        obtain ⟨r_bc, r_bn, r_bm, -⟩ := U
        clear ho hf hu
        go_simp
        exact hK _ (Eq.refl _)
      refine And.intro (obX_pure (fun _ k => k) ?_) ?_
      · intro act W hR hf ho hu K hK
        replace hK := fun v h2 => hK v W rfl h2 trivial
        have F : act.tmps[22]?.getD undef = _ ∧ True := hf
        obtain ⟨f6, -⟩ := F
        have U : (fun (_ : Value) (W : World) => W.heap[w.heap.size]? = some (.cells c.cells.toArray 24)) (undef) W ∧ (fun (_ : Value) (W : World) => W.heap[w.heap.size + 1]? = some (.cells #[.int .i64 n] 3)) (undef) W ∧ (fun (_ : Value) (W : World) => W.heap[w.heap.size + 1 + 1 + 1]? = some (.cells #[.bool true, .int .i64 42] 87)) (undef) W ∧ True := hu
        obtain ⟨r_bc, r_bn, r_bm, -⟩ := U
        clear ho hf hu
        go_simp
        exact hK _ (Eq.refl _)
      refine And.intro (obX_eff (fun x y => World.grownBy x y (some (w.heap.size + 1 + 1))) (fun _ _ h k => ext_grown k h (by omega)) (And.intro (fun _ _ _ h e => grown_at e h (by omega)) (And.intro (fun _ _ _ h e => grown_at e h (by omega)) (And.intro (fun _ _ _ h e => grown_at e h (by omega)) (trivial)))) ?_) ?_
      · intro act W hR hf ho hu K hK
        replace hK := fun (w' : World) (h1 : (fun x y => World.grownBy x y (some (w.heap.size + 1 + 1))) W w') (b3 : (fun (_ : Value) (W : World) => W.heap[w.heap.size + 1 + 1]? = some (.cells X.1.cells.toArray 24)) (undef) w') => hK undef w' h1 trivial ⟨b3, trivial⟩
        have G : act.tmps[4]?.getD undef = _ ∧ True := ho
        obtain ⟨g4, -⟩ := G
        have F : act.tmps[23]?.getD undef = _ ∧ act.tmps[22]?.getD undef = _ ∧ act.tmps[16]?.getD undef = _ ∧ act.tmps[17]?.getD undef = _ ∧ act.tmps[18]?.getD undef = _ ∧ act.tmps[19]?.getD undef = _ ∧ act.tmps[20]?.getD undef = _ ∧ (fun _ _ => True) (act.tmps[21]?.getD undef) W ∧ act.tmps[22]?.getD undef = _ ∧ act.tmps[23]?.getD undef = _ ∧ act.tmps[24]?.getD undef = _ ∧ True := hf
        obtain ⟨f7, f6, f0, f1, f2, f3, f4, -, -, -, f8, -⟩ := F
        have U : (fun (_ : Value) (W : World) => W.heap[w.heap.size]? = some (.cells c.cells.toArray 24)) (undef) W ∧ (fun (_ : Value) (W : World) => W.heap[w.heap.size + 1]? = some (.cells #[.int .i64 n] 3)) (undef) W ∧ (fun (_ : Value) (W : World) => W.heap[w.heap.size + 1 + 1]? = some (.cells zeroCells 24)) (undef) W ∧ (fun (_ : Value) (W : World) => W.heap[w.heap.size + 1 + 1 + 1]? = some (.cells #[.bool true, .int .i64 42] 87)) (undef) W ∧ True := hu
        obtain ⟨r_bc, r_bn, r_br, r_bm, -⟩ := U
        generalize f5 : act.tmps[21]?.getD undef = v5
        clear ho hf hu
        have fz := frozen_row' r_br; obtain ⟨q0, q1, q2, q3, q4, q5⟩ := lie6' r_br (Below.refl _ _); have hlq := cell_lt q0; simp only at hlq; have hq := set_cells6 r_br (.bool X.1.tag) (.int .i64 X.1.base) (.int .i64 X.1.top) (.int .i64 X.1.at') (.int .i64 X.1.perms) (.int .i64 X.1.ty)
        go_simp
        exact hK _ grown_set6 hq
      refine And.intro (obX_pure (fun _ k => k) ?_) ?_
      · intro act W hR hf ho hu K hK
        replace hK := fun v h2 => hK v W rfl h2 trivial
        have F : act.tmps[24]?.getD undef = _ ∧ (fun _ _ => True) (undef) W ∧ act.tmps[16]?.getD undef = _ ∧ act.tmps[17]?.getD undef = _ ∧ act.tmps[18]?.getD undef = _ ∧ act.tmps[19]?.getD undef = _ ∧ act.tmps[20]?.getD undef = _ ∧ (fun _ _ => True) (act.tmps[21]?.getD undef) W ∧ act.tmps[22]?.getD undef = _ ∧ act.tmps[23]?.getD undef = _ ∧ act.tmps[24]?.getD undef = _ ∧ (fun _ _ => True) (undef) W ∧ True := hf
        obtain ⟨f8, -, f0, f1, f2, f3, f4, -, f6, f7, -, -, -⟩ := F
        have U : (fun (_ : Value) (W : World) => W.heap[w.heap.size]? = some (.cells c.cells.toArray 24)) (undef) W ∧ (fun (_ : Value) (W : World) => W.heap[w.heap.size + 1]? = some (.cells #[.int .i64 n] 3)) (undef) W ∧ (fun (_ : Value) (W : World) => W.heap[w.heap.size + 1 + 1]? = some (.cells X.1.cells.toArray 24)) (undef) W ∧ (fun (_ : Value) (W : World) => W.heap[w.heap.size + 1 + 1 + 1]? = some (.cells #[.bool true, .int .i64 42] 87)) (undef) W ∧ True := hu
        obtain ⟨r_bc, r_bn, r_out, r_bm, -⟩ := U
        generalize f5 : act.tmps[21]?.getD undef = v5
        clear ho hf hu
        go_simp
        exact hK _ (Eq.refl _)
      exact trivial
    case stab =>
      refine And.intro is_stable ?_
      refine And.intro is_stable ?_
      refine And.intro is_stable ?_
      refine And.intro is_stable ?_
      refine And.intro is_stable ?_
      refine And.intro (fun _ _ _ h _ => h) ?_
      refine And.intro is_stable ?_
      refine And.intro is_stable ?_
      refine And.intro is_stable ?_
      refine And.intro (fun _ _ _ h _ => h) ?_
      refine And.intro is_stable ?_
      exact trivial
    case ends =>
      intro vals W hR hE hall
      have E : (fun (_ : Value) (W : World) => W.heap[w.heap.size]? = some (.cells c.cells.toArray 24)) (undef) W ∧ (fun (_ : Value) (W : World) => W.heap[w.heap.size + 1]? = some (.cells #[.int .i64 n] 3)) (undef) W ∧ (fun (_ : Value) (W : World) => W.heap[w.heap.size + 1 + 1]? = some (.cells X.1.cells.toArray 24)) (undef) W ∧ (fun (_ : Value) (W : World) => W.heap[w.heap.size + 1 + 1 + 1]? = some (.cells #[.bool true, .int .i64 42] 87)) (undef) W ∧ True := hE
      obtain ⟨e_bc, e_bn, e_out, e_bm, -⟩ := E
      clear hE
      have e5 : vals 5 = _ := hall 10 (by decide)
      clear hall
      simp only [fill, List.setIfInBounds_toArray, List.set_cons_succ, List.set_cons_zero, e5]
      obtain ⟨c0, c1, c2, c3, c4, c5⟩ := lie6' e_out (Below.refl _ _)
      go_wp2_with fail
      exact bodyPost_ret (v := .tuple #[X.1.val, .int .i64 X.2]) (by simp [results, Try.results48, go_sem, c0, c1, c2, c3, c4, c5]) rfl ⟨rfl, (by repeat first | (with_reducible exact Below.refl _ _) | (with_reducible apply Ext.alloc) | (with_reducible apply Ext.drew) | (with_reducible apply Ext.drewN) | (with_reducible refine Ext.set ?_ (by simp)) | (with_reducible refine Ext.then ?_ (hR EU.out)))⟩
  | true =>
    have d1 : (!c.tag) = false := by rw [ht]; rfl
    have HT := Lib.hid ht
    clear ht
    cases hy : (c.ty == 0) with
    | true =>
      have HY := Lib.hid hy
      have HL' : Hid (L = [(rightC c, 1), (true, 42)]) := Lib.hid (by rw [HL.out, HT.out, HY.out]; rfl)
      obtain ⟨U, hU⟩ : ∃ U, U = (((w.alloc (.cells c.cells.toArray 24)).alloc (.cells #[.int .i64 n] 3)).alloc (.cells zeroCells 24)).alloc (.cells #[.bool true, .int .i64 42] 87) := ⟨_, rfl⟩
      have HU := Lib.hid hU
      have EU : Hid (Ext w U.drew) := Lib.hid (by rw [hU]; exact (by repeat first | (with_reducible exact Below.refl _ _) | (with_reducible apply Ext.alloc) | (with_reducible apply Ext.drew) | (with_reducible apply Ext.drewN) | (with_reducible refine Ext.set ?_ (by simp))))
      have Hbc : Hid (U.drew.heap[w.heap.size]? = some (.cells c.cells.toArray 24)) := Lib.hid (by rw [hU]; exact new_at (w := w) (by simp) (Ext.drew (Ext.alloc (Ext.alloc (Ext.alloc (Below.refl _ _) _) _) _)))
      have Hbn : Hid (U.drew.heap[w.heap.size + 1]? = some (.cells #[.int .i64 n] 3)) := Lib.hid (by rw [hU]; exact new_at (w := w.alloc _) (by simp) (Ext.drew (Ext.alloc (Ext.alloc (Below.refl _ _) _) _)))
      have Hbr : Hid (U.drew.heap[w.heap.size + 1 + 1]? = some (.cells zeroCells 24)) := Lib.hid (by rw [hU]; exact new_at (w := (w.alloc _).alloc _) (by simp) (Ext.drew (Ext.alloc (Below.refl _ _) _)))
      have Hbm : Hid (U.drew.heap[w.heap.size + 1 + 1 + 1]? = some (.cells #[.bool true, .int .i64 42] 87)) := Lib.hid (by rw [hU]; exact new_at (w := ((w.alloc _).alloc _).alloc _) (by simp) (Ext.drew (Below.refl _ _)))
      clear hU
      go_enter Try.func48, Try.ntmps48
      go_wp2_with fail
      rw [← HU.out]
      refine wp_region_res (fun x y => Ext w x → Ext w y) [⟨none, [], []⟩, ⟨none, [], []⟩, ⟨none, [], [9]⟩, ⟨some 9, [], []⟩, ⟨none, [], []⟩, ⟨some 5, [(5, [])], [6]⟩] [(fun (u : Nat → Value) (W : World) => (fun (_ : Value) (W : World) => W.heap[w.heap.size]? = some (.cells c.cells.toArray 24)) (undef) W), (fun (u : Nat → Value) (W : World) => (fun (_ : Value) (W : World) => W.heap[w.heap.size + 1]? = some (.cells #[.int .i64 n] 3)) (undef) W), (fun (u : Nat → Value) (W : World) => (fun (_ : Value) (W : World) => W.heap[w.heap.size + 1 + 1]? = some (.cells zeroCells 24)) (undef) W), (fun (u : Nat → Value) (W : World) => (fun (_ : Value) (W : World) => W.heap[w.heap.size + 1 + 1]? = some (.cells X.1.cells.toArray 24)) (undef) W), (fun (u : Nat → Value) (W : World) => (fun (_ : Value) (W : World) => W.heap[w.heap.size + 1 + 1 + 1]? = some (.cells #[.bool true, .int .i64 42] 87)) (undef) W), (fun (u : Nat → Value) (W : World) => (OwnM w.heap.size L) (u 5) W)] [⟨[(0, []), (1, []), (4, [])], [.keep, .keep, .keep, .early [0], .keep, .keep]⟩, ⟨[(0, []), (1, []), (4, [])], [.keep, .keep, .keep, .early [1], .keep, .keep]⟩, ⟨[(0, []), (1, []), (4, [])], [.keep, .keep, .keep, .early [2], .keep, .early [3, 2]]⟩, ⟨[(0, []), (1, []), (4, [])], [.keep, .keep, .keep, .early [3], .keep, .early [3]]⟩, ⟨[(0, []), (1, []), (4, [])], [.keep, .keep, .keep, .early [4], .keep, .early [4]]⟩, ⟨[(0, []), (1, []), (4, [])], [.keep, .keep, .keep, .early [5], .keep, .last]⟩, ⟨[(0, []), (1, []), (4, []), (5, [5])], [.keep, .keep, .keep, .early [6], .keep, .late [[]]]⟩, ⟨[(0, []), (1, []), (4, [])], [.keep, .keep, .keep, .early [7], .keep, .late [[6]]]⟩, ⟨[(0, []), (1, []), (4, [])], [.keep, .keep, .keep, .early [8], .keep, .late [[6]]]⟩, ⟨[(0, []), (1, []), (2, []), (4, [])], [.keep, .keep, .late [[]], .last, .keep, .late [[6]]]⟩, ⟨[(0, []), (1, []), (3, [9]), (4, [])], [.keep, .keep, .late [[9]], .keep, .keep, .late [[6]]]⟩] [16, 17, 18, 19, 20, 21, 22, 23, 24, 5] (by kernel_rfl) (fun _ k => k) (fun _ _ _ h k e => k (h e)) (by kernel_rfl) (by kernel_rfl) (by kernel_rfl) (by kernel_rfl) (by kernel_rfl) ?start ?_
      case start =>
        refine And.intro ?_ ?_
        · exact Hbc.out
        refine And.intro ?_ ?_
        · exact Hbn.out
        refine And.intro ?_ ?_
        · exact Hbr.out
        refine And.intro ?_ ?_
        · exact Hbm.out
        exact trivial
      apply ex_is; apply Exists.intro
      apply ex_is; apply Exists.intro
      apply ex_is; apply Exists.intro
      apply ex_is; apply Exists.intro
      apply ex_is; apply Exists.intro
      refine ex_phi (fun _ _ => True) ?_
      apply ex_is; apply Exists.intro
      apply ex_is; apply Exists.intro
      apply ex_is; apply Exists.intro
      refine ex_phi (fun _ _ => True) ?_
      apply ex_is; apply Exists.intro
      refine ⟨[], ⟨?steps, ?stab, ?ends⟩⟩
      case steps =>
        refine And.intro (obX_pure (fun _ k => k) ?_) ?_
        · intro act W hR hf ho hu K hK
          replace hK := fun v h2 => hK v W rfl h2 trivial
          have G : act.tmps[2]?.getD undef = _ ∧ True := ho
          obtain ⟨g2, -⟩ := G
          have U : (fun (_ : Value) (W : World) => W.heap[w.heap.size]? = some (.cells c.cells.toArray 24)) (undef) W ∧ (fun (_ : Value) (W : World) => W.heap[w.heap.size + 1]? = some (.cells #[.int .i64 n] 3)) (undef) W ∧ (fun (_ : Value) (W : World) => W.heap[w.heap.size + 1 + 1 + 1]? = some (.cells #[.bool true, .int .i64 42] 87)) (undef) W ∧ True := hu
          obtain ⟨r_bc, r_bn, r_bm, -⟩ := U
          clear ho hf hu
          obtain ⟨y0, y1, y2, y3, y4, y5⟩ := lie6' r_bc (Below.refl _ W)
          go_simp
          exact hK _ (Eq.refl _)
        refine And.intro (obX_pure (fun _ k => k) ?_) ?_
        · intro act W hR hf ho hu K hK
          replace hK := fun v h2 => hK v W rfl h2 trivial
          have G : act.tmps[3]?.getD undef = _ ∧ True := ho
          obtain ⟨g3, -⟩ := G
          have U : (fun (_ : Value) (W : World) => W.heap[w.heap.size]? = some (.cells c.cells.toArray 24)) (undef) W ∧ (fun (_ : Value) (W : World) => W.heap[w.heap.size + 1]? = some (.cells #[.int .i64 n] 3)) (undef) W ∧ (fun (_ : Value) (W : World) => W.heap[w.heap.size + 1 + 1 + 1]? = some (.cells #[.bool true, .int .i64 42] 87)) (undef) W ∧ True := hu
          obtain ⟨r_bc, r_bn, r_bm, -⟩ := U
          clear ho hf hu
          go_simp
          exact hK _ (Eq.refl _)
        refine And.intro (obX_pure (fun _ k => k) ?_) ?_
        · intro act W hR hf ho hu K hK
          replace hK := fun v h2 => hK v W rfl h2 trivial
          have G : act.tmps[2]?.getD undef = _ ∧ True := ho
          obtain ⟨g2, -⟩ := G
          have U : (fun (_ : Value) (W : World) => W.heap[w.heap.size]? = some (.cells c.cells.toArray 24)) (undef) W ∧ (fun (_ : Value) (W : World) => W.heap[w.heap.size + 1]? = some (.cells #[.int .i64 n] 3)) (undef) W ∧ (fun (_ : Value) (W : World) => W.heap[w.heap.size + 1 + 1 + 1]? = some (.cells #[.bool true, .int .i64 42] 87)) (undef) W ∧ True := hu
          obtain ⟨r_bc, r_bn, r_bm, -⟩ := U
          clear ho hf hu
          obtain ⟨y0, y1, y2, y3, y4, y5⟩ := lie6' r_bc (Below.refl _ W)
          go_simp
          exact hK _ (Eq.refl _)
        refine And.intro (obX_eff (Ext) (fun _ _ h k => k.then h) (And.intro (fun _ _ _ h e => ext_at e h) (And.intro (fun _ _ _ h e => ext_at e h) (And.intro (fun _ _ _ h e => ext_at e h) (And.intro (fun _ _ _ h e => ext_at e h) (trivial))))) ?_) ?_
        · intro act W hR hf ho hu K hK
          replace hK := fun v (w' : World) (h1 : (Ext) W w') h2 => hK v w' h1 h2 trivial
          have F : act.tmps[18]?.getD undef = _ ∧ True := hf
          obtain ⟨f2, -⟩ := F
          have U : (fun (_ : Value) (W : World) => W.heap[w.heap.size]? = some (.cells c.cells.toArray 24)) (undef) W ∧ (fun (_ : Value) (W : World) => W.heap[w.heap.size + 1]? = some (.cells #[.int .i64 n] 3)) (undef) W ∧ (fun (_ : Value) (W : World) => W.heap[w.heap.size + 1 + 1 + 1]? = some (.cells #[.bool true, .int .i64 42] 87)) (undef) W ∧ True := hu
          obtain ⟨r_bc, r_bn, r_bm, -⟩ := U
          clear ho hf hu
          go_simp
          refine (right_must c _ hc).mono ?_; rintro _ W1 ⟨rfl, hE⟩; exact hK _ _ hE (Eq.refl _)
        refine And.intro (obX_pure (fun _ k => k) ?_) ?_
        · intro act W hR hf ho hu K hK
          replace hK := fun v h2 => hK v W rfl h2 trivial
          have G : act.tmps[6]?.getD undef = _ ∧ True := ho
          obtain ⟨g6, -⟩ := G
          have U : (fun (_ : Value) (W : World) => W.heap[w.heap.size]? = some (.cells c.cells.toArray 24)) (undef) W ∧ (fun (_ : Value) (W : World) => W.heap[w.heap.size + 1]? = some (.cells #[.int .i64 n] 3)) (undef) W ∧ (fun (_ : Value) (W : World) => W.heap[w.heap.size + 1 + 1 + 1]? = some (.cells #[.bool true, .int .i64 42] 87)) (undef) W ∧ True := hu
          obtain ⟨r_bc, r_bn, r_bm, -⟩ := U
          clear ho hf hu
          have x0 := cellAt r_bm 0 (.bool true) rfl; have x1 := cellAt r_bm 1 (.int .i64 42) rfl
          go_simp
          exact hK _ (Eq.refl _)
        refine And.intro (obX_eff (Ext) (fun _ _ h k => k.then h) (And.intro (fun _ _ _ h e => ext_at e h) (And.intro (fun _ _ _ h e => ext_at e h) (And.intro (fun _ _ _ h e => ext_at e h) (And.intro (fun _ _ _ h e => ext_at e h) (trivial))))) ?_) ?_
        · intro act W hR hf ho hu K hK
          replace hK := fun v (w' : World) (h1 : (Ext) W w') (b5 : (OwnM w.heap.size L) (v) w') => hK v w' h1 trivial ⟨b5, trivial⟩
          have F : act.tmps[19]?.getD undef = _ ∧ act.tmps[20]?.getD undef = _ ∧ True := hf
          obtain ⟨f3, f4, -⟩ := F
          have U : (fun (_ : Value) (W : World) => W.heap[w.heap.size]? = some (.cells c.cells.toArray 24)) (undef) W ∧ (fun (_ : Value) (W : World) => W.heap[w.heap.size + 1]? = some (.cells #[.int .i64 n] 3)) (undef) W ∧ (fun (_ : Value) (W : World) => W.heap[w.heap.size + 1 + 1 + 1]? = some (.cells #[.bool true, .int .i64 42] 87)) (undef) W ∧ True := hu
          obtain ⟨r_bc, r_bn, r_bm, -⟩ := U
          clear ho hf hu
          go_simp
          exact hK _ _ (by repeat first | (with_reducible exact Below.refl _ _) | (with_reducible apply Ext.alloc) | (with_reducible apply Ext.drew) | (with_reducible apply Ext.drewN) | (with_reducible refine Ext.set ?_ (by simp))) (HL'.out ▸ own_lit W w.heap.size 87 2 2 (mustCells [(rightC c, 1), (true, 42)]) (hR EU.out).size rfl (by simp [maxLen]))
        refine And.intro (obX_eff (Ext) (fun _ _ h k => k.then h) (And.intro (fun _ _ _ h e => ext_at e h) (And.intro (fun _ _ _ h e => ext_at e h) (And.intro (fun _ _ _ h e => ext_at e h) (And.intro (fun _ _ _ h e => ext_at e h) (trivial))))) ?_) ?_
        · intro act W hR hf ho hu K hK
          replace hK := fun v (w' : World) (h1 : (Ext) W w') h2 => hK v w' h1 h2 trivial
          have F : act.tmps[16]?.getD undef = _ ∧ act.tmps[17]?.getD undef = _ ∧ (fun _ _ => True) (act.tmps[21]?.getD undef) W ∧ act.tmps[19]?.getD undef = _ ∧ True := hf
          obtain ⟨f0, f1, -, f3, -⟩ := F
          have U : (fun (_ : Value) (W : World) => W.heap[w.heap.size]? = some (.cells c.cells.toArray 24)) (undef) W ∧ (fun (_ : Value) (W : World) => W.heap[w.heap.size + 1]? = some (.cells #[.int .i64 n] 3)) (undef) W ∧ (fun (_ : Value) (W : World) => W.heap[w.heap.size + 1 + 1 + 1]? = some (.cells #[.bool true, .int .i64 42] 87)) (undef) W ∧ (OwnM w.heap.size L) (act.tmps[21]?.getD undef) W ∧ True := hu
          obtain ⟨r_bc, r_bn, r_bm, r_r8, -⟩ := U
          generalize f5 : act.tmps[21]?.getD undef = v5 at r_r8
          clear ho hf hu
          obtain ⟨A8, c8, rfl, -, ha8⟩ := Arr.own r_r8
          go_simp
          refine (made_any (moveF n) 74 #[.pointer (some ⟨w.heap.size + 1, 0, none⟩)] c A8 c8 L _ ha8 hll.out (enters_of Try.func74 (by kernel_rfl) rfl) (fun W' b hE' hb' h' => move1_any n c b _ W' h' (ext_at hE' r_bn))).mono ?_; rintro _ W1 ⟨rfl, hE⟩; rw [← HX.out]; exact hK _ _ hE (Eq.refl _)
        refine And.intro (obX_pure (fun _ k => k) ?_) ?_
        · intro act W hR hf ho hu K hK
          replace hK := fun v h2 => hK v W rfl h2 trivial
          have F : act.tmps[22]?.getD undef = _ ∧ True := hf
          obtain ⟨f6, -⟩ := F
          have U : (fun (_ : Value) (W : World) => W.heap[w.heap.size]? = some (.cells c.cells.toArray 24)) (undef) W ∧ (fun (_ : Value) (W : World) => W.heap[w.heap.size + 1]? = some (.cells #[.int .i64 n] 3)) (undef) W ∧ (fun (_ : Value) (W : World) => W.heap[w.heap.size + 1 + 1 + 1]? = some (.cells #[.bool true, .int .i64 42] 87)) (undef) W ∧ True := hu
          obtain ⟨r_bc, r_bn, r_bm, -⟩ := U
          clear ho hf hu
          go_simp
          exact hK _ (Eq.refl _)
        refine And.intro (obX_pure (fun _ k => k) ?_) ?_
        · intro act W hR hf ho hu K hK
          replace hK := fun v h2 => hK v W rfl h2 trivial
          have F : act.tmps[22]?.getD undef = _ ∧ True := hf
          obtain ⟨f6, -⟩ := F
          have U : (fun (_ : Value) (W : World) => W.heap[w.heap.size]? = some (.cells c.cells.toArray 24)) (undef) W ∧ (fun (_ : Value) (W : World) => W.heap[w.heap.size + 1]? = some (.cells #[.int .i64 n] 3)) (undef) W ∧ (fun (_ : Value) (W : World) => W.heap[w.heap.size + 1 + 1 + 1]? = some (.cells #[.bool true, .int .i64 42] 87)) (undef) W ∧ True := hu
          obtain ⟨r_bc, r_bn, r_bm, -⟩ := U
          clear ho hf hu
          go_simp
          exact hK _ (Eq.refl _)
        refine And.intro (obX_eff (fun x y => World.grownBy x y (some (w.heap.size + 1 + 1))) (fun _ _ h k => ext_grown k h (by omega)) (And.intro (fun _ _ _ h e => grown_at e h (by omega)) (And.intro (fun _ _ _ h e => grown_at e h (by omega)) (And.intro (fun _ _ _ h e => grown_at e h (by omega)) (trivial)))) ?_) ?_
        · intro act W hR hf ho hu K hK
          replace hK := fun (w' : World) (h1 : (fun x y => World.grownBy x y (some (w.heap.size + 1 + 1))) W w') (b3 : (fun (_ : Value) (W : World) => W.heap[w.heap.size + 1 + 1]? = some (.cells X.1.cells.toArray 24)) (undef) w') => hK undef w' h1 trivial ⟨b3, trivial⟩
          have G : act.tmps[4]?.getD undef = _ ∧ True := ho
          obtain ⟨g4, -⟩ := G
          have F : act.tmps[23]?.getD undef = _ ∧ act.tmps[22]?.getD undef = _ ∧ act.tmps[16]?.getD undef = _ ∧ act.tmps[17]?.getD undef = _ ∧ act.tmps[18]?.getD undef = _ ∧ act.tmps[19]?.getD undef = _ ∧ act.tmps[20]?.getD undef = _ ∧ (fun _ _ => True) (act.tmps[21]?.getD undef) W ∧ act.tmps[22]?.getD undef = _ ∧ act.tmps[23]?.getD undef = _ ∧ act.tmps[24]?.getD undef = _ ∧ True := hf
          obtain ⟨f7, f6, f0, f1, f2, f3, f4, -, -, -, f8, -⟩ := F
          have U : (fun (_ : Value) (W : World) => W.heap[w.heap.size]? = some (.cells c.cells.toArray 24)) (undef) W ∧ (fun (_ : Value) (W : World) => W.heap[w.heap.size + 1]? = some (.cells #[.int .i64 n] 3)) (undef) W ∧ (fun (_ : Value) (W : World) => W.heap[w.heap.size + 1 + 1]? = some (.cells zeroCells 24)) (undef) W ∧ (fun (_ : Value) (W : World) => W.heap[w.heap.size + 1 + 1 + 1]? = some (.cells #[.bool true, .int .i64 42] 87)) (undef) W ∧ True := hu
          obtain ⟨r_bc, r_bn, r_br, r_bm, -⟩ := U
          generalize f5 : act.tmps[21]?.getD undef = v5
          clear ho hf hu
          have fz := frozen_row' r_br; obtain ⟨q0, q1, q2, q3, q4, q5⟩ := lie6' r_br (Below.refl _ _); have hlq := cell_lt q0; simp only at hlq; have hq := set_cells6 r_br (.bool X.1.tag) (.int .i64 X.1.base) (.int .i64 X.1.top) (.int .i64 X.1.at') (.int .i64 X.1.perms) (.int .i64 X.1.ty)
          go_simp
          exact hK _ grown_set6 hq
        refine And.intro (obX_pure (fun _ k => k) ?_) ?_
        · intro act W hR hf ho hu K hK
          replace hK := fun v h2 => hK v W rfl h2 trivial
          have F : act.tmps[24]?.getD undef = _ ∧ (fun _ _ => True) (undef) W ∧ act.tmps[16]?.getD undef = _ ∧ act.tmps[17]?.getD undef = _ ∧ act.tmps[18]?.getD undef = _ ∧ act.tmps[19]?.getD undef = _ ∧ act.tmps[20]?.getD undef = _ ∧ (fun _ _ => True) (act.tmps[21]?.getD undef) W ∧ act.tmps[22]?.getD undef = _ ∧ act.tmps[23]?.getD undef = _ ∧ act.tmps[24]?.getD undef = _ ∧ (fun _ _ => True) (undef) W ∧ True := hf
          obtain ⟨f8, -, f0, f1, f2, f3, f4, -, f6, f7, -, -, -⟩ := F
          have U : (fun (_ : Value) (W : World) => W.heap[w.heap.size]? = some (.cells c.cells.toArray 24)) (undef) W ∧ (fun (_ : Value) (W : World) => W.heap[w.heap.size + 1]? = some (.cells #[.int .i64 n] 3)) (undef) W ∧ (fun (_ : Value) (W : World) => W.heap[w.heap.size + 1 + 1]? = some (.cells X.1.cells.toArray 24)) (undef) W ∧ (fun (_ : Value) (W : World) => W.heap[w.heap.size + 1 + 1 + 1]? = some (.cells #[.bool true, .int .i64 42] 87)) (undef) W ∧ True := hu
          obtain ⟨r_bc, r_bn, r_out, r_bm, -⟩ := U
          generalize f5 : act.tmps[21]?.getD undef = v5
          clear ho hf hu
          go_simp
          exact hK _ (Eq.refl _)
        exact trivial
      case stab =>
        refine And.intro is_stable ?_
        refine And.intro is_stable ?_
        refine And.intro is_stable ?_
        refine And.intro is_stable ?_
        refine And.intro is_stable ?_
        refine And.intro (fun _ _ _ h _ => h) ?_
        refine And.intro is_stable ?_
        refine And.intro is_stable ?_
        refine And.intro is_stable ?_
        refine And.intro (fun _ _ _ h _ => h) ?_
        refine And.intro is_stable ?_
        exact trivial
      case ends =>
        intro vals W hR hE hall
        have E : (fun (_ : Value) (W : World) => W.heap[w.heap.size]? = some (.cells c.cells.toArray 24)) (undef) W ∧ (fun (_ : Value) (W : World) => W.heap[w.heap.size + 1]? = some (.cells #[.int .i64 n] 3)) (undef) W ∧ (fun (_ : Value) (W : World) => W.heap[w.heap.size + 1 + 1]? = some (.cells X.1.cells.toArray 24)) (undef) W ∧ (fun (_ : Value) (W : World) => W.heap[w.heap.size + 1 + 1 + 1]? = some (.cells #[.bool true, .int .i64 42] 87)) (undef) W ∧ True := hE
        obtain ⟨e_bc, e_bn, e_out, e_bm, -⟩ := E
        clear hE
        have e5 : vals 5 = _ := hall 10 (by decide)
        clear hall
        simp only [fill, List.setIfInBounds_toArray, List.set_cons_succ, List.set_cons_zero, e5]
        obtain ⟨c0, c1, c2, c3, c4, c5⟩ := lie6' e_out (Below.refl _ _)
        go_wp2_with fail
        exact bodyPost_ret (v := .tuple #[X.1.val, .int .i64 X.2]) (by simp [results, Try.results48, go_sem, c0, c1, c2, c3, c4, c5]) rfl ⟨rfl, (by repeat first | (with_reducible exact Below.refl _ _) | (with_reducible apply Ext.alloc) | (with_reducible apply Ext.drew) | (with_reducible apply Ext.drewN) | (with_reducible refine Ext.set ?_ (by simp)) | (with_reducible refine Ext.then ?_ (hR EU.out)))⟩
    | false =>
      have HY := Lib.hid hy
      have HL' : Hid (L = [(rightC c, 1), (false, 42)]) := Lib.hid (by rw [HL.out, HT.out, HY.out]; rfl)
      obtain ⟨U, hU⟩ : ∃ U, U = (((w.alloc (.cells c.cells.toArray 24)).alloc (.cells #[.int .i64 n] 3)).alloc (.cells zeroCells 24)).alloc (.cells #[.bool false, .int .i64 42] 87) := ⟨_, rfl⟩
      have HU := Lib.hid hU
      have EU : Hid (Ext w U.drew) := Lib.hid (by rw [hU]; exact (by repeat first | (with_reducible exact Below.refl _ _) | (with_reducible apply Ext.alloc) | (with_reducible apply Ext.drew) | (with_reducible apply Ext.drewN) | (with_reducible refine Ext.set ?_ (by simp))))
      have Hbc : Hid (U.drew.heap[w.heap.size]? = some (.cells c.cells.toArray 24)) := Lib.hid (by rw [hU]; exact new_at (w := w) (by simp) (Ext.drew (Ext.alloc (Ext.alloc (Ext.alloc (Below.refl _ _) _) _) _)))
      have Hbn : Hid (U.drew.heap[w.heap.size + 1]? = some (.cells #[.int .i64 n] 3)) := Lib.hid (by rw [hU]; exact new_at (w := w.alloc _) (by simp) (Ext.drew (Ext.alloc (Ext.alloc (Below.refl _ _) _) _)))
      have Hbr : Hid (U.drew.heap[w.heap.size + 1 + 1]? = some (.cells zeroCells 24)) := Lib.hid (by rw [hU]; exact new_at (w := (w.alloc _).alloc _) (by simp) (Ext.drew (Ext.alloc (Below.refl _ _) _)))
      have Hbm : Hid (U.drew.heap[w.heap.size + 1 + 1 + 1]? = some (.cells #[.bool false, .int .i64 42] 87)) := Lib.hid (by rw [hU]; exact new_at (w := ((w.alloc _).alloc _).alloc _) (by simp) (Ext.drew (Below.refl _ _)))
      clear hU
      go_enter Try.func48, Try.ntmps48
      go_wp2_with fail
      rw [← HU.out]
      refine wp_region_res (fun x y => Ext w x → Ext w y) [⟨none, [], []⟩, ⟨none, [], []⟩, ⟨none, [], [9]⟩, ⟨some 9, [], []⟩, ⟨none, [], []⟩, ⟨some 5, [(5, [])], [6]⟩] [(fun (u : Nat → Value) (W : World) => (fun (_ : Value) (W : World) => W.heap[w.heap.size]? = some (.cells c.cells.toArray 24)) (undef) W), (fun (u : Nat → Value) (W : World) => (fun (_ : Value) (W : World) => W.heap[w.heap.size + 1]? = some (.cells #[.int .i64 n] 3)) (undef) W), (fun (u : Nat → Value) (W : World) => (fun (_ : Value) (W : World) => W.heap[w.heap.size + 1 + 1]? = some (.cells zeroCells 24)) (undef) W), (fun (u : Nat → Value) (W : World) => (fun (_ : Value) (W : World) => W.heap[w.heap.size + 1 + 1]? = some (.cells X.1.cells.toArray 24)) (undef) W), (fun (u : Nat → Value) (W : World) => (fun (_ : Value) (W : World) => W.heap[w.heap.size + 1 + 1 + 1]? = some (.cells #[.bool false, .int .i64 42] 87)) (undef) W), (fun (u : Nat → Value) (W : World) => (OwnM w.heap.size L) (u 5) W)] [⟨[(0, []), (1, []), (4, [])], [.keep, .keep, .keep, .early [0], .keep, .keep]⟩, ⟨[(0, []), (1, []), (4, [])], [.keep, .keep, .keep, .early [1], .keep, .keep]⟩, ⟨[(0, []), (1, []), (4, [])], [.keep, .keep, .keep, .early [2], .keep, .early [3, 2]]⟩, ⟨[(0, []), (1, []), (4, [])], [.keep, .keep, .keep, .early [3], .keep, .early [3]]⟩, ⟨[(0, []), (1, []), (4, [])], [.keep, .keep, .keep, .early [4], .keep, .early [4]]⟩, ⟨[(0, []), (1, []), (4, [])], [.keep, .keep, .keep, .early [5], .keep, .last]⟩, ⟨[(0, []), (1, []), (4, []), (5, [5])], [.keep, .keep, .keep, .early [6], .keep, .late [[]]]⟩, ⟨[(0, []), (1, []), (4, [])], [.keep, .keep, .keep, .early [7], .keep, .late [[6]]]⟩, ⟨[(0, []), (1, []), (4, [])], [.keep, .keep, .keep, .early [8], .keep, .late [[6]]]⟩, ⟨[(0, []), (1, []), (2, []), (4, [])], [.keep, .keep, .late [[]], .last, .keep, .late [[6]]]⟩, ⟨[(0, []), (1, []), (3, [9]), (4, [])], [.keep, .keep, .late [[9]], .keep, .keep, .late [[6]]]⟩] [16, 17, 18, 19, 20, 21, 22, 23, 24, 5] (by kernel_rfl) (fun _ k => k) (fun _ _ _ h k e => k (h e)) (by kernel_rfl) (by kernel_rfl) (by kernel_rfl) (by kernel_rfl) (by kernel_rfl) ?start ?_
      case start =>
        refine And.intro ?_ ?_
        · exact Hbc.out
        refine And.intro ?_ ?_
        · exact Hbn.out
        refine And.intro ?_ ?_
        · exact Hbr.out
        refine And.intro ?_ ?_
        · exact Hbm.out
        exact trivial
      apply ex_is; apply Exists.intro
      apply ex_is; apply Exists.intro
      apply ex_is; apply Exists.intro
      apply ex_is; apply Exists.intro
      apply ex_is; apply Exists.intro
      refine ex_phi (fun _ _ => True) ?_
      apply ex_is; apply Exists.intro
      apply ex_is; apply Exists.intro
      apply ex_is; apply Exists.intro
      refine ex_phi (fun _ _ => True) ?_
      apply ex_is; apply Exists.intro
      refine ⟨[], ⟨?steps, ?stab, ?ends⟩⟩
      case steps =>
        refine And.intro (obX_pure (fun _ k => k) ?_) ?_
        · intro act W hR hf ho hu K hK
          replace hK := fun v h2 => hK v W rfl h2 trivial
          have G : act.tmps[2]?.getD undef = _ ∧ True := ho
          obtain ⟨g2, -⟩ := G
          have U : (fun (_ : Value) (W : World) => W.heap[w.heap.size]? = some (.cells c.cells.toArray 24)) (undef) W ∧ (fun (_ : Value) (W : World) => W.heap[w.heap.size + 1]? = some (.cells #[.int .i64 n] 3)) (undef) W ∧ (fun (_ : Value) (W : World) => W.heap[w.heap.size + 1 + 1 + 1]? = some (.cells #[.bool false, .int .i64 42] 87)) (undef) W ∧ True := hu
          obtain ⟨r_bc, r_bn, r_bm, -⟩ := U
          clear ho hf hu
          obtain ⟨y0, y1, y2, y3, y4, y5⟩ := lie6' r_bc (Below.refl _ W)
          go_simp
          exact hK _ (Eq.refl _)
        refine And.intro (obX_pure (fun _ k => k) ?_) ?_
        · intro act W hR hf ho hu K hK
          replace hK := fun v h2 => hK v W rfl h2 trivial
          have G : act.tmps[3]?.getD undef = _ ∧ True := ho
          obtain ⟨g3, -⟩ := G
          have U : (fun (_ : Value) (W : World) => W.heap[w.heap.size]? = some (.cells c.cells.toArray 24)) (undef) W ∧ (fun (_ : Value) (W : World) => W.heap[w.heap.size + 1]? = some (.cells #[.int .i64 n] 3)) (undef) W ∧ (fun (_ : Value) (W : World) => W.heap[w.heap.size + 1 + 1 + 1]? = some (.cells #[.bool false, .int .i64 42] 87)) (undef) W ∧ True := hu
          obtain ⟨r_bc, r_bn, r_bm, -⟩ := U
          clear ho hf hu
          go_simp
          exact hK _ (Eq.refl _)
        refine And.intro (obX_pure (fun _ k => k) ?_) ?_
        · intro act W hR hf ho hu K hK
          replace hK := fun v h2 => hK v W rfl h2 trivial
          have G : act.tmps[2]?.getD undef = _ ∧ True := ho
          obtain ⟨g2, -⟩ := G
          have U : (fun (_ : Value) (W : World) => W.heap[w.heap.size]? = some (.cells c.cells.toArray 24)) (undef) W ∧ (fun (_ : Value) (W : World) => W.heap[w.heap.size + 1]? = some (.cells #[.int .i64 n] 3)) (undef) W ∧ (fun (_ : Value) (W : World) => W.heap[w.heap.size + 1 + 1 + 1]? = some (.cells #[.bool false, .int .i64 42] 87)) (undef) W ∧ True := hu
          obtain ⟨r_bc, r_bn, r_bm, -⟩ := U
          clear ho hf hu
          obtain ⟨y0, y1, y2, y3, y4, y5⟩ := lie6' r_bc (Below.refl _ W)
          go_simp
          exact hK _ (Eq.refl _)
        refine And.intro (obX_eff (Ext) (fun _ _ h k => k.then h) (And.intro (fun _ _ _ h e => ext_at e h) (And.intro (fun _ _ _ h e => ext_at e h) (And.intro (fun _ _ _ h e => ext_at e h) (And.intro (fun _ _ _ h e => ext_at e h) (trivial))))) ?_) ?_
        · intro act W hR hf ho hu K hK
          replace hK := fun v (w' : World) (h1 : (Ext) W w') h2 => hK v w' h1 h2 trivial
          have F : act.tmps[18]?.getD undef = _ ∧ True := hf
          obtain ⟨f2, -⟩ := F
          have U : (fun (_ : Value) (W : World) => W.heap[w.heap.size]? = some (.cells c.cells.toArray 24)) (undef) W ∧ (fun (_ : Value) (W : World) => W.heap[w.heap.size + 1]? = some (.cells #[.int .i64 n] 3)) (undef) W ∧ (fun (_ : Value) (W : World) => W.heap[w.heap.size + 1 + 1 + 1]? = some (.cells #[.bool false, .int .i64 42] 87)) (undef) W ∧ True := hu
          obtain ⟨r_bc, r_bn, r_bm, -⟩ := U
          clear ho hf hu
          go_simp
          refine (right_must c _ hc).mono ?_; rintro _ W1 ⟨rfl, hE⟩; exact hK _ _ hE (Eq.refl _)
        refine And.intro (obX_pure (fun _ k => k) ?_) ?_
        · intro act W hR hf ho hu K hK
          replace hK := fun v h2 => hK v W rfl h2 trivial
          have G : act.tmps[6]?.getD undef = _ ∧ True := ho
          obtain ⟨g6, -⟩ := G
          have U : (fun (_ : Value) (W : World) => W.heap[w.heap.size]? = some (.cells c.cells.toArray 24)) (undef) W ∧ (fun (_ : Value) (W : World) => W.heap[w.heap.size + 1]? = some (.cells #[.int .i64 n] 3)) (undef) W ∧ (fun (_ : Value) (W : World) => W.heap[w.heap.size + 1 + 1 + 1]? = some (.cells #[.bool false, .int .i64 42] 87)) (undef) W ∧ True := hu
          obtain ⟨r_bc, r_bn, r_bm, -⟩ := U
          clear ho hf hu
          have x0 := cellAt r_bm 0 (.bool false) rfl; have x1 := cellAt r_bm 1 (.int .i64 42) rfl
          go_simp
          exact hK _ (Eq.refl _)
        refine And.intro (obX_eff (Ext) (fun _ _ h k => k.then h) (And.intro (fun _ _ _ h e => ext_at e h) (And.intro (fun _ _ _ h e => ext_at e h) (And.intro (fun _ _ _ h e => ext_at e h) (And.intro (fun _ _ _ h e => ext_at e h) (trivial))))) ?_) ?_
        · intro act W hR hf ho hu K hK
          replace hK := fun v (w' : World) (h1 : (Ext) W w') (b5 : (OwnM w.heap.size L) (v) w') => hK v w' h1 trivial ⟨b5, trivial⟩
          have F : act.tmps[19]?.getD undef = _ ∧ act.tmps[20]?.getD undef = _ ∧ True := hf
          obtain ⟨f3, f4, -⟩ := F
          have U : (fun (_ : Value) (W : World) => W.heap[w.heap.size]? = some (.cells c.cells.toArray 24)) (undef) W ∧ (fun (_ : Value) (W : World) => W.heap[w.heap.size + 1]? = some (.cells #[.int .i64 n] 3)) (undef) W ∧ (fun (_ : Value) (W : World) => W.heap[w.heap.size + 1 + 1 + 1]? = some (.cells #[.bool false, .int .i64 42] 87)) (undef) W ∧ True := hu
          obtain ⟨r_bc, r_bn, r_bm, -⟩ := U
          clear ho hf hu
          go_simp
          exact hK _ _ (by repeat first | (with_reducible exact Below.refl _ _) | (with_reducible apply Ext.alloc) | (with_reducible apply Ext.drew) | (with_reducible apply Ext.drewN) | (with_reducible refine Ext.set ?_ (by simp))) (HL'.out ▸ own_lit W w.heap.size 87 2 2 (mustCells [(rightC c, 1), (false, 42)]) (hR EU.out).size rfl (by simp [maxLen]))
        refine And.intro (obX_eff (Ext) (fun _ _ h k => k.then h) (And.intro (fun _ _ _ h e => ext_at e h) (And.intro (fun _ _ _ h e => ext_at e h) (And.intro (fun _ _ _ h e => ext_at e h) (And.intro (fun _ _ _ h e => ext_at e h) (trivial))))) ?_) ?_
        · intro act W hR hf ho hu K hK
          replace hK := fun v (w' : World) (h1 : (Ext) W w') h2 => hK v w' h1 h2 trivial
          have F : act.tmps[16]?.getD undef = _ ∧ act.tmps[17]?.getD undef = _ ∧ (fun _ _ => True) (act.tmps[21]?.getD undef) W ∧ act.tmps[19]?.getD undef = _ ∧ True := hf
          obtain ⟨f0, f1, -, f3, -⟩ := F
          have U : (fun (_ : Value) (W : World) => W.heap[w.heap.size]? = some (.cells c.cells.toArray 24)) (undef) W ∧ (fun (_ : Value) (W : World) => W.heap[w.heap.size + 1]? = some (.cells #[.int .i64 n] 3)) (undef) W ∧ (fun (_ : Value) (W : World) => W.heap[w.heap.size + 1 + 1 + 1]? = some (.cells #[.bool false, .int .i64 42] 87)) (undef) W ∧ (OwnM w.heap.size L) (act.tmps[21]?.getD undef) W ∧ True := hu
          obtain ⟨r_bc, r_bn, r_bm, r_r8, -⟩ := U
          generalize f5 : act.tmps[21]?.getD undef = v5 at r_r8
          clear ho hf hu
          obtain ⟨A8, c8, rfl, -, ha8⟩ := Arr.own r_r8
          go_simp
          refine (made_any (moveF n) 74 #[.pointer (some ⟨w.heap.size + 1, 0, none⟩)] c A8 c8 L _ ha8 hll.out (enters_of Try.func74 (by kernel_rfl) rfl) (fun W' b hE' hb' h' => move1_any n c b _ W' h' (ext_at hE' r_bn))).mono ?_; rintro _ W1 ⟨rfl, hE⟩; rw [← HX.out]; exact hK _ _ hE (Eq.refl _)
        refine And.intro (obX_pure (fun _ k => k) ?_) ?_
        · intro act W hR hf ho hu K hK
          replace hK := fun v h2 => hK v W rfl h2 trivial
          have F : act.tmps[22]?.getD undef = _ ∧ True := hf
          obtain ⟨f6, -⟩ := F
          have U : (fun (_ : Value) (W : World) => W.heap[w.heap.size]? = some (.cells c.cells.toArray 24)) (undef) W ∧ (fun (_ : Value) (W : World) => W.heap[w.heap.size + 1]? = some (.cells #[.int .i64 n] 3)) (undef) W ∧ (fun (_ : Value) (W : World) => W.heap[w.heap.size + 1 + 1 + 1]? = some (.cells #[.bool false, .int .i64 42] 87)) (undef) W ∧ True := hu
          obtain ⟨r_bc, r_bn, r_bm, -⟩ := U
          clear ho hf hu
          go_simp
          exact hK _ (Eq.refl _)
        refine And.intro (obX_pure (fun _ k => k) ?_) ?_
        · intro act W hR hf ho hu K hK
          replace hK := fun v h2 => hK v W rfl h2 trivial
          have F : act.tmps[22]?.getD undef = _ ∧ True := hf
          obtain ⟨f6, -⟩ := F
          have U : (fun (_ : Value) (W : World) => W.heap[w.heap.size]? = some (.cells c.cells.toArray 24)) (undef) W ∧ (fun (_ : Value) (W : World) => W.heap[w.heap.size + 1]? = some (.cells #[.int .i64 n] 3)) (undef) W ∧ (fun (_ : Value) (W : World) => W.heap[w.heap.size + 1 + 1 + 1]? = some (.cells #[.bool false, .int .i64 42] 87)) (undef) W ∧ True := hu
          obtain ⟨r_bc, r_bn, r_bm, -⟩ := U
          clear ho hf hu
          go_simp
          exact hK _ (Eq.refl _)
        refine And.intro (obX_eff (fun x y => World.grownBy x y (some (w.heap.size + 1 + 1))) (fun _ _ h k => ext_grown k h (by omega)) (And.intro (fun _ _ _ h e => grown_at e h (by omega)) (And.intro (fun _ _ _ h e => grown_at e h (by omega)) (And.intro (fun _ _ _ h e => grown_at e h (by omega)) (trivial)))) ?_) ?_
        · intro act W hR hf ho hu K hK
          replace hK := fun (w' : World) (h1 : (fun x y => World.grownBy x y (some (w.heap.size + 1 + 1))) W w') (b3 : (fun (_ : Value) (W : World) => W.heap[w.heap.size + 1 + 1]? = some (.cells X.1.cells.toArray 24)) (undef) w') => hK undef w' h1 trivial ⟨b3, trivial⟩
          have G : act.tmps[4]?.getD undef = _ ∧ True := ho
          obtain ⟨g4, -⟩ := G
          have F : act.tmps[23]?.getD undef = _ ∧ act.tmps[22]?.getD undef = _ ∧ act.tmps[16]?.getD undef = _ ∧ act.tmps[17]?.getD undef = _ ∧ act.tmps[18]?.getD undef = _ ∧ act.tmps[19]?.getD undef = _ ∧ act.tmps[20]?.getD undef = _ ∧ (fun _ _ => True) (act.tmps[21]?.getD undef) W ∧ act.tmps[22]?.getD undef = _ ∧ act.tmps[23]?.getD undef = _ ∧ act.tmps[24]?.getD undef = _ ∧ True := hf
          obtain ⟨f7, f6, f0, f1, f2, f3, f4, -, -, -, f8, -⟩ := F
          have U : (fun (_ : Value) (W : World) => W.heap[w.heap.size]? = some (.cells c.cells.toArray 24)) (undef) W ∧ (fun (_ : Value) (W : World) => W.heap[w.heap.size + 1]? = some (.cells #[.int .i64 n] 3)) (undef) W ∧ (fun (_ : Value) (W : World) => W.heap[w.heap.size + 1 + 1]? = some (.cells zeroCells 24)) (undef) W ∧ (fun (_ : Value) (W : World) => W.heap[w.heap.size + 1 + 1 + 1]? = some (.cells #[.bool false, .int .i64 42] 87)) (undef) W ∧ True := hu
          obtain ⟨r_bc, r_bn, r_br, r_bm, -⟩ := U
          generalize f5 : act.tmps[21]?.getD undef = v5
          clear ho hf hu
          have fz := frozen_row' r_br; obtain ⟨q0, q1, q2, q3, q4, q5⟩ := lie6' r_br (Below.refl _ _); have hlq := cell_lt q0; simp only at hlq; have hq := set_cells6 r_br (.bool X.1.tag) (.int .i64 X.1.base) (.int .i64 X.1.top) (.int .i64 X.1.at') (.int .i64 X.1.perms) (.int .i64 X.1.ty)
          go_simp
          exact hK _ grown_set6 hq
        refine And.intro (obX_pure (fun _ k => k) ?_) ?_
        · intro act W hR hf ho hu K hK
          replace hK := fun v h2 => hK v W rfl h2 trivial
          have F : act.tmps[24]?.getD undef = _ ∧ (fun _ _ => True) (undef) W ∧ act.tmps[16]?.getD undef = _ ∧ act.tmps[17]?.getD undef = _ ∧ act.tmps[18]?.getD undef = _ ∧ act.tmps[19]?.getD undef = _ ∧ act.tmps[20]?.getD undef = _ ∧ (fun _ _ => True) (act.tmps[21]?.getD undef) W ∧ act.tmps[22]?.getD undef = _ ∧ act.tmps[23]?.getD undef = _ ∧ act.tmps[24]?.getD undef = _ ∧ (fun _ _ => True) (undef) W ∧ True := hf
          obtain ⟨f8, -, f0, f1, f2, f3, f4, -, f6, f7, -, -, -⟩ := F
          have U : (fun (_ : Value) (W : World) => W.heap[w.heap.size]? = some (.cells c.cells.toArray 24)) (undef) W ∧ (fun (_ : Value) (W : World) => W.heap[w.heap.size + 1]? = some (.cells #[.int .i64 n] 3)) (undef) W ∧ (fun (_ : Value) (W : World) => W.heap[w.heap.size + 1 + 1]? = some (.cells X.1.cells.toArray 24)) (undef) W ∧ (fun (_ : Value) (W : World) => W.heap[w.heap.size + 1 + 1 + 1]? = some (.cells #[.bool false, .int .i64 42] 87)) (undef) W ∧ True := hu
          obtain ⟨r_bc, r_bn, r_out, r_bm, -⟩ := U
          generalize f5 : act.tmps[21]?.getD undef = v5
          clear ho hf hu
          go_simp
          exact hK _ (Eq.refl _)
        exact trivial
      case stab =>
        refine And.intro is_stable ?_
        refine And.intro is_stable ?_
        refine And.intro is_stable ?_
        refine And.intro is_stable ?_
        refine And.intro is_stable ?_
        refine And.intro (fun _ _ _ h _ => h) ?_
        refine And.intro is_stable ?_
        refine And.intro is_stable ?_
        refine And.intro is_stable ?_
        refine And.intro (fun _ _ _ h _ => h) ?_
        refine And.intro is_stable ?_
        exact trivial
      case ends =>
        intro vals W hR hE hall
        have E : (fun (_ : Value) (W : World) => W.heap[w.heap.size]? = some (.cells c.cells.toArray 24)) (undef) W ∧ (fun (_ : Value) (W : World) => W.heap[w.heap.size + 1]? = some (.cells #[.int .i64 n] 3)) (undef) W ∧ (fun (_ : Value) (W : World) => W.heap[w.heap.size + 1 + 1]? = some (.cells X.1.cells.toArray 24)) (undef) W ∧ (fun (_ : Value) (W : World) => W.heap[w.heap.size + 1 + 1 + 1]? = some (.cells #[.bool false, .int .i64 42] 87)) (undef) W ∧ True := hE
        obtain ⟨e_bc, e_bn, e_out, e_bm, -⟩ := E
        clear hE
        have e5 : vals 5 = _ := hall 10 (by decide)
        clear hall
        simp only [fill, List.setIfInBounds_toArray, List.set_cons_succ, List.set_cons_zero, e5]
        obtain ⟨c0, c1, c2, c3, c4, c5⟩ := lie6' e_out (Below.refl _ _)
        go_wp2_with fail
        exact bodyPost_ret (v := .tuple #[X.1.val, .int .i64 X.2]) (by simp [results, Try.results48, go_sem, c0, c1, c2, c3, c4, c5]) rfl ⟨rfl, (by repeat first | (with_reducible exact Below.refl _ _) | (with_reducible apply Ext.alloc) | (with_reducible apply Ext.drew) | (with_reducible apply Ext.drewN) | (with_reducible refine Ext.set ?_ (by simp)) | (with_reducible refine Ext.then ?_ (hR EU.out)))⟩
end Go.Proofs.Ytalndcjbnedigaa


/- Package cap: Under. -/
import Derived.Test.YtalndcjbnedigaaCapA
set_option linter.all false
namespace Go.Proofs.Ytalndcjbnedigaa
open Go.RowKit
attribute [local go_sem] seen dstOf boolOf
set_option maxHeartbeats 1000000 in
set_option maxRecDepth 20000 in
theorem capUnder_any (c d : Cap) (w : World) (hc : i64ok' c.perms) (hd : i64ok' d.perms) : Calls Try.prog 30 #[c.val, d.val] w (Tell w (underC c d)) := by
  obtain ⟨r, hr⟩ : ∃ r, r = underC c d := ⟨_, rfl⟩
  rw [← hr]
  unfold underC at hr
  have HR := Lib.hid hr
  obtain ⟨s, hs⟩ : ∃ s, s = (decide (d.base ≤ c.base) && decide (c.base ≤ c.top) && decide (c.top ≤ d.top)) := ⟨_, rfl⟩
  have HS := Lib.hid hs
  clear hr hs
  go_enter Try.func30, Try.ntmps30
  go_wp2_with fail
  obtain ⟨U, hU⟩ : ∃ U, U = (w.alloc (.cells c.cells.toArray 24)).alloc (.cells d.cells.toArray 24) := ⟨_, rfl⟩
  have EU : Ext w U := by rw [hU]; exact (by repeat first | (with_reducible exact Below.refl _ _) | (with_reducible apply Ext.alloc) | (with_reducible apply Ext.drew) | (with_reducible apply Ext.drewN) | (with_reducible refine Ext.set ?_ (by simp)))
  have a1 : U.heap[w.heap.size]? = some (.cells c.cells.toArray 24) := new_at (o := .cells c.cells.toArray 24) rfl (by rw [hU]; exact (by repeat first | (with_reducible exact Below.refl _ _) | (with_reducible apply Ext.alloc) | (with_reducible apply Ext.drew) | (with_reducible apply Ext.drewN) | (with_reducible refine Ext.set ?_ (by simp))))
  have a2 : U.heap[w.heap.size + 1]? = some (.cells d.cells.toArray 24) := by rw [hU]; exact new_at (w := w.alloc _) (by simp) (Below.refl _ _)
  obtain ⟨z0, z1, z2, z3, z4, z5⟩ := lie6' a1 (Below.refl _ U)
  obtain ⟨y0, y1, y2, y3, y4, y5⟩ := lie6' a2 (Below.refl _ U)
  rw [← hU]
  have HU := Lib.hid EU
  clear hU EU a1 a2
  cases s with
  | true =>
    refine wp_region_obl Ext [5, 6, 7, 8, 9, 10, 11, 12, 13, 14, 15, 16, 17, 18, 4] (by kernel_rfl) (fun _ => Below.refl _ _) (fun _ _ _ => Ext.then) (by kernel_rfl) (by kernel_rfl) ?_
    apply ex_is; apply Exists.intro
    apply ex_is; apply Exists.intro
    apply ex_is; apply Exists.intro
    apply ex_is; apply Exists.intro
    apply ex_is; apply Exists.intro
    apply ex_is; apply Exists.intro
    apply ex_is; apply Exists.intro
    apply ex_is; apply Exists.intro
    apply ex_is; apply Exists.intro
    apply ex_is; apply Exists.intro
    apply ex_is; apply Exists.intro
    apply ex_is; apply Exists.intro
    apply ex_is; apply Exists.intro
    apply ex_is; apply Exists.intro
    apply ex_is; apply Exists.intro
    refine ⟨[], ⟨?steps, ?stab, ?ends⟩⟩
    case steps =>
      refine And.intro ?_ ?_
      · intro a W hR hf ho K hK
        replace hR := ext_drew hR
        have G : a.tmps[3]?.getD undef = _ ∧ True := ho
        obtain ⟨g3, -⟩ := G
        clear ho hf
        replace z0 := ext_cell hR _ _ z0; replace z1 := ext_cell hR _ _ z1; replace z2 := ext_cell hR _ _ z2; replace z3 := ext_cell hR _ _ z3; replace z4 := ext_cell hR _ _ z4; replace z5 := ext_cell hR _ _ z5; replace y0 := ext_cell hR _ _ y0; replace y1 := ext_cell hR _ _ y1; replace y2 := ext_cell hR _ _ y2; replace y3 := ext_cell hR _ _ y3; replace y4 := ext_cell hR _ _ y4; replace y5 := ext_cell hR _ _ y5
        go_simp
        exact hK _ _ (Below.refl _ _) (Eq.refl _)
      refine And.intro ?_ ?_
      · intro a W hR hf ho K hK
        replace hR := ext_drew hR
        have F : a.tmps[5]?.getD undef = _ ∧ True := hf
        obtain ⟨f0, -⟩ := F
        clear ho hf
        go_simp
        refine (capOf_any d W).mono ?_; rintro e W1 ⟨rfl, hE⟩; exact hK _ _ hE (Eq.refl _)
      refine And.intro ?_ ?_
      · intro a W hR hf ho K hK
        replace hR := ext_drew hR
        have F : a.tmps[6]?.getD undef = _ ∧ True := hf
        obtain ⟨f1, -⟩ := F
        clear ho hf
        go_simp
        exact hK _ _ (Below.refl _ _) (Eq.refl _)
      refine And.intro ?_ ?_
      · intro a W hR hf ho K hK
        replace hR := ext_drew hR
        have G : a.tmps[2]?.getD undef = _ ∧ True := ho
        obtain ⟨g2, -⟩ := G
        clear ho hf
        replace z0 := ext_cell hR _ _ z0; replace z1 := ext_cell hR _ _ z1; replace z2 := ext_cell hR _ _ z2; replace z3 := ext_cell hR _ _ z3; replace z4 := ext_cell hR _ _ z4; replace z5 := ext_cell hR _ _ z5; replace y0 := ext_cell hR _ _ y0; replace y1 := ext_cell hR _ _ y1; replace y2 := ext_cell hR _ _ y2; replace y3 := ext_cell hR _ _ y3; replace y4 := ext_cell hR _ _ y4; replace y5 := ext_cell hR _ _ y5
        go_simp
        exact hK _ _ (Below.refl _ _) (Eq.refl _)
      refine And.intro ?_ ?_
      · intro a W hR hf ho K hK
        replace hR := ext_drew hR
        have F : a.tmps[8]?.getD undef = _ ∧ a.tmps[6]?.getD undef = _ ∧ True := hf
        obtain ⟨f3, f1, -⟩ := F
        clear ho hf
        go_simp
        refine (capOf_any c W).mono ?_; rintro e W1 ⟨rfl, hE⟩; exact hK _ _ hE (Eq.refl _)
      refine And.intro ?_ ?_
      · intro a W hR hf ho K hK
        replace hR := ext_drew hR
        have F : a.tmps[9]?.getD undef = _ ∧ True := hf
        obtain ⟨f4, -⟩ := F
        clear ho hf
        go_simp
        exact hK _ _ (Below.refl _ _) (Eq.refl _)
      refine And.intro ?_ ?_
      · intro a W hR hf ho K hK
        replace hR := ext_drew hR
        have F : a.tmps[7]?.getD undef = _ ∧ a.tmps[10]?.getD undef = _ ∧ a.tmps[9]?.getD undef = _ ∧ True := hf
        obtain ⟨f2, f5, f4, -⟩ := F
        clear ho hf
        go_simp
        refine (spanHas_any d.base d.top c.base c.top W _ HS).mono ?_; rintro e W1 ⟨rfl, hE⟩; exact hK _ _ hE (Eq.refl _)
      refine And.intro ?_ ?_
      · intro a W hR hf ho K hK
        replace hR := ext_drew hR
        have F : a.tmps[11]?.getD undef = _ ∧ a.tmps[11]?.getD undef = _ ∧ True := hf
        obtain ⟨f6, -, -⟩ := F
        clear ho hf
        go_simp
        exact hK _ _ (Below.refl _ _) (Eq.refl _)
      refine And.intro ?_ ?_
      · intro a W hR hf ho K hK
        replace hR := ext_drew hR
        have G : a.tmps[3]?.getD undef = _ ∧ True := ho
        obtain ⟨g3, -⟩ := G
        have F : a.tmps[12]?.getD undef = _ ∧ True := hf
        obtain ⟨f7, -⟩ := F
        clear ho hf
        go_simp
        exact hK _ _ (Below.refl _ _) (Eq.refl _)
      refine And.intro ?_ ?_
      · intro a W hR hf ho K hK
        replace hR := ext_drew hR
        have F : a.tmps[13]?.getD undef = _ ∧ a.tmps[12]?.getD undef = _ ∧ True := hf
        obtain ⟨f8, f7, -⟩ := F
        clear ho hf
        replace z0 := ext_cell hR _ _ z0; replace z1 := ext_cell hR _ _ z1; replace z2 := ext_cell hR _ _ z2; replace z3 := ext_cell hR _ _ z3; replace z4 := ext_cell hR _ _ z4; replace z5 := ext_cell hR _ _ z5; replace y0 := ext_cell hR _ _ y0; replace y1 := ext_cell hR _ _ y1; replace y2 := ext_cell hR _ _ y2; replace y3 := ext_cell hR _ _ y3; replace y4 := ext_cell hR _ _ y4; replace y5 := ext_cell hR _ _ y5
        go_simp
        exact hK _ _ (Below.refl _ _) (Eq.refl _)
      refine And.intro ?_ ?_
      · intro a W hR hf ho K hK
        replace hR := ext_drew hR
        have G : a.tmps[2]?.getD undef = _ ∧ True := ho
        obtain ⟨g2, -⟩ := G
        have F : a.tmps[12]?.getD undef = _ ∧ True := hf
        obtain ⟨f7, -⟩ := F
        clear ho hf
        go_simp
        exact hK _ _ (Below.refl _ _) (Eq.refl _)
      refine And.intro ?_ ?_
      · intro a W hR hf ho K hK
        replace hR := ext_drew hR
        have F : a.tmps[15]?.getD undef = _ ∧ a.tmps[12]?.getD undef = _ ∧ True := hf
        obtain ⟨f10, f7, -⟩ := F
        clear ho hf
        replace z0 := ext_cell hR _ _ z0; replace z1 := ext_cell hR _ _ z1; replace z2 := ext_cell hR _ _ z2; replace z3 := ext_cell hR _ _ z3; replace z4 := ext_cell hR _ _ z4; replace z5 := ext_cell hR _ _ z5; replace y0 := ext_cell hR _ _ y0; replace y1 := ext_cell hR _ _ y1; replace y2 := ext_cell hR _ _ y2; replace y3 := ext_cell hR _ _ y3; replace y4 := ext_cell hR _ _ y4; replace y5 := ext_cell hR _ _ y5
        go_simp
        exact hK _ _ (Below.refl _ _) (Eq.refl _)
      refine And.intro ?_ ?_
      · intro a W hR hf ho K hK
        replace hR := ext_drew hR
        have F : a.tmps[14]?.getD undef = _ ∧ a.tmps[16]?.getD undef = _ ∧ a.tmps[12]?.getD undef = _ ∧ a.tmps[12]?.getD undef = _ ∧ True := hf
        obtain ⟨f9, f11, f7, -, -⟩ := F
        clear ho hf
        go_simp
        refine (permHas_any d.perms c.perms W hd hc).mono ?_; rintro e W1 ⟨rfl, hE⟩; exact hK _ _ hE (Eq.refl _)
      refine And.intro ?_ ?_
      · intro a W hR hf ho K hK
        replace hR := ext_drew hR
        have F : a.tmps[12]?.getD undef = _ ∧ a.tmps[17]?.getD undef = _ ∧ True := hf
        obtain ⟨f7, f12, -⟩ := F
        clear ho hf
        go_simp
        exact hK _ _ (Below.refl _ _) (Eq.refl _)
      refine And.intro ?_ ?_
      · intro a W hR hf ho K hK
        replace hR := ext_drew hR
        have F : a.tmps[18]?.getD undef = _ ∧ a.tmps[17]?.getD undef = _ ∧ a.tmps[5]?.getD undef = _ ∧ a.tmps[6]?.getD undef = _ ∧ a.tmps[7]?.getD undef = _ ∧ a.tmps[8]?.getD undef = _ ∧ a.tmps[9]?.getD undef = _ ∧ a.tmps[10]?.getD undef = _ ∧ a.tmps[11]?.getD undef = _ ∧ a.tmps[12]?.getD undef = _ ∧ a.tmps[13]?.getD undef = _ ∧ a.tmps[14]?.getD undef = _ ∧ a.tmps[15]?.getD undef = _ ∧ a.tmps[16]?.getD undef = _ ∧ a.tmps[17]?.getD undef = _ ∧ a.tmps[18]?.getD undef = _ ∧ True := hf
        obtain ⟨f13, f12, f0, f1, f2, f3, f4, f5, f6, f7, f8, f9, f10, f11, -, -, -⟩ := F
        clear ho hf
        go_simp
        exact hK _ _ (Below.refl _ _) (Eq.refl _)
      exact trivial
    case stab =>
      refine And.intro is_stable ?_
      refine And.intro is_stable ?_
      refine And.intro is_stable ?_
      refine And.intro is_stable ?_
      refine And.intro is_stable ?_
      refine And.intro is_stable ?_
      refine And.intro is_stable ?_
      refine And.intro is_stable ?_
      refine And.intro is_stable ?_
      refine And.intro is_stable ?_
      refine And.intro is_stable ?_
      refine And.intro is_stable ?_
      refine And.intro is_stable ?_
      refine And.intro is_stable ?_
      refine And.intro is_stable ?_
      exact trivial
    case ends =>
      intro vals W hR hall
      replace hR := ext_drew hR
      have e4 : vals 4 = _ := hall 14 (by decide)
      clear hall
      simp only [fill, List.setIfInBounds_toArray, List.set_cons_succ, List.set_cons_zero, e4]
      have hr : r = hasP d.perms c.perms := by rw [HR.out, ← HS.out]; rfl
      rw [hr]
      go_wp2_with fail
      go_ret
      exact ⟨rfl, HU.out.then hR⟩
  | false =>
    refine wp_region_obl Ext [5, 6, 7, 8, 9, 10, 11, 12, 13, 14, 15, 16, 17, 18, 4] (by kernel_rfl) (fun _ => Below.refl _ _) (fun _ _ _ => Ext.then) (by kernel_rfl) (by kernel_rfl) ?_
    apply ex_is; apply Exists.intro
    apply ex_is; apply Exists.intro
    apply ex_is; apply Exists.intro
    apply ex_is; apply Exists.intro
    apply ex_is; apply Exists.intro
    apply ex_is; apply Exists.intro
    apply ex_is; apply Exists.intro
    apply ex_is; apply Exists.intro
    apply ex_is; apply Exists.intro
    apply ex_is; apply Exists.intro
    apply ex_is; apply Exists.intro
    apply ex_is; apply Exists.intro
    apply ex_is; apply Exists.intro
    apply ex_is; apply Exists.intro
    apply ex_is; apply Exists.intro
    refine ⟨[], ⟨?steps, ?stab, ?ends⟩⟩
    case steps =>
      refine And.intro ?_ ?_
      · intro a W hR hf ho K hK
        replace hR := ext_drew hR
        have G : a.tmps[3]?.getD undef = _ ∧ True := ho
        obtain ⟨g3, -⟩ := G
        clear ho hf
        replace z0 := ext_cell hR _ _ z0; replace z1 := ext_cell hR _ _ z1; replace z2 := ext_cell hR _ _ z2; replace z3 := ext_cell hR _ _ z3; replace z4 := ext_cell hR _ _ z4; replace z5 := ext_cell hR _ _ z5; replace y0 := ext_cell hR _ _ y0; replace y1 := ext_cell hR _ _ y1; replace y2 := ext_cell hR _ _ y2; replace y3 := ext_cell hR _ _ y3; replace y4 := ext_cell hR _ _ y4; replace y5 := ext_cell hR _ _ y5
        go_simp
        exact hK _ _ (Below.refl _ _) (Eq.refl _)
      refine And.intro ?_ ?_
      · intro a W hR hf ho K hK
        replace hR := ext_drew hR
        have F : a.tmps[5]?.getD undef = _ ∧ True := hf
        obtain ⟨f0, -⟩ := F
        clear ho hf
        go_simp
        refine (capOf_any d W).mono ?_; rintro e W1 ⟨rfl, hE⟩; exact hK _ _ hE (Eq.refl _)
      refine And.intro ?_ ?_
      · intro a W hR hf ho K hK
        replace hR := ext_drew hR
        have F : a.tmps[6]?.getD undef = _ ∧ True := hf
        obtain ⟨f1, -⟩ := F
        clear ho hf
        go_simp
        exact hK _ _ (Below.refl _ _) (Eq.refl _)
      refine And.intro ?_ ?_
      · intro a W hR hf ho K hK
        replace hR := ext_drew hR
        have G : a.tmps[2]?.getD undef = _ ∧ True := ho
        obtain ⟨g2, -⟩ := G
        clear ho hf
        replace z0 := ext_cell hR _ _ z0; replace z1 := ext_cell hR _ _ z1; replace z2 := ext_cell hR _ _ z2; replace z3 := ext_cell hR _ _ z3; replace z4 := ext_cell hR _ _ z4; replace z5 := ext_cell hR _ _ z5; replace y0 := ext_cell hR _ _ y0; replace y1 := ext_cell hR _ _ y1; replace y2 := ext_cell hR _ _ y2; replace y3 := ext_cell hR _ _ y3; replace y4 := ext_cell hR _ _ y4; replace y5 := ext_cell hR _ _ y5
        go_simp
        exact hK _ _ (Below.refl _ _) (Eq.refl _)
      refine And.intro ?_ ?_
      · intro a W hR hf ho K hK
        replace hR := ext_drew hR
        have F : a.tmps[8]?.getD undef = _ ∧ a.tmps[6]?.getD undef = _ ∧ True := hf
        obtain ⟨f3, f1, -⟩ := F
        clear ho hf
        go_simp
        refine (capOf_any c W).mono ?_; rintro e W1 ⟨rfl, hE⟩; exact hK _ _ hE (Eq.refl _)
      refine And.intro ?_ ?_
      · intro a W hR hf ho K hK
        replace hR := ext_drew hR
        have F : a.tmps[9]?.getD undef = _ ∧ True := hf
        obtain ⟨f4, -⟩ := F
        clear ho hf
        go_simp
        exact hK _ _ (Below.refl _ _) (Eq.refl _)
      refine And.intro ?_ ?_
      · intro a W hR hf ho K hK
        replace hR := ext_drew hR
        have F : a.tmps[7]?.getD undef = _ ∧ a.tmps[10]?.getD undef = _ ∧ a.tmps[9]?.getD undef = _ ∧ True := hf
        obtain ⟨f2, f5, f4, -⟩ := F
        clear ho hf
        go_simp
        refine (spanHas_any d.base d.top c.base c.top W _ HS).mono ?_; rintro e W1 ⟨rfl, hE⟩; exact hK _ _ hE (Eq.refl _)
      refine And.intro ?_ ?_
      · intro a W hR hf ho K hK
        replace hR := ext_drew hR
        have F : a.tmps[11]?.getD undef = _ ∧ a.tmps[11]?.getD undef = _ ∧ True := hf
        obtain ⟨f6, -, -⟩ := F
        clear ho hf
        go_simp
        exact hK _ _ (Below.refl _ _) (Eq.refl _)
      refine And.intro ?_ ?_
      · intro a W hR hf ho K hK
        replace hR := ext_drew hR
        have G : a.tmps[3]?.getD undef = _ ∧ True := ho
        obtain ⟨g3, -⟩ := G
        have F : a.tmps[12]?.getD undef = _ ∧ True := hf
        obtain ⟨f7, -⟩ := F
        clear ho hf
        go_simp
        exact hK _ _ (Below.refl _ _) (Eq.refl _)
      refine And.intro ?_ ?_
      · intro a W hR hf ho K hK
        replace hR := ext_drew hR
        have F : a.tmps[13]?.getD undef = _ ∧ a.tmps[12]?.getD undef = _ ∧ True := hf
        obtain ⟨f8, f7, -⟩ := F
        clear ho hf
        replace z0 := ext_cell hR _ _ z0; replace z1 := ext_cell hR _ _ z1; replace z2 := ext_cell hR _ _ z2; replace z3 := ext_cell hR _ _ z3; replace z4 := ext_cell hR _ _ z4; replace z5 := ext_cell hR _ _ z5; replace y0 := ext_cell hR _ _ y0; replace y1 := ext_cell hR _ _ y1; replace y2 := ext_cell hR _ _ y2; replace y3 := ext_cell hR _ _ y3; replace y4 := ext_cell hR _ _ y4; replace y5 := ext_cell hR _ _ y5
        go_simp
        exact hK _ _ (Below.refl _ _) (Eq.refl _)
      refine And.intro ?_ ?_
      · intro a W hR hf ho K hK
        replace hR := ext_drew hR
        have G : a.tmps[2]?.getD undef = _ ∧ True := ho
        obtain ⟨g2, -⟩ := G
        have F : a.tmps[12]?.getD undef = _ ∧ True := hf
        obtain ⟨f7, -⟩ := F
        clear ho hf
        go_simp
        exact hK _ _ (Below.refl _ _) (Eq.refl _)
      refine And.intro ?_ ?_
      · intro a W hR hf ho K hK
        replace hR := ext_drew hR
        have F : a.tmps[15]?.getD undef = _ ∧ a.tmps[12]?.getD undef = _ ∧ True := hf
        obtain ⟨f10, f7, -⟩ := F
        clear ho hf
        replace z0 := ext_cell hR _ _ z0; replace z1 := ext_cell hR _ _ z1; replace z2 := ext_cell hR _ _ z2; replace z3 := ext_cell hR _ _ z3; replace z4 := ext_cell hR _ _ z4; replace z5 := ext_cell hR _ _ z5; replace y0 := ext_cell hR _ _ y0; replace y1 := ext_cell hR _ _ y1; replace y2 := ext_cell hR _ _ y2; replace y3 := ext_cell hR _ _ y3; replace y4 := ext_cell hR _ _ y4; replace y5 := ext_cell hR _ _ y5
        go_simp
        exact hK _ _ (Below.refl _ _) (Eq.refl _)
      refine And.intro ?_ ?_
      · intro a W hR hf ho K hK
        replace hR := ext_drew hR
        have F : a.tmps[14]?.getD undef = _ ∧ a.tmps[16]?.getD undef = _ ∧ a.tmps[12]?.getD undef = _ ∧ a.tmps[12]?.getD undef = _ ∧ True := hf
        obtain ⟨f9, f11, f7, -, -⟩ := F
        clear ho hf
        go_simp
        exact hK _ _ (Below.refl _ _) (Eq.refl _)
      refine And.intro ?_ ?_
      · intro a W hR hf ho K hK
        replace hR := ext_drew hR
        have F : a.tmps[12]?.getD undef = _ ∧ a.tmps[17]?.getD undef = _ ∧ True := hf
        obtain ⟨f7, f12, -⟩ := F
        clear ho hf
        go_simp
        exact hK _ _ (Below.refl _ _) (Eq.refl _)
      refine And.intro ?_ ?_
      · intro a W hR hf ho K hK
        replace hR := ext_drew hR
        have F : a.tmps[18]?.getD undef = _ ∧ a.tmps[17]?.getD undef = _ ∧ a.tmps[5]?.getD undef = _ ∧ a.tmps[6]?.getD undef = _ ∧ a.tmps[7]?.getD undef = _ ∧ a.tmps[8]?.getD undef = _ ∧ a.tmps[9]?.getD undef = _ ∧ a.tmps[10]?.getD undef = _ ∧ a.tmps[11]?.getD undef = _ ∧ a.tmps[12]?.getD undef = _ ∧ a.tmps[13]?.getD undef = _ ∧ a.tmps[14]?.getD undef = _ ∧ a.tmps[15]?.getD undef = _ ∧ a.tmps[16]?.getD undef = _ ∧ a.tmps[17]?.getD undef = _ ∧ a.tmps[18]?.getD undef = _ ∧ True := hf
        obtain ⟨f13, f12, f0, f1, f2, f3, f4, f5, f6, f7, f8, f9, f10, f11, -, -, -⟩ := F
        clear ho hf
        go_simp
        exact hK _ _ (Below.refl _ _) (Eq.refl _)
      exact trivial
    case stab =>
      refine And.intro is_stable ?_
      refine And.intro is_stable ?_
      refine And.intro is_stable ?_
      refine And.intro is_stable ?_
      refine And.intro is_stable ?_
      refine And.intro is_stable ?_
      refine And.intro is_stable ?_
      refine And.intro is_stable ?_
      refine And.intro is_stable ?_
      refine And.intro is_stable ?_
      refine And.intro is_stable ?_
      refine And.intro is_stable ?_
      refine And.intro is_stable ?_
      refine And.intro is_stable ?_
      refine And.intro is_stable ?_
      exact trivial
    case ends =>
      intro vals W hR hall
      replace hR := ext_drew hR
      have e4 : vals 4 = _ := hall 14 (by decide)
      clear hall
      simp only [fill, List.setIfInBounds_toArray, List.set_cons_succ, List.set_cons_zero, e4]
      have hr : r = false := by rw [HR.out, ← HS.out]; rfl
      rw [hr]
      go_wp2_with fail
      go_ret
      exact ⟨rfl, HU.out.then hR⟩
end Go.Proofs.Ytalndcjbnedigaa

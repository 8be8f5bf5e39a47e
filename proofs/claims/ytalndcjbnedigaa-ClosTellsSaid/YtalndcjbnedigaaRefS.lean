
/- seizinref06: over, has, less, under. -/
import Derived.Test.YtalndcjbnedigaaSameR
import Derived.Test.YtalndcjbnedigaaRefU
import Derived.Test.YtalndcjbnedigaaClosS
import Derived.Test.YtalndcjbnedigaaOpenP
set_option linter.all false
namespace Go.Proofs.Ytalndcjbnedigaa
open Go.RowKit Go.Shelf
attribute [local go_sem] seen dstOf boolOf
attribute [local go_sem high] eqCap
theorem ext_at' {a b : World} {j : Nat} {o : Obj} (e : Ext a b) (h : a.heap[j]? = some o) : b.heap[j]? = some o := (e.block j (Array.getElem?_eq_some_iff.1 h).1).trans h

set_option maxHeartbeats 2000000 in
set_option maxRecDepth 20000 in
theorem overR_any (A : Option Addr) (cp : Nat) (l : List Cap) (t p : Int) (w : World) (hA : Arr w A (capCells l)) (hl : l.length ≤ 1000) (hw : ∀ x ∈ l, CapWf x) : Calls Try.prog 26 #[.slice A l.length cp, .int .i64 t, .int .i64 p] w (Tell w (authL l t p)) := by
  obtain ⟨r, hr⟩ : ∃ r, r = authL l t p := ⟨_, rfl⟩
  rw [← hr]
  unfold authL at hr
  have HR := Lib.hid hr
  clear hr
  go_enter Try.func26, Try.ntmps26
  go_wp2_with fail
  go_loopw [7] (fun i wr => ∃ k : Nat, k ≤ l.length ∧ i = .int .i64 (k : Int) ∧ Hid (r = (l.drop k).any fun c => overC c t p) ∧ Hid (Ext w wr)) (fun i _ => l.length - (intOf i).toNat)
  case atStart => exact ⟨0, Nat.zero_le _, rfl, Lib.hid (by rw [HR.out, List.drop_zero]), Lib.hid (Below.refl _ _)⟩
  case round =>
    obtain ⟨k, hk, rfl, hf, hE⟩ := hrel
    by_cases hlt : k < l.length
    · obtain ⟨b1, o1, rfl, -, x0, x1, x2, x3, x4, x5⟩ := cap_row (hA.ext hE.out) hlt
      have hd := hf.out
      rw [List.drop_eq_getElem_cons hlt, List.any_cons] at hd
      have hwx := hw l[k] (List.getElem_mem hlt)
      obtain ⟨x, hx⟩ : ∃ x, x = l[k] := ⟨_, rfl⟩
      rw [← hx] at x0 x1 x2 x3 x4 x5 hd hwx
      have hov : overC x t p = (decide (2 ≤ t) && decide (t ≤ 255) && hasP x.perms p && inC x t 1) := rfl
      obtain ⟨R, hR⟩ : ∃ R, R = (l.drop (k + 1)).any fun c => overC c t p := ⟨_, rfl⟩
      rw [← hR, hov] at hd
      have HRR := Lib.hid hR
      have HD := Lib.hid hd
      have HP := Lib.hid (fun w => refHas_any x.perms p w)
      have HI := Lib.hid (fun w => capRIn_any x t 1 w hwx.top.2)
      have HX := Lib.hid (And.intro x0 (And.intro x1 (And.intro x2 (And.intro x3 (And.intro x4 x5)))))
      clear hx hov hR hd
      cases h1 : decide (2 ≤ t) with
      | false =>
        have HR2 : Hid (r = R) := Lib.hid (by rw [HD.out, h1]; rfl)
        go_wp2_with fail
        exact ⟨⟨k + 1, by omega, by simp, Lib.hid (HR2.out.trans HRR.out), Lib.hid (hE.out.then (by repeat first | (with_reducible exact Below.refl _ _) | (with_reducible apply Ext.alloc) | (with_reducible apply Ext.drew) | (with_reducible apply Ext.drewN) | (with_reducible refine Ext.set ?_ (by simp))))⟩, by simp [intOf]; omega⟩
      | true =>
        cases h2 : decide (t ≤ 255) with
        | false =>
          have HR2 : Hid (r = R) := Lib.hid (by rw [HD.out, h1, h2]; rfl)
          go_wp2_with fail
          exact ⟨⟨k + 1, by omega, by simp, Lib.hid (HR2.out.trans HRR.out), Lib.hid (hE.out.then (by repeat first | (with_reducible exact Below.refl _ _) | (with_reducible apply Ext.alloc) | (with_reducible apply Ext.drew) | (with_reducible apply Ext.drewN) | (with_reducible refine Ext.set ?_ (by simp))))⟩, by simp [intOf]; omega⟩
        | true =>
          go_wp2_with fail
          refine (HP.out _).mono ?_
          rintro e w1 ⟨rfl, hE1⟩
          have E1 := Lib.hid hE1
          have x0 := ext_cell hE1 _ _ HX.out.1
          have x1 := ext_cell hE1 _ _ HX.out.2.1
          have x2 := ext_cell hE1 _ _ HX.out.2.2.1
          have x3 := ext_cell hE1 _ _ HX.out.2.2.2.1
          have x4 := ext_cell hE1 _ _ HX.out.2.2.2.2.1
          have x5 := ext_cell hE1 _ _ HX.out.2.2.2.2.2
          clear hE1
          cases h3 : hasP x.perms p with
          | false =>
            have HR2 : Hid (r = R) := Lib.hid (by rw [HD.out, h1, h2, h3]; rfl)
            go_wp2_with fail
            exact ⟨⟨k + 1, by omega, by simp, Lib.hid (HR2.out.trans HRR.out), Lib.hid (hE.out.then E1.out)⟩, by simp [intOf]; omega⟩
          | true =>
            go_wp2_with fail
            refine (HI.out _).mono ?_
            rintro e w2 ⟨rfl, hE2⟩
            have E2 := Lib.hid (E1.out.then hE2)
            clear hE2
            cases h4 : inC x t 1 with
            | false =>
              have HR2 : Hid (r = R) := Lib.hid (by rw [HD.out, h1, h2, h3, h4]; rfl)
              go_wp2_with fail
              exact ⟨⟨k + 1, by omega, by simp, Lib.hid (HR2.out.trans HRR.out), Lib.hid (hE.out.then E2.out)⟩, by simp [intOf]; omega⟩
            | true =>
              have hr : r = true := by rw [HD.out, h1, h2, h3, h4]; rfl
              subst hr
              go_wp2_with fail
              go_ret
              exact ⟨rfl, hE.out.then E2.out⟩
    · obtain rfl : k = l.length := by omega
      have hr : r = false := by rw [hf.out, List.drop_length]; rfl
      subst hr
      go_wp2_with fail
      go_ret
      exact ⟨rfl, hE.out⟩
set_option maxHeartbeats 2000000 in
set_option maxRecDepth 20000 in
theorem hasR_any (A : Option Addr) (cp : Nat) (l : List Cap) (c : Cap) (w : World) (hA : Arr w A (capCells l)) (hl : l.length ≤ 1000) : Calls Try.prog 27 #[.slice A l.length cp, c.val] w (Tell w (l.contains c)) := by
  obtain ⟨r, hr⟩ : ∃ r, r = l.contains c := ⟨_, rfl⟩
  rw [← hr]
  rw [any_contains] at hr
  have HR := Lib.hid hr
  have HC := Lib.hid (heap_alloc_new w (.cells c.cells.toArray 24))
  have HA := Lib.hid hA
  clear hr hA
  go_enter Try.func27, Try.ntmps27
  go_wp2_with fail
  go_loopw [5] (fun i wr => ∃ k : Nat, k ≤ l.length ∧ i = .int .i64 (k : Int) ∧ Hid (r = (l.drop k).any fun x => decide (c = x)) ∧ Hid (Ext (w.alloc (.cells c.cells.toArray 24)) wr)) (fun i _ => l.length - (intOf i).toNat)
  case atStart => exact ⟨0, Nat.zero_le _, rfl, Lib.hid (by rw [HR.out, List.drop_zero]), Lib.hid (Below.refl _ _)⟩
  case round =>
    obtain ⟨k, hk, rfl, hf, hE⟩ := hrel
    by_cases hlt : k < l.length
    · obtain ⟨b1, o1, rfl, -, x0, x1, x2, x3, x4, x5⟩ := cap_row (HA.out.ext (Ext.then (by repeat first | (with_reducible exact Below.refl _ _) | (with_reducible apply Ext.alloc) | (with_reducible apply Ext.drew) | (with_reducible apply Ext.drewN) | (with_reducible refine Ext.set ?_ (by simp))) hE.out)) hlt
      obtain ⟨y0, y1, y2, y3, y4, y5⟩ := lie6' (ext_at' hE.out HC.out) (Below.refl _ wr)
      have hd := hf.out
      rw [List.drop_eq_getElem_cons hlt, List.any_cons] at hd
      obtain ⟨x, hx⟩ : ∃ x, x = l[k] := ⟨_, rfl⟩
      rw [← hx] at x0 x1 x2 x3 x4 x5 hd
      have hq := capEq x c
      rw [show decide (c = x) = decide (x = c) from decide_eq_decide.2 eq_comm] at hd
      clear hx
      cases he : decide (x = c) with
      | true =>
        rw [he] at hd hq
        have hr : r = true := by simpa using hd
        subst hr
        clear hd he
        go_wp2_with fail
        refine wp_region_obl Eq [12, 13, 14, 15, 16, 17] (by kernel_rfl) (fun _ => rfl) (fun _ _ _ => Eq.trans) (by kernel_rfl) (by kernel_rfl) ?_
        apply ex_is; apply Exists.intro
        apply ex_is; apply Exists.intro
        apply ex_is; apply Exists.intro
        apply ex_is; apply Exists.intro
        apply ex_is; apply Exists.intro
        apply ex_is; apply Exists.intro
        refine ⟨[], ⟨?steps, ?stab, ?ends⟩⟩
        case steps =>
          refine And.intro ?_ ?_
          · intro a W hR hf ho K hK
            subst hR
            have G : a.tmps[0]?.getD undef = _ ∧ True := ho
            obtain ⟨g0, -⟩ := G
            clear ho hf
            go_simp
            exact hK _ _ (rfl) (Eq.refl _)
          refine And.intro ?_ ?_
          · intro a W hR hf ho K hK
            subst hR
            have G : a.tmps[5]?.getD undef = _ ∧ True := ho
            obtain ⟨g5, -⟩ := G
            clear ho hf
            go_simp
            exact hK _ _ (rfl) (Eq.refl _)
          refine And.intro ?_ ?_
          · intro a W hR hf ho K hK
            subst hR
            have F : a.tmps[12]?.getD undef = _ ∧ a.tmps[13]?.getD undef = _ ∧ True := hf
            obtain ⟨f0, f1, -⟩ := F
            clear ho hf
            go_simp
            exact hK _ _ (rfl) (Eq.refl _)
          refine And.intro ?_ ?_
          · intro a W hR hf ho K hK
            subst hR
            have F : a.tmps[14]?.getD undef = _ ∧ True := hf
            obtain ⟨f2, -⟩ := F
            clear ho hf
            go_simp
            exact hK _ _ (rfl) (Eq.refl _)
          refine And.intro ?_ ?_
          · intro a W hR hf ho K hK
            subst hR
            have G : a.tmps[3]?.getD undef = _ ∧ True := ho
            obtain ⟨g3, -⟩ := G
            clear ho hf
            go_simp
            exact hK _ _ (rfl) (Eq.refl _)
          refine And.intro ?_ ?_
          · intro a W hR hf ho K hK
            subst hR
            have F : a.tmps[15]?.getD undef = _ ∧ a.tmps[16]?.getD undef = _ ∧ True := hf
            obtain ⟨f3, f4, -⟩ := F
            clear ho hf
            go_simp
            exact hK _ _ (rfl) (Eq.refl _)
          exact trivial
        case stab =>
          refine And.intro is_stable ?_
          refine And.intro is_stable ?_
          refine And.intro is_stable ?_
          refine And.intro is_stable ?_
          refine And.intro is_stable ?_
          refine And.intro is_stable ?_
          exact trivial
        case ends =>
          intro vals W hR hall
          subst hR
          have e17 : vals 17 = _ := hall 5 (by decide)
          clear hall
          simp only [fill, List.setIfInBounds_toArray, List.set_cons_succ, List.set_cons_zero, e17]
          go_wp2_with fail
          go_ret
          exact ⟨rfl, Ext.then (by repeat first | (with_reducible exact Below.refl _ _) | (with_reducible apply Ext.alloc) | (with_reducible apply Ext.drew) | (with_reducible apply Ext.drewN) | (with_reducible refine Ext.set ?_ (by simp))) (hE.out.then (by repeat first | (with_reducible exact Below.refl _ _) | (with_reducible apply Ext.alloc) | (with_reducible apply Ext.drew) | (with_reducible apply Ext.drewN) | (with_reducible refine Ext.set ?_ (by simp))))⟩
      | false =>
        rw [he] at hd hq
        have HD : Hid (r = (l.drop (k + 1)).any fun x => decide (c = x)) := Lib.hid (by simpa using hd)
        clear hd he
        go_wp2_with fail
        refine wp_region_obl Eq [12, 13, 14, 15, 16, 17] (by kernel_rfl) (fun _ => rfl) (fun _ _ _ => Eq.trans) (by kernel_rfl) (by kernel_rfl) ?_
        apply ex_is; apply Exists.intro
        apply ex_is; apply Exists.intro
        apply ex_is; apply Exists.intro
        apply ex_is; apply Exists.intro
        apply ex_is; apply Exists.intro
        apply ex_is; apply Exists.intro
        refine ⟨[], ⟨?steps, ?stab, ?ends⟩⟩
        case steps =>
          refine And.intro ?_ ?_
          · intro a W hR hf ho K hK
            subst hR
            have G : a.tmps[0]?.getD undef = _ ∧ True := ho
            obtain ⟨g0, -⟩ := G
            clear ho hf
            go_simp
            exact hK _ _ (rfl) (Eq.refl _)
          refine And.intro ?_ ?_
          · intro a W hR hf ho K hK
            subst hR
            have G : a.tmps[5]?.getD undef = _ ∧ True := ho
            obtain ⟨g5, -⟩ := G
            clear ho hf
            go_simp
            exact hK _ _ (rfl) (Eq.refl _)
          refine And.intro ?_ ?_
          · intro a W hR hf ho K hK
            subst hR
            have F : a.tmps[12]?.getD undef = _ ∧ a.tmps[13]?.getD undef = _ ∧ True := hf
            obtain ⟨f0, f1, -⟩ := F
            clear ho hf
            go_simp
            exact hK _ _ (rfl) (Eq.refl _)
          refine And.intro ?_ ?_
          · intro a W hR hf ho K hK
            subst hR
            have F : a.tmps[14]?.getD undef = _ ∧ True := hf
            obtain ⟨f2, -⟩ := F
            clear ho hf
            go_simp
            exact hK _ _ (rfl) (Eq.refl _)
          refine And.intro ?_ ?_
          · intro a W hR hf ho K hK
            subst hR
            have G : a.tmps[3]?.getD undef = _ ∧ True := ho
            obtain ⟨g3, -⟩ := G
            clear ho hf
            go_simp
            exact hK _ _ (rfl) (Eq.refl _)
          refine And.intro ?_ ?_
          · intro a W hR hf ho K hK
            subst hR
            have F : a.tmps[15]?.getD undef = _ ∧ a.tmps[16]?.getD undef = _ ∧ True := hf
            obtain ⟨f3, f4, -⟩ := F
            clear ho hf
            go_simp
            exact hK _ _ (rfl) (Eq.refl _)
          exact trivial
        case stab =>
          refine And.intro is_stable ?_
          refine And.intro is_stable ?_
          refine And.intro is_stable ?_
          refine And.intro is_stable ?_
          refine And.intro is_stable ?_
          refine And.intro is_stable ?_
          exact trivial
        case ends =>
          intro vals W hR hall
          subst hR
          have e17 : vals 17 = _ := hall 5 (by decide)
          clear hall
          simp only [fill, List.setIfInBounds_toArray, List.set_cons_succ, List.set_cons_zero, e17]
          go_wp2_with fail
          exact ⟨⟨k + 1, by omega, by simp, HD, Lib.hid (hE.out.then (by repeat first | (with_reducible exact Below.refl _ _) | (with_reducible apply Ext.alloc) | (with_reducible apply Ext.drew) | (with_reducible apply Ext.drewN) | (with_reducible refine Ext.set ?_ (by simp))))⟩, by simp [intOf]; omega⟩
    · obtain rfl : k = l.length := by omega
      have hr : r = false := by rw [hf.out, List.drop_length]; rfl
      subst hr
      go_wp2_with fail
      go_ret
      exact ⟨rfl, Ext.then (by repeat first | (with_reducible exact Below.refl _ _) | (with_reducible apply Ext.alloc) | (with_reducible apply Ext.drew) | (with_reducible apply Ext.drewN) | (with_reducible refine Ext.set ?_ (by simp))) hE.out⟩
set_option maxRecDepth 20000 in
theorem lessR_any (c d : Cap) (w : World) : Calls Try.prog 43 #[c.val, d.val] w (Tell w (ltT (tri c) (tri d))) := by
  obtain ⟨r, hr⟩ : ∃ r, r = ltT (tri c) (tri d) := ⟨_, rfl⟩
  rw [← hr]
  have hr' : r = decide (c.base < d.base ∨ c.base = d.base ∧ (c.top < d.top ∨ c.top = d.top ∧ c.perms < d.perms)) := hr
  by_cases h1 : c.base = d.base
  · have d1 : (c.base != d.base) = false := by rw [h1]; simp
    by_cases h2 : c.top = d.top
    · have d2 : (c.top != d.top) = false := by rw [h2]; simp
      have HR : Hid (r = decide (c.perms < d.perms)) := Lib.hid (by rw [hr', h1, h2]; simp)
      clear hr hr' h1 h2
      go_enter Try.func43, Try.ntmps43
      go_wp2_with fail
      go_ret
      exact ⟨by rw [HR.out]; rfl, (by repeat first | (with_reducible exact Below.refl _ _) | (with_reducible apply Ext.alloc) | (with_reducible apply Ext.drew) | (with_reducible apply Ext.drewN) | (with_reducible refine Ext.set ?_ (by simp)))⟩
    · have d2 : (c.top != d.top) = true := bne_iff_ne.2 h2
      have HR : Hid (r = decide (c.top < d.top)) := Lib.hid (by rw [hr', h1]; simp [h2])
      clear hr hr' h1 h2
      go_enter Try.func43, Try.ntmps43
      go_wp2_with fail
      go_ret
      exact ⟨by rw [HR.out]; rfl, (by repeat first | (with_reducible exact Below.refl _ _) | (with_reducible apply Ext.alloc) | (with_reducible apply Ext.drew) | (with_reducible apply Ext.drewN) | (with_reducible refine Ext.set ?_ (by simp)))⟩
  · have d1 : (c.base != d.base) = true := bne_iff_ne.2 h1
    have HR : Hid (r = decide (c.base < d.base)) := Lib.hid (by rw [hr']; simp [h1])
    clear hr hr' h1
    go_enter Try.func43, Try.ntmps43
    go_wp2_with fail
    go_ret
    exact ⟨by rw [HR.out]; rfl, (by repeat first | (with_reducible exact Below.refl _ _) | (with_reducible apply Ext.alloc) | (with_reducible apply Ext.drew) | (with_reducible apply Ext.drewN) | (with_reducible refine Ext.set ?_ (by simp)))⟩
end Go.Proofs.Ytalndcjbnedigaa

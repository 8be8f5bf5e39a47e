
/- Package clos: Has. -/
import Derived.Test.YtalndcjbnedigaaClosS
import Derived.Test.YtalndcjbnedigaaPhiR
set_option linter.all false
namespace Go.Proofs.Ytalndcjbnedigaa
open Go.RowKit Go.Shelf
attribute [local go_sem] seen dstOf boolOf
attribute [local go_sem high] eqCap
set_option maxRecDepth 20000 in
theorem has1_any (g c : Cap) (bc : Nat) (w : World) (h : w.heap[bc]? = some (.cells c.cells.toArray 24)) : Calls Try.prog 28 #[g.val, .pointer (some ⟨bc, 0, none⟩)] w (Tell w (decide (({ g with at' := c.at' } : Cap) = c))) := by
  have hq := capEq { g with at' := c.at' } c
  simp only at hq
  obtain ⟨z0, z1, z2, z3, z4, z5⟩ := lie6' h (Below.refl _ w)
  have hlt := cell_lt z0
  simp only at hlt
  obtain ⟨r, hr⟩ : ∃ r, r = decide (({ g with at' := c.at' } : Cap) = c) := ⟨_, rfl⟩
  rw [← hr] at hq ⊢
  clear hr
  go_enter Try.func28, Try.ntmps28
  go_wp2_with fail
  go_ret
  refine ⟨?_, (by repeat first | (with_reducible exact Below.refl _ _) | (with_reducible apply Ext.alloc) | (with_reducible apply Ext.drew) | (with_reducible apply Ext.drewN) | (with_reducible refine Ext.set ?_ (by simp)))⟩
  rw [← hq]
  simp
set_option maxRecDepth 20000 in
theorem has2_any (o c : Cap) (bc : Nat) (w : World) (h : w.heap[bc]? = some (.cells c.cells.toArray 24)) (hc : i64ok' c.perms) (ho : i64ok' o.perms) : Calls Try.prog 29 #[o.val, .pointer (some ⟨bc, 0, none⟩)] w (Tell w (underC c o)) := by
  obtain ⟨z0, z1, z2, z3, z4, z5⟩ := lie6' h (Below.refl _ w)
  have hlt := cell_lt z0
  simp only at hlt
  have HU := Lib.hid (fun w => capUnder_any c o w hc ho)
  go_enter Try.func29, Try.ntmps29
  go_wp2_with fail
  refine (HU.out _).mono ?_
  rintro e w1 ⟨rfl, hE⟩
  go_wp2_with fail
  go_ret
  exact ⟨rfl, (Ext.alloc (Below.refl _ w) _).then hE⟩
set_option maxHeartbeats 2000000 in
set_option maxRecDepth 20000 in
theorem has_any (B sp : Nat) (vg vo : Value) (G O : List Cap) (c : Cap) (w : World) (hs : SetAt B w sp vg vo G O) (hG : G.length ≤ 1000) (hO : O.length ≤ 1000) (hgw : ∀ g ∈ G, CapWf g) (how : ∀ o ∈ O, CapWf o) (hc : CapWf c) :
    Calls Try.prog 13 #[.pointer (some ⟨sp, 0, none⟩), c.val] w (Tell w (hasS G O c)) := by
  obtain ⟨r, hr⟩ : ∃ r, r = hasS G O c := ⟨_, rfl⟩
  rw [← hr]
  unfold hasS at hr
  have HR := Lib.hid hr
  obtain ⟨Ag, cg, rfl, -, hAg⟩ := Arr.own hs.g
  obtain ⟨Ao, co, rfl, -, hAo⟩ := Arr.own hs.o
  have HS := Lib.hid (And.intro hs.row (And.intro hAg hAo))
  clear hr hs hAg hAo
  go_enter Try.func13, Try.ntmps13
  go_wp2_with fail
  refine (capRight_any c _ hc).mono ?_
  rintro e w1 ⟨rfl, hE⟩
  have hr1 : Hid (w1.heap[w.heap.size]? = some (.cells c.cells.toArray 24)) := Lib.hid ((hE.block _ (by simp)).trans (heap_alloc_new w _))
  have E1 : Hid (Ext w w1) := Lib.hid ((Ext.alloc (Below.refl _ w) _).then hE)
  clear hE
  obtain ⟨z0, z1, z2, z3, z4, z5⟩ := lie6' hr1.out (Below.refl _ w1)
  have hlt := cell_lt z0
  simp only at hlt
  cases h1 : rightC c with
  | false =>
    have hr : r = false := by rw [HR.out, h1]; rfl
    subst hr
    go_wp2_with fail
    go_ret
    exact ⟨rfl, E1.out⟩
  | true =>
    cases h2 : c.tag with
    | false =>
      have hr : r = true := by rw [HR.out, h1, h2]; rfl
      subst hr
      rw [h2] at z0
      go_wp2_with fail
      go_ret
      exact ⟨rfl, E1.out⟩
    | true =>
      rw [h2] at z0
      have q0 := cellAt ((E1.out.block _ (Array.getElem?_eq_some_iff.1 HS.out.1).1).trans HS.out.1) 0 (.slice Ag G.length cg) rfl
      have q1 := cellAt ((E1.out.block _ (Array.getElem?_eq_some_iff.1 HS.out.1).1).trans HS.out.1) 1 (.slice Ao O.length co) rfl
      have lq := cell_lt q0
      simp only at lq
      go_wp2_with fail
      refine (containsCap Ag cg G 28 #[.pointer (some ⟨w.heap.size, 0, none⟩)] (fun g => decide (({ g with at' := c.at' } : Cap) = c)) w1 (HS.out.2.1.ext E1.out) (Nat.le_trans hG (by decide)) (enters_of Try.func28 (by kernel_rfl) rfl) (fun W x _ hW => has1_any x c w.heap.size W ((hW.block _ (Array.getElem?_eq_some_iff.1 hr1.out).1).trans hr1.out))).mono ?_
      rintro e w2 ⟨rfl, hE⟩
      have E2 := Lib.hid (E1.out.then hE)
      have E12 := Lib.hid hE
      clear hE
      obtain ⟨z0, z1, z2, z3, z4, z5⟩ := lie6' hr1.out E12.out
      have hlt := cell_lt z0
      simp only at hlt
      have q1 := ext_cell E12.out _ _ q1
      have lq := cell_lt q1
      simp only at lq
      have hob : (G.any fun g => decide (({ g with at' := c.at' } : Cap) = c)) = ownB G c := rfl
      rw [hob]
      clear hob
      cases h3 : ownB G c with
      | true =>
        have hr : r = true := by rw [HR.out, h1, h2, h3]; rfl
        subst hr
        go_wp2_with fail
        go_ret
        exact ⟨rfl, E2.out⟩
      | false =>
        go_wp2_with fail
        refine (containsCap Ao co O 29 #[.pointer (some ⟨w.heap.size, 0, none⟩)] (fun o => underC c o) w2 (HS.out.2.2.ext E2.out) (Nat.le_trans hO (by decide)) (enters_of Try.func29 (by kernel_rfl) rfl) (fun W x hx hW => has2_any x c w.heap.size W (((E12.out.then hW).block _ (Array.getElem?_eq_some_iff.1 hr1.out).1).trans hr1.out) hc.perms (how x hx).perms)).mono ?_
        rintro e w3 ⟨rfl, hE⟩
        have E3 := Lib.hid (E2.out.then hE)
        have E13 := Lib.hid (E12.out.then hE)
        obtain ⟨z0, z1, z2, z3, z4, z5⟩ := lie6' hr1.out E13.out
        have hlt := cell_lt z0
        simp only at hlt
        have q1 := ext_cell hE _ _ q1
        have lq := cell_lt q1
        simp only at lq
        clear hE
        cases h4 : (O.any fun o => underC c o) with
        | false =>
          have hr : r = false := by rw [HR.out, h1, h2, h3, h4]; rfl
          subst hr
          go_wp2_with fail
          go_ret
          exact ⟨rfl, E3.out⟩
        | true =>
          by_cases h5 : c.ty = 1
          · have hr : r = hasP c.perms 4 := by rw [HR.out, h1, h2, h3, h4, if_pos h5]; rfl
            subst hr
            go_wp2_with fail
            refine (permHas_any c.perms 4 w3 hc.perms (by unfold i64ok'; omega)).mono ?_
            rintro e w4 ⟨rfl, hE⟩
            go_wp2_with fail
            go_ret
            exact ⟨rfl, E3.out.then hE⟩
          · by_cases h6 : c.ty = 0
            · have hr : r = true := by rw [HR.out, h1, h2, h3, h4, if_neg h5, h6]; rfl
              subst hr
              go_wp2_with fail
              go_ret
              exact ⟨rfl, E3.out⟩
            · have hr : r = (c.ty == 0 || authL O c.ty 32) := by rw [HR.out, h1, h2, h3, h4, if_neg h5]; rfl
              subst hr
              go_wp2_with fail
              refine (authority_any sp Ao co O c.ty 32 w3 q1 (HS.out.2.2.ext E3.out) (Nat.le_trans hO (by decide)) how (by unfold i64ok'; omega)).mono ?_
              rintro e w4 ⟨rfl, hE⟩
              go_wp2_with fail
              go_ret
              exact ⟨rfl, E3.out.then hE⟩
end Go.Proofs.Ytalndcjbnedigaa

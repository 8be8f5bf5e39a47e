
/- Package clos: over, bare, authority. -/
import Derived.Test.YtalndcjbnedigaaIdxC
import Derived.Test.YtalndcjbnedigaaClosP
import Derived.Test.YtalndcjbnedigaaRngInv
set_option linter.all false
namespace Go.Proofs.Ytalndcjbnedigaa
open Go.RowKit Go.Shelf
attribute [local go_sem] seen dstOf boolOf
set_option maxHeartbeats 1000000 in
set_option maxRecDepth 20000 in
theorem over_any (c : Cap) (t p : Int) (w : World) (hc : CapWf c) (hp : i64ok' p) : Calls Try.prog 64 #[c.val, .int .i64 t, .int .i64 p] w (Tell w (overC c t p)) := by
  obtain ⟨r, hr⟩ : ∃ r, r = overC c t p := ⟨_, rfl⟩
  rw [← hr]
  unfold overC at hr
  have HR := Lib.hid hr
  clear hr
  have HP := Lib.hid (fun w => permHas_any c.perms p w hc.perms hp)
  have HI := Lib.hid (fun w => capIn_any c t 1 w hc.top.2)
  go_enter Try.func64, Try.ntmps64
  by_cases k1 : 2 ≤ t
  · by_cases k2 : t ≤ 255
    · go_wp2_with fail
      refine (HP.out _).mono ?_
      rintro e w1 ⟨rfl, hE⟩
      have hr1 : Hid (w1.heap[w.heap.size]? = some (.cells c.cells.toArray 24)) := Lib.hid ((hE.block _ (by simp)).trans (heap_alloc_new w _))
      have E1 : Hid (Ext w w1) := Lib.hid ((Ext.alloc (Below.refl _ w) _).then hE)
      clear hE
      obtain ⟨z0, z1, z2, z3, z4, z5⟩ := lie6' hr1.out (Below.refl _ w1)
      have hlt := cell_lt z0
      simp only at hlt
      cases h1 : hasP c.perms p with
      | false =>
        have hr : r = false := by rw [HR.out]; simp [h1]
        subst hr
        go_wp2_with fail
        go_ret
        exact ⟨rfl, E1.out⟩
      | true =>
        have hr : r = inC c t 1 := by rw [HR.out]; simp [h1, k1, k2]
        subst hr
        go_wp2_with fail
        refine (HI.out _).mono ?_
        rintro e w2 ⟨rfl, hE⟩
        have E2 := Lib.hid (E1.out.then hE)
        clear hE
        go_wp2_with fail
        go_ret
        exact ⟨rfl, E2.out⟩
    · have hr : r = false := by rw [HR.out]; simp [k2]
      subst hr
      go_wp2_with fail
      go_ret
      exact ⟨rfl, (by repeat first | (with_reducible exact Below.refl _ _) | (with_reducible apply Ext.alloc) | (with_reducible apply Ext.drew) | (with_reducible apply Ext.drewN) | (with_reducible refine Ext.set ?_ (by simp)))⟩
  · have hr : r = false := by rw [HR.out]; simp [k1]
    subst hr
    go_wp2_with fail
    go_ret
    exact ⟨rfl, (by repeat first | (with_reducible exact Below.refl _ _) | (with_reducible apply Ext.alloc) | (with_reducible apply Ext.drew) | (with_reducible apply Ext.drewN) | (with_reducible refine Ext.set ?_ (by simp)))⟩
set_option maxRecDepth 20000 in
theorem bare_any (c : Cap) (w : World) : Calls Try.prog 59 #[c.val] w fun e w' => e = .returned (bareC c).val ∧ Ext w w' := by
  go_enter Try.func59, Try.ntmps59
  go_wp2_with fail
  refine bodyPost_ret (v := (bareC c).val) (by simp [results, Try.results59, go_sem, bareC]) rfl ⟨rfl, (by repeat first | (with_reducible exact Below.refl _ _) | (with_reducible apply Ext.alloc) | (with_reducible apply Ext.drew) | (with_reducible apply Ext.drewN) | (with_reducible refine Ext.set ?_ (by simp)))⟩
set_option maxRecDepth 20000 in
theorem authority1_any (c : Cap) (bt bp : Nat) (t p : Int) (w : World) (hc : CapWf c) (hp : i64ok' p) (h1 : w.cell? ⟨bt, 0, none⟩ = some (.int .i64 t)) (h2 : w.cell? ⟨bp, 0, none⟩ = some (.int .i64 p)) :
    Calls Try.prog 63 #[c.val, .pointer (some ⟨bt, 0, none⟩), .pointer (some ⟨bp, 0, none⟩)] w (Tell w (overC c t p)) := by
  have HO := Lib.hid (fun w => over_any c t p w hc hp)
  have l1 := cell_lt h1
  have l2 := cell_lt h2
  simp only at l1 l2
  go_enter Try.func63, Try.ntmps63
  go_wp2_with fail
  refine (HO.out _).mono ?_
  rintro e w1 ⟨rfl, hE⟩
  go_wp2_with fail
  go_ret
  exact ⟨rfl, (Ext.alloc (Below.refl _ w) _).then hE⟩
set_option maxHeartbeats 1000000 in
set_option maxRecDepth 20000 in
theorem authority_any (sp : Nat) (Ao : Option Addr) (co : Nat) (O : List Cap) (t p : Int) (w : World) (h1 : w.cell? ⟨sp, 1, none⟩ = some (.slice Ao O.length co)) (hA : Arr w Ao (capCells O)) (hl : O.length ≤ 140737488351232) (hw : ∀ o ∈ O, CapWf o) (hp : i64ok' p) :
    Calls Try.prog 33 #[.pointer (some ⟨sp, 0, none⟩), .int .i64 t, .int .i64 p] w (Tell w (authL O t p)) := by
  have l1 := cell_lt h1
  simp only at l1
  go_enter Try.func33, Try.ntmps33
  go_wp2_with fail
  obtain ⟨U, hU⟩ : ∃ U, U = (w.alloc (.cells #[.int .i64 t] 3)).alloc (.cells #[.int .i64 p] 3) := ⟨_, rfl⟩
  have EU : Ext w U := by rw [hU]; exact (by repeat first | (with_reducible exact Below.refl _ _) | (with_reducible apply Ext.alloc) | (with_reducible apply Ext.drew) | (with_reducible apply Ext.drewN) | (with_reducible refine Ext.set ?_ (by simp)))
  have a1 : U.cell? ⟨w.heap.size, 0, none⟩ = some (.int .i64 t) := cellAt (C := #[.int .i64 t]) (t := 3) (f := (0, 0)) (new_at rfl (by rw [hU]; exact (by repeat first | (with_reducible exact Below.refl _ _) | (with_reducible apply Ext.alloc) | (with_reducible apply Ext.drew) | (with_reducible apply Ext.drewN) | (with_reducible refine Ext.set ?_ (by simp))))) 0 _ rfl
  have a2 : U.cell? ⟨w.heap.size + 1, 0, none⟩ = some (.int .i64 p) := cellAt (C := #[.int .i64 p]) (t := 3) (f := (0, 0)) (by rw [hU]; exact new_at (w := w.alloc _) (by simp) (Below.refl _ _)) 0 _ rfl
  rw [← hU]
  have HC := Lib.hid (containsCap Ao co O 63 #[.pointer (some ⟨w.heap.size, 0, none⟩), .pointer (some ⟨w.heap.size + 1, 0, none⟩)] (fun o => overC o t p) U (hA.ext EU) hl (enters_of Try.func63 (by kernel_rfl) rfl)
    (fun W x hx hE => authority1_any x _ _ t p W (hw x hx) hp (ext_cell hE _ _ a1) (ext_cell hE _ _ a2)))
  have HU := Lib.hid EU
  clear hU EU a1 a2
  refine HC.out.mono ?_
  rintro e w2 ⟨rfl, hE⟩
  have HE := Lib.hid (HU.out.then hE)
  clear hE
  go_wp2_with fail
  go_ret
  exact ⟨rfl, HE.out⟩
end Go.Proofs.Ytalndcjbnedigaa

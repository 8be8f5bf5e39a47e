
/- Package clos: what Open is made of: Clone, which ones are under others. -/
import Derived.Test.YtalndcjbnedigaaClosT
import Derived.Test.YtalndcjbnedigaaOpenP
set_option linter.all false
namespace Go.Proofs.Ytalndcjbnedigaa
open Go.RowKit Go.Shelf
attribute [local go_sem] seen dstOf boolOf
attribute [local go_sem high] eqCap
theorem lit0C (w : World) (base k : Nat) (hk : k = w.heap.size) (hb : base ≤ k) : (w.alloc (.cells #[] 24)).ownsRow base 24 6 (.slice (some ⟨k, 0, none⟩) 0 0) 0 [] := by
  subst hk
  exact own_lit w base 24 6 0 [] hb (by simp) (by simp [maxLen])
set_option maxHeartbeats 1000000 in
set_option maxRecDepth 20000 in
theorem cloneC (A : Option Addr) (c : Nat) (l : List Cap) (w : World) (hA : Arr w A (capCells l)) (hl : l.length ≤ 1000) :
    Calls Try.prog 37 #[.slice A l.length c] w (GivesC w l) := by
  obtain ⟨ci, hci, hci0, hci1, hci2⟩ := info_parts infoCap
  rcases hA with hA | ⟨b, o, rfl, hA⟩
  · have hn : l = [] := by
      have := congrArg List.length hA
      rw [capCells_len] at this
      simp only [List.length_nil] at this
      exact List.length_eq_zero_iff.1 (by omega)
    subst hn
    cases A with
    | none =>
      have hnil := Lib.run_eql_slice_nil (P := Try.prog) w 22 24 none 0 c 0 0 Try.underlying22
      go_enter Try.func37, Try.ntmps37
      go_wp2_with fail
      go_ret
      exact ⟨_, rfl, World.ownsRow_nil _ _ _ _, Below.refl _ _⟩
    | some a =>
      have hnil := Lib.run_eql_slice_nil (P := Try.prog) w 22 24 (some a) 0 c 0 0 Try.underlying22
      have hL : Lies w.heap.size (w.alloc (.cells #[] 24)) (.slice (some a) 0 c) 0 [] := .inr ⟨a, c, rfl, (fun h => absurd h (by simp)), (fun j u h => by simp at h)⟩
      go_enter Try.func37, Try.ntmps37
      go_wp2_with (first
        | (at_builtin; refine wpList_append_src _ rfl (.tmp 5) (.tmp 6) 22 rfl w.heap.size 24 ci (.agg #[.bool false, .int .i64 0, .int .i64 0, .int .i64 0, .int .i64 0, .int .i64 0]) 6 48 Try.underlying22 hci hci0 hci1 hci2 rfl (by decide) _ _ _ rfl (lit0C w w.heap.size _ rfl (Nat.le_refl _)) _ 0 [] rfl hL rfl (by simp) (by simp [maxLen]) (by omega) (by simp) ?_; intro v2 w4 ho hg _))
      go_ret
      exact ⟨_, rfl, ho, Below.grown (by repeat first | (with_reducible exact Below.refl _ _) | (with_reducible apply Ext.alloc) | (with_reducible apply Ext.drew) | (with_reducible apply Ext.drewN) | (with_reducible refine Ext.set ?_ (by simp))) hg (by simp) (fun r hr => ((lit0C w w.heap.size _ rfl (Nat.le_refl _)).lt r hr).1)⟩
  · have hA' : Arr w (some ⟨b, o, none⟩) (capCells l) := .inr ⟨b, o, rfl, hA⟩
    have hnil := Lib.run_eql_slice_nil (P := Try.prog) w 22 24 (some ⟨b, o, none⟩) l.length c 0 0 Try.underlying22
    clear hA
    go_enter Try.func37, Try.ntmps37
    go_wp2_with (first
      | (at_builtin; refine wpList_append_src _ rfl (.tmp 5) (.tmp 6) 22 rfl w.heap.size 24 ci (.agg #[.bool false, .int .i64 0, .int .i64 0, .int .i64 0, .int .i64 0, .int .i64 0]) 6 48 Try.underlying22 hci hci0 hci1 hci2 rfl (by decide) _ _ _ rfl (lit0C w w.heap.size _ rfl (Nat.le_refl _)) _ l.length (capCells l) rfl ((Lies.arr hA').ext (by repeat first | (with_reducible exact Below.refl _ _) | (with_reducible apply Ext.alloc) | (with_reducible apply Ext.drew) | (with_reducible apply Ext.drewN) | (with_reducible refine Ext.set ?_ (by simp)))) (capCells_len l) (capCells_one l) (by unfold maxLen; omega) (by omega) (by simp) ?_; intro v2 w4 ho hg _))
    go_ret
    have e : [] ++ capCells l = capCells l := rfl
    rw [Nat.zero_add, e] at ho
    exact ⟨_, rfl, ho, Below.grown (by repeat first | (with_reducible exact Below.refl _ _) | (with_reducible apply Ext.alloc) | (with_reducible apply Ext.drew) | (with_reducible apply Ext.drewN) | (with_reducible refine Ext.set ?_ (by simp))) hg (by simp) (fun r hr => ((lit0C w w.heap.size _ rfl (Nat.le_refl _)).lt r hr).1)⟩
set_option maxRecDepth 20000 in
theorem open11_any (o c : Cap) (bc : Nat) (w : World) (h : w.heap[bc]? = some (.cells c.cells.toArray 24)) (hc : i64ok' c.perms) (ho : i64ok' o.perms) : Calls Try.prog 39 #[o.val, .pointer (some ⟨bc, 0, none⟩)] w (Tell w (lessB c o)) := by
  have hq := capEq o c
  obtain ⟨z0, z1, z2, z3, z4, z5⟩ := lie6' h (Below.refl _ w)
  have hlt := cell_lt z0
  simp only at hlt
  have HU := Lib.hid (fun w => capUnder_any c o w hc ho)
  obtain ⟨r, hr⟩ : ∃ r, r = lessB c o := ⟨_, rfl⟩
  rw [← hr]
  unfold lessB at hr
  have HR := Lib.hid hr
  clear hr
  cases he : decide (o = c) with
  | true =>
    rw [he] at hq
    have hr : r = false := by rw [HR.out, he]; rfl
    subst hr
    clear he
    go_enter Try.func39, Try.ntmps39
    go_wp2_with fail
    go_ret
    exact ⟨rfl, (by repeat first | (with_reducible exact Below.refl _ _) | (with_reducible apply Ext.alloc) | (with_reducible apply Ext.drew) | (with_reducible apply Ext.drewN) | (with_reducible refine Ext.set ?_ (by simp)))⟩
  | false =>
    rw [he] at hq
    have hr : r = underC c o := by rw [HR.out, he]; rfl
    subst hr
    clear he
    go_enter Try.func39, Try.ntmps39
    go_wp2_with fail
    refine (HU.out _).mono ?_
    rintro e w1 ⟨rfl, hE⟩
    go_wp2_with fail
    go_ret
    exact ⟨rfl, (Ext.alloc (Below.refl _ w) _).then hE⟩
set_option maxHeartbeats 1000000 in
set_option maxRecDepth 20000 in
theorem open1_any (B sp bs : Nat) (vg vo : Value) (G O : List Cap) (c : Cap) (w : World) (hs : SetAt B w sp vg vo G O) (hb : w.heap[bs]? = some (.cells #[.pointer (some ⟨sp, 0, none⟩)] 26)) (hO : O.length ≤ 1000) (how : ∀ o ∈ O, CapWf o) (hc : i64ok' c.perms) :
    Calls Try.prog 38 #[c.val, .pointer (some ⟨bs, 0, none⟩)] w (Tell w (O.any fun o => lessB c o)) := by
  obtain ⟨Ao, co, rfl, -, hAo⟩ := Arr.own hs.o
  have q0 := cellAt hb 0 (.pointer (some ⟨sp, 0, none⟩)) rfl
  have q1 := cellAt hs.row 1 (.slice Ao O.length co) rfl
  have l0 := cell_lt q0
  have l1 := cell_lt q1
  simp only at l0 l1
  obtain ⟨U, hU⟩ : ∃ U, U = w.alloc (.cells c.cells.toArray 24) := ⟨_, rfl⟩
  have EU : Ext w U := by rw [hU]; exact (by repeat first | (with_reducible exact Below.refl _ _) | (with_reducible apply Ext.alloc) | (with_reducible apply Ext.drew) | (with_reducible apply Ext.drewN) | (with_reducible refine Ext.set ?_ (by simp)))
  have hr : U.heap[w.heap.size]? = some (.cells c.cells.toArray 24) := by rw [hU]; exact heap_alloc_new w _
  have HC := Lib.hid (containsCap Ao co O 39 #[.pointer (some ⟨w.heap.size, 0, none⟩)] (fun o => lessB c o) U (hAo.ext EU) (Nat.le_trans hO (by decide)) (enters_of Try.func39 (by kernel_rfl) rfl) (fun W x hx hW => open11_any x c w.heap.size W ((hW.block _ (Array.getElem?_eq_some_iff.1 hr).1).trans hr) hc (how x hx).perms))
  have HU := Lib.hid (And.intro EU hU)
  clear EU hU hr hs hb hAo
  go_enter Try.func38, Try.ntmps38
  go_wp2_with fail
  rw [← HU.out.2]
  refine HC.out.mono ?_
  rintro e w1 ⟨rfl, hE⟩
  go_wp2_with fail
  go_ret
  exact ⟨rfl, HU.out.1.then hE⟩
end Go.Proofs.Ytalndcjbnedigaa

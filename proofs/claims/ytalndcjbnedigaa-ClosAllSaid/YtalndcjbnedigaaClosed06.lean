
/- ClosClosed: the walk of the law. -/
import Derived.Test.YtalndcjbnedigaaMade06
import Derived.Test.YtalndcjbnedigaaHead06
set_option linter.all false
namespace Go.Proofs.Ytalndcjbnedigaa
open Go.RowKit Go.Shelf
attribute [local go_sem] seen dstOf boolOf

theorem wf_right {c : Cap} (h : rightC c = true) : CapWf c := by
  obtain ⟨r1, r2, r3, r4, r5, r6, -⟩ := rightC_iff.1 h
  unfold permB at r4
  rw [Bool.and_eq_true, decide_eq_true_eq, decide_eq_true_eq] at r4
  exact ⟨by unfold i64ok'; omega, by unfold i64ok'; omega, by unfold i64ok'; omega, by unfold i64ok'; omega, by unfold i64ok'; omega⟩
set_option maxHeartbeats 2000000 in
set_option maxRecDepth 20000 in
theorem closed06_any (A : Option Addr) (cp : Nat) (l : List Cap) (c d : Cap) (n k : Int) (w : World) (hA : Arr w A (capCells l)) (hw : ∀ x ∈ l, CapWf x) (hc : CapWf c) (hd : CapWf d) (hn : i64ok' n) (h1 : 0 ≤ k) (h2 : k ≤ 255) : Calls Try.prog 8 #[.slice A l.length cp, c.val, d.val, .int .i64 n, .int .u8 k] w (Tell w true) := by
  by_cases hl : 40 < l.length
  · go_enter Try.func8, Try.ntmps8
    go_wp2_with fail
    refine (head06 _).mono ?_
    rintro _ w1 ⟨rfl, hE⟩
    go_wp2_with fail
    go_ret
    exact ⟨rfl, Ext.then (by repeat first | (with_reducible exact Below.refl _ _) | (with_reducible apply Ext.alloc) | (with_reducible apply Ext.drew) | (with_reducible apply Ext.drewN) | (with_reducible refine Ext.set ?_ (by simp))) hE⟩
  · have HM := Lib.hid (fun w => made06_any c d n k w hc hd hn h1 h2)
    go_enter Try.func8, Try.ntmps8
    go_wp2_with fail
    refine (head06 _).mono ?_
    rintro _ w1 ⟨rfl, hE1⟩
    have HC : Hid (w1.heap[w.heap.size]? = some (.cells c.cells.toArray 24)) := Lib.hid ((hE1.block _ (by simp; omega)).trans (new_at (w := w) rfl (Ext.alloc (Below.refl _ _) _)))
    have HD : Hid (w1.heap[w.heap.size + 1]? = some (.cells d.cells.toArray 24)) := Lib.hid ((hE1.block _ (by simp)).trans (new_at (w := w.alloc _) (by simp) (Below.refl _ _)))
    have E1 : Hid (Ext w w1) := Lib.hid (Ext.then (by repeat first | (with_reducible exact Below.refl _ _) | (with_reducible apply Ext.alloc) | (with_reducible apply Ext.drew) | (with_reducible apply Ext.drewN) | (with_reducible refine Ext.set ?_ (by simp))) hE1)
    have HA := Lib.hid (hA.ext E1.out)
    clear hE1 hA
    go_wp2_with fail
    refine (new_is A cp l _ HA.out hw (by omega)).mono ?_
    rintro _ w2 ⟨s, G, O, rfl, hs, hp, hE⟩
    have E2 : Hid (Ext w1 w2) := Lib.hid hE
    have S2 := Lib.hid hs
    have HH : Hid (hasS G O c = true → hasS G O d = true → hasS G O (madeC c d n (k % 8)) = true) := Lib.hid fun q1 q2 => has_madeC hs.ok q1 q2 n (k % 8)
    obtain ⟨y0, y1, y2, y3, y4, y5⟩ := lie6' HC.out E2.out
    have hlt := cell_lt y0
    simp only at hlt
    clear hs hE hp
    go_wp2_with fail
    refine (has_set c S2.out (by omega) hw hc).mono ?_
    rintro _ w3 ⟨rfl, hE⟩
    have E3 : Hid (Ext w1 w3) := Lib.hid (E2.out.then hE)
    have S3 := Lib.hid (S2.out.ext hE)
    clear hE
    cases hc1 : hasS G O c with
    | false =>
      go_wp2_with fail
      go_ret
      exact ⟨rfl, E1.out.then E3.out⟩
    | true =>
      obtain ⟨y0, y1, y2, y3, y4, y5⟩ := lie6' HC.out E3.out
      obtain ⟨z0, z1, z2, z3, z4, z5⟩ := lie6' HD.out E3.out
      have hlt := cell_lt z0
      have hlt2 := cell_lt y0
      simp only at hlt hlt2
      have HC1 := Lib.hid hc1
      clear hc1
      go_wp2_with fail
      refine (has_set d S3.out (by omega) hw hd).mono ?_
      rintro _ w4 ⟨rfl, hE⟩
      have E4 : Hid (Ext w1 w4) := Lib.hid (E3.out.then hE)
      have S4 := Lib.hid (S3.out.ext hE)
      clear hE
      cases hd1 : hasS G O d with
      | false =>
        go_wp2_with fail
        go_ret
        exact ⟨rfl, E1.out.then E4.out⟩
      | true =>
        obtain ⟨y0, y1, y2, y3, y4, y5⟩ := lie6' HC.out E4.out
        obtain ⟨z0, z1, z2, z3, z4, z5⟩ := lie6' HD.out E4.out
        have hlt := cell_lt z0
        have hlt2 := cell_lt y0
        simp only at hlt hlt2
        have hx := HH.out HC1.out hd1
        have hwx := wf_right (has_right hx)
        obtain ⟨X, hX⟩ : ∃ X, X = madeC c d n (k % 8) := ⟨_, rfl⟩
        rw [← hX] at hx hwx HM
        have HX := Lib.hid hx
        clear hd1 hX hx
        go_wp2_with fail
        refine (HM.out _).mono ?_
        rintro _ w5 ⟨rfl, hE⟩
        have E5 : Hid (Ext w4 w5) := Lib.hid hE
        clear hE
        go_wp2_with fail
        refine (has_set X (S4.out.ext E5.out) (by omega) hw hwx).mono ?_
        rintro _ w6 ⟨rfl, hE⟩
        rw [HX.out]
        go_wp2_with fail
        go_ret
        exact ⟨rfl, (E1.out.then E4.out).then (E5.out.then hE)⟩
end Go.Proofs.Ytalndcjbnedigaa

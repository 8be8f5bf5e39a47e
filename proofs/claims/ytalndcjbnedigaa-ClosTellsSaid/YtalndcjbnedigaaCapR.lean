
/- seizinref01.Right; seizinref02.addr, Right, In. -/
import Derived.Test.YtalndcjbnedigaaCapP
import Derived.Test.YtalndcjbnedigaaMem
import Derived.Test.YtalndcjbnedigaaPhiR
set_option linter.all false
namespace Go.Proofs.Ytalndcjbnedigaa
open Go.RowKit
attribute [local go_sem] seen dstOf boolOf
abbrev Tells (w : World) (b : Bool) (e : Ending) (w' : World) : Prop := e = .returned (.bool b) ∧ Ext w w'
set_option maxRecDepth 20000 in
theorem addrRef_any (n : Int) (w : World) : Calls Try.prog 45 #[.int .i64 n] w (Tells w (addrB n)) := by
  unfold addrB
  cases h1 : decide (0 ≤ n) <;> cases h2 : decide (n ≤ 4294967295)
  all_goals
    go_enter Try.func45, Try.ntmps45
    go_wp2_with fail
    go_ret
    exact ⟨rfl, Below.refl _ _⟩
set_option maxRecDepth 20000 in
theorem permRef_any (n : Int) (w : World) : Calls Try.prog 44 #[.int .i64 n] w (Tells w (permB n)) := by
  unfold permB
  cases h1 : decide (0 ≤ n) <;> cases h2 : decide (n ≤ 127)
  all_goals
    go_enter Try.func44, Try.ntmps44
    go_wp2_with fail
    go_ret
    exact ⟨rfl, Below.refl _ _⟩
theorem rightC_eq (c : Cap) : rightC c = ((addrB c.base && addrB c.top && addrB c.at' && permB c.perms && decide (0 ≤ c.ty) && decide (c.ty ≤ 255)) && (!c.tag || (decide (c.base ≤ c.top) && decide (c.top ≤ 16777216)))) := rfl
set_option maxHeartbeats 1000000 in
set_option maxRecDepth 100000 in
theorem capR_any (c : Cap) (w : World) : Calls Try.prog 21 #[c.val] w (Tells w (rightC c)) := by
  obtain ⟨r, hr⟩ : ∃ r, r = rightC c := ⟨_, rfl⟩
  rw [← hr]
  rw [rightC_eq] at hr
  have HA := Lib.hid (fun n w => addrRef_any n w)
  have HP := Lib.hid (fun n w => permRef_any n w)
  have HRR := Lib.hid hr
  clear hr
  go_enter Try.func21, Try.ntmps21
  go_wp2_with fail
  refine (HA.out _ _).mono ?_
  rintro e w1 ⟨rfl, hE⟩
  have E1 : Hid (Ext w w1) := Lib.hid ((Ext.alloc (Below.refl _ w) _).then hE)
  have hrow : Hid (w1.heap[w.heap.size]? = some (.cells c.cells.toArray 24)) := Lib.hid ((hE.block _ (by simp)).trans (heap_alloc_new w _))
  have X1 : Hid (Ext w1 w1) := Lib.hid (Below.refl _ _)
  clear hE
  obtain ⟨z0, z1, z2, z3, z4, z5⟩ := lie6' hrow.out X1.out
  have hlt := cell_lt z0
  simp only at hlt
  cases h1 : addrB c.base with
  | false =>
    have hr : r = false := by rw [HRR.out]; simp [h1]
    subst hr
    clear HRR
    go_wp2_with fail
    go_ret
    exact ⟨rfl, E1.out⟩
  | true =>
    go_wp2_with fail
    refine (HA.out _ _).mono ?_
    rintro e w2 ⟨rfl, hE⟩
    have E2 := Lib.hid (E1.out.then hE)
    have X2 := Lib.hid (X1.out.then hE)
    clear hE
    obtain ⟨z0, z1, z2, z3, z4, z5⟩ := lie6' hrow.out X2.out
    have hlt := cell_lt z0
    simp only at hlt
    cases h2 : addrB c.top with
    | false =>
      have hr : r = false := by rw [HRR.out]; simp [h1, h2]
      subst hr
      clear HRR
      go_wp2_with fail
      go_ret
      exact ⟨rfl, E2.out⟩
    | true =>
      go_wp2_with fail
      refine (HA.out _ _).mono ?_
      rintro e w3 ⟨rfl, hE⟩
      have E3 := Lib.hid (E2.out.then hE)
      have X3 := Lib.hid (X2.out.then hE)
      clear hE
      obtain ⟨z0, z1, z2, z3, z4, z5⟩ := lie6' hrow.out X3.out
      have hlt := cell_lt z0
      simp only at hlt
      cases h3 : addrB c.at' with
      | false =>
        have hr : r = false := by rw [HRR.out]; simp [h1, h2, h3]
        subst hr
        clear HRR
        go_wp2_with fail
        go_ret
        exact ⟨rfl, E3.out⟩
      | true =>
        go_wp2_with fail
        refine (HP.out _ _).mono ?_
        rintro e w4 ⟨rfl, hE⟩
        have E4 := Lib.hid (E3.out.then hE)
        have X4 := Lib.hid (X3.out.then hE)
        clear hE
        obtain ⟨z0, z1, z2, z3, z4, z5⟩ := lie6' hrow.out X4.out
        have hlt := cell_lt z0
        simp only at hlt
        cases h4 : permB c.perms with
        | false =>
          have hr : r = false := by rw [HRR.out]; simp [h1, h2, h3, h4]
          subst hr
          clear HRR
          go_wp2_with fail
          go_ret
          exact ⟨rfl, E4.out⟩
        | true =>
          by_cases k1 : c.ty < 0
          · have k1' : ¬ 0 ≤ c.ty := by omega
            have hr : r = false := by rw [HRR.out]; simp [h1, h2, h3, h4, k1']
            subst hr
            clear HRR
            go_wp2_with fail
            go_ret
            exact ⟨rfl, E4.out⟩
          · have k1' : 0 ≤ c.ty := by omega
            by_cases k2 : 255 < c.ty
            · have k2' : ¬ c.ty ≤ 255 := by omega
              have hr : r = false := by rw [HRR.out]; simp [h1, h2, h3, h4, k1', k2']
              subst hr
              clear HRR
              go_wp2_with fail
              go_ret
              exact ⟨rfl, E4.out⟩
            · have k2' : c.ty ≤ 255 := by omega
              cases h5 : c.tag with
              | false =>
                have hr : r = true := by rw [HRR.out]; simp [h1, h2, h3, h4, k1', k2', h5]
                subst hr
                clear HRR
                go_wp2_with fail
                go_ret
                exact ⟨rfl, E4.out⟩
              | true =>
                by_cases k3 : c.base ≤ c.top
                · by_cases k4 : c.top ≤ 16777216
                  · skip
                    have hr : r = true := by rw [HRR.out]; simp [h1, h2, h3, h4, k1', k2', h5, k3, k4]
                    have kd : decide (c.top ≤ 16777216) = true := decide_eq_true k4
                    subst hr
                    clear HRR
                    go_wp2_with fail
                    go_ret
                    exact ⟨rfl, E4.out⟩
                  · skip
                    have hr : r = false := by rw [HRR.out]; simp [h1, h2, h3, h4, k1', k2', h5, k3, k4]
                    have kd : decide (c.top ≤ 16777216) = false := decide_eq_false k4
                    subst hr
                    clear HRR
                    go_wp2_with fail
                    go_ret
                    exact ⟨rfl, E4.out⟩
                · skip
                  have hr : r = false := by rw [HRR.out]; simp [h1, h2, h3, h4, k1', k2', h5, k3]
                  have kd : decide (c.base ≤ c.top) = false := decide_eq_false k3
                  subst hr
                  clear HRR
                  go_wp2_with fail
                  go_ret
                  exact ⟨rfl, E4.out⟩
theorem inC_eq (c : Cap) (a n : Int) : inC c a n = (decide (0 ≤ a) && decide (0 ≤ n) && decide (c.base ≤ a) && decide (a ≤ c.top) && decide (n ≤ c.top - a)) := rfl
set_option maxHeartbeats 1000000 in
set_option maxRecDepth 100000 in
theorem capRIn_any (c : Cap) (a n : Int) (w : World) (ht : c.top ≤ 9223372036854775807) : Calls Try.prog 61 #[c.val, .int .i64 a, .int .i64 n] w (Tells w (inC c a n)) := by
  obtain ⟨r, hr⟩ : ∃ r, r = inC c a n := ⟨_, rfl⟩
  rw [← hr]
  rw [inC_eq] at hr
  have HRR := Lib.hid hr
  clear hr
  have E := Lib.hid (Ext.alloc (Below.refl _ w) (.cells c.cells.toArray 24))
  go_enter Try.func61, Try.ntmps61
  by_cases k1 : 0 ≤ a
  · skip
    by_cases k2 : 0 ≤ n
    · skip
      by_cases k3 : c.base ≤ a
      · skip
        by_cases k4 : a ≤ c.top
        · skip
          by_cases k5 : n ≤ c.top - a
          · skip
            have hr : r = true := by rw [HRR.out]; simp [k1, k2, k3, k4, k5]
            have kd : decide (n ≤ c.top - a) = true := decide_eq_true k5
            subst hr
            clear HRR
            go_wp2_with fail
            go_ret
            exact ⟨rfl, E.out⟩
          · skip
            have hr : r = false := by rw [HRR.out]; simp [k1, k2, k3, k4, k5]
            have kd : decide (n ≤ c.top - a) = false := decide_eq_false k5
            subst hr
            clear HRR
            go_wp2_with fail
            go_ret
            exact ⟨rfl, E.out⟩
        · skip
          have hr : r = false := by rw [HRR.out]; simp [k1, k2, k3, k4]
          subst hr
          clear HRR
          go_wp2_with fail
          go_ret
          exact ⟨rfl, E.out⟩
      · skip
        have hr : r = false := by rw [HRR.out]; simp [k1, k2, k3]
        subst hr
        clear HRR
        go_wp2_with fail
        go_ret
        exact ⟨rfl, E.out⟩
    · skip
      have hr : r = false := by rw [HRR.out]; simp [k1, k2]
      subst hr
      clear HRR
      go_wp2_with fail
      go_ret
      exact ⟨rfl, E.out⟩
  · skip
    have hr : r = false := by rw [HRR.out]; simp [k1]
    subst hr
    clear HRR
    go_wp2_with fail
    go_ret
    exact ⟨rfl, E.out⟩
end Go.Proofs.Ytalndcjbnedigaa


/- Packages perm and cap. -/
import Derived.Test.YtpjlhkepdiajjaaCapP
import Derived.Test.YtpjlhkepdiajjaaMem
import Derived.Test.YtpjlhkepdiajjaaEqCap
import Derived.Test.YtpjlhkepdiajjaaPhiR
set_option linter.all false
namespace Go.Proofs.Ytpjlhkepdiajjaa
open Go.RowKit
attribute [local go_sem] seen dstOf boolOf

theorem cellAt {W : World} {g : Nat} {C : Array Value} {t : TypeId} {f : Nat × Nat} (h : W.heap[g]? = some (.cells C t f)) (j : Nat) (v : Value) (hj : C[j]? = some v) : W.cell? ⟨g, j, none⟩ = some v := by simp [World.cell?, h, hj]
abbrev Tell (w : World) (b : Bool) (e : Ending) (w' : World) : Prop := e = .returned (.bool b) ∧ Ext w w'
def i64ok' (n : Int) : Prop := -9223372036854775808 ≤ n ∧ n ≤ 9223372036854775807
/-- A capability of numbers of 64 bits. -/
structure CapWf (c : Cap) : Prop where
  base : i64ok' c.base
  top : i64ok' c.top
  at' : i64ok' c.at'
  perms : i64ok' c.perms
  ty : i64ok' c.ty
set_option maxRecDepth 20000 in
theorem permR_any (n : Int) (w : World) (hn : i64ok' n) : Calls Try.prog 49 #[.int .i64 n] w (Tell w (permB n)) := by
  have hb := perm_bits hn.1 hn.2
  rw [← hb]
  clear hb
  go_enter Try.func49, Try.ntmps49
  go_wp2_with fail
  go_ret
  exact ⟨rfl, Below.refl _ _⟩
set_option maxRecDepth 20000 in
theorem spanRight_any (a b : Int) (w : World) (r : Bool) (HRR : Hid (r = (addrB a && addrB b))) : Calls Try.prog 48 #[.agg #[.int .i64 a, .int .i64 b]] w (Tell w r) := by
  have e := HRR.out
  unfold addrB at e
  have HE := Lib.hid e
  clear e
  go_enter Try.func48, Try.ntmps48
  by_cases k1 : 0 ≤ a
  · have d1 : decide (0 ≤ a) = true := decide_eq_true k1
    by_cases k2 : a ≤ 4294967295
    · have d2 : decide (a ≤ 4294967295) = true := decide_eq_true k2
      by_cases k3 : 0 ≤ b
      · have d3 : decide (0 ≤ b) = true := decide_eq_true k3
        by_cases k4 : b ≤ 4294967295
        · have d4 : decide (b ≤ 4294967295) = true := decide_eq_true k4
          have hr : r = true := by rw [HE.out]; simp [k1, k2, k3, k4]
          subst hr
          go_wp2_with fail
          go_ret
          exact ⟨rfl, (by repeat first | (with_reducible exact Below.refl _ _) | (with_reducible apply Ext.alloc) | (with_reducible apply Ext.drew) | (with_reducible apply Ext.drewN) | (with_reducible refine Ext.set ?_ (by simp)))⟩
        · have d4 : decide (b ≤ 4294967295) = false := decide_eq_false k4
          have hr : r = false := by rw [HE.out]; simp [k1, k2, k3, k4]
          subst hr
          go_wp2_with fail
          go_ret
          exact ⟨rfl, (by repeat first | (with_reducible exact Below.refl _ _) | (with_reducible apply Ext.alloc) | (with_reducible apply Ext.drew) | (with_reducible apply Ext.drewN) | (with_reducible refine Ext.set ?_ (by simp)))⟩
      · have d3 : decide (0 ≤ b) = false := decide_eq_false k3
        have hr : r = false := by rw [HE.out]; simp [k1, k2, k3]
        subst hr
        go_wp2_with fail
        go_ret
        exact ⟨rfl, (by repeat first | (with_reducible exact Below.refl _ _) | (with_reducible apply Ext.alloc) | (with_reducible apply Ext.drew) | (with_reducible apply Ext.drewN) | (with_reducible refine Ext.set ?_ (by simp)))⟩
    · have d2 : decide (a ≤ 4294967295) = false := decide_eq_false k2
      have hr : r = false := by rw [HE.out]; simp [k1, k2]
      subst hr
      go_wp2_with fail
      go_ret
      exact ⟨rfl, (by repeat first | (with_reducible exact Below.refl _ _) | (with_reducible apply Ext.alloc) | (with_reducible apply Ext.drew) | (with_reducible apply Ext.drewN) | (with_reducible refine Ext.set ?_ (by simp)))⟩
  · have d1 : decide (0 ≤ a) = false := decide_eq_false k1
    have hr : r = false := by rw [HE.out]; simp [k1]
    subst hr
    go_wp2_with fail
    go_ret
    exact ⟨rfl, (by repeat first | (with_reducible exact Below.refl _ _) | (with_reducible apply Ext.alloc) | (with_reducible apply Ext.drew) | (with_reducible apply Ext.drewN) | (with_reducible refine Ext.set ?_ (by simp)))⟩
set_option maxRecDepth 20000 in
theorem spanHas_any (a b c d : Int) (w : World) (r : Bool) (HE : Hid (r = (decide (a ≤ c) && decide (c ≤ d) && decide (d ≤ b)))) : Calls Try.prog 50 #[.agg #[.int .i64 a, .int .i64 b], .agg #[.int .i64 c, .int .i64 d]] w (Tell w r) := by
  go_enter Try.func50, Try.ntmps50
  by_cases k1 : a ≤ c
  · have d1 : decide (a ≤ c) = true := decide_eq_true k1
    by_cases k2 : c ≤ d
    · have d2 : decide (c ≤ d) = true := decide_eq_true k2
      by_cases k3 : d ≤ b
      · have d3 : decide (d ≤ b) = true := decide_eq_true k3
        have hr : r = true := by rw [HE.out]; simp [k1, k2, k3]
        subst hr
        go_wp2_with fail
        go_ret
        exact ⟨rfl, (by repeat first | (with_reducible exact Below.refl _ _) | (with_reducible apply Ext.alloc) | (with_reducible apply Ext.drew) | (with_reducible apply Ext.drewN) | (with_reducible refine Ext.set ?_ (by simp)))⟩
      · have d3 : decide (d ≤ b) = false := decide_eq_false k3
        have hr : r = false := by rw [HE.out]; simp [k1, k2, k3]
        subst hr
        go_wp2_with fail
        go_ret
        exact ⟨rfl, (by repeat first | (with_reducible exact Below.refl _ _) | (with_reducible apply Ext.alloc) | (with_reducible apply Ext.drew) | (with_reducible apply Ext.drewN) | (with_reducible refine Ext.set ?_ (by simp)))⟩
    · have d2 : decide (c ≤ d) = false := decide_eq_false k2
      have hr : r = false := by rw [HE.out]; simp [k1, k2]
      subst hr
      go_wp2_with fail
      go_ret
      exact ⟨rfl, (by repeat first | (with_reducible exact Below.refl _ _) | (with_reducible apply Ext.alloc) | (with_reducible apply Ext.drew) | (with_reducible apply Ext.drewN) | (with_reducible refine Ext.set ?_ (by simp)))⟩
  · have d1 : decide (a ≤ c) = false := decide_eq_false k1
    have hr : r = false := by rw [HE.out]; simp [k1]
    subst hr
    go_wp2_with fail
    go_ret
    exact ⟨rfl, (by repeat first | (with_reducible exact Below.refl _ _) | (with_reducible apply Ext.alloc) | (with_reducible apply Ext.drew) | (with_reducible apply Ext.drewN) | (with_reducible refine Ext.set ?_ (by simp)))⟩
set_option maxRecDepth 20000 in
theorem capOf_any (c : Cap) (w : World) : Calls Try.prog 47 #[c.val] w fun e w' => e = .returned (.agg #[.int .i64 c.base, .int .i64 c.top, .bool c.tag, .int .i64 c.base, .int .i64 c.top, .int .i64 c.at', .int .i64 c.perms, .int .i64 c.ty]) ∧ Ext w w' := by
  go_enter Try.func47, Try.ntmps47
  go_wp2_with fail
  refine bodyPost_ret (v := .agg #[.int .i64 c.base, .int .i64 c.top, .bool c.tag, .int .i64 c.base, .int .i64 c.top, .int .i64 c.at', .int .i64 c.perms, .int .i64 c.ty]) (by simp [results, Try.results47, go_sem]) rfl ⟨rfl, (by repeat first | (with_reducible exact Below.refl _ _) | (with_reducible apply Ext.alloc) | (with_reducible apply Ext.drew) | (with_reducible apply Ext.drewN) | (with_reducible refine Ext.set ?_ (by simp)))⟩
set_option maxHeartbeats 1000000 in
set_option maxRecDepth 20000 in
theorem capRight_any (c : Cap) (w : World) (hw : CapWf c) : Calls Try.prog 29 #[c.val] w (Tell w (rightC c)) := by
  obtain ⟨r, hr⟩ : ∃ r, r = rightC c := ⟨_, rfl⟩
  rw [← hr]
  have HR := Lib.hid hr
  have HO := Lib.hid (fun c w => capOf_any c w)
  have HP := Lib.hid (fun n w h => permR_any n w h)
  clear hr
  go_enter Try.func29, Try.ntmps29
  go_wp2_with fail
  refine (HO.out c _).mono ?_
  rintro e w1 ⟨rfl, hE⟩
  have hr1 : Hid (w1.heap[w.heap.size]? = some (.cells c.cells.toArray 27)) := Lib.hid ((hE.block _ (by simp)).trans (heap_alloc_new w _))
  have E1 : Hid (Ext w w1) := Lib.hid ((Ext.alloc (Below.refl _ w) _).then hE)
  clear hE
  have hv := heap_alloc_new w1 (.cells #[.int .i64 c.base, .int .i64 c.top, .bool c.tag, .int .i64 c.base, .int .i64 c.top, .int .i64 c.at', .int .i64 c.perms, .int .i64 c.ty] 100)
  obtain ⟨z0, z1, z2, z3, z4, z5⟩ := lie6' hr1.out (Below.refl _ w1)
  have hlt := cell_lt z0
  simp only at hlt
  go_wp2_with fail
  refine (spanRight_any c.base c.top _ (addrB c.base && addrB c.top) (Lib.hid rfl)).mono ?_
  rintro e w2 ⟨rfl, hE⟩
  have V2 : Hid (w2.heap[w1.heap.size]? = some (.cells #[.int .i64 c.base, .int .i64 c.top, .bool c.tag, .int .i64 c.base, .int .i64 c.top, .int .i64 c.at', .int .i64 c.perms, .int .i64 c.ty] 100)) := Lib.hid ((hE.block _ (by simp)).trans hv)
  have E12 : Hid (Ext w1 w2) := Lib.hid ((Ext.alloc (Below.refl _ w1) _).then hE)
  have E2 : Hid (Ext w w2) := Lib.hid (E1.out.then E12.out)
  clear hE hv
  obtain ⟨z0, z1, z2, z3, z4, z5⟩ := lie6' hr1.out E12.out
  have hlt := cell_lt z0
  simp only at hlt
  cases hs : (addrB c.base && addrB c.top) with
  | false =>
    have hr : r = false := by rw [HR.out]; unfold rightC; simp [hs]
    subst hr
    go_wp2_with fail
    go_ret
    exact ⟨rfl, (by repeat first | (with_reducible exact Below.refl _ _) | (with_reducible apply Ext.alloc) | (with_reducible apply Ext.drew) | (with_reducible apply Ext.drewN) | (with_reducible refine Ext.set ?_ (by simp)) | (with_reducible refine Ext.then ?_ E2.out))⟩
  | true =>
    have hs12 : addrB c.base = true ∧ addrB c.top = true := by simpa using hs
    obtain ⟨hs1, hs2⟩ := hs12
    by_cases k1 : 0 ≤ c.at'
    · by_cases k2 : c.at' ≤ 4294967295
      · have ha : addrB c.at' = true := by unfold addrB; simp [k1, k2]
        go_wp2_with fail
        refine (HP.out c.perms w2 hw.perms).mono ?_
        rintro e w3 ⟨rfl, hE⟩
        have V3 := Lib.hid ((hE.block _ (Array.getElem?_eq_some_iff.1 V2.out).1).trans V2.out)
        have E3 : Hid (Ext w w3) := Lib.hid (E2.out.then hE)
        obtain ⟨z0, z1, z2, z3, z4, z5⟩ := lie6' hr1.out (E12.out.then hE)
        have hlt := cell_lt z0
        simp only at hlt
        have v0 := cellAt V3.out 0 _ rfl
        have v1 := cellAt V3.out 1 _ rfl
        have v2 := cellAt V3.out 2 _ rfl
        have hltv := cell_lt v0
        simp only at hltv
        clear hE
        cases hp : permB c.perms with
        | false =>
          have hr : r = false := by rw [HR.out]; unfold rightC; simp [hs1, hs2, ha, hp]
          subst hr
          go_wp2_with fail
          go_ret
          exact ⟨rfl, (by repeat first | (with_reducible exact Below.refl _ _) | (with_reducible apply Ext.alloc) | (with_reducible apply Ext.drew) | (with_reducible apply Ext.drewN) | (with_reducible refine Ext.set ?_ (by simp)) | (with_reducible refine Ext.then ?_ E3.out))⟩
        | true =>
          by_cases k3 : 0 ≤ c.ty
          · by_cases k4 : c.ty ≤ 255
            · cases ht : c.tag with
              | false =>
                rw [ht] at v2
                have hr : r = true := by rw [HR.out]; unfold rightC; simp [hs1, hs2, ha, hp, k3, k4, ht]
                subst hr
                go_wp2_with fail
                go_ret
                exact ⟨rfl, (by repeat first | (with_reducible exact Below.refl _ _) | (with_reducible apply Ext.alloc) | (with_reducible apply Ext.drew) | (with_reducible apply Ext.drewN) | (with_reducible refine Ext.set ?_ (by simp)) | (with_reducible refine Ext.then ?_ E3.out))⟩
              | true =>
                rw [ht] at v2
                have hb : 0 ≤ c.base := by
                  simp only [Bool.and_eq_true] at hs
                  have := hs.1
                  unfold addrB at this
                  simp only [Bool.and_eq_true, decide_eq_true_eq] at this
                  exact this.1
                have hr : r = (decide (0 ≤ c.base) && decide (c.base ≤ c.top) && decide (c.top ≤ 16777216)) := by rw [HR.out]; unfold rightC; simp [hs1, hs2, ha, hp, k3, k4, ht, hb]
                have HRF := Lib.hid hr
                clear hr
                go_wp2_with fail
                refine (spanHas_any 0 16777216 c.base c.top _ r HRF).mono ?_
                rintro e w4 ⟨rfl, hE⟩
                go_wp2_with fail
                go_ret
                exact ⟨rfl, (Ext.alloc E3.out _).then hE⟩
            · skip
              have hr : r = false := by rw [HR.out]; unfold rightC; simp [hs1, hs2, ha, hp, k3, k4]
              subst hr
              go_wp2_with fail
              go_ret
              exact ⟨rfl, (by repeat first | (with_reducible exact Below.refl _ _) | (with_reducible apply Ext.alloc) | (with_reducible apply Ext.drew) | (with_reducible apply Ext.drewN) | (with_reducible refine Ext.set ?_ (by simp)) | (with_reducible refine Ext.then ?_ E3.out))⟩
          · skip
            have hr : r = false := by rw [HR.out]; unfold rightC; simp [hs1, hs2, ha, hp, k3]
            subst hr
            go_wp2_with fail
            go_ret
            exact ⟨rfl, (by repeat first | (with_reducible exact Below.refl _ _) | (with_reducible apply Ext.alloc) | (with_reducible apply Ext.drew) | (with_reducible apply Ext.drewN) | (with_reducible refine Ext.set ?_ (by simp)) | (with_reducible refine Ext.then ?_ E3.out))⟩
      · skip
        have hr : r = false := by rw [HR.out]; unfold rightC; simp [hs1, hs2, addrB, k1, k2]
        subst hr
        go_wp2_with fail
        go_ret
        exact ⟨rfl, (by repeat first | (with_reducible exact Below.refl _ _) | (with_reducible apply Ext.alloc) | (with_reducible apply Ext.drew) | (with_reducible apply Ext.drewN) | (with_reducible refine Ext.set ?_ (by simp)) | (with_reducible refine Ext.then ?_ E2.out))⟩
    · skip
      have hr : r = false := by rw [HR.out]; unfold rightC; simp [hs1, hs2, addrB, k1]
      subst hr
      go_wp2_with fail
      go_ret
      exact ⟨rfl, (by repeat first | (with_reducible exact Below.refl _ _) | (with_reducible apply Ext.alloc) | (with_reducible apply Ext.drew) | (with_reducible apply Ext.drewN) | (with_reducible refine Ext.set ?_ (by simp)) | (with_reducible refine Ext.then ?_ E2.out))⟩
end Go.Proofs.Ytpjlhkepdiajjaa

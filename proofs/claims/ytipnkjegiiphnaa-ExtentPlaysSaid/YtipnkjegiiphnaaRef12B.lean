/- Package seizinref12: Runs, Most. -/
import Derived.Test.YtipnkjegiiphnaaRef12
import Derived.Test.YtipnkjegiiphnaaTwo12
set_option linter.all false
namespace Go.Proofs.Ytipnkjegiiphnaa
open Go.RowKit

theorem lit_one (W : World) (x : Run) (k : Nat) (hk : k = W.heap.size := by rfl) : Arr ((W.alloc (.cells (cell2 x).toArray 38)).drew) (some ⟨k, 0, none⟩) (cell2 x) := by
  subst hk
  refine .inr ⟨_, 0, rfl, fun j hj => ?_⟩
  have h : ((W.alloc (.cells (cell2 x).toArray 38)).drew).heap[W.heap.size]? = some (.cells (cell2 x).toArray 38) := heap_alloc_new W _
  rw [cell_of_row _ _ _ _ _ _ h]
  simp
attribute [local go_sem] seen dstOf boolOf
set_option maxHeartbeats 4000000 in
theorem ref_runs (q : Nat) (a : Int) (g : Nat) (F : List Bool) (R : List Run) (w : World) (h : RefAt w q a g F) (hR : Rep a F R) (ha : 0 ≤ a) (hb : a + 16 * F.length ≤ 16777216) :
    Calls Try.prog 21 #[.pointer (some ⟨q, 0, none⟩)] w (Gives w 38 2 R.length (rowC R)) := by
  obtain ⟨i0, hi, hz0, hz1, hz2⟩ := info_parts infoPair
  have hRl := wf_len hR.wf (by omega)
  have HR := Lib.hid hR
  have H := Lib.hid h
  clear h hR
  go_enter Try.func21, Try.ntmps21
  go_wp2_with fail
  go_loopw [3, 4] (fun v i wr => ∃ i' m : Nat, i' ≤ F.length + 1 ∧ i = .int .i64 (i' : Int) ∧ wr.ownsRow w.heap.size 38 2 v m (rowC (R.take m)) ∧ Hid (Seen a R i' m) ∧ Ext w wr) (fun _ i _ => F.length + 1 - (intOf i).toNat)
  case atStart => exact ⟨0, 0, Nat.zero_le _, rfl, World.ownsRow_nil _ _ _ _, Lib.hid (seen_start HR.out), Below.refl _ _⟩
  case round =>
    obtain ⟨i', m, hi', rfl, hrow, hS, hE⟩ := hrel
    obtain ⟨wo, rfl⟩ : ∃ wo : World, wo = wr := ⟨_, rfl⟩
    have hA := H.out.ext hE
    have c0 := hA.c0
    have c1 := hA.c1
    have HA := Lib.hid hA
    clear hA
    by_cases hlt : i' < F.length
    · have x0 := HA.out.at hlt
      obtain ⟨b, hbv⟩ : ∃ b, b = F[i'] := ⟨_, rfl⟩
      rw [← hbv] at x0
      have HB := Lib.hid hbv
      clear hbv
      cases b with
      | false =>
        go_wp2_with fail
        exact ⟨⟨i' + 1, m, by omega, by simp, hrow, Lib.hid (seen_skip HR.out hS.out hlt HB.out.symm), hE⟩, by simp [intOf]; omega⟩
      | true =>
        obtain ⟨hm, hm1⟩ := seen_run HR.out hS.out hlt HB.out.symm
        have hm2 := (HR.out.wf.2 R[m] (List.getElem_mem hm)).2.1
        have HM1 := Lib.hid hm1
        have hS9 := hS
        have hw1 : IntKind.i64.wrap (16 * (i' : Int)) = 16 * i' := IntWalk.i64_in _ (by omega)
        have hw2 : IntKind.i64.wrap (a + 16 * (i' : Int)) = R[m].1 := by rw [hm1]; exact IntWalk.i64_in _ (by omega)
        clear hm1
        go_wp2_with fail
        go_loopw [5] (fun k wr => ∃ k' : Nat, i' ≤ k' ∧ k' ≤ F.length ∧ k = .int .i64 (k' : Int) ∧ a + 16 * (k' : Int) ≤ R[m].2 ∧ wo = wr) (fun k _ => F.length - (intOf k).toNat)
        case atStart => exact ⟨i', Nat.le_refl _, by omega, rfl, by have := HM1.out; omega, rfl⟩
        case round =>
          obtain ⟨k', hk1, hk2, rfl, hk3, rfl⟩ := hrel
          by_cases hkl : k' < F.length
          · have x1 := HA.out.at hkl
            obtain ⟨o1, o2⟩ := run_on HR.out hm (by have := HM1.out; omega) hk3 hkl
            obtain ⟨b, hbv⟩ : ∃ b, b = F[k'] := ⟨_, rfl⟩
            rw [← hbv] at x1 o1 o2
            clear hbv
            cases b with
            | true =>
              have o3 := o1 rfl
              clear o1 o2
              go_wp2_with fail
              exact ⟨⟨k' + 1, by omega, hkl, by simp, by simpa using o3, trivial⟩, by simp [intOf]; omega⟩
            | false =>
              have o3 := o2 rfl
              clear o1 o2
              have HE := Lib.hid o3
              have hw3 : IntKind.i64.wrap (16 * (k' : Int)) = 16 * k' := IntWalk.i64_in _ (by omega)
              have hw4 : IntKind.i64.wrap (a + 16 * (k' : Int)) = R[m].2 := by rw [o3]; exact IntWalk.i64_in _ (by omega)
              clear o3
              go_wp2_with fail
              refine wp_region_stage (fun _ _ : World => True) [16, 17, 18] [(fun (_ : Nat → Value) (W : World) => W = wo.drew), (fun (_ : Nat → Value) (W : World) => W = (wo.alloc (.cells (cell2 R[m]).toArray 38)).drew), (fun (uu : Nat → Value) (W : World) => W.ownsRow w.heap.size 38 2 (uu 17) (m + 1) (rowC (R.take (m + 1))) ∧ Ext w W), (fun (uu : Nat → Value) (W : World) => W.ownsRow w.heap.size 38 2 (uu 18) (m + 1) (rowC (R.take (m + 1))) ∧ Ext w W)] [42, 43, 44, 45, 46, 47, 48, 49, 50, 51, 52, 53, 54, 55, 56, 57, 58, 59, 3] (by kernel_rfl) (fun _ => trivial) (fun _ _ _ _ _ => trivial) (by kernel_rfl) (by kernel_rfl) (by kernel_rfl) ?start ?_
              case start => rfl
              apply ex_is; apply Exists.intro
              apply ex_is; apply Exists.intro
              apply ex_is; apply Exists.intro
              apply ex_is; apply Exists.intro
              apply ex_is; apply Exists.intro
              apply ex_is; apply Exists.intro
              apply ex_is; apply Exists.intro
              apply ex_is; apply Exists.intro
              apply ex_is; apply Exists.intro
              apply ex_is; apply Exists.intro
              apply ex_is; apply Exists.intro
              apply ex_is; apply Exists.intro
              apply ex_is; apply Exists.intro
              apply ex_is; apply Exists.intro
              apply ex_is; apply Exists.intro
              apply ex_is; apply Exists.intro
              apply ex_is; apply Exists.intro
              refine ex_phi (fun _ _ => True) ?_
              refine ex_phi (fun _ _ => True) ?_
              refine ⟨[], ⟨?steps, ?stab, ?ends⟩⟩
              case steps =>
                refine And.intro (stepC_pure (fun _ => trivial) (by kernel_rfl) ?_) ?_
                · intro act W hR hf ho K hK
                  have G : act.tmps[3]?.getD undef = _ ∧ True := ho
                  obtain ⟨g3, -⟩ := G
                  clear ho hf
                  go_simp
                  exact hK _ (Eq.refl _)
                refine And.intro (stepC_pure (fun _ => trivial) (by kernel_rfl) ?_) ?_
                · intro act W hR hf ho K hK
                  have G : act.tmps[0]?.getD undef = _ ∧ True := ho
                  obtain ⟨g0, -⟩ := G
                  clear ho hf
                  go_simp
                  exact hK _ (Eq.refl _)
                refine And.intro (stepC_pure (fun _ => trivial) (by kernel_rfl) ?_) ?_
                · intro act W hR hf ho K hK
                  have F : act.tmps[43]?.getD undef = _ ∧ True := hf
                  obtain ⟨f1, -⟩ := F
                  clear ho hf
                  go_simp
                  exact hK _ (Eq.refl _)
                refine And.intro (stepC_pure (fun _ => trivial) (by kernel_rfl) ?_) ?_
                · intro act W hR hf ho K hK
                  have F : act.tmps[44]?.getD undef = _ ∧ True := hf
                  obtain ⟨f2, -⟩ := F
                  clear ho hf
                  go_simp
                  exact hK _ (Eq.refl _)
                refine And.intro (stepC_stay (pss := [[16], [17]]) (by kernel_rfl) rfl 0 [] [15, 7, 4] (by kernel_rfl) (by kernel_rfl) ?_) ?_
                · intro act W uu hu hR hS hf ho K hK
                  replace hS : (fun (_ : Nat → Value) (W : World) => W = wo.drew) uu W := hS
                  replace hK := fun (v : Value) (w' : World) (h1 : (fun _ _ : World => True) W w') h2 (h3 : (fun (_ : Nat → Value) (W : World) => W = wo.drew) uu w') => hK v w' h1 h2 h3
                  have F : act.tmps[45]?.getD undef = _ ∧ True := hf
                  obtain ⟨f3, -⟩ := F
                  clear hu
                  clear ho hf
                  obtain rfl := hS
                  go_simp
                  exact hK _ _ trivial (Eq.refl _) rfl
                refine And.intro (stepC_pure (fun _ => trivial) (by kernel_rfl) ?_) ?_
                · intro act W hR hf ho K hK
                  have G : act.tmps[4]?.getD undef = _ ∧ True := ho
                  obtain ⟨g4, -⟩ := G
                  clear ho hf
                  go_simp
                  exact hK _ (Eq.refl _)
                refine And.intro (stepC_pure (fun _ => trivial) (by kernel_rfl) ?_) ?_
                · intro act W hR hf ho K hK
                  have F : act.tmps[47]?.getD undef = _ ∧ True := hf
                  obtain ⟨f5, -⟩ := F
                  clear ho hf
                  go_simp
                  exact hK _ (Eq.refl _)
                refine And.intro (stepC_pure (fun _ => trivial) (by kernel_rfl) ?_) ?_
                · intro act W hR hf ho K hK
                  have F : act.tmps[46]?.getD undef = _ ∧ act.tmps[48]?.getD undef = _ ∧ True := hf
                  obtain ⟨f4, f6, -⟩ := F
                  clear ho hf
                  go_simp
                  exact hK _ (Eq.refl _)
                refine And.intro (stepC_pure (fun _ => trivial) (by kernel_rfl) ?_) ?_
                · intro act W hR hf ho K hK
                  have G : act.tmps[0]?.getD undef = _ ∧ True := ho
                  obtain ⟨g0, -⟩ := G
                  clear ho hf
                  go_simp
                  exact hK _ (Eq.refl _)
                refine And.intro (stepC_pure (fun _ => trivial) (by kernel_rfl) ?_) ?_
                · intro act W hR hf ho K hK
                  have F : act.tmps[50]?.getD undef = _ ∧ True := hf
                  obtain ⟨f8, -⟩ := F
                  clear ho hf
                  go_simp
                  exact hK _ (Eq.refl _)
                refine And.intro (stepC_pure (fun _ => trivial) (by kernel_rfl) ?_) ?_
                · intro act W hR hf ho K hK
                  have F : act.tmps[51]?.getD undef = _ ∧ True := hf
                  obtain ⟨f9, -⟩ := F
                  clear ho hf
                  go_simp
                  exact hK _ (Eq.refl _)
                refine And.intro (stepC_stay (pss := [[16], [17]]) (by kernel_rfl) rfl 0 [] [15, 14, 11] (by kernel_rfl) (by kernel_rfl) ?_) ?_
                · intro act W uu hu hR hS hf ho K hK
                  replace hS : (fun (_ : Nat → Value) (W : World) => W = wo.drew) uu W := hS
                  replace hK := fun (v : Value) (w' : World) (h1 : (fun _ _ : World => True) W w') h2 (h3 : (fun (_ : Nat → Value) (W : World) => W = wo.drew) uu w') => hK v w' h1 h2 h3
                  have F : act.tmps[52]?.getD undef = _ ∧ True := hf
                  obtain ⟨f10, -⟩ := F
                  clear hu
                  clear ho hf
                  obtain rfl := hS
                  go_simp
                  exact hK _ _ trivial (Eq.refl _) rfl
                refine And.intro (stepC_pure (fun _ => trivial) (by kernel_rfl) ?_) ?_
                · intro act W hR hf ho K hK
                  have G : act.tmps[5]?.getD undef = _ ∧ True := ho
                  obtain ⟨g5, -⟩ := G
                  clear ho hf
                  go_simp
                  exact hK _ (Eq.refl _)
                refine And.intro (stepC_pure (fun _ => trivial) (by kernel_rfl) ?_) ?_
                · intro act W hR hf ho K hK
                  have F : act.tmps[54]?.getD undef = _ ∧ True := hf
                  obtain ⟨f12, -⟩ := F
                  clear ho hf
                  go_simp
                  exact hK _ (Eq.refl _)
                refine And.intro (stepC_pure (fun _ => trivial) (by kernel_rfl) ?_) ?_
                · intro act W hR hf ho K hK
                  have F : act.tmps[53]?.getD undef = _ ∧ act.tmps[55]?.getD undef = _ ∧ True := hf
                  obtain ⟨f11, f13, -⟩ := F
                  clear ho hf
                  go_simp
                  exact hK _ (Eq.refl _)
                refine And.intro (stepC_pure (fun _ => trivial) (by kernel_rfl) ?_) ?_
                · intro act W hR hf ho K hK
                  have F : act.tmps[49]?.getD undef = _ ∧ act.tmps[56]?.getD undef = _ ∧ True := hf
                  obtain ⟨f7, f14, -⟩ := F
                  clear ho hf
                  go_simp
                  exact hK _ (Eq.refl _)
                refine And.intro (stepC_mark (pss := [[16], [17]]) (by kernel_rfl) (by decide) rfl 0 [] (by kernel_rfl) rfl ?_) ?_
                · intro act W uu hu hR hS hf ho K hK
                  replace hS : (fun (_ : Nat → Value) (W : World) => W = wo.drew) uu W := hS
                  replace hK := fun (v : Value) (w' : World) (h1 : (fun _ _ : World => True) W w') h2 (h3 : (fun (_ : Nat → Value) (W : World) => W = (wo.alloc (.cells (cell2 R[m]).toArray 38)).drew) (upd uu 16 v) w') => hK v w' h1 h2 h3
                  have F : act.tmps[57]?.getD undef = _ ∧ True := hf
                  obtain ⟨f15, -⟩ := F
                  clear hu
                  clear ho hf
                  go_simp
                  subst hS; exact hK _ _ trivial (Eq.refl _) rfl
                refine And.intro (stepC_mark (pss := [[16], [17]]) (by kernel_rfl) (by decide) rfl 1 [16] (by kernel_rfl) rfl ?_) ?_
                · intro act W uu hu hR hS hf ho K hK
                  replace hS : (fun (_ : Nat → Value) (W : World) => W = (wo.alloc (.cells (cell2 R[m]).toArray 38)).drew) uu W := hS
                  replace hK := fun (v : Value) (w' : World) (h1 : (fun _ _ : World => True) W w') h2 (h3 : (fun (uu : Nat → Value) (W : World) => W.ownsRow w.heap.size 38 2 (uu 17) (m + 1) (rowC (R.take (m + 1))) ∧ Ext w W) (upd uu 17 v) w') => hK v w' h1 h2 h3
                  have F : act.tmps[42]?.getD undef = _ ∧ act.tmps[58]?.getD undef = _ ∧ True := hf
                  obtain ⟨f0, f16, -⟩ := F
                  clear hu
                  clear ho hf
                  dsimp only [Option.elim] at f0
                  dsimp only [Option.elim] at f16
                  subst hS; rw [← seen_eq]; refine step_append_src _ rfl (.tmp 42) (.tmp 58) 35 rfl w.heap.size 38 i0 (.agg #[.int .i64 0, .int .i64 0]) 2 16 Try.underlying35 hi hz0 hz1 hz2 rfl (by decide) _ _ _ (eval_get f0) (own_ext hrow (by repeat first | (with_reducible exact Below.refl _ _) | (with_reducible apply Ext.alloc) | (with_reducible apply Ext.drew) | (with_reducible apply Ext.drewN) | (with_reducible refine Ext.set ?_ (by simp)))) _ 1 (cell2 R[m]) (eval_get f16) (Lies.arr (lit_one wo R[m] _)) rfl (by simp [Value.oneCell']) (by unfold maxLen; omega) (by omega) (by have := hE.size; simp; omega) ?_; intro v' w' ho hg _; exact hK _ _ trivial trivial ⟨by rw [rowC_succ hm]; exact ho, Below.grown (hE.then (by repeat first | (with_reducible exact Below.refl _ _) | (with_reducible apply Ext.alloc) | (with_reducible apply Ext.drew) | (with_reducible apply Ext.drewN) | (with_reducible refine Ext.set ?_ (by simp)))) hg (by have := hE.size; simp; omega) (fun q hq => (row_lt hrow hq).1)⟩
                refine And.intro (stepC_mark (pss := [[16], [17]]) (by kernel_rfl) (by decide) rfl 2 [17] (by kernel_rfl) rfl ?_) ?_
                · intro act W uu hu hR hS hf ho K hK
                  replace hS : (fun (uu : Nat → Value) (W : World) => W.ownsRow w.heap.size 38 2 (uu 17) (m + 1) (rowC (R.take (m + 1))) ∧ Ext w W) uu W := hS
                  replace hK := fun (v : Value) (w' : World) (h1 : (fun _ _ : World => True) W w') h2 (h3 : (fun (uu : Nat → Value) (W : World) => W.ownsRow w.heap.size 38 2 (uu 18) (m + 1) (rowC (R.take (m + 1))) ∧ Ext w W) (upd uu 18 v) w') => hK v w' h1 h2 h3
                  have F : (fun _ _ => True) (act.tmps[59]?.getD undef) W ∧ (fun _ _ => True) (act.tmps[59]?.getD undef) W ∧ act.tmps[42]?.getD undef = _ ∧ act.tmps[43]?.getD undef = _ ∧ act.tmps[44]?.getD undef = _ ∧ act.tmps[45]?.getD undef = _ ∧ act.tmps[46]?.getD undef = _ ∧ act.tmps[47]?.getD undef = _ ∧ act.tmps[48]?.getD undef = _ ∧ act.tmps[49]?.getD undef = _ ∧ act.tmps[50]?.getD undef = _ ∧ act.tmps[51]?.getD undef = _ ∧ act.tmps[52]?.getD undef = _ ∧ act.tmps[53]?.getD undef = _ ∧ act.tmps[54]?.getD undef = _ ∧ act.tmps[55]?.getD undef = _ ∧ act.tmps[56]?.getD undef = _ ∧ act.tmps[57]?.getD undef = _ ∧ act.tmps[58]?.getD undef = _ ∧ (fun _ _ => True) (act.tmps[59]?.getD undef) W ∧ True := hf
                  obtain ⟨f17, -, f0, f1, f2, f3, f4, f5, f6, f7, f8, f9, f10, f11, f12, f13, f14, f15, f16, -, -⟩ := F
                  have f17 : act.tmps[59]?.getD undef = uu 17 := by rw [hu]; rfl
                  clear hu
                  clear ho hf
                  go_simp
                  exact hK _ _ trivial trivial hS
                exact trivial
              case stab =>
                refine And.intro is_stable ?_
                refine And.intro is_stable ?_
                refine And.intro is_stable ?_
                refine And.intro is_stable ?_
                refine And.intro is_stable ?_
                refine And.intro is_stable ?_
                refine And.intro is_stable ?_
                refine And.intro is_stable ?_
                refine And.intro is_stable ?_
                refine And.intro is_stable ?_
                refine And.intro is_stable ?_
                refine And.intro is_stable ?_
                refine And.intro is_stable ?_
                refine And.intro is_stable ?_
                refine And.intro is_stable ?_
                refine And.intro is_stable ?_
                refine And.intro is_stable ?_
                refine And.intro (fun _ _ _ h _ => h) ?_
                refine And.intro (fun _ _ _ h _ => h) ?_
                exact trivial
              case ends =>
                intro vals W uu hu hR hS hall
                replace hS : (fun (uu : Nat → Value) (W : World) => W.ownsRow w.heap.size 38 2 (uu 18) (m + 1) (rowC (R.take (m + 1))) ∧ Ext w W) uu W := hS
                have e59 : vals 59 = uu 17 := by rw [hu]; rfl
                have e3 : vals 3 = uu 18 := by rw [hu]; rfl
                clear hu
                clear hall
                simp only [fill, List.setIfInBounds_toArray, List.set_cons_succ, List.set_cons_zero, e59, e3]
                obtain ⟨ho3, hE3⟩ := hS
                go_wp2_with fail
                exact ⟨⟨k' + 1, m + 1, by omega, by simp, ho3, Lib.hid (seen_took HR.out hS9.out hm HE.out (by omega)), hE3⟩, by simp [intOf]; omega⟩
          · obtain rfl : k' = F.length := by omega
            have HE := Lib.hid (run_end HR.out hm hk3 rfl)
            have hw3 : IntKind.i64.wrap (16 * (F.length : Int)) = 16 * F.length := IntWalk.i64_in _ (by omega)
            have hw4 : IntKind.i64.wrap (a + 16 * (F.length : Int)) = R[m].2 := by rw [HE.out]; exact IntWalk.i64_in _ (by omega)
            go_wp2_with fail
            refine wp_region_stage (fun _ _ : World => True) [16, 17, 18] [(fun (_ : Nat → Value) (W : World) => W = wo.drew), (fun (_ : Nat → Value) (W : World) => W = (wo.alloc (.cells (cell2 R[m]).toArray 38)).drew), (fun (uu : Nat → Value) (W : World) => W.ownsRow w.heap.size 38 2 (uu 17) (m + 1) (rowC (R.take (m + 1))) ∧ Ext w W), (fun (uu : Nat → Value) (W : World) => W.ownsRow w.heap.size 38 2 (uu 18) (m + 1) (rowC (R.take (m + 1))) ∧ Ext w W)] [42, 43, 44, 45, 46, 47, 48, 49, 50, 51, 52, 53, 54, 55, 56, 57, 58, 59, 3] (by kernel_rfl) (fun _ => trivial) (fun _ _ _ _ _ => trivial) (by kernel_rfl) (by kernel_rfl) (by kernel_rfl) ?start ?_
            case start => rfl
            apply ex_is; apply Exists.intro
            apply ex_is; apply Exists.intro
            apply ex_is; apply Exists.intro
            apply ex_is; apply Exists.intro
            apply ex_is; apply Exists.intro
            apply ex_is; apply Exists.intro
            apply ex_is; apply Exists.intro
            apply ex_is; apply Exists.intro
            apply ex_is; apply Exists.intro
            apply ex_is; apply Exists.intro
            apply ex_is; apply Exists.intro
            apply ex_is; apply Exists.intro
            apply ex_is; apply Exists.intro
            apply ex_is; apply Exists.intro
            apply ex_is; apply Exists.intro
            apply ex_is; apply Exists.intro
            apply ex_is; apply Exists.intro
            refine ex_phi (fun _ _ => True) ?_
            refine ex_phi (fun _ _ => True) ?_
            refine ⟨[], ⟨?steps, ?stab, ?ends⟩⟩
            case steps =>
              refine And.intro (stepC_pure (fun _ => trivial) (by kernel_rfl) ?_) ?_
              · intro act W hR hf ho K hK
                have G : act.tmps[3]?.getD undef = _ ∧ True := ho
                obtain ⟨g3, -⟩ := G
                clear ho hf
                go_simp
                exact hK _ (Eq.refl _)
              refine And.intro (stepC_pure (fun _ => trivial) (by kernel_rfl) ?_) ?_
              · intro act W hR hf ho K hK
                have G : act.tmps[0]?.getD undef = _ ∧ True := ho
                obtain ⟨g0, -⟩ := G
                clear ho hf
                go_simp
                exact hK _ (Eq.refl _)
              refine And.intro (stepC_pure (fun _ => trivial) (by kernel_rfl) ?_) ?_
              · intro act W hR hf ho K hK
                have F : act.tmps[43]?.getD undef = _ ∧ True := hf
                obtain ⟨f1, -⟩ := F
                clear ho hf
                go_simp
                exact hK _ (Eq.refl _)
              refine And.intro (stepC_pure (fun _ => trivial) (by kernel_rfl) ?_) ?_
              · intro act W hR hf ho K hK
                have F : act.tmps[44]?.getD undef = _ ∧ True := hf
                obtain ⟨f2, -⟩ := F
                clear ho hf
                go_simp
                exact hK _ (Eq.refl _)
              refine And.intro (stepC_stay (pss := [[16], [17]]) (by kernel_rfl) rfl 0 [] [15, 7, 4] (by kernel_rfl) (by kernel_rfl) ?_) ?_
              · intro act W uu hu hR hS hf ho K hK
                replace hS : (fun (_ : Nat → Value) (W : World) => W = wo.drew) uu W := hS
                replace hK := fun (v : Value) (w' : World) (h1 : (fun _ _ : World => True) W w') h2 (h3 : (fun (_ : Nat → Value) (W : World) => W = wo.drew) uu w') => hK v w' h1 h2 h3
                have F : act.tmps[45]?.getD undef = _ ∧ True := hf
                obtain ⟨f3, -⟩ := F
                clear hu
                clear ho hf
                obtain rfl := hS
                go_simp
                exact hK _ _ trivial (Eq.refl _) rfl
              refine And.intro (stepC_pure (fun _ => trivial) (by kernel_rfl) ?_) ?_
              · intro act W hR hf ho K hK
                have G : act.tmps[4]?.getD undef = _ ∧ True := ho
                obtain ⟨g4, -⟩ := G
                clear ho hf
                go_simp
                exact hK _ (Eq.refl _)
              refine And.intro (stepC_pure (fun _ => trivial) (by kernel_rfl) ?_) ?_
              · intro act W hR hf ho K hK
                have F : act.tmps[47]?.getD undef = _ ∧ True := hf
                obtain ⟨f5, -⟩ := F
                clear ho hf
                go_simp
                exact hK _ (Eq.refl _)
              refine And.intro (stepC_pure (fun _ => trivial) (by kernel_rfl) ?_) ?_
              · intro act W hR hf ho K hK
                have F : act.tmps[46]?.getD undef = _ ∧ act.tmps[48]?.getD undef = _ ∧ True := hf
                obtain ⟨f4, f6, -⟩ := F
                clear ho hf
                go_simp
                exact hK _ (Eq.refl _)
              refine And.intro (stepC_pure (fun _ => trivial) (by kernel_rfl) ?_) ?_
              · intro act W hR hf ho K hK
                have G : act.tmps[0]?.getD undef = _ ∧ True := ho
                obtain ⟨g0, -⟩ := G
                clear ho hf
                go_simp
                exact hK _ (Eq.refl _)
              refine And.intro (stepC_pure (fun _ => trivial) (by kernel_rfl) ?_) ?_
              · intro act W hR hf ho K hK
                have F : act.tmps[50]?.getD undef = _ ∧ True := hf
                obtain ⟨f8, -⟩ := F
                clear ho hf
                go_simp
                exact hK _ (Eq.refl _)
              refine And.intro (stepC_pure (fun _ => trivial) (by kernel_rfl) ?_) ?_
              · intro act W hR hf ho K hK
                have F : act.tmps[51]?.getD undef = _ ∧ True := hf
                obtain ⟨f9, -⟩ := F
                clear ho hf
                go_simp
                exact hK _ (Eq.refl _)
              refine And.intro (stepC_stay (pss := [[16], [17]]) (by kernel_rfl) rfl 0 [] [15, 14, 11] (by kernel_rfl) (by kernel_rfl) ?_) ?_
              · intro act W uu hu hR hS hf ho K hK
                replace hS : (fun (_ : Nat → Value) (W : World) => W = wo.drew) uu W := hS
                replace hK := fun (v : Value) (w' : World) (h1 : (fun _ _ : World => True) W w') h2 (h3 : (fun (_ : Nat → Value) (W : World) => W = wo.drew) uu w') => hK v w' h1 h2 h3
                have F : act.tmps[52]?.getD undef = _ ∧ True := hf
                obtain ⟨f10, -⟩ := F
                clear hu
                clear ho hf
                obtain rfl := hS
                go_simp
                exact hK _ _ trivial (Eq.refl _) rfl
              refine And.intro (stepC_pure (fun _ => trivial) (by kernel_rfl) ?_) ?_
              · intro act W hR hf ho K hK
                have G : act.tmps[5]?.getD undef = _ ∧ True := ho
                obtain ⟨g5, -⟩ := G
                clear ho hf
                go_simp
                exact hK _ (Eq.refl _)
              refine And.intro (stepC_pure (fun _ => trivial) (by kernel_rfl) ?_) ?_
              · intro act W hR hf ho K hK
                have F : act.tmps[54]?.getD undef = _ ∧ True := hf
                obtain ⟨f12, -⟩ := F
                clear ho hf
                go_simp
                exact hK _ (Eq.refl _)
              refine And.intro (stepC_pure (fun _ => trivial) (by kernel_rfl) ?_) ?_
              · intro act W hR hf ho K hK
                have F : act.tmps[53]?.getD undef = _ ∧ act.tmps[55]?.getD undef = _ ∧ True := hf
                obtain ⟨f11, f13, -⟩ := F
                clear ho hf
                go_simp
                exact hK _ (Eq.refl _)
              refine And.intro (stepC_pure (fun _ => trivial) (by kernel_rfl) ?_) ?_
              · intro act W hR hf ho K hK
                have F : act.tmps[49]?.getD undef = _ ∧ act.tmps[56]?.getD undef = _ ∧ True := hf
                obtain ⟨f7, f14, -⟩ := F
                clear ho hf
                go_simp
                exact hK _ (Eq.refl _)
              refine And.intro (stepC_mark (pss := [[16], [17]]) (by kernel_rfl) (by decide) rfl 0 [] (by kernel_rfl) rfl ?_) ?_
              · intro act W uu hu hR hS hf ho K hK
                replace hS : (fun (_ : Nat → Value) (W : World) => W = wo.drew) uu W := hS
                replace hK := fun (v : Value) (w' : World) (h1 : (fun _ _ : World => True) W w') h2 (h3 : (fun (_ : Nat → Value) (W : World) => W = (wo.alloc (.cells (cell2 R[m]).toArray 38)).drew) (upd uu 16 v) w') => hK v w' h1 h2 h3
                have F : act.tmps[57]?.getD undef = _ ∧ True := hf
                obtain ⟨f15, -⟩ := F
                clear hu
                clear ho hf
                go_simp
                subst hS; exact hK _ _ trivial (Eq.refl _) rfl
              refine And.intro (stepC_mark (pss := [[16], [17]]) (by kernel_rfl) (by decide) rfl 1 [16] (by kernel_rfl) rfl ?_) ?_
              · intro act W uu hu hR hS hf ho K hK
                replace hS : (fun (_ : Nat → Value) (W : World) => W = (wo.alloc (.cells (cell2 R[m]).toArray 38)).drew) uu W := hS
                replace hK := fun (v : Value) (w' : World) (h1 : (fun _ _ : World => True) W w') h2 (h3 : (fun (uu : Nat → Value) (W : World) => W.ownsRow w.heap.size 38 2 (uu 17) (m + 1) (rowC (R.take (m + 1))) ∧ Ext w W) (upd uu 17 v) w') => hK v w' h1 h2 h3
                have F : act.tmps[42]?.getD undef = _ ∧ act.tmps[58]?.getD undef = _ ∧ True := hf
                obtain ⟨f0, f16, -⟩ := F
                clear hu
                clear ho hf
                dsimp only [Option.elim] at f0
                dsimp only [Option.elim] at f16
                subst hS; rw [← seen_eq]; refine step_append_src _ rfl (.tmp 42) (.tmp 58) 35 rfl w.heap.size 38 i0 (.agg #[.int .i64 0, .int .i64 0]) 2 16 Try.underlying35 hi hz0 hz1 hz2 rfl (by decide) _ _ _ (eval_get f0) (own_ext hrow (by repeat first | (with_reducible exact Below.refl _ _) | (with_reducible apply Ext.alloc) | (with_reducible apply Ext.drew) | (with_reducible apply Ext.drewN) | (with_reducible refine Ext.set ?_ (by simp)))) _ 1 (cell2 R[m]) (eval_get f16) (Lies.arr (lit_one wo R[m] _)) rfl (by simp [Value.oneCell']) (by unfold maxLen; omega) (by omega) (by have := hE.size; simp; omega) ?_; intro v' w' ho hg _; exact hK _ _ trivial trivial ⟨by rw [rowC_succ hm]; exact ho, Below.grown (hE.then (by repeat first | (with_reducible exact Below.refl _ _) | (with_reducible apply Ext.alloc) | (with_reducible apply Ext.drew) | (with_reducible apply Ext.drewN) | (with_reducible refine Ext.set ?_ (by simp)))) hg (by have := hE.size; simp; omega) (fun q hq => (row_lt hrow hq).1)⟩
              refine And.intro (stepC_mark (pss := [[16], [17]]) (by kernel_rfl) (by decide) rfl 2 [17] (by kernel_rfl) rfl ?_) ?_
              · intro act W uu hu hR hS hf ho K hK
                replace hS : (fun (uu : Nat → Value) (W : World) => W.ownsRow w.heap.size 38 2 (uu 17) (m + 1) (rowC (R.take (m + 1))) ∧ Ext w W) uu W := hS
                replace hK := fun (v : Value) (w' : World) (h1 : (fun _ _ : World => True) W w') h2 (h3 : (fun (uu : Nat → Value) (W : World) => W.ownsRow w.heap.size 38 2 (uu 18) (m + 1) (rowC (R.take (m + 1))) ∧ Ext w W) (upd uu 18 v) w') => hK v w' h1 h2 h3
                have F : (fun _ _ => True) (act.tmps[59]?.getD undef) W ∧ (fun _ _ => True) (act.tmps[59]?.getD undef) W ∧ act.tmps[42]?.getD undef = _ ∧ act.tmps[43]?.getD undef = _ ∧ act.tmps[44]?.getD undef = _ ∧ act.tmps[45]?.getD undef = _ ∧ act.tmps[46]?.getD undef = _ ∧ act.tmps[47]?.getD undef = _ ∧ act.tmps[48]?.getD undef = _ ∧ act.tmps[49]?.getD undef = _ ∧ act.tmps[50]?.getD undef = _ ∧ act.tmps[51]?.getD undef = _ ∧ act.tmps[52]?.getD undef = _ ∧ act.tmps[53]?.getD undef = _ ∧ act.tmps[54]?.getD undef = _ ∧ act.tmps[55]?.getD undef = _ ∧ act.tmps[56]?.getD undef = _ ∧ act.tmps[57]?.getD undef = _ ∧ act.tmps[58]?.getD undef = _ ∧ (fun _ _ => True) (act.tmps[59]?.getD undef) W ∧ True := hf
                obtain ⟨f17, -, f0, f1, f2, f3, f4, f5, f6, f7, f8, f9, f10, f11, f12, f13, f14, f15, f16, -, -⟩ := F
                have f17 : act.tmps[59]?.getD undef = uu 17 := by rw [hu]; rfl
                clear hu
                clear ho hf
                go_simp
                exact hK _ _ trivial trivial hS
              exact trivial
            case stab =>
              refine And.intro is_stable ?_
              refine And.intro is_stable ?_
              refine And.intro is_stable ?_
              refine And.intro is_stable ?_
              refine And.intro is_stable ?_
              refine And.intro is_stable ?_
              refine And.intro is_stable ?_
              refine And.intro is_stable ?_
              refine And.intro is_stable ?_
              refine And.intro is_stable ?_
              refine And.intro is_stable ?_
              refine And.intro is_stable ?_
              refine And.intro is_stable ?_
              refine And.intro is_stable ?_
              refine And.intro is_stable ?_
              refine And.intro is_stable ?_
              refine And.intro is_stable ?_
              refine And.intro (fun _ _ _ h _ => h) ?_
              refine And.intro (fun _ _ _ h _ => h) ?_
              exact trivial
            case ends =>
              intro vals W uu hu hR hS hall
              replace hS : (fun (uu : Nat → Value) (W : World) => W.ownsRow w.heap.size 38 2 (uu 18) (m + 1) (rowC (R.take (m + 1))) ∧ Ext w W) uu W := hS
              have e59 : vals 59 = uu 17 := by rw [hu]; rfl
              have e3 : vals 3 = uu 18 := by rw [hu]; rfl
              clear hu
              clear hall
              simp only [fill, List.setIfInBounds_toArray, List.set_cons_succ, List.set_cons_zero, e59, e3]
              obtain ⟨ho3, hE3⟩ := hS
              go_wp2_with fail
              exact ⟨⟨F.length + 1, m + 1, by omega, by simp, ho3, Lib.hid (seen_took HR.out hS9.out hm HE.out (by omega)), hE3⟩, by simp [intOf]; omega⟩
    · obtain rfl := seen_end HR.out hS.out (by omega)
      rw [List.take_length] at hrow
      go_wp2_with fail
      go_ret
      exact ⟨_, rfl, hrow, hE⟩
end Go.Proofs.Ytipnkjegiiphnaa

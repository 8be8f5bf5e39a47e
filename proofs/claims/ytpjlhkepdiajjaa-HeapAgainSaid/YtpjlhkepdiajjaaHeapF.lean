
/- Package heap: Free. -/
import Derived.Test.YtpjlhkepdiajjaaHeapP
import Derived.Test.YtpjlhkepdiajjaaPhi3
set_option linter.all false
namespace Go.Proofs.Ytpjlhkepdiajjaa
open Go.RowKit Go.Shelf
attribute [local go_sem] seen dstOf boolOf

set_option maxHeartbeats 2000000 in
set_option maxRecDepth 40000 in
theorem free_any (hp : Nat) (B : HeapB) (X : HeapD) (c : Cap) (w : World) (h : HeapAt w hp B X) (ok : HeapOk X) (hc : CapWf c) : Calls Try.prog 12 #[.pointer (some ⟨hp, 0, none⟩), c.val] w fun e w' => e = .returned (.int .i64 (ofD X.L c).1) ∧ ∃ B', HeapAt w' hp B' (freeD X c) ∧ HStep B B' w w' := by
  have HO := Lib.hid (of_any hp B X c (w.alloc (.cells c.cells.toArray 27)) (h.ext (by repeat first | (with_reducible exact Below.refl _ _) | (with_reducible apply Ext.alloc) | (with_reducible apply Ext.drew) | (with_reducible apply Ext.drewN) | (with_reducible refine Ext.set ?_ (by simp)))) hc ok.small)
  have HH := Lib.hid (And.intro h (And.intro ok hc))
  have hlt := h.lt
  obtain ⟨tg, bs, tp, at', pe, ty⟩ := c
  unfold freeD
  clear h ok hc
  cases hof : (ofD X.L ⟨tg, bs, tp, at', pe, ty⟩).2 with
  | none =>
    have hne : (ofD X.L ⟨tg, bs, tp, at', pe, ty⟩).1 ≠ 0 := fun e => by
      obtain ⟨l, hl⟩ := ofD_zero.1 e
      rw [hof] at hl
      cases hl
    clear hof
    obtain ⟨z, hz⟩ : ∃ z, z = (ofD X.L ⟨tg, bs, tp, at', pe, ty⟩).1 := ⟨_, rfl⟩
    rw [← hz] at hne ⊢
    have HZ := Lib.hid hz
    clear hz
    go_enter Try.func12, Try.ntmps12
    go_wp2_with fail
    refine HO.out.mono ?_
    rintro _ w1 ⟨v, rfl, h1, h2⟩
    rw [← HZ.out]
    have HE := Lib.hid ((Ext.alloc (Below.refl _ _) _).then h1)
    clear h1 h2
    go_wp2_with fail
    go_ret
    exact ⟨rfl, B, HH.out.1.ext HE.out, HStep.ext HE.out⟩
  | some l =>
    obtain ⟨s1, s2, s3, s4, s5, s6⟩ := ofD_some hof
    have HF := Lib.hid (And.intro hof (And.intro s1 (And.intro s2 (And.intro s5 s6))))
    clear hof s1 s2 s3 s4 s5 s6
    go_enter Try.func12, Try.ntmps12
    go_wp2_with fail
    refine HO.out.mono ?_
    rintro _ w1 ⟨v, rfl, h1, h2⟩
    obtain ⟨-, -, k, f, rfl, h3⟩ := h2 l HF.out.1
    rw [HF.out.2.2.2.2]
    have hbx := (h1.block w.heap.size (by simp)).trans (heap_alloc_new w _)
    have hE : Ext w w1 := (Ext.alloc (Below.refl _ _) _).then h1
    have hh := HH.out.1.ext hE
    obtain ⟨w2, hdel, hl2, hg2⟩ := (hh.live.ext (Ext.drew (Below.refl _ _))).drop HH.out.2.2.base 0
    have x10 := cellAt hh.blk 10 (.map (some B.m)) rfl
    have y1 := cellAt hbx 1 (.int .i64 bs) rfl
    have HW := Lib.hid (And.intro hE (And.intro hbx (And.intro h3 (And.intro hl2 (And.intro hg2 hh)))))
    have hk1 := cell_lt x10
    have hk2 := cell_lt y1
    simp only at hk1 hk2
    clear h1 h2 h3 hbx hE hh hl2 hg2
    go_wp2_with fail
    go_region
    have H2 : HeapAt w2 hp B { X with L := X.L.filter fun m => decide (m.at' ≠ bs) } := (HW.out.2.2.2.2.2.ext (Ext.drew (Below.refl _ _))).live' HW.out.2.2.2.2.1 HW.out.2.2.2.1
    have hbx := map_only (HW.out.2.2.2.2.2.ext (Ext.drew (Below.refl _ _))).live HW.out.2.2.2.2.1 HW.out.2.1
    have h3 := map_only (HW.out.2.2.2.2.2.ext (Ext.drew (Below.refl _ _))).live HW.out.2.2.2.2.1 HW.out.2.2.1
    have hs2 : HStep B B w w2 := (HStep.ext (Ext.drew HW.out.1)).trans (HStep.live HW.out.2.2.2.2.1)
    have H5 := Lib.hid (And.intro H2 (And.intro hbx (And.intro h3 hs2)))
    clear H2 hbx h3 hs2 hdel x10 y1 hk1 hk2
    go_wp2_with fail
    have HQ : Hid (X.Q.length ≤ 100000 ∧ 0 ≤ sumN X.Q ∧ sumN X.Q ≤ 1125899906842624 ∧ 0 ≤ bs ∧ bs ≤ 16777216 ∧ 0 ≤ l.takes ∧ l.takes ≤ 16777216 ∧ 0 ≤ X.time ∧ X.time ≤ 2199023255552 ∧ ∀ x, X.Q.getLast? = some x → x.time ≤ X.time) := by
      obtain ⟨o1, o2, o3⟩ := HH.out
      have b1 := o2.bytes
      have b2 := o2.live HF.out.2.1
      have b3 := o2.ends
      have b4 := o2.time
      have b5 := HF.out.2.2.1
      unfold mayBe at b3
      exact Lib.hid ⟨o2.lens.2.1, by omega, by omega, by omega, by omega, by omega, by omega, by omega, by omega, fun x hx => (o2.times x (List.mem_of_getLast? hx)).2⟩
    refine wp_region_stage (fun _ _ : World => True) [17] [(fun (_ : Nat → Value) (W : World) => Ext w2 W), (fun (_ : Nat → Value) (W : World) => ∃ v', QuarAt W B.q X.full (sumN X.Q + l.takes) B.bq v' (X.Q ++ [HeldD.mk bs l.takes X.time]) ∧ Kept B.q B.vq.ownBlock w2 W ∧ (v'.ownBlock = B.vq.ownBlock ∨ ∃ g, v'.ownBlock = some g ∧ w2.heap.size ≤ g))] [22, 23, 24, 25, 26, 27, 28, 29, 30, 31, 32, 33, 34, 35, 36, 37, 38, 39] (by kernel_rfl) (fun _ => trivial) (fun _ _ _ _ _ => trivial) (by kernel_rfl) (by kernel_rfl) (by kernel_rfl) ?start ?_
    case start => exact Ext.drew (Below.refl _ _)
    apply ex_is; apply Exists.intro
    apply ex_is; apply Exists.intro
    apply ex_is; apply Exists.intro
    apply ex_is; apply Exists.intro
    apply ex_is; apply Exists.intro
    apply ex_is; apply Exists.intro
    apply ex_is; apply Exists.intro
    apply ex_is; apply Exists.intro
    apply ex_is; apply Exists.intro
    apply ex_is; apply Exists.intro
    apply ex_is; apply Exists.intro
    apply ex_is; apply Exists.intro
    apply ex_is; apply Exists.intro
    apply ex_is; apply Exists.intro
    apply ex_is; apply Exists.intro
    apply ex_is; apply Exists.intro
    apply ex_is; apply Exists.intro
    apply ex_is; apply Exists.intro
    refine ⟨[], ⟨?steps, ?stab, ?ends⟩⟩
    case steps =>
      refine And.intro (stepC_pure (fun _ => trivial) (by kernel_rfl) ?_) ?_
      · intro act W hR hf ho K hK
        have G : act.tmps[0]?.getD undef = _ ∧ True := ho
        obtain ⟨g0, -⟩ := G
        clear ho hf
        go_simp
        exact hK _ (Eq.refl _)
      refine And.intro (stepC_pure (fun _ => trivial) (by kernel_rfl) ?_) ?_
      · intro act W hR hf ho K hK
        have F : act.tmps[22]?.getD undef = _ ∧ True := hf
        obtain ⟨f0, -⟩ := F
        clear ho hf
        go_simp
        exact hK _ (Eq.refl _)
      refine And.intro (stepC_pure (fun _ => trivial) (by kernel_rfl) ?_) ?_
      · intro act W hR hf ho K hK
        have F : act.tmps[23]?.getD undef = _ ∧ True := hf
        obtain ⟨f1, -⟩ := F
        clear ho hf
        go_simp
        exact hK _ (Eq.refl _)
      refine And.intro (stepC_stay (pss := []) (by kernel_rfl) rfl 0 [] [3] (by kernel_rfl) (by kernel_rfl) ?_) ?_
      · intro act W uu hu hR hS hf ho K hK
        replace hS : (fun (_ : Nat → Value) (W : World) => Ext w2 W) uu W := hS
        replace hK := fun (v : Value) (w' : World) (h1 : (fun _ _ : World => True) W w') h2 (h3 : (fun (_ : Nat → Value) (W : World) => Ext w2 W) uu w') => hK v w' h1 h2 h3
        have F : act.tmps[24]?.getD undef = _ ∧ True := hf
        obtain ⟨f2, -⟩ := F
        clear hu
        clear ho hf
        have q9 := cellAt (H5.out.1.ext hS).blk 9 (.pointer (some ⟨B.q, 0, none⟩)) rfl
        go_simp
        exact hK _ _ trivial (Eq.refl _) hS
      refine And.intro (stepC_pure (fun _ => trivial) (by kernel_rfl) ?_) ?_
      · intro act W hR hf ho K hK
        have G : act.tmps[3]?.getD undef = _ ∧ True := ho
        obtain ⟨g3, -⟩ := G
        clear ho hf
        go_simp
        exact hK _ (Eq.refl _)
      refine And.intro (stepC_stay (pss := []) (by kernel_rfl) rfl 0 [] [16, 5] (by kernel_rfl) (by kernel_rfl) ?_) ?_
      · intro act W uu hu hR hS hf ho K hK
        replace hS : (fun (_ : Nat → Value) (W : World) => Ext w2 W) uu W := hS
        replace hK := fun (v : Value) (w' : World) (h1 : (fun _ _ : World => True) W w') h2 (h3 : (fun (_ : Nat → Value) (W : World) => Ext w2 W) uu w') => hK v w' h1 h2 h3
        have F : act.tmps[26]?.getD undef = _ ∧ True := hf
        obtain ⟨f4, -⟩ := F
        clear hu
        clear ho hf
        have q1 := ext_cell hS _ _ (cellAt H5.out.2.1 1 (.int .i64 bs) rfl)
        go_simp
        exact hK _ _ trivial (Eq.refl _) hS
      refine And.intro (stepC_pure (fun _ => trivial) (by kernel_rfl) ?_) ?_
      · intro act W hR hf ho K hK
        have G : act.tmps[5]?.getD undef = _ ∧ True := ho
        obtain ⟨g5, -⟩ := G
        clear ho hf
        go_simp
        exact hK _ (Eq.refl _)
      refine And.intro (stepC_pure (fun _ => trivial) (by kernel_rfl) ?_) ?_
      · intro act W hR hf ho K hK
        have F : act.tmps[28]?.getD undef = _ ∧ True := hf
        obtain ⟨f6, -⟩ := F
        clear ho hf
        go_simp
        exact hK _ (Eq.refl _)
      refine And.intro (stepC_pure (fun _ => trivial) (by kernel_rfl) ?_) ?_
      · intro act W hR hf ho K hK
        have F : act.tmps[29]?.getD undef = _ ∧ True := hf
        obtain ⟨f7, -⟩ := F
        clear ho hf
        go_simp
        exact hK _ (Eq.refl _)
      refine And.intro (stepC_stay (pss := []) (by kernel_rfl) rfl 0 [] [16, 9] (by kernel_rfl) (by kernel_rfl) ?_) ?_
      · intro act W uu hu hR hS hf ho K hK
        replace hS : (fun (_ : Nat → Value) (W : World) => Ext w2 W) uu W := hS
        replace hK := fun (v : Value) (w' : World) (h1 : (fun _ _ : World => True) W w') h2 (h3 : (fun (_ : Nat → Value) (W : World) => Ext w2 W) uu w') => hK v w' h1 h2 h3
        have F : act.tmps[30]?.getD undef = _ ∧ True := hf
        obtain ⟨f8, -⟩ := F
        clear hu
        clear ho hf
        have q2 := ext_cell hS _ _ (cellAt H5.out.2.2.1 1 (.int .i64 l.takes) rfl)
        go_simp
        exact hK _ _ trivial (Eq.refl _) hS
      refine And.intro (stepC_pure (fun _ => trivial) (by kernel_rfl) ?_) ?_
      · intro act W hR hf ho K hK
        have G : act.tmps[0]?.getD undef = _ ∧ True := ho
        obtain ⟨g0, -⟩ := G
        clear ho hf
        go_simp
        exact hK _ (Eq.refl _)
      refine And.intro (stepC_pure (fun _ => trivial) (by kernel_rfl) ?_) ?_
      · intro act W hR hf ho K hK
        have F : act.tmps[32]?.getD undef = _ ∧ True := hf
        obtain ⟨f10, -⟩ := F
        clear ho hf
        go_simp
        exact hK _ (Eq.refl _)
      refine And.intro (stepC_pure (fun _ => trivial) (by kernel_rfl) ?_) ?_
      · intro act W hR hf ho K hK
        have F : act.tmps[33]?.getD undef = _ ∧ True := hf
        obtain ⟨f11, -⟩ := F
        clear ho hf
        go_simp
        exact hK _ (Eq.refl _)
      refine And.intro (stepC_pure (fun _ => trivial) (by kernel_rfl) ?_) ?_
      · intro act W hR hf ho K hK
        have F : act.tmps[34]?.getD undef = _ ∧ True := hf
        obtain ⟨f12, -⟩ := F
        clear ho hf
        go_simp
        exact hK _ (Eq.refl _)
      refine And.intro (stepC_stay (pss := []) (by kernel_rfl) rfl 0 [] [15, 14] (by kernel_rfl) (by kernel_rfl) ?_) ?_
      · intro act W uu hu hR hS hf ho K hK
        replace hS : (fun (_ : Nat → Value) (W : World) => Ext w2 W) uu W := hS
        replace hK := fun (v : Value) (w' : World) (h1 : (fun _ _ : World => True) W w') h2 (h3 : (fun (_ : Nat → Value) (W : World) => Ext w2 W) uu w') => hK v w' h1 h2 h3
        have F : act.tmps[35]?.getD undef = _ ∧ True := hf
        obtain ⟨f13, -⟩ := F
        clear hu
        clear ho hf
        have q8 := cellAt (H5.out.1.ext hS).blk 8 (.pointer (some ⟨B.c, 0, none⟩)) rfl
        go_simp
        exact hK _ _ trivial (Eq.refl _) hS
      refine And.intro (stepC_stay (pss := []) (by kernel_rfl) rfl 0 [] [15] (by kernel_rfl) (by kernel_rfl) ?_) ?_
      · intro act W uu hu hR hS hf ho K hK
        replace hS : (fun (_ : Nat → Value) (W : World) => Ext w2 W) uu W := hS
        replace hK := fun (v : Value) (w' : World) (h1 : (fun _ _ : World => True) W w') h2 (h3 : (fun (_ : Nat → Value) (W : World) => Ext w2 W) uu w') => hK v w' h1 h2 h3
        have F : act.tmps[36]?.getD undef = _ ∧ True := hf
        obtain ⟨f14, -⟩ := F
        clear hu
        clear ho hf
        go_simp
        refine (now_any B.c X.time W (H5.out.1.ext hS).clk).mono ?_; rintro e W1 ⟨rfl, hE⟩; exact hK _ _ trivial (Eq.refl _) (hS.then hE)
      refine And.intro (stepC_pure (fun _ => trivial) (by kernel_rfl) ?_) ?_
      · intro act W hR hf ho K hK
        have F : act.tmps[27]?.getD undef = _ ∧ act.tmps[31]?.getD undef = _ ∧ act.tmps[37]?.getD undef = _ ∧ True := hf
        obtain ⟨f5, f9, f15, -⟩ := F
        clear ho hf
        go_simp
        exact hK _ (Eq.refl _)
      refine And.intro (stepC_mark (pss := []) (by kernel_rfl) (by decide) rfl 0 [] (by kernel_rfl) rfl ?_) ?_
      · intro act W uu hu hR hS hf ho K hK
        replace hS : (fun (_ : Nat → Value) (W : World) => Ext w2 W) uu W := hS
        replace hK := fun (v : Value) (w' : World) (h1 : (fun _ _ : World => True) W w') h2 (h3 : (fun (_ : Nat → Value) (W : World) => ∃ v', QuarAt W B.q X.full (sumN X.Q + l.takes) B.bq v' (X.Q ++ [HeldD.mk bs l.takes X.time]) ∧ Kept B.q B.vq.ownBlock w2 W ∧ (v'.ownBlock = B.vq.ownBlock ∨ ∃ g, v'.ownBlock = some g ∧ w2.heap.size ≤ g)) (upd uu 17 v) w') => hK v w' h1 h2 h3
        have F : act.tmps[25]?.getD undef = _ ∧ act.tmps[38]?.getD undef = _ ∧ act.tmps[37]?.getD undef = _ ∧ True := hf
        obtain ⟨f3, f16, f15, -⟩ := F
        clear hu
        clear ho hf
        go_simp
        have HP := put_any B.q X.full (sumN X.Q) B.bq B.vq X.Q ⟨bs, l.takes, X.time⟩ W (H5.out.1.ext hS).quar HQ.out.1 HQ.out.2.1 HQ.out.2.2.1 (Nat.le_trans H5.out.1.low (Nat.le_of_lt (H5.out.1.ext hS).quar.lt)) HQ.out.2.2.2.1 HQ.out.2.2.2.2.1 HQ.out.2.2.2.2.2.1 HQ.out.2.2.2.2.2.2.1 HQ.out.2.2.2.2.2.2.2.1 HQ.out.2.2.2.2.2.2.2.2.1 HQ.out.2.2.2.2.2.2.2.2.2; refine HP.mono ?_; rintro e W1 ⟨rfl, v', p1, p2, p3⟩; exact hK _ _ trivial (Eq.refl _) ⟨v', p1, (Kept.of_ext hS).trans p2 (.inl rfl), p3.imp id fun ⟨g, e, hg⟩ => ⟨g, e, Nat.le_trans hS.size hg⟩⟩
      exact trivial
    case stab =>
      refine And.intro is_stable ?_
      refine And.intro is_stable ?_
      refine And.intro is_stable ?_
      refine And.intro is_stable ?_
      refine And.intro is_stable ?_
      refine And.intro is_stable ?_
      refine And.intro is_stable ?_
      refine And.intro is_stable ?_
      refine And.intro is_stable ?_
      refine And.intro is_stable ?_
      refine And.intro is_stable ?_
      refine And.intro is_stable ?_
      refine And.intro is_stable ?_
      refine And.intro is_stable ?_
      refine And.intro is_stable ?_
      refine And.intro is_stable ?_
      refine And.intro is_stable ?_
      refine And.intro is_stable ?_
      exact trivial
    case ends =>
      intro vals W uu hu hR hS hall
      replace hS : (fun (_ : Nat → Value) (W : World) => ∃ v', QuarAt W B.q X.full (sumN X.Q + l.takes) B.bq v' (X.Q ++ [HeldD.mk bs l.takes X.time]) ∧ Kept B.q B.vq.ownBlock w2 W ∧ (v'.ownBlock = B.vq.ownBlock ∨ ∃ g, v'.ownBlock = some g ∧ w2.heap.size ≤ g)) uu W := hS
      clear hu
      have e39 : vals 39 = _ := hall 17 (by decide)
      clear hall
      simp only [fill, List.setIfInBounds_toArray, List.set_cons_succ, List.set_cons_zero, e39]
      obtain ⟨v', p1, p2, p3⟩ := hS
      have HP := Lib.hid (And.intro p1 (And.intro p2 p3))
      clear p1 p2 p3
      go_wp2_with fail
      go_ret
      refine ⟨by rw [HF.out.2.2.2.2]; rfl, { B with vq := v' }, ?_, H5.out.2.2.2.trans (HStep.quar HP.out.2.1 (.inr rfl) HP.out.2.2)⟩
      have e1 := HF.out.2.2.1
      have hx := H5.out.1.quar' (v' := v') (Q' := X.Q ++ [HeldD.mk bs l.takes X.time]) HP.out.2.1 (.inr rfl) (by
        have e2 : sumN (X.Q ++ [HeldD.mk bs l.takes X.time]) = sumN X.Q + l.takes := by rw [sumN_add]; simp [sumN]
        rw [e2]
        exact HP.out.1)
      rw [← e1] at hx
      simp only [ne_eq, decide_not] at hx
      exact hx
end Go.Proofs.Ytpjlhkepdiajjaa


/- Package heap: End. -/
import Derived.Test.YtpjlhkepdiajjaaHeapP
import Derived.Test.YtpjlhkepdiajjaaPhi3
import Derived.Test.YtpjlhkepdiajjaaPhiR
set_option linter.all false
namespace Go.Proofs.Ytpjlhkepdiajjaa
open Go.RowKit Go.Shelf
attribute [local go_sem] seen dstOf boolOf

theorem own_low {w : World} {base base' : Nat} {e : TypeId} {size : Nat} {v : Value} {n : Nat} {xs : List Value} (h : w.ownsRow base e size v n xs) (hb : base' ≤ base) : w.ownsRow base' e size v n xs := by
  obtain ⟨hl, h⟩ := h
  refine ⟨hl, ?_⟩
  rcases h with h | ⟨g, cap, cur, h1, h2, h3⟩
  · exact .inl h
  · exact .inr ⟨g, cap, cur, h1, Nat.le_trans hb h2, h3⟩
def DueR (U : World) (B : HeapB) (X : HeapD) (D : List HeldD) : Value → World → Prop := fun v W => ∃ A c v', v = .slice A D.length c ∧ W.ownsRow U.heap.size 79 3 v D.length (heldC D) ∧ QuarAt W B.q X.full (sumN X.Q - sumN D) B.bq v' (X.Q.drop D.length) ∧ v'.ownBlock = B.vq.ownBlock ∧ Kept B.q none U W
theorem DueR.ext {U W W' : World} {B : HeapB} {X : HeapD} {D : List HeldD} {v : Value} (h : DueR U B X D v W) (e : Ext W W') : DueR U B X D v W' := by
  obtain ⟨A, c, v', h1, h2, h3, h4, h5⟩ := h
  exact ⟨A, c, v', h1, own_ext h2 e, h3.ext e, h4, h5.trans (Kept.of_ext e) (.inl rfl)⟩
def endK (X : HeapD) (D E : List HeldD) : HeapD := { X with time := X.time + 1, Q := X.Q.drop D.length, ws := paintQ X.ws false E, R := giveQ X.root.base X.root.top X.R E }
set_option maxHeartbeats 4000000 in
set_option maxRecDepth 40000 in
theorem hend_any (hp : Nat) (B : HeapB) (X : HeapD) (w : World) (h : HeapAt w hp B X) (ok : HeapOk X) : Calls Try.prog 14 #[.pointer (some ⟨hp, 0, none⟩)] w fun e w' => e = .returned (.bool (runsB X.time)) ∧ ∃ B', HeapAt w' hp B' (endD X) ∧ HStep B B' w w' := by
  have HB := Lib.hid (end_any B.c X.time w h.clk ok.time.1 (Int.le_trans ok.time.2 (by decide)))
  have HH := Lib.hid (And.intro h ok)
  have x8 := cellAt h.blk 8 (.pointer (some ⟨B.c, 0, none⟩)) rfl
  have hlt := h.lt
  unfold endD
  clear h ok
  cases hbb : runsB X.time with
  | false =>
    rw [hbb] at HB
    go_enter Try.func14, Try.ntmps14
    go_wp2_with fail
    refine HB.out.mono ?_
    rintro _ w1 ⟨rfl, h1, h2⟩
    have H1 := Lib.hid (And.intro h1 h2)
    clear h1 h2
    go_wp2_with fail
    go_ret
    exact ⟨rfl, B, HH.out.1.clk' H1.out.2 H1.out.1, HStep.clk H1.out.2⟩
  | true =>
    rw [hbb] at HB
    go_enter Try.func14, Try.ntmps14
    go_wp2_with fail
    refine HB.out.mono ?_
    rintro _ w1 ⟨rfl, h1, h2⟩
    have hh : HeapAt w1 hp B { X with time := X.time + 1 } := HH.out.1.clk' h2 h1
    have H1 := Lib.hid (And.intro hh (HStep.clk (B := B) h2))
    clear h1 h2 hh x8
    go_wp2_with fail
    obtain ⟨D, hD⟩ : ∃ D, D = dueL (X.time + 1) X.Q := ⟨_, rfl⟩
    have hDl : D.length ≤ 100000 := by rw [hD]; exact Nat.le_trans (List.takeWhile_prefix _).length_le HH.out.2.lens.2.1
    have HD := Lib.hid hD
    clear hD
    have HQ : Hid (X.Q.length ≤ 100000 ∧ -1125899906842624 ≤ sumN X.Q ∧ sumN X.Q ≤ 1125899906842624 ∧ ∀ h ∈ X.Q, i64ok' h.time ∧ 0 ≤ h.n ∧ h.n ≤ 16777216) := by
      have b1 := HH.out.2.bytes
      refine Lib.hid ⟨HH.out.2.lens.2.1, by omega, by omega, fun h hh => ?_⟩
      have b2 := HH.out.2.kept hh
      have b3 := HH.out.2.times h hh
      have b4 := HH.out.2.time
      have b5 := HH.out.2.ends
      unfold mayBe at b5
      unfold i64ok'
      omega
    refine wp_region_res (Kept B.q none) [⟨none, [], [3, 8, 9, 10]⟩, ⟨some 10, [(10, [])], []⟩] [(fun (u : Nat → Value) (W : World) => (fun (_ : Value) (W : World) => HeapAt W hp B { X with time := X.time + 1 }) (undef) W), (fun (u : Nat → Value) (W : World) => (DueR w1 B X D) (u 10) W)] [⟨[], [.keep, .early [3, 2, 1, 0]]⟩, ⟨[], [.keep, .early [3, 2, 1]]⟩, ⟨[], [.keep, .early [3, 2]]⟩, ⟨[(0, [])], [.keep, .early [3]]⟩, ⟨[], [.keep, .early [9, 8, 7, 6, 5, 4]]⟩, ⟨[], [.keep, .early [9, 8, 7, 6, 5]]⟩, ⟨[], [.keep, .early [9, 8, 7, 6]]⟩, ⟨[], [.keep, .early [9, 8, 7]]⟩, ⟨[(0, [])], [.keep, .early [9, 8]]⟩, ⟨[(0, [])], [.keep, .early [9]]⟩, ⟨[(0, [])], [.late [[3], [9, 8], [9], []], .last]⟩, ⟨[(1, [10])], [.late [[10, 3], [10, 9, 8], [10, 9], [10]], .keep]⟩, ⟨[], [.keep, .keep]⟩] [12, 13, 14, 15, 16, 17, 18, 19, 20, 21, 22, 23, 24] (by kernel_rfl) (fun _ => Kept.of_ext (Below.refl _ _)) (fun _ _ _ h k => Kept.trans h k (.inl rfl)) (by kernel_rfl) (by kernel_rfl) (by kernel_rfl) (by kernel_rfl) (by kernel_rfl) ?start ?_
    case start =>
      refine And.intro ?_ ?_
      · exact H1.out.1.ext (Ext.drew (Below.refl _ _))
      exact trivial
    apply ex_is; apply Exists.intro
    apply ex_is; apply Exists.intro
    apply ex_is; apply Exists.intro
    apply ex_is; apply Exists.intro
    apply ex_is; apply Exists.intro
    apply ex_is; apply Exists.intro
    apply ex_is; apply Exists.intro
    apply ex_is; apply Exists.intro
    apply ex_is; apply Exists.intro
    apply ex_is; apply Exists.intro
    refine ex_phi (fun _ _ => True) ?_
    apply ex_is; apply Exists.intro
    apply ex_is; apply Exists.intro
    refine ⟨[], ⟨?steps, ?stab, ?ends⟩⟩
    case steps =>
      refine And.intro (obX_pure (fun _ => Kept.of_ext (Below.refl _ _)) ?_) ?_
      · intro act W hR hf ho hu K hK
        replace hK := fun v h2 => hK v W rfl h2 trivial
        have G : act.tmps[0]?.getD undef = _ ∧ True := ho
        obtain ⟨g0, -⟩ := G
        clear ho hf hu
        go_simp
        exact hK _ (Eq.refl _)
      refine And.intro (obX_pure (fun _ => Kept.of_ext (Below.refl _ _)) ?_) ?_
      · intro act W hR hf ho hu K hK
        replace hK := fun v h2 => hK v W rfl h2 trivial
        have F : act.tmps[12]?.getD undef = _ ∧ True := hf
        obtain ⟨f0, -⟩ := F
        clear ho hf hu
        go_simp
        exact hK _ (Eq.refl _)
      refine And.intro (obX_pure (fun _ => Kept.of_ext (Below.refl _ _)) ?_) ?_
      · intro act W hR hf ho hu K hK
        replace hK := fun v h2 => hK v W rfl h2 trivial
        have F : act.tmps[13]?.getD undef = _ ∧ True := hf
        obtain ⟨f1, -⟩ := F
        clear ho hf hu
        go_simp
        exact hK _ (Eq.refl _)
      refine And.intro (obX_pure (fun _ => Kept.of_ext (Below.refl _ _)) ?_) ?_
      · intro act W hR hf ho hu K hK
        replace hK := fun v h2 => hK v W rfl h2 trivial
        have F : act.tmps[14]?.getD undef = _ ∧ True := hf
        obtain ⟨f2, -⟩ := F
        have U : (fun (_ : Value) (W : World) => HeapAt W hp B { X with time := X.time + 1 }) (undef) W ∧ True := hu
        obtain ⟨r_hp, -⟩ := U
        clear ho hf hu
        have q9 := cellAt r_hp.blk 9 (.pointer (some ⟨B.q, 0, none⟩)) rfl
        go_simp
        exact hK _ (Eq.refl _)
      refine And.intro (obX_pure (fun _ => Kept.of_ext (Below.refl _ _)) ?_) ?_
      · intro act W hR hf ho hu K hK
        replace hK := fun v h2 => hK v W rfl h2 trivial
        have G : act.tmps[0]?.getD undef = _ ∧ True := ho
        obtain ⟨g0, -⟩ := G
        clear ho hf hu
        go_simp
        exact hK _ (Eq.refl _)
      refine And.intro (obX_pure (fun _ => Kept.of_ext (Below.refl _ _)) ?_) ?_
      · intro act W hR hf ho hu K hK
        replace hK := fun v h2 => hK v W rfl h2 trivial
        have F : act.tmps[16]?.getD undef = _ ∧ True := hf
        obtain ⟨f4, -⟩ := F
        clear ho hf hu
        go_simp
        exact hK _ (Eq.refl _)
      refine And.intro (obX_pure (fun _ => Kept.of_ext (Below.refl _ _)) ?_) ?_
      · intro act W hR hf ho hu K hK
        replace hK := fun v h2 => hK v W rfl h2 trivial
        have F : act.tmps[17]?.getD undef = _ ∧ True := hf
        obtain ⟨f5, -⟩ := F
        clear ho hf hu
        go_simp
        exact hK _ (Eq.refl _)
      refine And.intro (obX_pure (fun _ => Kept.of_ext (Below.refl _ _)) ?_) ?_
      · intro act W hR hf ho hu K hK
        replace hK := fun v h2 => hK v W rfl h2 trivial
        have F : act.tmps[18]?.getD undef = _ ∧ True := hf
        obtain ⟨f6, -⟩ := F
        clear ho hf hu
        go_simp
        exact hK _ (Eq.refl _)
      refine And.intro (obX_pure (fun _ => Kept.of_ext (Below.refl _ _)) ?_) ?_
      · intro act W hR hf ho hu K hK
        replace hK := fun v h2 => hK v W rfl h2 trivial
        have F : act.tmps[19]?.getD undef = _ ∧ True := hf
        obtain ⟨f7, -⟩ := F
        have U : (fun (_ : Value) (W : World) => HeapAt W hp B { X with time := X.time + 1 }) (undef) W ∧ True := hu
        obtain ⟨r_hp, -⟩ := U
        clear ho hf hu
        have q8 := cellAt r_hp.blk 8 (.pointer (some ⟨B.c, 0, none⟩)) rfl
        go_simp
        exact hK _ (Eq.refl _)
      refine And.intro (obX_eff (Ext) (fun _ _ h => Kept.of_ext h) (And.intro (fun _ _ _ h e => h.ext e) (trivial)) ?_) ?_
      · intro act W hR hf ho hu K hK
        replace hK := fun v (w' : World) (h1 : (Ext) W w') h2 => hK v w' h1 h2 trivial
        have F : act.tmps[20]?.getD undef = _ ∧ True := hf
        obtain ⟨f8, -⟩ := F
        have U : (fun (_ : Value) (W : World) => HeapAt W hp B { X with time := X.time + 1 }) (undef) W ∧ True := hu
        obtain ⟨r_hp, -⟩ := U
        clear ho hf hu
        go_simp
        refine (now_any B.c (X.time + 1) W r_hp.clk).mono ?_; rintro e W1 ⟨rfl, hE⟩; exact hK _ _ hE (Eq.refl _)
      refine And.intro (obX_eff (Kept B.q none) (fun _ _ h => h) (trivial) ?_) ?_
      · intro act W hR hf ho hu K hK
        replace hK := fun v (w' : World) (h1 : (Kept B.q none) W w') (b1 : (DueR w1 B X D) (v) w') => hK v w' h1 trivial ⟨b1, trivial⟩
        have F : act.tmps[15]?.getD undef = _ ∧ act.tmps[21]?.getD undef = _ ∧ act.tmps[21]?.getD undef = _ ∧ True := hf
        obtain ⟨f3, f9, -, -⟩ := F
        have U : (fun (_ : Value) (W : World) => HeapAt W hp B { X with time := X.time + 1 }) (undef) W ∧ True := hu
        obtain ⟨r_hp, -⟩ := U
        clear ho hf hu
        go_simp
        refine (dueQ_any B.q X.full (sumN X.Q) (X.time + 1) B.bq B.vq X.Q W r_hp.quar HQ.out.1 HQ.out.2.1 HQ.out.2.2.1 HQ.out.2.2.2).mono ?_; rintro e W1 ⟨vo, v', rfl, d1, d2, d3, d4⟩; rw [← HD.out] at d1 d2; obtain ⟨A, c, rfl, hc, -⟩ := Arr.own d1; exact hK _ W1 d4 ⟨A, c, v', rfl, own_low d1 hR.size, d2, d3, Kept.trans ((Kept.of_ext (Ext.drew (Below.refl _ w1))).trans hR (.inl rfl)) d4 (.inl rfl)⟩
      refine And.intro (obX_pure (fun _ => Kept.of_ext (Below.refl _ _)) ?_) ?_
      · intro act W hR hf ho hu K hK
        replace hK := fun v h2 => hK v W rfl h2 trivial
        have F : (fun _ _ => True) (act.tmps[22]?.getD undef) W ∧ True := hf
        obtain ⟨-, -⟩ := F
        have U : (DueR w1 B X D) (act.tmps[22]?.getD undef) W ∧ True := hu
        obtain ⟨r_due, -⟩ := U
        generalize f10 : act.tmps[22]?.getD undef = v10 at r_due
        clear ho hf hu
        obtain ⟨A, c, v', rfl, -, -, -, -⟩ := r_due
        go_simp
        exact hK _ (Eq.refl _)
      refine And.intro (obX_pure (fun _ => Kept.of_ext (Below.refl _ _)) ?_) ?_
      · intro act W hR hf ho hu K hK
        replace hK := fun v h2 => hK v W rfl h2 trivial
        clear ho hf hu
        go_simp
        exact hK _ (Eq.refl _)
      exact trivial
    case stab =>
      refine And.intro is_stable ?_
      refine And.intro is_stable ?_
      refine And.intro is_stable ?_
      refine And.intro is_stable ?_
      refine And.intro is_stable ?_
      refine And.intro is_stable ?_
      refine And.intro is_stable ?_
      refine And.intro is_stable ?_
      refine And.intro is_stable ?_
      refine And.intro is_stable ?_
      refine And.intro (fun _ _ _ h _ => h) ?_
      refine And.intro is_stable ?_
      refine And.intro is_stable ?_
      exact trivial
    case ends =>
      intro vals W hR hE hall
      have E : (DueR w1 B X D) (vals 22) W ∧ True := hE
      obtain ⟨e_due, -⟩ := E
      clear hE
      have e23 : vals 23 = _ := hall 11 (by decide)
      have e24 : vals 24 = _ := hall 12 (by decide)
      clear hall
      generalize ev22 : vals 22 = x22 at e_due
      simp only [fill, List.setIfInBounds_toArray, List.set_cons_succ, List.set_cons_zero, e23, e24, ev22]
      obtain ⟨A, c, v', hv, ho, hq, hvo, hK2⟩ := e_due
      have hsum : sumN X.Q - sumN D = sumN (X.Q.drop D.length) := by
        have e := due_drop (X.time + 1) X.Q
        rw [← HD.out] at e
        have e2 := sumN_add D (X.Q.drop D.length)
        rw [e] at e2
        omega
      rw [show ({ X with time := X.time + 1 } : HeapD).Q = X.Q from rfl, hsum] at hq
      have h2 : HeapAt W hp { B with vq := v' } (endK X D []) := H1.out.1.quar' (Q' := X.Q.drop D.length) hK2 (.inl rfl) hq
      have H2 := Lib.hid (And.intro h2 (And.intro (H1.out.2.trans (HStep.quar hK2 (.inl rfl) (.inl hvo))) ho))
      have hl2 := h2.lt
      subst hv
      clear hq h2 ho hvo hsum hK2 hR
      go_wp2_with fail
      go_loopw [24] (fun i wr => ∃ (k : Nat) (Bk : HeapB), k ≤ D.length ∧ i = .int .i64 (k : Int) ∧ HeapAt wr hp Bk (endK X D (D.take k)) ∧ HStep B Bk w wr ∧ wr.ownsRow w1.heap.size 79 3 (.slice A D.length c) D.length (heldC D)) (fun i _ => D.length - (intOf i).toNat)
      case atStart => exact ⟨0, _, Nat.zero_le _, rfl, H2.out.1, H2.out.2.1, H2.out.2.2⟩
      case round =>
        obtain ⟨k, Bk, hk, rfl, hS, hst, ho⟩ := hrel
        by_cases hlt : k < D.length
        · have hA : Arr wr A (heldC D) := by
            obtain ⟨A', c', e, -, hA⟩ := Arr.own ho
            cases e
            exact hA
          obtain ⟨bg, og, rfl, hbg, y0, y1, y2⟩ := held_row hA hlt
          have hsub : ∀ x ∈ D, x ∈ X.Q := fun x hx => by
            rw [HD.out, due_take] at hx
            exact List.mem_of_mem_take hx
          have hmem : D[k] ∈ X.Q := hsub _ (List.getElem_mem hlt)
          clear hsub
          have hq := HH.out.2.kept hmem
          have hps := paintQ_succ (ws := X.ws) (is := false) hlt
          have hgs := giveQ_succ (a := X.root.base) (b := X.root.top) (R := X.R) hlt
          have hwf := wf_giveQ HH.out.2.held.wf (D.take k)
          have hlr := hS.lt
          have hends := HH.out.2.ends
          have hgl := give_len hwf hends.2.2.2.1 hends.2.2.1 hends.2.2.2.2 D[k].at' D[k].n
          unfold mayBe at hends
          have hsh := HH.out.2.shad
          have HS := Lib.hid (And.intro hS (And.intro hst (And.intro ho (And.intro hps (And.intro hgs hgl)))))
          clear hS hst ho hA hps hgs hwf hgl hmem
          generalize D[k] = q at y0 y1 y2 hq HS
          obtain ⟨qa, qn, qt⟩ := q
          simp only at y0 y1 y2 hq
          have hw : IntKind.i64.wrap (qa + qn) = qa + qn := IntWalk.i64_in _ (by omega)
          have HP := Lib.hid (fun W (hW : ShadAt W Bk.s Bk.wb X.G (paintQ X.ws false (D.take k))) => paint_yes Bk.s Bk.wb X.G (paintQ X.ws false (D.take k)) (qa / 16).toNat (qn / 16).toNat false qa (qa + qn) W hW (by omega) (by omega) (by omega))
          go_wp2_with fail
          obtain ⟨U, hU⟩ : ∃ U, U = wr.alloc (.cells #[.int .i64 qa, .int .i64 qn, .int .i64 qt] 79) := ⟨_, rfl⟩
          have hu : U.heap[wr.heap.size]? = some (.cells #[.int .i64 qa, .int .i64 qn, .int .i64 qt] 79) := by rw [hU]; exact heap_alloc_new wr _
          have eu : Ext wr U := by rw [hU]; exact (by repeat first | (with_reducible exact Below.refl _ _) | (with_reducible apply Ext.alloc) | (with_reducible apply Ext.drew) | (with_reducible apply Ext.drewN) | (with_reducible refine Ext.set ?_ (by simp)))
          have H3 := Lib.hid (And.intro hu eu)
          rw [← hU]
          clear hU hu eu y0 y1 y2
          refine wp_region_stage (fun _ _ : World => True) [11] [(fun (_ : Nat → Value) (W : World) => Ext U W), (fun (_ : Nat → Value) (W : World) => ShadAt W Bk.s Bk.wb X.G (paintW (paintQ X.ws false (D.take k)) (qa / 16).toNat false (qn / 16).toNat) ∧ U.grownBy W (some Bk.wb))] [28, 29, 30, 31, 32, 33, 34, 35, 36, 37, 38, 39] (by kernel_rfl) (fun _ => trivial) (fun _ _ _ _ _ => trivial) (by kernel_rfl) (by kernel_rfl) (by kernel_rfl) ?start ?_
          case start => exact Ext.drew (Below.refl _ _)
          apply ex_is; apply Exists.intro
          apply ex_is; apply Exists.intro
          apply ex_is; apply Exists.intro
          apply ex_is; apply Exists.intro
          apply ex_is; apply Exists.intro
          apply ex_is; apply Exists.intro
          apply ex_is; apply Exists.intro
          apply ex_is; apply Exists.intro
          apply ex_is; apply Exists.intro
          apply ex_is; apply Exists.intro
          apply ex_is; apply Exists.intro
          apply ex_is; apply Exists.intro
          refine ⟨[], ⟨?steps, ?stab, ?ends⟩⟩
          case steps =>
            refine And.intro (stepC_pure (fun _ => trivial) (by kernel_rfl) ?_) ?_
            · intro act W hR hf ho K hK
              have G : act.tmps[0]?.getD undef = _ ∧ True := ho
              obtain ⟨g0, -⟩ := G
              clear ho hf
              go_simp
              exact hK _ (Eq.refl _)
            refine And.intro (stepC_pure (fun _ => trivial) (by kernel_rfl) ?_) ?_
            · intro act W hR hf ho K hK
              have F : act.tmps[28]?.getD undef = _ ∧ True := hf
              obtain ⟨f0, -⟩ := F
              clear ho hf
              go_simp
              exact hK _ (Eq.refl _)
            refine And.intro (stepC_pure (fun _ => trivial) (by kernel_rfl) ?_) ?_
            · intro act W hR hf ho K hK
              have F : act.tmps[29]?.getD undef = _ ∧ True := hf
              obtain ⟨f1, -⟩ := F
              clear ho hf
              go_simp
              exact hK _ (Eq.refl _)
            refine And.intro (stepC_stay (pss := []) (by kernel_rfl) rfl 0 [] [3] (by kernel_rfl) (by kernel_rfl) ?_) ?_
            · intro act W uu hu hR hS hf ho K hK
              replace hS : (fun (_ : Nat → Value) (W : World) => Ext U W) uu W := hS
              replace hK := fun (v : Value) (w' : World) (h1 : (fun _ _ : World => True) W w') h2 (h3 : (fun (_ : Nat → Value) (W : World) => Ext U W) uu w') => hK v w' h1 h2 h3
              have F : act.tmps[30]?.getD undef = _ ∧ True := hf
              obtain ⟨f2, -⟩ := F
              clear hu
              clear ho hf
              have q7 := cellAt (HS.out.1.ext (H3.out.2.then hS)).blk 7 (.pointer (some ⟨Bk.s, 0, none⟩)) rfl
              go_simp
              exact hK _ _ trivial (Eq.refl _) hS
            refine And.intro (stepC_pure (fun _ => trivial) (by kernel_rfl) ?_) ?_
            · intro act W hR hf ho K hK
              have G : act.tmps[4]?.getD undef = _ ∧ True := ho
              obtain ⟨g4, -⟩ := G
              clear ho hf
              go_simp
              exact hK _ (Eq.refl _)
            refine And.intro (stepC_stay (pss := []) (by kernel_rfl) rfl 0 [] [5] (by kernel_rfl) (by kernel_rfl) ?_) ?_
            · intro act W uu hu hR hS hf ho K hK
              replace hS : (fun (_ : Nat → Value) (W : World) => Ext U W) uu W := hS
              replace hK := fun (v : Value) (w' : World) (h1 : (fun _ _ : World => True) W w') h2 (h3 : (fun (_ : Nat → Value) (W : World) => Ext U W) uu w') => hK v w' h1 h2 h3
              have F : act.tmps[32]?.getD undef = _ ∧ True := hf
              obtain ⟨f4, -⟩ := F
              clear hu
              clear ho hf
              obtain ⟨z0, z1, z2⟩ := lie3 H3.out.1 hS
              go_simp
              exact hK _ _ trivial (Eq.refl _) hS
            refine And.intro (stepC_pure (fun _ => trivial) (by kernel_rfl) ?_) ?_
            · intro act W hR hf ho K hK
              have G : act.tmps[4]?.getD undef = _ ∧ True := ho
              obtain ⟨g4, -⟩ := G
              clear ho hf
              go_simp
              exact hK _ (Eq.refl _)
            refine And.intro (stepC_stay (pss := []) (by kernel_rfl) rfl 0 [] [10, 7] (by kernel_rfl) (by kernel_rfl) ?_) ?_
            · intro act W uu hu hR hS hf ho K hK
              replace hS : (fun (_ : Nat → Value) (W : World) => Ext U W) uu W := hS
              replace hK := fun (v : Value) (w' : World) (h1 : (fun _ _ : World => True) W w') h2 (h3 : (fun (_ : Nat → Value) (W : World) => Ext U W) uu w') => hK v w' h1 h2 h3
              have F : act.tmps[34]?.getD undef = _ ∧ True := hf
              obtain ⟨f6, -⟩ := F
              clear hu
              clear ho hf
              obtain ⟨z0, z1, z2⟩ := lie3 H3.out.1 hS
              go_simp
              exact hK _ _ trivial (Eq.refl _) hS
            refine And.intro (stepC_pure (fun _ => trivial) (by kernel_rfl) ?_) ?_
            · intro act W hR hf ho K hK
              have G : act.tmps[4]?.getD undef = _ ∧ True := ho
              obtain ⟨g4, -⟩ := G
              clear ho hf
              go_simp
              exact hK _ (Eq.refl _)
            refine And.intro (stepC_stay (pss := []) (by kernel_rfl) rfl 0 [] [10, 9] (by kernel_rfl) (by kernel_rfl) ?_) ?_
            · intro act W uu hu hR hS hf ho K hK
              replace hS : (fun (_ : Nat → Value) (W : World) => Ext U W) uu W := hS
              replace hK := fun (v : Value) (w' : World) (h1 : (fun _ _ : World => True) W w') h2 (h3 : (fun (_ : Nat → Value) (W : World) => Ext U W) uu w') => hK v w' h1 h2 h3
              have F : act.tmps[36]?.getD undef = _ ∧ True := hf
              obtain ⟨f8, -⟩ := F
              clear hu
              clear ho hf
              obtain ⟨z0, z1, z2⟩ := lie3 H3.out.1 hS
              go_simp
              exact hK _ _ trivial (Eq.refl _) hS
            refine And.intro (stepC_pure (fun _ => trivial) (by kernel_rfl) ?_) ?_
            · intro act W hR hf ho K hK
              have F : act.tmps[35]?.getD undef = _ ∧ act.tmps[37]?.getD undef = _ ∧ True := hf
              obtain ⟨f7, f9, -⟩ := F
              clear ho hf
              go_simp
              exact hK _ (Eq.refl _)
            refine And.intro (stepC_mark (pss := []) (by kernel_rfl) (by decide) rfl 0 [] (by kernel_rfl) rfl ?_) ?_
            · intro act W uu hu hR hS hf ho K hK
              replace hS : (fun (_ : Nat → Value) (W : World) => Ext U W) uu W := hS
              replace hK := fun (v : Value) (w' : World) (h1 : (fun _ _ : World => True) W w') h2 (h3 : (fun (_ : Nat → Value) (W : World) => ShadAt W Bk.s Bk.wb X.G (paintW (paintQ X.ws false (D.take k)) (qa / 16).toNat false (qn / 16).toNat) ∧ U.grownBy W (some Bk.wb)) (upd uu 11 v) w') => hK v w' h1 h2 h3
              have F : act.tmps[31]?.getD undef = _ ∧ act.tmps[33]?.getD undef = _ ∧ act.tmps[38]?.getD undef = _ ∧ True := hf
              obtain ⟨f3, f5, f10, -⟩ := F
              clear hu
              clear ho hf
              go_simp
              refine (HP.out W (HS.out.1.ext (H3.out.2.then hS)).shad).mono ?_; rintro e W1 ⟨rfl, p1, p2⟩; exact hK _ _ trivial (Eq.refl _) ⟨p1, World.grownBy.trans (ext_gr hS) p2⟩
            exact trivial
          case stab =>
            refine And.intro is_stable ?_
            refine And.intro is_stable ?_
            refine And.intro is_stable ?_
            refine And.intro is_stable ?_
            refine And.intro is_stable ?_
            refine And.intro is_stable ?_
            refine And.intro is_stable ?_
            refine And.intro is_stable ?_
            refine And.intro is_stable ?_
            refine And.intro is_stable ?_
            refine And.intro is_stable ?_
            refine And.intro is_stable ?_
            exact trivial
          case ends =>
            intro vals W uu hu hR hS hall
            replace hS : (fun (_ : Nat → Value) (W : World) => ShadAt W Bk.s Bk.wb X.G (paintW (paintQ X.ws false (D.take k)) (qa / 16).toNat false (qn / 16).toNat) ∧ U.grownBy W (some Bk.wb)) uu W := hS
            clear hu
            have e39 : vals 39 = _ := hall 11 (by decide)
            clear hall
            simp only [fill, List.setIfInBounds_toArray, List.set_cons_succ, List.set_cons_zero, e39]
            obtain ⟨p1, p2⟩ := hS
            have hO : Only 0 [106] U W := (Kept.of_grown (p := Bk.wb) p2).only ⟨_, _, _, (HS.out.1.ext H3.out.2).shad.row, by simp⟩ (fun g e => by cases e; exact ⟨_, _, _, (HS.out.1.ext H3.out.2).shad.row, by simp⟩)
            have h4 := (HS.out.1.ext H3.out.2).shad' p2 p1
            have hb4 := hO.row H3.out.1 (by decide)
            have ho4 := hO.own (own_ext HS.out.2.2.1 H3.out.2) (by decide)
            have hs4 := (HS.out.2.1.then H3.out.2).trans (HStep.shad p2)
            obtain ⟨V, hV⟩ : ∃ V, V = W := ⟨_, rfl⟩
            rw [← hV] at h4 hb4 ho4 hs4 ⊢
            have H4 := Lib.hid (And.intro h4 (And.intro hb4 (And.intro ho4 hs4)))
            clear p1 p2 hO h4 hb4 ho4 hs4 hV
            go_wp2_with fail
            refine wp_region_stage (fun _ _ : World => True) [8] [(fun (_ : Nat → Value) (W : World) => Ext V W), (fun (_ : Nat → Value) (W : World) => ∃ v', FreeAt W Bk.f X.root.base X.root.top v' Bk.bf (giveR X.root.base X.root.top (giveQ X.root.base X.root.top X.R (D.take k)) qa qn).1 ∧ Kept Bk.f Bk.vf.ownBlock V W ∧ (v'.ownBlock = Bk.vf.ownBlock ∨ ∃ g, v'.ownBlock = some g ∧ V.heap.size ≤ g))] [40, 41, 42, 43, 44, 45, 46, 47, 48] (by kernel_rfl) (fun _ => trivial) (fun _ _ _ _ _ => trivial) (by kernel_rfl) (by kernel_rfl) (by kernel_rfl) ?start ?_
            case start => exact Ext.drew (Below.refl _ _)
            apply ex_is; apply Exists.intro
            apply ex_is; apply Exists.intro
            apply ex_is; apply Exists.intro
            apply ex_is; apply Exists.intro
            apply ex_is; apply Exists.intro
            apply ex_is; apply Exists.intro
            apply ex_is; apply Exists.intro
            apply ex_is; apply Exists.intro
            apply ex_is; apply Exists.intro
            refine ⟨[], ⟨?steps, ?stab, ?ends⟩⟩
            case steps =>
              refine And.intro (stepC_pure (fun _ => trivial) (by kernel_rfl) ?_) ?_
              · intro act W hR hf ho K hK
                have G : act.tmps[0]?.getD undef = _ ∧ True := ho
                obtain ⟨g0, -⟩ := G
                clear ho hf
                go_simp
                exact hK _ (Eq.refl _)
              refine And.intro (stepC_pure (fun _ => trivial) (by kernel_rfl) ?_) ?_
              · intro act W hR hf ho K hK
                have F : act.tmps[40]?.getD undef = _ ∧ True := hf
                obtain ⟨f0, -⟩ := F
                clear ho hf
                go_simp
                exact hK _ (Eq.refl _)
              refine And.intro (stepC_pure (fun _ => trivial) (by kernel_rfl) ?_) ?_
              · intro act W hR hf ho K hK
                have F : act.tmps[41]?.getD undef = _ ∧ True := hf
                obtain ⟨f1, -⟩ := F
                clear ho hf
                go_simp
                exact hK _ (Eq.refl _)
              refine And.intro (stepC_stay (pss := []) (by kernel_rfl) rfl 0 [] [3] (by kernel_rfl) (by kernel_rfl) ?_) ?_
              · intro act W uu hu hR hS hf ho K hK
                replace hS : (fun (_ : Nat → Value) (W : World) => Ext V W) uu W := hS
                replace hK := fun (v : Value) (w' : World) (h1 : (fun _ _ : World => True) W w') h2 (h3 : (fun (_ : Nat → Value) (W : World) => Ext V W) uu w') => hK v w' h1 h2 h3
                have F : act.tmps[42]?.getD undef = _ ∧ True := hf
                obtain ⟨f2, -⟩ := F
                clear hu
                clear ho hf
                have q6 := cellAt (H4.out.1.ext hS).blk 6 (.pointer (some ⟨Bk.f, 0, none⟩)) rfl
                go_simp
                exact hK _ _ trivial (Eq.refl _) hS
              refine And.intro (stepC_pure (fun _ => trivial) (by kernel_rfl) ?_) ?_
              · intro act W hR hf ho K hK
                have G : act.tmps[4]?.getD undef = _ ∧ True := ho
                obtain ⟨g4, -⟩ := G
                clear ho hf
                go_simp
                exact hK _ (Eq.refl _)
              refine And.intro (stepC_stay (pss := []) (by kernel_rfl) rfl 0 [] [5] (by kernel_rfl) (by kernel_rfl) ?_) ?_
              · intro act W uu hu hR hS hf ho K hK
                replace hS : (fun (_ : Nat → Value) (W : World) => Ext V W) uu W := hS
                replace hK := fun (v : Value) (w' : World) (h1 : (fun _ _ : World => True) W w') h2 (h3 : (fun (_ : Nat → Value) (W : World) => Ext V W) uu w') => hK v w' h1 h2 h3
                have F : act.tmps[44]?.getD undef = _ ∧ True := hf
                obtain ⟨f4, -⟩ := F
                clear hu
                clear ho hf
                obtain ⟨z0, z1, z2⟩ := lie3 H4.out.2.1 hS
                go_simp
                exact hK _ _ trivial (Eq.refl _) hS
              refine And.intro (stepC_pure (fun _ => trivial) (by kernel_rfl) ?_) ?_
              · intro act W hR hf ho K hK
                have G : act.tmps[4]?.getD undef = _ ∧ True := ho
                obtain ⟨g4, -⟩ := G
                clear ho hf
                go_simp
                exact hK _ (Eq.refl _)
              refine And.intro (stepC_stay (pss := []) (by kernel_rfl) rfl 0 [] [7] (by kernel_rfl) (by kernel_rfl) ?_) ?_
              · intro act W uu hu hR hS hf ho K hK
                replace hS : (fun (_ : Nat → Value) (W : World) => Ext V W) uu W := hS
                replace hK := fun (v : Value) (w' : World) (h1 : (fun _ _ : World => True) W w') h2 (h3 : (fun (_ : Nat → Value) (W : World) => Ext V W) uu w') => hK v w' h1 h2 h3
                have F : act.tmps[46]?.getD undef = _ ∧ True := hf
                obtain ⟨f6, -⟩ := F
                clear hu
                clear ho hf
                obtain ⟨z0, z1, z2⟩ := lie3 H4.out.2.1 hS
                go_simp
                exact hK _ _ trivial (Eq.refl _) hS
              refine And.intro (stepC_mark (pss := []) (by kernel_rfl) (by decide) rfl 0 [] (by kernel_rfl) rfl ?_) ?_
              · intro act W uu hu hR hS hf ho K hK
                replace hS : (fun (_ : Nat → Value) (W : World) => Ext V W) uu W := hS
                replace hK := fun (v : Value) (w' : World) (h1 : (fun _ _ : World => True) W w') h2 (h3 : (fun (_ : Nat → Value) (W : World) => ∃ v', FreeAt W Bk.f X.root.base X.root.top v' Bk.bf (giveR X.root.base X.root.top (giveQ X.root.base X.root.top X.R (D.take k)) qa qn).1 ∧ Kept Bk.f Bk.vf.ownBlock V W ∧ (v'.ownBlock = Bk.vf.ownBlock ∨ ∃ g, v'.ownBlock = some g ∧ V.heap.size ≤ g)) (upd uu 8 v) w') => hK v w' h1 h2 h3
                have F : act.tmps[43]?.getD undef = _ ∧ act.tmps[45]?.getD undef = _ ∧ act.tmps[47]?.getD undef = _ ∧ True := hf
                obtain ⟨f3, f5, f7, -⟩ := F
                clear hu
                clear ho hf
                go_simp
                refine (give_any Bk.f X.root.base X.root.top Bk.vf Bk.bf (giveQ X.root.base X.root.top X.R (D.take k)) qa qn W (H4.out.1.ext hS).free HS.out.2.2.2.2.2).mono ?_; rintro e W1 ⟨rfl, v', p1, p2, p3⟩; exact hK _ _ trivial (Eq.refl _) ⟨v', p1, (Kept.of_ext hS).trans p2 (.inl rfl), p3.imp id fun ⟨g, e, hg⟩ => ⟨g, e, Nat.le_trans hS.size hg⟩⟩
              exact trivial
            case stab =>
              refine And.intro is_stable ?_
              refine And.intro is_stable ?_
              refine And.intro is_stable ?_
              refine And.intro is_stable ?_
              refine And.intro is_stable ?_
              refine And.intro is_stable ?_
              refine And.intro is_stable ?_
              refine And.intro is_stable ?_
              refine And.intro is_stable ?_
              exact trivial
            case ends =>
              intro vals W uu hu hR hS hall
              replace hS : (fun (_ : Nat → Value) (W : World) => ∃ v', FreeAt W Bk.f X.root.base X.root.top v' Bk.bf (giveR X.root.base X.root.top (giveQ X.root.base X.root.top X.R (D.take k)) qa qn).1 ∧ Kept Bk.f Bk.vf.ownBlock V W ∧ (v'.ownBlock = Bk.vf.ownBlock ∨ ∃ g, v'.ownBlock = some g ∧ V.heap.size ≤ g)) uu W := hS
              clear hu
              have e48 : vals 48 = _ := hall 8 (by decide)
              clear hall
              simp only [fill, List.setIfInBounds_toArray, List.set_cons_succ, List.set_cons_zero, e48]
              obtain ⟨v5, p1, p2, p3⟩ := hS
              have hO : Only 0 [94, 91] V W := p2.only ⟨_, _, _, H4.out.1.free.blk, by simp⟩ (fun g e => by obtain ⟨C, f, h1⟩ := own_obj H4.out.1.free.row e; exact ⟨C, _, f, h1, by simp⟩)
              have ho5 := hO.own H4.out.2.2.1 (by decide)
              have h5 := H4.out.1.free' p2 p1
              have H5 := Lib.hid (And.intro h5 (And.intro (H4.out.2.2.2.trans (HStep.free (b' := Bk.bf) p2 p3)) ho5))
              clear p1 p2 p3 hO ho5 h5
              go_wp2_with fail
              refine ⟨⟨k + 1, _, by omega, by go_num, ?_, H5.out.2.1, H5.out.2.2⟩, by simp [intOf]; omega⟩
              have e : endK X D (D.take (k + 1)) = { endK X D (D.take k) with ws := paintW (paintQ X.ws false (D.take k)) (qa / 16).toNat false (qn / 16).toNat, R := (giveR X.root.base X.root.top (giveQ X.root.base X.root.top X.R (D.take k)) qa qn).1 } := by
                unfold endK
                rw [HS.out.2.2.2.1, HS.out.2.2.2.2.1]
              rw [e]
              exact H5.out.1
        · obtain rfl : k = D.length := by omega
          rw [List.take_length] at hS
          have HS := Lib.hid (And.intro hS hst)
          clear hS hst ho
          go_wp2_with fail
          go_ret
          refine ⟨rfl, Bk, ?_, HS.out.2⟩
          have h9 := HS.out.1
          rw [HD.out] at h9
          exact h9
end Go.Proofs.Ytpjlhkepdiajjaa

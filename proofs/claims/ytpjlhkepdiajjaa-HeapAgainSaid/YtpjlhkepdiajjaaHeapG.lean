
/- Package heap: Begin. -/
import Derived.Test.YtpjlhkepdiajjaaHeapP
import Derived.Test.YtpjlhkepdiajjaaPhi3
set_option linter.all false
namespace Go.Proofs.Ytpjlhkepdiajjaa
open Go.RowKit Go.Shelf
attribute [local go_sem] seen dstOf boolOf

set_option maxHeartbeats 2000000 in
set_option maxRecDepth 40000 in
theorem hbegin_any (hp : Nat) (B : HeapB) (X : HeapD) (w : World) (h : HeapAt w hp B X) (ok : HeapOk X) : Calls Try.prog 13 #[.pointer (some ⟨hp, 0, none⟩)] w fun e w' => e = .returned (.bool (beginB X.time)) ∧ HeapAt w' hp B (beginD X) ∧ HStep B B w w' := by
  have HB := Lib.hid (begin_any B.c X.time w h.clk ok.time.1 (Int.le_trans ok.time.2 (by decide)))
  have HH := Lib.hid (And.intro h ok)
  have x8 := cellAt h.blk 8 (.pointer (some ⟨B.c, 0, none⟩)) rfl
  have hlt := h.lt
  unfold beginD
  clear h ok
  cases hbb : beginB X.time with
  | false =>
    rw [hbb] at HB
    go_enter Try.func13, Try.ntmps13
    go_wp2_with fail
    refine HB.out.mono ?_
    rintro _ w1 ⟨rfl, h1, h2⟩
    have H1 := Lib.hid (And.intro h1 h2)
    clear h1 h2
    go_wp2_with fail
    go_ret
    exact ⟨rfl, HH.out.1.clk' H1.out.2 H1.out.1, HStep.clk H1.out.2⟩
  | true =>
    rw [hbb] at HB
    go_enter Try.func13, Try.ntmps13
    go_wp2_with fail
    refine HB.out.mono ?_
    rintro _ w1 ⟨rfl, h1, h2⟩
    have hh : HeapAt w1 hp B { X with time := X.time + 1 } := HH.out.1.clk' h2 h1
    have x9 := cellAt hh.blk 9 (.pointer (some ⟨B.q, 0, none⟩)) rfl
    have HA := Lib.hid (allQ_any _ _ _ _ _ _ w1 hh.quar HH.out.2.lens.2.1)
    have H1 := Lib.hid (And.intro hh (HStep.clk (B := B) h2))
    clear h1 h2 hh
    go_wp2_with fail
    refine HA.out.mono ?_
    rintro _ w2 ⟨v, rfl, h1, h2⟩
    obtain ⟨A, cc, rfl, hcc, -⟩ := Arr.own h1
    have hn := HH.out.2.lens.2.1
    have hl2 := (H1.out.1.ext h2).lt
    have H2 := Lib.hid (And.intro (H1.out.1.ext h2) (And.intro (H1.out.2.then h2) h1))
    clear h1 h2 x8 x9
    go_wp2_with fail
    go_loopw [18] (fun i wr => ∃ k : Nat, k ≤ X.Q.length ∧ i = .int .i64 (k : Int) ∧ HeapAt wr hp B { X with time := X.time + 1, ws := paintQ X.ws true (X.Q.take k) } ∧ HStep B B w wr ∧ wr.ownsRow w1.heap.size 79 3 (.slice A X.Q.length cc) X.Q.length (heldC X.Q)) (fun i _ => X.Q.length - (intOf i).toNat)
    case atStart => exact ⟨0, Nat.zero_le _, rfl, H2.out.1, H2.out.2.1, H2.out.2.2⟩
    case round =>
      obtain ⟨k, hk, rfl, hS, hst, ho⟩ := hrel
      by_cases hlt : k < X.Q.length
      · have hA : Arr wr A (heldC X.Q) := by
          obtain ⟨A', c', e, -, hA⟩ := Arr.own ho
          cases e
          exact hA
        obtain ⟨bg, og, rfl, hbg, y0, y1, y2⟩ := held_row hA hlt
        have hq := HH.out.2.kept (List.getElem_mem hlt)
        have hps := paintQ_succ (ws := X.ws) (is := true) hlt
        have hlr := hS.lt
        have hends := HH.out.2.ends
        unfold mayBe at hends
        have hsh := HH.out.2.shad
        have HS := Lib.hid (And.intro hS (And.intro hst (And.intro ho hps)))
        clear hS hst ho hA hps
        generalize X.Q[k] = q at y0 y1 y2 hq HS
        obtain ⟨qa, qn, qt⟩ := q
        simp only at y0 y1 y2 hq
        have hw : IntKind.i64.wrap (qa + qn) = qa + qn := IntWalk.i64_in _ (by omega)
        have HP := Lib.hid (fun W (hW : ShadAt W B.s B.wb X.G (paintQ X.ws true (X.Q.take k))) => paint_yes B.s B.wb X.G (paintQ X.ws true (X.Q.take k)) (qa / 16).toNat (qn / 16).toNat true qa (qa + qn) W hW (by omega) (by omega) (by omega))
        go_wp2_with fail
        obtain ⟨U, hU⟩ : ∃ U, U = wr.alloc (.cells #[.int .i64 qa, .int .i64 qn, .int .i64 qt] 79) := ⟨_, rfl⟩
        have hu : U.heap[wr.heap.size]? = some (.cells #[.int .i64 qa, .int .i64 qn, .int .i64 qt] 79) := by rw [hU]; exact heap_alloc_new wr _
        have eu : Ext wr U := by rw [hU]; exact (by repeat first | (with_reducible exact Below.refl _ _) | (with_reducible apply Ext.alloc) | (with_reducible apply Ext.drew) | (with_reducible apply Ext.drewN) | (with_reducible refine Ext.set ?_ (by simp)))
        have H3 := Lib.hid (And.intro hu eu)
        rw [← hU]
        clear hU hu eu y0 y1 y2
        refine wp_region_stage (fun _ _ : World => True) [11] [(fun (_ : Nat → Value) (W : World) => Ext U W), (fun (_ : Nat → Value) (W : World) => ShadAt W B.s B.wb X.G (paintW (paintQ X.ws true (X.Q.take k)) (qa / 16).toNat true (qn / 16).toNat) ∧ U.grownBy W (some B.wb))] [22, 23, 24, 25, 26, 27, 28, 29, 30, 31, 32, 33] (by kernel_rfl) (fun _ => trivial) (fun _ _ _ _ _ => trivial) (by kernel_rfl) (by kernel_rfl) (by kernel_rfl) ?start ?_
        case start => exact Ext.drew (Below.refl _ _)
        apply ex_is; apply Exists.intro
        apply ex_is; apply Exists.intro
        apply ex_is; apply Exists.intro
        apply ex_is; apply Exists.intro
        apply ex_is; apply Exists.intro
        apply ex_is; apply Exists.intro
        apply ex_is; apply Exists.intro
        apply ex_is; apply Exists.intro
        apply ex_is; apply Exists.intro
        apply ex_is; apply Exists.intro
        apply ex_is; apply Exists.intro
        apply ex_is; apply Exists.intro
        refine ⟨[], ⟨?steps, ?stab, ?ends⟩⟩
        case steps =>
          refine And.intro (stepC_pure (fun _ => trivial) (by kernel_rfl) ?_) ?_
          · intro act W hR hf ho K hK
            have G : act.tmps[0]?.getD undef = _ ∧ True := ho
            obtain ⟨g0, -⟩ := G
            clear ho hf
            go_simp
            exact hK _ (Eq.refl _)
          refine And.intro (stepC_pure (fun _ => trivial) (by kernel_rfl) ?_) ?_
          · intro act W hR hf ho K hK
            have F : act.tmps[22]?.getD undef = _ ∧ True := hf
            obtain ⟨f0, -⟩ := F
            clear ho hf
            go_simp
            exact hK _ (Eq.refl _)
          refine And.intro (stepC_pure (fun _ => trivial) (by kernel_rfl) ?_) ?_
          · intro act W hR hf ho K hK
            have F : act.tmps[23]?.getD undef = _ ∧ True := hf
            obtain ⟨f1, -⟩ := F
            clear ho hf
            go_simp
            exact hK _ (Eq.refl _)
          refine And.intro (stepC_stay (pss := []) (by kernel_rfl) rfl 0 [] [3] (by kernel_rfl) (by kernel_rfl) ?_) ?_
          · intro act W uu hu hR hS hf ho K hK
            replace hS : (fun (_ : Nat → Value) (W : World) => Ext U W) uu W := hS
            replace hK := fun (v : Value) (w' : World) (h1 : (fun _ _ : World => True) W w') h2 (h3 : (fun (_ : Nat → Value) (W : World) => Ext U W) uu w') => hK v w' h1 h2 h3
            have F : act.tmps[24]?.getD undef = _ ∧ True := hf
            obtain ⟨f2, -⟩ := F
            clear hu
            clear ho hf
            have q7 := cellAt (HS.out.1.ext (H3.out.2.then hS)).blk 7 (.pointer (some ⟨B.s, 0, none⟩)) rfl
            go_simp
            exact hK _ _ trivial (Eq.refl _) hS
          refine And.intro (stepC_pure (fun _ => trivial) (by kernel_rfl) ?_) ?_
          · intro act W hR hf ho K hK
            have G : act.tmps[4]?.getD undef = _ ∧ True := ho
            obtain ⟨g4, -⟩ := G
            clear ho hf
            go_simp
            exact hK _ (Eq.refl _)
          refine And.intro (stepC_stay (pss := []) (by kernel_rfl) rfl 0 [] [5] (by kernel_rfl) (by kernel_rfl) ?_) ?_
          · intro act W uu hu hR hS hf ho K hK
            replace hS : (fun (_ : Nat → Value) (W : World) => Ext U W) uu W := hS
            replace hK := fun (v : Value) (w' : World) (h1 : (fun _ _ : World => True) W w') h2 (h3 : (fun (_ : Nat → Value) (W : World) => Ext U W) uu w') => hK v w' h1 h2 h3
            have F : act.tmps[26]?.getD undef = _ ∧ True := hf
            obtain ⟨f4, -⟩ := F
            clear hu
            clear ho hf
            obtain ⟨z0, z1, z2⟩ := lie3 H3.out.1 hS
            go_simp
            exact hK _ _ trivial (Eq.refl _) hS
          refine And.intro (stepC_pure (fun _ => trivial) (by kernel_rfl) ?_) ?_
          · intro act W hR hf ho K hK
            have G : act.tmps[4]?.getD undef = _ ∧ True := ho
            obtain ⟨g4, -⟩ := G
            clear ho hf
            go_simp
            exact hK _ (Eq.refl _)
          refine And.intro (stepC_stay (pss := []) (by kernel_rfl) rfl 0 [] [10, 7] (by kernel_rfl) (by kernel_rfl) ?_) ?_
          · intro act W uu hu hR hS hf ho K hK
            replace hS : (fun (_ : Nat → Value) (W : World) => Ext U W) uu W := hS
            replace hK := fun (v : Value) (w' : World) (h1 : (fun _ _ : World => True) W w') h2 (h3 : (fun (_ : Nat → Value) (W : World) => Ext U W) uu w') => hK v w' h1 h2 h3
            have F : act.tmps[28]?.getD undef = _ ∧ True := hf
            obtain ⟨f6, -⟩ := F
            clear hu
            clear ho hf
            obtain ⟨z0, z1, z2⟩ := lie3 H3.out.1 hS
            go_simp
            exact hK _ _ trivial (Eq.refl _) hS
          refine And.intro (stepC_pure (fun _ => trivial) (by kernel_rfl) ?_) ?_
          · intro act W hR hf ho K hK
            have G : act.tmps[4]?.getD undef = _ ∧ True := ho
            obtain ⟨g4, -⟩ := G
            clear ho hf
            go_simp
            exact hK _ (Eq.refl _)
          refine And.intro (stepC_stay (pss := []) (by kernel_rfl) rfl 0 [] [10, 9] (by kernel_rfl) (by kernel_rfl) ?_) ?_
          · intro act W uu hu hR hS hf ho K hK
            replace hS : (fun (_ : Nat → Value) (W : World) => Ext U W) uu W := hS
            replace hK := fun (v : Value) (w' : World) (h1 : (fun _ _ : World => True) W w') h2 (h3 : (fun (_ : Nat → Value) (W : World) => Ext U W) uu w') => hK v w' h1 h2 h3
            have F : act.tmps[30]?.getD undef = _ ∧ True := hf
            obtain ⟨f8, -⟩ := F
            clear hu
            clear ho hf
            obtain ⟨z0, z1, z2⟩ := lie3 H3.out.1 hS
            go_simp
            exact hK _ _ trivial (Eq.refl _) hS
          refine And.intro (stepC_pure (fun _ => trivial) (by kernel_rfl) ?_) ?_
          · intro act W hR hf ho K hK
            have F : act.tmps[29]?.getD undef = _ ∧ act.tmps[31]?.getD undef = _ ∧ True := hf
            obtain ⟨f7, f9, -⟩ := F
            clear ho hf
            go_simp
            exact hK _ (Eq.refl _)
          refine And.intro (stepC_mark (pss := []) (by kernel_rfl) (by decide) rfl 0 [] (by kernel_rfl) rfl ?_) ?_
          · intro act W uu hu hR hS hf ho K hK
            replace hS : (fun (_ : Nat → Value) (W : World) => Ext U W) uu W := hS
            replace hK := fun (v : Value) (w' : World) (h1 : (fun _ _ : World => True) W w') h2 (h3 : (fun (_ : Nat → Value) (W : World) => ShadAt W B.s B.wb X.G (paintW (paintQ X.ws true (X.Q.take k)) (qa / 16).toNat true (qn / 16).toNat) ∧ U.grownBy W (some B.wb)) (upd uu 11 v) w') => hK v w' h1 h2 h3
            have F : act.tmps[25]?.getD undef = _ ∧ act.tmps[27]?.getD undef = _ ∧ act.tmps[32]?.getD undef = _ ∧ True := hf
            obtain ⟨f3, f5, f10, -⟩ := F
            clear hu
            clear ho hf
            go_simp
            refine (HP.out W (HS.out.1.ext (H3.out.2.then hS)).shad).mono ?_; rintro e W1 ⟨rfl, p1, p2⟩; exact hK _ _ trivial (Eq.refl _) ⟨p1, World.grownBy.trans (ext_gr hS) p2⟩
          exact trivial
        case stab =>
          refine And.intro is_stable ?_
          refine And.intro is_stable ?_
          refine And.intro is_stable ?_
          refine And.intro is_stable ?_
          refine And.intro is_stable ?_
          refine And.intro is_stable ?_
          refine And.intro is_stable ?_
          refine And.intro is_stable ?_
          refine And.intro is_stable ?_
          refine And.intro is_stable ?_
          refine And.intro is_stable ?_
          refine And.intro is_stable ?_
          exact trivial
        case ends =>
          intro vals W uu hu hR hS hall
          replace hS : (fun (_ : Nat → Value) (W : World) => ShadAt W B.s B.wb X.G (paintW (paintQ X.ws true (X.Q.take k)) (qa / 16).toNat true (qn / 16).toNat) ∧ U.grownBy W (some B.wb)) uu W := hS
          clear hu
          have e33 : vals 33 = _ := hall 11 (by decide)
          clear hall
          simp only [fill, List.setIfInBounds_toArray, List.set_cons_succ, List.set_cons_zero, e33]
          obtain ⟨p1, p2⟩ := hS
          have H4 := Lib.hid (And.intro p1 p2)
          clear p1 p2
          go_wp2_with fail
          refine ⟨⟨k + 1, by omega, by go_num, ?_, ?_, ?_⟩, by simp [intOf]; omega⟩
          · rw [HS.out.2.2.2]
            exact (HS.out.1.ext H3.out.2).shad' H4.out.2 H4.out.1
          · exact (HS.out.2.1.then H3.out.2).trans (HStep.shad H4.out.2)
          · have hO : Only 0 [106] U W := (Kept.of_grown (p := B.wb) H4.out.2).only ⟨_, _, _, (HS.out.1.ext H3.out.2).shad.row, by simp⟩ (fun g e => by cases e; exact ⟨_, _, _, (HS.out.1.ext H3.out.2).shad.row, by simp⟩)
            exact hO.own (own_ext HS.out.2.2.1 H3.out.2) (by decide)
      · obtain rfl : k = X.Q.length := by omega
        rw [List.take_length] at hS
        have HS := Lib.hid (And.intro hS hst)
        clear hS hst ho
        go_wp2_with fail
        go_ret
        exact ⟨rfl, HS.out.1, HS.out.2⟩
end Go.Proofs.Ytpjlhkepdiajjaa

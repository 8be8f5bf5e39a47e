
/- ImageBack: the law returns true. -/
import Derived.Test.YtgfnpcoigooblaaGreat17
import Derived.Test.YtgfnpcoigooblaaHead17
import Derived.Test.YtgfnpcoigooblaaRdQ17
set_option linter.all false
namespace Go.Proofs.Ytgfnpcoigooblaa
open Go.RowKit
attribute [local go_sem] seen dstOf boolOf
/-- What a law of layer 17 has done when it knows that its image is not too great. -/
structure Begun (w w2 : World) (x : ImgM) : Prop where
  ext : Ext w w2
  row : w2.heap[w.heap.size]? = some (.cells #[.bool x.strict, .int .i64 x.heap, .int .i64 x.full, .slice x.Ac x.comps.length x.cc, .slice x.Al x.links.length x.cl, .slice x.As x.shares.length x.cs] 26)
theorem Begun.then {w w1 w2 : World} {x : ImgM} (h : Begun w w1 x) (e : Ext w1 w2) : Begun w w2 x := ⟨h.ext.then e, (e.block _ (Array.getElem?_eq_some_iff.1 h.row).1).trans h.row⟩
theorem getD_code (l : List Int) : ((getD l).2 = 0 ∧ rightD (getD l).1 = true) ∨ ((getD l).1 = zeroD ∧ ((getD l).2 = 1 ∨ (getD l).2 = 151)) := by
  unfold getD
  cases badP l with
  | true => exact .inr ⟨rfl, .inl rfl⟩
  | false =>
    cases h : rightD (readP l).1 with
    | true => exact .inl ⟨by simp, by simpa using h⟩
    | false => exact .inr ⟨by simp, .inr (by simp)⟩
set_option maxHeartbeats 4000000 in
set_option maxRecDepth 100000 in
theorem back17_any (x : ImgM) (Ab : Option Addr) (cb : Nat) (l : List Int) (w : World) (h : ImgAt w x) (h1 : x.comps.length ≤ 8796093021952) (h2 : x.links.length ≤ 8796093021952) (h3 : x.shares.length ≤ 8796093021952) (hA : Arr w Ab (bs l)) (hl : BytesIn l) (hlc : l.length ≤ cb) (hcm : cb ≤ maxLen) :
    Calls Try.prog 5 #[x.val, .slice Ab l.length cb] w fun e w' => e = .returned (.bool true) ∧ Ext w w' := by
  have H := Lib.hid h
  have HA := Lib.hid (And.intro hA (And.intro hl hlc))
  have hlm : l.length ≤ maxLen := Nat.le_trans hlc hcm
  clear h hA hl hlc
  go_enter Try.func5, Try.ntmps5
  go_wp2_with fail
  refine (head17 _).mono ?_
  rintro e w1 ⟨rfl, hE1⟩
  have B1 : Hid (Begun w w1 x) := Lib.hid ⟨(Ext.alloc (Below.refl _ w) _).then hE1, (hE1.block _ (by simp)).trans (heap_alloc_new w _)⟩
  clear hE1
  obtain ⟨z0, z1, z2, z3, z4, z5⟩ := lie6 B1.out.row (Below.refl _ w1)
  have hlt : w.heap.size < w1.heap.size := cell_lt z0
  go_wp2_with fail
  refine (great_any x w1 (H.out.ext B1.out.ext) h1 h2 h3).mono ?_
  rintro e w2 ⟨b, rfl, hE⟩
  have B2 : Hid (Begun w w2 x) := Lib.hid (B1.out.then hE)
  clear hE B1
  cases b with
  | true =>
    go_wp2_with fail
    go_ret
    exact ⟨rfl, B2.out.ext⟩
  | false =>
    by_cases hl2 : 20000 < l.length
    · go_wp2_with fail
      go_ret
      exact ⟨rfl, B2.out.ext⟩
    obtain ⟨z0, z1, z2, z3, z4, z5⟩ := lie6 B2.out.row (Below.refl _ w2)
    have hlt2 : w.heap.size < w2.heap.size := cell_lt z0
    go_wp2_with fail
    refine (imgPut_any x w2 (H.out.ext B2.out.ext)).mono ?_
    rintro e w3 ⟨v, rfl, ho, hE⟩
    have hcm' : ∀ A c, v = .slice A (putD x.d).length c → c ≤ maxLen := fun A c hv => by
      rcases ho.2 with ⟨h0, -⟩ | ⟨g, cap, cur, h0, -, -, -, hm, -⟩
      · rw [hv] at h0; rw [(Value.slice.inj h0).2.2]; exact Nat.zero_le _
      · rw [hv] at h0; rw [(Value.slice.inj h0).2.2]; exact hm
    obtain ⟨A, c', rfl, hc', ha⟩ := Arr.own ho
    replace hcm' := hcm' A c' rfl
    have B3 : Hid (Begun w w3 x) := Lib.hid (B2.out.then hE)
    have hlen := putD_len x.d
    have hpos : rightD x.d = true ↔ 0 < (putD x.d).length := by
      unfold putD
      split
      · rename_i hr
        rw [hr]
        simp [bytesD, hdrL]
      · rename_i hr
        simp [hr]
    have HP := Lib.hid (And.intro ha (And.intro hc' hcm'))
    clear ho hE ha hc' hcm' B2
    obtain ⟨P, hP⟩ : ∃ P, P = putD x.d := ⟨_, rfl⟩
    rw [← hP] at hlen hpos HP ⊢
    have HQ := Lib.hid hP
    clear hP
    obtain ⟨z0, z1, z2, z3, z4, z5⟩ := lie6 B3.out.row (Below.refl _ w3)
    have hlt3 : w.heap.size < w3.heap.size := cell_lt z0
    have hpm : P.length ≤ maxLen := by unfold maxLen; omega
    go_wp2_with fail
    refine (imgRight_any x w3 (H.out.ext B3.out.ext)).mono ?_
    rintro e w4 ⟨rfl, hE⟩
    have B4 : Hid (Begun w w4 x) := Lib.hid (B3.out.then hE)
    have HE4 := Lib.hid hE
    clear hE
    cases hr : rightD x.d with
    | false =>
      rw [hr] at hpos
      have hp0 : P.length = 0 := by
        have : ¬ 0 < P.length := fun h => Bool.noConfusion (hpos.2 h)
        omega
      rw [hp0]
      clear hpos hlen hpm
      go_wp2_with fail
      refine (imgGet_walk Ab cb l w4 (HA.out.1.ext B4.out.ext) HA.out.2.1 HA.out.2.2 hcm).mono ?_
      rintro e w8 ⟨q, hq, hqd, rfl, hE⟩
      have B8 : Hid (Begun w w8 x) := Lib.hid (B4.out.then hE)
      clear hE
      have HQ8 := Lib.hid (And.intro hq hqd)
      clear hq hqd
      rcases getD_code l with ⟨c0, c1⟩ | ⟨c0, c1⟩
      · rw [c0]
        have HC := Lib.hid (And.intro c0 c1)
        clear c0 c1
        have hrow : Hid ((w8.alloc (.cells #[.bool q.strict, .int .i64 q.heap, .int .i64 q.full, .slice q.Ac q.comps.length q.cc, .slice q.Al q.links.length q.cl, .slice q.As q.shares.length q.cs] 26)).heap[w8.heap.size]? = some (.cells #[.bool q.strict, .int .i64 q.heap, .int .i64 q.full, .slice q.Ac q.comps.length q.cc, .slice q.Al q.links.length q.cl, .slice q.As q.shares.length q.cs] 26)) := Lib.hid (heap_alloc_new w8 _)
        obtain ⟨z0, z1, z2, z3, z4, z5⟩ := lie6 hrow.out (Below.refl _ _)
        go_wp2_with fail
        clear z0 z1 z2 z3 z4 z5
        obtain ⟨u9, hu9⟩ : ∃ u9, u9 = w8.alloc (.cells #[.bool q.strict, .int .i64 q.heap, .int .i64 q.full, .slice q.Ac q.comps.length q.cc, .slice q.Al q.links.length q.cl, .slice q.As q.shares.length q.cs] 26) := ⟨_, rfl⟩
        rw [← hu9] at hrow ⊢
        have E9 : Hid (Ext w8 u9) := Lib.hid (by rw [hu9]; exact (by repeat first | (with_reducible exact Below.refl _ _) | (with_reducible apply Ext.alloc) | (with_reducible apply Ext.drew) | (with_reducible apply Ext.drewN) | (with_reducible refine Ext.set ?_ (by simp))))
        clear hu9
        refine wp_region_res (Ext) [⟨some 7, [(7, [])], [8]⟩] [(fun (u : Nat → Value) (W : World) => (fun (v : Value) (W : World) => ∃ A c, v = .slice A l.length c ∧ Arr W A (bs l)) (u 7) W)] [⟨[], [.early [5, 4, 1, 0]]⟩, ⟨[], [.early [5, 4, 1]]⟩, ⟨[], [.early [5, 3, 2]]⟩, ⟨[], [.early [5, 3]]⟩, ⟨[], [.early [5, 4]]⟩, ⟨[], [.early [5]]⟩, ⟨[], [.early [6]]⟩, ⟨[], [.last]⟩, ⟨[(0, [7])], [.late [[]]]⟩, ⟨[], [.keep]⟩, ⟨[], [.keep]⟩, ⟨[], [.late [[8]]]⟩, ⟨[], [.late [[11, 8]]]⟩, ⟨[], [.late [[8]]]⟩] [65, 66, 67, 68, 69, 70, 71, 72, 73, 74, 75, 76, 77, 4] (by kernel_rfl) (fun _ => Below.refl _ _) (fun _ _ _ => Ext.then) (by kernel_rfl) (by kernel_rfl) (by kernel_rfl) (by kernel_rfl) (by kernel_rfl) ?start ?_
        case start =>
          exact trivial
        apply ex_is; apply Exists.intro
        apply ex_is; apply Exists.intro
        apply ex_is; apply Exists.intro
        apply ex_is; apply Exists.intro
        apply ex_is; apply Exists.intro
        apply ex_is; apply Exists.intro
        apply ex_is; apply Exists.intro
        refine ex_phi (fun _ _ => True) ?_
        apply ex_is; apply Exists.intro
        apply ex_is; apply Exists.intro
        apply ex_is; apply Exists.intro
        apply ex_is; apply Exists.intro
        apply ex_is; apply Exists.intro
        apply ex_is; apply Exists.intro
        refine ⟨[], ⟨?steps, ?stab, ?ends⟩⟩
        case steps =>
          refine And.intro (obX_pure (fun _ => Below.refl _ _) ?_) ?_
          · intro act W hR hf ho hu K hK
            replace hR := ext_drew hR
            replace hK := fun v h2 => hK v W rfl h2 trivial
            have G : act.tmps[5]?.getD undef = _ ∧ True := ho
            obtain ⟨g5, -⟩ := G
            clear ho hf hu
            go_simp
            exact hK _ (Eq.refl _)
          refine And.intro (obX_pure (fun _ => Below.refl _ _) ?_) ?_
          · intro act W hR hf ho hu K hK
            replace hR := ext_drew hR
            replace hK := fun v h2 => hK v W rfl h2 trivial
            have F : act.tmps[65]?.getD undef = _ ∧ True := hf
            obtain ⟨f0, -⟩ := F
            clear ho hf hu
            go_simp
            exact hK _ (Eq.refl _)
          refine And.intro (obX_pure (fun _ => Below.refl _ _) ?_) ?_
          · intro act W hR hf ho hu K hK
            replace hR := ext_drew hR
            replace hK := fun v h2 => hK v W rfl h2 trivial
            have G : act.tmps[9]?.getD undef = _ ∧ True := ho
            obtain ⟨g9, -⟩ := G
            have F : act.tmps[66]?.getD undef = _ ∧ True := hf
            obtain ⟨f1, -⟩ := F
            clear ho hf hu
            obtain ⟨z0, z1, z2, z3, z4, z5⟩ := lie6 hrow.out hR
            go_simp
            exact hK _ (Eq.refl _)
          refine And.intro (obX_eff (Ext) (fun _ _ h => h) (trivial) ?_) ?_
          · intro act W hR hf ho hu K hK
            replace hR := ext_drew hR
            replace hK := fun v (w' : World) (h1 : (Ext) W w') h2 => hK v w' h1 h2 trivial
            have F : act.tmps[67]?.getD undef = _ ∧ act.tmps[66]?.getD undef = _ ∧ act.tmps[66]?.getD undef = _ ∧ True := hf
            obtain ⟨f2, f1, -, -⟩ := F
            clear ho hf hu
            go_simp
            refine (imgRight_any q W (HQ8.out.1.ext (E9.out.then hR))).mono ?_; rintro e W1 ⟨rfl, hE⟩; rw [HQ8.out.2, HC.out.2]; exact hK _ _ hE (Eq.refl _)
          refine And.intro (obX_pure (fun _ => Below.refl _ _) ?_) ?_
          · intro act W hR hf ho hu K hK
            replace hR := ext_drew hR
            replace hK := fun v h2 => hK v W rfl h2 trivial
            have F : act.tmps[66]?.getD undef = _ ∧ act.tmps[68]?.getD undef = _ ∧ True := hf
            obtain ⟨f1, f3, -⟩ := F
            clear ho hf hu
            go_simp
            exact hK _ (Eq.refl _)
          refine And.intro (obX_pure (fun _ => Below.refl _ _) ?_) ?_
          · intro act W hR hf ho hu K hK
            replace hR := ext_drew hR
            replace hK := fun v h2 => hK v W rfl h2 trivial
            have F : act.tmps[69]?.getD undef = _ ∧ act.tmps[68]?.getD undef = _ ∧ True := hf
            obtain ⟨f4, f3, -⟩ := F
            clear ho hf hu
            go_simp
            exact hK _ (Eq.refl _)
          refine And.intro (obX_pure (fun _ => Below.refl _ _) ?_) ?_
          · intro act W hR hf ho hu K hK
            replace hR := ext_drew hR
            replace hK := fun v h2 => hK v W rfl h2 trivial
            have G : act.tmps[9]?.getD undef = _ ∧ True := ho
            obtain ⟨g9, -⟩ := G
            have F : act.tmps[70]?.getD undef = _ ∧ True := hf
            obtain ⟨f5, -⟩ := F
            clear ho hf hu
            obtain ⟨z0, z1, z2, z3, z4, z5⟩ := lie6 hrow.out hR
            go_simp
            exact hK _ (Eq.refl _)
          refine And.intro (obX_eff (Ext) (fun _ _ h => h) (trivial) ?_) ?_
          · intro act W hR hf ho hu K hK
            replace hR := ext_drew hR
            replace hK := fun v (w' : World) (h1 : (Ext) W w') (b0 : (fun (v : Value) (W : World) => ∃ A c, v = .slice A l.length c ∧ Arr W A (bs l)) (v) w') => hK v w' h1 trivial ⟨b0, trivial⟩
            have F : act.tmps[71]?.getD undef = _ ∧ act.tmps[70]?.getD undef = _ ∧ act.tmps[70]?.getD undef = _ ∧ True := hf
            obtain ⟨f6, f5, -, -⟩ := F
            clear ho hf hu
            go_simp
            refine (imgPut_any q W (HQ8.out.1.ext (E9.out.then hR))).mono ?_; rintro e W1 ⟨v, rfl, ho, hE⟩; rw [HQ8.out.2, (put_getD HA.out.2.1 HC.out.1).2] at ho; obtain ⟨A7, c7, rfl, hc7, ha7⟩ := Arr.own ho; exact hK _ _ hE ⟨A7, c7, rfl, ha7⟩
          refine And.intro (obX_pure (fun _ => Below.refl _ _) ?_) ?_
          · intro act W hR hf ho hu K hK
            replace hR := ext_drew hR
            replace hK := fun v h2 => hK v W rfl h2 trivial
            have F : (fun _ _ => True) (act.tmps[72]?.getD undef) W ∧ act.tmps[70]?.getD undef = _ ∧ True := hf
            obtain ⟨-, f5, -⟩ := F
            have U : (fun (v : Value) (W : World) => ∃ A c, v = .slice A l.length c ∧ Arr W A (bs l)) (act.tmps[72]?.getD undef) W ∧ True := hu
            obtain ⟨r_pz, -⟩ := U
            generalize f7 : act.tmps[72]?.getD undef = v7 at r_pz
            clear ho hf hu
            obtain ⟨A8, c8, rfl, k8⟩ := r_pz; obtain ⟨s8, rfl, hc8⟩ := conv_any (c := c8) k8
            go_simp
            exact hK _ (Eq.refl _)
          refine And.intro (obX_pure (fun _ => Below.refl _ _) ?_) ?_
          · intro act W hR hf ho hu K hK
            replace hR := ext_drew hR
            replace hK := fun v h2 => hK v W rfl h2 trivial
            have G : act.tmps[1]?.getD undef = _ ∧ True := ho
            obtain ⟨g1, -⟩ := G
            have F : act.tmps[70]?.getD undef = _ ∧ True := hf
            obtain ⟨f5, -⟩ := F
            clear ho hf hu
            go_simp
            exact hK _ (Eq.refl _)
          refine And.intro (obX_pure (fun _ => Below.refl _ _) ?_) ?_
          · intro act W hR hf ho hu K hK
            replace hR := ext_drew hR
            replace hK := fun v h2 => hK v W rfl h2 trivial
            have F : act.tmps[74]?.getD undef = _ ∧ act.tmps[70]?.getD undef = _ ∧ True := hf
            obtain ⟨f9, f5, -⟩ := F
            clear ho hf hu
            obtain ⟨s9, rfl, hc9⟩ := conv_any (c := cb) (HA.out.1.ext (B8.out.ext.then (E9.out.then hR)))
            go_simp
            exact hK _ (Eq.refl _)
          refine And.intro (obX_pure (fun _ => Below.refl _ _) ?_) ?_
          · intro act W hR hf ho hu K hK
            replace hR := ext_drew hR
            replace hK := fun v h2 => hK v W rfl h2 trivial
            have F : act.tmps[73]?.getD undef = _ ∧ act.tmps[75]?.getD undef = _ ∧ act.tmps[70]?.getD undef = _ ∧ True := hf
            obtain ⟨f8, f10, f5, -⟩ := F
            clear ho hf hu
            go_simp
            exact hK _ (Eq.refl _)
          refine And.intro (obX_pure (fun _ => Below.refl _ _) ?_) ?_
          · intro act W hR hf ho hu K hK
            replace hR := ext_drew hR
            replace hK := fun v h2 => hK v W rfl h2 trivial
            have F : act.tmps[70]?.getD undef = _ ∧ act.tmps[76]?.getD undef = _ ∧ True := hf
            obtain ⟨f5, f11, -⟩ := F
            clear ho hf hu
            go_simp
            exact hK _ (Eq.refl _)
          refine And.intro (obX_pure (fun _ => Below.refl _ _) ?_) ?_
          · intro act W hR hf ho hu K hK
            replace hR := ext_drew hR
            replace hK := fun v h2 => hK v W rfl h2 trivial
            have F : act.tmps[77]?.getD undef = _ ∧ (fun _ _ => True) (act.tmps[72]?.getD undef) W ∧ act.tmps[65]?.getD undef = _ ∧ act.tmps[66]?.getD undef = _ ∧ act.tmps[67]?.getD undef = _ ∧ act.tmps[68]?.getD undef = _ ∧ act.tmps[69]?.getD undef = _ ∧ act.tmps[70]?.getD undef = _ ∧ act.tmps[71]?.getD undef = _ ∧ (fun _ _ => True) (act.tmps[72]?.getD undef) W ∧ act.tmps[73]?.getD undef = _ ∧ act.tmps[74]?.getD undef = _ ∧ act.tmps[75]?.getD undef = _ ∧ act.tmps[76]?.getD undef = _ ∧ act.tmps[77]?.getD undef = _ ∧ True := hf
            obtain ⟨f12, -, f0, f1, f2, f3, f4, f5, f6, -, f8, f9, f10, f11, -, -⟩ := F
            generalize f7 : act.tmps[72]?.getD undef = v7
            clear ho hf hu
            go_simp
            exact hK _ (Eq.refl _)
          exact trivial
        case stab =>
          refine And.intro is_stable ?_
          refine And.intro is_stable ?_
          refine And.intro is_stable ?_
          refine And.intro is_stable ?_
          refine And.intro is_stable ?_
          refine And.intro is_stable ?_
          refine And.intro is_stable ?_
          refine And.intro (fun _ _ _ h _ => h) ?_
          refine And.intro is_stable ?_
          refine And.intro is_stable ?_
          refine And.intro is_stable ?_
          refine And.intro is_stable ?_
          refine And.intro is_stable ?_
          refine And.intro is_stable ?_
          exact trivial
        case ends =>
          intro vals W hR hE hall
          replace hR := ext_drew hR
          clear hE
          have e4 : vals 4 = _ := hall 13 (by decide)
          clear hall
          simp only [fill, List.setIfInBounds_toArray, List.set_cons_succ, List.set_cons_zero, e4]
          go_wp2_with fail
          go_ret
          exact ⟨rfl, (B8.out.ext.then E9.out).then hR⟩
      · have HC := Lib.hid c0
        have hrow : Hid ((w8.alloc (.cells #[.bool q.strict, .int .i64 q.heap, .int .i64 q.full, .slice q.Ac q.comps.length q.cc, .slice q.Al q.links.length q.cl, .slice q.As q.shares.length q.cs] 26)).heap[w8.heap.size]? = some (.cells #[.bool q.strict, .int .i64 q.heap, .int .i64 q.full, .slice q.Ac q.comps.length q.cc, .slice q.Al q.links.length q.cl, .slice q.As q.shares.length q.cs] 26)) := Lib.hid (heap_alloc_new w8 _)
        obtain ⟨z0, z1, z2, z3, z4, z5⟩ := lie6 hrow.out (Below.refl _ _)
        rcases c1 with c1 | c1
        · rw [c1]
          clear c0 c1
          go_wp2_with fail
          refine (same_img q ⟨false, 0, 0, none, 0, [], none, 0, [], none, 0, []⟩ _ (HQ8.out.1.ext (by repeat first | (with_reducible exact Below.refl _ _) | (with_reducible apply Ext.alloc) | (with_reducible apply Ext.drew) | (with_reducible apply Ext.drewN) | (with_reducible refine Ext.set ?_ (by simp)))) (imgAt_zero _) (HQ8.out.2.trans HC.out)).mono ?_
          rintro e w9 ⟨rfl, hE⟩
          have H9 := Lib.hid ((Ext.alloc B8.out.ext _).then hE)
          clear hE
          go_wp2_with fail
          go_ret
          exact ⟨rfl, H9.out⟩
        · rw [c1]
          clear c0 c1
          go_wp2_with fail
          refine (same_img q ⟨false, 0, 0, none, 0, [], none, 0, [], none, 0, []⟩ _ (HQ8.out.1.ext (by repeat first | (with_reducible exact Below.refl _ _) | (with_reducible apply Ext.alloc) | (with_reducible apply Ext.drew) | (with_reducible apply Ext.drewN) | (with_reducible refine Ext.set ?_ (by simp)))) (imgAt_zero _) (HQ8.out.2.trans HC.out)).mono ?_
          rintro e w9 ⟨rfl, hE⟩
          have H9 := Lib.hid ((Ext.alloc B8.out.ext _).then hE)
          clear hE
          go_wp2_with fail
          go_ret
          exact ⟨rfl, H9.out⟩
    | true =>
      have hp0 : 0 < P.length := hpos.1 hr
      have hs : ∀ s ∈ x.d.shares, s.wr < 9223372036854775808 := fun s hs => by
        have := (H.out.sharesOk s hs).2
        unfold i64ok at this
        omega
      have hg : getD P = (x.d, 0) := by rw [HQ.out]; exact (get_putD hr hs).2
      have HG := Lib.hid hg
      have HPI : Hid (BytesIn P) := Lib.hid (by rw [HQ.out]; exact putD_in (img_in H.out))
      clear hpos hr hs hg
      go_wp2_with fail
      refine (imgGet_walk A c' P w4 (HP.out.1.ext HE4.out) HPI.out HP.out.2.1 HP.out.2.2).mono ?_
      rintro e w5 ⟨y, hy, hyd, rfl, hE⟩
      rw [HG.out] at hyd ⊢
      have HY := Lib.hid (And.intro hy hyd)
      have B5 : Hid (Begun w w5 x) := Lib.hid (B4.out.then hE)
      clear hy hyd hE
      have hrow : Hid ((w5.alloc (.cells #[.bool y.strict, .int .i64 y.heap, .int .i64 y.full, .slice y.Ac y.comps.length y.cc, .slice y.Al y.links.length y.cl, .slice y.As y.shares.length y.cs] 26)).heap[w5.heap.size]? = some (.cells #[.bool y.strict, .int .i64 y.heap, .int .i64 y.full, .slice y.Ac y.comps.length y.cc, .slice y.Al y.links.length y.cl, .slice y.As y.shares.length y.cs] 26)) := Lib.hid (heap_alloc_new w5 _)
      obtain ⟨y0, y1, y2, y3, y4, y5⟩ := lie6 hrow.out (Below.refl _ _)
      obtain ⟨z0, z1, z2, z3, z4, z5⟩ := lie6 B5.out.row (Below.refl _ w5)
      have hlt5 : w.heap.size < w5.heap.size := cell_lt z0
      go_wp2_with fail
      refine (same_img x y _ (H.out.ext (Ext.alloc B5.out.ext _)) (HY.out.1.ext (by repeat first | (with_reducible exact Below.refl _ _) | (with_reducible apply Ext.alloc) | (with_reducible apply Ext.drew) | (with_reducible apply Ext.drewN) | (with_reducible refine Ext.set ?_ (by simp)))) HY.out.2.symm).mono ?_
      rintro e w6 ⟨rfl, hE⟩
      have B6 : Hid (Begun w w6 x) := Lib.hid ((B5.out.then (Ext.alloc (Below.refl _ _) _)).then hE)
      clear hE y0 y1 y2 y3 y4 y5 hrow
      go_wp2_with fail
      refine (imgGet_walk Ab cb l w6 (HA.out.1.ext B6.out.ext) HA.out.2.1 HA.out.2.2 hcm).mono ?_
      rintro e w8 ⟨q, hq, hqd, rfl, hE⟩
      have B8 : Hid (Begun w w8 x) := Lib.hid (B6.out.then hE)
      clear hE
      have HQ8 := Lib.hid (And.intro hq hqd)
      clear hq hqd
      rcases getD_code l with ⟨c0, c1⟩ | ⟨c0, c1⟩
      · rw [c0]
        have HC := Lib.hid (And.intro c0 c1)
        clear c0 c1
        have hrow : Hid ((w8.alloc (.cells #[.bool q.strict, .int .i64 q.heap, .int .i64 q.full, .slice q.Ac q.comps.length q.cc, .slice q.Al q.links.length q.cl, .slice q.As q.shares.length q.cs] 26)).heap[w8.heap.size]? = some (.cells #[.bool q.strict, .int .i64 q.heap, .int .i64 q.full, .slice q.Ac q.comps.length q.cc, .slice q.Al q.links.length q.cl, .slice q.As q.shares.length q.cs] 26)) := Lib.hid (heap_alloc_new w8 _)
        obtain ⟨z0, z1, z2, z3, z4, z5⟩ := lie6 hrow.out (Below.refl _ _)
        go_wp2_with fail
        clear z0 z1 z2 z3 z4 z5
        obtain ⟨u9, hu9⟩ : ∃ u9, u9 = w8.alloc (.cells #[.bool q.strict, .int .i64 q.heap, .int .i64 q.full, .slice q.Ac q.comps.length q.cc, .slice q.Al q.links.length q.cl, .slice q.As q.shares.length q.cs] 26) := ⟨_, rfl⟩
        rw [← hu9] at hrow ⊢
        have E9 : Hid (Ext w8 u9) := Lib.hid (by rw [hu9]; exact (by repeat first | (with_reducible exact Below.refl _ _) | (with_reducible apply Ext.alloc) | (with_reducible apply Ext.drew) | (with_reducible apply Ext.drewN) | (with_reducible refine Ext.set ?_ (by simp))))
        clear hu9
        refine wp_region_res (Ext) [⟨some 7, [(7, [])], [8]⟩] [(fun (u : Nat → Value) (W : World) => (fun (v : Value) (W : World) => ∃ A c, v = .slice A l.length c ∧ Arr W A (bs l)) (u 7) W)] [⟨[], [.early [5, 4, 1, 0]]⟩, ⟨[], [.early [5, 4, 1]]⟩, ⟨[], [.early [5, 3, 2]]⟩, ⟨[], [.early [5, 3]]⟩, ⟨[], [.early [5, 4]]⟩, ⟨[], [.early [5]]⟩, ⟨[], [.early [6]]⟩, ⟨[], [.last]⟩, ⟨[(0, [7])], [.late [[]]]⟩, ⟨[], [.keep]⟩, ⟨[], [.keep]⟩, ⟨[], [.late [[8]]]⟩, ⟨[], [.late [[11, 8]]]⟩, ⟨[], [.late [[8]]]⟩] [65, 66, 67, 68, 69, 70, 71, 72, 73, 74, 75, 76, 77, 4] (by kernel_rfl) (fun _ => Below.refl _ _) (fun _ _ _ => Ext.then) (by kernel_rfl) (by kernel_rfl) (by kernel_rfl) (by kernel_rfl) (by kernel_rfl) ?start ?_
        case start =>
          exact trivial
        apply ex_is; apply Exists.intro
        apply ex_is; apply Exists.intro
        apply ex_is; apply Exists.intro
        apply ex_is; apply Exists.intro
        apply ex_is; apply Exists.intro
        apply ex_is; apply Exists.intro
        apply ex_is; apply Exists.intro
        refine ex_phi (fun _ _ => True) ?_
        apply ex_is; apply Exists.intro
        apply ex_is; apply Exists.intro
        apply ex_is; apply Exists.intro
        apply ex_is; apply Exists.intro
        apply ex_is; apply Exists.intro
        apply ex_is; apply Exists.intro
        refine ⟨[], ⟨?steps, ?stab, ?ends⟩⟩
        case steps =>
          refine And.intro (obX_pure (fun _ => Below.refl _ _) ?_) ?_
          · intro act W hR hf ho hu K hK
            replace hR := ext_drew hR
            replace hK := fun v h2 => hK v W rfl h2 trivial
            have G : act.tmps[5]?.getD undef = _ ∧ True := ho
            obtain ⟨g5, -⟩ := G
            clear ho hf hu
            go_simp
            exact hK _ (Eq.refl _)
          refine And.intro (obX_pure (fun _ => Below.refl _ _) ?_) ?_
          · intro act W hR hf ho hu K hK
            replace hR := ext_drew hR
            replace hK := fun v h2 => hK v W rfl h2 trivial
            have F : act.tmps[65]?.getD undef = _ ∧ True := hf
            obtain ⟨f0, -⟩ := F
            clear ho hf hu
            go_simp
            exact hK _ (Eq.refl _)
          refine And.intro (obX_pure (fun _ => Below.refl _ _) ?_) ?_
          · intro act W hR hf ho hu K hK
            replace hR := ext_drew hR
            replace hK := fun v h2 => hK v W rfl h2 trivial
            have G : act.tmps[9]?.getD undef = _ ∧ True := ho
            obtain ⟨g9, -⟩ := G
            have F : act.tmps[66]?.getD undef = _ ∧ True := hf
            obtain ⟨f1, -⟩ := F
            clear ho hf hu
            obtain ⟨z0, z1, z2, z3, z4, z5⟩ := lie6 hrow.out hR
            go_simp
            exact hK _ (Eq.refl _)
          refine And.intro (obX_eff (Ext) (fun _ _ h => h) (trivial) ?_) ?_
          · intro act W hR hf ho hu K hK
            replace hR := ext_drew hR
            replace hK := fun v (w' : World) (h1 : (Ext) W w') h2 => hK v w' h1 h2 trivial
            have F : act.tmps[67]?.getD undef = _ ∧ act.tmps[66]?.getD undef = _ ∧ act.tmps[66]?.getD undef = _ ∧ True := hf
            obtain ⟨f2, f1, -, -⟩ := F
            clear ho hf hu
            go_simp
            refine (imgRight_any q W (HQ8.out.1.ext (E9.out.then hR))).mono ?_; rintro e W1 ⟨rfl, hE⟩; rw [HQ8.out.2, HC.out.2]; exact hK _ _ hE (Eq.refl _)
          refine And.intro (obX_pure (fun _ => Below.refl _ _) ?_) ?_
          · intro act W hR hf ho hu K hK
            replace hR := ext_drew hR
            replace hK := fun v h2 => hK v W rfl h2 trivial
            have F : act.tmps[66]?.getD undef = _ ∧ act.tmps[68]?.getD undef = _ ∧ True := hf
            obtain ⟨f1, f3, -⟩ := F
            clear ho hf hu
            go_simp
            exact hK _ (Eq.refl _)
          refine And.intro (obX_pure (fun _ => Below.refl _ _) ?_) ?_
          · intro act W hR hf ho hu K hK
            replace hR := ext_drew hR
            replace hK := fun v h2 => hK v W rfl h2 trivial
            have F : act.tmps[69]?.getD undef = _ ∧ act.tmps[68]?.getD undef = _ ∧ True := hf
            obtain ⟨f4, f3, -⟩ := F
            clear ho hf hu
            go_simp
            exact hK _ (Eq.refl _)
          refine And.intro (obX_pure (fun _ => Below.refl _ _) ?_) ?_
          · intro act W hR hf ho hu K hK
            replace hR := ext_drew hR
            replace hK := fun v h2 => hK v W rfl h2 trivial
            have G : act.tmps[9]?.getD undef = _ ∧ True := ho
            obtain ⟨g9, -⟩ := G
            have F : act.tmps[70]?.getD undef = _ ∧ True := hf
            obtain ⟨f5, -⟩ := F
            clear ho hf hu
            obtain ⟨z0, z1, z2, z3, z4, z5⟩ := lie6 hrow.out hR
            go_simp
            exact hK _ (Eq.refl _)
          refine And.intro (obX_eff (Ext) (fun _ _ h => h) (trivial) ?_) ?_
          · intro act W hR hf ho hu K hK
            replace hR := ext_drew hR
            replace hK := fun v (w' : World) (h1 : (Ext) W w') (b0 : (fun (v : Value) (W : World) => ∃ A c, v = .slice A l.length c ∧ Arr W A (bs l)) (v) w') => hK v w' h1 trivial ⟨b0, trivial⟩
            have F : act.tmps[71]?.getD undef = _ ∧ act.tmps[70]?.getD undef = _ ∧ act.tmps[70]?.getD undef = _ ∧ True := hf
            obtain ⟨f6, f5, -, -⟩ := F
            clear ho hf hu
            go_simp
            refine (imgPut_any q W (HQ8.out.1.ext (E9.out.then hR))).mono ?_; rintro e W1 ⟨v, rfl, ho, hE⟩; rw [HQ8.out.2, (put_getD HA.out.2.1 HC.out.1).2] at ho; obtain ⟨A7, c7, rfl, hc7, ha7⟩ := Arr.own ho; exact hK _ _ hE ⟨A7, c7, rfl, ha7⟩
          refine And.intro (obX_pure (fun _ => Below.refl _ _) ?_) ?_
          · intro act W hR hf ho hu K hK
            replace hR := ext_drew hR
            replace hK := fun v h2 => hK v W rfl h2 trivial
            have F : (fun _ _ => True) (act.tmps[72]?.getD undef) W ∧ act.tmps[70]?.getD undef = _ ∧ True := hf
            obtain ⟨-, f5, -⟩ := F
            have U : (fun (v : Value) (W : World) => ∃ A c, v = .slice A l.length c ∧ Arr W A (bs l)) (act.tmps[72]?.getD undef) W ∧ True := hu
            obtain ⟨r_pz, -⟩ := U
            generalize f7 : act.tmps[72]?.getD undef = v7 at r_pz
            clear ho hf hu
            obtain ⟨A8, c8, rfl, k8⟩ := r_pz; obtain ⟨s8, rfl, hc8⟩ := conv_any (c := c8) k8
            go_simp
            exact hK _ (Eq.refl _)
          refine And.intro (obX_pure (fun _ => Below.refl _ _) ?_) ?_
          · intro act W hR hf ho hu K hK
            replace hR := ext_drew hR
            replace hK := fun v h2 => hK v W rfl h2 trivial
            have G : act.tmps[1]?.getD undef = _ ∧ True := ho
            obtain ⟨g1, -⟩ := G
            have F : act.tmps[70]?.getD undef = _ ∧ True := hf
            obtain ⟨f5, -⟩ := F
            clear ho hf hu
            go_simp
            exact hK _ (Eq.refl _)
          refine And.intro (obX_pure (fun _ => Below.refl _ _) ?_) ?_
          · intro act W hR hf ho hu K hK
            replace hR := ext_drew hR
            replace hK := fun v h2 => hK v W rfl h2 trivial
            have F : act.tmps[74]?.getD undef = _ ∧ act.tmps[70]?.getD undef = _ ∧ True := hf
            obtain ⟨f9, f5, -⟩ := F
            clear ho hf hu
            obtain ⟨s9, rfl, hc9⟩ := conv_any (c := cb) (HA.out.1.ext (B8.out.ext.then (E9.out.then hR)))
            go_simp
            exact hK _ (Eq.refl _)
          refine And.intro (obX_pure (fun _ => Below.refl _ _) ?_) ?_
          · intro act W hR hf ho hu K hK
            replace hR := ext_drew hR
            replace hK := fun v h2 => hK v W rfl h2 trivial
            have F : act.tmps[73]?.getD undef = _ ∧ act.tmps[75]?.getD undef = _ ∧ act.tmps[70]?.getD undef = _ ∧ True := hf
            obtain ⟨f8, f10, f5, -⟩ := F
            clear ho hf hu
            go_simp
            exact hK _ (Eq.refl _)
          refine And.intro (obX_pure (fun _ => Below.refl _ _) ?_) ?_
          · intro act W hR hf ho hu K hK
            replace hR := ext_drew hR
            replace hK := fun v h2 => hK v W rfl h2 trivial
            have F : act.tmps[70]?.getD undef = _ ∧ act.tmps[76]?.getD undef = _ ∧ True := hf
            obtain ⟨f5, f11, -⟩ := F
            clear ho hf hu
            go_simp
            exact hK _ (Eq.refl _)
          refine And.intro (obX_pure (fun _ => Below.refl _ _) ?_) ?_
          · intro act W hR hf ho hu K hK
            replace hR := ext_drew hR
            replace hK := fun v h2 => hK v W rfl h2 trivial
            have F : act.tmps[77]?.getD undef = _ ∧ (fun _ _ => True) (act.tmps[72]?.getD undef) W ∧ act.tmps[65]?.getD undef = _ ∧ act.tmps[66]?.getD undef = _ ∧ act.tmps[67]?.getD undef = _ ∧ act.tmps[68]?.getD undef = _ ∧ act.tmps[69]?.getD undef = _ ∧ act.tmps[70]?.getD undef = _ ∧ act.tmps[71]?.getD undef = _ ∧ (fun _ _ => True) (act.tmps[72]?.getD undef) W ∧ act.tmps[73]?.getD undef = _ ∧ act.tmps[74]?.getD undef = _ ∧ act.tmps[75]?.getD undef = _ ∧ act.tmps[76]?.getD undef = _ ∧ act.tmps[77]?.getD undef = _ ∧ True := hf
            obtain ⟨f12, -, f0, f1, f2, f3, f4, f5, f6, -, f8, f9, f10, f11, -, -⟩ := F
            generalize f7 : act.tmps[72]?.getD undef = v7
            clear ho hf hu
            go_simp
            exact hK _ (Eq.refl _)
          exact trivial
        case stab =>
          refine And.intro is_stable ?_
          refine And.intro is_stable ?_
          refine And.intro is_stable ?_
          refine And.intro is_stable ?_
          refine And.intro is_stable ?_
          refine And.intro is_stable ?_
          refine And.intro is_stable ?_
          refine And.intro (fun _ _ _ h _ => h) ?_
          refine And.intro is_stable ?_
          refine And.intro is_stable ?_
          refine And.intro is_stable ?_
          refine And.intro is_stable ?_
          refine And.intro is_stable ?_
          refine And.intro is_stable ?_
          exact trivial
        case ends =>
          intro vals W hR hE hall
          replace hR := ext_drew hR
          clear hE
          have e4 : vals 4 = _ := hall 13 (by decide)
          clear hall
          simp only [fill, List.setIfInBounds_toArray, List.set_cons_succ, List.set_cons_zero, e4]
          go_wp2_with fail
          go_ret
          exact ⟨rfl, (B8.out.ext.then E9.out).then hR⟩
      · have HC := Lib.hid c0
        have hrow : Hid ((w8.alloc (.cells #[.bool q.strict, .int .i64 q.heap, .int .i64 q.full, .slice q.Ac q.comps.length q.cc, .slice q.Al q.links.length q.cl, .slice q.As q.shares.length q.cs] 26)).heap[w8.heap.size]? = some (.cells #[.bool q.strict, .int .i64 q.heap, .int .i64 q.full, .slice q.Ac q.comps.length q.cc, .slice q.Al q.links.length q.cl, .slice q.As q.shares.length q.cs] 26)) := Lib.hid (heap_alloc_new w8 _)
        obtain ⟨z0, z1, z2, z3, z4, z5⟩ := lie6 hrow.out (Below.refl _ _)
        rcases c1 with c1 | c1
        · rw [c1]
          clear c0 c1
          go_wp2_with fail
          refine (same_img q ⟨false, 0, 0, none, 0, [], none, 0, [], none, 0, []⟩ _ (HQ8.out.1.ext (by repeat first | (with_reducible exact Below.refl _ _) | (with_reducible apply Ext.alloc) | (with_reducible apply Ext.drew) | (with_reducible apply Ext.drewN) | (with_reducible refine Ext.set ?_ (by simp)))) (imgAt_zero _) (HQ8.out.2.trans HC.out)).mono ?_
          rintro e w9 ⟨rfl, hE⟩
          have H9 := Lib.hid ((Ext.alloc B8.out.ext _).then hE)
          clear hE
          go_wp2_with fail
          go_ret
          exact ⟨rfl, H9.out⟩
        · rw [c1]
          clear c0 c1
          go_wp2_with fail
          refine (same_img q ⟨false, 0, 0, none, 0, [], none, 0, [], none, 0, []⟩ _ (HQ8.out.1.ext (by repeat first | (with_reducible exact Below.refl _ _) | (with_reducible apply Ext.alloc) | (with_reducible apply Ext.drew) | (with_reducible apply Ext.drewN) | (with_reducible refine Ext.set ?_ (by simp)))) (imgAt_zero _) (HQ8.out.2.trans HC.out)).mono ?_
          rintro e w9 ⟨rfl, hE⟩
          have H9 := Lib.hid ((Ext.alloc B8.out.ext _).then hE)
          clear hE
          go_wp2_with fail
          go_ret
          exact ⟨rfl, H9.out⟩
end Go.Proofs.Ytgfnpcoigooblaa

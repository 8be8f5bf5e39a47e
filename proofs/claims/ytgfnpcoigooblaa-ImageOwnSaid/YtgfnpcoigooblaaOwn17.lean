
/- ImageOwn: the law returns true. -/
import Derived.Test.YtgfnpcoigooblaaBack17
import Derived.Test.YtgfnpcoigooblaaCapR
set_option linter.all false
namespace Go.Proofs.Ytgfnpcoigooblaa
open Go.RowKit
attribute [local go_sem] seen dstOf boolOf
set_option maxHeartbeats 8000000 in
set_option maxRecDepth 100000 in
theorem own17_any (x : ImgM) (a b : Int) (w : World) (h : ImgAt w x) (h1 : x.comps.length ≤ 8796093021952) (h2 : x.links.length ≤ 8796093021952) (h3 : x.shares.length ≤ 8796093021952) (a0 : 0 ≤ a) (a1 : a < 256) (b0 : 0 ≤ b) (b1 : b < 256) :
    Calls Try.prog 7 #[x.val, .int .u8 a, .int .u8 b] w fun e w' => e = .returned (.bool true) ∧ Ext w w' := by
  have H := Lib.hid h
  clear h
  go_enter Try.func7, Try.ntmps7
  go_wp2_with fail
  refine (head17 _).mono ?_
  rintro e w1 ⟨rfl, hE1⟩
  have B1 : Hid (Begun w w1 x) := Lib.hid ⟨(Ext.alloc (Below.refl _ w) _).then hE1, (hE1.block _ (by simp)).trans (heap_alloc_new w _)⟩
  clear hE1
  obtain ⟨z0, z1, z2, z3, z4, z5⟩ := lie6 B1.out.row (Below.refl _ w1)
  have hlt : w.heap.size < w1.heap.size := cell_lt z0
  go_wp2_with fail
  refine (great_any x w1 (H.out.ext B1.out.ext) h1 h2 h3).mono ?_
  rintro e w2 ⟨b, rfl, hE⟩
  have B2 : Hid (Begun w w2 x) := Lib.hid (B1.out.then hE)
  clear hE B1
  cases b with
  | true =>
    go_wp2_with fail
    go_ret
    exact ⟨rfl, B2.out.ext⟩
  | false =>
    obtain ⟨z0, z1, z2, z3, z4, z5⟩ := lie6 B2.out.row (Below.refl _ w2)
    have hlt2 : w.heap.size < w2.heap.size := cell_lt z0
    go_wp2_with fail
    refine (imgRight_any x w2 (H.out.ext B2.out.ext)).mono ?_
    rintro e w3 ⟨rfl, hE⟩
    have B3 : Hid (Begun w w3 x) := Lib.hid (B2.out.then hE)
    clear hE B2
    cases hr : rightD x.d with
    | false =>
      go_wp2_with fail
      go_ret
      exact ⟨rfl, B3.out.ext⟩
    | true =>
      have HR := Lib.hid hr
      have hn := (right_form hr).n
      have hdl : x.d.comps.length = x.comps.length := by simp [ImgM.d]
      rw [hdl] at hn
      obtain ⟨i, hi, him⟩ : ∃ m : Nat, m < x.comps.length ∧ a % (x.comps.length : Int) = m := by
        have g1 := Int.emod_nonneg a (show (x.comps.length : Int) ≠ 0 by omega)
        have g2 := Int.emod_lt_of_pos a (show (0 : Int) < x.comps.length by omega)
        exact ⟨(a % (x.comps.length : Int)).toNat, by omega, by omega⟩
      obtain ⟨k, hk, hkm⟩ : ∃ m : Nat, m < x.comps.length ∧ b % (x.comps.length : Int) = m := by
        have g1 := Int.emod_nonneg b (show (x.comps.length : Int) ≠ 0 by omega)
        have g2 := Int.emod_lt_of_pos b (show (0 : Int) < x.comps.length by omega)
        exact ⟨(b % (x.comps.length : Int)).toNat, by omega, by omega⟩
      have HD := Lib.hid hdl
      clear hr hdl
      obtain ⟨z0, z1, z2, z3, z4, z5⟩ := lie6 B3.out.row (Below.refl _ w3)
      have hlt3 : w.heap.size < w3.heap.size := cell_lt z0
      go_wp2_with fail
      refine (grants_img x i w3 (H.out.ext B3.out.ext) (by unfold i64ok; omega)).mono ?_
      rintro e w4 ⟨v4, rfl, ho4, hE⟩
      have B4 : Hid (Begun w w4 x) := Lib.hid (B3.out.then hE)
      obtain ⟨A4, c4, rfl, hc4, ha4⟩ := Arr.own ho4
      have HA4 := Lib.hid ha4
      clear hE ho4 ha4 hc4 B3
      obtain ⟨z0, z1, z2, z3, z4, z5⟩ := lie6 B4.out.row (Below.refl _ w4)
      have hlt4 : w.heap.size < w4.heap.size := cell_lt z0
      go_wp2_with fail
      refine (grants_img x k w4 (H.out.ext B4.out.ext) (by unfold i64ok; omega)).mono ?_
      rintro e w5 ⟨v5, rfl, ho5, hE⟩
      have B5 : Hid (Begun w w5 x) := Lib.hid (B4.out.then hE)
      obtain ⟨A5, c5, rfl, hc5, ha5⟩ := Arr.own ho5
      have HA5 := Lib.hid (And.intro (HA4.out.ext hE) ha5)
      clear hE ho5 ha5 hc5 B4 HA4
      obtain ⟨z0, z1, z2, z3, z4, z5⟩ := lie6 B5.out.row (Below.refl _ w5)
      have hlt5 : w.heap.size < w5.heap.size := cell_lt z0
      go_wp2_with fail
      refine (pairs_img x i w5 (H.out.ext B5.out.ext) (by unfold i64ok; omega)).mono ?_
      rintro e U ⟨v6, rfl, ho6, hE⟩
      have Bu : Hid (Ext w U) := Lib.hid (B5.out.ext.then hE)
      obtain ⟨A6, c6, rfl, hc6, ha6⟩ := Arr.own ho6
      have HA := Lib.hid (And.intro (HA5.out.1.ext hE) (And.intro (HA5.out.2.ext hE) ha6))
      have hdi : i < x.d.comps.length := by rw [HD.out]; exact hi
      have hdk : k < x.d.comps.length := by rw [HD.out]; exact hk
      have hg3 := grants_three HR.out hdi
      have hk3 := grants_three HR.out hdk
      have HG := Lib.hid (And.intro (fun c hc => grants_own HR.out hdi (c := c) hc) (And.intro (fun hik {j l c d} hc hd h3 => grants_apart HR.out hdi hdk hik (j := j) (l := l) (c := c) (d := d) hc hd h3) (And.intro (fun {p} hp => pairs_own HR.out (i := (i : Int)) (p := p) hp) (fun {c} hc h32 {t} ht => grants_types HR.out hdk (c := c) hc h32 (t := t) ht))))
      have HGK := Lib.hid (fun c hc => (grants_own HR.out hdk (c := c) hc).1)
      have hgl : (grantsD x.d i).length ≤ 1000 := by rw [grants_eq HR.out hdi, List.length_append]; have := shareGs_len i (whereD x.d) x.d.shares x.d.shares.length; have := (right_form HR.out).ns; simp [grants3]; omega
      have hkl : (grantsD x.d k).length ≤ 1000 := by rw [grants_eq HR.out hdk, List.length_append]; have := shareGs_len k (whereD x.d) x.d.shares x.d.shares.length; have := (right_form HR.out).ns; simp [grants3]; omega
      have hpl : (pairsD x.d i).length ≤ 1000 := by unfold pairsD; rw [if_pos HR.out]; have := pairsP_len i (whereD x.d) x.d.links x.d.links.length; have := (right_form HR.out).nl; omega
      clear him hkm hE ho6 ha6 hc6 B5 HA5 hdi hdk z0 z1 z2 z3 z4 z5 hlt hlt2 hlt3 hlt4 hlt5
      generalize grantsD x.d i = G at HA HG hg3 hgl ⊢
      generalize grantsD x.d k = K at HA HG HGK hk3 hkl ⊢
      generalize pairsD x.d i = P at HA HG hpl ⊢
      go_wp2_with fail
      go_loopw [14] (fun ii wo => ∃ j : Nat, j ≤ G.length ∧ ii = .int .i64 (j : Int) ∧ Ext U wo) (fun ii _ => G.length - (intOf ii).toNat)
      case atStart => exact ⟨0, Nat.zero_le _, rfl, Below.refl _ _⟩
      case round =>
        obtain ⟨j, hj, rfl, hE⟩ := hrel
        by_cases hlj : j < G.length
        · obtain ⟨bg, og, rfl, hbg, x0, x1, x2, x3, x4, x5⟩ := cap_row (HA.out.1.ext hE) hlj
          obtain ⟨hrc, htag, hty, hat⟩ := HG.out.1 G[j] (List.getElem_mem hlj)
          have hjj : G[j]? = some G[j] := List.getElem?_eq_getElem hlj
          have hap : Hid (∀ (l : Nat) (d : Cap), i ≠ k → K[l]? = some d → (j < 3 ∨ l < 3) → ¬ (G[j].base < d.top ∧ d.base < G[j].top)) := Lib.hid (fun l d hik hd h3 => HG.out.2.1 hik hjj hd h3)
          clear hjj
          generalize G[j] = cg at x0 x1 x2 x3 x4 x5 hrc htag hty hat hap
          obtain ⟨tg, b9, tp, gb, pm, ty⟩ := cg
          simp only at x0 x1 x2 x3 x4 x5 htag hty hat hap
          subst htag hty hat
          have HE := Lib.hid (And.intro hE hrc)
          clear hE hrc
          go_wp2_with fail
          refine wp_region_obl Ext [62, 63, 64, 65, 66, 67, 68, 69, 70, 71, 72, 73, 74, 75, 76, 77, 78, 79, 80, 81, 82, 83, 84, 85, 86, 87, 88, 89, 90, 91, 92, 93, 94, 95, 96] (by kernel_rfl) (fun _ => Below.refl _ _) (fun _ _ _ => Ext.then) (by kernel_rfl) (by kernel_rfl) ?_
          apply ex_is; apply Exists.intro
          apply ex_is; apply Exists.intro
          apply ex_is; apply Exists.intro
          apply ex_is; apply Exists.intro
          apply ex_is; apply Exists.intro
          apply ex_is; apply Exists.intro
          apply ex_is; apply Exists.intro
          apply ex_is; apply Exists.intro
          apply ex_is; apply Exists.intro
          apply ex_is; apply Exists.intro
          apply ex_is; apply Exists.intro
          apply ex_is; apply Exists.intro
          apply ex_is; apply Exists.intro
          apply ex_is; apply Exists.intro
          apply ex_is; apply Exists.intro
          apply ex_is; apply Exists.intro
          apply ex_is; apply Exists.intro
          apply ex_is; apply Exists.intro
          apply ex_is; apply Exists.intro
          apply ex_is; apply Exists.intro
          apply ex_is; apply Exists.intro
          apply ex_is; apply Exists.intro
          apply ex_is; apply Exists.intro
          apply ex_is; apply Exists.intro
          apply ex_is; apply Exists.intro
          apply ex_is; apply Exists.intro
          apply ex_is; apply Exists.intro
          apply ex_is; apply Exists.intro
          apply ex_is; apply Exists.intro
          apply ex_is; apply Exists.intro
          apply ex_is; apply Exists.intro
          apply ex_is; apply Exists.intro
          apply ex_is; apply Exists.intro
          apply ex_is; apply Exists.intro
          apply ex_is; apply Exists.intro
          refine ⟨[], ⟨?steps, ?stab, ?ends⟩⟩
          case steps =>
            refine And.intro ?_ ?_
            · intro a W hR hf ho K hK
              replace hR := ext_drew hR
              have G : a.tmps[11]?.getD undef = _ ∧ True := ho
              obtain ⟨g11, -⟩ := G
              clear ho hf
              go_simp
              exact hK _ _ (Below.refl _ _) (Eq.refl _)
            refine And.intro ?_ ?_
            · intro a W hR hf ho K hK
              replace hR := ext_drew hR
              have G : a.tmps[14]?.getD undef = _ ∧ True := ho
              obtain ⟨g14, -⟩ := G
              clear ho hf
              go_simp
              exact hK _ _ (Below.refl _ _) (Eq.refl _)
            refine And.intro ?_ ?_
            · intro a W hR hf ho K hK
              replace hR := ext_drew hR
              have F : a.tmps[62]?.getD undef = _ ∧ a.tmps[63]?.getD undef = _ ∧ True := hf
              obtain ⟨f0, f1, -⟩ := F
              clear ho hf
              go_simp
              exact hK _ _ (Below.refl _ _) (Eq.refl _)
            refine And.intro ?_ ?_
            · intro a W hR hf ho K hK
              replace hR := ext_drew hR
              have F : a.tmps[64]?.getD undef = _ ∧ True := hf
              obtain ⟨f2, -⟩ := F
              clear ho hf
              replace x0 := ext_cell hR _ _ x0; replace x1 := ext_cell hR _ _ x1; replace x2 := ext_cell hR _ _ x2; replace x3 := ext_cell hR _ _ x3; replace x4 := ext_cell hR _ _ x4; replace x5 := ext_cell hR _ _ x5
              go_simp
              exact hK _ _ (Below.refl _ _) (Eq.refl _)
            refine And.intro ?_ ?_
            · intro a W hR hf ho K hK
              replace hR := ext_drew hR
              have F : a.tmps[65]?.getD undef = _ ∧ True := hf
              obtain ⟨f3, -⟩ := F
              clear ho hf
              go_simp
              refine (capR_any ⟨true, gb, tp, gb, pm, 0⟩ W).mono ?_; rintro e W1 ⟨rfl, hE⟩; rw [HE.out.2]; exact hK _ _ hE (Eq.refl _)
            refine And.intro ?_ ?_
            · intro a W hR hf ho K hK
              replace hR := ext_drew hR
              have F : a.tmps[66]?.getD undef = _ ∧ True := hf
              obtain ⟨f4, -⟩ := F
              clear ho hf
              go_simp
              exact hK _ _ (Below.refl _ _) (Eq.refl _)
            refine And.intro ?_ ?_
            · intro a W hR hf ho K hK
              replace hR := ext_drew hR
              have F : a.tmps[67]?.getD undef = _ ∧ a.tmps[66]?.getD undef = _ ∧ True := hf
              obtain ⟨f5, f4, -⟩ := F
              clear ho hf
              go_simp
              exact hK _ _ (Below.refl _ _) (Eq.refl _)
            refine And.intro ?_ ?_
            · intro a W hR hf ho K hK
              replace hR := ext_drew hR
              have G : a.tmps[11]?.getD undef = _ ∧ True := ho
              obtain ⟨g11, -⟩ := G
              have F : a.tmps[68]?.getD undef = _ ∧ True := hf
              obtain ⟨f6, -⟩ := F
              clear ho hf
              go_simp
              exact hK _ _ (Below.refl _ _) (Eq.refl _)
            refine And.intro ?_ ?_
            · intro a W hR hf ho K hK
              replace hR := ext_drew hR
              have G : a.tmps[14]?.getD undef = _ ∧ True := ho
              obtain ⟨g14, -⟩ := G
              have F : a.tmps[68]?.getD undef = _ ∧ True := hf
              obtain ⟨f6, -⟩ := F
              clear ho hf
              go_simp
              exact hK _ _ (Below.refl _ _) (Eq.refl _)
            refine And.intro ?_ ?_
            · intro a W hR hf ho K hK
              replace hR := ext_drew hR
              have F : a.tmps[69]?.getD undef = _ ∧ a.tmps[70]?.getD undef = _ ∧ a.tmps[68]?.getD undef = _ ∧ True := hf
              obtain ⟨f7, f8, f6, -⟩ := F
              clear ho hf
              go_simp
              exact hK _ _ (Below.refl _ _) (Eq.refl _)
            refine And.intro ?_ ?_
            · intro a W hR hf ho K hK
              replace hR := ext_drew hR
              have F : a.tmps[71]?.getD undef = _ ∧ a.tmps[68]?.getD undef = _ ∧ True := hf
              obtain ⟨f9, f6, -⟩ := F
              clear ho hf
              go_simp
              exact hK _ _ (Below.refl _ _) (Eq.refl _)
            refine And.intro ?_ ?_
            · intro a W hR hf ho K hK
              replace hR := ext_drew hR
              have F : a.tmps[72]?.getD undef = _ ∧ a.tmps[68]?.getD undef = _ ∧ True := hf
              obtain ⟨f10, f6, -⟩ := F
              clear ho hf
              replace x0 := ext_cell hR _ _ x0; replace x1 := ext_cell hR _ _ x1; replace x2 := ext_cell hR _ _ x2; replace x3 := ext_cell hR _ _ x3; replace x4 := ext_cell hR _ _ x4; replace x5 := ext_cell hR _ _ x5
              go_simp
              exact hK _ _ (Below.refl _ _) (Eq.refl _)
            refine And.intro ?_ ?_
            · intro a W hR hf ho K hK
              replace hR := ext_drew hR
              have F : a.tmps[73]?.getD undef = _ ∧ a.tmps[68]?.getD undef = _ ∧ True := hf
              obtain ⟨f11, f6, -⟩ := F
              clear ho hf
              go_simp
              exact hK _ _ (Below.refl _ _) (Eq.refl _)
            refine And.intro ?_ ?_
            · intro a W hR hf ho K hK
              replace hR := ext_drew hR
              have F : a.tmps[68]?.getD undef = _ ∧ a.tmps[74]?.getD undef = _ ∧ True := hf
              obtain ⟨f6, f12, -⟩ := F
              clear ho hf
              go_simp
              exact hK _ _ (Below.refl _ _) (Eq.refl _)
            refine And.intro ?_ ?_
            · intro a W hR hf ho K hK
              replace hR := ext_drew hR
              have F : a.tmps[75]?.getD undef = _ ∧ a.tmps[68]?.getD undef = _ ∧ True := hf
              obtain ⟨f13, f6, -⟩ := F
              clear ho hf
              go_simp
              exact hK _ _ (Below.refl _ _) (Eq.refl _)
            refine And.intro ?_ ?_
            · intro a W hR hf ho K hK
              replace hR := ext_drew hR
              have G : a.tmps[11]?.getD undef = _ ∧ True := ho
              obtain ⟨g11, -⟩ := G
              have F : a.tmps[76]?.getD undef = _ ∧ True := hf
              obtain ⟨f14, -⟩ := F
              clear ho hf
              go_simp
              exact hK _ _ (Below.refl _ _) (Eq.refl _)
            refine And.intro ?_ ?_
            · intro a W hR hf ho K hK
              replace hR := ext_drew hR
              have G : a.tmps[14]?.getD undef = _ ∧ True := ho
              obtain ⟨g14, -⟩ := G
              have F : a.tmps[76]?.getD undef = _ ∧ True := hf
              obtain ⟨f14, -⟩ := F
              clear ho hf
              go_simp
              exact hK _ _ (Below.refl _ _) (Eq.refl _)
            refine And.intro ?_ ?_
            · intro a W hR hf ho K hK
              replace hR := ext_drew hR
              have F : a.tmps[77]?.getD undef = _ ∧ a.tmps[78]?.getD undef = _ ∧ a.tmps[76]?.getD undef = _ ∧ True := hf
              obtain ⟨f15, f16, f14, -⟩ := F
              clear ho hf
              go_simp
              exact hK _ _ (Below.refl _ _) (Eq.refl _)
            refine And.intro ?_ ?_
            · intro a W hR hf ho K hK
              replace hR := ext_drew hR
              have F : a.tmps[79]?.getD undef = _ ∧ a.tmps[76]?.getD undef = _ ∧ True := hf
              obtain ⟨f17, f14, -⟩ := F
              clear ho hf
              go_simp
              exact hK _ _ (Below.refl _ _) (Eq.refl _)
            refine And.intro ?_ ?_
            · intro a W hR hf ho K hK
              replace hR := ext_drew hR
              have F : a.tmps[80]?.getD undef = _ ∧ a.tmps[76]?.getD undef = _ ∧ True := hf
              obtain ⟨f18, f14, -⟩ := F
              clear ho hf
              replace x0 := ext_cell hR _ _ x0; replace x1 := ext_cell hR _ _ x1; replace x2 := ext_cell hR _ _ x2; replace x3 := ext_cell hR _ _ x3; replace x4 := ext_cell hR _ _ x4; replace x5 := ext_cell hR _ _ x5
              go_simp
              exact hK _ _ (Below.refl _ _) (Eq.refl _)
            refine And.intro ?_ ?_
            · intro a W hR hf ho K hK
              replace hR := ext_drew hR
              have F : a.tmps[81]?.getD undef = _ ∧ a.tmps[76]?.getD undef = _ ∧ True := hf
              obtain ⟨f19, f14, -⟩ := F
              clear ho hf
              go_simp
              exact hK _ _ (Below.refl _ _) (Eq.refl _)
            refine And.intro ?_ ?_
            · intro a W hR hf ho K hK
              replace hR := ext_drew hR
              have F : a.tmps[76]?.getD undef = _ ∧ a.tmps[82]?.getD undef = _ ∧ True := hf
              obtain ⟨f14, f20, -⟩ := F
              clear ho hf
              go_simp
              exact hK _ _ (Below.refl _ _) (Eq.refl _)
            refine And.intro ?_ ?_
            · intro a W hR hf ho K hK
              replace hR := ext_drew hR
              have F : a.tmps[83]?.getD undef = _ ∧ a.tmps[76]?.getD undef = _ ∧ True := hf
              obtain ⟨f21, f14, -⟩ := F
              clear ho hf
              go_simp
              exact hK _ _ (Below.refl _ _) (Eq.refl _)
            refine And.intro ?_ ?_
            · intro a W hR hf ho K hK
              replace hR := ext_drew hR
              have G : a.tmps[11]?.getD undef = _ ∧ True := ho
              obtain ⟨g11, -⟩ := G
              have F : a.tmps[84]?.getD undef = _ ∧ True := hf
              obtain ⟨f22, -⟩ := F
              clear ho hf
              go_simp
              exact hK _ _ (Below.refl _ _) (Eq.refl _)
            refine And.intro ?_ ?_
            · intro a W hR hf ho K hK
              replace hR := ext_drew hR
              have G : a.tmps[14]?.getD undef = _ ∧ True := ho
              obtain ⟨g14, -⟩ := G
              have F : a.tmps[84]?.getD undef = _ ∧ True := hf
              obtain ⟨f22, -⟩ := F
              clear ho hf
              go_simp
              exact hK _ _ (Below.refl _ _) (Eq.refl _)
            refine And.intro ?_ ?_
            · intro a W hR hf ho K hK
              replace hR := ext_drew hR
              have F : a.tmps[85]?.getD undef = _ ∧ a.tmps[86]?.getD undef = _ ∧ a.tmps[84]?.getD undef = _ ∧ True := hf
              obtain ⟨f23, f24, f22, -⟩ := F
              clear ho hf
              go_simp
              exact hK _ _ (Below.refl _ _) (Eq.refl _)
            refine And.intro ?_ ?_
            · intro a W hR hf ho K hK
              replace hR := ext_drew hR
              have F : a.tmps[87]?.getD undef = _ ∧ a.tmps[84]?.getD undef = _ ∧ True := hf
              obtain ⟨f25, f22, -⟩ := F
              clear ho hf
              go_simp
              exact hK _ _ (Below.refl _ _) (Eq.refl _)
            refine And.intro ?_ ?_
            · intro a W hR hf ho K hK
              replace hR := ext_drew hR
              have F : a.tmps[88]?.getD undef = _ ∧ a.tmps[84]?.getD undef = _ ∧ True := hf
              obtain ⟨f26, f22, -⟩ := F
              clear ho hf
              replace x0 := ext_cell hR _ _ x0; replace x1 := ext_cell hR _ _ x1; replace x2 := ext_cell hR _ _ x2; replace x3 := ext_cell hR _ _ x3; replace x4 := ext_cell hR _ _ x4; replace x5 := ext_cell hR _ _ x5
              go_simp
              exact hK _ _ (Below.refl _ _) (Eq.refl _)
            refine And.intro ?_ ?_
            · intro a W hR hf ho K hK
              replace hR := ext_drew hR
              have G : a.tmps[11]?.getD undef = _ ∧ True := ho
              obtain ⟨g11, -⟩ := G
              have F : a.tmps[84]?.getD undef = _ ∧ True := hf
              obtain ⟨f22, -⟩ := F
              clear ho hf
              go_simp
              exact hK _ _ (Below.refl _ _) (Eq.refl _)
            refine And.intro ?_ ?_
            · intro a W hR hf ho K hK
              replace hR := ext_drew hR
              have G : a.tmps[14]?.getD undef = _ ∧ True := ho
              obtain ⟨g14, -⟩ := G
              have F : a.tmps[84]?.getD undef = _ ∧ True := hf
              obtain ⟨f22, -⟩ := F
              clear ho hf
              go_simp
              exact hK _ _ (Below.refl _ _) (Eq.refl _)
            refine And.intro ?_ ?_
            · intro a W hR hf ho K hK
              replace hR := ext_drew hR
              have F : a.tmps[90]?.getD undef = _ ∧ a.tmps[91]?.getD undef = _ ∧ a.tmps[84]?.getD undef = _ ∧ True := hf
              obtain ⟨f28, f29, f22, -⟩ := F
              clear ho hf
              go_simp
              exact hK _ _ (Below.refl _ _) (Eq.refl _)
            refine And.intro ?_ ?_
            · intro a W hR hf ho K hK
              replace hR := ext_drew hR
              have F : a.tmps[92]?.getD undef = _ ∧ a.tmps[84]?.getD undef = _ ∧ True := hf
              obtain ⟨f30, f22, -⟩ := F
              clear ho hf
              go_simp
              exact hK _ _ (Below.refl _ _) (Eq.refl _)
            refine And.intro ?_ ?_
            · intro a W hR hf ho K hK
              replace hR := ext_drew hR
              have F : a.tmps[93]?.getD undef = _ ∧ a.tmps[84]?.getD undef = _ ∧ True := hf
              obtain ⟨f31, f22, -⟩ := F
              clear ho hf
              replace x0 := ext_cell hR _ _ x0; replace x1 := ext_cell hR _ _ x1; replace x2 := ext_cell hR _ _ x2; replace x3 := ext_cell hR _ _ x3; replace x4 := ext_cell hR _ _ x4; replace x5 := ext_cell hR _ _ x5
              go_simp
              exact hK _ _ (Below.refl _ _) (Eq.refl _)
            refine And.intro ?_ ?_
            · intro a W hR hf ho K hK
              replace hR := ext_drew hR
              have F : a.tmps[89]?.getD undef = _ ∧ a.tmps[94]?.getD undef = _ ∧ a.tmps[84]?.getD undef = _ ∧ True := hf
              obtain ⟨f27, f32, f22, -⟩ := F
              clear ho hf
              go_simp
              exact hK _ _ (Below.refl _ _) (Eq.refl _)
            refine And.intro ?_ ?_
            · intro a W hR hf ho K hK
              replace hR := ext_drew hR
              have F : a.tmps[84]?.getD undef = _ ∧ a.tmps[95]?.getD undef = _ ∧ True := hf
              obtain ⟨f22, f33, -⟩ := F
              clear ho hf
              go_simp
              exact hK _ _ (Below.refl _ _) (Eq.refl _)
            exact trivial
          case stab =>
            refine And.intro is_stable ?_
            refine And.intro is_stable ?_
            refine And.intro is_stable ?_
            refine And.intro is_stable ?_
            refine And.intro is_stable ?_
            refine And.intro is_stable ?_
            refine And.intro is_stable ?_
            refine And.intro is_stable ?_
            refine And.intro is_stable ?_
            refine And.intro is_stable ?_
            refine And.intro is_stable ?_
            refine And.intro is_stable ?_
            refine And.intro is_stable ?_
            refine And.intro is_stable ?_
            refine And.intro is_stable ?_
            refine And.intro is_stable ?_
            refine And.intro is_stable ?_
            refine And.intro is_stable ?_
            refine And.intro is_stable ?_
            refine And.intro is_stable ?_
            refine And.intro is_stable ?_
            refine And.intro is_stable ?_
            refine And.intro is_stable ?_
            refine And.intro is_stable ?_
            refine And.intro is_stable ?_
            refine And.intro is_stable ?_
            refine And.intro is_stable ?_
            refine And.intro is_stable ?_
            refine And.intro is_stable ?_
            refine And.intro is_stable ?_
            refine And.intro is_stable ?_
            refine And.intro is_stable ?_
            refine And.intro is_stable ?_
            refine And.intro is_stable ?_
            refine And.intro is_stable ?_
            exact trivial
          case ends =>
            intro vals W hR hall
            replace hR := ext_drew hR
            have e96 : vals 96 = _ := hall 34 (by decide)
            clear hall
            simp only [fill, List.setIfInBounds_toArray, List.set_cons_succ, List.set_cons_zero, e96]
            have HW := Lib.hid (And.intro (HE.out.1.then hR) hR)
            go_wp2_with fail
            go_loopw [15] (fun ii wo => ∃ l : Nat, l ≤ K.length ∧ ii = .int .i64 (l : Int) ∧ Ext W wo) (fun ii _ => K.length - (intOf ii).toNat)
            case atStart => exact ⟨0, Nat.zero_le _, rfl, Below.refl _ _⟩
            case round =>
              obtain ⟨l, hl, rfl, hE⟩ := hrel
              by_cases hll : l < K.length
              · by_cases hik : i = k
                · have hik' : decide ((i : Int) = (k : Int)) = true := decide_eq_true (by omega)
                  subst hik
                  go_wp2_with fail
                  exact ⟨⟨j + 1, by omega, by simp, HW.out.1.then hE⟩, by simp [intOf]; omega⟩
                · have hik' : decide ((i : Int) = (k : Int)) = false := decide_eq_false (by omega)
                  obtain ⟨bk, ok, rfl, hbk, y0, y1, y2, y3, y4, y5⟩ := cap_row (HA.out.2.1.ext (HW.out.1.then hE)) hll
                  have hdl := hap.out l K[l] hik (List.getElem?_eq_getElem hll)
                  generalize K[l] = ck at y0 y1 y2 y3 y4 y5 hdl
                  obtain ⟨ktg, kbs, ktp, kat, kpm, kty⟩ := ck
                  simp only at y0 y1 y2 y3 y4 y5 hdl
                  replace x1 := ext_cell (HW.out.2.then hE) _ _ x1
                  replace x2 := ext_cell (HW.out.2.then hE) _ _ x2
                  have HE3 := Lib.hid hE
                  clear hE y0 y3 y4 y5
                  by_cases hq : gb < ktp
                  · have hd1 : decide (gb < ktp) = true := decide_eq_true hq
                    by_cases hp : kbs < tp
                    · have hd2 : decide (kbs < tp) = true := decide_eq_true hp
                      have hj3 : ¬ j < 3 := fun h => hdl (.inl h) ⟨hq, hp⟩
                      have hl3 : ¬ l < 3 := fun h => hdl (.inr h) ⟨hq, hp⟩
                      have hd3 : decide ((j : Int) < 3) = false := decide_eq_false (by omega)
                      have hd4 : decide ((l : Int) < 3) = false := decide_eq_false (by omega)
                      clear hdl
                      go_wp2_with fail
                      refine wp_region_obl Eq [108, 109, 110, 111, 112, 113, 114, 115, 116, 117, 118, 119, 120, 121, 122, 123, 124, 125, 126, 127, 128, 129, 130, 131, 132, 133, 134, 135, 136, 137, 138, 139] (by kernel_rfl) (fun _ => rfl) (fun _ _ _ => Eq.trans) (by kernel_rfl) (by kernel_rfl) ?_
                      apply ex_is; apply Exists.intro
                      apply ex_is; apply Exists.intro
                      apply ex_is; apply Exists.intro
                      apply ex_is; apply Exists.intro
                      apply ex_is; apply Exists.intro
                      apply ex_is; apply Exists.intro
                      apply ex_is; apply Exists.intro
                      apply ex_is; apply Exists.intro
                      apply ex_is; apply Exists.intro
                      apply ex_is; apply Exists.intro
                      apply ex_is; apply Exists.intro
                      apply ex_is; apply Exists.intro
                      apply ex_is; apply Exists.intro
                      apply ex_is; apply Exists.intro
                      apply ex_is; apply Exists.intro
                      apply ex_is; apply Exists.intro
                      apply ex_is; apply Exists.intro
                      apply ex_is; apply Exists.intro
                      apply ex_is; apply Exists.intro
                      apply ex_is; apply Exists.intro
                      apply ex_is; apply Exists.intro
                      apply ex_is; apply Exists.intro
                      apply ex_is; apply Exists.intro
                      apply ex_is; apply Exists.intro
                      apply ex_is; apply Exists.intro
                      apply ex_is; apply Exists.intro
                      apply ex_is; apply Exists.intro
                      apply ex_is; apply Exists.intro
                      apply ex_is; apply Exists.intro
                      apply ex_is; apply Exists.intro
                      apply ex_is; apply Exists.intro
                      apply ex_is; apply Exists.intro
                      refine ⟨[], ⟨?steps, ?stab, ?ends⟩⟩
                      case steps =>
                        refine And.intro ?_ ?_
                        · intro a W hR hf ho K hK
                          subst hR
                          have G : a.tmps[11]?.getD undef = _ ∧ True := ho
                          obtain ⟨g11, -⟩ := G
                          clear ho hf
                          go_simp
                          exact hK _ _ (rfl) (Eq.refl _)
                        refine And.intro ?_ ?_
                        · intro a W hR hf ho K hK
                          subst hR
                          have G : a.tmps[14]?.getD undef = _ ∧ True := ho
                          obtain ⟨g14, -⟩ := G
                          clear ho hf
                          go_simp
                          exact hK _ _ (rfl) (Eq.refl _)
                        refine And.intro ?_ ?_
                        · intro a W hR hf ho K hK
                          subst hR
                          have F : a.tmps[108]?.getD undef = _ ∧ a.tmps[109]?.getD undef = _ ∧ True := hf
                          obtain ⟨f0, f1, -⟩ := F
                          clear ho hf
                          go_simp
                          exact hK _ _ (rfl) (Eq.refl _)
                        refine And.intro ?_ ?_
                        · intro a W hR hf ho K hK
                          subst hR
                          have F : a.tmps[110]?.getD undef = _ ∧ True := hf
                          obtain ⟨f2, -⟩ := F
                          clear ho hf
                          go_simp
                          exact hK _ _ (rfl) (Eq.refl _)
                        refine And.intro ?_ ?_
                        · intro a W hR hf ho K hK
                          subst hR
                          have F : a.tmps[111]?.getD undef = _ ∧ True := hf
                          obtain ⟨f3, -⟩ := F
                          clear ho hf
                          go_simp
                          exact hK _ _ (rfl) (Eq.refl _)
                        refine And.intro ?_ ?_
                        · intro a W hR hf ho K hK
                          subst hR
                          have G : a.tmps[12]?.getD undef = _ ∧ True := ho
                          obtain ⟨g12, -⟩ := G
                          clear ho hf
                          go_simp
                          exact hK _ _ (rfl) (Eq.refl _)
                        refine And.intro ?_ ?_
                        · intro a W hR hf ho K hK
                          subst hR
                          have G : a.tmps[15]?.getD undef = _ ∧ True := ho
                          obtain ⟨g15, -⟩ := G
                          clear ho hf
                          go_simp
                          exact hK _ _ (rfl) (Eq.refl _)
                        refine And.intro ?_ ?_
                        · intro a W hR hf ho K hK
                          subst hR
                          have F : a.tmps[113]?.getD undef = _ ∧ a.tmps[114]?.getD undef = _ ∧ True := hf
                          obtain ⟨f5, f6, -⟩ := F
                          clear ho hf
                          go_simp
                          exact hK _ _ (rfl) (Eq.refl _)
                        refine And.intro ?_ ?_
                        · intro a W hR hf ho K hK
                          subst hR
                          have F : a.tmps[115]?.getD undef = _ ∧ True := hf
                          obtain ⟨f7, -⟩ := F
                          clear ho hf
                          go_simp
                          exact hK _ _ (rfl) (Eq.refl _)
                        refine And.intro ?_ ?_
                        · intro a W hR hf ho K hK
                          subst hR
                          have F : a.tmps[116]?.getD undef = _ ∧ True := hf
                          obtain ⟨f8, -⟩ := F
                          clear ho hf
                          go_simp
                          exact hK _ _ (rfl) (Eq.refl _)
                        refine And.intro ?_ ?_
                        · intro a W hR hf ho K hK
                          subst hR
                          have F : a.tmps[112]?.getD undef = _ ∧ a.tmps[117]?.getD undef = _ ∧ True := hf
                          obtain ⟨f4, f9, -⟩ := F
                          clear ho hf
                          go_simp
                          exact hK _ _ (rfl) (Eq.refl _)
                        refine And.intro ?_ ?_
                        · intro a W hR hf ho K hK
                          subst hR
                          have F : a.tmps[118]?.getD undef = _ ∧ True := hf
                          obtain ⟨f10, -⟩ := F
                          clear ho hf
                          go_simp
                          exact hK _ _ (rfl) (Eq.refl _)
                        refine And.intro ?_ ?_
                        · intro a W hR hf ho K hK
                          subst hR
                          have G : a.tmps[12]?.getD undef = _ ∧ True := ho
                          obtain ⟨g12, -⟩ := G
                          have F : a.tmps[119]?.getD undef = _ ∧ True := hf
                          obtain ⟨f11, -⟩ := F
                          clear ho hf
                          go_simp
                          exact hK _ _ (rfl) (Eq.refl _)
                        refine And.intro ?_ ?_
                        · intro a W hR hf ho K hK
                          subst hR
                          have G : a.tmps[15]?.getD undef = _ ∧ True := ho
                          obtain ⟨g15, -⟩ := G
                          have F : a.tmps[119]?.getD undef = _ ∧ True := hf
                          obtain ⟨f11, -⟩ := F
                          clear ho hf
                          go_simp
                          exact hK _ _ (rfl) (Eq.refl _)
                        refine And.intro ?_ ?_
                        · intro a W hR hf ho K hK
                          subst hR
                          have F : a.tmps[120]?.getD undef = _ ∧ a.tmps[121]?.getD undef = _ ∧ a.tmps[119]?.getD undef = _ ∧ True := hf
                          obtain ⟨f12, f13, f11, -⟩ := F
                          clear ho hf
                          go_simp
                          exact hK _ _ (rfl) (Eq.refl _)
                        refine And.intro ?_ ?_
                        · intro a W hR hf ho K hK
                          subst hR
                          have F : a.tmps[122]?.getD undef = _ ∧ a.tmps[119]?.getD undef = _ ∧ True := hf
                          obtain ⟨f14, f11, -⟩ := F
                          clear ho hf
                          go_simp
                          exact hK _ _ (rfl) (Eq.refl _)
                        refine And.intro ?_ ?_
                        · intro a W hR hf ho K hK
                          subst hR
                          have F : a.tmps[123]?.getD undef = _ ∧ a.tmps[119]?.getD undef = _ ∧ True := hf
                          obtain ⟨f15, f11, -⟩ := F
                          clear ho hf
                          go_simp
                          exact hK _ _ (rfl) (Eq.refl _)
                        refine And.intro ?_ ?_
                        · intro a W hR hf ho K hK
                          subst hR
                          have G : a.tmps[11]?.getD undef = _ ∧ True := ho
                          obtain ⟨g11, -⟩ := G
                          have F : a.tmps[119]?.getD undef = _ ∧ True := hf
                          obtain ⟨f11, -⟩ := F
                          clear ho hf
                          go_simp
                          exact hK _ _ (rfl) (Eq.refl _)
                        refine And.intro ?_ ?_
                        · intro a W hR hf ho K hK
                          subst hR
                          have G : a.tmps[14]?.getD undef = _ ∧ True := ho
                          obtain ⟨g14, -⟩ := G
                          have F : a.tmps[119]?.getD undef = _ ∧ True := hf
                          obtain ⟨f11, -⟩ := F
                          clear ho hf
                          go_simp
                          exact hK _ _ (rfl) (Eq.refl _)
                        refine And.intro ?_ ?_
                        · intro a W hR hf ho K hK
                          subst hR
                          have F : a.tmps[125]?.getD undef = _ ∧ a.tmps[126]?.getD undef = _ ∧ a.tmps[119]?.getD undef = _ ∧ True := hf
                          obtain ⟨f17, f18, f11, -⟩ := F
                          clear ho hf
                          go_simp
                          exact hK _ _ (rfl) (Eq.refl _)
                        refine And.intro ?_ ?_
                        · intro a W hR hf ho K hK
                          subst hR
                          have F : a.tmps[127]?.getD undef = _ ∧ a.tmps[119]?.getD undef = _ ∧ True := hf
                          obtain ⟨f19, f11, -⟩ := F
                          clear ho hf
                          go_simp
                          exact hK _ _ (rfl) (Eq.refl _)
                        refine And.intro ?_ ?_
                        · intro a W hR hf ho K hK
                          subst hR
                          have F : a.tmps[128]?.getD undef = _ ∧ a.tmps[119]?.getD undef = _ ∧ True := hf
                          obtain ⟨f20, f11, -⟩ := F
                          clear ho hf
                          go_simp
                          exact hK _ _ (rfl) (Eq.refl _)
                        refine And.intro ?_ ?_
                        · intro a W hR hf ho K hK
                          subst hR
                          have F : a.tmps[124]?.getD undef = _ ∧ a.tmps[129]?.getD undef = _ ∧ a.tmps[119]?.getD undef = _ ∧ True := hf
                          obtain ⟨f16, f21, f11, -⟩ := F
                          clear ho hf
                          go_simp
                          exact hK _ _ (rfl) (Eq.refl _)
                        refine And.intro ?_ ?_
                        · intro a W hR hf ho K hK
                          subst hR
                          have F : a.tmps[119]?.getD undef = _ ∧ a.tmps[130]?.getD undef = _ ∧ True := hf
                          obtain ⟨f11, f22, -⟩ := F
                          clear ho hf
                          go_simp
                          exact hK _ _ (rfl) (Eq.refl _)
                        refine And.intro ?_ ?_
                        · intro a W hR hf ho K hK
                          subst hR
                          have F : a.tmps[131]?.getD undef = _ ∧ a.tmps[119]?.getD undef = _ ∧ True := hf
                          obtain ⟨f23, f11, -⟩ := F
                          clear ho hf
                          go_simp
                          exact hK _ _ (rfl) (Eq.refl _)
                        refine And.intro ?_ ?_
                        · intro a W hR hf ho K hK
                          subst hR
                          have G : a.tmps[14]?.getD undef = _ ∧ True := ho
                          obtain ⟨g14, -⟩ := G
                          have F : a.tmps[132]?.getD undef = _ ∧ True := hf
                          obtain ⟨f24, -⟩ := F
                          clear ho hf
                          go_simp
                          exact hK _ _ (rfl) (Eq.refl _)
                        refine And.intro ?_ ?_
                        · intro a W hR hf ho K hK
                          subst hR
                          have F : a.tmps[133]?.getD undef = _ ∧ a.tmps[132]?.getD undef = _ ∧ True := hf
                          obtain ⟨f25, f24, -⟩ := F
                          clear ho hf
                          go_simp
                          exact hK _ _ (rfl) (Eq.refl _)
                        refine And.intro ?_ ?_
                        · intro a W hR hf ho K hK
                          subst hR
                          have F : a.tmps[134]?.getD undef = _ ∧ a.tmps[132]?.getD undef = _ ∧ a.tmps[132]?.getD undef = _ ∧ True := hf
                          obtain ⟨f26, f24, -, -⟩ := F
                          clear ho hf
                          go_simp
                          exact hK _ _ (rfl) (Eq.refl _)
                        refine And.intro ?_ ?_
                        · intro a W hR hf ho K hK
                          subst hR
                          have G : a.tmps[15]?.getD undef = _ ∧ True := ho
                          obtain ⟨g15, -⟩ := G
                          have F : a.tmps[135]?.getD undef = _ ∧ True := hf
                          obtain ⟨f27, -⟩ := F
                          clear ho hf
                          go_simp
                          exact hK _ _ (rfl) (Eq.refl _)
                        refine And.intro ?_ ?_
                        · intro a W hR hf ho K hK
                          subst hR
                          have F : a.tmps[136]?.getD undef = _ ∧ a.tmps[135]?.getD undef = _ ∧ True := hf
                          obtain ⟨f28, f27, -⟩ := F
                          clear ho hf
                          go_simp
                          exact hK _ _ (rfl) (Eq.refl _)
                        refine And.intro ?_ ?_
                        · intro a W hR hf ho K hK
                          subst hR
                          have F : a.tmps[135]?.getD undef = _ ∧ a.tmps[137]?.getD undef = _ ∧ a.tmps[132]?.getD undef = _ ∧ True := hf
                          obtain ⟨f27, f29, f24, -⟩ := F
                          clear ho hf
                          go_simp
                          exact hK _ _ (rfl) (Eq.refl _)
                        refine And.intro ?_ ?_
                        · intro a W hR hf ho K hK
                          subst hR
                          have F : a.tmps[132]?.getD undef = _ ∧ a.tmps[138]?.getD undef = _ ∧ True := hf
                          obtain ⟨f24, f30, -⟩ := F
                          clear ho hf
                          go_simp
                          exact hK _ _ (rfl) (Eq.refl _)
                        exact trivial
                      case stab =>
                        refine And.intro is_stable ?_
                        refine And.intro is_stable ?_
                        refine And.intro is_stable ?_
                        refine And.intro is_stable ?_
                        refine And.intro is_stable ?_
                        refine And.intro is_stable ?_
                        refine And.intro is_stable ?_
                        refine And.intro is_stable ?_
                        refine And.intro is_stable ?_
                        refine And.intro is_stable ?_
                        refine And.intro is_stable ?_
                        refine And.intro is_stable ?_
                        refine And.intro is_stable ?_
                        refine And.intro is_stable ?_
                        refine And.intro is_stable ?_
                        refine And.intro is_stable ?_
                        refine And.intro is_stable ?_
                        refine And.intro is_stable ?_
                        refine And.intro is_stable ?_
                        refine And.intro is_stable ?_
                        refine And.intro is_stable ?_
                        refine And.intro is_stable ?_
                        refine And.intro is_stable ?_
                        refine And.intro is_stable ?_
                        refine And.intro is_stable ?_
                        refine And.intro is_stable ?_
                        refine And.intro is_stable ?_
                        refine And.intro is_stable ?_
                        refine And.intro is_stable ?_
                        refine And.intro is_stable ?_
                        refine And.intro is_stable ?_
                        refine And.intro is_stable ?_
                        exact trivial
                      case ends =>
                        intro vals W hR hall
                        subst hR
                        have e139 : vals 139 = _ := hall 31 (by decide)
                        clear hall
                        simp only [fill, List.setIfInBounds_toArray, List.set_cons_succ, List.set_cons_zero, e139]
                        go_wp2_with fail
                        exact ⟨⟨l + 1, by omega, by simp, (by repeat first | (with_reducible exact Below.refl _ _) | (with_reducible apply Ext.alloc) | (with_reducible apply Ext.drew) | (with_reducible apply Ext.drewN) | (with_reducible refine Ext.set ?_ (by simp)) | (with_reducible refine Ext.then ?_ HE3.out))⟩, by simp [intOf]; omega⟩
                    · have hd2 : decide (kbs < tp) = false := decide_eq_false hp
                      clear hdl
                      go_wp2_with fail
                      refine wp_region_obl Eq [108, 109, 110, 111, 112, 113, 114, 115, 116, 117, 118, 119, 120, 121, 122, 123, 124, 125, 126, 127, 128, 129, 130, 131, 132, 133, 134, 135, 136, 137, 138, 139] (by kernel_rfl) (fun _ => rfl) (fun _ _ _ => Eq.trans) (by kernel_rfl) (by kernel_rfl) ?_
                      apply ex_is; apply Exists.intro
                      apply ex_is; apply Exists.intro
                      apply ex_is; apply Exists.intro
                      apply ex_is; apply Exists.intro
                      apply ex_is; apply Exists.intro
                      apply ex_is; apply Exists.intro
                      apply ex_is; apply Exists.intro
                      apply ex_is; apply Exists.intro
                      apply ex_is; apply Exists.intro
                      apply ex_is; apply Exists.intro
                      apply ex_is; apply Exists.intro
                      apply ex_is; apply Exists.intro
                      apply ex_is; apply Exists.intro
                      apply ex_is; apply Exists.intro
                      apply ex_is; apply Exists.intro
                      apply ex_is; apply Exists.intro
                      apply ex_is; apply Exists.intro
                      apply ex_is; apply Exists.intro
                      apply ex_is; apply Exists.intro
                      apply ex_is; apply Exists.intro
                      apply ex_is; apply Exists.intro
                      apply ex_is; apply Exists.intro
                      apply ex_is; apply Exists.intro
                      apply ex_is; apply Exists.intro
                      apply ex_is; apply Exists.intro
                      apply ex_is; apply Exists.intro
                      apply ex_is; apply Exists.intro
                      apply ex_is; apply Exists.intro
                      apply ex_is; apply Exists.intro
                      apply ex_is; apply Exists.intro
                      apply ex_is; apply Exists.intro
                      apply ex_is; apply Exists.intro
                      refine ⟨[], ⟨?steps, ?stab, ?ends⟩⟩
                      case steps =>
                        refine And.intro ?_ ?_
                        · intro a W hR hf ho K hK
                          subst hR
                          have G : a.tmps[11]?.getD undef = _ ∧ True := ho
                          obtain ⟨g11, -⟩ := G
                          clear ho hf
                          go_simp
                          exact hK _ _ (rfl) (Eq.refl _)
                        refine And.intro ?_ ?_
                        · intro a W hR hf ho K hK
                          subst hR
                          have G : a.tmps[14]?.getD undef = _ ∧ True := ho
                          obtain ⟨g14, -⟩ := G
                          clear ho hf
                          go_simp
                          exact hK _ _ (rfl) (Eq.refl _)
                        refine And.intro ?_ ?_
                        · intro a W hR hf ho K hK
                          subst hR
                          have F : a.tmps[108]?.getD undef = _ ∧ a.tmps[109]?.getD undef = _ ∧ True := hf
                          obtain ⟨f0, f1, -⟩ := F
                          clear ho hf
                          go_simp
                          exact hK _ _ (rfl) (Eq.refl _)
                        refine And.intro ?_ ?_
                        · intro a W hR hf ho K hK
                          subst hR
                          have F : a.tmps[110]?.getD undef = _ ∧ True := hf
                          obtain ⟨f2, -⟩ := F
                          clear ho hf
                          go_simp
                          exact hK _ _ (rfl) (Eq.refl _)
                        refine And.intro ?_ ?_
                        · intro a W hR hf ho K hK
                          subst hR
                          have F : a.tmps[111]?.getD undef = _ ∧ True := hf
                          obtain ⟨f3, -⟩ := F
                          clear ho hf
                          go_simp
                          exact hK _ _ (rfl) (Eq.refl _)
                        refine And.intro ?_ ?_
                        · intro a W hR hf ho K hK
                          subst hR
                          have G : a.tmps[12]?.getD undef = _ ∧ True := ho
                          obtain ⟨g12, -⟩ := G
                          clear ho hf
                          go_simp
                          exact hK _ _ (rfl) (Eq.refl _)
                        refine And.intro ?_ ?_
                        · intro a W hR hf ho K hK
                          subst hR
                          have G : a.tmps[15]?.getD undef = _ ∧ True := ho
                          obtain ⟨g15, -⟩ := G
                          clear ho hf
                          go_simp
                          exact hK _ _ (rfl) (Eq.refl _)
                        refine And.intro ?_ ?_
                        · intro a W hR hf ho K hK
                          subst hR
                          have F : a.tmps[113]?.getD undef = _ ∧ a.tmps[114]?.getD undef = _ ∧ True := hf
                          obtain ⟨f5, f6, -⟩ := F
                          clear ho hf
                          go_simp
                          exact hK _ _ (rfl) (Eq.refl _)
                        refine And.intro ?_ ?_
                        · intro a W hR hf ho K hK
                          subst hR
                          have F : a.tmps[115]?.getD undef = _ ∧ True := hf
                          obtain ⟨f7, -⟩ := F
                          clear ho hf
                          go_simp
                          exact hK _ _ (rfl) (Eq.refl _)
                        refine And.intro ?_ ?_
                        · intro a W hR hf ho K hK
                          subst hR
                          have F : a.tmps[116]?.getD undef = _ ∧ True := hf
                          obtain ⟨f8, -⟩ := F
                          clear ho hf
                          go_simp
                          exact hK _ _ (rfl) (Eq.refl _)
                        refine And.intro ?_ ?_
                        · intro a W hR hf ho K hK
                          subst hR
                          have F : a.tmps[112]?.getD undef = _ ∧ a.tmps[117]?.getD undef = _ ∧ True := hf
                          obtain ⟨f4, f9, -⟩ := F
                          clear ho hf
                          go_simp
                          exact hK _ _ (rfl) (Eq.refl _)
                        refine And.intro ?_ ?_
                        · intro a W hR hf ho K hK
                          subst hR
                          have F : a.tmps[118]?.getD undef = _ ∧ True := hf
                          obtain ⟨f10, -⟩ := F
                          clear ho hf
                          go_simp
                          exact hK _ _ (rfl) (Eq.refl _)
                        refine And.intro ?_ ?_
                        · intro a W hR hf ho K hK
                          subst hR
                          have G : a.tmps[12]?.getD undef = _ ∧ True := ho
                          obtain ⟨g12, -⟩ := G
                          have F : a.tmps[119]?.getD undef = _ ∧ True := hf
                          obtain ⟨f11, -⟩ := F
                          clear ho hf
                          go_simp
                          exact hK _ _ (rfl) (Eq.refl _)
                        refine And.intro ?_ ?_
                        · intro a W hR hf ho K hK
                          subst hR
                          have G : a.tmps[15]?.getD undef = _ ∧ True := ho
                          obtain ⟨g15, -⟩ := G
                          have F : a.tmps[119]?.getD undef = _ ∧ True := hf
                          obtain ⟨f11, -⟩ := F
                          clear ho hf
                          go_simp
                          exact hK _ _ (rfl) (Eq.refl _)
                        refine And.intro ?_ ?_
                        · intro a W hR hf ho K hK
                          subst hR
                          have F : a.tmps[120]?.getD undef = _ ∧ a.tmps[121]?.getD undef = _ ∧ a.tmps[119]?.getD undef = _ ∧ True := hf
                          obtain ⟨f12, f13, f11, -⟩ := F
                          clear ho hf
                          go_simp
                          exact hK _ _ (rfl) (Eq.refl _)
                        refine And.intro ?_ ?_
                        · intro a W hR hf ho K hK
                          subst hR
                          have F : a.tmps[122]?.getD undef = _ ∧ a.tmps[119]?.getD undef = _ ∧ True := hf
                          obtain ⟨f14, f11, -⟩ := F
                          clear ho hf
                          go_simp
                          exact hK _ _ (rfl) (Eq.refl _)
                        refine And.intro ?_ ?_
                        · intro a W hR hf ho K hK
                          subst hR
                          have F : a.tmps[123]?.getD undef = _ ∧ a.tmps[119]?.getD undef = _ ∧ True := hf
                          obtain ⟨f15, f11, -⟩ := F
                          clear ho hf
                          go_simp
                          exact hK _ _ (rfl) (Eq.refl _)
                        refine And.intro ?_ ?_
                        · intro a W hR hf ho K hK
                          subst hR
                          have G : a.tmps[11]?.getD undef = _ ∧ True := ho
                          obtain ⟨g11, -⟩ := G
                          have F : a.tmps[119]?.getD undef = _ ∧ True := hf
                          obtain ⟨f11, -⟩ := F
                          clear ho hf
                          go_simp
                          exact hK _ _ (rfl) (Eq.refl _)
                        refine And.intro ?_ ?_
                        · intro a W hR hf ho K hK
                          subst hR
                          have G : a.tmps[14]?.getD undef = _ ∧ True := ho
                          obtain ⟨g14, -⟩ := G
                          have F : a.tmps[119]?.getD undef = _ ∧ True := hf
                          obtain ⟨f11, -⟩ := F
                          clear ho hf
                          go_simp
                          exact hK _ _ (rfl) (Eq.refl _)
                        refine And.intro ?_ ?_
                        · intro a W hR hf ho K hK
                          subst hR
                          have F : a.tmps[125]?.getD undef = _ ∧ a.tmps[126]?.getD undef = _ ∧ a.tmps[119]?.getD undef = _ ∧ True := hf
                          obtain ⟨f17, f18, f11, -⟩ := F
                          clear ho hf
                          go_simp
                          exact hK _ _ (rfl) (Eq.refl _)
                        refine And.intro ?_ ?_
                        · intro a W hR hf ho K hK
                          subst hR
                          have F : a.tmps[127]?.getD undef = _ ∧ a.tmps[119]?.getD undef = _ ∧ True := hf
                          obtain ⟨f19, f11, -⟩ := F
                          clear ho hf
                          go_simp
                          exact hK _ _ (rfl) (Eq.refl _)
                        refine And.intro ?_ ?_
                        · intro a W hR hf ho K hK
                          subst hR
                          have F : a.tmps[128]?.getD undef = _ ∧ a.tmps[119]?.getD undef = _ ∧ True := hf
                          obtain ⟨f20, f11, -⟩ := F
                          clear ho hf
                          go_simp
                          exact hK _ _ (rfl) (Eq.refl _)
                        refine And.intro ?_ ?_
                        · intro a W hR hf ho K hK
                          subst hR
                          have F : a.tmps[124]?.getD undef = _ ∧ a.tmps[129]?.getD undef = _ ∧ a.tmps[119]?.getD undef = _ ∧ True := hf
                          obtain ⟨f16, f21, f11, -⟩ := F
                          clear ho hf
                          go_simp
                          exact hK _ _ (rfl) (Eq.refl _)
                        refine And.intro ?_ ?_
                        · intro a W hR hf ho K hK
                          subst hR
                          have F : a.tmps[119]?.getD undef = _ ∧ a.tmps[130]?.getD undef = _ ∧ True := hf
                          obtain ⟨f11, f22, -⟩ := F
                          clear ho hf
                          go_simp
                          exact hK _ _ (rfl) (Eq.refl _)
                        refine And.intro ?_ ?_
                        · intro a W hR hf ho K hK
                          subst hR
                          have F : a.tmps[131]?.getD undef = _ ∧ a.tmps[119]?.getD undef = _ ∧ True := hf
                          obtain ⟨f23, f11, -⟩ := F
                          clear ho hf
                          go_simp
                          exact hK _ _ (rfl) (Eq.refl _)
                        refine And.intro ?_ ?_
                        · intro a W hR hf ho K hK
                          subst hR
                          have G : a.tmps[14]?.getD undef = _ ∧ True := ho
                          obtain ⟨g14, -⟩ := G
                          have F : a.tmps[132]?.getD undef = _ ∧ True := hf
                          obtain ⟨f24, -⟩ := F
                          clear ho hf
                          go_simp
                          exact hK _ _ (rfl) (Eq.refl _)
                        refine And.intro ?_ ?_
                        · intro a W hR hf ho K hK
                          subst hR
                          have F : a.tmps[133]?.getD undef = _ ∧ a.tmps[132]?.getD undef = _ ∧ True := hf
                          obtain ⟨f25, f24, -⟩ := F
                          clear ho hf
                          go_simp
                          exact hK _ _ (rfl) (Eq.refl _)
                        refine And.intro ?_ ?_
                        · intro a W hR hf ho K hK
                          subst hR
                          have F : a.tmps[134]?.getD undef = _ ∧ a.tmps[132]?.getD undef = _ ∧ a.tmps[132]?.getD undef = _ ∧ True := hf
                          obtain ⟨f26, f24, -, -⟩ := F
                          clear ho hf
                          go_simp
                          exact hK _ _ (rfl) (Eq.refl _)
                        refine And.intro ?_ ?_
                        · intro a W hR hf ho K hK
                          subst hR
                          have G : a.tmps[15]?.getD undef = _ ∧ True := ho
                          obtain ⟨g15, -⟩ := G
                          have F : a.tmps[135]?.getD undef = _ ∧ True := hf
                          obtain ⟨f27, -⟩ := F
                          clear ho hf
                          go_simp
                          exact hK _ _ (rfl) (Eq.refl _)
                        refine And.intro ?_ ?_
                        · intro a W hR hf ho K hK
                          subst hR
                          have F : a.tmps[136]?.getD undef = _ ∧ a.tmps[135]?.getD undef = _ ∧ True := hf
                          obtain ⟨f28, f27, -⟩ := F
                          clear ho hf
                          go_simp
                          exact hK _ _ (rfl) (Eq.refl _)
                        refine And.intro ?_ ?_
                        · intro a W hR hf ho K hK
                          subst hR
                          have F : a.tmps[135]?.getD undef = _ ∧ a.tmps[137]?.getD undef = _ ∧ a.tmps[132]?.getD undef = _ ∧ True := hf
                          obtain ⟨f27, f29, f24, -⟩ := F
                          clear ho hf
                          go_simp
                          exact hK _ _ (rfl) (Eq.refl _)
                        refine And.intro ?_ ?_
                        · intro a W hR hf ho K hK
                          subst hR
                          have F : a.tmps[132]?.getD undef = _ ∧ a.tmps[138]?.getD undef = _ ∧ True := hf
                          obtain ⟨f24, f30, -⟩ := F
                          clear ho hf
                          go_simp
                          exact hK _ _ (rfl) (Eq.refl _)
                        exact trivial
                      case stab =>
                        refine And.intro is_stable ?_
                        refine And.intro is_stable ?_
                        refine And.intro is_stable ?_
                        refine And.intro is_stable ?_
                        refine And.intro is_stable ?_
                        refine And.intro is_stable ?_
                        refine And.intro is_stable ?_
                        refine And.intro is_stable ?_
                        refine And.intro is_stable ?_
                        refine And.intro is_stable ?_
                        refine And.intro is_stable ?_
                        refine And.intro is_stable ?_
                        refine And.intro is_stable ?_
                        refine And.intro is_stable ?_
                        refine And.intro is_stable ?_
                        refine And.intro is_stable ?_
                        refine And.intro is_stable ?_
                        refine And.intro is_stable ?_
                        refine And.intro is_stable ?_
                        refine And.intro is_stable ?_
                        refine And.intro is_stable ?_
                        refine And.intro is_stable ?_
                        refine And.intro is_stable ?_
                        refine And.intro is_stable ?_
                        refine And.intro is_stable ?_
                        refine And.intro is_stable ?_
                        refine And.intro is_stable ?_
                        refine And.intro is_stable ?_
                        refine And.intro is_stable ?_
                        refine And.intro is_stable ?_
                        refine And.intro is_stable ?_
                        refine And.intro is_stable ?_
                        exact trivial
                      case ends =>
                        intro vals W hR hall
                        subst hR
                        have e139 : vals 139 = _ := hall 31 (by decide)
                        clear hall
                        simp only [fill, List.setIfInBounds_toArray, List.set_cons_succ, List.set_cons_zero, e139]
                        go_wp2_with fail
                        exact ⟨⟨l + 1, by omega, by simp, (by repeat first | (with_reducible exact Below.refl _ _) | (with_reducible apply Ext.alloc) | (with_reducible apply Ext.drew) | (with_reducible apply Ext.drewN) | (with_reducible refine Ext.set ?_ (by simp)) | (with_reducible refine Ext.then ?_ HE3.out))⟩, by simp [intOf]; omega⟩
                  · have hd1 : decide (gb < ktp) = false := decide_eq_false hq
                    clear hdl
                    go_wp2_with fail
                    refine wp_region_obl Eq [108, 109, 110, 111, 112, 113, 114, 115, 116, 117, 118, 119, 120, 121, 122, 123, 124, 125, 126, 127, 128, 129, 130, 131, 132, 133, 134, 135, 136, 137, 138, 139] (by kernel_rfl) (fun _ => rfl) (fun _ _ _ => Eq.trans) (by kernel_rfl) (by kernel_rfl) ?_
                    apply ex_is; apply Exists.intro
                    apply ex_is; apply Exists.intro
                    apply ex_is; apply Exists.intro
                    apply ex_is; apply Exists.intro
                    apply ex_is; apply Exists.intro
                    apply ex_is; apply Exists.intro
                    apply ex_is; apply Exists.intro
                    apply ex_is; apply Exists.intro
                    apply ex_is; apply Exists.intro
                    apply ex_is; apply Exists.intro
                    apply ex_is; apply Exists.intro
                    apply ex_is; apply Exists.intro
                    apply ex_is; apply Exists.intro
                    apply ex_is; apply Exists.intro
                    apply ex_is; apply Exists.intro
                    apply ex_is; apply Exists.intro
                    apply ex_is; apply Exists.intro
                    apply ex_is; apply Exists.intro
                    apply ex_is; apply Exists.intro
                    apply ex_is; apply Exists.intro
                    apply ex_is; apply Exists.intro
                    apply ex_is; apply Exists.intro
                    apply ex_is; apply Exists.intro
                    apply ex_is; apply Exists.intro
                    apply ex_is; apply Exists.intro
                    apply ex_is; apply Exists.intro
                    apply ex_is; apply Exists.intro
                    apply ex_is; apply Exists.intro
                    apply ex_is; apply Exists.intro
                    apply ex_is; apply Exists.intro
                    apply ex_is; apply Exists.intro
                    apply ex_is; apply Exists.intro
                    refine ⟨[], ⟨?steps, ?stab, ?ends⟩⟩
                    case steps =>
                      refine And.intro ?_ ?_
                      · intro a W hR hf ho K hK
                        subst hR
                        have G : a.tmps[11]?.getD undef = _ ∧ True := ho
                        obtain ⟨g11, -⟩ := G
                        clear ho hf
                        go_simp
                        exact hK _ _ (rfl) (Eq.refl _)
                      refine And.intro ?_ ?_
                      · intro a W hR hf ho K hK
                        subst hR
                        have G : a.tmps[14]?.getD undef = _ ∧ True := ho
                        obtain ⟨g14, -⟩ := G
                        clear ho hf
                        go_simp
                        exact hK _ _ (rfl) (Eq.refl _)
                      refine And.intro ?_ ?_
                      · intro a W hR hf ho K hK
                        subst hR
                        have F : a.tmps[108]?.getD undef = _ ∧ a.tmps[109]?.getD undef = _ ∧ True := hf
                        obtain ⟨f0, f1, -⟩ := F
                        clear ho hf
                        go_simp
                        exact hK _ _ (rfl) (Eq.refl _)
                      refine And.intro ?_ ?_
                      · intro a W hR hf ho K hK
                        subst hR
                        have F : a.tmps[110]?.getD undef = _ ∧ True := hf
                        obtain ⟨f2, -⟩ := F
                        clear ho hf
                        go_simp
                        exact hK _ _ (rfl) (Eq.refl _)
                      refine And.intro ?_ ?_
                      · intro a W hR hf ho K hK
                        subst hR
                        have F : a.tmps[111]?.getD undef = _ ∧ True := hf
                        obtain ⟨f3, -⟩ := F
                        clear ho hf
                        go_simp
                        exact hK _ _ (rfl) (Eq.refl _)
                      refine And.intro ?_ ?_
                      · intro a W hR hf ho K hK
                        subst hR
                        have G : a.tmps[12]?.getD undef = _ ∧ True := ho
                        obtain ⟨g12, -⟩ := G
                        clear ho hf
                        go_simp
                        exact hK _ _ (rfl) (Eq.refl _)
                      refine And.intro ?_ ?_
                      · intro a W hR hf ho K hK
                        subst hR
                        have G : a.tmps[15]?.getD undef = _ ∧ True := ho
                        obtain ⟨g15, -⟩ := G
                        clear ho hf
                        go_simp
                        exact hK _ _ (rfl) (Eq.refl _)
                      refine And.intro ?_ ?_
                      · intro a W hR hf ho K hK
                        subst hR
                        have F : a.tmps[113]?.getD undef = _ ∧ a.tmps[114]?.getD undef = _ ∧ True := hf
                        obtain ⟨f5, f6, -⟩ := F
                        clear ho hf
                        go_simp
                        exact hK _ _ (rfl) (Eq.refl _)
                      refine And.intro ?_ ?_
                      · intro a W hR hf ho K hK
                        subst hR
                        have F : a.tmps[115]?.getD undef = _ ∧ True := hf
                        obtain ⟨f7, -⟩ := F
                        clear ho hf
                        go_simp
                        exact hK _ _ (rfl) (Eq.refl _)
                      refine And.intro ?_ ?_
                      · intro a W hR hf ho K hK
                        subst hR
                        have F : a.tmps[116]?.getD undef = _ ∧ True := hf
                        obtain ⟨f8, -⟩ := F
                        clear ho hf
                        go_simp
                        exact hK _ _ (rfl) (Eq.refl _)
                      refine And.intro ?_ ?_
                      · intro a W hR hf ho K hK
                        subst hR
                        have F : a.tmps[112]?.getD undef = _ ∧ a.tmps[117]?.getD undef = _ ∧ True := hf
                        obtain ⟨f4, f9, -⟩ := F
                        clear ho hf
                        go_simp
                        exact hK _ _ (rfl) (Eq.refl _)
                      refine And.intro ?_ ?_
                      · intro a W hR hf ho K hK
                        subst hR
                        have F : a.tmps[118]?.getD undef = _ ∧ True := hf
                        obtain ⟨f10, -⟩ := F
                        clear ho hf
                        go_simp
                        exact hK _ _ (rfl) (Eq.refl _)
                      refine And.intro ?_ ?_
                      · intro a W hR hf ho K hK
                        subst hR
                        have G : a.tmps[12]?.getD undef = _ ∧ True := ho
                        obtain ⟨g12, -⟩ := G
                        have F : a.tmps[119]?.getD undef = _ ∧ True := hf
                        obtain ⟨f11, -⟩ := F
                        clear ho hf
                        go_simp
                        exact hK _ _ (rfl) (Eq.refl _)
                      refine And.intro ?_ ?_
                      · intro a W hR hf ho K hK
                        subst hR
                        have G : a.tmps[15]?.getD undef = _ ∧ True := ho
                        obtain ⟨g15, -⟩ := G
                        have F : a.tmps[119]?.getD undef = _ ∧ True := hf
                        obtain ⟨f11, -⟩ := F
                        clear ho hf
                        go_simp
                        exact hK _ _ (rfl) (Eq.refl _)
                      refine And.intro ?_ ?_
                      · intro a W hR hf ho K hK
                        subst hR
                        have F : a.tmps[120]?.getD undef = _ ∧ a.tmps[121]?.getD undef = _ ∧ a.tmps[119]?.getD undef = _ ∧ True := hf
                        obtain ⟨f12, f13, f11, -⟩ := F
                        clear ho hf
                        go_simp
                        exact hK _ _ (rfl) (Eq.refl _)
                      refine And.intro ?_ ?_
                      · intro a W hR hf ho K hK
                        subst hR
                        have F : a.tmps[122]?.getD undef = _ ∧ a.tmps[119]?.getD undef = _ ∧ True := hf
                        obtain ⟨f14, f11, -⟩ := F
                        clear ho hf
                        go_simp
                        exact hK _ _ (rfl) (Eq.refl _)
                      refine And.intro ?_ ?_
                      · intro a W hR hf ho K hK
                        subst hR
                        have F : a.tmps[123]?.getD undef = _ ∧ a.tmps[119]?.getD undef = _ ∧ True := hf
                        obtain ⟨f15, f11, -⟩ := F
                        clear ho hf
                        go_simp
                        exact hK _ _ (rfl) (Eq.refl _)
                      refine And.intro ?_ ?_
                      · intro a W hR hf ho K hK
                        subst hR
                        have G : a.tmps[11]?.getD undef = _ ∧ True := ho
                        obtain ⟨g11, -⟩ := G
                        have F : a.tmps[119]?.getD undef = _ ∧ True := hf
                        obtain ⟨f11, -⟩ := F
                        clear ho hf
                        go_simp
                        exact hK _ _ (rfl) (Eq.refl _)
                      refine And.intro ?_ ?_
                      · intro a W hR hf ho K hK
                        subst hR
                        have G : a.tmps[14]?.getD undef = _ ∧ True := ho
                        obtain ⟨g14, -⟩ := G
                        have F : a.tmps[119]?.getD undef = _ ∧ True := hf
                        obtain ⟨f11, -⟩ := F
                        clear ho hf
                        go_simp
                        exact hK _ _ (rfl) (Eq.refl _)
                      refine And.intro ?_ ?_
                      · intro a W hR hf ho K hK
                        subst hR
                        have F : a.tmps[125]?.getD undef = _ ∧ a.tmps[126]?.getD undef = _ ∧ a.tmps[119]?.getD undef = _ ∧ True := hf
                        obtain ⟨f17, f18, f11, -⟩ := F
                        clear ho hf
                        go_simp
                        exact hK _ _ (rfl) (Eq.refl _)
                      refine And.intro ?_ ?_
                      · intro a W hR hf ho K hK
                        subst hR
                        have F : a.tmps[127]?.getD undef = _ ∧ a.tmps[119]?.getD undef = _ ∧ True := hf
                        obtain ⟨f19, f11, -⟩ := F
                        clear ho hf
                        go_simp
                        exact hK _ _ (rfl) (Eq.refl _)
                      refine And.intro ?_ ?_
                      · intro a W hR hf ho K hK
                        subst hR
                        have F : a.tmps[128]?.getD undef = _ ∧ a.tmps[119]?.getD undef = _ ∧ True := hf
                        obtain ⟨f20, f11, -⟩ := F
                        clear ho hf
                        go_simp
                        exact hK _ _ (rfl) (Eq.refl _)
                      refine And.intro ?_ ?_
                      · intro a W hR hf ho K hK
                        subst hR
                        have F : a.tmps[124]?.getD undef = _ ∧ a.tmps[129]?.getD undef = _ ∧ a.tmps[119]?.getD undef = _ ∧ True := hf
                        obtain ⟨f16, f21, f11, -⟩ := F
                        clear ho hf
                        go_simp
                        exact hK _ _ (rfl) (Eq.refl _)
                      refine And.intro ?_ ?_
                      · intro a W hR hf ho K hK
                        subst hR
                        have F : a.tmps[119]?.getD undef = _ ∧ a.tmps[130]?.getD undef = _ ∧ True := hf
                        obtain ⟨f11, f22, -⟩ := F
                        clear ho hf
                        go_simp
                        exact hK _ _ (rfl) (Eq.refl _)
                      refine And.intro ?_ ?_
                      · intro a W hR hf ho K hK
                        subst hR
                        have F : a.tmps[131]?.getD undef = _ ∧ a.tmps[119]?.getD undef = _ ∧ True := hf
                        obtain ⟨f23, f11, -⟩ := F
                        clear ho hf
                        go_simp
                        exact hK _ _ (rfl) (Eq.refl _)
                      refine And.intro ?_ ?_
                      · intro a W hR hf ho K hK
                        subst hR
                        have G : a.tmps[14]?.getD undef = _ ∧ True := ho
                        obtain ⟨g14, -⟩ := G
                        have F : a.tmps[132]?.getD undef = _ ∧ True := hf
                        obtain ⟨f24, -⟩ := F
                        clear ho hf
                        go_simp
                        exact hK _ _ (rfl) (Eq.refl _)
                      refine And.intro ?_ ?_
                      · intro a W hR hf ho K hK
                        subst hR
                        have F : a.tmps[133]?.getD undef = _ ∧ a.tmps[132]?.getD undef = _ ∧ True := hf
                        obtain ⟨f25, f24, -⟩ := F
                        clear ho hf
                        go_simp
                        exact hK _ _ (rfl) (Eq.refl _)
                      refine And.intro ?_ ?_
                      · intro a W hR hf ho K hK
                        subst hR
                        have F : a.tmps[134]?.getD undef = _ ∧ a.tmps[132]?.getD undef = _ ∧ a.tmps[132]?.getD undef = _ ∧ True := hf
                        obtain ⟨f26, f24, -, -⟩ := F
                        clear ho hf
                        go_simp
                        exact hK _ _ (rfl) (Eq.refl _)
                      refine And.intro ?_ ?_
                      · intro a W hR hf ho K hK
                        subst hR
                        have G : a.tmps[15]?.getD undef = _ ∧ True := ho
                        obtain ⟨g15, -⟩ := G
                        have F : a.tmps[135]?.getD undef = _ ∧ True := hf
                        obtain ⟨f27, -⟩ := F
                        clear ho hf
                        go_simp
                        exact hK _ _ (rfl) (Eq.refl _)
                      refine And.intro ?_ ?_
                      · intro a W hR hf ho K hK
                        subst hR
                        have F : a.tmps[136]?.getD undef = _ ∧ a.tmps[135]?.getD undef = _ ∧ True := hf
                        obtain ⟨f28, f27, -⟩ := F
                        clear ho hf
                        go_simp
                        exact hK _ _ (rfl) (Eq.refl _)
                      refine And.intro ?_ ?_
                      · intro a W hR hf ho K hK
                        subst hR
                        have F : a.tmps[135]?.getD undef = _ ∧ a.tmps[137]?.getD undef = _ ∧ a.tmps[132]?.getD undef = _ ∧ True := hf
                        obtain ⟨f27, f29, f24, -⟩ := F
                        clear ho hf
                        go_simp
                        exact hK _ _ (rfl) (Eq.refl _)
                      refine And.intro ?_ ?_
                      · intro a W hR hf ho K hK
                        subst hR
                        have F : a.tmps[132]?.getD undef = _ ∧ a.tmps[138]?.getD undef = _ ∧ True := hf
                        obtain ⟨f24, f30, -⟩ := F
                        clear ho hf
                        go_simp
                        exact hK _ _ (rfl) (Eq.refl _)
                      exact trivial
                    case stab =>
                      refine And.intro is_stable ?_
                      refine And.intro is_stable ?_
                      refine And.intro is_stable ?_
                      refine And.intro is_stable ?_
                      refine And.intro is_stable ?_
                      refine And.intro is_stable ?_
                      refine And.intro is_stable ?_
                      refine And.intro is_stable ?_
                      refine And.intro is_stable ?_
                      refine And.intro is_stable ?_
                      refine And.intro is_stable ?_
                      refine And.intro is_stable ?_
                      refine And.intro is_stable ?_
                      refine And.intro is_stable ?_
                      refine And.intro is_stable ?_
                      refine And.intro is_stable ?_
                      refine And.intro is_stable ?_
                      refine And.intro is_stable ?_
                      refine And.intro is_stable ?_
                      refine And.intro is_stable ?_
                      refine And.intro is_stable ?_
                      refine And.intro is_stable ?_
                      refine And.intro is_stable ?_
                      refine And.intro is_stable ?_
                      refine And.intro is_stable ?_
                      refine And.intro is_stable ?_
                      refine And.intro is_stable ?_
                      refine And.intro is_stable ?_
                      refine And.intro is_stable ?_
                      refine And.intro is_stable ?_
                      refine And.intro is_stable ?_
                      refine And.intro is_stable ?_
                      exact trivial
                    case ends =>
                      intro vals W hR hall
                      subst hR
                      have e139 : vals 139 = _ := hall 31 (by decide)
                      clear hall
                      simp only [fill, List.setIfInBounds_toArray, List.set_cons_succ, List.set_cons_zero, e139]
                      go_wp2_with fail
                      exact ⟨⟨l + 1, by omega, by simp, (by repeat first | (with_reducible exact Below.refl _ _) | (with_reducible apply Ext.alloc) | (with_reducible apply Ext.drew) | (with_reducible apply Ext.drewN) | (with_reducible refine Ext.set ?_ (by simp)) | (with_reducible refine Ext.then ?_ HE3.out))⟩, by simp [intOf]; omega⟩
              · obtain rfl : l = K.length := by omega
                go_wp2_with fail
                exact ⟨⟨j + 1, by omega, by simp, HW.out.1.then hE⟩, by simp [intOf]; omega⟩
        · obtain rfl : j = G.length := by omega
          have HE5 := Lib.hid hE
          clear hE
          go_wp2_with fail
          go_loopw [16] (fun ii wo => ∃ j : Nat, j ≤ P.length ∧ ii = .int .i64 (j : Int) ∧ Ext U wo) (fun ii _ => P.length - (intOf ii).toNat)
          case atStart => exact ⟨0, Nat.zero_le _, rfl, HE5.out⟩
          case round =>
            obtain ⟨j, hj, rfl, hE⟩ := hrel
            by_cases hlj : j < P.length
            · obtain ⟨bp, op, rfl, hbp, p1⟩ := (HA.out.2.2.ext hE).flat (s := 12) (f := cap2) (fun _ => rfl) (by decide) hlj
              have hpo := HG.out.2.2.1 (List.getElem_mem hlj)
              have x0 := p1 0 _ rfl
              have x1 := p1 1 _ rfl
              have x2 := p1 2 _ rfl
              have x3 := p1 3 _ rfl
              have x4 := p1 4 _ rfl
              have x5 := p1 5 _ rfl
              have y0 := p1 6 _ rfl
              have y1 := p1 7 _ rfl
              have y2 := p1 8 _ rfl
              have y3 := p1 9 _ rfl
              have y4 := p1 10 _ rfl
              have y5 := p1 11 _ rfl
              simp only [Nat.add_zero] at x0
              generalize P[j] = pp at x0 x1 x2 x3 x4 x5 y0 y1 y2 y3 y4 y5 hpo
              obtain ⟨⟨pt, pb, pT, pa, pp, py⟩, ⟨qt, qb, qT, qa, qp, qy⟩⟩ := pp
              simp only at x0 x1 x2 x3 x4 x5 y0 y1 y2 y3 y4 y5 hpo
              obtain ⟨r1, r2, t2, t5, rfl, rfl, hin⟩ := hpo
              have hd1 : decide (qy < 2) = false := decide_eq_false (by omega)
              have hd2 : decide (5 < qy) = false := decide_eq_false (by omega)
              have hpT : pT ≤ 9223372036854775807 := by
                have h1 := r1
                unfold rightC addrB at h1
                simp only [Bool.and_eq_true, decide_eq_true_eq] at h1
                omega
              have HE6 := Lib.hid (And.intro hE (And.intro r1 (And.intro r2 hin)))
              clear hE r1 r2 hin p1
              go_wp2_with fail
              refine wp_region_obl Ext [152, 153, 154, 155, 156, 157, 158, 159, 160, 161, 162, 163, 164, 165, 166, 167, 168, 169, 170, 171, 172, 173, 174, 175, 176, 177, 178, 179, 180, 181, 182, 183, 184, 185, 186, 187, 188, 189, 190, 191, 192, 193, 194, 195, 196, 197, 198, 199, 200, 201, 202, 203, 204, 205, 206, 207, 208, 209] (by kernel_rfl) (fun _ => Below.refl _ _) (fun _ _ _ => Ext.then) (by kernel_rfl) (by kernel_rfl) ?_
              apply ex_is; apply Exists.intro
              apply ex_is; apply Exists.intro
              apply ex_is; apply Exists.intro
              apply ex_is; apply Exists.intro
              apply ex_is; apply Exists.intro
              apply ex_is; apply Exists.intro
              apply ex_is; apply Exists.intro
              apply ex_is; apply Exists.intro
              apply ex_is; apply Exists.intro
              apply ex_is; apply Exists.intro
              apply ex_is; apply Exists.intro
              apply ex_is; apply Exists.intro
              apply ex_is; apply Exists.intro
              apply ex_is; apply Exists.intro
              apply ex_is; apply Exists.intro
              apply ex_is; apply Exists.intro
              apply ex_is; apply Exists.intro
              apply ex_is; apply Exists.intro
              apply ex_is; apply Exists.intro
              apply ex_is; apply Exists.intro
              apply ex_is; apply Exists.intro
              apply ex_is; apply Exists.intro
              apply ex_is; apply Exists.intro
              apply ex_is; apply Exists.intro
              apply ex_is; apply Exists.intro
              apply ex_is; apply Exists.intro
              apply ex_is; apply Exists.intro
              apply ex_is; apply Exists.intro
              apply ex_is; apply Exists.intro
              apply ex_is; apply Exists.intro
              apply ex_is; apply Exists.intro
              apply ex_is; apply Exists.intro
              apply ex_is; apply Exists.intro
              apply ex_is; apply Exists.intro
              apply ex_is; apply Exists.intro
              apply ex_is; apply Exists.intro
              apply ex_is; apply Exists.intro
              apply ex_is; apply Exists.intro
              apply ex_is; apply Exists.intro
              apply ex_is; apply Exists.intro
              apply ex_is; apply Exists.intro
              apply ex_is; apply Exists.intro
              apply ex_is; apply Exists.intro
              apply ex_is; apply Exists.intro
              apply ex_is; apply Exists.intro
              apply ex_is; apply Exists.intro
              apply ex_is; apply Exists.intro
              apply ex_is; apply Exists.intro
              apply ex_is; apply Exists.intro
              apply ex_is; apply Exists.intro
              apply ex_is; apply Exists.intro
              apply ex_is; apply Exists.intro
              apply ex_is; apply Exists.intro
              apply ex_is; apply Exists.intro
              apply ex_is; apply Exists.intro
              apply ex_is; apply Exists.intro
              apply ex_is; apply Exists.intro
              apply ex_is; apply Exists.intro
              refine ⟨[], ⟨?steps, ?stab, ?ends⟩⟩
              case steps =>
                refine And.intro ?_ ?_
                · intro a W hR hf ho K hK
                  replace hR := ext_drew hR
                  have G : a.tmps[13]?.getD undef = _ ∧ True := ho
                  obtain ⟨g13, -⟩ := G
                  clear ho hf
                  go_simp
                  exact hK _ _ (Below.refl _ _) (Eq.refl _)
                refine And.intro ?_ ?_
                · intro a W hR hf ho K hK
                  replace hR := ext_drew hR
                  have G : a.tmps[16]?.getD undef = _ ∧ True := ho
                  obtain ⟨g16, -⟩ := G
                  clear ho hf
                  go_simp
                  exact hK _ _ (Below.refl _ _) (Eq.refl _)
                refine And.intro ?_ ?_
                · intro a W hR hf ho K hK
                  replace hR := ext_drew hR
                  have F : a.tmps[152]?.getD undef = _ ∧ a.tmps[153]?.getD undef = _ ∧ True := hf
                  obtain ⟨f0, f1, -⟩ := F
                  clear ho hf
                  go_simp
                  exact hK _ _ (Below.refl _ _) (Eq.refl _)
                refine And.intro ?_ ?_
                · intro a W hR hf ho K hK
                  replace hR := ext_drew hR
                  have F : a.tmps[154]?.getD undef = _ ∧ True := hf
                  obtain ⟨f2, -⟩ := F
                  clear ho hf
                  go_simp
                  exact hK _ _ (Below.refl _ _) (Eq.refl _)
                refine And.intro ?_ ?_
                · intro a W hR hf ho K hK
                  replace hR := ext_drew hR
                  have F : a.tmps[155]?.getD undef = _ ∧ True := hf
                  obtain ⟨f3, -⟩ := F
                  clear ho hf
                  replace x0 := ext_cell hR _ _ x0; replace x1 := ext_cell hR _ _ x1; replace x2 := ext_cell hR _ _ x2; replace x3 := ext_cell hR _ _ x3; replace x4 := ext_cell hR _ _ x4; replace x5 := ext_cell hR _ _ x5; replace y0 := ext_cell hR _ _ y0; replace y1 := ext_cell hR _ _ y1; replace y2 := ext_cell hR _ _ y2; replace y3 := ext_cell hR _ _ y3; replace y4 := ext_cell hR _ _ y4; replace y5 := ext_cell hR _ _ y5
                  go_simp
                  exact hK _ _ (Below.refl _ _) (Eq.refl _)
                refine And.intro ?_ ?_
                · intro a W hR hf ho K hK
                  replace hR := ext_drew hR
                  have F : a.tmps[156]?.getD undef = _ ∧ True := hf
                  obtain ⟨f4, -⟩ := F
                  clear ho hf
                  go_simp
                  refine (capR_any ⟨pt, pb, pT, pa, pp, qy⟩ W).mono ?_; rintro e W1 ⟨rfl, hE⟩; rw [HE6.out.2.1]; exact hK _ _ hE (Eq.refl _)
                refine And.intro ?_ ?_
                · intro a W hR hf ho K hK
                  replace hR := ext_drew hR
                  have F : a.tmps[157]?.getD undef = _ ∧ True := hf
                  obtain ⟨f5, -⟩ := F
                  clear ho hf
                  go_simp
                  exact hK _ _ (Below.refl _ _) (Eq.refl _)
                refine And.intro ?_ ?_
                · intro a W hR hf ho K hK
                  replace hR := ext_drew hR
                  have F : a.tmps[158]?.getD undef = _ ∧ a.tmps[157]?.getD undef = _ ∧ True := hf
                  obtain ⟨f6, f5, -⟩ := F
                  clear ho hf
                  go_simp
                  exact hK _ _ (Below.refl _ _) (Eq.refl _)
                refine And.intro ?_ ?_
                · intro a W hR hf ho K hK
                  replace hR := ext_drew hR
                  have G : a.tmps[13]?.getD undef = _ ∧ True := ho
                  obtain ⟨g13, -⟩ := G
                  have F : a.tmps[159]?.getD undef = _ ∧ True := hf
                  obtain ⟨f7, -⟩ := F
                  clear ho hf
                  go_simp
                  exact hK _ _ (Below.refl _ _) (Eq.refl _)
                refine And.intro ?_ ?_
                · intro a W hR hf ho K hK
                  replace hR := ext_drew hR
                  have G : a.tmps[16]?.getD undef = _ ∧ True := ho
                  obtain ⟨g16, -⟩ := G
                  have F : a.tmps[159]?.getD undef = _ ∧ True := hf
                  obtain ⟨f7, -⟩ := F
                  clear ho hf
                  go_simp
                  exact hK _ _ (Below.refl _ _) (Eq.refl _)
                refine And.intro ?_ ?_
                · intro a W hR hf ho K hK
                  replace hR := ext_drew hR
                  have F : a.tmps[160]?.getD undef = _ ∧ a.tmps[161]?.getD undef = _ ∧ a.tmps[159]?.getD undef = _ ∧ True := hf
                  obtain ⟨f8, f9, f7, -⟩ := F
                  clear ho hf
                  go_simp
                  exact hK _ _ (Below.refl _ _) (Eq.refl _)
                refine And.intro ?_ ?_
                · intro a W hR hf ho K hK
                  replace hR := ext_drew hR
                  have F : a.tmps[162]?.getD undef = _ ∧ a.tmps[159]?.getD undef = _ ∧ True := hf
                  obtain ⟨f10, f7, -⟩ := F
                  clear ho hf
                  go_simp
                  exact hK _ _ (Below.refl _ _) (Eq.refl _)
                refine And.intro ?_ ?_
                · intro a W hR hf ho K hK
                  replace hR := ext_drew hR
                  have F : a.tmps[163]?.getD undef = _ ∧ a.tmps[159]?.getD undef = _ ∧ True := hf
                  obtain ⟨f11, f7, -⟩ := F
                  clear ho hf
                  replace x0 := ext_cell hR _ _ x0; replace x1 := ext_cell hR _ _ x1; replace x2 := ext_cell hR _ _ x2; replace x3 := ext_cell hR _ _ x3; replace x4 := ext_cell hR _ _ x4; replace x5 := ext_cell hR _ _ x5; replace y0 := ext_cell hR _ _ y0; replace y1 := ext_cell hR _ _ y1; replace y2 := ext_cell hR _ _ y2; replace y3 := ext_cell hR _ _ y3; replace y4 := ext_cell hR _ _ y4; replace y5 := ext_cell hR _ _ y5
                  go_simp
                  exact hK _ _ (Below.refl _ _) (Eq.refl _)
                refine And.intro ?_ ?_
                · intro a W hR hf ho K hK
                  replace hR := ext_drew hR
                  have F : a.tmps[164]?.getD undef = _ ∧ a.tmps[159]?.getD undef = _ ∧ a.tmps[159]?.getD undef = _ ∧ True := hf
                  obtain ⟨f12, f7, -, -⟩ := F
                  clear ho hf
                  go_simp
                  refine (capR_any ⟨qt, qb, qT, qa, 27, qy⟩ W).mono ?_; rintro e W1 ⟨rfl, hE⟩; rw [HE6.out.2.2.1]; exact hK _ _ hE (Eq.refl _)
                refine And.intro ?_ ?_
                · intro a W hR hf ho K hK
                  replace hR := ext_drew hR
                  have F : a.tmps[165]?.getD undef = _ ∧ a.tmps[159]?.getD undef = _ ∧ True := hf
                  obtain ⟨f13, f7, -⟩ := F
                  clear ho hf
                  go_simp
                  exact hK _ _ (Below.refl _ _) (Eq.refl _)
                refine And.intro ?_ ?_
                · intro a W hR hf ho K hK
                  replace hR := ext_drew hR
                  have F : a.tmps[159]?.getD undef = _ ∧ a.tmps[166]?.getD undef = _ ∧ True := hf
                  obtain ⟨f7, f14, -⟩ := F
                  clear ho hf
                  go_simp
                  exact hK _ _ (Below.refl _ _) (Eq.refl _)
                refine And.intro ?_ ?_
                · intro a W hR hf ho K hK
                  replace hR := ext_drew hR
                  have F : a.tmps[167]?.getD undef = _ ∧ a.tmps[165]?.getD undef = _ ∧ True := hf
                  obtain ⟨f15, f13, -⟩ := F
                  clear ho hf
                  go_simp
                  exact hK _ _ (Below.refl _ _) (Eq.refl _)
                refine And.intro ?_ ?_
                · intro a W hR hf ho K hK
                  replace hR := ext_drew hR
                  have G : a.tmps[17]?.getD undef = _ ∧ True := ho
                  obtain ⟨g17, -⟩ := G
                  have F : a.tmps[168]?.getD undef = _ ∧ True := hf
                  obtain ⟨f16, -⟩ := F
                  clear ho hf
                  go_simp
                  exact hK _ _ (Below.refl _ _) (Eq.refl _)
                refine And.intro ?_ ?_
                · intro a W hR hf ho K hK
                  replace hR := ext_drew hR
                  have F : a.tmps[169]?.getD undef = _ ∧ a.tmps[168]?.getD undef = _ ∧ True := hf
                  obtain ⟨f17, f16, -⟩ := F
                  clear ho hf
                  go_simp
                  exact hK _ _ (Below.refl _ _) (Eq.refl _)
                refine And.intro ?_ ?_
                · intro a W hR hf ho K hK
                  replace hR := ext_drew hR
                  have F : a.tmps[168]?.getD undef = _ ∧ a.tmps[170]?.getD undef = _ ∧ True := hf
                  obtain ⟨f16, f18, -⟩ := F
                  clear ho hf
                  go_simp
                  exact hK _ _ (Below.refl _ _) (Eq.refl _)
                refine And.intro ?_ ?_
                · intro a W hR hf ho K hK
                  replace hR := ext_drew hR
                  have F : a.tmps[171]?.getD undef = _ ∧ a.tmps[168]?.getD undef = _ ∧ True := hf
                  obtain ⟨f19, f16, -⟩ := F
                  clear ho hf
                  go_simp
                  exact hK _ _ (Below.refl _ _) (Eq.refl _)
                refine And.intro ?_ ?_
                · intro a W hR hf ho K hK
                  replace hR := ext_drew hR
                  have G : a.tmps[17]?.getD undef = _ ∧ True := ho
                  obtain ⟨g17, -⟩ := G
                  have F : a.tmps[172]?.getD undef = _ ∧ True := hf
                  obtain ⟨f20, -⟩ := F
                  clear ho hf
                  go_simp
                  exact hK _ _ (Below.refl _ _) (Eq.refl _)
                refine And.intro ?_ ?_
                · intro a W hR hf ho K hK
                  replace hR := ext_drew hR
                  have F : a.tmps[173]?.getD undef = _ ∧ a.tmps[172]?.getD undef = _ ∧ True := hf
                  obtain ⟨f21, f20, -⟩ := F
                  clear ho hf
                  go_simp
                  exact hK _ _ (Below.refl _ _) (Eq.refl _)
                refine And.intro ?_ ?_
                · intro a W hR hf ho K hK
                  replace hR := ext_drew hR
                  have F : a.tmps[172]?.getD undef = _ ∧ a.tmps[174]?.getD undef = _ ∧ True := hf
                  obtain ⟨f20, f22, -⟩ := F
                  clear ho hf
                  go_simp
                  exact hK _ _ (Below.refl _ _) (Eq.refl _)
                refine And.intro ?_ ?_
                · intro a W hR hf ho K hK
                  replace hR := ext_drew hR
                  have F : a.tmps[175]?.getD undef = _ ∧ a.tmps[172]?.getD undef = _ ∧ True := hf
                  obtain ⟨f23, f20, -⟩ := F
                  clear ho hf
                  go_simp
                  exact hK _ _ (Below.refl _ _) (Eq.refl _)
                refine And.intro ?_ ?_
                · intro a W hR hf ho K hK
                  replace hR := ext_drew hR
                  have G : a.tmps[13]?.getD undef = _ ∧ True := ho
                  obtain ⟨g13, -⟩ := G
                  have F : a.tmps[176]?.getD undef = _ ∧ True := hf
                  obtain ⟨f24, -⟩ := F
                  clear ho hf
                  go_simp
                  exact hK _ _ (Below.refl _ _) (Eq.refl _)
                refine And.intro ?_ ?_
                · intro a W hR hf ho K hK
                  replace hR := ext_drew hR
                  have G : a.tmps[16]?.getD undef = _ ∧ True := ho
                  obtain ⟨g16, -⟩ := G
                  have F : a.tmps[176]?.getD undef = _ ∧ True := hf
                  obtain ⟨f24, -⟩ := F
                  clear ho hf
                  go_simp
                  exact hK _ _ (Below.refl _ _) (Eq.refl _)
                refine And.intro ?_ ?_
                · intro a W hR hf ho K hK
                  replace hR := ext_drew hR
                  have F : a.tmps[177]?.getD undef = _ ∧ a.tmps[178]?.getD undef = _ ∧ a.tmps[176]?.getD undef = _ ∧ True := hf
                  obtain ⟨f25, f26, f24, -⟩ := F
                  clear ho hf
                  go_simp
                  exact hK _ _ (Below.refl _ _) (Eq.refl _)
                refine And.intro ?_ ?_
                · intro a W hR hf ho K hK
                  replace hR := ext_drew hR
                  have F : a.tmps[179]?.getD undef = _ ∧ a.tmps[176]?.getD undef = _ ∧ True := hf
                  obtain ⟨f27, f24, -⟩ := F
                  clear ho hf
                  go_simp
                  exact hK _ _ (Below.refl _ _) (Eq.refl _)
                refine And.intro ?_ ?_
                · intro a W hR hf ho K hK
                  replace hR := ext_drew hR
                  have F : a.tmps[180]?.getD undef = _ ∧ a.tmps[176]?.getD undef = _ ∧ True := hf
                  obtain ⟨f28, f24, -⟩ := F
                  clear ho hf
                  go_simp
                  exact hK _ _ (Below.refl _ _) (Eq.refl _)
                refine And.intro ?_ ?_
                · intro a W hR hf ho K hK
                  replace hR := ext_drew hR
                  have F : a.tmps[181]?.getD undef = _ ∧ a.tmps[176]?.getD undef = _ ∧ True := hf
                  obtain ⟨f29, f24, -⟩ := F
                  clear ho hf
                  replace x0 := ext_cell hR _ _ x0; replace x1 := ext_cell hR _ _ x1; replace x2 := ext_cell hR _ _ x2; replace x3 := ext_cell hR _ _ x3; replace x4 := ext_cell hR _ _ x4; replace x5 := ext_cell hR _ _ x5; replace y0 := ext_cell hR _ _ y0; replace y1 := ext_cell hR _ _ y1; replace y2 := ext_cell hR _ _ y2; replace y3 := ext_cell hR _ _ y3; replace y4 := ext_cell hR _ _ y4; replace y5 := ext_cell hR _ _ y5
                  go_simp
                  exact hK _ _ (Below.refl _ _) (Eq.refl _)
                refine And.intro ?_ ?_
                · intro a W hR hf ho K hK
                  replace hR := ext_drew hR
                  have G : a.tmps[17]?.getD undef = _ ∧ True := ho
                  obtain ⟨g17, -⟩ := G
                  have F : a.tmps[176]?.getD undef = _ ∧ True := hf
                  obtain ⟨f24, -⟩ := F
                  clear ho hf
                  go_simp
                  exact hK _ _ (Below.refl _ _) (Eq.refl _)
                refine And.intro ?_ ?_
                · intro a W hR hf ho K hK
                  replace hR := ext_drew hR
                  have F : a.tmps[182]?.getD undef = _ ∧ a.tmps[183]?.getD undef = _ ∧ a.tmps[176]?.getD undef = _ ∧ True := hf
                  obtain ⟨f30, f31, f24, -⟩ := F
                  clear ho hf
                  go_simp
                  exact hK _ _ (Below.refl _ _) (Eq.refl _)
                refine And.intro ?_ ?_
                · intro a W hR hf ho K hK
                  replace hR := ext_drew hR
                  have F : a.tmps[176]?.getD undef = _ ∧ a.tmps[184]?.getD undef = _ ∧ True := hf
                  obtain ⟨f24, f32, -⟩ := F
                  clear ho hf
                  go_simp
                  exact hK _ _ (Below.refl _ _) (Eq.refl _)
                refine And.intro ?_ ?_
                · intro a W hR hf ho K hK
                  replace hR := ext_drew hR
                  have F : a.tmps[185]?.getD undef = _ ∧ a.tmps[176]?.getD undef = _ ∧ True := hf
                  obtain ⟨f33, f24, -⟩ := F
                  clear ho hf
                  go_simp
                  exact hK _ _ (Below.refl _ _) (Eq.refl _)
                refine And.intro ?_ ?_
                · intro a W hR hf ho K hK
                  replace hR := ext_drew hR
                  have G : a.tmps[13]?.getD undef = _ ∧ True := ho
                  obtain ⟨g13, -⟩ := G
                  have F : a.tmps[186]?.getD undef = _ ∧ True := hf
                  obtain ⟨f34, -⟩ := F
                  clear ho hf
                  go_simp
                  exact hK _ _ (Below.refl _ _) (Eq.refl _)
                refine And.intro ?_ ?_
                · intro a W hR hf ho K hK
                  replace hR := ext_drew hR
                  have G : a.tmps[16]?.getD undef = _ ∧ True := ho
                  obtain ⟨g16, -⟩ := G
                  have F : a.tmps[186]?.getD undef = _ ∧ True := hf
                  obtain ⟨f34, -⟩ := F
                  clear ho hf
                  go_simp
                  exact hK _ _ (Below.refl _ _) (Eq.refl _)
                refine And.intro ?_ ?_
                · intro a W hR hf ho K hK
                  replace hR := ext_drew hR
                  have F : a.tmps[187]?.getD undef = _ ∧ a.tmps[188]?.getD undef = _ ∧ a.tmps[186]?.getD undef = _ ∧ True := hf
                  obtain ⟨f35, f36, f34, -⟩ := F
                  clear ho hf
                  go_simp
                  exact hK _ _ (Below.refl _ _) (Eq.refl _)
                refine And.intro ?_ ?_
                · intro a W hR hf ho K hK
                  replace hR := ext_drew hR
                  have F : a.tmps[189]?.getD undef = _ ∧ a.tmps[186]?.getD undef = _ ∧ True := hf
                  obtain ⟨f37, f34, -⟩ := F
                  clear ho hf
                  go_simp
                  exact hK _ _ (Below.refl _ _) (Eq.refl _)
                refine And.intro ?_ ?_
                · intro a W hR hf ho K hK
                  replace hR := ext_drew hR
                  have F : a.tmps[190]?.getD undef = _ ∧ a.tmps[186]?.getD undef = _ ∧ True := hf
                  obtain ⟨f38, f34, -⟩ := F
                  clear ho hf
                  go_simp
                  exact hK _ _ (Below.refl _ _) (Eq.refl _)
                refine And.intro ?_ ?_
                · intro a W hR hf ho K hK
                  replace hR := ext_drew hR
                  have F : a.tmps[191]?.getD undef = _ ∧ a.tmps[186]?.getD undef = _ ∧ True := hf
                  obtain ⟨f39, f34, -⟩ := F
                  clear ho hf
                  replace x0 := ext_cell hR _ _ x0; replace x1 := ext_cell hR _ _ x1; replace x2 := ext_cell hR _ _ x2; replace x3 := ext_cell hR _ _ x3; replace x4 := ext_cell hR _ _ x4; replace x5 := ext_cell hR _ _ x5; replace y0 := ext_cell hR _ _ y0; replace y1 := ext_cell hR _ _ y1; replace y2 := ext_cell hR _ _ y2; replace y3 := ext_cell hR _ _ y3; replace y4 := ext_cell hR _ _ y4; replace y5 := ext_cell hR _ _ y5
                  go_simp
                  exact hK _ _ (Below.refl _ _) (Eq.refl _)
                refine And.intro ?_ ?_
                · intro a W hR hf ho K hK
                  replace hR := ext_drew hR
                  have F : a.tmps[192]?.getD undef = _ ∧ a.tmps[186]?.getD undef = _ ∧ True := hf
                  obtain ⟨f40, f34, -⟩ := F
                  clear ho hf
                  go_simp
                  exact hK _ _ (Below.refl _ _) (Eq.refl _)
                refine And.intro ?_ ?_
                · intro a W hR hf ho K hK
                  replace hR := ext_drew hR
                  have F : a.tmps[186]?.getD undef = _ ∧ a.tmps[193]?.getD undef = _ ∧ True := hf
                  obtain ⟨f34, f41, -⟩ := F
                  clear ho hf
                  go_simp
                  exact hK _ _ (Below.refl _ _) (Eq.refl _)
                refine And.intro ?_ ?_
                · intro a W hR hf ho K hK
                  replace hR := ext_drew hR
                  have F : a.tmps[194]?.getD undef = _ ∧ a.tmps[186]?.getD undef = _ ∧ True := hf
                  obtain ⟨f42, f34, -⟩ := F
                  clear ho hf
                  go_simp
                  exact hK _ _ (Below.refl _ _) (Eq.refl _)
                refine And.intro ?_ ?_
                · intro a W hR hf ho K hK
                  replace hR := ext_drew hR
                  have G : a.tmps[13]?.getD undef = _ ∧ True := ho
                  obtain ⟨g13, -⟩ := G
                  have F : a.tmps[195]?.getD undef = _ ∧ True := hf
                  obtain ⟨f43, -⟩ := F
                  clear ho hf
                  go_simp
                  exact hK _ _ (Below.refl _ _) (Eq.refl _)
                refine And.intro ?_ ?_
                · intro a W hR hf ho K hK
                  replace hR := ext_drew hR
                  have G : a.tmps[16]?.getD undef = _ ∧ True := ho
                  obtain ⟨g16, -⟩ := G
                  have F : a.tmps[195]?.getD undef = _ ∧ True := hf
                  obtain ⟨f43, -⟩ := F
                  clear ho hf
                  go_simp
                  exact hK _ _ (Below.refl _ _) (Eq.refl _)
                refine And.intro ?_ ?_
                · intro a W hR hf ho K hK
                  replace hR := ext_drew hR
                  have F : a.tmps[196]?.getD undef = _ ∧ a.tmps[197]?.getD undef = _ ∧ a.tmps[195]?.getD undef = _ ∧ True := hf
                  obtain ⟨f44, f45, f43, -⟩ := F
                  clear ho hf
                  go_simp
                  exact hK _ _ (Below.refl _ _) (Eq.refl _)
                refine And.intro ?_ ?_
                · intro a W hR hf ho K hK
                  replace hR := ext_drew hR
                  have F : a.tmps[198]?.getD undef = _ ∧ a.tmps[195]?.getD undef = _ ∧ True := hf
                  obtain ⟨f46, f43, -⟩ := F
                  clear ho hf
                  go_simp
                  exact hK _ _ (Below.refl _ _) (Eq.refl _)
                refine And.intro ?_ ?_
                · intro a W hR hf ho K hK
                  replace hR := ext_drew hR
                  have F : a.tmps[199]?.getD undef = _ ∧ a.tmps[195]?.getD undef = _ ∧ True := hf
                  obtain ⟨f47, f43, -⟩ := F
                  clear ho hf
                  replace x0 := ext_cell hR _ _ x0; replace x1 := ext_cell hR _ _ x1; replace x2 := ext_cell hR _ _ x2; replace x3 := ext_cell hR _ _ x3; replace x4 := ext_cell hR _ _ x4; replace x5 := ext_cell hR _ _ x5; replace y0 := ext_cell hR _ _ y0; replace y1 := ext_cell hR _ _ y1; replace y2 := ext_cell hR _ _ y2; replace y3 := ext_cell hR _ _ y3; replace y4 := ext_cell hR _ _ y4; replace y5 := ext_cell hR _ _ y5
                  go_simp
                  exact hK _ _ (Below.refl _ _) (Eq.refl _)
                refine And.intro ?_ ?_
                · intro a W hR hf ho K hK
                  replace hR := ext_drew hR
                  have G : a.tmps[13]?.getD undef = _ ∧ True := ho
                  obtain ⟨g13, -⟩ := G
                  have F : a.tmps[195]?.getD undef = _ ∧ True := hf
                  obtain ⟨f43, -⟩ := F
                  clear ho hf
                  go_simp
                  exact hK _ _ (Below.refl _ _) (Eq.refl _)
                refine And.intro ?_ ?_
                · intro a W hR hf ho K hK
                  replace hR := ext_drew hR
                  have G : a.tmps[16]?.getD undef = _ ∧ True := ho
                  obtain ⟨g16, -⟩ := G
                  have F : a.tmps[195]?.getD undef = _ ∧ True := hf
                  obtain ⟨f43, -⟩ := F
                  clear ho hf
                  go_simp
                  exact hK _ _ (Below.refl _ _) (Eq.refl _)
                refine And.intro ?_ ?_
                · intro a W hR hf ho K hK
                  replace hR := ext_drew hR
                  have F : a.tmps[201]?.getD undef = _ ∧ a.tmps[202]?.getD undef = _ ∧ a.tmps[195]?.getD undef = _ ∧ True := hf
                  obtain ⟨f49, f50, f43, -⟩ := F
                  clear ho hf
                  go_simp
                  exact hK _ _ (Below.refl _ _) (Eq.refl _)
                refine And.intro ?_ ?_
                · intro a W hR hf ho K hK
                  replace hR := ext_drew hR
                  have F : a.tmps[203]?.getD undef = _ ∧ a.tmps[195]?.getD undef = _ ∧ True := hf
                  obtain ⟨f51, f43, -⟩ := F
                  clear ho hf
                  go_simp
                  exact hK _ _ (Below.refl _ _) (Eq.refl _)
                refine And.intro ?_ ?_
                · intro a W hR hf ho K hK
                  replace hR := ext_drew hR
                  have F : a.tmps[204]?.getD undef = _ ∧ a.tmps[195]?.getD undef = _ ∧ True := hf
                  obtain ⟨f52, f43, -⟩ := F
                  clear ho hf
                  go_simp
                  exact hK _ _ (Below.refl _ _) (Eq.refl _)
                refine And.intro ?_ ?_
                · intro a W hR hf ho K hK
                  replace hR := ext_drew hR
                  have F : a.tmps[205]?.getD undef = _ ∧ a.tmps[195]?.getD undef = _ ∧ True := hf
                  obtain ⟨f53, f43, -⟩ := F
                  clear ho hf
                  replace x0 := ext_cell hR _ _ x0; replace x1 := ext_cell hR _ _ x1; replace x2 := ext_cell hR _ _ x2; replace x3 := ext_cell hR _ _ x3; replace x4 := ext_cell hR _ _ x4; replace x5 := ext_cell hR _ _ x5; replace y0 := ext_cell hR _ _ y0; replace y1 := ext_cell hR _ _ y1; replace y2 := ext_cell hR _ _ y2; replace y3 := ext_cell hR _ _ y3; replace y4 := ext_cell hR _ _ y4; replace y5 := ext_cell hR _ _ y5
                  go_simp
                  exact hK _ _ (Below.refl _ _) (Eq.refl _)
                refine And.intro ?_ ?_
                · intro a W hR hf ho K hK
                  replace hR := ext_drew hR
                  have F : a.tmps[200]?.getD undef = _ ∧ a.tmps[206]?.getD undef = _ ∧ a.tmps[195]?.getD undef = _ ∧ a.tmps[195]?.getD undef = _ ∧ True := hf
                  obtain ⟨f48, f54, f43, -, -⟩ := F
                  clear ho hf
                  go_simp
                  refine (capIn_any ⟨pt, pb, pT, pa, pp, qy⟩ pa 4 W hpT).mono ?_; rintro e W1 ⟨rfl, hE⟩; rw [HE6.out.2.2.2]; exact hK _ _ hE (Eq.refl _)
                refine And.intro ?_ ?_
                · intro a W hR hf ho K hK
                  replace hR := ext_drew hR
                  have F : a.tmps[207]?.getD undef = _ ∧ a.tmps[195]?.getD undef = _ ∧ True := hf
                  obtain ⟨f55, f43, -⟩ := F
                  clear ho hf
                  go_simp
                  exact hK _ _ (Below.refl _ _) (Eq.refl _)
                refine And.intro ?_ ?_
                · intro a W hR hf ho K hK
                  replace hR := ext_drew hR
                  have F : a.tmps[195]?.getD undef = _ ∧ a.tmps[208]?.getD undef = _ ∧ True := hf
                  obtain ⟨f43, f56, -⟩ := F
                  clear ho hf
                  go_simp
                  exact hK _ _ (Below.refl _ _) (Eq.refl _)
                exact trivial
              case stab =>
                refine And.intro is_stable ?_
                refine And.intro is_stable ?_
                refine And.intro is_stable ?_
                refine And.intro is_stable ?_
                refine And.intro is_stable ?_
                refine And.intro is_stable ?_
                refine And.intro is_stable ?_
                refine And.intro is_stable ?_
                refine And.intro is_stable ?_
                refine And.intro is_stable ?_
                refine And.intro is_stable ?_
                refine And.intro is_stable ?_
                refine And.intro is_stable ?_
                refine And.intro is_stable ?_
                refine And.intro is_stable ?_
                refine And.intro is_stable ?_
                refine And.intro is_stable ?_
                refine And.intro is_stable ?_
                refine And.intro is_stable ?_
                refine And.intro is_stable ?_
                refine And.intro is_stable ?_
                refine And.intro is_stable ?_
                refine And.intro is_stable ?_
                refine And.intro is_stable ?_
                refine And.intro is_stable ?_
                refine And.intro is_stable ?_
                refine And.intro is_stable ?_
                refine And.intro is_stable ?_
                refine And.intro is_stable ?_
                refine And.intro is_stable ?_
                refine And.intro is_stable ?_
                refine And.intro is_stable ?_
                refine And.intro is_stable ?_
                refine And.intro is_stable ?_
                refine And.intro is_stable ?_
                refine And.intro is_stable ?_
                refine And.intro is_stable ?_
                refine And.intro is_stable ?_
                refine And.intro is_stable ?_
                refine And.intro is_stable ?_
                refine And.intro is_stable ?_
                refine And.intro is_stable ?_
                refine And.intro is_stable ?_
                refine And.intro is_stable ?_
                refine And.intro is_stable ?_
                refine And.intro is_stable ?_
                refine And.intro is_stable ?_
                refine And.intro is_stable ?_
                refine And.intro is_stable ?_
                refine And.intro is_stable ?_
                refine And.intro is_stable ?_
                refine And.intro is_stable ?_
                refine And.intro is_stable ?_
                refine And.intro is_stable ?_
                refine And.intro is_stable ?_
                refine And.intro is_stable ?_
                refine And.intro is_stable ?_
                refine And.intro is_stable ?_
                exact trivial
              case ends =>
                intro vals W hR hall
                replace hR := ext_drew hR
                have e209 : vals 209 = _ := hall 57 (by decide)
                clear hall
                simp only [fill, List.setIfInBounds_toArray, List.set_cons_succ, List.set_cons_zero, e209]
                have HW6 := Lib.hid (HE6.out.1.then hR)
                clear x0 x1 x2 x3 x4 x5 y0 y1 y2 y3 y4 y5
                go_wp2_with fail
                go_loopw [18] (fun ii wo => ∃ l : Nat, l ≤ K.length ∧ ii = .int .i64 (l : Int) ∧ Ext U wo) (fun ii _ => K.length - (intOf ii).toNat)
                case atStart => exact ⟨0, Nat.zero_le _, rfl, (by repeat first | (with_reducible exact Below.refl _ _) | (with_reducible apply Ext.alloc) | (with_reducible apply Ext.drew) | (with_reducible apply Ext.drewN) | (with_reducible refine Ext.set ?_ (by simp)) | (with_reducible refine Ext.then ?_ HW6.out))⟩
                case round =>
                  obtain ⟨l, hl, rfl, hE⟩ := hrel
                  by_cases hll : l < K.length
                  · obtain ⟨bk, ok, rfl, hbk, y0, y1, y2, y3, y4, y5⟩ := cap_row (HA.out.2.1.ext hE) hll
                    have hty : 32 ≤ K[l].perms → inC K[l] qy 1 = false := fun h32 => HG.out.2.2.2 (List.getElem_mem hll) h32 t5
                    have hkT : Hid (rightC K[l] = true → K[l].top ≤ 9223372036854775807) := Lib.hid (fun h => by
                      unfold rightC addrB at h
                      simp only [Bool.and_eq_true, decide_eq_true_eq] at h
                      omega)
                    have hkr : rightC K[l] = true := HGK.out _ (List.getElem_mem hll)
                    have hkt := hkT.out hkr
                    generalize K[l] = ck at y0 y1 y2 y3 y4 y5 hty hkt
                    obtain ⟨ktg, kbs, ktp, kat, kpm, kty⟩ := ck
                    simp only at y0 y1 y2 y3 y4 y5 hty hkt
                    have HE7 := Lib.hid hE
                    clear hE hkT hkr
                    by_cases h32 : 32 ≤ kpm
                    · have hin := hty h32
                      have HI := Lib.hid hin
                      clear hin hty
                      go_wp2_with fail
                      refine (capIn_any ⟨ktg, kbs, ktp, kat, kpm, kty⟩ qy 1 _ hkt).mono ?_
                      rintro e w9 ⟨rfl, hE⟩
                      rw [HI.out]
                      have HE8 := Lib.hid (HE7.out.then hE)
                      clear hE
                      go_wp2_with fail
                      exact ⟨⟨l + 1, by omega, by simp, HE8.out⟩, by simp [intOf]; omega⟩
                    · clear hty
                      go_wp2_with fail
                      exact ⟨⟨l + 1, by omega, by simp, HE7.out⟩, by simp [intOf]; omega⟩
                  · obtain rfl : l = K.length := by omega
                    go_wp2_with fail
                    exact ⟨⟨j + 1, by omega, by simp, hE⟩, by simp [intOf]; omega⟩
            · obtain rfl : j = P.length := by omega
              go_wp2_with fail
              go_ret
              exact ⟨rfl, Bu.out.then hE⟩
end Go.Proofs.Ytgfnpcoigooblaa


/- ClosOpen: the walk of the law. -/
import Derived.Test.YtalndcjbnedigaaMore06
set_option linter.all false
namespace Go.Proofs.Ytalndcjbnedigaa
open Go.RowKit Go.Shelf
attribute [local go_sem] seen dstOf boolOf

theorem open_apart {l G O : List Cap} (h : SetOk l G O) {i k : Nat} (hi : i < (openS O).length) (hk : k < (openS O).length) (hn : i ≠ k) : underC (openS O)[i] (openS O)[k] = false := by
  have hO : ∀ o ∈ O, IsOpen o := fun o ho => h.open ho
  cases hu : underC (openS O)[i] (openS O)[k] with
  | false => rfl
  | true =>
    have h1 := (mem_mostL.1 ((mem_openS hO).1 (List.getElem_mem hi))).2 _ (mem_mostL.1 ((mem_openS hO).1 (List.getElem_mem hk))).1 hu
    have h2 := List.pairwise_iff_getElem.1 (openS_nodup hO h.once)
    rcases Nat.lt_or_gt_of_ne hn with h3 | h3
    · exact absurd h1.symm (h2 i k hi hk h3)
    · exact absurd h1 (h2 k i hk hi h3)
theorem open_each {l G O : List Cap} (h : SetOk l G O) {c : Cap} (hc : c ∈ openS O) : hasS G O c = true ∧ c.ty = 0 := by
  have hO : ∀ o ∈ O, IsOpen o := fun o ho => h.open ho
  exact ⟨has_own h (mem_mostL.1 ((mem_openS hO).1 hc)).1, (openS_open hO hc).2.2.1⟩
set_option maxHeartbeats 4000000 in
set_option maxRecDepth 20000 in
theorem open06_any (A : Option Addr) (cp : Nat) (l : List Cap) (c : Cap) (w : World) (hA : Arr w A (capCells l)) (hw : ∀ x ∈ l, CapWf x) (hc : CapWf c) : Calls Try.prog 5 #[.slice A l.length cp, c.val] w (Tell w true) := by
  by_cases hl : 40 < l.length
  · go_enter Try.func5, Try.ntmps5
    go_wp2_with fail
    refine (head06 _).mono ?_
    rintro _ w1 ⟨rfl, hE⟩
    go_wp2_with fail
    go_ret
    exact ⟨rfl, Ext.then (by repeat first | (with_reducible exact Below.refl _ _) | (with_reducible apply Ext.alloc) | (with_reducible apply Ext.drew) | (with_reducible apply Ext.drewN) | (with_reducible refine Ext.set ?_ (by simp))) hE⟩
  · go_enter Try.func5, Try.ntmps5
    go_wp2_with fail
    refine (head06 _).mono ?_
    rintro _ w1 ⟨rfl, hE1⟩
    have HC : Hid (w1.heap[w.heap.size]? = some (.cells c.cells.toArray 24)) := Lib.hid ((hE1.block _ (by simp)).trans (heap_alloc_new w _))
    have E1 : Hid (Ext w w1) := Lib.hid (Ext.then (by repeat first | (with_reducible exact Below.refl _ _) | (with_reducible apply Ext.alloc) | (with_reducible apply Ext.drew) | (with_reducible apply Ext.drewN) | (with_reducible refine Ext.set ?_ (by simp))) hE1)
    have HA := Lib.hid (hA.ext E1.out)
    clear hE1 hA
    go_wp2_with fail
    refine (new_is A cp l _ HA.out hw (by omega)).mono ?_
    rintro _ w2 ⟨s, G, O, rfl, hs, hp, hE⟩
    have E2 := Lib.hid hE
    have S2 := Lib.hid hs
    have HPL : Hid ((openS O).length ≤ 1000) := Lib.hid (by
      have h1 := hs.ok.len
      have h2 : (mostL O).length ≤ O.length := List.length_filter_le _ _
      rw [openS_len]
      omega)
    have HWP : Hid (∀ x ∈ openS O, CapWf x) := Lib.hid fun x hx => (hs.ok.wf hw).2 x (mem_mostL.1 ((mem_openS fun o ho => hs.ok.open ho).1 hx)).1
    have HAP : Hid (∀ i k (hi : i < (openS O).length) (hk : k < (openS O).length), i ≠ k → underC (openS O)[i] (openS O)[k] = false) := Lib.hid fun i k hi hk hn => open_apart hs.ok hi hk hn
    have HEA : Hid (∀ x ∈ openS O, hasS G O x = true ∧ x.ty = 0) := Lib.hid fun x hx => open_each hs.ok hx
    have HAG : Hid (∀ G' O', SetOk (openS O) G' O' → openS O' = openS O ∧ (c.ty = 0 → hasS G O c = hasS G' O' c)) := Lib.hid fun G' O' h' => ⟨(set_again hs.ok h').2.2.1, (set_again hs.ok h').2.2.2 c⟩
    clear hs hE hp
    go_wp2_with fail
    refine (open_set S2.out (by omega) hw).mono ?_
    rintro _ w3 ⟨v3, rfl, ho, hE⟩
    have E3 : Hid (Ext w1 w3) := Lib.hid (E2.out.then hE)
    have S3 := Lib.hid (S2.out.ext hE)
    obtain ⟨P, hP⟩ : ∃ P, P = openS O := ⟨_, rfl⟩
    rw [← hP] at ho HPL HWP HEA HAG
    have HAP : Hid (∀ i k (hi : i < P.length) (hk : k < P.length), i ≠ k → underC P[i] P[k] = false) := by rw [hP]; exact HAP
    obtain ⟨A3, c3, rfl, -, ha3⟩ := Arr.own ho
    have H3 := Lib.hid ha3
    clear hP ho hE ha3
    go_wp2_with fail
    refine (new_is A3 c3 P _ H3.out HWP.out HPL.out).mono ?_
    rintro _ w4 ⟨t, G', O', rfl, hs, hp, hE⟩
    have E4 : Hid (Ext w1 w4) := Lib.hid (E3.out.then hE)
    have S4 := Lib.hid hs
    have T4 := Lib.hid (S3.out.ext hE)
    have HG := Lib.hid (HAG.out G' O' hs.ok)
    have H4 := Lib.hid (H3.out.ext hE)
    clear hs hE hp
    go_wp2_with fail
    refine (open_set S4.out HPL.out HWP.out).mono ?_
    rintro _ w5 ⟨v5, rfl, ho, hE⟩
    rw [HG.out.1] at ho
    obtain ⟨A5, c5, rfl, -, ha5⟩ := Arr.own ho
    have E5 : Hid (Ext w1 w5) := Lib.hid (E4.out.then hE)
    have E45 := Lib.hid hE
    have H5 := Lib.hid (H4.out.ext hE)
    have H5' := Lib.hid ha5
    clear hE ha5 ho
    go_wp2_with fail
    refine (same_any A5 A3 c5 c3 P P _ H5'.out H5.out HPL.out HPL.out).mono ?_
    rintro _ w6 ⟨rfl, hE⟩
    rw [decide_eq_true rfl]
    have E6 : Hid (Ext w1 w6) := Lib.hid (E5.out.then hE)
    have S6 := Lib.hid (S4.out.ext (E45.out.then hE))
    have T6 := Lib.hid (T4.out.ext (E45.out.then hE))
    have H6 := Lib.hid (H5.out.ext hE)
    have hPl : P.length ≤ 1000 := HPL.out
    clear hE
    go_wp2_with fail
    go_loopw [9] (fun i wr => ∃ k : Nat, k ≤ P.length ∧ i = .int .i64 (k : Int) ∧ Hid (Ext w6 wr)) (fun i _ => P.length - (intOf i).toNat)
    case atStart => exact ⟨0, Nat.zero_le _, rfl, Lib.hid (Below.refl _ _)⟩
    case round =>
      obtain ⟨i, hi, rfl, hE⟩ := hrel
      by_cases hlt : i < P.length
      · go_wp2_with fail
        go_loopw [10] (fun j wr' => ∃ k : Nat, k ≤ P.length ∧ j = .int .i64 (k : Int) ∧ Hid (Ext w6 wr')) (fun j _ => P.length - (intOf j).toNat)
        case atStart => exact ⟨0, Nat.zero_le _, rfl, Lib.hid hE.out⟩
        case round =>
          obtain ⟨k, hk, rfl, hE2⟩ := hrel
          by_cases hlt2 : k < P.length
          · by_cases hik : i = k
            · have hne : ((i : Int) != (k : Int)) = false := by rw [hik]; simp
              have HIK := Lib.hid hik
              clear hik
              go_wp2_with fail
              refine wp_region_obl Ext [45, 46, 47, 48, 49, 50, 51, 52, 53, 54, 55, 56, 57, 58] (by kernel_rfl) (fun _ => Below.refl _ _) (fun _ _ _ => Ext.then) (by kernel_rfl) (by kernel_rfl) ?_
              apply ex_is; apply Exists.intro
              apply ex_is; apply Exists.intro
              apply ex_is; apply Exists.intro
              apply ex_is; apply Exists.intro
              apply ex_is; apply Exists.intro
              apply ex_is; apply Exists.intro
              apply ex_is; apply Exists.intro
              apply ex_is; apply Exists.intro
              apply ex_is; apply Exists.intro
              apply ex_is; apply Exists.intro
              apply ex_is; apply Exists.intro
              apply ex_is; apply Exists.intro
              apply ex_is; apply Exists.intro
              apply ex_is; apply Exists.intro
              refine ⟨[], ⟨?steps, ?stab, ?ends⟩⟩
              case steps =>
                refine And.intro ?_ ?_
                · intro a W hR hf ho K hK
                  replace hR := ext_drew hR
                  have G : a.tmps[9]?.getD undef = _ ∧ True := ho
                  obtain ⟨g9, -⟩ := G
                  clear ho hf
                  go_simp
                  exact hK _ _ (Below.refl _ _) (Eq.refl _)
                refine And.intro ?_ ?_
                · intro a W hR hf ho K hK
                  replace hR := ext_drew hR
                  have G : a.tmps[10]?.getD undef = _ ∧ True := ho
                  obtain ⟨g10, -⟩ := G
                  clear ho hf
                  go_simp
                  exact hK _ _ (Below.refl _ _) (Eq.refl _)
                refine And.intro ?_ ?_
                · intro a W hR hf ho K hK
                  replace hR := ext_drew hR
                  have F : a.tmps[45]?.getD undef = _ ∧ a.tmps[46]?.getD undef = _ ∧ True := hf
                  obtain ⟨f0, f1, -⟩ := F
                  clear ho hf
                  go_simp
                  exact hK _ _ (Below.refl _ _) (Eq.refl _)
                refine And.intro ?_ ?_
                · intro a W hR hf ho K hK
                  replace hR := ext_drew hR
                  have F : a.tmps[47]?.getD undef = _ ∧ True := hf
                  obtain ⟨f2, -⟩ := F
                  clear ho hf
                  go_simp
                  exact hK _ _ (Below.refl _ _) (Eq.refl _)
                refine And.intro ?_ ?_
                · intro a W hR hf ho K hK
                  replace hR := ext_drew hR
                  have G : a.tmps[7]?.getD undef = _ ∧ True := ho
                  obtain ⟨g7, -⟩ := G
                  have F : a.tmps[48]?.getD undef = _ ∧ True := hf
                  obtain ⟨f3, -⟩ := F
                  clear ho hf
                  go_simp
                  exact hK _ _ (Below.refl _ _) (Eq.refl _)
                refine And.intro ?_ ?_
                · intro a W hR hf ho K hK
                  replace hR := ext_drew hR
                  have G : a.tmps[9]?.getD undef = _ ∧ True := ho
                  obtain ⟨g9, -⟩ := G
                  have F : a.tmps[48]?.getD undef = _ ∧ True := hf
                  obtain ⟨f3, -⟩ := F
                  clear ho hf
                  go_simp
                  exact hK _ _ (Below.refl _ _) (Eq.refl _)
                refine And.intro ?_ ?_
                · intro a W hR hf ho K hK
                  replace hR := ext_drew hR
                  have F : a.tmps[49]?.getD undef = _ ∧ a.tmps[50]?.getD undef = _ ∧ a.tmps[48]?.getD undef = _ ∧ True := hf
                  obtain ⟨f4, f5, f3, -⟩ := F
                  clear ho hf
                  go_simp
                  exact hK _ _ (Below.refl _ _) (Eq.refl _)
                refine And.intro ?_ ?_
                · intro a W hR hf ho K hK
                  replace hR := ext_drew hR
                  have F : a.tmps[51]?.getD undef = _ ∧ a.tmps[48]?.getD undef = _ ∧ True := hf
                  obtain ⟨f6, f3, -⟩ := F
                  clear ho hf
                  go_simp
                  exact hK _ _ (Below.refl _ _) (Eq.refl _)
                refine And.intro ?_ ?_
                · intro a W hR hf ho K hK
                  replace hR := ext_drew hR
                  have G : a.tmps[7]?.getD undef = _ ∧ True := ho
                  obtain ⟨g7, -⟩ := G
                  have F : a.tmps[48]?.getD undef = _ ∧ True := hf
                  obtain ⟨f3, -⟩ := F
                  clear ho hf
                  go_simp
                  exact hK _ _ (Below.refl _ _) (Eq.refl _)
                refine And.intro ?_ ?_
                · intro a W hR hf ho K hK
                  replace hR := ext_drew hR
                  have G : a.tmps[10]?.getD undef = _ ∧ True := ho
                  obtain ⟨g10, -⟩ := G
                  have F : a.tmps[48]?.getD undef = _ ∧ True := hf
                  obtain ⟨f3, -⟩ := F
                  clear ho hf
                  go_simp
                  exact hK _ _ (Below.refl _ _) (Eq.refl _)
                refine And.intro ?_ ?_
                · intro a W hR hf ho K hK
                  replace hR := ext_drew hR
                  have F : a.tmps[53]?.getD undef = _ ∧ a.tmps[54]?.getD undef = _ ∧ a.tmps[48]?.getD undef = _ ∧ True := hf
                  obtain ⟨f8, f9, f3, -⟩ := F
                  clear ho hf
                  go_simp
                  exact hK _ _ (Below.refl _ _) (Eq.refl _)
                refine And.intro ?_ ?_
                · intro a W hR hf ho K hK
                  replace hR := ext_drew hR
                  have F : a.tmps[55]?.getD undef = _ ∧ a.tmps[48]?.getD undef = _ ∧ True := hf
                  obtain ⟨f10, f3, -⟩ := F
                  clear ho hf
                  go_simp
                  exact hK _ _ (Below.refl _ _) (Eq.refl _)
                refine And.intro ?_ ?_
                · intro a W hR hf ho K hK
                  replace hR := ext_drew hR
                  have F : a.tmps[52]?.getD undef = _ ∧ a.tmps[56]?.getD undef = _ ∧ a.tmps[48]?.getD undef = _ ∧ a.tmps[48]?.getD undef = _ ∧ True := hf
                  obtain ⟨f7, f11, f3, -, -⟩ := F
                  clear ho hf
                  go_simp
                  exact hK _ _ (Below.refl _ _) (Eq.refl _)
                refine And.intro ?_ ?_
                · intro a W hR hf ho K hK
                  replace hR := ext_drew hR
                  have F : a.tmps[48]?.getD undef = _ ∧ a.tmps[57]?.getD undef = _ ∧ True := hf
                  obtain ⟨f3, f12, -⟩ := F
                  clear ho hf
                  go_simp
                  exact hK _ _ (Below.refl _ _) (Eq.refl _)
                exact trivial
              case stab =>
                refine And.intro is_stable ?_
                refine And.intro is_stable ?_
                refine And.intro is_stable ?_
                refine And.intro is_stable ?_
                refine And.intro is_stable ?_
                refine And.intro is_stable ?_
                refine And.intro is_stable ?_
                refine And.intro is_stable ?_
                refine And.intro is_stable ?_
                refine And.intro is_stable ?_
                refine And.intro is_stable ?_
                refine And.intro is_stable ?_
                refine And.intro is_stable ?_
                refine And.intro is_stable ?_
                exact trivial
              case ends =>
                intro vals W hR hall
                replace hR := ext_drew hR
                have e58 : vals 58 = _ := hall 13 (by decide)
                clear hall
                simp only [fill, List.setIfInBounds_toArray, List.set_cons_succ, List.set_cons_zero, e58]
                go_wp2_with fail
                exact ⟨⟨k + 1, by omega, by rfl, Lib.hid (hE2.out.then (Ext.then (by repeat first | (with_reducible exact Below.refl _ _) | (with_reducible apply Ext.alloc) | (with_reducible apply Ext.drew) | (with_reducible apply Ext.drewN) | (with_reducible refine Ext.set ?_ (by simp)) | (with_reducible refine Ext.then ?_ hR)) (Below.refl _ _)))⟩, by simp [intOf]; omega⟩
            · have hne : ((i : Int) != (k : Int)) = true := by rw [bne_iff_ne]; omega
              have hu := HAP.out i k hlt hlt2 hik
              obtain ⟨b1, o1, rfl, -, x0, x1, x2, x3, x4, x5⟩ := cap_row (H6.out.ext hE2.out) hlt
              obtain ⟨b2, o2, e2, -, y0, y1, y2, y3, y4, y5⟩ := cap_row (H6.out.ext hE2.out) hlt2
              simp only [Option.some.injEq, Addr.mk.injEq, and_true] at e2
              obtain ⟨rfl, rfl⟩ := e2
              have HX := Lib.hid (And.intro x0 (And.intro x1 (And.intro x2 (And.intro x3 (And.intro x4 x5)))))
              have HY := Lib.hid (And.intro y0 (And.intro y1 (And.intro y2 (And.intro y3 (And.intro y4 y5)))))
              have HUn := Lib.hid (fun w => refUnder_any P[i] P[k] w)
              rw [hu] at HUn
              obtain ⟨x, hx⟩ : ∃ x, x = P[i] := ⟨_, rfl⟩
              obtain ⟨y, hy⟩ : ∃ y, y = P[k] := ⟨_, rfl⟩
              rw [← hx] at HUn HX
              rw [← hy] at HUn HY
              clear hik hu x0 x1 x2 x3 x4 x5 y0 y1 y2 y3 y4 y5 hx hy
              go_wp2_with fail
              refine wp_region_obl Ext [45, 46, 47, 48, 49, 50, 51, 52, 53, 54, 55, 56, 57, 58] (by kernel_rfl) (fun _ => Below.refl _ _) (fun _ _ _ => Ext.then) (by kernel_rfl) (by kernel_rfl) ?_
              apply ex_is; apply Exists.intro
              apply ex_is; apply Exists.intro
              apply ex_is; apply Exists.intro
              apply ex_is; apply Exists.intro
              apply ex_is; apply Exists.intro
              apply ex_is; apply Exists.intro
              apply ex_is; apply Exists.intro
              apply ex_is; apply Exists.intro
              apply ex_is; apply Exists.intro
              apply ex_is; apply Exists.intro
              apply ex_is; apply Exists.intro
              apply ex_is; apply Exists.intro
              apply ex_is; apply Exists.intro
              apply ex_is; apply Exists.intro
              refine ⟨[], ⟨?steps, ?stab, ?ends⟩⟩
              case steps =>
                refine And.intro ?_ ?_
                · intro a W hR hf ho K hK
                  replace hR := ext_drew hR
                  have G : a.tmps[9]?.getD undef = _ ∧ True := ho
                  obtain ⟨g9, -⟩ := G
                  clear ho hf
                  go_simp
                  exact hK _ _ (Below.refl _ _) (Eq.refl _)
                refine And.intro ?_ ?_
                · intro a W hR hf ho K hK
                  replace hR := ext_drew hR
                  have G : a.tmps[10]?.getD undef = _ ∧ True := ho
                  obtain ⟨g10, -⟩ := G
                  clear ho hf
                  go_simp
                  exact hK _ _ (Below.refl _ _) (Eq.refl _)
                refine And.intro ?_ ?_
                · intro a W hR hf ho K hK
                  replace hR := ext_drew hR
                  have F : a.tmps[45]?.getD undef = _ ∧ a.tmps[46]?.getD undef = _ ∧ True := hf
                  obtain ⟨f0, f1, -⟩ := F
                  clear ho hf
                  go_simp
                  exact hK _ _ (Below.refl _ _) (Eq.refl _)
                refine And.intro ?_ ?_
                · intro a W hR hf ho K hK
                  replace hR := ext_drew hR
                  have F : a.tmps[47]?.getD undef = _ ∧ True := hf
                  obtain ⟨f2, -⟩ := F
                  clear ho hf
                  go_simp
                  exact hK _ _ (Below.refl _ _) (Eq.refl _)
                refine And.intro ?_ ?_
                · intro a W hR hf ho K hK
                  replace hR := ext_drew hR
                  have G : a.tmps[7]?.getD undef = _ ∧ True := ho
                  obtain ⟨g7, -⟩ := G
                  have F : a.tmps[48]?.getD undef = _ ∧ True := hf
                  obtain ⟨f3, -⟩ := F
                  clear ho hf
                  go_simp
                  exact hK _ _ (Below.refl _ _) (Eq.refl _)
                refine And.intro ?_ ?_
                · intro a W hR hf ho K hK
                  replace hR := ext_drew hR
                  have G : a.tmps[9]?.getD undef = _ ∧ True := ho
                  obtain ⟨g9, -⟩ := G
                  have F : a.tmps[48]?.getD undef = _ ∧ True := hf
                  obtain ⟨f3, -⟩ := F
                  clear ho hf
                  go_simp
                  exact hK _ _ (Below.refl _ _) (Eq.refl _)
                refine And.intro ?_ ?_
                · intro a W hR hf ho K hK
                  replace hR := ext_drew hR
                  have F : a.tmps[49]?.getD undef = _ ∧ a.tmps[50]?.getD undef = _ ∧ a.tmps[48]?.getD undef = _ ∧ True := hf
                  obtain ⟨f4, f5, f3, -⟩ := F
                  clear ho hf
                  go_simp
                  exact hK _ _ (Below.refl _ _) (Eq.refl _)
                refine And.intro ?_ ?_
                · intro a W hR hf ho K hK
                  replace hR := ext_drew hR
                  have F : a.tmps[51]?.getD undef = _ ∧ a.tmps[48]?.getD undef = _ ∧ True := hf
                  obtain ⟨f6, f3, -⟩ := F
                  clear ho hf
                  have y0 := ext_cell hR _ _ HX.out.1; have y1 := ext_cell hR _ _ HX.out.2.1; have y2 := ext_cell hR _ _ HX.out.2.2.1; have y3 := ext_cell hR _ _ HX.out.2.2.2.1; have y4 := ext_cell hR _ _ HX.out.2.2.2.2.1; have y5 := ext_cell hR _ _ HX.out.2.2.2.2.2
                  go_simp
                  exact hK _ _ (Below.refl _ _) (Eq.refl _)
                refine And.intro ?_ ?_
                · intro a W hR hf ho K hK
                  replace hR := ext_drew hR
                  have G : a.tmps[7]?.getD undef = _ ∧ True := ho
                  obtain ⟨g7, -⟩ := G
                  have F : a.tmps[48]?.getD undef = _ ∧ True := hf
                  obtain ⟨f3, -⟩ := F
                  clear ho hf
                  go_simp
                  exact hK _ _ (Below.refl _ _) (Eq.refl _)
                refine And.intro ?_ ?_
                · intro a W hR hf ho K hK
                  replace hR := ext_drew hR
                  have G : a.tmps[10]?.getD undef = _ ∧ True := ho
                  obtain ⟨g10, -⟩ := G
                  have F : a.tmps[48]?.getD undef = _ ∧ True := hf
                  obtain ⟨f3, -⟩ := F
                  clear ho hf
                  go_simp
                  exact hK _ _ (Below.refl _ _) (Eq.refl _)
                refine And.intro ?_ ?_
                · intro a W hR hf ho K hK
                  replace hR := ext_drew hR
                  have F : a.tmps[53]?.getD undef = _ ∧ a.tmps[54]?.getD undef = _ ∧ a.tmps[48]?.getD undef = _ ∧ True := hf
                  obtain ⟨f8, f9, f3, -⟩ := F
                  clear ho hf
                  go_simp
                  exact hK _ _ (Below.refl _ _) (Eq.refl _)
                refine And.intro ?_ ?_
                · intro a W hR hf ho K hK
                  replace hR := ext_drew hR
                  have F : a.tmps[55]?.getD undef = _ ∧ a.tmps[48]?.getD undef = _ ∧ True := hf
                  obtain ⟨f10, f3, -⟩ := F
                  clear ho hf
                  have y0 := ext_cell hR _ _ HY.out.1; have y1 := ext_cell hR _ _ HY.out.2.1; have y2 := ext_cell hR _ _ HY.out.2.2.1; have y3 := ext_cell hR _ _ HY.out.2.2.2.1; have y4 := ext_cell hR _ _ HY.out.2.2.2.2.1; have y5 := ext_cell hR _ _ HY.out.2.2.2.2.2
                  go_simp
                  exact hK _ _ (Below.refl _ _) (Eq.refl _)
                refine And.intro ?_ ?_
                · intro a W hR hf ho K hK
                  replace hR := ext_drew hR
                  have F : a.tmps[52]?.getD undef = _ ∧ a.tmps[56]?.getD undef = _ ∧ a.tmps[48]?.getD undef = _ ∧ a.tmps[48]?.getD undef = _ ∧ True := hf
                  obtain ⟨f7, f11, f3, -, -⟩ := F
                  clear ho hf
                  go_simp
                  refine (HUn.out _).mono ?_; rintro _ W1 ⟨rfl, hE⟩; exact hK _ _ hE (Eq.refl _)
                refine And.intro ?_ ?_
                · intro a W hR hf ho K hK
                  replace hR := ext_drew hR
                  have F : a.tmps[48]?.getD undef = _ ∧ a.tmps[57]?.getD undef = _ ∧ True := hf
                  obtain ⟨f3, f12, -⟩ := F
                  clear ho hf
                  go_simp
                  exact hK _ _ (Below.refl _ _) (Eq.refl _)
                exact trivial
              case stab =>
                refine And.intro is_stable ?_
                refine And.intro is_stable ?_
                refine And.intro is_stable ?_
                refine And.intro is_stable ?_
                refine And.intro is_stable ?_
                refine And.intro is_stable ?_
                refine And.intro is_stable ?_
                refine And.intro is_stable ?_
                refine And.intro is_stable ?_
                refine And.intro is_stable ?_
                refine And.intro is_stable ?_
                refine And.intro is_stable ?_
                refine And.intro is_stable ?_
                refine And.intro is_stable ?_
                exact trivial
              case ends =>
                intro vals W hR hall
                replace hR := ext_drew hR
                have e58 : vals 58 = _ := hall 13 (by decide)
                clear hall
                simp only [fill, List.setIfInBounds_toArray, List.set_cons_succ, List.set_cons_zero, e58]
                go_wp2_with fail
                exact ⟨⟨k + 1, by omega, by rfl, Lib.hid (hE2.out.then (Ext.then (by repeat first | (with_reducible exact Below.refl _ _) | (with_reducible apply Ext.alloc) | (with_reducible apply Ext.drew) | (with_reducible apply Ext.drewN) | (with_reducible refine Ext.set ?_ (by simp)) | (with_reducible refine Ext.then ?_ hR)) (Below.refl _ _)))⟩, by simp [intOf]; omega⟩
          · obtain rfl : k = P.length := by omega
            obtain ⟨b1, o1, rfl, -, x0, x1, x2, x3, x4, x5⟩ := cap_row (H6.out.ext hE2.out) hlt
            obtain ⟨hh, ht⟩ := HEA.out P[i] (List.getElem_mem hlt)
            have hwx := HWP.out P[i] (List.getElem_mem hlt)
            obtain ⟨x, hx⟩ : ∃ x, x = P[i] := ⟨_, rfl⟩
            rw [← hx] at x0 x1 x2 x3 x4 x5 hh ht hwx
            have HH := Lib.hid hh
            have HTy := Lib.hid ht
            clear hx hh ht
            go_wp2_with fail
            refine (has_set x (T6.out.ext hE2.out) (by omega) hw hwx).mono ?_
            rintro _ w7 ⟨rfl, hE⟩
            rw [HH.out]
            replace x5 := ext_cell hE _ _ x5
            rw [HTy.out] at x5
            have E7 : Hid (Ext w6 w7) := Lib.hid (hE2.out.then hE)
            clear hE
            go_wp2_with fail
            exact ⟨⟨i + 1, by omega, by rfl, Lib.hid (E7.out.then (by repeat first | (with_reducible exact Below.refl _ _) | (with_reducible apply Ext.alloc) | (with_reducible apply Ext.drew) | (with_reducible apply Ext.drewN) | (with_reducible refine Ext.set ?_ (by simp))))⟩, by simp [intOf]; omega⟩
      · obtain rfl : i = P.length := by omega
        have hc6 : Hid (wr.heap[w.heap.size]? = some (.cells c.cells.toArray 24)) := Lib.hid (((E6.out.then hE.out).block _ (Array.getElem?_eq_some_iff.1 HC.out).1).trans HC.out)
        by_cases hty : c.ty = 0
        · have hq := HG.out.2 hty
          have d1 : (c.ty != 0) = false := by rw [hty]; rfl
          have HQ := Lib.hid hq
          clear hq hty
          go_wp2_with fail
          refine wp_region_obl Ext [74, 75, 76, 77, 78, 79, 80, 81, 82, 83, 84, 85, 86, 87, 88, 4] (by kernel_rfl) (fun _ => Below.refl _ _) (fun _ _ _ => Ext.then) (by kernel_rfl) (by kernel_rfl) ?_
          apply ex_is; apply Exists.intro
          apply ex_is; apply Exists.intro
          apply ex_is; apply Exists.intro
          apply ex_is; apply Exists.intro
          apply ex_is; apply Exists.intro
          apply ex_is; apply Exists.intro
          apply ex_is; apply Exists.intro
          apply ex_is; apply Exists.intro
          apply ex_is; apply Exists.intro
          apply ex_is; apply Exists.intro
          apply ex_is; apply Exists.intro
          apply ex_is; apply Exists.intro
          apply ex_is; apply Exists.intro
          apply ex_is; apply Exists.intro
          apply ex_is; apply Exists.intro
          apply ex_is; apply Exists.intro
          refine ⟨[], ⟨?steps, ?stab, ?ends⟩⟩
          case steps =>
            refine And.intro ?_ ?_
            · intro a W hR hf ho K hK
              replace hR := ext_drew hR
              have G : a.tmps[5]?.getD undef = _ ∧ True := ho
              obtain ⟨g5, -⟩ := G
              clear ho hf
              go_simp
              exact hK _ _ (Below.refl _ _) (Eq.refl _)
            refine And.intro ?_ ?_
            · intro a W hR hf ho K hK
              replace hR := ext_drew hR
              have F : a.tmps[74]?.getD undef = _ ∧ True := hf
              obtain ⟨f0, -⟩ := F
              clear ho hf
              go_simp
              exact hK _ _ (Below.refl _ _) (Eq.refl _)
            refine And.intro ?_ ?_
            · intro a W hR hf ho K hK
              replace hR := ext_drew hR
              have G : a.tmps[3]?.getD undef = _ ∧ True := ho
              obtain ⟨g3, -⟩ := G
              have F : a.tmps[75]?.getD undef = _ ∧ True := hf
              obtain ⟨f1, -⟩ := F
              clear ho hf
              go_simp
              exact hK _ _ (Below.refl _ _) (Eq.refl _)
            refine And.intro ?_ ?_
            · intro a W hR hf ho K hK
              replace hR := ext_drew hR
              have F : a.tmps[76]?.getD undef = _ ∧ a.tmps[75]?.getD undef = _ ∧ True := hf
              obtain ⟨f2, f1, -⟩ := F
              clear ho hf
              obtain ⟨y0, y1, y2, y3, y4, y5⟩ := lie6' hc6.out hR
              go_simp
              exact hK _ _ (Below.refl _ _) (Eq.refl _)
            refine And.intro ?_ ?_
            · intro a W hR hf ho K hK
              replace hR := ext_drew hR
              have F : a.tmps[77]?.getD undef = _ ∧ a.tmps[75]?.getD undef = _ ∧ True := hf
              obtain ⟨f3, f1, -⟩ := F
              clear ho hf
              go_simp
              exact hK _ _ (Below.refl _ _) (Eq.refl _)
            refine And.intro ?_ ?_
            · intro a W hR hf ho K hK
              replace hR := ext_drew hR
              have F : a.tmps[78]?.getD undef = _ ∧ a.tmps[75]?.getD undef = _ ∧ a.tmps[75]?.getD undef = _ ∧ True := hf
              obtain ⟨f4, f1, -, -⟩ := F
              clear ho hf
              go_simp
              exact hK _ _ (Below.refl _ _) (Eq.refl _)
            refine And.intro ?_ ?_
            · intro a W hR hf ho K hK
              replace hR := ext_drew hR
              have G : a.tmps[6]?.getD undef = _ ∧ True := ho
              obtain ⟨g6, -⟩ := G
              have F : a.tmps[79]?.getD undef = _ ∧ True := hf
              obtain ⟨f5, -⟩ := F
              clear ho hf
              go_simp
              exact hK _ _ (Below.refl _ _) (Eq.refl _)
            refine And.intro ?_ ?_
            · intro a W hR hf ho K hK
              replace hR := ext_drew hR
              have G : a.tmps[3]?.getD undef = _ ∧ True := ho
              obtain ⟨g3, -⟩ := G
              have F : a.tmps[79]?.getD undef = _ ∧ True := hf
              obtain ⟨f5, -⟩ := F
              clear ho hf
              obtain ⟨y0, y1, y2, y3, y4, y5⟩ := lie6' hc6.out hR
              go_simp
              exact hK _ _ (Below.refl _ _) (Eq.refl _)
            refine And.intro ?_ ?_
            · intro a W hR hf ho K hK
              replace hR := ext_drew hR
              have F : a.tmps[80]?.getD undef = _ ∧ a.tmps[81]?.getD undef = _ ∧ a.tmps[79]?.getD undef = _ ∧ a.tmps[79]?.getD undef = _ ∧ True := hf
              obtain ⟨f6, f7, f5, -, -⟩ := F
              clear ho hf
              go_simp
              refine (has_set c (T6.out.ext (hE.out.then hR)) (by omega) hw hc).mono ?_; rintro _ W1 ⟨rfl, hE⟩; rw [HQ.out]; exact hK _ _ hE (Eq.refl _)
            refine And.intro ?_ ?_
            · intro a W hR hf ho K hK
              replace hR := ext_drew hR
              have G : a.tmps[8]?.getD undef = _ ∧ True := ho
              obtain ⟨g8, -⟩ := G
              have F : a.tmps[79]?.getD undef = _ ∧ True := hf
              obtain ⟨f5, -⟩ := F
              clear ho hf
              go_simp
              exact hK _ _ (Below.refl _ _) (Eq.refl _)
            refine And.intro ?_ ?_
            · intro a W hR hf ho K hK
              replace hR := ext_drew hR
              have G : a.tmps[3]?.getD undef = _ ∧ True := ho
              obtain ⟨g3, -⟩ := G
              have F : a.tmps[79]?.getD undef = _ ∧ True := hf
              obtain ⟨f5, -⟩ := F
              clear ho hf
              obtain ⟨y0, y1, y2, y3, y4, y5⟩ := lie6' hc6.out hR
              go_simp
              exact hK _ _ (Below.refl _ _) (Eq.refl _)
            refine And.intro ?_ ?_
            · intro a W hR hf ho K hK
              replace hR := ext_drew hR
              have F : a.tmps[83]?.getD undef = _ ∧ a.tmps[84]?.getD undef = _ ∧ a.tmps[82]?.getD undef = _ ∧ a.tmps[79]?.getD undef = _ ∧ True := hf
              obtain ⟨f9, f10, f8, f5, -⟩ := F
              clear ho hf
              go_simp
              refine (has_set c (S6.out.ext (hE.out.then hR)) HPL.out HWP.out hc).mono ?_; rintro _ W1 ⟨rfl, hE⟩; exact hK _ _ hE (Eq.refl _)
            refine And.intro ?_ ?_
            · intro a W hR hf ho K hK
              replace hR := ext_drew hR
              have F : a.tmps[82]?.getD undef = _ ∧ a.tmps[85]?.getD undef = _ ∧ a.tmps[79]?.getD undef = _ ∧ True := hf
              obtain ⟨f8, f11, f5, -⟩ := F
              clear ho hf
              go_simp
              exact hK _ _ (Below.refl _ _) (Eq.refl _)
            refine And.intro ?_ ?_
            · intro a W hR hf ho K hK
              replace hR := ext_drew hR
              have F : a.tmps[79]?.getD undef = _ ∧ a.tmps[86]?.getD undef = _ ∧ a.tmps[75]?.getD undef = _ ∧ True := hf
              obtain ⟨f5, f12, f1, -⟩ := F
              clear ho hf
              go_simp
              exact hK _ _ (Below.refl _ _) (Eq.refl _)
            refine And.intro ?_ ?_
            · intro a W hR hf ho K hK
              replace hR := ext_drew hR
              have F : a.tmps[75]?.getD undef = _ ∧ a.tmps[87]?.getD undef = _ ∧ True := hf
              obtain ⟨f1, f13, -⟩ := F
              clear ho hf
              go_simp
              exact hK _ _ (Below.refl _ _) (Eq.refl _)
            refine And.intro ?_ ?_
            · intro a W hR hf ho K hK
              replace hR := ext_drew hR
              have F : a.tmps[88]?.getD undef = _ ∧ a.tmps[85]?.getD undef = _ ∧ a.tmps[74]?.getD undef = _ ∧ a.tmps[75]?.getD undef = _ ∧ a.tmps[76]?.getD undef = _ ∧ a.tmps[77]?.getD undef = _ ∧ a.tmps[78]?.getD undef = _ ∧ a.tmps[79]?.getD undef = _ ∧ a.tmps[80]?.getD undef = _ ∧ a.tmps[81]?.getD undef = _ ∧ a.tmps[82]?.getD undef = _ ∧ a.tmps[83]?.getD undef = _ ∧ a.tmps[84]?.getD undef = _ ∧ a.tmps[85]?.getD undef = _ ∧ a.tmps[86]?.getD undef = _ ∧ a.tmps[87]?.getD undef = _ ∧ a.tmps[88]?.getD undef = _ ∧ True := hf
              obtain ⟨f14, f11, f0, f1, f2, f3, f4, f5, f6, f7, f8, f9, f10, -, f12, f13, -, -⟩ := F
              clear ho hf
              go_simp
              exact hK _ _ (Below.refl _ _) (Eq.refl _)
            exact trivial
          case stab =>
            refine And.intro is_stable ?_
            refine And.intro is_stable ?_
            refine And.intro is_stable ?_
            refine And.intro is_stable ?_
            refine And.intro is_stable ?_
            refine And.intro is_stable ?_
            refine And.intro is_stable ?_
            refine And.intro is_stable ?_
            refine And.intro is_stable ?_
            refine And.intro is_stable ?_
            refine And.intro is_stable ?_
            refine And.intro is_stable ?_
            refine And.intro is_stable ?_
            refine And.intro is_stable ?_
            refine And.intro is_stable ?_
            refine And.intro is_stable ?_
            exact trivial
          case ends =>
            intro vals W hR hall
            replace hR := ext_drew hR
            have e4 : vals 4 = _ := hall 15 (by decide)
            clear hall
            simp only [fill, List.setIfInBounds_toArray, List.set_cons_succ, List.set_cons_zero, e4]
            go_wp2_with fail
            go_ret
            exact ⟨rfl, (E1.out.then E6.out).then (hE.out.then (Ext.then (by repeat first | (with_reducible exact Below.refl _ _) | (with_reducible apply Ext.alloc) | (with_reducible apply Ext.drew) | (with_reducible apply Ext.drewN) | (with_reducible refine Ext.set ?_ (by simp)) | (with_reducible refine Ext.then ?_ hR)) (Below.refl _ _)))⟩
        · have d1 : (c.ty != 0) = true := by rw [bne_iff_ne]; exact hty
          clear hty
          go_wp2_with fail
          refine wp_region_obl Ext [74, 75, 76, 77, 78, 79, 80, 81, 82, 83, 84, 85, 86, 87, 88, 4] (by kernel_rfl) (fun _ => Below.refl _ _) (fun _ _ _ => Ext.then) (by kernel_rfl) (by kernel_rfl) ?_
          apply ex_is; apply Exists.intro
          apply ex_is; apply Exists.intro
          apply ex_is; apply Exists.intro
          apply ex_is; apply Exists.intro
          apply ex_is; apply Exists.intro
          apply ex_is; apply Exists.intro
          apply ex_is; apply Exists.intro
          apply ex_is; apply Exists.intro
          apply ex_is; apply Exists.intro
          apply ex_is; apply Exists.intro
          apply ex_is; apply Exists.intro
          apply ex_is; apply Exists.intro
          apply ex_is; apply Exists.intro
          apply ex_is; apply Exists.intro
          apply ex_is; apply Exists.intro
          apply ex_is; apply Exists.intro
          refine ⟨[], ⟨?steps, ?stab, ?ends⟩⟩
          case steps =>
            refine And.intro ?_ ?_
            · intro a W hR hf ho K hK
              replace hR := ext_drew hR
              have G : a.tmps[5]?.getD undef = _ ∧ True := ho
              obtain ⟨g5, -⟩ := G
              clear ho hf
              go_simp
              exact hK _ _ (Below.refl _ _) (Eq.refl _)
            refine And.intro ?_ ?_
            · intro a W hR hf ho K hK
              replace hR := ext_drew hR
              have F : a.tmps[74]?.getD undef = _ ∧ True := hf
              obtain ⟨f0, -⟩ := F
              clear ho hf
              go_simp
              exact hK _ _ (Below.refl _ _) (Eq.refl _)
            refine And.intro ?_ ?_
            · intro a W hR hf ho K hK
              replace hR := ext_drew hR
              have G : a.tmps[3]?.getD undef = _ ∧ True := ho
              obtain ⟨g3, -⟩ := G
              have F : a.tmps[75]?.getD undef = _ ∧ True := hf
              obtain ⟨f1, -⟩ := F
              clear ho hf
              go_simp
              exact hK _ _ (Below.refl _ _) (Eq.refl _)
            refine And.intro ?_ ?_
            · intro a W hR hf ho K hK
              replace hR := ext_drew hR
              have F : a.tmps[76]?.getD undef = _ ∧ a.tmps[75]?.getD undef = _ ∧ True := hf
              obtain ⟨f2, f1, -⟩ := F
              clear ho hf
              obtain ⟨y0, y1, y2, y3, y4, y5⟩ := lie6' hc6.out hR
              go_simp
              exact hK _ _ (Below.refl _ _) (Eq.refl _)
            refine And.intro ?_ ?_
            · intro a W hR hf ho K hK
              replace hR := ext_drew hR
              have F : a.tmps[77]?.getD undef = _ ∧ a.tmps[75]?.getD undef = _ ∧ True := hf
              obtain ⟨f3, f1, -⟩ := F
              clear ho hf
              go_simp
              exact hK _ _ (Below.refl _ _) (Eq.refl _)
            refine And.intro ?_ ?_
            · intro a W hR hf ho K hK
              replace hR := ext_drew hR
              have F : a.tmps[78]?.getD undef = _ ∧ a.tmps[75]?.getD undef = _ ∧ a.tmps[75]?.getD undef = _ ∧ True := hf
              obtain ⟨f4, f1, -, -⟩ := F
              clear ho hf
              go_simp
              exact hK _ _ (Below.refl _ _) (Eq.refl _)
            refine And.intro ?_ ?_
            · intro a W hR hf ho K hK
              replace hR := ext_drew hR
              have G : a.tmps[6]?.getD undef = _ ∧ True := ho
              obtain ⟨g6, -⟩ := G
              have F : a.tmps[79]?.getD undef = _ ∧ True := hf
              obtain ⟨f5, -⟩ := F
              clear ho hf
              go_simp
              exact hK _ _ (Below.refl _ _) (Eq.refl _)
            refine And.intro ?_ ?_
            · intro a W hR hf ho K hK
              replace hR := ext_drew hR
              have G : a.tmps[3]?.getD undef = _ ∧ True := ho
              obtain ⟨g3, -⟩ := G
              have F : a.tmps[79]?.getD undef = _ ∧ True := hf
              obtain ⟨f5, -⟩ := F
              clear ho hf
              go_simp
              exact hK _ _ (Below.refl _ _) (Eq.refl _)
            refine And.intro ?_ ?_
            · intro a W hR hf ho K hK
              replace hR := ext_drew hR
              have F : a.tmps[80]?.getD undef = _ ∧ a.tmps[81]?.getD undef = _ ∧ a.tmps[79]?.getD undef = _ ∧ a.tmps[79]?.getD undef = _ ∧ True := hf
              obtain ⟨f6, f7, f5, -, -⟩ := F
              clear ho hf
              go_simp
              exact hK _ _ (Below.refl _ _) (Eq.refl _)
            refine And.intro ?_ ?_
            · intro a W hR hf ho K hK
              replace hR := ext_drew hR
              have G : a.tmps[8]?.getD undef = _ ∧ True := ho
              obtain ⟨g8, -⟩ := G
              have F : a.tmps[79]?.getD undef = _ ∧ True := hf
              obtain ⟨f5, -⟩ := F
              clear ho hf
              go_simp
              exact hK _ _ (Below.refl _ _) (Eq.refl _)
            refine And.intro ?_ ?_
            · intro a W hR hf ho K hK
              replace hR := ext_drew hR
              have G : a.tmps[3]?.getD undef = _ ∧ True := ho
              obtain ⟨g3, -⟩ := G
              have F : a.tmps[79]?.getD undef = _ ∧ True := hf
              obtain ⟨f5, -⟩ := F
              clear ho hf
              go_simp
              exact hK _ _ (Below.refl _ _) (Eq.refl _)
            refine And.intro ?_ ?_
            · intro a W hR hf ho K hK
              replace hR := ext_drew hR
              have F : a.tmps[83]?.getD undef = _ ∧ a.tmps[84]?.getD undef = _ ∧ a.tmps[82]?.getD undef = _ ∧ a.tmps[79]?.getD undef = _ ∧ True := hf
              obtain ⟨f9, f10, f8, f5, -⟩ := F
              clear ho hf
              go_simp
              exact hK _ _ (Below.refl _ _) (Eq.refl _)
            refine And.intro ?_ ?_
            · intro a W hR hf ho K hK
              replace hR := ext_drew hR
              have F : a.tmps[82]?.getD undef = _ ∧ a.tmps[85]?.getD undef = _ ∧ a.tmps[79]?.getD undef = _ ∧ True := hf
              obtain ⟨f8, f11, f5, -⟩ := F
              clear ho hf
              go_simp
              exact hK _ _ (Below.refl _ _) (Eq.refl _)
            refine And.intro ?_ ?_
            · intro a W hR hf ho K hK
              replace hR := ext_drew hR
              have F : a.tmps[79]?.getD undef = _ ∧ a.tmps[86]?.getD undef = _ ∧ a.tmps[75]?.getD undef = _ ∧ True := hf
              obtain ⟨f5, f12, f1, -⟩ := F
              clear ho hf
              go_simp
              exact hK _ _ (Below.refl _ _) (Eq.refl _)
            refine And.intro ?_ ?_
            · intro a W hR hf ho K hK
              replace hR := ext_drew hR
              have F : a.tmps[75]?.getD undef = _ ∧ a.tmps[87]?.getD undef = _ ∧ True := hf
              obtain ⟨f1, f13, -⟩ := F
              clear ho hf
              go_simp
              exact hK _ _ (Below.refl _ _) (Eq.refl _)
            refine And.intro ?_ ?_
            · intro a W hR hf ho K hK
              replace hR := ext_drew hR
              have F : a.tmps[88]?.getD undef = _ ∧ a.tmps[85]?.getD undef = _ ∧ a.tmps[74]?.getD undef = _ ∧ a.tmps[75]?.getD undef = _ ∧ a.tmps[76]?.getD undef = _ ∧ a.tmps[77]?.getD undef = _ ∧ a.tmps[78]?.getD undef = _ ∧ a.tmps[79]?.getD undef = _ ∧ a.tmps[80]?.getD undef = _ ∧ a.tmps[81]?.getD undef = _ ∧ a.tmps[82]?.getD undef = _ ∧ a.tmps[83]?.getD undef = _ ∧ a.tmps[84]?.getD undef = _ ∧ a.tmps[85]?.getD undef = _ ∧ a.tmps[86]?.getD undef = _ ∧ a.tmps[87]?.getD undef = _ ∧ a.tmps[88]?.getD undef = _ ∧ True := hf
              obtain ⟨f14, f11, f0, f1, f2, f3, f4, f5, f6, f7, f8, f9, f10, -, f12, f13, -, -⟩ := F
              clear ho hf
              go_simp
              exact hK _ _ (Below.refl _ _) (Eq.refl _)
            exact trivial
          case stab =>
            refine And.intro is_stable ?_
            refine And.intro is_stable ?_
            refine And.intro is_stable ?_
            refine And.intro is_stable ?_
            refine And.intro is_stable ?_
            refine And.intro is_stable ?_
            refine And.intro is_stable ?_
            refine And.intro is_stable ?_
            refine And.intro is_stable ?_
            refine And.intro is_stable ?_
            refine And.intro is_stable ?_
            refine And.intro is_stable ?_
            refine And.intro is_stable ?_
            refine And.intro is_stable ?_
            refine And.intro is_stable ?_
            refine And.intro is_stable ?_
            exact trivial
          case ends =>
            intro vals W hR hall
            replace hR := ext_drew hR
            have e4 : vals 4 = _ := hall 15 (by decide)
            clear hall
            simp only [fill, List.setIfInBounds_toArray, List.set_cons_succ, List.set_cons_zero, e4]
            go_wp2_with fail
            go_ret
            exact ⟨rfl, (E1.out.then E6.out).then (hE.out.then (Ext.then (by repeat first | (with_reducible exact Below.refl _ _) | (with_reducible apply Ext.alloc) | (with_reducible apply Ext.drew) | (with_reducible apply Ext.drewN) | (with_reducible refine Ext.set ?_ (by simp)) | (with_reducible refine Ext.then ?_ hR)) (Below.refl _ _)))⟩
end Go.Proofs.Ytalndcjbnedigaa

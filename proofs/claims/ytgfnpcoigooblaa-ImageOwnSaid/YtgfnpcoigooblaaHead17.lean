
/- The live question of layer 17. -/
import Derived.Test.YtgfnpcoigooblaaSame17
import Derived.Test.YtgfnpcoigooblaaPairs
import Derived.Test.YtgfnpcoigooblaaGrants
set_option linter.all false
namespace Go.Proofs.Ytgfnpcoigooblaa
open Go.RowKit
attribute [local go_sem] seen dstOf boolOf
attribute [local go_sem high] eqCap

def oneD : ImgD := ⟨false, 2, 8, [⟨[1, 1, 0, 7, 0, 0, 0, 0], 1⟩, ⟨[0, 0, 0, 0], 2⟩], [⟨1, 0, 1⟩], [⟨3, 1⟩]⟩
def OnePost (w : World) (e : Ending) (w' : World) : Prop := ∃ x : ImgM, ImgAt w' x ∧ x.d = oneD ∧ e = .returned x.val ∧ Ext w w'
theorem arr_pre {w : World} {b : Nat} {C : Array Value} {cs : List Value} {t : TypeId} (h : w.heap[b]? = some (.cells C t)) (hp : C.toList.take cs.length = cs) : Arr w (some ⟨b, 0, none⟩) cs := by
  refine .inr ⟨_, 0, rfl, fun j hj => ?_⟩
  rw [cell_of_row _ _ _ _ _ _ h, Nat.zero_add]
  have h1 : (C.toList.take cs.length)[j]? = cs[j]? := by rw [hp]
  rw [List.getElem?_take, if_pos hj, List.getElem?_eq_getElem hj] at h1
  simpa using h1
theorem own_litb {w : World} {base b : Nat} {e : TypeId} {sz n : Nat} {cs : List Value} (hb : b = w.heap.size) (h : base ≤ w.heap.size) (hl : cs.length = n * sz) (hm : n ≤ maxLen) :
    (w.alloc (.cells cs.toArray e)).ownsRow base e sz (.slice (some ⟨b, 0, none⟩) n n) n cs := hb ▸ own_lit w base e sz n cs h hl hm
set_option maxHeartbeats 4000000 in
set_option maxRecDepth 100000 in
theorem one17 (w : World) : Calls Try.prog 29 #[] w (OnePost w) := by
  obtain ⟨i0, hi, hz0, hz1, hz2⟩ := info_parts infoByte
  go_enter Try.func29, Try.ntmps29
  go_wp2_with fail
  generalize hcap : (Question.appendCap 8 4 5).cut (w.tape w.drawn (Question.appendCap 8 4 5)) = cap
  have hc8 : 8 ≤ cap := by rw [← hcap]; exact grownCap_ge w 8 4 5
  have hcm : cap ≤ maxLen := by rw [← hcap]; exact grownCap_le_maxLen w 8 4 5 (by simp [maxLen])
  clear hcap
  refine bodyPost_ret (v := .agg #[.bool false, .int .i64 2, .int .i64 8, .slice (some ⟨w.heap.size + 1 + 1 + 1 + 1, 0, none⟩) 2 2, .slice (some ⟨w.heap.size + 1 + 1 + 1 + 1 + 1, 0, none⟩) 1 1, .slice (some ⟨w.heap.size + 1 + 1 + 1 + 1 + 1 + 1, 0, none⟩) 1 1]) (by simp [results, Try.results29, go_sem]) rfl ?_
  refine ⟨⟨false, 2, 8, some ⟨w.heap.size + 1 + 1 + 1 + 1, 0, none⟩, 2, [⟨some ⟨w.heap.size + 1 + 1 + 1, 0, none⟩, cap, [1, 1, 0, 7, 0, 0, 0, 0], 1⟩, ⟨some ⟨w.heap.size + 1, 0, none⟩, 4, [0, 0, 0, 0], 2⟩], some ⟨w.heap.size + 1 + 1 + 1 + 1 + 1, 0, none⟩, 1, [⟨1, 0, 1⟩], some ⟨w.heap.size + 1 + 1 + 1 + 1 + 1 + 1, 0, none⟩, 1, [⟨3, 1⟩]⟩, ?_, rfl, rfl, (by repeat first | (with_reducible exact Below.refl _ _) | (with_reducible apply Ext.alloc) | (with_reducible apply Ext.drew) | (with_reducible apply Ext.drewN) | (with_reducible refine Ext.set ?_ (by simp)))⟩
  refine ⟨arr_lit (t := 53) (new_at (w := (((w.alloc _).alloc _).alloc _).alloc _) (o := .cells #[.slice (some ⟨w.heap.size + 1 + 1 + 1, 0, none⟩) 8 cap, .int .i64 1, .slice (some ⟨w.heap.size + 1, 0, none⟩) 4 4, .int .i64 2] 53) (by simp) (by repeat first | (with_reducible exact Below.refl _ _) | (with_reducible apply Ext.alloc) | (with_reducible apply Ext.drew) | (with_reducible apply Ext.drewN) | (with_reducible refine Ext.set ?_ (by simp)))), ?_, arr_lit (t := 68) (new_at (w := ((((w.alloc _).alloc _).alloc _).alloc _).alloc _) (o := .cells #[.int .i64 1, .int .i64 0, .int .i64 1] 68) (by simp) (by repeat first | (with_reducible exact Below.refl _ _) | (with_reducible apply Ext.alloc) | (with_reducible apply Ext.drew) | (with_reducible apply Ext.drewN) | (with_reducible refine Ext.set ?_ (by simp)))), by simp [i64ok], arr_lit (t := 70) (new_at (w := (((((w.alloc _).alloc _).alloc _).alloc _).alloc _).alloc _) (o := .cells #[.int .i64 3, .int .i64 1] 70) (by simp) (by repeat first | (with_reducible exact Below.refl _ _) | (with_reducible apply Ext.alloc) | (with_reducible apply Ext.drew) | (with_reducible apply Ext.drewN) | (with_reducible refine Ext.set ?_ (by simp)))), by simp [i64ok], by simp [i64ok], by simp⟩
  intro c hc
  rcases List.mem_cons.1 hc with rfl | hc
  · refine ⟨arr_pre (cs := bs [1, 1, 0, 7, 0, 0, 0, 0]) (new_at (w := ((w.alloc _).alloc _).alloc _) (o := .cells (#[.int .u8 1, .int .u8 1, .int .u8 0, .int .u8 7] ++ (#[.int .u8 0, .int .u8 0, .int .u8 0, .int .u8 0] ++ Builtin.zeroCells #[.int .u8 0] (cap - 8))) 5) (by simp) (by repeat first | (with_reducible exact Below.refl _ _) | (with_reducible apply Ext.alloc) | (with_reducible apply Ext.drew) | (with_reducible apply Ext.drewN) | (with_reducible refine Ext.set ?_ (by simp)))) (by simp [bs]), (by intro b hb; simp at hb; omega), by simpa using hc8, by simp, by simp [i64ok]⟩
  · obtain rfl := List.mem_singleton.1 hc
    exact ⟨arr_lit (t := 5) (new_at (w := w.alloc _) (o := .cells #[.int .u8 0, .int .u8 0, .int .u8 0, .int .u8 0] 5) (by simp) (by repeat first | (with_reducible exact Below.refl _ _) | (with_reducible apply Ext.alloc) | (with_reducible apply Ext.drew) | (with_reducible apply Ext.drewN) | (with_reducible refine Ext.set ?_ (by simp)))), (by intro b hb; simp at hb; omega), by simp, by simp, by simp [i64ok]⟩
def oneB : List Int := [83, 90, 0, 2, 0, 8, 2, 1, 1, 0, 8, 1, 0, 4, 2, 1, 0, 0, 1, 3, 1, 1, 1, 0, 7, 0, 0, 0, 0, 0, 0, 0, 0]
def badB : List Int := [83, 90, 0, 2, 0, 8, 2, 1, 1, 0, 8, 1, 0, 4, 2, 1, 0, 0, 1, 3, 1, 1, 1, 0, 7, 0, 0, 0, 0, 0, 0, 0, 9]
def gr4 : List Cap := [⟨true, 1280, 1284, 1280, 5, 0⟩, ⟨true, 1536, 2048, 1536, 27, 0⟩, ⟨true, 17, 18, 17, 96, 0⟩, ⟨true, 2560, 2816, 2560, 1, 0⟩]
def pr1 : List (Cap × Cap) := [(⟨true, 256, 264, 260, 5, 2⟩, ⟨true, 512, 768, 512, 27, 2⟩)]
theorem oneB_put : putD oneD = oneB := by decide +kernel
set_option maxHeartbeats 4000000 in
set_option maxRecDepth 100000 in
theorem head17 (w : World) : Calls Try.prog 10 #[] w fun e w' => e = .returned (.bool true) ∧ Ext w w' := by
  obtain ⟨i0, hi, hz0, hz1, hz2⟩ := info_parts infoByte
  go_enter Try.func10, Try.ntmps10
  go_wp2_with fail
  refine (one17 w).mono ?_
  rintro _ w1 ⟨x, hx, hxd, rfl, hE1⟩
  have HX := Lib.hid (And.intro hx (And.intro hxd hE1))
  clear hx hxd hE1
  go_wp2_with fail
  refine (imgPut_any x _ (HX.out.1.ext (by repeat first | (with_reducible exact Below.refl _ _) | (with_reducible apply Ext.alloc) | (with_reducible apply Ext.drew) | (with_reducible apply Ext.drewN) | (with_reducible refine Ext.set ?_ (by simp))))).mono ?_
  rintro _ w2 ⟨v2, rfl, ho2, hE2⟩
  rw [HX.out.2.1, oneB_put] at ho2
  obtain ⟨A2, c2, rfl, hc2, ha2⟩ := Arr.own ho2
  have hx2 := (hE2.block _ (by simp)).trans (heap_alloc_new w1 _)
  have H2 := Lib.hid (And.intro ho2 (And.intro hx2 (And.intro hE2 ha2)))
  obtain ⟨z0, z1, z2, z3, z4, z5⟩ := lie6 hx2 (Below.refl _ w2)
  have hlt2 : w1.heap.size < w2.heap.size := (Array.getElem?_eq_some_iff.1 hx2).1
  have hcm : c2 ≤ maxLen := by
    rcases ho2.2 with ⟨h0, -⟩ | ⟨g, cap, cur, h0, -, -, -, hm, -⟩
    · cases h0
    · cases h0; exact hm
  clear ho2 hx2 hE2 ha2
  go_wp2_with fail
  refine (imgGet_walk A2 c2 oneB w2 H2.out.2.2.2 (by unfold BytesIn oneB; decide) hc2 hcm).mono ?_
  rintro _ w3 ⟨y, hy, hyd, rfl, hE3⟩
  have hge : getD oneB = (oneD, 0) := by decide +kernel
  rw [hge] at hyd ⊢
  have H3 := Lib.hid (And.intro hy (And.intro hyd hE3))
  clear hy hyd hE3 hge
  go_wp2_with fail
  have hgn : getD [] = (zeroD, 1) := by decide +kernel
  have HN := Lib.hid (imgGet_walk none 0 [] (w3.alloc (.cells #[.bool y.strict, .int .i64 y.heap, .int .i64 y.full, .slice y.Ac y.comps.length y.cc, .slice y.Al y.links.length y.cl, .slice y.As y.shares.length y.cs] 26)) (.inl rfl) (by intro b hb; cases hb) (Nat.le_refl _) (Nat.zero_le _))
  refine HN.out.mono ?_
  rintro _ w4 ⟨z, hz, hzd, rfl, hE4⟩
  rw [hgn] at hzd ⊢
  have H4 := Lib.hid (And.intro hz (And.intro hzd hE4))
  clear hz hzd hE4 hgn
  have E24 : Hid (Ext w2 w4) := Lib.hid ((Ext.alloc H3.out.2.2 _).then H4.out.2.2)
  have hm4 : Hid (w2.heap.size ≤ w4.heap.size) := Lib.hid E24.out.size
  go_wp2_with (first
    | (at_builtin; refine wpList_append_src _ rfl (.tmp 25) (.tmp 26) 27 rfl (w4.heap.size + 1) 5 i0 (.int .u8 0) 1 1 Try.underlying27 hi hz0 hz1 hz2 rfl (by decide) _ _ _ rfl (lit0B (w4.alloc _) (w4.heap.size + 1) _ (by simp) (Nat.le_refl _)) _ oneB.length (bs oneB) rfl ((lies_arr (H2.out.2.2.2.ext E24.out) (by decide)).ext (by repeat first | (with_reducible exact Below.refl _ _) | (with_reducible apply Ext.alloc) | (with_reducible apply Ext.drew) | (with_reducible apply Ext.drewN) | (with_reducible refine Ext.set ?_ (by simp)))) (by simp [bs]) (bs_one _) (by decide) (by decide) (by simp) ?_; intro v5 w5 ho5 hg5 _))
  have e0 : [] ++ bs oneB = bs oneB := rfl
  rw [Nat.zero_add, e0] at ho5
  clear e0
  have E5 : Ext w4 w5 := Below.grown (by repeat first | (with_reducible exact Below.refl _ _) | (with_reducible apply Ext.alloc) | (with_reducible apply Ext.drew) | (with_reducible apply Ext.drewN) | (with_reducible refine Ext.set ?_ (by simp))) hg5 (by simp; omega) (fun r hr => by have := ((lit0B (w4.alloc (.cells #[.bool z.strict, .int .i64 z.heap, .int .i64 z.full, .slice z.Ac z.comps.length z.cc, .slice z.Al z.links.length z.cl, .slice z.As z.shares.length z.cs] 26)) (w4.heap.size + 1) _ (by simp) (Nat.le_refl _)).lt r hr).1; omega)
  obtain ⟨hl5, ⟨-, h50⟩ | ⟨g, cap, cur, rfl, hg1, hrow5, hcap, hmax, hs5, ht5⟩⟩ := ho5
  · exact absurd h50 (by decide)
  rw [show oneB.length = 33 from rfl] at hcap ht5
  rw [show oneB.length = 33 from rfl]
  have zc := cell_at hrow5 32 (.int .u8 0) (by
    have h1 : (cur.toList.take (33 * 1))[32]? = (bs oneB)[32]? := by rw [ht5]
    rw [List.getElem?_take, if_pos (by decide)] at h1
    simpa [bs, oneB] using h1)
  have fz := frozen_row' hrow5
  have hltg : g < w5.heap.size := (Array.getElem?_eq_some_iff.1 hrow5).1
  have H5 := Lib.hid (And.intro hrow5 (And.intro ht5 (And.intro E5 (And.intro hg1 (And.intro hcap hmax)))))
  clear hrow5 ht5 E5 hg1 hl5 hs5 hg5 hcap hmax
  go_wp2_with fail
  go_simp
  go_wp2_with fail
  obtain ⟨w6, hw6⟩ : ∃ w6, w6 = w5.setCell ⟨g, 32, none⟩ (.int .u8 9) := ⟨_, rfl⟩
  rw [← hw6]
  have E46 : Ext w4 w6 := by rw [hw6]; exact Ext.set H5.out.2.2.1 (by have := H5.out.2.2.2.1; simp; omega)
  have a6 : Arr w6 (some ⟨g, 0, none⟩) (bs badB) := by
    rw [hw6]
    refine arr_pre (set_row (o := 32) H5.out.1 (.int .u8 9)) ?_
    rw [Array.toList_setIfInBounds, show (bs badB).length = 33 * 1 from rfl, List.take_set, H5.out.2.1]
    rfl
  refine (imgGet_walk (some ⟨g, 0, none⟩) cap badB w6 a6 (by unfold BytesIn badB; decide) H5.out.2.2.2.2.1 H5.out.2.2.2.2.2).mono ?_
  rintro _ w7 ⟨u, hu, hud, rfl, hE7⟩
  have hgb : getD badB = (zeroD, 151) := by decide +kernel
  rw [hgb]
  have E27 : Ext w2 w7 := (E24.out.then E46).then hE7
  have E47 : Ext w4 w7 := E46.then hE7
  have E17 : Ext w1 w7 := ((Ext.alloc (Below.refl _ _) _).then H2.out.2.2.1).then E27
  obtain ⟨z0, z1, z2, z3, z4, z5⟩ := lie6 H2.out.2.1 E27
  have hlt7 : w1.heap.size < w7.heap.size := Nat.lt_of_lt_of_le hlt2 E27.size
  have H7 := Lib.hid (And.intro E17 E27)
  have H47 := Lib.hid E47
  clear hu hud hE7 hgb E27 E17 E46 E47 a6 hw6 zc fz hltg
  go_wp2_with fail
  have HW := Lib.hid (where_any x (w7.alloc (.cells #[.bool u.strict, .int .i64 u.heap, .int .i64 u.full, .slice u.Ac u.comps.length u.cc, .slice u.Al u.links.length u.cl, .slice u.As u.shares.length u.cs] 26)) (HX.out.1.ext (Ext.alloc H7.out.1 _)))
  refine HW.out.mono ?_
  rintro _ w8 ⟨ly, hly, hlyd, rfl, hE8⟩
  have hlp : ly.pages = 11 := by
    have h1 := congrArg LayD.pages hlyd
    rw [HX.out.2.1, show (whereD oneD).pages = 11 by decide +kernel] at h1
    exact h1
  have E28 : Ext w2 w8 := (Ext.alloc H7.out.2 _).then hE8
  have E18 : Ext w1 w8 := (Ext.alloc H7.out.1 _).then hE8
  obtain ⟨z0, z1, z2, z3, z4, z5⟩ := lie6 H2.out.2.1 E28
  have hlt8 : w1.heap.size < w8.heap.size := Nat.lt_of_lt_of_le hlt2 E28.size
  have H48 := Lib.hid ((Ext.alloc H47.out _).then hE8)
  have H8 := Lib.hid (And.intro E18 (And.intro E28 hlp))
  clear hly hlyd hE8 E18 E28 hlp
  go_wp2_with fail
  have HG := Lib.hid (grants_img x 1 (w8.alloc (.cells #[.slice ly.Ac ly.code.length ly.kc, .slice ly.Ad ly.data.length ly.kd, .slice ly.Ah ly.heap.length ly.kh, .slice ly.As ly.shares.length ly.ks, .int .i64 ly.pages] 45)) (HX.out.1.ext (Ext.alloc H8.out.1 _)) (by unfold i64ok; omega))
  refine HG.out.mono ?_
  rintro _ w9 ⟨v9, rfl, ho9, hE9⟩
  rw [HX.out.2.1, show grantsD oneD 1 = gr4 by decide +kernel] at ho9
  obtain ⟨A9, c9, rfl, hc9, ha9⟩ := Arr.own ho9
  have E29 : Ext w2 w9 := (Ext.alloc H8.out.2.1 _).then hE9
  have E19 : Ext w1 w9 := (Ext.alloc H8.out.1 _).then hE9
  have zl := (cell_at ((hE9.block _ (by simp)).trans (heap_alloc_new w8 _)) 4 (.int .i64 ly.pages) rfl)
  rw [H8.out.2.2] at zl
  obtain ⟨z0, z1, z2, z3, z4, z5⟩ := lie6 H2.out.2.1 E29
  have hlt9 : w1.heap.size < w9.heap.size := Nat.lt_of_lt_of_le hlt2 E29.size
  have H49 := Lib.hid ((Ext.alloc H48.out _).then hE9)
  have H9 := Lib.hid (And.intro E19 (And.intro E29 (And.intro zl ha9)))
  clear ho9 hE9 E19 E29 zl ha9
  rw [show gr4.length = 4 from rfl]
  go_wp2_with fail
  have HP := Lib.hid (pairs_img x 1 w9 (HX.out.1.ext H9.out.1) (by unfold i64ok; omega))
  refine HP.out.mono ?_
  rintro _ w10 ⟨v10, rfl, ho10, hE10⟩
  rw [HX.out.2.1, show pairsD oneD 1 = pr1 by decide +kernel] at ho10
  obtain ⟨A10, c10, rfl, hc10, ha10⟩ := Arr.own ho10
  rw [show pr1.length = 1 from rfl]
  obtain ⟨z0, z1, z2, z3, z4, z5⟩ := lie6 H2.out.2.1 (H9.out.2.1.then hE10)
  have zl := ext_cell hE10 _ _ H9.out.2.2.1
  obtain ⟨b, o, rfl, hb, ca⟩ := (H9.out.2.2.2.ext hE10).open (by decide)
  obtain ⟨b', o', rfl, hb', cb⟩ := ha10.open (by decide)
  have a0 := ca 6 (by decide)
  have a1 := ca 7 (by decide)
  have a2 := ca 8 (by decide)
  have a3 := ca 9 (by decide)
  have a4 := ca 10 (by decide)
  have a5 := ca 11 (by decide)
  have a6 := ca 22 (by decide)
  have b0 := cb 0 (by decide)
  have b1 := cb 1 (by decide)
  have b2 := cb 2 (by decide)
  have b3 := cb 3 (by decide)
  have b4 := cb 4 (by decide)
  have b5 := cb 5 (by decide)
  have b6 := cb 7 (by decide)
  simp [gr4, pr1, capCells, cap2] at a0 a1 a2 a3 a4 a5 a6 b0 b1 b2 b3 b4 b5 b6
  have hlt10 : w1.heap.size < w10.heap.size := Nat.lt_of_lt_of_le hlt9 hE10.size
  have hlt0 := (Array.getElem?_eq_some_iff.1 ((hE10.block _ (by have := cell_lt H9.out.2.2.1; exact this)).trans (Array.getElem?_eq_getElem (cell_lt H9.out.2.2.1)))).1
  have H10 := Lib.hid (And.intro (H9.out.1.then hE10) (And.intro (H9.out.2.1.then hE10) hE10))
  clear ho10 hE10 ca cb ha10
  obtain ⟨y0, y1, y2, y3, y4, y5⟩ := lie6 ((H4.out.2.2.block _ (by simp)).trans (heap_alloc_new w3 _)) (H49.out.then H10.out.2.2)
  have hlty := cell_lt y0
  go_wp2_with fail
  refine (same_img x y w10 (HX.out.1.ext H10.out.1) ((H3.out.1.ext (Ext.alloc (Below.refl _ _) _)).ext (H4.out.2.2.then (H49.out.then H10.out.2.2))) (HX.out.2.1.trans H3.out.2.1.symm)).mono ?_
  rintro e w11 ⟨rfl, hR⟩
  replace zl := ext_cell hR _ _ zl
  replace a0 := ext_cell hR _ _ a0
  replace a1 := ext_cell hR _ _ a1
  replace a2 := ext_cell hR _ _ a2
  replace a3 := ext_cell hR _ _ a3
  replace a4 := ext_cell hR _ _ a4
  replace a5 := ext_cell hR _ _ a5
  replace a6 := ext_cell hR _ _ a6
  replace b0 := ext_cell hR _ _ b0
  replace b1 := ext_cell hR _ _ b1
  replace b2 := ext_cell hR _ _ b2
  replace b3 := ext_cell hR _ _ b3
  replace b4 := ext_cell hR _ _ b4
  replace b5 := ext_cell hR _ _ b5
  replace b6 := ext_cell hR _ _ b6
  obtain ⟨z0, z1, z2, z3, z4, z5⟩ := lie6 H2.out.2.1 (H10.out.2.1.then hR)
  clear y0 y1 y2 y3 y4 y5 hlty
  have H11 := Lib.hid hR
  clear hR
  go_wp2_with fail
  refine (imgRight_any x w11 (HX.out.1.ext (H10.out.1.then H11.out))).mono ?_
  rintro e w12 ⟨rfl, hR⟩
  rw [HX.out.2.1, show rightD oneD = true by decide +kernel]
  have H12 := Lib.hid hR
  clear hR
  go_wp2_with fail
  refine (imgRight_any ⟨false, 0, 0, none, 0, [], none, 0, [], none, 0, []⟩ w12 (imgAt_zero w12)).mono ?_
  rintro e w13 ⟨rfl, hR⟩
  rw [show rightD (ImgM.d ⟨false, 0, 0, none, 0, [], none, 0, [], none, 0, []⟩) = false by decide +kernel]
  go_wp2_with fail
  go_ret
  exact ⟨rfl, (((HX.out.2.2.then H10.out.1).then H11.out).then H12.out).then hR⟩
end Go.Proofs.Ytgfnpcoigooblaa

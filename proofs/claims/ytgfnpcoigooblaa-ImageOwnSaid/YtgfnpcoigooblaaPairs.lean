
/- Package image: Pairs. -/
import Derived.Test.YtgfnpcoigooblaaGrants
import Derived.RegionTactic
import Derived.ChangeAlike
import Derived.BigRegion
set_option linter.all false
namespace Go.Proofs.Ytgfnpcoigooblaa
open Go.RowKit
attribute [local go_sem] seen dstOf boolOf

abbrev cap2 (p : Cap × Cap) : List Value := p.1.cells ++ p.2.cells
/-- By which one enters another one. -/
def linkPair (y : LayD) (l : LinkM) : Cap × Cap :=
  (⟨true, (y.code.getD l.to.toNat (0, 0)).1, (y.code.getD l.to.toNat (0, 0)).2, (y.code.getD l.to.toNat (0, 0)).1 + 4 * l.at', 5, 2 + l.to⟩,
   ⟨true, (y.data.getD l.to.toNat (0, 0)).1, (y.data.getD l.to.toNat (0, 0)).2, (y.data.getD l.to.toNat (0, 0)).1, 27, 2 + l.to⟩)
def pairsP (k : Int) (y : LayD) (ls : List LinkM) (n : Nat) : List (Cap × Cap) := ((ls.take n).filter fun l => decide (l.fr = k)).map (linkPair y)
def pairsD (x : ImgD) (k : Int) : List (Cap × Cap) := if rightD x = true then pairsP k (whereD x) x.links x.links.length else []
theorem pairsP_succ (k : Int) (y : LayD) {ls : List LinkM} {m : Nat} (h : m < ls.length) : pairsP k y ls (m + 1) = pairsP k y ls m ++ (if ls[m].fr = k then [linkPair y ls[m]] else []) := by
  unfold pairsP
  rw [List.take_add_one, List.getElem?_eq_getElem h, List.filter_append, List.map_append]
  by_cases hf : ls[m].fr = k
  · simp [hf]
  · simp [hf]
theorem pairsP_len (k : Int) (y : LayD) (ls : List LinkM) (m : Nat) : (pairsP k y ls m).length ≤ m := by
  unfold pairsP
  rw [List.length_map]
  exact Nat.le_trans (List.length_filter_le _ _) (by simp; omega)
theorem grants3_at {y : LayD} {j : Int} {n : Nat} (h1 : y.code.length = n) (h2 : y.data.length = n) (h0 : 0 ≤ j) (h3 : j < n) : grants3 j y = [grantD (y.code.getD j.toNat (0, 0)).1 (y.code.getD j.toNat (0, 0)).2 5, grantD (y.data.getD j.toNat (0, 0)).1 (y.data.getD j.toNat (0, 0)).2 27, grantD (16 + j) (16 + j + 1) 96] := rfl
theorem getD_in {l : List (Int × Int)} (h : ∀ p ∈ l, 0 ≤ p.1 ∧ p.1 ≤ 10000000) (i : Nat) : 0 ≤ (l.getD i (0, 0)).1 ∧ (l.getD i (0, 0)).1 ≤ 10000000 := by
  by_cases hi : i < l.length
  · have := h l[i] (List.getElem_mem hi)
    simpa [List.getD, List.getElem?_eq_getElem hi] using this
  · simp [List.getD, List.getElem?_eq_none (Nat.le_of_not_lt hi)]
theorem infoPair2 : (Try.prog.info? 40).map (fun i => (i.zero, i.size, i.bytes)) = some (some (.agg #[.bool false, .int .i64 0, .int .i64 0, .int .i64 0, .int .i64 0, .int .i64 0, .bool false, .int .i64 0, .int .i64 0, .int .i64 0, .int .i64 0, .int .i64 0]), 12, 96) := by kernel_rfl
theorem link_ok {x : ImgM} (h : formD x.d = true) : ∀ l ∈ x.links, 0 ≤ l.fr ∧ l.fr < x.comps.length ∧ 0 ≤ l.to ∧ l.to < x.comps.length ∧ 0 ≤ l.at' ∧ l.at' ≤ 1023 := fun l hl => by
  have hc := form_codes h
  rw [formD_eq] at h
  simp only [Bool.and_eq_true] at h
  have h1 := List.all_eq_true.1 h.2.2.1 l hl
  unfold linkOk at h1
  have hlen : x.d.comps.length = x.comps.length := by simp [ImgM.d]
  simp only [Bool.and_eq_true, inB, decide_eq_true_iff, hlen] at h1
  obtain ⟨⟨⟨h1, h2⟩, h3⟩, h4⟩ := h1
  have ht : l.to.toNat < x.comps.length := by omega
  have hg : x.d.comps[l.to.toNat]? = some x.comps[l.to.toNat].d := by simp [ImgM.d, List.getElem?_eq_getElem ht]
  rw [hg] at h4
  simp only [decide_eq_true_iff] at h4
  have h5 := hc x.comps[l.to.toNat] (List.getElem_mem ht)
  have h6 : (x.comps[l.to.toNat].d.code.length : Int) = x.comps[l.to.toNat].code.length := rfl
  omega
set_option maxHeartbeats 4000000 in
set_option maxRecDepth 100000 in
theorem pairs_at (st : Bool) (hp fu : Int) (Ac : Option Addr) (cc : Nat) (cs : List CompM) (Al : Option Addr) (cl : Nat) (ls : List LinkM) (As : Option Addr) (cS : Nat) (ss : List ShareM) (w : World) (k : Int) (hk : i64ok k) (h : ImgAt w ⟨st, hp, fu, Ac, cc, cs, Al, cl, ls, As, cS, ss⟩) (hn1 : cs.length ≤ 4) (hn2 : ls.length ≤ 16)
    (hl : ∀ l ∈ ls, 0 ≤ l.fr ∧ l.fr < cs.length ∧ 0 ≤ l.to ∧ l.to < cs.length ∧ 0 ≤ l.at' ∧ l.at' ≤ 1023)
    (y : LayD) (hy : y.code.length = cs.length ∧ y.data.length = cs.length ∧ ∀ p ∈ y.code, 0 ≤ p.1 ∧ p.1 ≤ 10000000)
    (hr : ∀ w, ImgAt w ⟨st, hp, fu, Ac, cc, cs, Al, cl, ls, As, cS, ss⟩ → Calls Try.prog 14 #[.agg #[.bool st, .int .i64 hp, .int .i64 fu, .slice Ac cs.length cc, .slice Al ls.length cl, .slice As ss.length cS]] w fun e w' => e = .returned (.bool true) ∧ Ext w w')
    (hg : ∀ w (j : Int), ImgAt w ⟨st, hp, fu, Ac, cc, cs, Al, cl, ls, As, cS, ss⟩ → 0 ≤ j → j < cs.length → Calls Try.prog 25 #[.agg #[.bool st, .int .i64 hp, .int .i64 fu, .slice Ac cs.length cc, .slice Al ls.length cl, .slice As ss.length cS], .int .i64 j] w (GivesC w (grants3 j y ++ shareGs j y ss ss.length))) :
    Calls Try.prog 19 #[.agg #[.bool st, .int .i64 hp, .int .i64 fu, .slice Ac cs.length cc, .slice Al ls.length cl, .slice As ss.length cS], .int .i64 k] w fun e w' => ∃ v, e = .returned v ∧ w'.ownsRow w.heap.size 40 12 v (pairsP k y ls ls.length).length ((pairsP k y ls ls.length).flatMap cap2) ∧ Ext w w' := by
  have H := Lib.hid h
  have HR := Lib.hid hr
  have HG := Lib.hid hg
  have HY := Lib.hid hy
  have HLL := Lib.hid hl
  clear h hr hg hy hl
  go_enter Try.func19, Try.ntmps19
  go_wp2_with fail
  refine (HR.out _ (H.out.ext (by repeat first | (with_reducible exact Below.refl _ _) | (with_reducible apply Ext.alloc) | (with_reducible apply Ext.drew) | (with_reducible apply Ext.drewN) | (with_reducible refine Ext.set ?_ (by simp))))).mono ?_
  rintro e w2 ⟨rfl, hb2⟩
  have I2 := new1 hb2
  have E2 : Ext w w2 := Ext.then (by repeat first | (with_reducible exact Below.refl _ _) | (with_reducible apply Ext.alloc) | (with_reducible apply Ext.drew) | (with_reducible apply Ext.drewN) | (with_reducible refine Ext.set ?_ (by simp))) hb2
  obtain ⟨z0, z1, z2, z3, z4, z5⟩ := lie6 I2 (Below.refl _ w2)
  have hlt : w.heap.size < w2.heap.size := by have := hb2.size; simp at this; omega
  have HI := Lib.hid (And.intro I2 E2)
  clear I2 E2 hb2
  go_wp2_with fail
  obtain ⟨ci, hci, hci0, hci1, hci2⟩ := info_parts infoPair2
  go_loopw [5, 17] (fun v i wr => ∃ m : Nat, m ≤ ls.length ∧ i = .int .i64 (m : Int) ∧ wr.ownsRow w2.heap.size 40 12 v (pairsP k y ls m).length ((pairsP k y ls m).flatMap cap2) ∧ Ext w2 wr) (fun _ i _ => ls.length - (intOf i).toNat)
  case atStart => exact ⟨0, Nat.zero_le _, rfl, World.ownsRow_nil _ _ _ _, Below.refl _ _⟩
  case round =>
    clear z0 z1 z2 z3 z4 z5
    obtain ⟨m, hm, rfl, hO, hE⟩ := hrel
    obtain ⟨z0, z1, z2, z3, z4, z5⟩ := lie6 HI.out.1 hE
    by_cases hlt2 : m < ls.length
    · have hEw : Ext w wr := HI.out.2.then hE
      obtain ⟨b1, o1, rfl, hb1, q1⟩ := H.out.links.flat (s := 3) (fun _ => rfl) (by decide) hlt2
      have x0 := ext_cell hEw _ _ (q1 0 _ rfl)
      have x1 := ext_cell hEw _ _ (q1 1 _ rfl)
      have x2 := ext_cell hEw _ _ (q1 2 _ rfl)
      simp only [Nat.zero_mul, Nat.add_zero] at x0
      clear q1
      have hlb := HLL.out ls[m] (List.getElem_mem hlt2)
      have hP : pairsP k y ls (m + 1) = pairsP k y ls m ++ (if ls[m].fr = k then [linkPair y ls[m]] else []) := pairsP_succ k y hlt2
      have hPl := pairsP_len k y ls m
      generalize hss : ls[m] = l at x0 x1 x2 hlb hP
      have HP := Lib.hid hP
      have hltw : w.heap.size < wr.heap.size := Nat.lt_of_lt_of_le hlt hE.size
      clear hss hP
      by_cases hfr : l.fr = k
      · subst hfr
        obtain ⟨U, hU⟩ : ∃ U, U = wr.alloc (.cells #[.int .i64 l.fr, .int .i64 l.to, .int .i64 l.at'] 68) := ⟨_, rfl⟩
        have hEU : Ext wr U := by rw [hU]; exact (by repeat first | (with_reducible exact Below.refl _ _) | (with_reducible apply Ext.alloc) | (with_reducible apply Ext.drew) | (with_reducible apply Ext.drewN) | (with_reducible refine Ext.set ?_ (by simp)))
        have sU : U.heap[wr.heap.size]? = some (.cells #[.int .i64 l.fr, .int .i64 l.to, .int .i64 l.at'] 68) := by rw [hU]; exact heap_alloc_new wr _
        have hlU := (Array.getElem?_eq_some_iff.1 sU).1
        have HC := Lib.hid (HG.out U l.to (H.out.ext (hEw.then hEU)) hlb.2.2.1 hlb.2.2.2.1)
        have hg3 := grants3_at (y := y) (j := l.to) (HY.out.1) (HY.out.2.1) hlb.2.2.1 hlb.2.2.2.1
        have hlp : linkPair y l = (⟨true, (y.code.getD l.to.toNat (0, 0)).1, (y.code.getD l.to.toNat (0, 0)).2, (y.code.getD l.to.toNat (0, 0)).1 + 4 * l.at', 5, 2 + l.to⟩, ⟨true, (y.data.getD l.to.toNat (0, 0)).1, (y.data.getD l.to.toNat (0, 0)).2, (y.data.getD l.to.toNat (0, 0)).1, 27, 2 + l.to⟩) := rfl
        have hcb : 0 ≤ (y.code.getD l.to.toNat (0, 0)).1 ∧ (y.code.getD l.to.toNat (0, 0)).1 ≤ 10000000 := getD_in HY.out.2.2 _
        generalize (y.code.getD l.to.toNat (0, 0)) = pc at hlp hcb hg3
        generalize (y.data.getD l.to.toNat (0, 0)) = pd at hlp hg3
        have HLP := Lib.hid hlp
        have HU := Lib.hid (And.intro hU (And.intro hEU sU))
        have HG3 := Lib.hid hg3
        clear hlp hg3
        go_wp2_with fail
        rw [← hU]
        clear hU hEU sU
        refine HC.out.mono ?_
        rintro _ w4 ⟨v, rfl, ho, hE4⟩
        rw [HG3.out] at ho
        generalize hrest : shareGs l.to y ss ss.length = rest at ho
        obtain ⟨Ag, cg, rfl, hcg, hAg⟩ := Arr.own ho
        obtain ⟨gb, go, rfl, hgb, q0, q1, q2, q3, q4, q5⟩ := cap_row hAg (k := 0) (by simp)
        obtain ⟨gb', go', he, -, r0, r1, r2, r3, r4, r5⟩ := cap_row hAg (k := 1) (by simp)
        cases he
        simp only [Nat.zero_mul, Nat.add_zero, Nat.one_mul, List.cons_append, List.getElem_cons_zero, List.getElem_cons_succ, grantD] at q0 q1 q2 q3 q4 q5 r0 r1 r2 r3 r4 r5
        have s4 := (hE4.block _ hlU).trans HU.out.2.2
        have l0 := cell_at s4 0 _ rfl
        have l1 := cell_at s4 1 _ rfl
        have l2 := cell_at s4 2 _ rfl
        have hw4 : wr.heap.size < w4.heap.size := (Array.getElem?_eq_some_iff.1 s4).1
        have hlenG : 2 ≤ (grantD pc.1 pc.2 5 :: grantD pd.1 pd.2 27 :: grantD (16 + l.to) (16 + l.to + 1) 96 :: rest).length := by simp
        have H4 := Lib.hid (And.intro s4 hE4)
        clear s4 ho hAg hrest hcg hE4
        go_wp2_with fail
        have hb4 : 0 ≤ pc.1 + 4 * l.at' ∧ pc.1 + 4 * l.at' ≤ 20000000 := by omega
        go_region
        all_goals go_wp2_with fail
        all_goals go_region
        · -- one order
          obtain ⟨X, hX⟩ : ∃ X, X = (((w4.alloc (.cells #[.bool true, .int .i64 pc.1, .int .i64 pc.2, .int .i64 (pc.1 + 4 * l.at'), .int .i64 5, .int .i64 (2 + l.to)] 39)).alloc (.cells #[.bool true, .int .i64 pd.1, .int .i64 pd.2, .int .i64 pd.1, .int .i64 27, .int .i64 (2 + l.to)] 39)).alloc (.cells #[.bool true, .int .i64 pc.1, .int .i64 pc.2, .int .i64 (pc.1 + 4 * l.at'), .int .i64 5, .int .i64 (2 + l.to), .bool true, .int .i64 pd.1, .int .i64 pd.2, .int .i64 pd.1, .int .i64 27, .int .i64 (2 + l.to)] 40)).drew.drew := ⟨_, rfl⟩
          have eX : Ext w4 X := by rw [hX]; exact (by repeat first | (with_reducible exact Below.refl _ _) | (with_reducible apply Ext.alloc) | (with_reducible apply Ext.drew) | (with_reducible apply Ext.drewN) | (with_reducible refine Ext.set ?_ (by simp)))
          have cX : X.heap[w4.heap.size + 1 + 1]? = some (.cells (cap2 (⟨true, pc.1, pc.2, pc.1 + 4 * l.at', 5, 2 + l.to⟩, ⟨true, pd.1, pd.2, pd.1, 27, 2 + l.to⟩)).toArray 40) := by rw [hX]; exact new_at (w := (w4.alloc (.cells #[.bool true, .int .i64 pc.1, .int .i64 pc.2, .int .i64 (pc.1 + 4 * l.at'), .int .i64 5, .int .i64 (2 + l.to)] 39)).alloc (.cells #[.bool true, .int .i64 pd.1, .int .i64 pd.2, .int .i64 pd.1, .int .i64 27, .int .i64 (2 + l.to)] 39)) (o := (.cells #[.bool true, .int .i64 pc.1, .int .i64 pc.2, .int .i64 (pc.1 + 4 * l.at'), .int .i64 5, .int .i64 (2 + l.to), .bool true, .int .i64 pd.1, .int .i64 pd.2, .int .i64 pd.1, .int .i64 27, .int .i64 (2 + l.to)] 40)) (by simp) (by repeat first | (with_reducible exact Below.refl _ _) | (with_reducible apply Ext.alloc) | (with_reducible apply Ext.drew) | (with_reducible apply Ext.drewN) | (with_reducible refine Ext.set ?_ (by simp)))
          have hEX := hE.then (HU.out.2.1.then (H4.out.2.then eX))
          have hOX := own_ext hO (HU.out.2.1.then (H4.out.2.then eX))
          have HX := Lib.hid (And.intro hX (And.intro cX (And.intro hEX hOX)))
          clear hX eX cX hEX hOX
          go_wp2_with (first
            | (at_builtin; rw [← HX.out.1]; (refine wpList_append_src X rfl (.tmp 50) (.tmp 54) 36 rfl w2.heap.size 40 ci (.agg #[.bool false, .int .i64 0, .int .i64 0, .int .i64 0, .int .i64 0, .int .i64 0, .bool false, .int .i64 0, .int .i64 0, .int .i64 0, .int .i64 0, .int .i64 0]) 12 96 Try.underlying36 hci hci0 hci1 hci2 rfl (by decide) _ _ _ rfl HX.out.2.2.2 _ 1 (cap2 (⟨true, pc.1, pc.2, pc.1 + 4 * l.at', 5, 2 + l.to⟩, ⟨true, pd.1, pd.2, pd.1, 27, 2 + l.to⟩)) rfl (lies_lit HX.out.2.1) rfl (by simp [Value.oneCell']) (by unfold maxLen; omega) (by omega) HX.out.2.2.1.size ?_); intro v5 w5 ho5 hg5 _))
          refine ⟨⟨m + 1, by omega, by simp, ?_, Below.grown HX.out.2.2.1 hg5 HX.out.2.2.1.size (fun r hr => (hO.lt r hr).1)⟩, by simp [intOf]; omega⟩
          rw [HP.out, if_pos trivial, HLP.out, List.flatMap_append, List.length_append]
          simpa using ho5
        · -- the other one
          obtain ⟨X, hX⟩ : ∃ X, X = (((w4.alloc (.cells #[.bool true, .int .i64 pd.1, .int .i64 pd.2, .int .i64 pd.1, .int .i64 27, .int .i64 (2 + l.to)] 39)).alloc (.cells #[.bool true, .int .i64 pc.1, .int .i64 pc.2, .int .i64 (pc.1 + 4 * l.at'), .int .i64 5, .int .i64 (2 + l.to)] 39)).alloc (.cells #[.bool true, .int .i64 pc.1, .int .i64 pc.2, .int .i64 (pc.1 + 4 * l.at'), .int .i64 5, .int .i64 (2 + l.to), .bool true, .int .i64 pd.1, .int .i64 pd.2, .int .i64 pd.1, .int .i64 27, .int .i64 (2 + l.to)] 40)).drew.drew := ⟨_, rfl⟩
          have eX : Ext w4 X := by rw [hX]; exact (by repeat first | (with_reducible exact Below.refl _ _) | (with_reducible apply Ext.alloc) | (with_reducible apply Ext.drew) | (with_reducible apply Ext.drewN) | (with_reducible refine Ext.set ?_ (by simp)))
          have cX : X.heap[w4.heap.size + 1 + 1]? = some (.cells (cap2 (⟨true, pc.1, pc.2, pc.1 + 4 * l.at', 5, 2 + l.to⟩, ⟨true, pd.1, pd.2, pd.1, 27, 2 + l.to⟩)).toArray 40) := by rw [hX]; exact new_at (w := (w4.alloc (.cells #[.bool true, .int .i64 pd.1, .int .i64 pd.2, .int .i64 pd.1, .int .i64 27, .int .i64 (2 + l.to)] 39)).alloc (.cells #[.bool true, .int .i64 pc.1, .int .i64 pc.2, .int .i64 (pc.1 + 4 * l.at'), .int .i64 5, .int .i64 (2 + l.to)] 39)) (o := (.cells #[.bool true, .int .i64 pc.1, .int .i64 pc.2, .int .i64 (pc.1 + 4 * l.at'), .int .i64 5, .int .i64 (2 + l.to), .bool true, .int .i64 pd.1, .int .i64 pd.2, .int .i64 pd.1, .int .i64 27, .int .i64 (2 + l.to)] 40)) (by simp) (by repeat first | (with_reducible exact Below.refl _ _) | (with_reducible apply Ext.alloc) | (with_reducible apply Ext.drew) | (with_reducible apply Ext.drewN) | (with_reducible refine Ext.set ?_ (by simp)))
          have hEX := hE.then (HU.out.2.1.then (H4.out.2.then eX))
          have hOX := own_ext hO (HU.out.2.1.then (H4.out.2.then eX))
          have HX := Lib.hid (And.intro hX (And.intro cX (And.intro hEX hOX)))
          clear hX eX cX hEX hOX
          go_wp2_with (first
            | (at_builtin; rw [← HX.out.1]; (refine wpList_append_src X rfl (.tmp 50) (.tmp 54) 36 rfl w2.heap.size 40 ci (.agg #[.bool false, .int .i64 0, .int .i64 0, .int .i64 0, .int .i64 0, .int .i64 0, .bool false, .int .i64 0, .int .i64 0, .int .i64 0, .int .i64 0, .int .i64 0]) 12 96 Try.underlying36 hci hci0 hci1 hci2 rfl (by decide) _ _ _ rfl HX.out.2.2.2 _ 1 (cap2 (⟨true, pc.1, pc.2, pc.1 + 4 * l.at', 5, 2 + l.to⟩, ⟨true, pd.1, pd.2, pd.1, 27, 2 + l.to⟩)) rfl (lies_lit HX.out.2.1) rfl (by simp [Value.oneCell']) (by unfold maxLen; omega) (by omega) HX.out.2.2.1.size ?_); intro v5 w5 ho5 hg5 _))
          refine ⟨⟨m + 1, by omega, by simp, ?_, Below.grown HX.out.2.2.1 hg5 HX.out.2.2.1.size (fun r hr => (hO.lt r hr).1)⟩, by simp [intOf]; omega⟩
          rw [HP.out, if_pos trivial, HLP.out, List.flatMap_append, List.length_append]
          simpa using ho5
      · have hfr' : (l.fr != k) = true := by simpa using hfr
        go_wp2_with fail
        refine ⟨⟨m + 1, by omega, by simp, ?_, hE.then (by repeat first | (with_reducible exact Below.refl _ _) | (with_reducible apply Ext.alloc) | (with_reducible apply Ext.drew) | (with_reducible apply Ext.drewN) | (with_reducible refine Ext.set ?_ (by simp)))⟩, by simp [intOf]; omega⟩
        rw [HP.out, if_neg hfr, List.append_nil]
        exact own_ext hO (by repeat first | (with_reducible exact Below.refl _ _) | (with_reducible apply Ext.alloc) | (with_reducible apply Ext.drew) | (with_reducible apply Ext.drewN) | (with_reducible refine Ext.set ?_ (by simp)))
    · obtain rfl : m = ls.length := by omega
      go_wp2_with fail
      go_ret
      exact ⟨_, rfl, own_low hO HI.out.2.size, HI.out.2.then hE⟩
theorem whC_code {h : Int} {cs : List CompD} (h0 : 0 ≤ h) (h1 : h ≤ 64) (hc : ∀ c ∈ cs, c.code.length ≤ 4096 ∧ 0 ≤ c.data ∧ c.data ≤ 8) (hl : cs.length ≤ 4) : ∀ k, k ≤ cs.length → ∀ p ∈ (whC h cs k).code, 0 ≤ p.1 ∧ p.1 ≤ 10000000
  | 0, _, p, hp => by cases hp
  | k + 1, hk, p, hp => by
    have hpg := whC_page h0 h1 hc k (by omega)
    simp only [whC] at hp
    rcases List.mem_append.1 hp with hp | hp
    · exact whC_code h0 h1 hc hl k (by omega) p hp
    · obtain rfl := List.mem_singleton.1 hp
      dsimp only
      omega
set_option maxHeartbeats 4000000 in
set_option maxRecDepth 100000 in
theorem pairs_no (x : ImgM) (k : Int) (w : World) (h : ImgAt w x) (hr : rightD x.d = false) : Calls Try.prog 19 #[x.val, .int .i64 k] w fun e w' => e = .returned (.slice none 0 0) ∧ Ext w w' := by
  have H := Lib.hid h
  have HR := Lib.hid (fun w h => imgRight_any x w h)
  rw [hr] at HR
  clear h hr
  go_enter Try.func19, Try.ntmps19
  go_wp2_with fail
  refine (HR.out _ (H.out.ext (by repeat first | (with_reducible exact Below.refl _ _) | (with_reducible apply Ext.alloc) | (with_reducible apply Ext.drew) | (with_reducible apply Ext.drewN) | (with_reducible refine Ext.set ?_ (by simp))))).mono ?_
  rintro e w2 ⟨rfl, hb2⟩
  have E2 : Ext w w2 := Ext.then (by repeat first | (with_reducible exact Below.refl _ _) | (with_reducible apply Ext.alloc) | (with_reducible apply Ext.drew) | (with_reducible apply Ext.drewN) | (with_reducible refine Ext.set ?_ (by simp))) hb2
  have HE := Lib.hid E2
  clear E2 hb2
  go_wp2_with fail
  go_ret
  exact ⟨rfl, HE.out⟩
def PairsPost (w : World) (l : List (Cap × Cap)) (e : Ending) (w' : World) : Prop := ∃ v, e = .returned v ∧ w'.ownsRow w.heap.size 40 12 v l.length (l.flatMap cap2) ∧ Ext w w'
theorem pairs_img (x : ImgM) (k : Int) (w : World) (h : ImgAt w x) (hk : i64ok k) : Calls Try.prog 19 #[x.val, .int .i64 k] w (PairsPost w (pairsD x.d k)) := by
  unfold pairsD
  cases hr : rightD x.d with
  | false =>
    rw [if_neg (by simp)]
    refine (pairs_no x k w h hr).mono ?_
    rintro e w' ⟨rfl, hE⟩
    exact ⟨_, rfl, World.ownsRow_nil _ _ _ _, hE⟩
  | true =>
    rw [if_pos rfl]
    have hf := rightD_form hr
    have h1 := formD_facts hf
    have h2 := form_nums hf
    have HR := fun w h => imgRight_any x w h
    rw [hr] at HR
    have hl := whereD_lens hr
    have hcl : x.d.comps.length = x.comps.length := by simp [ImgM.d]
    refine pairs_at x.strict x.heap x.full x.Ac x.cc x.comps x.Al x.cl x.links x.As x.cs x.shares w k hk h h1.1 h1.2.1 (link_ok hf) (whereD x.d) ⟨hl.1.trans hcl, hl.2.1.trans hcl, ?_⟩ HR (fun w j h h0 h1 => ?_)
    · have := whC_code (cs := x.d.comps) h2.1 h2.2.1 (fun c hc => by obtain ⟨y, hy, rfl⟩ := List.mem_map.1 hc; exact h2.2.2 y hy) (by rw [hcl]; exact h1.1) x.d.comps.length (Nat.le_refl _)
      unfold whereD
      rw [if_pos hr]
      exact this
    · have hg := grants_img x j w h (by unfold i64ok; omega)
      unfold grantsD at hg
      rw [if_pos ⟨hr, h0, by rw [hcl]; exact h1⟩] at hg
      exact hg
end Go.Proofs.Ytgfnpcoigooblaa

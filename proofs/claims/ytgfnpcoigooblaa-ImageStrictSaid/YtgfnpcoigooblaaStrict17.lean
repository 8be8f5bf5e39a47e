
/- ImageStrict: the law returns true. -/
import Derived.Test.YtgfnpcoigooblaaBack17
import Derived.Test.YtgfnpcoigooblaaStrP17
set_option linter.all false
namespace Go.Proofs.Ytgfnpcoigooblaa
open Go.RowKit
attribute [local go_sem] seen dstOf boolOf
theorem ImgAt.strict {w : World} {x : ImgM} (h : ImgAt w x) (b : Bool) : ImgAt w { x with strict := b } := ⟨h.comps, h.codes, h.links, h.linksOk, h.shares, h.sharesOk, h.nums, h.lens⟩
abbrev rowS (x : ImgM) (b : Bool) : Obj := .cells #[.bool b, .int .i64 x.heap, .int .i64 x.full, .slice x.Ac x.comps.length x.cc, .slice x.Al x.links.length x.cl, .slice x.As x.shares.length x.cs] 26
set_option maxHeartbeats 4000000 in
set_option maxRecDepth 100000 in
theorem strict17_any (x : ImgM) (w : World) (h : ImgAt w x) (h1 : x.comps.length ≤ 8796093021952) (h2 : x.links.length ≤ 8796093021952) (h3 : x.shares.length ≤ 8796093021952) :
    Calls Try.prog 8 #[x.val] w fun e w' => e = .returned (.bool true) ∧ Ext w w' := by
  have H := Lib.hid h
  clear h
  go_enter Try.func8, Try.ntmps8
  go_wp2_with fail
  refine (head17 _).mono ?_
  rintro e w1 ⟨rfl, hE1⟩
  have B1 : Hid (Begun w w1 x) := Lib.hid ⟨(Ext.alloc (Below.refl _ w) _).then hE1, (hE1.block _ (by simp)).trans (heap_alloc_new w _)⟩
  clear hE1
  obtain ⟨z0, z1, z2, z3, z4, z5⟩ := lie6 B1.out.row (Below.refl _ w1)
  have hlt : w.heap.size < w1.heap.size := cell_lt z0
  go_wp2_with fail
  refine (great_any x w1 (H.out.ext B1.out.ext) h1 h2 h3).mono ?_
  rintro e w2 ⟨b, rfl, hE⟩
  have B2 : Hid (Begun w w2 x) := Lib.hid (B1.out.then hE)
  clear hE B1
  cases b with
  | true =>
    go_wp2_with fail
    go_ret
    exact ⟨rfl, B2.out.ext⟩
  | false =>
    obtain ⟨z0, z1, z2, z3, z4, z5⟩ := lie6 B2.out.row (Below.refl _ w2)
    have hlt2 : w.heap.size < w2.heap.size := cell_lt z0
    have fz := frozen_row' B2.out.row
    obtain ⟨w3, hw3⟩ : ∃ w3, w3 = w2.setCell ⟨w.heap.size, 0, none⟩ (.bool false) := ⟨_, rfl⟩
    have hr3 : w3.heap[w.heap.size]? = some (rowS x false) := by rw [hw3, set_row B2.out.row]; rfl
    have E3 : Ext w w3 := by rw [hw3]; exact Ext.set B2.out.ext (by simp)
    have H3 := Lib.hid (And.intro hr3 E3)
    go_wp2_with fail
    rw [← hw3]
    clear hw3 hr3 E3 fz
    refine (imgRight_any { x with strict := false } w3 ((H.out.ext H3.out.2).strict false)).mono ?_
    rintro e w4 ⟨rfl, hE⟩
    have hr4 : w4.heap[w.heap.size]? = some (rowS x false) := (hE.block _ (Array.getElem?_eq_some_iff.1 H3.out.1).1).trans H3.out.1
    have E4 : Ext w w4 := H3.out.2.then hE
    obtain ⟨z0, z1, z2, z3, z4, z5⟩ := lie6 hr4 (Below.refl _ w4)
    have hlt4 : w.heap.size < w4.heap.size := cell_lt z0
    have fz := frozen_row' hr4
    obtain ⟨loose, hloose⟩ : ∃ b, b = rightD (ImgM.d { x with strict := false }) := ⟨_, rfl⟩
    rw [← hloose]
    have HL := Lib.hid hloose
    obtain ⟨w5, hw5⟩ : ∃ w5, w5 = w4.setCell ⟨w.heap.size, 0, none⟩ (.bool true) := ⟨_, rfl⟩
    have hr5 : w5.heap[w.heap.size]? = some (rowS x true) := by rw [hw5, set_row hr4]; rfl
    have E5 : Ext w w5 := by rw [hw5]; exact Ext.set E4 (by simp)
    have H5 := Lib.hid (And.intro hr5 E5)
    clear hloose hE
    go_wp2_with fail
    rw [← hw5]
    clear hw5 hr4 E4 fz hr5 E5 z0 z1 z2 z3 z4 z5 hlt4
    have hn : x.d.comps.length = x.comps.length := by simp [ImgM.d]
    have HN := Lib.hid hn
    clear hn
    go_loopw [5, 6] (fun asks i wr => ∃ k : Nat, k ≤ x.comps.length ∧ i = .int .i64 (k : Int) ∧ asks = .bool (asksD x.d k) ∧ Ext w5 wr) (fun _ i _ => x.comps.length - (intOf i).toNat)
    case atStart => exact ⟨0, Nat.zero_le _, rfl, by simp [asksD], Below.refl _ _⟩
    case round =>
      obtain ⟨k, hk, rfl, rfl, hE⟩ := hrel
      obtain ⟨z0, z1, z2, z3, z4, z5⟩ := lie6 H5.out.1 hE
      have hlt5 : w.heap.size < wr.heap.size := cell_lt z0
      by_cases hlt6 : k < x.comps.length
      · obtain ⟨b1, o1, hb, hb1, q1⟩ := (H.out.comps.ext (H5.out.2)).flat (s := 2) (fun _ => rfl) (by decide) hlt6
        have x0' := q1 0 _ rfl
        simp only [Nat.zero_mul, Nat.add_zero] at x0'
        have hs := asksD_succ (x := x.d) (k := k) (by rw [HN.out]; exact hlt6)
        have hcc := H.out.codes x.comps[k] (List.getElem_mem hlt6)
        rw [show x.d.comps[k]'(by rw [HN.out]; exact hlt6) = x.comps[k].d by simp [ImgM.d]] at hs
        obtain ⟨cm, hcm⟩ : ∃ cm, cm = x.comps[k] := ⟨_, rfl⟩
        rw [← hcm] at x0' hs hcc
        have HS := Lib.hid (And.intro hs (And.intro hb (And.intro (hcc.1.ext H5.out.2) x0')))
        have hlc := hcc.2.2.2.1
        have HE := Lib.hid hE
        clear q1 hs hcc hcm hb x0' hE
        generalize asksD x.d k = a0 at HS
        go_wp2_with fail
        go_loopw [5, 7] (fun asks i wr => ∃ j : Nat, 4 * j ≤ cm.code.length ∧ i = .int .i64 (4 * (j : Int)) ∧ asks = .bool (a0 || asksL cm.code j) ∧ Ext w5 wr) (fun _ i _ => cm.code.length - (intOf i).toNat)
        case atStart => exact ⟨0, by omega, rfl, by simp [asksL], HE.out⟩
        case round =>
          obtain ⟨j, hj, rfl, rfl, hE⟩ := hrel
          obtain ⟨z0, z1, z2, z3, z4, z5⟩ := lie6 H5.out.1 hE
          have hlt7 : w.heap.size < wr.heap.size := cell_lt z0
          have x0 := ext_cell hE _ _ HS.out.2.2.2
          rw [HS.out.2.1] at z3
          by_cases hj2 : 4 * j + 4 ≤ cm.code.length
          · obtain ⟨bc, oc, hA, hbc, qc⟩ := (HS.out.2.2.1.ext hE).open (by simp [bs]; omega)
            have y0 := qc (4 * j) (by simp [bs]; omega)
            rw [hA] at x0
            have hv : (bs cm.code)[4 * j]'(by simp [bs]; omega) = .int .u8 (cm.code.getD (4 * j) 0) := by simp [bs, List.getD_eq_getElem?_getD, List.getElem?_eq_getElem (show 4 * j < cm.code.length by omega)]
            rw [hv] at y0
            have hsj := Lib.hid (asksL_succ cm.code j)
            generalize cm.code.getD (4 * j) 0 = byte at y0 hsj
            clear qc hv
            cases hq : (a0 || asksL cm.code j) with
            | true =>
              go_wp2_with fail
              exact ⟨⟨j + 1, by omega, by congr 1, by rw [hsj.out, ← Bool.or_assoc, hq]; rfl, hE⟩, by simp [intOf]; omega⟩
            | false =>
              go_wp2_with fail
              exact ⟨⟨j + 1, by omega, by congr 1, by rw [hsj.out, ← Bool.or_assoc, hq]; rfl, hE⟩, by simp [intOf]; omega⟩
          · go_wp2_with fail
            exact ⟨⟨k + 1, by omega, by simp, by rw [HS.out.1, show j = cm.code.length / 4 by omega]; rfl, hE⟩, by simp [intOf]; omega⟩
      · obtain rfl : k = x.comps.length := by omega
        go_wp2_with fail
        refine (imgRight_any { x with strict := true } wr ((H.out.ext (H5.out.2.then hE)).strict true)).mono ?_
        rintro e w6 ⟨rfl, hE6⟩
        have hfin : rightD (ImgM.d { x with strict := true }) = (loose && !asksD x.d x.comps.length) := by
          rw [HL.out, ← HN.out]
          exact strict_law x.d
        rw [hfin]
        have H6 := Lib.hid (H5.out.2.then (hE.then hE6))
        clear hE6 hfin
        cases loose <;> cases asksD x.d x.comps.length
        all_goals (go_wp2_with fail; go_ret; exact ⟨rfl, H6.out⟩)
end Go.Proofs.Ytgfnpcoigooblaa


/- Package clos: opens. -/
import Derived.Test.YtalndcjbnedigaaClosS
set_option linter.all false
namespace Go.Proofs.Ytalndcjbnedigaa
open Go.RowKit Go.Shelf
attribute [local go_sem] Oper.semAt_some
set_option maxHeartbeats 4000000 in
set_option maxRecDepth 100000 in
theorem opens_stops (n : Nat) (hn : 1 ≤ n) (bs sp B N : Nat) (vg : Value) (G O0 : List Cap) (hwf : ∀ g ∈ G, CapWf g) (hG : G.length ≤ 1000) (hO : ∀ (pre : List Cap), (∃ k, O0 ++ pre = (G.take k).foldl openStep O0) → (∀ o ∈ O0 ++ pre, CapWf o) ∧ (O0 ++ pre).length ≤ 1000) :
    SeqInv Fence.wide n Try.prog 58 #[.pointer (some ⟨bs, 0, none⟩)] (fun c : Cap => #[c.val])
      (fun pre W => W.cell? ⟨bs, 0, none⟩ = some (.pointer (some ⟨sp, 0, none⟩)) ∧ ∃ vo, SetAt B W sp vg vo G (O0 ++ pre))
      (fun pre x => ∃ g ∈ G, opensB (O0 ++ pre) g = true ∧ x = bareC g) (fun xs => O0 ++ xs = roundL G O0) N := by
  have hmix : Try.prog.follows .mixedOrders = true := by kernel_rfl
  intro l J W hW hJ hInv hY hJ0
  obtain ⟨hbs, vo0, hset0⟩ := hInv _ _ hJ0
  obtain ⟨Ag, cg, rfl, -, hag⟩ := Arr.own hset0.g
  have HINV := Lib.hid hInv
  have HY := Lib.hid hY
  have HJ := Lib.hid hJ
  have hrow0 := hset0.row
  clear hInv hY hJ
  refine callsIn_of_wp Try.func58 rfl trivial ?_ rfl
  simp only [Try.ntmps58, List.size_toArray, List.length_cons, List.length_nil, Nat.reduceAdd, Nat.reduceSub, Array.replicate_succ, Array.replicate_zero, List.push_toArray, List.append_toArray, List.nil_append, List.cons_append]
  have q0 := hbs
  have q1 : W.cell? ⟨sp, 0, none⟩ = some (.slice Ag G.length cg) := by simp [World.cell?, hrow0]
  have l0 := cell_lt q0
  have l1 := cell_lt q1
  simp only at l0 l1
  gi_wp2
  gi_loopw [12] (fun i wr => ∃ (k : Nat) (pre : List Cap), k ≤ G.length ∧ i = .int .i64 (k : Int) ∧ J pre wr ∧ O0 ++ pre = (G.take k).foldl openStep O0) (fun i _ => G.length - (intOf i).toNat)
  case atStart => exact ⟨0, [], Nat.zero_le _, rfl, hJ0, by simp⟩
  case round =>
    obtain ⟨k, pre, hk, rfl, hJk, hpre⟩ := hrel
    obtain ⟨hb, vo, hset⟩ := HINV.out _ _ hJk
    by_cases hlt : k < G.length
    · have hA := arrOwn hset.g
      obtain ⟨bg, og, rfl, hbg, x0, x1, x2, x3, x4, x5⟩ := cap_row hA hlt
      obtain ⟨Ao, co, rfl, hco, hAo⟩ := Arr.own hset.o
      have hsu := fold_succ hlt O0
      rw [← hpre] at hsu
      have hgw := hwf G[k] (List.getElem_mem hlt)
      have hgm := List.getElem_mem hlt
      have hOw := hO pre ⟨k, hpre⟩
      have HS := Lib.hid (And.intro hsu (And.intro hset (And.intro hJk (And.intro hAo (And.intro hpre hgm)))))
      have q2 : wr.cell? ⟨sp, 0, none⟩ = some (.slice (some ⟨bg, og, none⟩) G.length cg) := by simp [World.cell?, hset.row]
      have l2 := cell_lt q2
      have l3 := cell_lt hb
      simp only at l2 l3
      clear hsu hset hJk hAo hpre hgm hA hJ0 hset0 hrow0 q0 q1 l0 l1 hbs hag
      generalize G[k] = g at x0 x1 x2 x3 x4 x5 hgw HS
      obtain ⟨O, hOeq⟩ : ∃ O, O = O0 ++ pre := ⟨_, rfl⟩
      rw [← hOeq] at HS hOw
      have HO := Lib.hid hOeq
      clear hOeq
      have HQ : Hid (wr.cell? ⟨sp, 1, none⟩ = some (.slice Ao O.length co)) := Lib.hid (by simp [World.cell?, HS.out.2.1.row])
      by_cases hty : g.ty ≤ 1
      · gi_wp2_with (refine ⟨trivial, ?_⟩; gi_at_call 59; refine (callsIn_wide.2 (bare_any g _)).mono ?_; rintro e w1 ⟨rfl, hE1⟩; have hr4 := (hE1.block _ (by simp)).trans (heap_alloc_new wr _); have E1 : Ext wr w1 := (Ext.alloc (Below.refl _ wr) _).then hE1; obtain ⟨y0, y1, y2, y3, y4, y5⟩ := lie6' hr4 (Below.refl _ w1); have hl4 := cell_lt y0; simp only at hl4; have hb1 := ext_cell E1 _ _ hb; have l4 := cell_lt hb1; simp only at l4)
        refine ⟨trivial, ?_⟩
        gi_wp2
        obtain ⟨U5, hU5⟩ : ∃ U5, U5 = w1.alloc (.cells (bareC g).cells.toArray 24) := ⟨_, rfl⟩
        have H5 : Hid (Ext wr U5 ∧ U5.heap[w1.heap.size]? = some (.cells (bareC g).cells.toArray 24)) := Lib.hid ⟨by rw [hU5]; exact Ext.alloc E1 _, by rw [hU5]; exact heap_alloc_new w1 _⟩
        rw [← hU5]
        clear hU5 y0 y1 y2 y3 y4 y5 hr4 hl4 hb1 l4 x0 x1 x2 x3 x4 x5 q2 l2 l3
        obtain ⟨z0, z1, z2, z3, z4, z5⟩ := lie6' H5.out.2 (Below.refl _ U5)
        have b5 := ext_cell H5.out.1 _ _ hb
        have q5 := ext_cell H5.out.1 _ _ HQ.out
        have l5 := cell_lt z0
        have l6 := cell_lt b5
        have l7 := cell_lt q5
        simp only at l5 l6 l7
        have hmay : (decide (g.ty ≤ 1) || authL O g.ty 64) = true := by simp [hty]
        cases hcn : (O.any fun x => decide (bareC g = x)) with
        | true =>
          have hop : opensB O g = false := by unfold opensB; rw [any_contains, hcn]; simp
          first | (gi_region_with_o (first | (refine ⟨trivial, ?_⟩; gi_at_call 60; refine (callsIn_wide.2 (containsC Ao co O (bareC g) _ (HS.out.2.2.2.1.ext (Ext.drew H5.out.1)) (Nat.le_trans hOw.2 (by decide)))).mono ?_; rw [hcn]; rintro e w3 ⟨rfl, hE3⟩) | (refine ⟨fun _ h => (by cases h), ?_⟩))) | fail
          all_goals gi_wp2
          all_goals exact ⟨⟨k + 1, pre, by omega, by go_num, abides_ext HJ.out HS.out.2.2.1 ((Ext.drew H5.out.1).then hE3), by rw [HS.out.1]; unfold openStep; rw [hop, ← HO.out]; rfl⟩, by simp [intOf]; omega⟩
        | false =>
          have hop : opensB O g = true := by unfold opensB; rw [any_contains, hcn, hmay]; rfl
          first | (gi_region_with_o (first | (refine ⟨trivial, ?_⟩; gi_at_call 60; refine (callsIn_wide.2 (containsC Ao co O (bareC g) _ (HS.out.2.2.2.1.ext (Ext.drew H5.out.1)) (Nat.le_trans hOw.2 (by decide)))).mono ?_; rw [hcn]; rintro e w3 ⟨rfl, hE3⟩; obtain ⟨fn, tmps, assign, body, hy, hR⟩ := HY.out pre (bareC g) w3 (abides_ext HJ.out HS.out.2.2.1 ((Ext.drew H5.out.1).then hE3)) ⟨g, HS.out.2.2.2.2.2, (by rw [← HO.out]; exact hop), rfl⟩; (try dsimp only at hy); obtain ⟨z0, z1, z2, z3, z4, z5⟩ := lie6' H5.out.2 ((Ext.drew (Below.refl _ U5)).then hE3); have hl9 := cell_lt z0; simp only at hl9) | (refine hR.mono ?_; rintro e w4 ⟨rfl, hJ4⟩))) | fail
          all_goals gi_wp2
          all_goals exact ⟨⟨k + 1, pre ++ [bareC g], by omega, by go_num, hJ4, by rw [HS.out.1]; unfold openStep; rw [hop, ← List.append_assoc, ← HO.out]; rfl⟩, by simp [intOf]; omega⟩
      · cases hau : authL O g.ty 64 with
        | false =>
          gi_wp2_with (first | (refine ⟨trivial, ?_⟩; gi_at_call 59; refine (callsIn_wide.2 (bare_any g _)).mono ?_; rintro e w1 ⟨rfl, hE1⟩; have hr4 := (hE1.block _ (by simp)).trans (heap_alloc_new wr _); have E1 : Ext wr w1 := (Ext.alloc (Below.refl _ wr) _).then hE1; obtain ⟨y0, y1, y2, y3, y4, y5⟩ := lie6' hr4 (Below.refl _ w1); have hl4 := cell_lt y0; simp only at hl4; have hb1 := ext_cell E1 _ _ hb; have l4 := cell_lt hb1; simp only at l4) | (refine ⟨trivial, ?_⟩; gi_at_call 33; refine (callsIn_wide.2 (authority_any sp Ao co O g.ty 64 _ (ext_cell (Ext.alloc E1 _) _ _ HQ.out) (HS.out.2.2.2.1.ext (Ext.alloc E1 _)) (Nat.le_trans hOw.2 (by decide)) hOw.1 (by unfold i64ok'; omega))).mono ?_; rw [hau]; rintro e w2 ⟨rfl, hE2⟩))
          have E5 : Ext wr w2 := (Ext.alloc E1 _).then hE2
          have hop : opensB O g = false := by unfold opensB; rw [hau, decide_eq_false (by omega : ¬ g.ty ≤ 1)]; rfl
          first | (gi_region_with_o (first | (refine ⟨trivial, ?_⟩) | (refine ⟨fun _ h => (by cases h), ?_⟩))) | fail
          all_goals gi_wp2
          all_goals exact ⟨⟨k + 1, pre, by omega, by go_num, abides_ext HJ.out HS.out.2.2.1 (Ext.drew E5), by rw [HS.out.1]; unfold openStep; rw [hop, ← HO.out]; rfl⟩, by simp [intOf]; omega⟩
        | true =>
          gi_wp2_with (first | (refine ⟨trivial, ?_⟩; gi_at_call 59; refine (callsIn_wide.2 (bare_any g _)).mono ?_; rintro e w1 ⟨rfl, hE1⟩; have hr4 := (hE1.block _ (by simp)).trans (heap_alloc_new wr _); have E1 : Ext wr w1 := (Ext.alloc (Below.refl _ wr) _).then hE1; obtain ⟨y0, y1, y2, y3, y4, y5⟩ := lie6' hr4 (Below.refl _ w1); have hl4 := cell_lt y0; simp only at hl4; have hb1 := ext_cell E1 _ _ hb; have l4 := cell_lt hb1; simp only at l4) | (refine ⟨trivial, ?_⟩; gi_at_call 33; refine (callsIn_wide.2 (authority_any sp Ao co O g.ty 64 _ (ext_cell (Ext.alloc E1 _) _ _ HQ.out) (HS.out.2.2.2.1.ext (Ext.alloc E1 _)) (Nat.le_trans hOw.2 (by decide)) hOw.1 (by unfold i64ok'; omega))).mono ?_; rw [hau]; rintro e w2 ⟨rfl, hE2⟩))
          have H5 : Hid (Ext wr w2 ∧ w2.heap[w1.heap.size]? = some (.cells (bareC g).cells.toArray 24)) := Lib.hid ⟨(Ext.alloc E1 _).then hE2, (hE2.block _ (by simp)).trans (heap_alloc_new w1 _)⟩
          clear hE2 y0 y1 y2 y3 y4 y5 hr4 hl4 hb1 l4 x0 x1 x2 x3 x4 x5 q2 l2 l3
          obtain ⟨z0, z1, z2, z3, z4, z5⟩ := lie6' H5.out.2 (Below.refl _ w2)
          have b5 := ext_cell H5.out.1 _ _ hb
          have q5 := ext_cell H5.out.1 _ _ HQ.out
          have l5 := cell_lt z0
          have l6 := cell_lt b5
          have l7 := cell_lt q5
          simp only at l5 l6 l7
          have hmay : (decide (g.ty ≤ 1) || authL O g.ty 64) = true := by simp [hau]
          cases hcn : (O.any fun x => decide (bareC g = x)) with
          | true =>
            have hop : opensB O g = false := by unfold opensB; rw [any_contains, hcn]; simp
            first | (gi_region_with_o (first | (refine ⟨trivial, ?_⟩; gi_at_call 60; refine (callsIn_wide.2 (containsC Ao co O (bareC g) _ (HS.out.2.2.2.1.ext (Ext.drew H5.out.1)) (Nat.le_trans hOw.2 (by decide)))).mono ?_; rw [hcn]; rintro e w3 ⟨rfl, hE3⟩) | (refine ⟨fun _ h => (by cases h), ?_⟩))) | fail
            all_goals gi_wp2
            all_goals exact ⟨⟨k + 1, pre, by omega, by go_num, abides_ext HJ.out HS.out.2.2.1 ((Ext.drew H5.out.1).then hE3), by rw [HS.out.1]; unfold openStep; rw [hop, ← HO.out]; rfl⟩, by simp [intOf]; omega⟩
          | false =>
            have hop : opensB O g = true := by unfold opensB; rw [any_contains, hcn, hmay]; rfl
            first | (gi_region_with_o (first | (refine ⟨trivial, ?_⟩; gi_at_call 60; refine (callsIn_wide.2 (containsC Ao co O (bareC g) _ (HS.out.2.2.2.1.ext (Ext.drew H5.out.1)) (Nat.le_trans hOw.2 (by decide)))).mono ?_; rw [hcn]; rintro e w3 ⟨rfl, hE3⟩; obtain ⟨fn, tmps, assign, body, hy, hR⟩ := HY.out pre (bareC g) w3 (abides_ext HJ.out HS.out.2.2.1 ((Ext.drew H5.out.1).then hE3)) ⟨g, HS.out.2.2.2.2.2, (by rw [← HO.out]; exact hop), rfl⟩; (try dsimp only at hy); obtain ⟨z0, z1, z2, z3, z4, z5⟩ := lie6' H5.out.2 ((Ext.drew (Below.refl _ w2)).then hE3); have hl9 := cell_lt z0; simp only at hl9) | (refine hR.mono ?_; rintro e w4 ⟨rfl, hJ4⟩))) | fail
            all_goals gi_wp2
            all_goals exact ⟨⟨k + 1, pre ++ [bareC g], by omega, by go_num, hJ4, by rw [HS.out.1]; unfold openStep; rw [hop, ← List.append_assoc, ← HO.out]; rfl⟩, by simp [intOf]; omega⟩
    · obtain rfl : k = G.length := by omega
      rw [List.take_length] at hpre
      gi_wp2
      go_end0
      exact ⟨⟨_, rfl⟩, pre, hpre, hJk⟩
end Go.Proofs.Ytalndcjbnedigaa


/- Package heap: New. -/
import Derived.Test.YtpjlhkepdiajjaaHeapP
import Derived.Test.YtpjlhkepdiajjaaPhi3
import Derived.Test.YtpjlhkepdiajjaaPhiR
set_option linter.all false
namespace Go.Proofs.Ytpjlhkepdiajjaa
open Go.RowKit Go.Shelf
attribute [local go_sem] seen dstOf boolOf

/-- A heap at first. -/
def startD (root : Cap) (full : Int) (G : Nat) (ws : List Nat) : HeapD := ⟨root, full, 0, startR root.base root.top, [], [], G, ws⟩
/-- May one be? -/
def newOk (root : Cap) (full : Int) : Prop := mayBe root.base root.top ∧ 1 ≤ full ∧ full ≤ 16777216 ∧ rightC root = true ∧ root.tag = true ∧ root.ty = 0
set_option maxHeartbeats 2000000 in
set_option maxRecDepth 40000 in
theorem newH_yes (root : Cap) (s wb G : Nat) (ws : List Nat) (full : Int) (w : World) (hS : ShadAt w s wb G ws) (hw : CapWf root) (ok : newOk root full) : Calls Try.prog 11 #[root.val, .pointer (some ⟨s, 0, none⟩), .int .i64 full] w fun e w' => Ext w w' ∧ ∃ hp B, e = .returned (.pointer (some ⟨hp, 0, none⟩)) ∧ HeapAt w' hp B (startD root full G ws) ∧ B.s = s ∧ B.wb = wb ∧ (∀ N, N ≤ w.heap.size → N ≤ wb → B.fresh N) := by
  obtain ⟨o1, o2, o3, o4, o5, o6⟩ := ok
  have HE := Lib.hid (new_yes root.base root.top (w.alloc (.cells root.cells.toArray 27)) o1)
  have HC := Lib.hid (fun W => capRight_any root W hw)
  obtain ⟨tg, bs, tp, at', pe, ty⟩ := root
  simp only at o4 o5 o6
  subst o5 o6
  have HO := Lib.hid (And.intro hS (And.intro o4 (And.intro o2 o3)))
  clear hS o4 o2 o3 o1
  go_enter Try.func11, Try.ntmps11
  go_wp2_with fail
  refine HE.out.mono ?_
  rintro _ w1 ⟨hE, p, v, rfl, hF⟩
  have H1 := Lib.hid (And.intro hE hF)
  have hbx := (hE.block w.heap.size (by simp)).trans (heap_alloc_new w _)
  have HB := Lib.hid hbx
  clear hE hF hbx
  go_wp2_with fail
  refine (newQ_any full w1).mono ?_
  rintro _ w2 (⟨hb, -⟩ | ⟨-, rfl, hw2⟩)
  · have := HO.out.2.2; omega
  have e2 : Ext w1 w2 := by rw [hw2]; exact (by repeat first | (with_reducible exact Below.refl _ _) | (with_reducible apply Ext.alloc) | (with_reducible apply Ext.drew) | (with_reducible apply Ext.drewN) | (with_reducible refine Ext.set ?_ (by simp)))
  have hq2 : w2.heap[w1.heap.size]? = some (.cells #[.int .i64 full, .int .i64 0, .slice none 0 0] 96) := by rw [hw2]; exact heap_alloc_new w1 _
  have hb2 := (e2.block _ (Array.getElem?_eq_some_iff.1 HB.out).1).trans HB.out
  obtain ⟨y0, y1, y2, y3, y4, y5⟩ := lie6' hb2 (Below.refl _ w2)
  have hl2 := cell_lt y0
  simp only at hl2
  have H2 := Lib.hid (And.intro e2 (And.intro hq2 hb2))
  clear e2 hq2 hb2 hw2
  go_wp2_with fail
  refine (HC.out _).mono ?_
  rw [HO.out.2.1]
  rintro _ w3 ⟨rfl, e3⟩
  obtain ⟨y0, y1, y2, y3, y4, y5⟩ := lie6' H2.out.2.2 e3
  have hl3 := cell_lt y0
  simp only at hl3
  have H3 := Lib.hid e3
  clear e3
  go_wp2_with fail
  have hmm := @run_makeMap Try.prog
  have hsz3 : w.heap.size ≤ w3.heap.size := ((((Ext.alloc (Below.refl _ _) _).then H1.out.1).then H2.out.1).then H3.out).size
  have hb3 := (H3.out.block _ (Array.getElem?_eq_some_iff.1 H2.out.2.2).1).trans H2.out.2.2
  have HB3 := Lib.hid hb3
  clear hb3
  refine wp_region_res (Ext) [⟨none, [], [0]⟩, ⟨some 3, [(3, [])], []⟩, ⟨some 6, [(6, [])], []⟩, ⟨some 4, [(4, [])], []⟩, ⟨some 7, [(7, [])], []⟩, ⟨some 8, [(8, [])], []⟩, ⟨some 9, [(9, [])], []⟩] [(fun (u : Nat → Value) (W : World) => (fun (_ : Value) (W : World) => W.heap[w.heap.size]? = some (.cells #[.bool true, .int .i64 bs, .int .i64 tp, .int .i64 at', .int .i64 pe, .int .i64 0] 27)) (undef) W), (fun (u : Nat → Value) (W : World) => (fun (v : Value) (W : World) => ∃ c, v = .pointer (some ⟨c, 0, none⟩) ∧ ClockAt W c 0 ∧ w.heap.size ≤ c) (u 3) W), (fun (u : Nat → Value) (W : World) => (fun (v : Value) (W : World) => ∃ m, v = .map (some m) ∧ LiveAt W m [] ∧ w.heap.size ≤ m) (u 6) W), (fun (u : Nat → Value) (W : World) => (fun (v : Value) (W : World) => ∃ c, v = .agg #[.pointer (some ⟨c, 0, none⟩)] ∧ ClockAt W c 0 ∧ w.heap.size ≤ c) (u 4) W), (fun (u : Nat → Value) (W : World) => (fun (v : Value) (W : World) => ∃ c m, v = .agg #[.bool true, .int .i64 bs, .int .i64 tp, .int .i64 at', .int .i64 pe, .int .i64 0, .pointer (some ⟨p, 0, none⟩), .pointer (some ⟨s, 0, none⟩), .pointer (some ⟨c, 0, none⟩), .pointer (some ⟨w1.heap.size, 0, none⟩), .map (some m)] ∧ ClockAt W c 0 ∧ LiveAt W m [] ∧ w.heap.size ≤ c ∧ w.heap.size ≤ m) (u 7) W), (fun (u : Nat → Value) (W : World) => (fun (v : Value) (W : World) => ∃ hp c m, v = .pointer (some ⟨hp, 0, none⟩) ∧ W.heap[hp]? = some (.cells #[.bool true, .int .i64 bs, .int .i64 tp, .int .i64 at', .int .i64 pe, .int .i64 0, .pointer (some ⟨p, 0, none⟩), .pointer (some ⟨s, 0, none⟩), .pointer (some ⟨c, 0, none⟩), .pointer (some ⟨w1.heap.size, 0, none⟩), .map (some m)] 59) ∧ ClockAt W c 0 ∧ LiveAt W m [] ∧ w.heap.size ≤ c ∧ w.heap.size ≤ m) (u 8) W), (fun (u : Nat → Value) (W : World) => (fun (v : Value) (W : World) => ∃ hp c m, v = .pointer (some ⟨hp, 0, none⟩) ∧ W.heap[hp]? = some (.cells #[.bool true, .int .i64 bs, .int .i64 tp, .int .i64 at', .int .i64 pe, .int .i64 0, .pointer (some ⟨p, 0, none⟩), .pointer (some ⟨s, 0, none⟩), .pointer (some ⟨c, 0, none⟩), .pointer (some ⟨w1.heap.size, 0, none⟩), .map (some m)] 59) ∧ ClockAt W c 0 ∧ LiveAt W m [] ∧ w.heap.size ≤ c ∧ w.heap.size ≤ m) (u 9) W)] [⟨[(0, [])], [.late [[]], .keep, .keep, .keep, .early [0], .early [7, 0], .early [0]]⟩, ⟨[], [.keep, .keep, .keep, .keep, .early [1], .early [7, 1], .early [1]]⟩, ⟨[], [.keep, .keep, .keep, .keep, .early [2], .early [7, 2], .early [2]]⟩, ⟨[], [.keep, .last, .keep, .early [3], .early [4, 3], .early [7, 4, 3], .early [3]]⟩, ⟨[(1, [3])], [.keep, .keep, .keep, .last, .early [4], .early [7, 4], .early [4]]⟩, ⟨[], [.keep, .keep, .keep, .keep, .early [5], .early [7, 5], .early [5]]⟩, ⟨[], [.keep, .keep, .last, .keep, .early [6], .early [7, 6], .early [6]]⟩, ⟨[(1, [4, 3]), (2, [6]), (3, [4])], [.late [[0]], .keep, .keep, .keep, .last, .early [7], .early [7]]⟩, ⟨[(1, [7, 4, 3]), (2, [7, 6]), (3, [7, 4]), (4, [7])], [.late [[7, 0]], .keep, .keep, .keep, .keep, .last, .early [8]]⟩, ⟨[(1, [3]), (2, [6]), (3, [4]), (4, [7]), (5, [8])], [.late [[0]], .keep, .keep, .keep, .keep, .keep, .last]⟩] [37, 38, 39, 40, 41, 42, 43, 44, 45, 6] (by kernel_rfl) (fun _ => Below.refl _ _) (fun _ _ _ => Ext.then) (by kernel_rfl) (by kernel_rfl) (by kernel_rfl) (by kernel_rfl) (by kernel_rfl) ?start ?_
  case start =>
    refine And.intro ?_ ?_
    · exact HB3.out
    exact trivial
  apply ex_is; apply Exists.intro
  apply ex_is; apply Exists.intro
  apply ex_is; apply Exists.intro
  refine ex_phi (fun _ _ => True) ?_
  refine ex_phi (fun _ _ => True) ?_
  apply ex_is; apply Exists.intro
  refine ex_phi (fun _ _ => True) ?_
  refine ex_phi (fun _ _ => True) ?_
  refine ex_phi (fun _ _ => True) ?_
  refine ex_phi (fun _ _ => True) ?_
  refine ⟨[], ⟨?steps, ?stab, ?ends⟩⟩
  case steps =>
    refine And.intro (obX_pure (fun _ => Below.refl _ _) ?_) ?_
    · intro act W hR hf ho hu K hK
      replace hR := ext_drew hR
      replace hK := fun v h2 => hK v W rfl h2 trivial
      have G : act.tmps[3]?.getD undef = _ ∧ True := ho
      obtain ⟨g3, -⟩ := G
      have U : (fun (_ : Value) (W : World) => W.heap[w.heap.size]? = some (.cells #[.bool true, .int .i64 bs, .int .i64 tp, .int .i64 at', .int .i64 pe, .int .i64 0] 27)) (undef) W ∧ True := hu
      obtain ⟨r_cap, -⟩ := U
      clear ho hf hu
      obtain ⟨z0, z1, z2, z3, z4, z5⟩ := lie6' r_cap (Below.refl _ W)
      go_simp
      exact hK _ (Eq.refl _)
    refine And.intro (obX_pure (fun _ => Below.refl _ _) ?_) ?_
    · intro act W hR hf ho hu K hK
      replace hR := ext_drew hR
      replace hK := fun v h2 => hK v W rfl h2 trivial
      have G : act.tmps[7]?.getD undef = _ ∧ True := ho
      obtain ⟨g7, -⟩ := G
      clear ho hf hu
      go_simp
      exact hK _ (Eq.refl _)
    refine And.intro (obX_pure (fun _ => Below.refl _ _) ?_) ?_
    · intro act W hR hf ho hu K hK
      replace hR := ext_drew hR
      replace hK := fun v h2 => hK v W rfl h2 trivial
      have G : act.tmps[1]?.getD undef = _ ∧ True := ho
      obtain ⟨g1, -⟩ := G
      clear ho hf hu
      go_simp
      exact hK _ (Eq.refl _)
    refine And.intro (obX_eff (Ext) (fun _ _ h => h) (And.intro (fun _ _ _ h e => (e.block _ (Array.getElem?_eq_some_iff.1 h).1).trans h) (And.intro (fun _ _ _ h e => h.elim fun m hm => ⟨m, hm.1, hm.2.1.ext e, hm.2.2⟩) (trivial))) ?_) ?_
    · intro act W hR hf ho hu K hK
      replace hR := ext_drew hR
      replace hK := fun v (w' : World) (h1 : (Ext) W w') (b1 : (fun (v : Value) (W : World) => ∃ c, v = .pointer (some ⟨c, 0, none⟩) ∧ ClockAt W c 0 ∧ w.heap.size ≤ c) (v) w') => hK v w' h1 trivial ⟨b1, trivial⟩
      clear ho hf hu
      go_simp
      refine (newC_any W).mono ?_; rintro e W1 ⟨rfl, rfl⟩; exact hK _ _ (by repeat first | (with_reducible exact Below.refl _ _) | (with_reducible apply Ext.alloc) | (with_reducible apply Ext.drew) | (with_reducible apply Ext.drewN) | (with_reducible refine Ext.set ?_ (by simp))) ⟨_, rfl, heap_alloc_new W _, Nat.le_trans hsz3 hR.size⟩
    refine And.intro (obX_pure (fun _ => Below.refl _ _) ?_) ?_
    · intro act W hR hf ho hu K hK
      replace hR := ext_drew hR
      replace hK := fun v (b3 : (fun (v : Value) (W : World) => ∃ c, v = .agg #[.pointer (some ⟨c, 0, none⟩)] ∧ ClockAt W c 0 ∧ w.heap.size ≤ c) (v) W) => hK v W rfl trivial ⟨b3, trivial⟩
      have F : (fun _ _ => True) (act.tmps[40]?.getD undef) W ∧ True := hf
      obtain ⟨-, -⟩ := F
      have U : (fun (v : Value) (W : World) => ∃ c, v = .pointer (some ⟨c, 0, none⟩) ∧ ClockAt W c 0 ∧ w.heap.size ≤ c) (act.tmps[40]?.getD undef) W ∧ True := hu
      obtain ⟨r_clk, -⟩ := U
      generalize f3 : act.tmps[40]?.getD undef = v3 at r_clk
      clear ho hf hu
      obtain ⟨c, rfl, hc⟩ := r_clk
      go_simp
      exact hK _ ⟨_, rfl, hc⟩
    refine And.intro (obX_pure (fun _ => Below.refl _ _) ?_) ?_
    · intro act W hR hf ho hu K hK
      replace hR := ext_drew hR
      replace hK := fun v h2 => hK v W rfl h2 trivial
      have G : act.tmps[8]?.getD undef = _ ∧ True := ho
      obtain ⟨g8, -⟩ := G
      clear ho hf hu
      go_simp
      exact hK _ (Eq.refl _)
    refine And.intro (obX_eff (Ext) (fun _ _ h => h) (And.intro (fun _ _ _ h e => (e.block _ (Array.getElem?_eq_some_iff.1 h).1).trans h) (And.intro (fun _ _ _ h e => h.elim fun c hc => ⟨c, hc.1, (e.block _ (Array.getElem?_eq_some_iff.1 hc.2.1).1).trans hc.2.1, hc.2.2⟩) (And.intro (fun _ _ _ h e => h.elim fun c hc => ⟨c, hc.1, (e.block _ (Array.getElem?_eq_some_iff.1 hc.2.1).1).trans hc.2.1, hc.2.2⟩) (trivial)))) ?_) ?_
    · intro act W hR hf ho hu K hK
      replace hR := ext_drew hR
      replace hK := fun v (w' : World) (h1 : (Ext) W w') (b2 : (fun (v : Value) (W : World) => ∃ m, v = .map (some m) ∧ LiveAt W m [] ∧ w.heap.size ≤ m) (v) w') => hK v w' h1 trivial ⟨b2, trivial⟩
      clear ho hf hu
      go_simp
      exact hK _ _ (by repeat first | (with_reducible exact Below.refl _ _) | (with_reducible apply Ext.alloc) | (with_reducible apply Ext.drew) | (with_reducible apply Ext.drewN) | (with_reducible refine Ext.set ?_ (by simp))) ⟨_, rfl, LiveAt.made W, Nat.le_trans hsz3 hR.size⟩
    refine And.intro (obX_pure (fun _ => Below.refl _ _) ?_) ?_
    · intro act W hR hf ho hu K hK
      replace hR := ext_drew hR
      replace hK := fun v (b4 : (fun (v : Value) (W : World) => ∃ c m, v = .agg #[.bool true, .int .i64 bs, .int .i64 tp, .int .i64 at', .int .i64 pe, .int .i64 0, .pointer (some ⟨p, 0, none⟩), .pointer (some ⟨s, 0, none⟩), .pointer (some ⟨c, 0, none⟩), .pointer (some ⟨w1.heap.size, 0, none⟩), .map (some m)] ∧ ClockAt W c 0 ∧ LiveAt W m [] ∧ w.heap.size ≤ c ∧ w.heap.size ≤ m) (v) W) => hK v W rfl trivial ⟨b4, trivial⟩
      have F : act.tmps[37]?.getD undef = _ ∧ act.tmps[38]?.getD undef = _ ∧ act.tmps[39]?.getD undef = _ ∧ (fun _ _ => True) (act.tmps[41]?.getD undef) W ∧ act.tmps[42]?.getD undef = _ ∧ (fun _ _ => True) (act.tmps[43]?.getD undef) W ∧ True := hf
      obtain ⟨f0, f1, f2, -, f5, -, -⟩ := F
      have U : (fun (v : Value) (W : World) => ∃ c, v = .pointer (some ⟨c, 0, none⟩) ∧ ClockAt W c 0 ∧ w.heap.size ≤ c) (act.tmps[40]?.getD undef) W ∧ (fun (v : Value) (W : World) => ∃ m, v = .map (some m) ∧ LiveAt W m [] ∧ w.heap.size ≤ m) (act.tmps[43]?.getD undef) W ∧ (fun (v : Value) (W : World) => ∃ c, v = .agg #[.pointer (some ⟨c, 0, none⟩)] ∧ ClockAt W c 0 ∧ w.heap.size ≤ c) (act.tmps[41]?.getD undef) W ∧ True := hu
      obtain ⟨r_clk, r_mp, r_b4, -⟩ := U
      generalize f4 : act.tmps[41]?.getD undef = v4 at r_b4
      generalize f6 : act.tmps[43]?.getD undef = v6 at r_mp
      generalize f3 : act.tmps[40]?.getD undef = v3 at r_clk
      clear ho hf hu
      obtain ⟨c, rfl, hc, hc'⟩ := r_b4; obtain ⟨m, rfl, hm, hm'⟩ := r_mp
      go_simp
      exact hK _ ⟨_, _, rfl, hc, hm, hc', hm'⟩
    refine And.intro (obX_eff (Ext) (fun _ _ h => h) (And.intro (fun _ _ _ h e => h.elim fun c hc => ⟨c, hc.1, (e.block _ (Array.getElem?_eq_some_iff.1 hc.2.1).1).trans hc.2.1, hc.2.2⟩) (And.intro (fun _ _ _ h e => h.elim fun m hm => ⟨m, hm.1, hm.2.1.ext e, hm.2.2⟩) (And.intro (fun _ _ _ h e => h.elim fun c hc => ⟨c, hc.1, (e.block _ (Array.getElem?_eq_some_iff.1 hc.2.1).1).trans hc.2.1, hc.2.2⟩) (And.intro (fun _ _ _ h e => h.elim fun c h => h.elim fun m hm => ⟨c, m, hm.1, (e.block _ (Array.getElem?_eq_some_iff.1 hm.2.1).1).trans hm.2.1, hm.2.2.1.ext e, hm.2.2.2⟩) (trivial))))) ?_) ?_
    · intro act W hR hf ho hu K hK
      replace hR := ext_drew hR
      replace hK := fun v (w' : World) (h1 : (Ext) W w') (b5 : (fun (v : Value) (W : World) => ∃ hp c m, v = .pointer (some ⟨hp, 0, none⟩) ∧ W.heap[hp]? = some (.cells #[.bool true, .int .i64 bs, .int .i64 tp, .int .i64 at', .int .i64 pe, .int .i64 0, .pointer (some ⟨p, 0, none⟩), .pointer (some ⟨s, 0, none⟩), .pointer (some ⟨c, 0, none⟩), .pointer (some ⟨w1.heap.size, 0, none⟩), .map (some m)] 59) ∧ ClockAt W c 0 ∧ LiveAt W m [] ∧ w.heap.size ≤ c ∧ w.heap.size ≤ m) (v) w') => hK v w' h1 trivial ⟨b5, trivial⟩
      have F : (fun _ _ => True) (act.tmps[44]?.getD undef) W ∧ True := hf
      obtain ⟨-, -⟩ := F
      have U : (fun (v : Value) (W : World) => ∃ c, v = .pointer (some ⟨c, 0, none⟩) ∧ ClockAt W c 0 ∧ w.heap.size ≤ c) (act.tmps[40]?.getD undef) W ∧ (fun (v : Value) (W : World) => ∃ m, v = .map (some m) ∧ LiveAt W m [] ∧ w.heap.size ≤ m) (act.tmps[43]?.getD undef) W ∧ (fun (v : Value) (W : World) => ∃ c, v = .agg #[.pointer (some ⟨c, 0, none⟩)] ∧ ClockAt W c 0 ∧ w.heap.size ≤ c) (act.tmps[41]?.getD undef) W ∧ (fun (v : Value) (W : World) => ∃ c m, v = .agg #[.bool true, .int .i64 bs, .int .i64 tp, .int .i64 at', .int .i64 pe, .int .i64 0, .pointer (some ⟨p, 0, none⟩), .pointer (some ⟨s, 0, none⟩), .pointer (some ⟨c, 0, none⟩), .pointer (some ⟨w1.heap.size, 0, none⟩), .map (some m)] ∧ ClockAt W c 0 ∧ LiveAt W m [] ∧ w.heap.size ≤ c ∧ w.heap.size ≤ m) (act.tmps[44]?.getD undef) W ∧ True := hu
      obtain ⟨r_clk, r_mp, r_b4, r_b7, -⟩ := U
      generalize f7 : act.tmps[44]?.getD undef = v7 at r_b7
      generalize f3 : act.tmps[40]?.getD undef = v3 at r_clk
      generalize f6 : act.tmps[43]?.getD undef = v6 at r_mp
      generalize f4 : act.tmps[41]?.getD undef = v4 at r_b4
      clear ho hf hu
      obtain ⟨c, m, rfl, hc, hm, hcm⟩ := r_b7
      go_simp
      exact hK _ _ (by repeat first | (with_reducible exact Below.refl _ _) | (with_reducible apply Ext.alloc) | (with_reducible apply Ext.drew) | (with_reducible apply Ext.drewN) | (with_reducible refine Ext.set ?_ (by simp))) ⟨_, _, _, rfl, heap_alloc_new W _, (Below.heap_alloc _ _ _ (Array.getElem?_eq_some_iff.1 hc).1).trans hc, hm.ext (by repeat first | (with_reducible exact Below.refl _ _) | (with_reducible apply Ext.alloc) | (with_reducible apply Ext.drew) | (with_reducible apply Ext.drewN) | (with_reducible refine Ext.set ?_ (by simp))), hcm⟩
    refine And.intro (obX_pure (fun _ => Below.refl _ _) ?_) ?_
    · intro act W hR hf ho hu K hK
      replace hR := ext_drew hR
      replace hK := fun v (b6 : (fun (v : Value) (W : World) => ∃ hp c m, v = .pointer (some ⟨hp, 0, none⟩) ∧ W.heap[hp]? = some (.cells #[.bool true, .int .i64 bs, .int .i64 tp, .int .i64 at', .int .i64 pe, .int .i64 0, .pointer (some ⟨p, 0, none⟩), .pointer (some ⟨s, 0, none⟩), .pointer (some ⟨c, 0, none⟩), .pointer (some ⟨w1.heap.size, 0, none⟩), .map (some m)] 59) ∧ ClockAt W c 0 ∧ LiveAt W m [] ∧ w.heap.size ≤ c ∧ w.heap.size ≤ m) (v) W) => hK v W rfl trivial ⟨b6, trivial⟩
      have F : (fun _ _ => True) (act.tmps[45]?.getD undef) W ∧ (fun _ _ => True) (act.tmps[40]?.getD undef) W ∧ act.tmps[37]?.getD undef = _ ∧ act.tmps[38]?.getD undef = _ ∧ act.tmps[39]?.getD undef = _ ∧ (fun _ _ => True) (act.tmps[40]?.getD undef) W ∧ (fun _ _ => True) (act.tmps[41]?.getD undef) W ∧ act.tmps[42]?.getD undef = _ ∧ (fun _ _ => True) (act.tmps[43]?.getD undef) W ∧ (fun _ _ => True) (act.tmps[44]?.getD undef) W ∧ (fun _ _ => True) (act.tmps[45]?.getD undef) W ∧ True := hf
      obtain ⟨-, -, f0, f1, f2, -, -, f5, -, -, -, -⟩ := F
      have U : (fun (v : Value) (W : World) => ∃ c, v = .pointer (some ⟨c, 0, none⟩) ∧ ClockAt W c 0 ∧ w.heap.size ≤ c) (act.tmps[40]?.getD undef) W ∧ (fun (v : Value) (W : World) => ∃ m, v = .map (some m) ∧ LiveAt W m [] ∧ w.heap.size ≤ m) (act.tmps[43]?.getD undef) W ∧ (fun (v : Value) (W : World) => ∃ c, v = .agg #[.pointer (some ⟨c, 0, none⟩)] ∧ ClockAt W c 0 ∧ w.heap.size ≤ c) (act.tmps[41]?.getD undef) W ∧ (fun (v : Value) (W : World) => ∃ c m, v = .agg #[.bool true, .int .i64 bs, .int .i64 tp, .int .i64 at', .int .i64 pe, .int .i64 0, .pointer (some ⟨p, 0, none⟩), .pointer (some ⟨s, 0, none⟩), .pointer (some ⟨c, 0, none⟩), .pointer (some ⟨w1.heap.size, 0, none⟩), .map (some m)] ∧ ClockAt W c 0 ∧ LiveAt W m [] ∧ w.heap.size ≤ c ∧ w.heap.size ≤ m) (act.tmps[44]?.getD undef) W ∧ (fun (v : Value) (W : World) => ∃ hp c m, v = .pointer (some ⟨hp, 0, none⟩) ∧ W.heap[hp]? = some (.cells #[.bool true, .int .i64 bs, .int .i64 tp, .int .i64 at', .int .i64 pe, .int .i64 0, .pointer (some ⟨p, 0, none⟩), .pointer (some ⟨s, 0, none⟩), .pointer (some ⟨c, 0, none⟩), .pointer (some ⟨w1.heap.size, 0, none⟩), .map (some m)] 59) ∧ ClockAt W c 0 ∧ LiveAt W m [] ∧ w.heap.size ≤ c ∧ w.heap.size ≤ m) (act.tmps[45]?.getD undef) W ∧ True := hu
      obtain ⟨r_clk, r_mp, r_b4, r_b7, r_fin, -⟩ := U
      generalize f8 : act.tmps[45]?.getD undef = v8 at r_fin
      generalize f3 : act.tmps[40]?.getD undef = v3 at r_clk
      generalize f4 : act.tmps[41]?.getD undef = v4 at r_b4
      generalize f6 : act.tmps[43]?.getD undef = v6 at r_mp
      generalize f7 : act.tmps[44]?.getD undef = v7 at r_b7
      clear ho hf hu
      obtain ⟨hp, c, m, rfl, q1, q2, q3⟩ := r_fin
      go_simp
      exact hK _ ⟨hp, c, m, rfl, q1, q2, q3⟩
    exact trivial
  case stab =>
    refine And.intro is_stable ?_
    refine And.intro is_stable ?_
    refine And.intro is_stable ?_
    refine And.intro (fun _ _ _ h _ => h) ?_
    refine And.intro (fun _ _ _ h _ => h) ?_
    refine And.intro is_stable ?_
    refine And.intro (fun _ _ _ h _ => h) ?_
    refine And.intro (fun _ _ _ h _ => h) ?_
    refine And.intro (fun _ _ _ h _ => h) ?_
    refine And.intro (fun _ _ _ h _ => h) ?_
    exact trivial
  case ends =>
    intro vals W hR hE hall
    replace hR := ext_drew hR
    have E : (fun (v : Value) (W : World) => ∃ c, v = .pointer (some ⟨c, 0, none⟩) ∧ ClockAt W c 0 ∧ w.heap.size ≤ c) (vals 40) W ∧ (fun (v : Value) (W : World) => ∃ m, v = .map (some m) ∧ LiveAt W m [] ∧ w.heap.size ≤ m) (vals 43) W ∧ (fun (v : Value) (W : World) => ∃ c, v = .agg #[.pointer (some ⟨c, 0, none⟩)] ∧ ClockAt W c 0 ∧ w.heap.size ≤ c) (vals 41) W ∧ (fun (v : Value) (W : World) => ∃ c m, v = .agg #[.bool true, .int .i64 bs, .int .i64 tp, .int .i64 at', .int .i64 pe, .int .i64 0, .pointer (some ⟨p, 0, none⟩), .pointer (some ⟨s, 0, none⟩), .pointer (some ⟨c, 0, none⟩), .pointer (some ⟨w1.heap.size, 0, none⟩), .map (some m)] ∧ ClockAt W c 0 ∧ LiveAt W m [] ∧ w.heap.size ≤ c ∧ w.heap.size ≤ m) (vals 44) W ∧ (fun (v : Value) (W : World) => ∃ hp c m, v = .pointer (some ⟨hp, 0, none⟩) ∧ W.heap[hp]? = some (.cells #[.bool true, .int .i64 bs, .int .i64 tp, .int .i64 at', .int .i64 pe, .int .i64 0, .pointer (some ⟨p, 0, none⟩), .pointer (some ⟨s, 0, none⟩), .pointer (some ⟨c, 0, none⟩), .pointer (some ⟨w1.heap.size, 0, none⟩), .map (some m)] 59) ∧ ClockAt W c 0 ∧ LiveAt W m [] ∧ w.heap.size ≤ c ∧ w.heap.size ≤ m) (vals 45) W ∧ (fun (v : Value) (W : World) => ∃ hp c m, v = .pointer (some ⟨hp, 0, none⟩) ∧ W.heap[hp]? = some (.cells #[.bool true, .int .i64 bs, .int .i64 tp, .int .i64 at', .int .i64 pe, .int .i64 0, .pointer (some ⟨p, 0, none⟩), .pointer (some ⟨s, 0, none⟩), .pointer (some ⟨c, 0, none⟩), .pointer (some ⟨w1.heap.size, 0, none⟩), .map (some m)] 59) ∧ ClockAt W c 0 ∧ LiveAt W m [] ∧ w.heap.size ≤ c ∧ w.heap.size ≤ m) (vals 6) W ∧ True := hE
    obtain ⟨e_clk, e_mp, e_b4, e_b7, e_fin, e_end9, -⟩ := E
    clear hE
    have e6 : (fun _ _ => True) (vals 6) W := hall 9 (by decide)
    clear hall
    generalize ev40 : vals 40 = x40 at e_clk
    generalize ev43 : vals 43 = x43 at e_mp
    generalize ev41 : vals 41 = x41 at e_b4
    generalize ev44 : vals 44 = x44 at e_b7
    generalize ev45 : vals 45 = x45 at e_fin
    generalize ev6 : vals 6 = x6 at e_end9
    simp only [fill, List.setIfInBounds_toArray, List.set_cons_succ, List.set_cons_zero, ev40, ev43, ev41, ev44, ev45, ev6]
    obtain ⟨hp, c, m, hv, q1, q2, q3, q4, q5⟩ := e_end9
    have E1 : Ext w w1 := (Ext.alloc (Below.refl _ _) _).then H1.out.1
    have E3 : Ext w1 W := (H2.out.1.then H3.out).then hR
    have hfin : HeapAt W hp ⟨p, v, _, s, wb, c, w1.heap.size, .slice none 0 0, 0, m⟩ (startD ⟨true, bs, tp, at', pe, 0⟩ full G ws) :=
      ⟨q1, H1.out.2.ext E3, HO.out.1.ext (E1.then E3), q2, ⟨((H3.out.then hR).block _ (Array.getElem?_eq_some_iff.1 H2.out.2.1).1).trans H2.out.2.1, MidRow.nil _ _ _ _⟩, q3, Nat.zero_le _⟩
    have hfr : ∀ N, N ≤ w.heap.size → N ≤ wb → HeapB.fresh ⟨p, v, (w.alloc (.cells #[.bool true, .int .i64 bs, .int .i64 tp, .int .i64 at', .int .i64 pe, .int .i64 0] 27)).heap.size, s, wb, c, w1.heap.size, .slice none 0 0, 0, m⟩ N := fun N hN hwb => by
      have hlw := H1.out.2.low
      have hrw := fun g e => (H1.out.2.row.lt g e).1
      simp only [World.size_alloc] at hlw hrw
      exact ⟨by simp only; omega, fun g e => by have := hrw g e; omega, hwb, Nat.le_trans hN q4, Nat.le_trans hN E1.size, fun g e => by simp [Value.ownBlock] at e, Nat.le_trans hN q5⟩
    have HF := Lib.hid (And.intro hfin (And.intro (E1.then E3) hfr))
    clear hfin E1 E3 q1 q2 q3 hR hfr e_clk e_mp e_b4 e6 ev40 ev43 ev41 ev44 ev45
    subst hv
    go_wp2_with fail
    go_ret
    exact ⟨HF.out.2.1, hp, _, rfl, HF.out.1, rfl, rfl, HF.out.2.2⟩
set_option maxHeartbeats 2000000 in
set_option maxRecDepth 40000 in
theorem newH_no (root : Cap) (s : Nat) (full : Int) (w : World) (hw : CapWf root) (ok : ¬ newOk root full) : Calls Try.prog 11 #[root.val, .pointer (some ⟨s, 0, none⟩), .int .i64 full] w fun e w' => e = .returned (.pointer none) ∧ Ext w w' := by
  obtain ⟨tg, bs, tp, at', pe, ty⟩ := root
  have HC := Lib.hid (fun W => capRight_any ⟨tg, bs, tp, at', pe, ty⟩ W hw)
  have HO := Lib.hid ok
  clear ok
  have key : ∀ pf : Option Addr, (pf = none → ¬ mayBe bs tp) → (pf ≠ none → mayBe bs tp) → Calls Try.prog 27 #[.int .i64 bs, .int .i64 tp] (w.alloc (.cells #[.bool tg, .int .i64 bs, .int .i64 tp, .int .i64 at', .int .i64 pe, .int .i64 ty] 27)) (fun e w' => Ext (w.alloc (.cells #[.bool tg, .int .i64 bs, .int .i64 tp, .int .i64 at', .int .i64 pe, .int .i64 ty] 27)) w' ∧ ∃ pf : Option Addr, e = .returned (.pointer pf) ∧ (pf = none ↔ ¬ mayBe bs tp)) := fun _ _ _ => by
    by_cases hm : mayBe bs tp
    · exact (new_yes bs tp _ hm).mono fun e w' h => ⟨h.1, by obtain ⟨p, v, h1, -⟩ := h.2; exact ⟨_, h1, by simp [hm]⟩⟩
    · exact (new_no bs tp _ hm).mono fun e w' h => ⟨h.2, none, h.1, by simp [hm]⟩
  have HE := Lib.hid (key (if mayBe bs tp then some ⟨0, 0, none⟩ else none) (by split <;> simp_all) (by split <;> simp_all))
  clear key
  go_enter Try.func11, Try.ntmps11
  go_wp2_with fail
  refine HE.out.mono ?_
  rintro _ w1 ⟨hE, pf, rfl, hpf⟩
  have hbx := (hE.block w.heap.size (by simp)).trans (heap_alloc_new w _)
  have HB := Lib.hid (And.intro hE (And.intro hbx hpf))
  clear hE hbx hpf
  go_wp2_with fail
  refine (show Calls Try.prog 28 #[.int .i64 full] w1 (fun e w' => Ext w1 w' ∧ ∃ pq : Option Addr, e = .returned (.pointer pq) ∧ (pq = none ↔ (full < 1 ∨ 16777216 < full))) from (newQ_any full w1).mono fun e w' h => by
    rcases h with ⟨h1, h2, h3⟩ | ⟨h1, h2, h3⟩
    · exact ⟨h3, none, h2, by simp [h1]⟩
    · exact ⟨by rw [h3]; exact (by repeat first | (with_reducible exact Below.refl _ _) | (with_reducible apply Ext.alloc) | (with_reducible apply Ext.drew) | (with_reducible apply Ext.drewN) | (with_reducible refine Ext.set ?_ (by simp))), _, h2, by simp only [reduceCtorEq, false_iff]; exact h1⟩).mono ?_
  rintro _ w2 ⟨e2, pq, rfl, hpq⟩
  have hb2 := (e2.block _ (Array.getElem?_eq_some_iff.1 HB.out.2.1).1).trans HB.out.2.1
  obtain ⟨y0, y1, y2, y3, y4, y5⟩ := lie6' hb2 (Below.refl _ w2)
  have hl2 := cell_lt y0
  simp only at hl2
  have H2 := Lib.hid (And.intro e2 (And.intro hb2 hpq))
  clear e2 hb2 hpq
  go_wp2_with fail
  refine (HC.out _).mono ?_
  rintro _ w3 ⟨rfl, e3⟩
  obtain ⟨y0, y1, y2, y3, y4, y5⟩ := lie6' H2.out.2.1 e3
  have hl3 := cell_lt y0
  simp only at hl3
  have H3 := Lib.hid e3
  clear e3
  have hE : Ext w w3 := (((Ext.alloc (Below.refl _ _) _).then HB.out.1).then H2.out.1).then H3.out
  have HX := Lib.hid hE
  clear hE
  cases hr : rightC ⟨tg, bs, tp, at', pe, ty⟩ with
  | false =>
    go_wp2_with fail
    go_ret
    exact ⟨rfl, HX.out⟩
  | true =>
    cases tg with
    | false =>
      go_wp2_with fail
      go_ret
      exact ⟨rfl, HX.out⟩
    | true =>
      by_cases hty : ty = 0
      · subst hty
        cases pf with
        | none =>
          go_wp2_with fail
          go_ret
          exact ⟨rfl, HX.out⟩
        | some pf =>
          cases pq with
          | none =>
            go_wp2_with fail
            go_ret
            exact ⟨rfl, HX.out⟩
          | some pq =>
            exfalso
            have h1 : mayBe bs tp := by
              have := HB.out.2.2
              simp only [reduceCtorEq, false_iff, Classical.not_not] at this
              exact this
            have h2 : ¬ (full < 1 ∨ 16777216 < full) := by
              have := H2.out.2.2
              simp only [reduceCtorEq, false_iff] at this
              exact this
            exact HO.out ⟨h1, by omega, by omega, hr, rfl, rfl⟩
      · go_wp2_with fail
        go_ret
        exact ⟨rfl, HX.out⟩
end Go.Proofs.Ytpjlhkepdiajjaa


/- seizinref06: New. -/
import Derived.Test.YtalndcjbnedigaaRefT
import Derived.Test.YtalndcjbnedigaaClosC
set_option linter.all false
namespace Go.Proofs.Ytalndcjbnedigaa
open Go.RowKit Go.Shelf
attribute [local go_sem] seen dstOf boolOf

/-- The set as New has it under its hands. -/
structure RefIn (U : World) (sp : Nat) (vg : Value) (G O : List Cap) (W : World) : Prop where
  only : Only sp [24, 53] U W
  set : ∃ vo, RefAt (sp + 1) W sp vg vo G O
theorem RefIn.ext {U W W' : World} {sp : Nat} {vg : Value} {G O : List Cap} (h : RefIn U sp vg G O W) (e : Ext W W') : RefIn U sp vg G O W' := by
  obtain ⟨vo, hs⟩ := h.set
  exact ⟨h.only.then e, vo, hs.ext e⟩
def RNewPost (w : World) (l : List Cap) (e : Ending) (w' : World) : Prop := ∃ sp vg vo G O, e = .returned (.pointer (some ⟨sp, 0, none⟩)) ∧ RefAt w.heap.size w' sp vg vo G O ∧ SetOk l G O ∧ Ext w w'
/-- How many open ones lie. -/
def lenAt (W : World) (sp : Nat) : Nat := match W.heap[sp]? with
  | some (.cells c _ _) => match (c[1]? : Option Value) with
    | some (Value.slice _ n _) => n
    | _ => 0
  | _ => 0
theorem round_same {G O : List Cap} (h : (roundL G O).length = O.length) : roundL G O = O := by
  have hn := (folds_len G O).2 h
  unfold roundL
  clear h
  induction G with
  | nil => rfl
  | cons g G ih =>
    rw [List.foldl_cons]
    have h1 : openStep O g = O := by
      unfold openStep
      rw [hn g (by simp)]
      rfl
    rw [h1]
    exact ih fun x hx => hn x (by simp [hx])
theorem lenAt_of {B : Nat} {W : World} {sp : Nat} {vg vo : Value} {G O : List Cap} (h : RefAt B W sp vg vo G O) : lenAt W sp = O.length := by
  obtain ⟨A, c, rfl, -, -⟩ := Arr.own h.o
  unfold lenAt
  rw [h.row]
  rfl
def moreM (v : Value) (n : Nat) : Nat := match v with
  | .bool true => 1002 - n
  | _ => 0
set_option maxHeartbeats 8000000 in
set_option maxRecDepth 100000 in
theorem newR_any (A : Option Addr) (c : Nat) (l : List Cap) (w : World) (hA : Arr w A (capCells l)) (hwf : ∀ x ∈ l, CapWf x) (hl : l.length ≤ 1000) : Calls Try.prog 12 #[.slice A l.length c] w (RNewPost w l) := by
  obtain ⟨ci, hci, hci0, hci1, hci2⟩ := info_parts infoCap
  have HW := Lib.hid (And.intro hwf hl)
  obtain ⟨U, hU⟩ : ∃ U, U = w.alloc (.cells #[.slice none 0 0, .slice none 0 0] 53) := ⟨_, rfl⟩
  have EU : Ext w U := by rw [hU]; exact (by repeat first | (with_reducible exact Below.refl _ _) | (with_reducible apply Ext.alloc) | (with_reducible apply Ext.drew) | (with_reducible apply Ext.drewN) | (with_reducible refine Ext.set ?_ (by simp)))
  have u0 : U.heap[w.heap.size]? = some (.cells #[.slice none 0 0, .slice none 0 0] 53) := by rw [hU]; exact heap_alloc_new w _
  have sU : U.heap.size = w.heap.size + 1 := by rw [hU]; simp
  have HU := Lib.hid (And.intro EU (And.intro u0 (And.intro hA hU)))
  have HA := Lib.hid hA
  clear hU EU u0 hA
  go_enter Try.func12, Try.ntmps12
  go_wp2_with fail
  rw [← HU.out.2.2.2]
  go_loopw [4] (fun i wr => ∃ (k : Nat) (vg : Value), k ≤ l.length ∧ i = .int .i64 (k : Int) ∧ Hid (Only w.heap.size [24, 53] U wr ∧ wr.heap[w.heap.size]? = some (.cells #[vg, .slice none 0 0] 53) ∧ wr.ownsRow (w.heap.size + 1) 24 6 vg (grantsL (l.take k)).length (capCells (grantsL (l.take k))))) (fun i _ => l.length - (intOf i).toNat)
  case atStart => exact ⟨0, .slice none 0 0, Nat.zero_le _, rfl, Lib.hid ⟨Only.refl _ _ _, HU.out.2.1, World.ownsRow_nil _ _ _ _⟩⟩
  case round =>
    obtain ⟨k, vg, hk, rfl, hQ⟩ := hrel
    have hE : Hid (Ext w wr) := Lib.hid (Only.below HU.out.1 (Nat.le_refl _) hQ.out.1)
    by_cases hlt : k < l.length
    · obtain ⟨b1, o1, rfl, hb1, x0, x1, x2, x3, x4, x5⟩ := cap_row HA.out hlt
      have hsu := grants_succ hlt
      have hGl : (grantsL (l.take k)).length ≤ 1000 := by
        have h1 : (grantsL (l.take k)).length ≤ (l.take k).length := List.length_filter_le _ _
        have h2 : (l.take k).length ≤ l.length := by rw [List.length_take]; omega
        have := HW.out.2
        omega
      obtain ⟨x, hx⟩ : ∃ x, x = l[k] := ⟨_, rfl⟩
      rw [← hx] at x0 x1 x2 x3 x4 x5 hsu
      obtain ⟨T, hT⟩ : ∃ T, T = grantsL (l.take k) := ⟨_, rfl⟩
      rw [← hT] at hsu hGl hQ
      obtain ⟨tg, xb, xt, xa, xp, xy⟩ := x
      simp only at x0 x1 x2 x3 x4 x5 hsu
      have HX := Lib.hid (And.intro x0 (And.intro x1 (And.intro x2 (And.intro x3 (And.intro x4 x5)))))
      replace x0 := ext_cell hE.out _ _ x0
      replace x1 := ext_cell hE.out _ _ x1
      replace x2 := ext_cell hE.out _ _ x2
      replace x3 := ext_cell hE.out _ _ x3
      replace x4 := ext_cell hE.out _ _ x4
      replace x5 := ext_cell hE.out _ _ x5
      obtain ⟨Ag, cg, rfl, hcg, -⟩ := Arr.own hQ.out.2.2
      have HS := Lib.hid hsu
      have HRt := Lib.hid (fun w => capR_any ⟨tg, xb, xt, xa, xp, xy⟩ w)
      clear hx hT hsu
      cases tg with
      | false =>
        go_wp2_with fail
        refine ⟨⟨k + 1, .slice Ag T.length cg, by omega, by simp, Lib.hid ⟨hQ.out.1.then (by repeat first | (with_reducible exact Below.refl _ _) | (with_reducible apply Ext.alloc) | (with_reducible apply Ext.drew) | (with_reducible apply Ext.drewN) | (with_reducible refine Ext.set ?_ (by simp))), ext_at' (by repeat first | (with_reducible exact Below.refl _ _) | (with_reducible apply Ext.alloc) | (with_reducible apply Ext.drew) | (with_reducible apply Ext.drewN) | (with_reducible refine Ext.set ?_ (by simp))) hQ.out.2.1, ?_⟩⟩, by simp [intOf]; omega⟩
        rw [HS.out]
        simpa using own_ext hQ.out.2.2 (by repeat first | (with_reducible exact Below.refl _ _) | (with_reducible apply Ext.alloc) | (with_reducible apply Ext.drew) | (with_reducible apply Ext.drewN) | (with_reducible refine Ext.set ?_ (by simp)))
      | true =>
        go_wp2_with fail
        refine (HRt.out _).mono ?_
        rintro _ w2 ⟨rfl, hE2⟩
        have E2 : Hid (Ext wr w2) := Lib.hid (by repeat first | (with_reducible exact Below.refl _ _) | (with_reducible apply Ext.alloc) | (with_reducible apply Ext.drew) | (with_reducible apply Ext.drewN) | (with_reducible refine Ext.set ?_ (by simp)) | (with_reducible refine Ext.then ?_ hE2))
        clear hE2
        cases hr : rightC ⟨true, xb, xt, xa, xp, xy⟩ with
        | false =>
          go_wp2_with fail
          refine ⟨⟨k + 1, .slice Ag T.length cg, by omega, by simp, Lib.hid ⟨hQ.out.1.then (E2.out.then (by repeat first | (with_reducible exact Below.refl _ _) | (with_reducible apply Ext.alloc) | (with_reducible apply Ext.drew) | (with_reducible apply Ext.drewN) | (with_reducible refine Ext.set ?_ (by simp)))), ext_at' (E2.out.then (by repeat first | (with_reducible exact Below.refl _ _) | (with_reducible apply Ext.alloc) | (with_reducible apply Ext.drew) | (with_reducible apply Ext.drewN) | (with_reducible refine Ext.set ?_ (by simp)))) hQ.out.2.1, ?_⟩⟩, by simp [intOf]; omega⟩
          rw [HS.out, hr]
          simpa using own_ext hQ.out.2.2 (E2.out.then (by repeat first | (with_reducible exact Below.refl _ _) | (with_reducible apply Ext.alloc) | (with_reducible apply Ext.drew) | (with_reducible apply Ext.drewN) | (with_reducible refine Ext.set ?_ (by simp))))
        | true =>
          have HR := Lib.hid hr
          have hsz : w.heap.size + 1 ≤ w2.drew.heap.size := Nat.le_trans (Nat.le_trans (Nat.le_of_eq sU.symm) hQ.out.1.size) E2.out.size
          have HX2 : Hid (Ext w w2.drew) := Lib.hid (Ext.drew (hE.out.then E2.out))
          clear hr x0 x1 x2 x3 x4 x5
          go_wp2_with fail
          refine wp_region_res (Only w.heap.size [24, 53]) [⟨none, [], [10]⟩, ⟨none, [], [4, 13]⟩, ⟨some 9, [(9, [])], [10]⟩, ⟨some 10, [(10, [])], [13]⟩, ⟨some 13, [(10, [10])], []⟩] [(fun (u : Nat → Value) (W : World) => (fun (_ : Value) (W : World) => W.ownsRow (w.heap.size + 1) 24 6 (.slice Ag T.length cg) T.length (capCells T)) (undef) W), (fun (u : Nat → Value) (W : World) => (fun (_ : Value) (W : World) => W.heap[w.heap.size]? = some (.cells #[.slice Ag T.length cg, .slice none 0 0] 53)) (undef) W), (fun (u : Nat → Value) (W : World) => (NewLit 0 1 (Cap.cells ⟨true, xb, xt, xa, xp, xy⟩) 24) (u 9) W), (fun (u : Nat → Value) (W : World) => (fun (v : Value) (W : World) => W.ownsRow (w.heap.size + 1) 24 6 v (T.length + 1) (capCells T ++ Cap.cells ⟨true, xb, xt, xa, xp, xy⟩)) (u 10) W), (fun (u : Nat → Value) (W : World) => W.heap[w.heap.size]? = some (.cells #[u 10, .slice none 0 0] 53) ∧ W.ownsRow (w.heap.size + 1) 24 6 (u 10) (T.length + 1) (capCells T ++ Cap.cells ⟨true, xb, xt, xa, xp, xy⟩))] [⟨[], [.keep, .keep, .keep, .keep, .early [0]]⟩, ⟨[], [.keep, .keep, .keep, .early [4, 3, 2, 1], .early [1]]⟩, ⟨[], [.keep, .keep, .keep, .early [4, 3, 2], .early [2]]⟩, ⟨[], [.keep, .keep, .keep, .early [4, 3], .early [3]]⟩, ⟨[(1, [])], [.keep, .keep, .keep, .early [4], .early [4]]⟩, ⟨[], [.keep, .keep, .early [8, 7, 5], .early [9, 8, 7, 5], .early [5]]⟩, ⟨[], [.keep, .keep, .early [8, 7, 6], .early [9, 8, 7, 6], .early [6]]⟩, ⟨[], [.keep, .keep, .early [8, 7], .early [9, 8, 7], .early [7]]⟩, ⟨[], [.keep, .keep, .early [8], .early [9, 8], .early [8]]⟩, ⟨[], [.keep, .keep, .last, .early [9], .early [9]]⟩, ⟨[(0, []), (2, [9])], [.late [[]], .keep, .late [[]], .last, .early [10]]⟩, ⟨[], [.late [[10]], .keep, .late [[10]], .keep, .early [12, 11]]⟩, ⟨[], [.late [[10]], .keep, .late [[10]], .keep, .early [12]]⟩, ⟨[(1, []), (3, [10])], [.late [[10]], .late [[4], []], .late [[10]], .late [[]], .last]⟩] [29, 30, 31, 32, 33, 34, 35, 36, 37, 38, 39, 40, 41] (by kernel_rfl) (Only.refl _ _) (fun _ _ _ => Only.trans) (by kernel_rfl) (by kernel_rfl) (by kernel_rfl) (by kernel_rfl) (by kernel_rfl) ?start ?_
          case start =>
            refine And.intro ?_ ?_
            · exact own_ext hQ.out.2.2 (Ext.drew E2.out)
            refine And.intro ?_ ?_
            · exact ext_at' (Ext.drew E2.out) hQ.out.2.1
            exact trivial
          apply ex_is; apply Exists.intro
          apply ex_is; apply Exists.intro
          apply ex_is; apply Exists.intro
          apply ex_is; apply Exists.intro
          apply ex_is; apply Exists.intro
          apply ex_is; apply Exists.intro
          apply ex_is; apply Exists.intro
          apply ex_is; apply Exists.intro
          apply ex_is; apply Exists.intro
          refine ex_phi (fun _ _ => True) ?_
          refine ex_phi (fun _ _ => True) ?_
          apply ex_is; apply Exists.intro
          apply ex_is; apply Exists.intro
          refine ex_phi (fun _ _ => True) ?_
          refine ⟨[], ⟨?steps, ?stab, ?ends⟩⟩
          case steps =>
            refine And.intro (obX_pure (Only.refl _ _) ?_) ?_
            · intro act W hR hf ho hu K hK
              replace hK := fun v h2 => hK v W rfl h2 trivial
              have G : act.tmps[3]?.getD undef = _ ∧ True := ho
              obtain ⟨g3, -⟩ := G
              clear ho hf hu
              go_simp
              exact hK _ (Eq.refl _)
            refine And.intro (obX_pure (Only.refl _ _) ?_) ?_
            · intro act W hR hf ho hu K hK
              replace hK := fun v h2 => hK v W rfl h2 trivial
              have G : act.tmps[3]?.getD undef = _ ∧ True := ho
              obtain ⟨g3, -⟩ := G
              clear ho hf hu
              go_simp
              exact hK _ (Eq.refl _)
            refine And.intro (obX_pure (Only.refl _ _) ?_) ?_
            · intro act W hR hf ho hu K hK
              replace hK := fun v h2 => hK v W rfl h2 trivial
              have F : act.tmps[30]?.getD undef = _ ∧ True := hf
              obtain ⟨f1, -⟩ := F
              clear ho hf hu
              go_simp
              exact hK _ (Eq.refl _)
            refine And.intro (obX_pure (Only.refl _ _) ?_) ?_
            · intro act W hR hf ho hu K hK
              replace hK := fun v h2 => hK v W rfl h2 trivial
              have F : act.tmps[31]?.getD undef = _ ∧ True := hf
              obtain ⟨f2, -⟩ := F
              clear ho hf hu
              go_simp
              exact hK _ (Eq.refl _)
            refine And.intro (obX_pure (Only.refl _ _) ?_) ?_
            · intro act W hR hf ho hu K hK
              replace hK := fun v h2 => hK v W rfl h2 trivial
              have F : act.tmps[32]?.getD undef = _ ∧ True := hf
              obtain ⟨f3, -⟩ := F
              have U : (fun (_ : Value) (W : World) => W.heap[w.heap.size]? = some (.cells #[.slice Ag T.length cg, .slice none 0 0] 53)) (undef) W ∧ True := hu
              obtain ⟨r_row, -⟩ := U
              clear ho hf hu
              have q5 := cellAt r_row 0 (.slice Ag T.length cg) rfl
              go_simp
              exact hK _ (Eq.refl _)
            refine And.intro (obX_pure (Only.refl _ _) ?_) ?_
            · intro act W hR hf ho hu K hK
              replace hK := fun v h2 => hK v W rfl h2 trivial
              have G : act.tmps[0]?.getD undef = _ ∧ True := ho
              obtain ⟨g0, -⟩ := G
              clear ho hf hu
              go_simp
              exact hK _ (Eq.refl _)
            refine And.intro (obX_pure (Only.refl _ _) ?_) ?_
            · intro act W hR hf ho hu K hK
              replace hK := fun v h2 => hK v W rfl h2 trivial
              have G : act.tmps[4]?.getD undef = _ ∧ True := ho
              obtain ⟨g4, -⟩ := G
              clear ho hf hu
              go_simp
              exact hK _ (Eq.refl _)
            refine And.intro (obX_pure (Only.refl _ _) ?_) ?_
            · intro act W hR hf ho hu K hK
              replace hK := fun v h2 => hK v W rfl h2 trivial
              have F : act.tmps[34]?.getD undef = _ ∧ act.tmps[35]?.getD undef = _ ∧ True := hf
              obtain ⟨f5, f6, -⟩ := F
              clear ho hf hu
              go_simp
              exact hK _ (Eq.refl _)
            refine And.intro (obX_pure (Only.refl _ _) ?_) ?_
            · intro act W hR hf ho hu K hK
              replace hK := fun v h2 => hK v W rfl h2 trivial
              have F : act.tmps[36]?.getD undef = _ ∧ True := hf
              obtain ⟨f7, -⟩ := F
              clear ho hf hu
              have y0 := hR.cell (ext_cell HX2.out _ _ HX.out.1) hb1; have y1 := hR.cell (ext_cell HX2.out _ _ HX.out.2.1) hb1; have y2 := hR.cell (ext_cell HX2.out _ _ HX.out.2.2.1) hb1; have y3 := hR.cell (ext_cell HX2.out _ _ HX.out.2.2.2.1) hb1; have y4 := hR.cell (ext_cell HX2.out _ _ HX.out.2.2.2.2.1) hb1; have y5 := hR.cell (ext_cell HX2.out _ _ HX.out.2.2.2.2.2) hb1
              go_simp
              exact hK _ (Eq.refl _)
            refine And.intro (obX_eff (Ext) (fun _ _ h => Only.ext h) (And.intro (fun _ _ _ h e => own_ext h e) (And.intro (fun _ _ _ h e => ext_at' e h) (trivial))) ?_) ?_
            · intro act W hR hf ho hu K hK
              replace hK := fun v (w' : World) (h1 : (Ext) W w') (b2 : (NewLit 0 1 (Cap.cells ⟨true, xb, xt, xa, xp, xy⟩) 24) (v) w') => hK v w' h1 trivial ⟨b2, trivial⟩
              have F : act.tmps[37]?.getD undef = _ ∧ True := hf
              obtain ⟨f8, -⟩ := F
              clear ho hf hu
              go_simp
              exact hK _ _ (by repeat first | (with_reducible exact Below.refl _ _) | (with_reducible apply Ext.alloc) | (with_reducible apply Ext.drew) | (with_reducible apply Ext.drewN) | (with_reducible refine Ext.set ?_ (by simp))) (NewLit.new (Nat.zero_le _))
            refine And.intro (obX_eff (Only (w.heap.size + 1) [24]) (fun _ _ h => h.mono (by omega) (by simp)) (And.intro (fun _ _ _ h e => e.row h (by decide)) (trivial)) ?_) ?_
            · intro act W hR hf ho hu K hK
              replace hK := fun v (w' : World) (h1 : (Only (w.heap.size + 1) [24]) W w') (b3 : (fun (v : Value) (W : World) => W.ownsRow (w.heap.size + 1) 24 6 v (T.length + 1) (capCells T ++ Cap.cells ⟨true, xb, xt, xa, xp, xy⟩)) (v) w') => hK v w' h1 trivial ⟨b3, trivial⟩
              have F : act.tmps[33]?.getD undef = _ ∧ (fun _ _ => True) (act.tmps[38]?.getD undef) W ∧ True := hf
              obtain ⟨f4, -, -⟩ := F
              have U : (fun (_ : Value) (W : World) => W.ownsRow (w.heap.size + 1) 24 6 (.slice Ag T.length cg) T.length (capCells T)) (undef) W ∧ (NewLit 0 1 (Cap.cells ⟨true, xb, xt, xa, xp, xy⟩) 24) (act.tmps[38]?.getD undef) W ∧ True := hu
              obtain ⟨r_own, r_n9, -⟩ := U
              generalize f9 : act.tmps[38]?.getD undef = v9 at r_n9
              clear ho hf hu
              obtain ⟨b3, rfl, -, hl3⟩ := r_n9
              dsimp only [Option.elim] at f4
              rw [← seen_eq]; refine step_append_src W rfl (.tmp 33) (.tmp 38) 22 rfl (w.heap.size + 1) 24 ci (.agg #[.bool false, .int .i64 0, .int .i64 0, .int .i64 0, .int .i64 0, .int .i64 0]) 6 48 Try.underlying22 hci hci0 hci1 hci2 rfl (by decide) _ _ _ (eval_get f4) r_own _ 1 (Cap.cells ⟨true, xb, xt, xa, xp, xy⟩) (eval_get f9) (lies_lit hl3) rfl (by simp [Value.oneCell']) (by unfold maxLen; omega) (by omega) (Nat.le_trans hsz hR.size) ?_; intro v' w' ho' hg' _; exact hK _ _ (Only.grown r_own hg' (by simp)) ho'
            refine And.intro (obX_pure (Only.refl _ _) ?_) ?_
            · intro act W hR hf ho hu K hK
              replace hK := fun v h2 => hK v W rfl h2 trivial
              have F : act.tmps[29]?.getD undef = _ ∧ act.tmps[29]?.getD undef = _ ∧ act.tmps[30]?.getD undef = _ ∧ act.tmps[31]?.getD undef = _ ∧ act.tmps[32]?.getD undef = _ ∧ act.tmps[33]?.getD undef = _ ∧ act.tmps[34]?.getD undef = _ ∧ act.tmps[35]?.getD undef = _ ∧ act.tmps[36]?.getD undef = _ ∧ act.tmps[37]?.getD undef = _ ∧ (fun _ _ => True) (act.tmps[38]?.getD undef) W ∧ (fun _ _ => True) (act.tmps[39]?.getD undef) W ∧ True := hf
              obtain ⟨f0, -, f1, f2, f3, f4, f5, f6, f7, f8, -, -, -⟩ := F
              generalize f9 : act.tmps[38]?.getD undef = v9
              generalize f10 : act.tmps[39]?.getD undef = v10
              clear ho hf hu
              go_simp
              exact hK _ (Eq.refl _)
            refine And.intro (obX_pure (Only.refl _ _) ?_) ?_
            · intro act W hR hf ho hu K hK
              replace hK := fun v h2 => hK v W rfl h2 trivial
              have F : act.tmps[40]?.getD undef = _ ∧ act.tmps[29]?.getD undef = _ ∧ act.tmps[30]?.getD undef = _ ∧ act.tmps[31]?.getD undef = _ ∧ act.tmps[32]?.getD undef = _ ∧ act.tmps[33]?.getD undef = _ ∧ act.tmps[34]?.getD undef = _ ∧ act.tmps[35]?.getD undef = _ ∧ act.tmps[36]?.getD undef = _ ∧ act.tmps[37]?.getD undef = _ ∧ (fun _ _ => True) (act.tmps[38]?.getD undef) W ∧ (fun _ _ => True) (act.tmps[39]?.getD undef) W ∧ True := hf
              obtain ⟨f11, f0, f1, f2, f3, f4, f5, f6, f7, f8, -, -, -⟩ := F
              generalize f9 : act.tmps[38]?.getD undef = v9
              generalize f10 : act.tmps[39]?.getD undef = v10
              clear ho hf hu
              go_simp
              exact hK _ (Eq.refl _)
            refine And.intro (obX_eff (Only w.heap.size [24, 53]) (fun _ _ h => h) (trivial) ?_) ?_
            · intro act W hR hf ho hu K hK
              replace hK := fun (w' : World) (h1 : (Only w.heap.size [24, 53]) W w') (b4 : (fun (W : World) => W.heap[w.heap.size]? = some (.cells #[(act.tmps[39]?.getD undef), .slice none 0 0] 53) ∧ W.ownsRow (w.heap.size + 1) 24 6 ((act.tmps[39]?.getD undef)) (T.length + 1) (capCells T ++ Cap.cells ⟨true, xb, xt, xa, xp, xy⟩)) w') => hK undef w' h1 trivial ⟨b4, trivial⟩
              have F : act.tmps[41]?.getD undef = _ ∧ (fun _ _ => True) (act.tmps[39]?.getD undef) W ∧ (fun _ _ => True) (act.tmps[39]?.getD undef) W ∧ act.tmps[29]?.getD undef = _ ∧ act.tmps[30]?.getD undef = _ ∧ act.tmps[31]?.getD undef = _ ∧ act.tmps[32]?.getD undef = _ ∧ act.tmps[33]?.getD undef = _ ∧ act.tmps[34]?.getD undef = _ ∧ act.tmps[35]?.getD undef = _ ∧ act.tmps[36]?.getD undef = _ ∧ act.tmps[37]?.getD undef = _ ∧ (fun _ _ => True) (act.tmps[38]?.getD undef) W ∧ (fun _ _ => True) (act.tmps[39]?.getD undef) W ∧ True := hf
              obtain ⟨f12, -, -, f0, f1, f2, f3, f4, f5, f6, f7, f8, -, -, -⟩ := F
              have U : (fun (_ : Value) (W : World) => W.heap[w.heap.size]? = some (.cells #[.slice Ag T.length cg, .slice none 0 0] 53)) (undef) W ∧ (fun (v : Value) (W : World) => W.ownsRow (w.heap.size + 1) 24 6 v (T.length + 1) (capCells T ++ Cap.cells ⟨true, xb, xt, xa, xp, xy⟩)) (act.tmps[39]?.getD undef) W ∧ True := hu
              obtain ⟨r_row, r_r10, -⟩ := U
              generalize f10 : act.tmps[39]?.getD undef = v10 at r_r10 hK
              generalize f9 : act.tmps[38]?.getD undef = v9
              clear ho hf hu
              obtain ⟨A7, c7, rfl, -, -⟩ := Arr.own r_r10; have fz := frozen_row' r_row; have q6 := cellAt r_row 0 (.slice Ag T.length cg) rfl; have HF := Lib.hid (And.intro (Only.set (B := w.heap.size) (T := [24, 53]) (o := 0) r_row (Nat.le_refl _) (by simp) (.slice A7 (T.length + 1) c7)) (And.intro (set_row (o := 0) r_row (.slice A7 (T.length + 1) c7)) ((Only.set (B := w.heap.size) (T := [53]) (o := 0) r_row (Nat.le_refl _) (by simp) (.slice A7 (T.length + 1) c7)).own r_r10 (by decide))))
              go_simp
              exact hK _ HF.out.1 ⟨HF.out.2.1, HF.out.2.2⟩
            exact trivial
          case stab =>
            refine And.intro is_stable ?_
            refine And.intro is_stable ?_
            refine And.intro is_stable ?_
            refine And.intro is_stable ?_
            refine And.intro is_stable ?_
            refine And.intro is_stable ?_
            refine And.intro is_stable ?_
            refine And.intro is_stable ?_
            refine And.intro is_stable ?_
            refine And.intro (fun _ _ _ h _ => h) ?_
            refine And.intro (fun _ _ _ h _ => h) ?_
            refine And.intro is_stable ?_
            refine And.intro is_stable ?_
            refine And.intro (fun _ _ _ h _ => h) ?_
            exact trivial
          case ends =>
            intro vals W hR hE hall
            have E : (fun (W : World) => W.heap[w.heap.size]? = some (.cells #[(vals 39), .slice none 0 0] 53) ∧ W.ownsRow (w.heap.size + 1) 24 6 ((vals 39)) (T.length + 1) (capCells T ++ Cap.cells ⟨true, xb, xt, xa, xp, xy⟩)) W ∧ True := hE
            obtain ⟨e_fin, -⟩ := E
            clear hE
            clear hall
            generalize ev39 : vals 39 = x39 at e_fin
            simp only [fill, List.setIfInBounds_toArray, List.set_cons_succ, List.set_cons_zero, ev39]
            obtain ⟨hrow, hown⟩ := e_fin
            have hO2 : Only w.heap.size [24, 53] U W := ((hQ.out.1.then E2.out).drew).trans hR
            have HN := Lib.hid (And.intro hO2 (And.intro hrow hown))
            clear hO2 hrow hown
            go_wp2_with fail
            refine ⟨⟨k + 1, _, by omega, by simp, Lib.hid ⟨HN.out.1, HN.out.2.1, ?_⟩⟩, by simp [intOf]; omega⟩
            rw [HS.out, HR.out]
            simpa [capCells_app] using HN.out.2.2
    · obtain rfl : k = l.length := by omega
      rw [List.take_length] at hQ
      have hGw : Hid (∀ g ∈ grantsL l, CapWf g) := Lib.hid fun g hg => HW.out.1 g (mem_grantsL.1 hg).1
      have hGl : (grantsL l).length ≤ 1000 := Nat.le_trans (List.length_filter_le _ _) HW.out.2
      obtain ⟨G, hG⟩ : ∃ G, G = grantsL l := ⟨_, rfl⟩
      rw [← hG] at hQ hGw hGl
      have HG := Lib.hid hG
      have HI : Hid (RefIn U w.heap.size vg G [] wr) := Lib.hid ⟨hQ.out.1, .slice none 0 0, hQ.out.2.1, hQ.out.2.2, World.ownsRow_nil _ _ _ _, (Dis.nil _).symm⟩
      clear hG hQ hE
      go_wp2_with fail
      go_loopw [5, 6, 7, 8] (fun m _ _ _ wr => ∃ (b : Bool) (k : Nat), m = .bool b ∧ Hid (RefIn U w.heap.size vg G (roundsL G k) wr ∧ (b = false → roundL G (roundsL G k) = roundsL G k))) (fun m _ _ _ wr => moreM m (lenAt wr w.heap.size))
      case atStart => exact ⟨true, 0, rfl, Lib.hid ⟨HI.out, fun h => by cases h⟩⟩
      case round =>
        obtain ⟨b, k, rfl, hI⟩ := hrel
        have hso := Lib.hid (sound_rounds G k)
        obtain ⟨O, hO⟩ : ∃ O, O = roundsL G k := ⟨_, rfl⟩
        rw [← hO] at hI hso
        have HO := Lib.hid hO
        clear hO
        cases b with
        | false =>
          go_wp2_with fail
          go_ret
          obtain ⟨vo, hs⟩ := hI.out.1.set
          exact ⟨w.heap.size, vg, vo, G, O, rfl, ⟨hs.row, ownLow hs.g (by omega), ownLow hs.o (by omega), hs.dis⟩, ⟨HG.out, round_all hso.out (by rw [hI.out.2 (by first | exact trivial | rfl)]), hso.out.once⟩, Only.below HU.out.1 (Nat.le_refl _) hI.out.1.only⟩
        | true =>
          go_wp2_with fail
          go_loopw [5, 6, 7, 8] (fun m i _ _ wx => ∃ j : Nat, j ≤ G.length ∧ i = .int .i64 (j : Int) ∧ m = .bool (decide (O.length < ((G.take j).foldl openStep O).length)) ∧ Hid (RefIn U w.heap.size vg G ((G.take j).foldl openStep O) wx)) (fun _ i _ _ _ => G.length - (intOf i).toNat)
          case atStart => exact ⟨0, Nat.zero_le _, rfl, by simp, Lib.hid hI.out.1⟩
          case round =>
            obtain ⟨j, hj, rfl, rfl, hJ⟩ := hrel
            obtain ⟨vo, hset⟩ := hJ.out.set
            obtain ⟨Ag, cg, rfl, -, hag⟩ := Arr.own hset.g
            have q1 := cellAt hset.row 0 (.slice Ag G.length cg) rfl
            have lq := cell_lt q1
            simp only at lq
            by_cases hlt2 : j < G.length
            · have hfs := fold_succ hlt2 O
              have hsp : Sound G ((G.take j).foldl openStep O) := hso.out.folds fun g hg => List.mem_of_mem_take hg
              have hOP := (folds_len (G.take j) O).1
              obtain ⟨b1, o1, rfl, hb1, x0, x1, x2, x3, x4, x5⟩ := cap_row hag hlt2
              obtain ⟨g, hg⟩ : ∃ g, g = G[j] := ⟨_, rfl⟩
              rw [← hg] at x0 x1 x2 x3 x4 x5 hfs
              obtain ⟨P, hP⟩ : ∃ P, P = (G.take j).foldl openStep O := ⟨_, rfl⟩
              rw [← hP] at hset hJ hfs hsp hOP ⊢
              obtain ⟨Ap, cp, rfl, -, hap⟩ := Arr.own hset.o
              have hPl : P.length ≤ 1000 := Nat.le_trans hsp.len hGl
              have hPw : Hid (∀ o ∈ P, CapWf o) := Lib.hid fun o ho => by
                obtain ⟨g', hg', rfl⟩ := (hsp.1 o ho).grant
                exact bare_wf (hGw.out g' hg')
              have HST := Lib.hid hfs
              have HSET := Lib.hid hset
              have HAP := Lib.hid hap
              have HOB : Hid (opensB P g = ((decide (g.ty ≤ 1) || authL P g.ty 64) && !P.contains (bareC g))) := Lib.hid rfl
              have HOV := Lib.hid (fun (W : World) (e : Ext wr W) => overR_any Ap cp P g.ty 64 W (hap.ext e) hPl hPw.out)
              obtain ⟨V, hV⟩ : ∃ V, V = wr.alloc (.cells g.cells.toArray 24) := ⟨_, rfl⟩
              have HV := Lib.hid hV
              have EV : Hid (Ext wr V) := Lib.hid (by rw [hV]; exact (by repeat first | (with_reducible exact Below.refl _ _) | (with_reducible apply Ext.alloc) | (with_reducible apply Ext.drew) | (with_reducible apply Ext.drewN) | (with_reducible refine Ext.set ?_ (by simp))))
              have HBV : Hid (V.heap[wr.heap.size]? = some (.cells g.cells.toArray 24)) := Lib.hid (by rw [hV]; exact heap_alloc_new wr _)
              clear hfs hset hap hsp hg hP hV hag
              by_cases hty : g.ty ≤ 1
              · have d1 : decide (g.ty ≤ 1) = true := decide_eq_true hty
                have HOB : Hid (opensB P g = (true && !P.contains (bareC g))) := Lib.hid (by rw [HOB.out, d1, Bool.true_or])
                clear hty
                go_wp2_with fail
                rw [← HV.out]
                refine wp_region_obl Ext [59, 60, 61, 62, 63, 64, 65, 66, 67, 68, 69, 70, 8] (by kernel_rfl) (fun _ => Below.refl _ _) (fun _ _ _ => Ext.then) (by kernel_rfl) (by kernel_rfl) ?_
                apply ex_is; apply Exists.intro
                apply ex_is; apply Exists.intro
                apply ex_is; apply Exists.intro
                apply ex_is; apply Exists.intro
                apply ex_is; apply Exists.intro
                apply ex_is; apply Exists.intro
                apply ex_is; apply Exists.intro
                apply ex_is; apply Exists.intro
                apply ex_is; apply Exists.intro
                apply ex_is; apply Exists.intro
                apply ex_is; apply Exists.intro
                apply ex_is; apply Exists.intro
                apply ex_is; apply Exists.intro
                refine ⟨[], ⟨?steps, ?stab, ?ends⟩⟩
                case steps =>
                  refine And.intro ?_ ?_
                  · intro a W hR hf ho K hK
                    replace hR := ext_drew hR
                    have G : a.tmps[7]?.getD undef = _ ∧ True := ho
                    obtain ⟨g7, -⟩ := G
                    clear ho hf
                    go_simp
                    exact hK _ _ (Below.refl _ _) (Eq.refl _)
                  refine And.intro ?_ ?_
                  · intro a W hR hf ho K hK
                    replace hR := ext_drew hR
                    have F : a.tmps[59]?.getD undef = _ ∧ True := hf
                    obtain ⟨f0, -⟩ := F
                    clear ho hf
                    obtain ⟨y0, y1, y2, y3, y4, y5⟩ := lie6' HBV.out hR
                    go_simp
                    exact hK _ _ (Below.refl _ _) (Eq.refl _)
                  refine And.intro ?_ ?_
                  · intro a W hR hf ho K hK
                    replace hR := ext_drew hR
                    have F : a.tmps[60]?.getD undef = _ ∧ True := hf
                    obtain ⟨f1, -⟩ := F
                    clear ho hf
                    go_simp
                    exact hK _ _ (Below.refl _ _) (Eq.refl _)
                  refine And.intro ?_ ?_
                  · intro a W hR hf ho K hK
                    replace hR := ext_drew hR
                    have F : a.tmps[61]?.getD undef = _ ∧ True := hf
                    obtain ⟨f2, -⟩ := F
                    clear ho hf
                    go_simp
                    exact hK _ _ (Below.refl _ _) (Eq.refl _)
                  refine And.intro ?_ ?_
                  · intro a W hR hf ho K hK
                    replace hR := ext_drew hR
                    have G : a.tmps[3]?.getD undef = _ ∧ True := ho
                    obtain ⟨g3, -⟩ := G
                    have F : a.tmps[62]?.getD undef = _ ∧ True := hf
                    obtain ⟨f3, -⟩ := F
                    clear ho hf
                    go_simp
                    exact hK _ _ (Below.refl _ _) (Eq.refl _)
                  refine And.intro ?_ ?_
                  · intro a W hR hf ho K hK
                    replace hR := ext_drew hR
                    have F : a.tmps[63]?.getD undef = _ ∧ a.tmps[62]?.getD undef = _ ∧ True := hf
                    obtain ⟨f4, f3, -⟩ := F
                    clear ho hf
                    go_simp
                    exact hK _ _ (Below.refl _ _) (Eq.refl _)
                  refine And.intro ?_ ?_
                  · intro a W hR hf ho K hK
                    replace hR := ext_drew hR
                    have F : a.tmps[64]?.getD undef = _ ∧ a.tmps[62]?.getD undef = _ ∧ True := hf
                    obtain ⟨f5, f3, -⟩ := F
                    clear ho hf
                    go_simp
                    exact hK _ _ (Below.refl _ _) (Eq.refl _)
                  refine And.intro ?_ ?_
                  · intro a W hR hf ho K hK
                    replace hR := ext_drew hR
                    have F : a.tmps[65]?.getD undef = _ ∧ a.tmps[62]?.getD undef = _ ∧ True := hf
                    obtain ⟨f6, f3, -⟩ := F
                    clear ho hf
                    go_simp
                    exact hK _ _ (Below.refl _ _) (Eq.refl _)
                  refine And.intro ?_ ?_
                  · intro a W hR hf ho K hK
                    replace hR := ext_drew hR
                    have G : a.tmps[7]?.getD undef = _ ∧ True := ho
                    obtain ⟨g7, -⟩ := G
                    have F : a.tmps[62]?.getD undef = _ ∧ True := hf
                    obtain ⟨f3, -⟩ := F
                    clear ho hf
                    go_simp
                    exact hK _ _ (Below.refl _ _) (Eq.refl _)
                  refine And.intro ?_ ?_
                  · intro a W hR hf ho K hK
                    replace hR := ext_drew hR
                    have F : a.tmps[67]?.getD undef = _ ∧ a.tmps[62]?.getD undef = _ ∧ True := hf
                    obtain ⟨f8, f3, -⟩ := F
                    clear ho hf
                    go_simp
                    exact hK _ _ (Below.refl _ _) (Eq.refl _)
                  refine And.intro ?_ ?_
                  · intro a W hR hf ho K hK
                    replace hR := ext_drew hR
                    have F : a.tmps[66]?.getD undef = _ ∧ a.tmps[68]?.getD undef = _ ∧ a.tmps[62]?.getD undef = _ ∧ a.tmps[62]?.getD undef = _ ∧ True := hf
                    obtain ⟨f7, f9, f3, -, -⟩ := F
                    clear ho hf
                    go_simp
                    exact hK _ _ (Below.refl _ _) (Eq.refl _)
                  refine And.intro ?_ ?_
                  · intro a W hR hf ho K hK
                    replace hR := ext_drew hR
                    have F : a.tmps[62]?.getD undef = _ ∧ a.tmps[69]?.getD undef = _ ∧ True := hf
                    obtain ⟨f3, f10, -⟩ := F
                    clear ho hf
                    go_simp
                    exact hK _ _ (Below.refl _ _) (Eq.refl _)
                  refine And.intro ?_ ?_
                  · intro a W hR hf ho K hK
                    replace hR := ext_drew hR
                    have F : a.tmps[70]?.getD undef = _ ∧ a.tmps[69]?.getD undef = _ ∧ a.tmps[59]?.getD undef = _ ∧ a.tmps[60]?.getD undef = _ ∧ a.tmps[61]?.getD undef = _ ∧ a.tmps[62]?.getD undef = _ ∧ a.tmps[63]?.getD undef = _ ∧ a.tmps[64]?.getD undef = _ ∧ a.tmps[65]?.getD undef = _ ∧ a.tmps[66]?.getD undef = _ ∧ a.tmps[67]?.getD undef = _ ∧ a.tmps[68]?.getD undef = _ ∧ a.tmps[69]?.getD undef = _ ∧ a.tmps[70]?.getD undef = _ ∧ True := hf
                    obtain ⟨f11, f10, f0, f1, f2, f3, f4, f5, f6, f7, f8, f9, -, -, -⟩ := F
                    clear ho hf
                    go_simp
                    exact hK _ _ (Below.refl _ _) (Eq.refl _)
                  exact trivial
                case stab =>
                  refine And.intro is_stable ?_
                  refine And.intro is_stable ?_
                  refine And.intro is_stable ?_
                  refine And.intro is_stable ?_
                  refine And.intro is_stable ?_
                  refine And.intro is_stable ?_
                  refine And.intro is_stable ?_
                  refine And.intro is_stable ?_
                  refine And.intro is_stable ?_
                  refine And.intro is_stable ?_
                  refine And.intro is_stable ?_
                  refine And.intro is_stable ?_
                  refine And.intro is_stable ?_
                  exact trivial
                case ends =>
                  intro vals W hR hall
                  replace hR := ext_drew hR
                  have e8 : vals 8 = _ := hall 12 (by decide)
                  clear hall
                  simp only [fill, List.setIfInBounds_toArray, List.set_cons_succ, List.set_cons_zero, e8]
                  rename World => V1
                  have E1 : Hid (Ext V V1) := Lib.hid hR
                  have hb1 := ext_at' hR HBV.out
                  obtain ⟨y0, y1, y2, y3, y4, y5⟩ := lie6' hb1 (Below.refl _ V1)
                  have fz := frozen_row' hb1
                  have hlt1 := cell_lt y0
                  simp only at hlt1
                  have HB1 := Lib.hid hb1
                  clear hb1 hR
                  go_wp2_with fail
                  obtain ⟨V2, hV2⟩ : ∃ V2, V2 = (V1.setCell ⟨wr.heap.size, 5, none⟩ (.int .i64 0)).setCell ⟨wr.heap.size, 3, none⟩ (.int .i64 g.base) := ⟨_, rfl⟩
                  rw [← hV2]
                  have HBX : Hid (V2.heap[wr.heap.size]? = some (.cells (bareC g).cells.toArray 24)) := Lib.hid (by rw [hV2]; exact set_row (o := 3) (set_row (o := 5) HB1.out (.int .i64 0)) (.int .i64 g.base))
                  have EV2 : Hid (Ext wr V2) := Lib.hid (by rw [hV2]; exact ((EV.out.then E1.out).set (Nat.le_refl _)).set (Nat.le_refl _))
                  have HRW : Hid (V2.heap[w.heap.size]? = some (.cells #[.slice (some ⟨b1, o1, none⟩) G.length cg, .slice Ap P.length cp] 53)) := Lib.hid (ext_at' EV2.out HSET.out.row)
                  have HHR := Lib.hid (fun (W : World) (e : Ext V2 W) => hasR_any Ap cp P (bareC g) W (HAP.out.ext (EV2.out.then e)) hPl)
                  clear hV2 y0 y1 y2 y3 y4 y5 fz hlt1
                  cases hh : P.contains (bareC g) with
                  | true =>
                    have HNO : Hid (openStep P g = P) := Lib.hid (by unfold openStep; rw [HOB.out, hh]; simp)
                    rw [hh] at HHR
                    clear hh
                    go_wp2_with fail
                    refine wp_region_obl Ext [75, 76, 77, 78, 79, 80, 81, 82, 83, 84] (by kernel_rfl) (fun _ => Below.refl _ _) (fun _ _ _ => Ext.then) (by kernel_rfl) (by kernel_rfl) ?_
                    apply ex_is; apply Exists.intro
                    apply ex_is; apply Exists.intro
                    apply ex_is; apply Exists.intro
                    apply ex_is; apply Exists.intro
                    apply ex_is; apply Exists.intro
                    apply ex_is; apply Exists.intro
                    apply ex_is; apply Exists.intro
                    apply ex_is; apply Exists.intro
                    apply ex_is; apply Exists.intro
                    apply ex_is; apply Exists.intro
                    refine ⟨[], ⟨?steps, ?stab, ?ends⟩⟩
                    case steps =>
                      refine And.intro ?_ ?_
                      · intro a W hR hf ho K hK
                        replace hR := ext_drew hR
                        have G : a.tmps[8]?.getD undef = _ ∧ True := ho
                        obtain ⟨g8, -⟩ := G
                        clear ho hf
                        go_simp
                        exact hK _ _ (Below.refl _ _) (Eq.refl _)
                      refine And.intro ?_ ?_
                      · intro a W hR hf ho K hK
                        replace hR := ext_drew hR
                        have F : a.tmps[75]?.getD undef = _ ∧ True := hf
                        obtain ⟨f0, -⟩ := F
                        clear ho hf
                        go_simp
                        exact hK _ _ (Below.refl _ _) (Eq.refl _)
                      refine And.intro ?_ ?_
                      · intro a W hR hf ho K hK
                        replace hR := ext_drew hR
                        have G : a.tmps[3]?.getD undef = _ ∧ True := ho
                        obtain ⟨g3, -⟩ := G
                        have F : a.tmps[76]?.getD undef = _ ∧ True := hf
                        obtain ⟨f1, -⟩ := F
                        clear ho hf
                        go_simp
                        exact hK _ _ (Below.refl _ _) (Eq.refl _)
                      refine And.intro ?_ ?_
                      · intro a W hR hf ho K hK
                        replace hR := ext_drew hR
                        have F : a.tmps[77]?.getD undef = _ ∧ a.tmps[76]?.getD undef = _ ∧ True := hf
                        obtain ⟨f2, f1, -⟩ := F
                        clear ho hf
                        go_simp
                        exact hK _ _ (Below.refl _ _) (Eq.refl _)
                      refine And.intro ?_ ?_
                      · intro a W hR hf ho K hK
                        replace hR := ext_drew hR
                        have F : a.tmps[78]?.getD undef = _ ∧ a.tmps[76]?.getD undef = _ ∧ True := hf
                        obtain ⟨f3, f1, -⟩ := F
                        clear ho hf
                        go_simp
                        exact hK _ _ (Below.refl _ _) (Eq.refl _)
                      refine And.intro ?_ ?_
                      · intro a W hR hf ho K hK
                        replace hR := ext_drew hR
                        have F : a.tmps[79]?.getD undef = _ ∧ a.tmps[76]?.getD undef = _ ∧ True := hf
                        obtain ⟨f4, f1, -⟩ := F
                        clear ho hf
                        have q1 := cellAt (ext_at' hR HRW.out) 1 (.slice Ap P.length cp) rfl
                        go_simp
                        exact hK _ _ (Below.refl _ _) (Eq.refl _)
                      refine And.intro ?_ ?_
                      · intro a W hR hf ho K hK
                        replace hR := ext_drew hR
                        have G : a.tmps[7]?.getD undef = _ ∧ True := ho
                        obtain ⟨g7, -⟩ := G
                        have F : a.tmps[76]?.getD undef = _ ∧ True := hf
                        obtain ⟨f1, -⟩ := F
                        clear ho hf
                        obtain ⟨y0, y1, y2, y3, y4, y5⟩ := lie6' HBX.out hR
                        go_simp
                        exact hK _ _ (Below.refl _ _) (Eq.refl _)
                      refine And.intro ?_ ?_
                      · intro a W hR hf ho K hK
                        replace hR := ext_drew hR
                        have F : a.tmps[80]?.getD undef = _ ∧ a.tmps[81]?.getD undef = _ ∧ a.tmps[76]?.getD undef = _ ∧ a.tmps[76]?.getD undef = _ ∧ True := hf
                        obtain ⟨f5, f6, f1, -, -⟩ := F
                        clear ho hf
                        go_simp
                        refine (HHR.out _ hR).mono ?_; rintro _ W1 ⟨rfl, hE⟩; exact hK _ _ hE (Eq.refl _)
                      refine And.intro ?_ ?_
                      · intro a W hR hf ho K hK
                        replace hR := ext_drew hR
                        have F : a.tmps[82]?.getD undef = _ ∧ a.tmps[76]?.getD undef = _ ∧ True := hf
                        obtain ⟨f7, f1, -⟩ := F
                        clear ho hf
                        go_simp
                        exact hK _ _ (Below.refl _ _) (Eq.refl _)
                      refine And.intro ?_ ?_
                      · intro a W hR hf ho K hK
                        replace hR := ext_drew hR
                        have F : a.tmps[76]?.getD undef = _ ∧ a.tmps[83]?.getD undef = _ ∧ True := hf
                        obtain ⟨f1, f8, -⟩ := F
                        clear ho hf
                        go_simp
                        exact hK _ _ (Below.refl _ _) (Eq.refl _)
                      exact trivial
                    case stab =>
                      refine And.intro is_stable ?_
                      refine And.intro is_stable ?_
                      refine And.intro is_stable ?_
                      refine And.intro is_stable ?_
                      refine And.intro is_stable ?_
                      refine And.intro is_stable ?_
                      refine And.intro is_stable ?_
                      refine And.intro is_stable ?_
                      refine And.intro is_stable ?_
                      refine And.intro is_stable ?_
                      exact trivial
                    case ends =>
                      intro vals W hR hall
                      replace hR := ext_drew hR
                      have e84 : vals 84 = _ := hall 9 (by decide)
                      clear hall
                      simp only [fill, List.setIfInBounds_toArray, List.set_cons_succ, List.set_cons_zero, e84]
                      have ER := Lib.hid hR
                      clear hR
                      go_wp2_with fail
                      exact ⟨⟨j + 1, by omega, by simp, by rw [HST.out, HNO.out], Lib.hid (by rw [HST.out, HNO.out]; exact hJ.out.ext (EV2.out.then ER.out))⟩, by simp [intOf]; omega⟩
                  | false =>
                    have HYE : Hid (openStep P g = P ++ [bareC g]) := Lib.hid (by unfold openStep; rw [HOB.out, hh]; simp)
                    rw [hh] at HHR
                    clear hh
                    go_wp2_with fail
                    refine wp_region_obl Ext [75, 76, 77, 78, 79, 80, 81, 82, 83, 84] (by kernel_rfl) (fun _ => Below.refl _ _) (fun _ _ _ => Ext.then) (by kernel_rfl) (by kernel_rfl) ?_
                    apply ex_is; apply Exists.intro
                    apply ex_is; apply Exists.intro
                    apply ex_is; apply Exists.intro
                    apply ex_is; apply Exists.intro
                    apply ex_is; apply Exists.intro
                    apply ex_is; apply Exists.intro
                    apply ex_is; apply Exists.intro
                    apply ex_is; apply Exists.intro
                    apply ex_is; apply Exists.intro
                    apply ex_is; apply Exists.intro
                    refine ⟨[], ⟨?steps, ?stab, ?ends⟩⟩
                    case steps =>
                      refine And.intro ?_ ?_
                      · intro a W hR hf ho K hK
                        replace hR := ext_drew hR
                        have G : a.tmps[8]?.getD undef = _ ∧ True := ho
                        obtain ⟨g8, -⟩ := G
                        clear ho hf
                        go_simp
                        exact hK _ _ (Below.refl _ _) (Eq.refl _)
                      refine And.intro ?_ ?_
                      · intro a W hR hf ho K hK
                        replace hR := ext_drew hR
                        have F : a.tmps[75]?.getD undef = _ ∧ True := hf
                        obtain ⟨f0, -⟩ := F
                        clear ho hf
                        go_simp
                        exact hK _ _ (Below.refl _ _) (Eq.refl _)
                      refine And.intro ?_ ?_
                      · intro a W hR hf ho K hK
                        replace hR := ext_drew hR
                        have G : a.tmps[3]?.getD undef = _ ∧ True := ho
                        obtain ⟨g3, -⟩ := G
                        have F : a.tmps[76]?.getD undef = _ ∧ True := hf
                        obtain ⟨f1, -⟩ := F
                        clear ho hf
                        go_simp
                        exact hK _ _ (Below.refl _ _) (Eq.refl _)
                      refine And.intro ?_ ?_
                      · intro a W hR hf ho K hK
                        replace hR := ext_drew hR
                        have F : a.tmps[77]?.getD undef = _ ∧ a.tmps[76]?.getD undef = _ ∧ True := hf
                        obtain ⟨f2, f1, -⟩ := F
                        clear ho hf
                        go_simp
                        exact hK _ _ (Below.refl _ _) (Eq.refl _)
                      refine And.intro ?_ ?_
                      · intro a W hR hf ho K hK
                        replace hR := ext_drew hR
                        have F : a.tmps[78]?.getD undef = _ ∧ a.tmps[76]?.getD undef = _ ∧ True := hf
                        obtain ⟨f3, f1, -⟩ := F
                        clear ho hf
                        go_simp
                        exact hK _ _ (Below.refl _ _) (Eq.refl _)
                      refine And.intro ?_ ?_
                      · intro a W hR hf ho K hK
                        replace hR := ext_drew hR
                        have F : a.tmps[79]?.getD undef = _ ∧ a.tmps[76]?.getD undef = _ ∧ True := hf
                        obtain ⟨f4, f1, -⟩ := F
                        clear ho hf
                        have q1 := cellAt (ext_at' hR HRW.out) 1 (.slice Ap P.length cp) rfl
                        go_simp
                        exact hK _ _ (Below.refl _ _) (Eq.refl _)
                      refine And.intro ?_ ?_
                      · intro a W hR hf ho K hK
                        replace hR := ext_drew hR
                        have G : a.tmps[7]?.getD undef = _ ∧ True := ho
                        obtain ⟨g7, -⟩ := G
                        have F : a.tmps[76]?.getD undef = _ ∧ True := hf
                        obtain ⟨f1, -⟩ := F
                        clear ho hf
                        obtain ⟨y0, y1, y2, y3, y4, y5⟩ := lie6' HBX.out hR
                        go_simp
                        exact hK _ _ (Below.refl _ _) (Eq.refl _)
                      refine And.intro ?_ ?_
                      · intro a W hR hf ho K hK
                        replace hR := ext_drew hR
                        have F : a.tmps[80]?.getD undef = _ ∧ a.tmps[81]?.getD undef = _ ∧ a.tmps[76]?.getD undef = _ ∧ a.tmps[76]?.getD undef = _ ∧ True := hf
                        obtain ⟨f5, f6, f1, -, -⟩ := F
                        clear ho hf
                        go_simp
                        refine (HHR.out _ hR).mono ?_; rintro _ W1 ⟨rfl, hE⟩; exact hK _ _ hE (Eq.refl _)
                      refine And.intro ?_ ?_
                      · intro a W hR hf ho K hK
                        replace hR := ext_drew hR
                        have F : a.tmps[82]?.getD undef = _ ∧ a.tmps[76]?.getD undef = _ ∧ True := hf
                        obtain ⟨f7, f1, -⟩ := F
                        clear ho hf
                        go_simp
                        exact hK _ _ (Below.refl _ _) (Eq.refl _)
                      refine And.intro ?_ ?_
                      · intro a W hR hf ho K hK
                        replace hR := ext_drew hR
                        have F : a.tmps[76]?.getD undef = _ ∧ a.tmps[83]?.getD undef = _ ∧ True := hf
                        obtain ⟨f1, f8, -⟩ := F
                        clear ho hf
                        go_simp
                        exact hK _ _ (Below.refl _ _) (Eq.refl _)
                      exact trivial
                    case stab =>
                      refine And.intro is_stable ?_
                      refine And.intro is_stable ?_
                      refine And.intro is_stable ?_
                      refine And.intro is_stable ?_
                      refine And.intro is_stable ?_
                      refine And.intro is_stable ?_
                      refine And.intro is_stable ?_
                      refine And.intro is_stable ?_
                      refine And.intro is_stable ?_
                      refine And.intro is_stable ?_
                      exact trivial
                    case ends =>
                      intro vals W hR hall
                      replace hR := ext_drew hR
                      have e84 : vals 84 = _ := hall 9 (by decide)
                      clear hall
                      simp only [fill, List.setIfInBounds_toArray, List.set_cons_succ, List.set_cons_zero, e84]
                      rename World => V3
                      have E3 : Hid (Ext wr V3) := Lib.hid (EV2.out.then hR)
                      have hS3 : Hid (RefAt (w.heap.size + 1) V3.drew w.heap.size (.slice (some ⟨b1, o1, none⟩) G.length cg) (.slice Ap P.length cp) G P) := Lib.hid (HSET.out.ext (Ext.drew E3.out))
                      have HB3 : Hid (V3.drew.heap[wr.heap.size]? = some (.cells (bareC g).cells.toArray 24)) := Lib.hid (ext_at' (Ext.drew hR) HBX.out)
                      have hsz : w.heap.size + 1 ≤ V3.drew.heap.size := Nat.le_trans (Nat.le_trans (Nat.le_of_eq sU.symm) hJ.out.only.size) E3.out.size
                      have HO3 : Hid (Only w.heap.size [24, 53] U V3.drew) := Lib.hid ((hJ.out.only.then E3.out).drew)
                      have HBE : Hid (bareC g = ⟨g.tag, g.base, g.top, g.base, g.perms, 0⟩) := Lib.hid rfl
                      clear hR
                      go_wp2_with fail
                      refine wp_region_res (Only w.heap.size [24, 53]) [⟨none, [], [7]⟩, ⟨none, [], [4, 10]⟩, ⟨some 6, [(6, [])], [7]⟩, ⟨none, [], [5]⟩, ⟨some 7, [(7, [])], [10]⟩, ⟨some 10, [(7, [7])], []⟩] [(fun (u : Nat → Value) (W : World) => (fun (_ : Value) (Y : World) => RefAt (w.heap.size + 1) Y w.heap.size (.slice (some ⟨b1, o1, none⟩) G.length cg) (.slice Ap P.length cp) G P) (undef) W), (fun (u : Nat → Value) (W : World) => (fun (_ : Value) (Y : World) => Y.heap[w.heap.size]? = some (.cells #[.slice (some ⟨b1, o1, none⟩) G.length cg, .slice Ap P.length cp] 53)) (undef) W), (fun (u : Nat → Value) (W : World) => (NewLit 0 1 (Cap.cells ⟨g.tag, g.base, g.top, g.base, g.perms, 0⟩) 24) (u 6) W), (fun (u : Nat → Value) (W : World) => (fun (_ : Value) (Y : World) => Y.heap[wr.heap.size]? = some (.cells (Cap.cells ⟨g.tag, g.base, g.top, g.base, g.perms, 0⟩).toArray 24)) (undef) W), (fun (u : Nat → Value) (W : World) => (fun (v : Value) (Y : World) => Y.ownsRow (w.heap.size + 1) 24 6 v (P.length + 1) (capCells P ++ Cap.cells ⟨g.tag, g.base, g.top, g.base, g.perms, 0⟩) ∧ Y.ownsRow (w.heap.size + 1) 24 6 (.slice (some ⟨b1, o1, none⟩) G.length cg) G.length (capCells G) ∧ Dis (.slice (some ⟨b1, o1, none⟩) G.length cg) v) (u 7) W), (fun (u : Nat → Value) (Y : World) => Y.heap[w.heap.size]? = some (.cells #[.slice (some ⟨b1, o1, none⟩) G.length cg, u 7] 53) ∧ Y.ownsRow (w.heap.size + 1) 24 6 (u 7) (P.length + 1) (capCells P ++ Cap.cells ⟨g.tag, g.base, g.top, g.base, g.perms, 0⟩) ∧ Y.ownsRow (w.heap.size + 1) 24 6 (.slice (some ⟨b1, o1, none⟩) G.length cg) G.length (capCells G) ∧ Dis (.slice (some ⟨b1, o1, none⟩) G.length cg) (u 7))] [⟨[], [.keep, .keep, .keep, .keep, .keep, .early [0]]⟩, ⟨[], [.keep, .keep, .keep, .keep, .early [4, 3, 2, 1], .early [1]]⟩, ⟨[], [.keep, .keep, .keep, .keep, .early [4, 3, 2], .early [2]]⟩, ⟨[], [.keep, .keep, .keep, .keep, .early [4, 3], .early [3]]⟩, ⟨[(1, [])], [.keep, .keep, .keep, .keep, .early [4], .early [4]]⟩, ⟨[(3, [])], [.keep, .keep, .early [5], .late [[]], .early [6, 5], .early [5]]⟩, ⟨[], [.keep, .keep, .last, .late [[5]], .early [6], .early [6]]⟩, ⟨[(0, []), (2, [6])], [.late [[]], .keep, .late [[]], .late [[6, 5]], .last, .early [7]]⟩, ⟨[], [.late [[7]], .keep, .late [[7]], .late [[5]], .keep, .early [9, 8]]⟩, ⟨[], [.late [[7]], .keep, .late [[7]], .late [[5]], .keep, .early [9]]⟩, ⟨[(1, []), (4, [7])], [.late [[7]], .late [[4], []], .late [[7]], .late [[5]], .late [[]], .last]⟩] [85, 86, 87, 88, 89, 90, 91, 92, 93, 94] (by kernel_rfl) (Only.refl _ _) (fun _ _ _ => Only.trans) (by kernel_rfl) (by kernel_rfl) (by kernel_rfl) (by kernel_rfl) (by kernel_rfl) ?start ?_
                      case start =>
                        refine And.intro ?_ ?_
                        · exact hS3.out
                        refine And.intro ?_ ?_
                        · exact hS3.out.row
                        refine And.intro ?_ ?_
                        · exact HB3.out
                        exact trivial
                      apply ex_is; apply Exists.intro
                      apply ex_is; apply Exists.intro
                      apply ex_is; apply Exists.intro
                      apply ex_is; apply Exists.intro
                      apply ex_is; apply Exists.intro
                      apply ex_is; apply Exists.intro
                      refine ex_phi (fun _ _ => True) ?_
                      refine ex_phi (fun _ _ => True) ?_
                      apply ex_is; apply Exists.intro
                      apply ex_is; apply Exists.intro
                      refine ex_phi (fun _ _ => True) ?_
                      refine ⟨[], ⟨?steps, ?stab, ?ends⟩⟩
                      case steps =>
                        refine And.intro (obX_pure (Only.refl _ _) ?_) ?_
                        · intro act W hR hf ho hu K hK
                          replace hK := fun v h2 => hK v W rfl h2 trivial
                          have G : act.tmps[3]?.getD undef = _ ∧ True := ho
                          obtain ⟨g3, -⟩ := G
                          clear ho hf hu
                          go_simp
                          exact hK _ (Eq.refl _)
                        refine And.intro (obX_pure (Only.refl _ _) ?_) ?_
                        · intro act W hR hf ho hu K hK
                          replace hK := fun v h2 => hK v W rfl h2 trivial
                          have G : act.tmps[3]?.getD undef = _ ∧ True := ho
                          obtain ⟨g3, -⟩ := G
                          clear ho hf hu
                          go_simp
                          exact hK _ (Eq.refl _)
                        refine And.intro (obX_pure (Only.refl _ _) ?_) ?_
                        · intro act W hR hf ho hu K hK
                          replace hK := fun v h2 => hK v W rfl h2 trivial
                          have F : act.tmps[86]?.getD undef = _ ∧ True := hf
                          obtain ⟨f1, -⟩ := F
                          clear ho hf hu
                          go_simp
                          exact hK _ (Eq.refl _)
                        refine And.intro (obX_pure (Only.refl _ _) ?_) ?_
                        · intro act W hR hf ho hu K hK
                          replace hK := fun v h2 => hK v W rfl h2 trivial
                          have F : act.tmps[87]?.getD undef = _ ∧ True := hf
                          obtain ⟨f2, -⟩ := F
                          clear ho hf hu
                          go_simp
                          exact hK _ (Eq.refl _)
                        refine And.intro (obX_pure (Only.refl _ _) ?_) ?_
                        · intro act W hR hf ho hu K hK
                          replace hK := fun v h2 => hK v W rfl h2 trivial
                          have F : act.tmps[88]?.getD undef = _ ∧ True := hf
                          obtain ⟨f3, -⟩ := F
                          have U : (fun (_ : Value) (Y : World) => Y.heap[w.heap.size]? = some (.cells #[.slice (some ⟨b1, o1, none⟩) G.length cg, .slice Ap P.length cp] 53)) (undef) W ∧ True := hu
                          obtain ⟨r_row, -⟩ := U
                          clear ho hf hu
                          have q5 := cellAt r_row 1 (.slice Ap P.length cp) rfl
                          go_simp
                          exact hK _ (Eq.refl _)
                        refine And.intro (obX_pure (Only.refl _ _) ?_) ?_
                        · intro act W hR hf ho hu K hK
                          replace hK := fun v h2 => hK v W rfl h2 trivial
                          have G : act.tmps[7]?.getD undef = _ ∧ True := ho
                          obtain ⟨g7, -⟩ := G
                          have U : (fun (_ : Value) (Y : World) => Y.heap[wr.heap.size]? = some (.cells (Cap.cells ⟨g.tag, g.base, g.top, g.base, g.perms, 0⟩).toArray 24)) (undef) W ∧ True := hu
                          obtain ⟨r_cap, -⟩ := U
                          clear ho hf hu
                          obtain ⟨y0, y1, y2, y3, y4, y5⟩ := lie6' r_cap (Below.refl _ W)
                          go_simp
                          exact hK _ (Eq.refl _)
                        refine And.intro (obX_eff (Ext) (fun _ _ h => Only.ext h) (And.intro (fun _ _ _ h e => h.ext e) (And.intro (fun _ _ _ h e => ext_at' e h) (trivial))) ?_) ?_
                        · intro act W hR hf ho hu K hK
                          replace hK := fun v (w' : World) (h1 : (Ext) W w') (b2 : (NewLit 0 1 (Cap.cells ⟨g.tag, g.base, g.top, g.base, g.perms, 0⟩) 24) (v) w') => hK v w' h1 trivial ⟨b2, trivial⟩
                          have F : act.tmps[90]?.getD undef = _ ∧ True := hf
                          obtain ⟨f5, -⟩ := F
                          clear ho hf hu
                          go_simp
                          exact hK _ _ (by repeat first | (with_reducible exact Below.refl _ _) | (with_reducible apply Ext.alloc) | (with_reducible apply Ext.drew) | (with_reducible apply Ext.drewN) | (with_reducible refine Ext.set ?_ (by simp))) (NewLit.new (Nat.zero_le _))
                        refine And.intro (obX_eff (Only (w.heap.size + 1) [24]) (fun _ _ h => h.mono (by omega) (by simp)) (And.intro (fun _ _ _ h e => e.row h (by decide)) (trivial)) ?_) ?_
                        · intro act W hR hf ho hu K hK
                          replace hK := fun v (w' : World) (h1 : (Only (w.heap.size + 1) [24]) W w') (b4 : (fun (v : Value) (Y : World) => Y.ownsRow (w.heap.size + 1) 24 6 v (P.length + 1) (capCells P ++ Cap.cells ⟨g.tag, g.base, g.top, g.base, g.perms, 0⟩) ∧ Y.ownsRow (w.heap.size + 1) 24 6 (.slice (some ⟨b1, o1, none⟩) G.length cg) G.length (capCells G) ∧ Dis (.slice (some ⟨b1, o1, none⟩) G.length cg) v) (v) w') => hK v w' h1 trivial ⟨b4, trivial⟩
                          have F : act.tmps[89]?.getD undef = _ ∧ (fun _ _ => True) (act.tmps[91]?.getD undef) W ∧ True := hf
                          obtain ⟨f4, -, -⟩ := F
                          have U : (fun (_ : Value) (Y : World) => RefAt (w.heap.size + 1) Y w.heap.size (.slice (some ⟨b1, o1, none⟩) G.length cg) (.slice Ap P.length cp) G P) (undef) W ∧ (NewLit 0 1 (Cap.cells ⟨g.tag, g.base, g.top, g.base, g.perms, 0⟩) 24) (act.tmps[91]?.getD undef) W ∧ True := hu
                          obtain ⟨r_own, r_n6, -⟩ := U
                          generalize f6 : act.tmps[91]?.getD undef = v6 at r_n6
                          clear ho hf hu
                          obtain ⟨b3, rfl, -, hl3⟩ := r_n6
                          dsimp only [Option.elim] at f4
                          rw [← seen_eq]; refine step_append_far W rfl (.tmp 89) (.tmp 91) 22 rfl (w.heap.size + 1) 24 ci (.agg #[.bool false, .int .i64 0, .int .i64 0, .int .i64 0, .int .i64 0, .int .i64 0]) 6 48 Try.underlying22 hci hci0 hci1 hci2 rfl (by decide) _ _ _ (eval_get f4) r_own.o ⟨b3, 0, none⟩ 1 1 (Cap.cells ⟨g.tag, g.base, g.top, g.base, g.perms, 0⟩) (eval_get f6) (lit_cells hl3) rfl (by simp [Value.oneCell']) (by unfold maxLen; omega) (by omega) (Nat.le_trans hsz hR.size) ?_; intro v' w' ho'; have hoth := ho'.other r_own.g r_own.dis; exact hK _ _ (Only.grown r_own.o ho'.grown (by simp)) ⟨ho'.own, hoth.1, hoth.2⟩
                        refine And.intro (obX_pure (Only.refl _ _) ?_) ?_
                        · intro act W hR hf ho hu K hK
                          replace hK := fun v h2 => hK v W rfl h2 trivial
                          have F : act.tmps[85]?.getD undef = _ ∧ act.tmps[85]?.getD undef = _ ∧ act.tmps[86]?.getD undef = _ ∧ act.tmps[87]?.getD undef = _ ∧ act.tmps[88]?.getD undef = _ ∧ act.tmps[89]?.getD undef = _ ∧ act.tmps[90]?.getD undef = _ ∧ (fun _ _ => True) (act.tmps[91]?.getD undef) W ∧ (fun _ _ => True) (act.tmps[92]?.getD undef) W ∧ True := hf
                          obtain ⟨f0, -, f1, f2, f3, f4, f5, -, -, -⟩ := F
                          generalize f6 : act.tmps[91]?.getD undef = v6
                          generalize f7 : act.tmps[92]?.getD undef = v7
                          clear ho hf hu
                          go_simp
                          exact hK _ (Eq.refl _)
                        refine And.intro (obX_pure (Only.refl _ _) ?_) ?_
                        · intro act W hR hf ho hu K hK
                          replace hK := fun v h2 => hK v W rfl h2 trivial
                          have F : act.tmps[93]?.getD undef = _ ∧ act.tmps[85]?.getD undef = _ ∧ act.tmps[86]?.getD undef = _ ∧ act.tmps[87]?.getD undef = _ ∧ act.tmps[88]?.getD undef = _ ∧ act.tmps[89]?.getD undef = _ ∧ act.tmps[90]?.getD undef = _ ∧ (fun _ _ => True) (act.tmps[91]?.getD undef) W ∧ (fun _ _ => True) (act.tmps[92]?.getD undef) W ∧ True := hf
                          obtain ⟨f8, f0, f1, f2, f3, f4, f5, -, -, -⟩ := F
                          generalize f6 : act.tmps[91]?.getD undef = v6
                          generalize f7 : act.tmps[92]?.getD undef = v7
                          clear ho hf hu
                          go_simp
                          exact hK _ (Eq.refl _)
                        refine And.intro (obX_eff (Only w.heap.size [24, 53]) (fun _ _ h => h) (trivial) ?_) ?_
                        · intro act W hR hf ho hu K hK
                          replace hK := fun (w' : World) (h1 : (Only w.heap.size [24, 53]) W w') (b5 : (fun (Y : World) => Y.heap[w.heap.size]? = some (.cells #[.slice (some ⟨b1, o1, none⟩) G.length cg, (act.tmps[92]?.getD undef)] 53) ∧ Y.ownsRow (w.heap.size + 1) 24 6 ((act.tmps[92]?.getD undef)) (P.length + 1) (capCells P ++ Cap.cells ⟨g.tag, g.base, g.top, g.base, g.perms, 0⟩) ∧ Y.ownsRow (w.heap.size + 1) 24 6 (.slice (some ⟨b1, o1, none⟩) G.length cg) G.length (capCells G) ∧ Dis (.slice (some ⟨b1, o1, none⟩) G.length cg) ((act.tmps[92]?.getD undef))) w') => hK undef w' h1 trivial ⟨b5, trivial⟩
                          have F : act.tmps[94]?.getD undef = _ ∧ (fun _ _ => True) (act.tmps[92]?.getD undef) W ∧ (fun _ _ => True) (act.tmps[92]?.getD undef) W ∧ act.tmps[85]?.getD undef = _ ∧ act.tmps[86]?.getD undef = _ ∧ act.tmps[87]?.getD undef = _ ∧ act.tmps[88]?.getD undef = _ ∧ act.tmps[89]?.getD undef = _ ∧ act.tmps[90]?.getD undef = _ ∧ (fun _ _ => True) (act.tmps[91]?.getD undef) W ∧ (fun _ _ => True) (act.tmps[92]?.getD undef) W ∧ True := hf
                          obtain ⟨f9, -, -, f0, f1, f2, f3, f4, f5, -, -, -⟩ := F
                          have U : (fun (_ : Value) (Y : World) => Y.heap[w.heap.size]? = some (.cells #[.slice (some ⟨b1, o1, none⟩) G.length cg, .slice Ap P.length cp] 53)) (undef) W ∧ (fun (v : Value) (Y : World) => Y.ownsRow (w.heap.size + 1) 24 6 v (P.length + 1) (capCells P ++ Cap.cells ⟨g.tag, g.base, g.top, g.base, g.perms, 0⟩) ∧ Y.ownsRow (w.heap.size + 1) 24 6 (.slice (some ⟨b1, o1, none⟩) G.length cg) G.length (capCells G) ∧ Dis (.slice (some ⟨b1, o1, none⟩) G.length cg) v) (act.tmps[92]?.getD undef) W ∧ True := hu
                          obtain ⟨r_row, r_r7, -⟩ := U
                          generalize f7 : act.tmps[92]?.getD undef = v7 at r_r7 hK
                          generalize f6 : act.tmps[91]?.getD undef = v6
                          clear ho hf hu
                          obtain ⟨A7, c7, rfl, -, -⟩ := Arr.own r_r7.1; have fz := frozen_row' r_row; have q6 := cellAt r_row 1 (.slice Ap P.length cp) rfl; have HF := Lib.hid (And.intro (Only.set (B := w.heap.size) (T := [24, 53]) (o := 1) r_row (Nat.le_refl _) (by simp) (.slice A7 (P.length + 1) c7)) (And.intro (set_row (o := 1) r_row (.slice A7 (P.length + 1) c7)) (Only.set (B := w.heap.size) (T := [53]) (o := 1) r_row (Nat.le_refl _) (by simp) (.slice A7 (P.length + 1) c7))))
                          go_simp
                          exact hK _ HF.out.1 ⟨HF.out.2.1, HF.out.2.2.own r_r7.1 (by decide), HF.out.2.2.own r_r7.2.1 (by decide), r_r7.2.2⟩
                        exact trivial
                      case stab =>
                        refine And.intro is_stable ?_
                        refine And.intro is_stable ?_
                        refine And.intro is_stable ?_
                        refine And.intro is_stable ?_
                        refine And.intro is_stable ?_
                        refine And.intro is_stable ?_
                        refine And.intro (fun _ _ _ h _ => h) ?_
                        refine And.intro (fun _ _ _ h _ => h) ?_
                        refine And.intro is_stable ?_
                        refine And.intro is_stable ?_
                        refine And.intro (fun _ _ _ h _ => h) ?_
                        exact trivial
                      case ends =>
                        intro vals W hR hE hall
                        have E : (fun (Y : World) => Y.heap[w.heap.size]? = some (.cells #[.slice (some ⟨b1, o1, none⟩) G.length cg, (vals 92)] 53) ∧ Y.ownsRow (w.heap.size + 1) 24 6 ((vals 92)) (P.length + 1) (capCells P ++ Cap.cells ⟨g.tag, g.base, g.top, g.base, g.perms, 0⟩) ∧ Y.ownsRow (w.heap.size + 1) 24 6 (.slice (some ⟨b1, o1, none⟩) G.length cg) G.length (capCells G) ∧ Dis (.slice (some ⟨b1, o1, none⟩) G.length cg) ((vals 92))) W ∧ True := hE
                        obtain ⟨e_fin, -⟩ := E
                        clear hE
                        clear hall
                        generalize ev92 : vals 92 = x92 at e_fin
                        simp only [fill, List.setIfInBounds_toArray, List.set_cons_succ, List.set_cons_zero, ev92]
                        obtain ⟨f1, f2, f3, f4⟩ := e_fin
                        have HF := Lib.hid (And.intro f1 (And.intro f2 (And.intro f3 (And.intro f4 (HO3.out.trans hR)))))
                        clear f1 f2 f3 f4 hR
                        go_wp2_with fail
                        refine ⟨⟨j + 1, by omega, by simp, ?_, Lib.hid ?_⟩, by simp [intOf]; omega⟩
                        · rw [HST.out, HYE.out, List.length_append, decide_eq_true (by simp; omega)]
                        · rw [HST.out, HYE.out]
                          refine ⟨HF.out.2.2.2.2, _, HF.out.1, HF.out.2.2.1, ?_, HF.out.2.2.2.1⟩
                          rw [List.length_append, capCells_app]
                          exact HF.out.2.1
              · have d1 : decide (g.ty ≤ 1) = false := decide_eq_false hty
                clear hty
                cases ha : authL P g.ty 64 with
                | true =>
                  have HOB : Hid (opensB P g = (true && !P.contains (bareC g))) := Lib.hid (by rw [HOB.out, ha, Bool.or_true])
                  rw [ha] at HOV
                  clear ha
                  go_wp2_with fail
                  rw [← HV.out]
                  refine wp_region_obl Ext [59, 60, 61, 62, 63, 64, 65, 66, 67, 68, 69, 70, 8] (by kernel_rfl) (fun _ => Below.refl _ _) (fun _ _ _ => Ext.then) (by kernel_rfl) (by kernel_rfl) ?_
                  apply ex_is; apply Exists.intro
                  apply ex_is; apply Exists.intro
                  apply ex_is; apply Exists.intro
                  apply ex_is; apply Exists.intro
                  apply ex_is; apply Exists.intro
                  apply ex_is; apply Exists.intro
                  apply ex_is; apply Exists.intro
                  apply ex_is; apply Exists.intro
                  apply ex_is; apply Exists.intro
                  apply ex_is; apply Exists.intro
                  apply ex_is; apply Exists.intro
                  apply ex_is; apply Exists.intro
                  apply ex_is; apply Exists.intro
                  refine ⟨[], ⟨?steps, ?stab, ?ends⟩⟩
                  case steps =>
                    refine And.intro ?_ ?_
                    · intro a W hR hf ho K hK
                      replace hR := ext_drew hR
                      have G : a.tmps[7]?.getD undef = _ ∧ True := ho
                      obtain ⟨g7, -⟩ := G
                      clear ho hf
                      go_simp
                      exact hK _ _ (Below.refl _ _) (Eq.refl _)
                    refine And.intro ?_ ?_
                    · intro a W hR hf ho K hK
                      replace hR := ext_drew hR
                      have F : a.tmps[59]?.getD undef = _ ∧ True := hf
                      obtain ⟨f0, -⟩ := F
                      clear ho hf
                      obtain ⟨y0, y1, y2, y3, y4, y5⟩ := lie6' HBV.out hR
                      go_simp
                      exact hK _ _ (Below.refl _ _) (Eq.refl _)
                    refine And.intro ?_ ?_
                    · intro a W hR hf ho K hK
                      replace hR := ext_drew hR
                      have F : a.tmps[60]?.getD undef = _ ∧ True := hf
                      obtain ⟨f1, -⟩ := F
                      clear ho hf
                      go_simp
                      exact hK _ _ (Below.refl _ _) (Eq.refl _)
                    refine And.intro ?_ ?_
                    · intro a W hR hf ho K hK
                      replace hR := ext_drew hR
                      have F : a.tmps[61]?.getD undef = _ ∧ True := hf
                      obtain ⟨f2, -⟩ := F
                      clear ho hf
                      go_simp
                      exact hK _ _ (Below.refl _ _) (Eq.refl _)
                    refine And.intro ?_ ?_
                    · intro a W hR hf ho K hK
                      replace hR := ext_drew hR
                      have G : a.tmps[3]?.getD undef = _ ∧ True := ho
                      obtain ⟨g3, -⟩ := G
                      have F : a.tmps[62]?.getD undef = _ ∧ True := hf
                      obtain ⟨f3, -⟩ := F
                      clear ho hf
                      go_simp
                      exact hK _ _ (Below.refl _ _) (Eq.refl _)
                    refine And.intro ?_ ?_
                    · intro a W hR hf ho K hK
                      replace hR := ext_drew hR
                      have F : a.tmps[63]?.getD undef = _ ∧ a.tmps[62]?.getD undef = _ ∧ True := hf
                      obtain ⟨f4, f3, -⟩ := F
                      clear ho hf
                      go_simp
                      exact hK _ _ (Below.refl _ _) (Eq.refl _)
                    refine And.intro ?_ ?_
                    · intro a W hR hf ho K hK
                      replace hR := ext_drew hR
                      have F : a.tmps[64]?.getD undef = _ ∧ a.tmps[62]?.getD undef = _ ∧ True := hf
                      obtain ⟨f5, f3, -⟩ := F
                      clear ho hf
                      go_simp
                      exact hK _ _ (Below.refl _ _) (Eq.refl _)
                    refine And.intro ?_ ?_
                    · intro a W hR hf ho K hK
                      replace hR := ext_drew hR
                      have F : a.tmps[65]?.getD undef = _ ∧ a.tmps[62]?.getD undef = _ ∧ True := hf
                      obtain ⟨f6, f3, -⟩ := F
                      clear ho hf
                      have q1b := cellAt (ext_at' hR (ext_at' EV.out HSET.out.row)) 1 (.slice Ap P.length cp) rfl
                      go_simp
                      exact hK _ _ (Below.refl _ _) (Eq.refl _)
                    refine And.intro ?_ ?_
                    · intro a W hR hf ho K hK
                      replace hR := ext_drew hR
                      have G : a.tmps[7]?.getD undef = _ ∧ True := ho
                      obtain ⟨g7, -⟩ := G
                      have F : a.tmps[62]?.getD undef = _ ∧ True := hf
                      obtain ⟨f3, -⟩ := F
                      clear ho hf
                      go_simp
                      exact hK _ _ (Below.refl _ _) (Eq.refl _)
                    refine And.intro ?_ ?_
                    · intro a W hR hf ho K hK
                      replace hR := ext_drew hR
                      have F : a.tmps[67]?.getD undef = _ ∧ a.tmps[62]?.getD undef = _ ∧ True := hf
                      obtain ⟨f8, f3, -⟩ := F
                      clear ho hf
                      obtain ⟨y0, y1, y2, y3, y4, y5⟩ := lie6' HBV.out hR
                      go_simp
                      exact hK _ _ (Below.refl _ _) (Eq.refl _)
                    refine And.intro ?_ ?_
                    · intro a W hR hf ho K hK
                      replace hR := ext_drew hR
                      have F : a.tmps[66]?.getD undef = _ ∧ a.tmps[68]?.getD undef = _ ∧ a.tmps[62]?.getD undef = _ ∧ a.tmps[62]?.getD undef = _ ∧ True := hf
                      obtain ⟨f7, f9, f3, -, -⟩ := F
                      clear ho hf
                      go_simp
                      refine (HOV.out _ (EV.out.then hR)).mono ?_; rintro _ W1 ⟨rfl, hE⟩; exact hK _ _ hE (Eq.refl _)
                    refine And.intro ?_ ?_
                    · intro a W hR hf ho K hK
                      replace hR := ext_drew hR
                      have F : a.tmps[62]?.getD undef = _ ∧ a.tmps[69]?.getD undef = _ ∧ True := hf
                      obtain ⟨f3, f10, -⟩ := F
                      clear ho hf
                      go_simp
                      exact hK _ _ (Below.refl _ _) (Eq.refl _)
                    refine And.intro ?_ ?_
                    · intro a W hR hf ho K hK
                      replace hR := ext_drew hR
                      have F : a.tmps[70]?.getD undef = _ ∧ a.tmps[69]?.getD undef = _ ∧ a.tmps[59]?.getD undef = _ ∧ a.tmps[60]?.getD undef = _ ∧ a.tmps[61]?.getD undef = _ ∧ a.tmps[62]?.getD undef = _ ∧ a.tmps[63]?.getD undef = _ ∧ a.tmps[64]?.getD undef = _ ∧ a.tmps[65]?.getD undef = _ ∧ a.tmps[66]?.getD undef = _ ∧ a.tmps[67]?.getD undef = _ ∧ a.tmps[68]?.getD undef = _ ∧ a.tmps[69]?.getD undef = _ ∧ a.tmps[70]?.getD undef = _ ∧ True := hf
                      obtain ⟨f11, f10, f0, f1, f2, f3, f4, f5, f6, f7, f8, f9, -, -, -⟩ := F
                      clear ho hf
                      go_simp
                      exact hK _ _ (Below.refl _ _) (Eq.refl _)
                    exact trivial
                  case stab =>
                    refine And.intro is_stable ?_
                    refine And.intro is_stable ?_
                    refine And.intro is_stable ?_
                    refine And.intro is_stable ?_
                    refine And.intro is_stable ?_
                    refine And.intro is_stable ?_
                    refine And.intro is_stable ?_
                    refine And.intro is_stable ?_
                    refine And.intro is_stable ?_
                    refine And.intro is_stable ?_
                    refine And.intro is_stable ?_
                    refine And.intro is_stable ?_
                    refine And.intro is_stable ?_
                    exact trivial
                  case ends =>
                    intro vals W hR hall
                    replace hR := ext_drew hR
                    have e8 : vals 8 = _ := hall 12 (by decide)
                    clear hall
                    simp only [fill, List.setIfInBounds_toArray, List.set_cons_succ, List.set_cons_zero, e8]
                    rename World => V1
                    have E1 : Hid (Ext V V1) := Lib.hid hR
                    have hb1 := ext_at' hR HBV.out
                    obtain ⟨y0, y1, y2, y3, y4, y5⟩ := lie6' hb1 (Below.refl _ V1)
                    have fz := frozen_row' hb1
                    have hlt1 := cell_lt y0
                    simp only at hlt1
                    have HB1 := Lib.hid hb1
                    clear hb1 hR
                    go_wp2_with fail
                    obtain ⟨V2, hV2⟩ : ∃ V2, V2 = (V1.setCell ⟨wr.heap.size, 5, none⟩ (.int .i64 0)).setCell ⟨wr.heap.size, 3, none⟩ (.int .i64 g.base) := ⟨_, rfl⟩
                    rw [← hV2]
                    have HBX : Hid (V2.heap[wr.heap.size]? = some (.cells (bareC g).cells.toArray 24)) := Lib.hid (by rw [hV2]; exact set_row (o := 3) (set_row (o := 5) HB1.out (.int .i64 0)) (.int .i64 g.base))
                    have EV2 : Hid (Ext wr V2) := Lib.hid (by rw [hV2]; exact ((EV.out.then E1.out).set (Nat.le_refl _)).set (Nat.le_refl _))
                    have HRW : Hid (V2.heap[w.heap.size]? = some (.cells #[.slice (some ⟨b1, o1, none⟩) G.length cg, .slice Ap P.length cp] 53)) := Lib.hid (ext_at' EV2.out HSET.out.row)
                    have HHR := Lib.hid (fun (W : World) (e : Ext V2 W) => hasR_any Ap cp P (bareC g) W (HAP.out.ext (EV2.out.then e)) hPl)
                    clear hV2 y0 y1 y2 y3 y4 y5 fz hlt1
                    cases hh : P.contains (bareC g) with
                    | true =>
                      have HNO : Hid (openStep P g = P) := Lib.hid (by unfold openStep; rw [HOB.out, hh]; simp)
                      rw [hh] at HHR
                      clear hh
                      go_wp2_with fail
                      refine wp_region_obl Ext [75, 76, 77, 78, 79, 80, 81, 82, 83, 84] (by kernel_rfl) (fun _ => Below.refl _ _) (fun _ _ _ => Ext.then) (by kernel_rfl) (by kernel_rfl) ?_
                      apply ex_is; apply Exists.intro
                      apply ex_is; apply Exists.intro
                      apply ex_is; apply Exists.intro
                      apply ex_is; apply Exists.intro
                      apply ex_is; apply Exists.intro
                      apply ex_is; apply Exists.intro
                      apply ex_is; apply Exists.intro
                      apply ex_is; apply Exists.intro
                      apply ex_is; apply Exists.intro
                      apply ex_is; apply Exists.intro
                      refine ⟨[], ⟨?steps, ?stab, ?ends⟩⟩
                      case steps =>
                        refine And.intro ?_ ?_
                        · intro a W hR hf ho K hK
                          replace hR := ext_drew hR
                          have G : a.tmps[8]?.getD undef = _ ∧ True := ho
                          obtain ⟨g8, -⟩ := G
                          clear ho hf
                          go_simp
                          exact hK _ _ (Below.refl _ _) (Eq.refl _)
                        refine And.intro ?_ ?_
                        · intro a W hR hf ho K hK
                          replace hR := ext_drew hR
                          have F : a.tmps[75]?.getD undef = _ ∧ True := hf
                          obtain ⟨f0, -⟩ := F
                          clear ho hf
                          go_simp
                          exact hK _ _ (Below.refl _ _) (Eq.refl _)
                        refine And.intro ?_ ?_
                        · intro a W hR hf ho K hK
                          replace hR := ext_drew hR
                          have G : a.tmps[3]?.getD undef = _ ∧ True := ho
                          obtain ⟨g3, -⟩ := G
                          have F : a.tmps[76]?.getD undef = _ ∧ True := hf
                          obtain ⟨f1, -⟩ := F
                          clear ho hf
                          go_simp
                          exact hK _ _ (Below.refl _ _) (Eq.refl _)
                        refine And.intro ?_ ?_
                        · intro a W hR hf ho K hK
                          replace hR := ext_drew hR
                          have F : a.tmps[77]?.getD undef = _ ∧ a.tmps[76]?.getD undef = _ ∧ True := hf
                          obtain ⟨f2, f1, -⟩ := F
                          clear ho hf
                          go_simp
                          exact hK _ _ (Below.refl _ _) (Eq.refl _)
                        refine And.intro ?_ ?_
                        · intro a W hR hf ho K hK
                          replace hR := ext_drew hR
                          have F : a.tmps[78]?.getD undef = _ ∧ a.tmps[76]?.getD undef = _ ∧ True := hf
                          obtain ⟨f3, f1, -⟩ := F
                          clear ho hf
                          go_simp
                          exact hK _ _ (Below.refl _ _) (Eq.refl _)
                        refine And.intro ?_ ?_
                        · intro a W hR hf ho K hK
                          replace hR := ext_drew hR
                          have F : a.tmps[79]?.getD undef = _ ∧ a.tmps[76]?.getD undef = _ ∧ True := hf
                          obtain ⟨f4, f1, -⟩ := F
                          clear ho hf
                          have q1 := cellAt (ext_at' hR HRW.out) 1 (.slice Ap P.length cp) rfl
                          go_simp
                          exact hK _ _ (Below.refl _ _) (Eq.refl _)
                        refine And.intro ?_ ?_
                        · intro a W hR hf ho K hK
                          replace hR := ext_drew hR
                          have G : a.tmps[7]?.getD undef = _ ∧ True := ho
                          obtain ⟨g7, -⟩ := G
                          have F : a.tmps[76]?.getD undef = _ ∧ True := hf
                          obtain ⟨f1, -⟩ := F
                          clear ho hf
                          obtain ⟨y0, y1, y2, y3, y4, y5⟩ := lie6' HBX.out hR
                          go_simp
                          exact hK _ _ (Below.refl _ _) (Eq.refl _)
                        refine And.intro ?_ ?_
                        · intro a W hR hf ho K hK
                          replace hR := ext_drew hR
                          have F : a.tmps[80]?.getD undef = _ ∧ a.tmps[81]?.getD undef = _ ∧ a.tmps[76]?.getD undef = _ ∧ a.tmps[76]?.getD undef = _ ∧ True := hf
                          obtain ⟨f5, f6, f1, -, -⟩ := F
                          clear ho hf
                          go_simp
                          refine (HHR.out _ hR).mono ?_; rintro _ W1 ⟨rfl, hE⟩; exact hK _ _ hE (Eq.refl _)
                        refine And.intro ?_ ?_
                        · intro a W hR hf ho K hK
                          replace hR := ext_drew hR
                          have F : a.tmps[82]?.getD undef = _ ∧ a.tmps[76]?.getD undef = _ ∧ True := hf
                          obtain ⟨f7, f1, -⟩ := F
                          clear ho hf
                          go_simp
                          exact hK _ _ (Below.refl _ _) (Eq.refl _)
                        refine And.intro ?_ ?_
                        · intro a W hR hf ho K hK
                          replace hR := ext_drew hR
                          have F : a.tmps[76]?.getD undef = _ ∧ a.tmps[83]?.getD undef = _ ∧ True := hf
                          obtain ⟨f1, f8, -⟩ := F
                          clear ho hf
                          go_simp
                          exact hK _ _ (Below.refl _ _) (Eq.refl _)
                        exact trivial
                      case stab =>
                        refine And.intro is_stable ?_
                        refine And.intro is_stable ?_
                        refine And.intro is_stable ?_
                        refine And.intro is_stable ?_
                        refine And.intro is_stable ?_
                        refine And.intro is_stable ?_
                        refine And.intro is_stable ?_
                        refine And.intro is_stable ?_
                        refine And.intro is_stable ?_
                        refine And.intro is_stable ?_
                        exact trivial
                      case ends =>
                        intro vals W hR hall
                        replace hR := ext_drew hR
                        have e84 : vals 84 = _ := hall 9 (by decide)
                        clear hall
                        simp only [fill, List.setIfInBounds_toArray, List.set_cons_succ, List.set_cons_zero, e84]
                        have ER := Lib.hid hR
                        clear hR
                        go_wp2_with fail
                        exact ⟨⟨j + 1, by omega, by simp, by rw [HST.out, HNO.out], Lib.hid (by rw [HST.out, HNO.out]; exact hJ.out.ext (EV2.out.then ER.out))⟩, by simp [intOf]; omega⟩
                    | false =>
                      have HYE : Hid (openStep P g = P ++ [bareC g]) := Lib.hid (by unfold openStep; rw [HOB.out, hh]; simp)
                      rw [hh] at HHR
                      clear hh
                      go_wp2_with fail
                      refine wp_region_obl Ext [75, 76, 77, 78, 79, 80, 81, 82, 83, 84] (by kernel_rfl) (fun _ => Below.refl _ _) (fun _ _ _ => Ext.then) (by kernel_rfl) (by kernel_rfl) ?_
                      apply ex_is; apply Exists.intro
                      apply ex_is; apply Exists.intro
                      apply ex_is; apply Exists.intro
                      apply ex_is; apply Exists.intro
                      apply ex_is; apply Exists.intro
                      apply ex_is; apply Exists.intro
                      apply ex_is; apply Exists.intro
                      apply ex_is; apply Exists.intro
                      apply ex_is; apply Exists.intro
                      apply ex_is; apply Exists.intro
                      refine ⟨[], ⟨?steps, ?stab, ?ends⟩⟩
                      case steps =>
                        refine And.intro ?_ ?_
                        · intro a W hR hf ho K hK
                          replace hR := ext_drew hR
                          have G : a.tmps[8]?.getD undef = _ ∧ True := ho
                          obtain ⟨g8, -⟩ := G
                          clear ho hf
                          go_simp
                          exact hK _ _ (Below.refl _ _) (Eq.refl _)
                        refine And.intro ?_ ?_
                        · intro a W hR hf ho K hK
                          replace hR := ext_drew hR
                          have F : a.tmps[75]?.getD undef = _ ∧ True := hf
                          obtain ⟨f0, -⟩ := F
                          clear ho hf
                          go_simp
                          exact hK _ _ (Below.refl _ _) (Eq.refl _)
                        refine And.intro ?_ ?_
                        · intro a W hR hf ho K hK
                          replace hR := ext_drew hR
                          have G : a.tmps[3]?.getD undef = _ ∧ True := ho
                          obtain ⟨g3, -⟩ := G
                          have F : a.tmps[76]?.getD undef = _ ∧ True := hf
                          obtain ⟨f1, -⟩ := F
                          clear ho hf
                          go_simp
                          exact hK _ _ (Below.refl _ _) (Eq.refl _)
                        refine And.intro ?_ ?_
                        · intro a W hR hf ho K hK
                          replace hR := ext_drew hR
                          have F : a.tmps[77]?.getD undef = _ ∧ a.tmps[76]?.getD undef = _ ∧ True := hf
                          obtain ⟨f2, f1, -⟩ := F
                          clear ho hf
                          go_simp
                          exact hK _ _ (Below.refl _ _) (Eq.refl _)
                        refine And.intro ?_ ?_
                        · intro a W hR hf ho K hK
                          replace hR := ext_drew hR
                          have F : a.tmps[78]?.getD undef = _ ∧ a.tmps[76]?.getD undef = _ ∧ True := hf
                          obtain ⟨f3, f1, -⟩ := F
                          clear ho hf
                          go_simp
                          exact hK _ _ (Below.refl _ _) (Eq.refl _)
                        refine And.intro ?_ ?_
                        · intro a W hR hf ho K hK
                          replace hR := ext_drew hR
                          have F : a.tmps[79]?.getD undef = _ ∧ a.tmps[76]?.getD undef = _ ∧ True := hf
                          obtain ⟨f4, f1, -⟩ := F
                          clear ho hf
                          have q1 := cellAt (ext_at' hR HRW.out) 1 (.slice Ap P.length cp) rfl
                          go_simp
                          exact hK _ _ (Below.refl _ _) (Eq.refl _)
                        refine And.intro ?_ ?_
                        · intro a W hR hf ho K hK
                          replace hR := ext_drew hR
                          have G : a.tmps[7]?.getD undef = _ ∧ True := ho
                          obtain ⟨g7, -⟩ := G
                          have F : a.tmps[76]?.getD undef = _ ∧ True := hf
                          obtain ⟨f1, -⟩ := F
                          clear ho hf
                          obtain ⟨y0, y1, y2, y3, y4, y5⟩ := lie6' HBX.out hR
                          go_simp
                          exact hK _ _ (Below.refl _ _) (Eq.refl _)
                        refine And.intro ?_ ?_
                        · intro a W hR hf ho K hK
                          replace hR := ext_drew hR
                          have F : a.tmps[80]?.getD undef = _ ∧ a.tmps[81]?.getD undef = _ ∧ a.tmps[76]?.getD undef = _ ∧ a.tmps[76]?.getD undef = _ ∧ True := hf
                          obtain ⟨f5, f6, f1, -, -⟩ := F
                          clear ho hf
                          go_simp
                          refine (HHR.out _ hR).mono ?_; rintro _ W1 ⟨rfl, hE⟩; exact hK _ _ hE (Eq.refl _)
                        refine And.intro ?_ ?_
                        · intro a W hR hf ho K hK
                          replace hR := ext_drew hR
                          have F : a.tmps[82]?.getD undef = _ ∧ a.tmps[76]?.getD undef = _ ∧ True := hf
                          obtain ⟨f7, f1, -⟩ := F
                          clear ho hf
                          go_simp
                          exact hK _ _ (Below.refl _ _) (Eq.refl _)
                        refine And.intro ?_ ?_
                        · intro a W hR hf ho K hK
                          replace hR := ext_drew hR
                          have F : a.tmps[76]?.getD undef = _ ∧ a.tmps[83]?.getD undef = _ ∧ True := hf
                          obtain ⟨f1, f8, -⟩ := F
                          clear ho hf
                          go_simp
                          exact hK _ _ (Below.refl _ _) (Eq.refl _)
                        exact trivial
                      case stab =>
                        refine And.intro is_stable ?_
                        refine And.intro is_stable ?_
                        refine And.intro is_stable ?_
                        refine And.intro is_stable ?_
                        refine And.intro is_stable ?_
                        refine And.intro is_stable ?_
                        refine And.intro is_stable ?_
                        refine And.intro is_stable ?_
                        refine And.intro is_stable ?_
                        refine And.intro is_stable ?_
                        exact trivial
                      case ends =>
                        intro vals W hR hall
                        replace hR := ext_drew hR
                        have e84 : vals 84 = _ := hall 9 (by decide)
                        clear hall
                        simp only [fill, List.setIfInBounds_toArray, List.set_cons_succ, List.set_cons_zero, e84]
                        rename World => V3
                        have E3 : Hid (Ext wr V3) := Lib.hid (EV2.out.then hR)
                        have hS3 : Hid (RefAt (w.heap.size + 1) V3.drew w.heap.size (.slice (some ⟨b1, o1, none⟩) G.length cg) (.slice Ap P.length cp) G P) := Lib.hid (HSET.out.ext (Ext.drew E3.out))
                        have HB3 : Hid (V3.drew.heap[wr.heap.size]? = some (.cells (bareC g).cells.toArray 24)) := Lib.hid (ext_at' (Ext.drew hR) HBX.out)
                        have hsz : w.heap.size + 1 ≤ V3.drew.heap.size := Nat.le_trans (Nat.le_trans (Nat.le_of_eq sU.symm) hJ.out.only.size) E3.out.size
                        have HO3 : Hid (Only w.heap.size [24, 53] U V3.drew) := Lib.hid ((hJ.out.only.then E3.out).drew)
                        have HBE : Hid (bareC g = ⟨g.tag, g.base, g.top, g.base, g.perms, 0⟩) := Lib.hid rfl
                        clear hR
                        go_wp2_with fail
                        refine wp_region_res (Only w.heap.size [24, 53]) [⟨none, [], [7]⟩, ⟨none, [], [4, 10]⟩, ⟨some 6, [(6, [])], [7]⟩, ⟨none, [], [5]⟩, ⟨some 7, [(7, [])], [10]⟩, ⟨some 10, [(7, [7])], []⟩] [(fun (u : Nat → Value) (W : World) => (fun (_ : Value) (Y : World) => RefAt (w.heap.size + 1) Y w.heap.size (.slice (some ⟨b1, o1, none⟩) G.length cg) (.slice Ap P.length cp) G P) (undef) W), (fun (u : Nat → Value) (W : World) => (fun (_ : Value) (Y : World) => Y.heap[w.heap.size]? = some (.cells #[.slice (some ⟨b1, o1, none⟩) G.length cg, .slice Ap P.length cp] 53)) (undef) W), (fun (u : Nat → Value) (W : World) => (NewLit 0 1 (Cap.cells ⟨g.tag, g.base, g.top, g.base, g.perms, 0⟩) 24) (u 6) W), (fun (u : Nat → Value) (W : World) => (fun (_ : Value) (Y : World) => Y.heap[wr.heap.size]? = some (.cells (Cap.cells ⟨g.tag, g.base, g.top, g.base, g.perms, 0⟩).toArray 24)) (undef) W), (fun (u : Nat → Value) (W : World) => (fun (v : Value) (Y : World) => Y.ownsRow (w.heap.size + 1) 24 6 v (P.length + 1) (capCells P ++ Cap.cells ⟨g.tag, g.base, g.top, g.base, g.perms, 0⟩) ∧ Y.ownsRow (w.heap.size + 1) 24 6 (.slice (some ⟨b1, o1, none⟩) G.length cg) G.length (capCells G) ∧ Dis (.slice (some ⟨b1, o1, none⟩) G.length cg) v) (u 7) W), (fun (u : Nat → Value) (Y : World) => Y.heap[w.heap.size]? = some (.cells #[.slice (some ⟨b1, o1, none⟩) G.length cg, u 7] 53) ∧ Y.ownsRow (w.heap.size + 1) 24 6 (u 7) (P.length + 1) (capCells P ++ Cap.cells ⟨g.tag, g.base, g.top, g.base, g.perms, 0⟩) ∧ Y.ownsRow (w.heap.size + 1) 24 6 (.slice (some ⟨b1, o1, none⟩) G.length cg) G.length (capCells G) ∧ Dis (.slice (some ⟨b1, o1, none⟩) G.length cg) (u 7))] [⟨[], [.keep, .keep, .keep, .keep, .keep, .early [0]]⟩, ⟨[], [.keep, .keep, .keep, .keep, .early [4, 3, 2, 1], .early [1]]⟩, ⟨[], [.keep, .keep, .keep, .keep, .early [4, 3, 2], .early [2]]⟩, ⟨[], [.keep, .keep, .keep, .keep, .early [4, 3], .early [3]]⟩, ⟨[(1, [])], [.keep, .keep, .keep, .keep, .early [4], .early [4]]⟩, ⟨[(3, [])], [.keep, .keep, .early [5], .late [[]], .early [6, 5], .early [5]]⟩, ⟨[], [.keep, .keep, .last, .late [[5]], .early [6], .early [6]]⟩, ⟨[(0, []), (2, [6])], [.late [[]], .keep, .late [[]], .late [[6, 5]], .last, .early [7]]⟩, ⟨[], [.late [[7]], .keep, .late [[7]], .late [[5]], .keep, .early [9, 8]]⟩, ⟨[], [.late [[7]], .keep, .late [[7]], .late [[5]], .keep, .early [9]]⟩, ⟨[(1, []), (4, [7])], [.late [[7]], .late [[4], []], .late [[7]], .late [[5]], .late [[]], .last]⟩] [85, 86, 87, 88, 89, 90, 91, 92, 93, 94] (by kernel_rfl) (Only.refl _ _) (fun _ _ _ => Only.trans) (by kernel_rfl) (by kernel_rfl) (by kernel_rfl) (by kernel_rfl) (by kernel_rfl) ?start ?_
                        case start =>
                          refine And.intro ?_ ?_
                          · exact hS3.out
                          refine And.intro ?_ ?_
                          · exact hS3.out.row
                          refine And.intro ?_ ?_
                          · exact HB3.out
                          exact trivial
                        apply ex_is; apply Exists.intro
                        apply ex_is; apply Exists.intro
                        apply ex_is; apply Exists.intro
                        apply ex_is; apply Exists.intro
                        apply ex_is; apply Exists.intro
                        apply ex_is; apply Exists.intro
                        refine ex_phi (fun _ _ => True) ?_
                        refine ex_phi (fun _ _ => True) ?_
                        apply ex_is; apply Exists.intro
                        apply ex_is; apply Exists.intro
                        refine ex_phi (fun _ _ => True) ?_
                        refine ⟨[], ⟨?steps, ?stab, ?ends⟩⟩
                        case steps =>
                          refine And.intro (obX_pure (Only.refl _ _) ?_) ?_
                          · intro act W hR hf ho hu K hK
                            replace hK := fun v h2 => hK v W rfl h2 trivial
                            have G : act.tmps[3]?.getD undef = _ ∧ True := ho
                            obtain ⟨g3, -⟩ := G
                            clear ho hf hu
                            go_simp
                            exact hK _ (Eq.refl _)
                          refine And.intro (obX_pure (Only.refl _ _) ?_) ?_
                          · intro act W hR hf ho hu K hK
                            replace hK := fun v h2 => hK v W rfl h2 trivial
                            have G : act.tmps[3]?.getD undef = _ ∧ True := ho
                            obtain ⟨g3, -⟩ := G
                            clear ho hf hu
                            go_simp
                            exact hK _ (Eq.refl _)
                          refine And.intro (obX_pure (Only.refl _ _) ?_) ?_
                          · intro act W hR hf ho hu K hK
                            replace hK := fun v h2 => hK v W rfl h2 trivial
                            have F : act.tmps[86]?.getD undef = _ ∧ True := hf
                            obtain ⟨f1, -⟩ := F
                            clear ho hf hu
                            go_simp
                            exact hK _ (Eq.refl _)
                          refine And.intro (obX_pure (Only.refl _ _) ?_) ?_
                          · intro act W hR hf ho hu K hK
                            replace hK := fun v h2 => hK v W rfl h2 trivial
                            have F : act.tmps[87]?.getD undef = _ ∧ True := hf
                            obtain ⟨f2, -⟩ := F
                            clear ho hf hu
                            go_simp
                            exact hK _ (Eq.refl _)
                          refine And.intro (obX_pure (Only.refl _ _) ?_) ?_
                          · intro act W hR hf ho hu K hK
                            replace hK := fun v h2 => hK v W rfl h2 trivial
                            have F : act.tmps[88]?.getD undef = _ ∧ True := hf
                            obtain ⟨f3, -⟩ := F
                            have U : (fun (_ : Value) (Y : World) => Y.heap[w.heap.size]? = some (.cells #[.slice (some ⟨b1, o1, none⟩) G.length cg, .slice Ap P.length cp] 53)) (undef) W ∧ True := hu
                            obtain ⟨r_row, -⟩ := U
                            clear ho hf hu
                            have q5 := cellAt r_row 1 (.slice Ap P.length cp) rfl
                            go_simp
                            exact hK _ (Eq.refl _)
                          refine And.intro (obX_pure (Only.refl _ _) ?_) ?_
                          · intro act W hR hf ho hu K hK
                            replace hK := fun v h2 => hK v W rfl h2 trivial
                            have G : act.tmps[7]?.getD undef = _ ∧ True := ho
                            obtain ⟨g7, -⟩ := G
                            have U : (fun (_ : Value) (Y : World) => Y.heap[wr.heap.size]? = some (.cells (Cap.cells ⟨g.tag, g.base, g.top, g.base, g.perms, 0⟩).toArray 24)) (undef) W ∧ True := hu
                            obtain ⟨r_cap, -⟩ := U
                            clear ho hf hu
                            obtain ⟨y0, y1, y2, y3, y4, y5⟩ := lie6' r_cap (Below.refl _ W)
                            go_simp
                            exact hK _ (Eq.refl _)
                          refine And.intro (obX_eff (Ext) (fun _ _ h => Only.ext h) (And.intro (fun _ _ _ h e => h.ext e) (And.intro (fun _ _ _ h e => ext_at' e h) (trivial))) ?_) ?_
                          · intro act W hR hf ho hu K hK
                            replace hK := fun v (w' : World) (h1 : (Ext) W w') (b2 : (NewLit 0 1 (Cap.cells ⟨g.tag, g.base, g.top, g.base, g.perms, 0⟩) 24) (v) w') => hK v w' h1 trivial ⟨b2, trivial⟩
                            have F : act.tmps[90]?.getD undef = _ ∧ True := hf
                            obtain ⟨f5, -⟩ := F
                            clear ho hf hu
                            go_simp
                            exact hK _ _ (by repeat first | (with_reducible exact Below.refl _ _) | (with_reducible apply Ext.alloc) | (with_reducible apply Ext.drew) | (with_reducible apply Ext.drewN) | (with_reducible refine Ext.set ?_ (by simp))) (NewLit.new (Nat.zero_le _))
                          refine And.intro (obX_eff (Only (w.heap.size + 1) [24]) (fun _ _ h => h.mono (by omega) (by simp)) (And.intro (fun _ _ _ h e => e.row h (by decide)) (trivial)) ?_) ?_
                          · intro act W hR hf ho hu K hK
                            replace hK := fun v (w' : World) (h1 : (Only (w.heap.size + 1) [24]) W w') (b4 : (fun (v : Value) (Y : World) => Y.ownsRow (w.heap.size + 1) 24 6 v (P.length + 1) (capCells P ++ Cap.cells ⟨g.tag, g.base, g.top, g.base, g.perms, 0⟩) ∧ Y.ownsRow (w.heap.size + 1) 24 6 (.slice (some ⟨b1, o1, none⟩) G.length cg) G.length (capCells G) ∧ Dis (.slice (some ⟨b1, o1, none⟩) G.length cg) v) (v) w') => hK v w' h1 trivial ⟨b4, trivial⟩
                            have F : act.tmps[89]?.getD undef = _ ∧ (fun _ _ => True) (act.tmps[91]?.getD undef) W ∧ True := hf
                            obtain ⟨f4, -, -⟩ := F
                            have U : (fun (_ : Value) (Y : World) => RefAt (w.heap.size + 1) Y w.heap.size (.slice (some ⟨b1, o1, none⟩) G.length cg) (.slice Ap P.length cp) G P) (undef) W ∧ (NewLit 0 1 (Cap.cells ⟨g.tag, g.base, g.top, g.base, g.perms, 0⟩) 24) (act.tmps[91]?.getD undef) W ∧ True := hu
                            obtain ⟨r_own, r_n6, -⟩ := U
                            generalize f6 : act.tmps[91]?.getD undef = v6 at r_n6
                            clear ho hf hu
                            obtain ⟨b3, rfl, -, hl3⟩ := r_n6
                            dsimp only [Option.elim] at f4
                            rw [← seen_eq]; refine step_append_far W rfl (.tmp 89) (.tmp 91) 22 rfl (w.heap.size + 1) 24 ci (.agg #[.bool false, .int .i64 0, .int .i64 0, .int .i64 0, .int .i64 0, .int .i64 0]) 6 48 Try.underlying22 hci hci0 hci1 hci2 rfl (by decide) _ _ _ (eval_get f4) r_own.o ⟨b3, 0, none⟩ 1 1 (Cap.cells ⟨g.tag, g.base, g.top, g.base, g.perms, 0⟩) (eval_get f6) (lit_cells hl3) rfl (by simp [Value.oneCell']) (by unfold maxLen; omega) (by omega) (Nat.le_trans hsz hR.size) ?_; intro v' w' ho'; have hoth := ho'.other r_own.g r_own.dis; exact hK _ _ (Only.grown r_own.o ho'.grown (by simp)) ⟨ho'.own, hoth.1, hoth.2⟩
                          refine And.intro (obX_pure (Only.refl _ _) ?_) ?_
                          · intro act W hR hf ho hu K hK
                            replace hK := fun v h2 => hK v W rfl h2 trivial
                            have F : act.tmps[85]?.getD undef = _ ∧ act.tmps[85]?.getD undef = _ ∧ act.tmps[86]?.getD undef = _ ∧ act.tmps[87]?.getD undef = _ ∧ act.tmps[88]?.getD undef = _ ∧ act.tmps[89]?.getD undef = _ ∧ act.tmps[90]?.getD undef = _ ∧ (fun _ _ => True) (act.tmps[91]?.getD undef) W ∧ (fun _ _ => True) (act.tmps[92]?.getD undef) W ∧ True := hf
                            obtain ⟨f0, -, f1, f2, f3, f4, f5, -, -, -⟩ := F
                            generalize f6 : act.tmps[91]?.getD undef = v6
                            generalize f7 : act.tmps[92]?.getD undef = v7
                            clear ho hf hu
                            go_simp
                            exact hK _ (Eq.refl _)
                          refine And.intro (obX_pure (Only.refl _ _) ?_) ?_
                          · intro act W hR hf ho hu K hK
                            replace hK := fun v h2 => hK v W rfl h2 trivial
                            have F : act.tmps[93]?.getD undef = _ ∧ act.tmps[85]?.getD undef = _ ∧ act.tmps[86]?.getD undef = _ ∧ act.tmps[87]?.getD undef = _ ∧ act.tmps[88]?.getD undef = _ ∧ act.tmps[89]?.getD undef = _ ∧ act.tmps[90]?.getD undef = _ ∧ (fun _ _ => True) (act.tmps[91]?.getD undef) W ∧ (fun _ _ => True) (act.tmps[92]?.getD undef) W ∧ True := hf
                            obtain ⟨f8, f0, f1, f2, f3, f4, f5, -, -, -⟩ := F
                            generalize f6 : act.tmps[91]?.getD undef = v6
                            generalize f7 : act.tmps[92]?.getD undef = v7
                            clear ho hf hu
                            go_simp
                            exact hK _ (Eq.refl _)
                          refine And.intro (obX_eff (Only w.heap.size [24, 53]) (fun _ _ h => h) (trivial) ?_) ?_
                          · intro act W hR hf ho hu K hK
                            replace hK := fun (w' : World) (h1 : (Only w.heap.size [24, 53]) W w') (b5 : (fun (Y : World) => Y.heap[w.heap.size]? = some (.cells #[.slice (some ⟨b1, o1, none⟩) G.length cg, (act.tmps[92]?.getD undef)] 53) ∧ Y.ownsRow (w.heap.size + 1) 24 6 ((act.tmps[92]?.getD undef)) (P.length + 1) (capCells P ++ Cap.cells ⟨g.tag, g.base, g.top, g.base, g.perms, 0⟩) ∧ Y.ownsRow (w.heap.size + 1) 24 6 (.slice (some ⟨b1, o1, none⟩) G.length cg) G.length (capCells G) ∧ Dis (.slice (some ⟨b1, o1, none⟩) G.length cg) ((act.tmps[92]?.getD undef))) w') => hK undef w' h1 trivial ⟨b5, trivial⟩
                            have F : act.tmps[94]?.getD undef = _ ∧ (fun _ _ => True) (act.tmps[92]?.getD undef) W ∧ (fun _ _ => True) (act.tmps[92]?.getD undef) W ∧ act.tmps[85]?.getD undef = _ ∧ act.tmps[86]?.getD undef = _ ∧ act.tmps[87]?.getD undef = _ ∧ act.tmps[88]?.getD undef = _ ∧ act.tmps[89]?.getD undef = _ ∧ act.tmps[90]?.getD undef = _ ∧ (fun _ _ => True) (act.tmps[91]?.getD undef) W ∧ (fun _ _ => True) (act.tmps[92]?.getD undef) W ∧ True := hf
                            obtain ⟨f9, -, -, f0, f1, f2, f3, f4, f5, -, -, -⟩ := F
                            have U : (fun (_ : Value) (Y : World) => Y.heap[w.heap.size]? = some (.cells #[.slice (some ⟨b1, o1, none⟩) G.length cg, .slice Ap P.length cp] 53)) (undef) W ∧ (fun (v : Value) (Y : World) => Y.ownsRow (w.heap.size + 1) 24 6 v (P.length + 1) (capCells P ++ Cap.cells ⟨g.tag, g.base, g.top, g.base, g.perms, 0⟩) ∧ Y.ownsRow (w.heap.size + 1) 24 6 (.slice (some ⟨b1, o1, none⟩) G.length cg) G.length (capCells G) ∧ Dis (.slice (some ⟨b1, o1, none⟩) G.length cg) v) (act.tmps[92]?.getD undef) W ∧ True := hu
                            obtain ⟨r_row, r_r7, -⟩ := U
                            generalize f7 : act.tmps[92]?.getD undef = v7 at r_r7 hK
                            generalize f6 : act.tmps[91]?.getD undef = v6
                            clear ho hf hu
                            obtain ⟨A7, c7, rfl, -, -⟩ := Arr.own r_r7.1; have fz := frozen_row' r_row; have q6 := cellAt r_row 1 (.slice Ap P.length cp) rfl; have HF := Lib.hid (And.intro (Only.set (B := w.heap.size) (T := [24, 53]) (o := 1) r_row (Nat.le_refl _) (by simp) (.slice A7 (P.length + 1) c7)) (And.intro (set_row (o := 1) r_row (.slice A7 (P.length + 1) c7)) (Only.set (B := w.heap.size) (T := [53]) (o := 1) r_row (Nat.le_refl _) (by simp) (.slice A7 (P.length + 1) c7))))
                            go_simp
                            exact hK _ HF.out.1 ⟨HF.out.2.1, HF.out.2.2.own r_r7.1 (by decide), HF.out.2.2.own r_r7.2.1 (by decide), r_r7.2.2⟩
                          exact trivial
                        case stab =>
                          refine And.intro is_stable ?_
                          refine And.intro is_stable ?_
                          refine And.intro is_stable ?_
                          refine And.intro is_stable ?_
                          refine And.intro is_stable ?_
                          refine And.intro is_stable ?_
                          refine And.intro (fun _ _ _ h _ => h) ?_
                          refine And.intro (fun _ _ _ h _ => h) ?_
                          refine And.intro is_stable ?_
                          refine And.intro is_stable ?_
                          refine And.intro (fun _ _ _ h _ => h) ?_
                          exact trivial
                        case ends =>
                          intro vals W hR hE hall
                          have E : (fun (Y : World) => Y.heap[w.heap.size]? = some (.cells #[.slice (some ⟨b1, o1, none⟩) G.length cg, (vals 92)] 53) ∧ Y.ownsRow (w.heap.size + 1) 24 6 ((vals 92)) (P.length + 1) (capCells P ++ Cap.cells ⟨g.tag, g.base, g.top, g.base, g.perms, 0⟩) ∧ Y.ownsRow (w.heap.size + 1) 24 6 (.slice (some ⟨b1, o1, none⟩) G.length cg) G.length (capCells G) ∧ Dis (.slice (some ⟨b1, o1, none⟩) G.length cg) ((vals 92))) W ∧ True := hE
                          obtain ⟨e_fin, -⟩ := E
                          clear hE
                          clear hall
                          generalize ev92 : vals 92 = x92 at e_fin
                          simp only [fill, List.setIfInBounds_toArray, List.set_cons_succ, List.set_cons_zero, ev92]
                          obtain ⟨f1, f2, f3, f4⟩ := e_fin
                          have HF := Lib.hid (And.intro f1 (And.intro f2 (And.intro f3 (And.intro f4 (HO3.out.trans hR)))))
                          clear f1 f2 f3 f4 hR
                          go_wp2_with fail
                          refine ⟨⟨j + 1, by omega, by simp, ?_, Lib.hid ?_⟩, by simp [intOf]; omega⟩
                          · rw [HST.out, HYE.out, List.length_append, decide_eq_true (by simp; omega)]
                          · rw [HST.out, HYE.out]
                            refine ⟨HF.out.2.2.2.2, _, HF.out.1, HF.out.2.2.1, ?_, HF.out.2.2.2.1⟩
                            rw [List.length_append, capCells_app]
                            exact HF.out.2.1
                | false =>
                  have HNO : Hid (openStep P g = P) := Lib.hid (by unfold openStep; rw [HOB.out, ha, d1]; rfl)
                  rw [ha] at HOV
                  clear ha
                  go_wp2_with fail
                  rw [← HV.out]
                  refine wp_region_obl Ext [59, 60, 61, 62, 63, 64, 65, 66, 67, 68, 69, 70, 8] (by kernel_rfl) (fun _ => Below.refl _ _) (fun _ _ _ => Ext.then) (by kernel_rfl) (by kernel_rfl) ?_
                  apply ex_is; apply Exists.intro
                  apply ex_is; apply Exists.intro
                  apply ex_is; apply Exists.intro
                  apply ex_is; apply Exists.intro
                  apply ex_is; apply Exists.intro
                  apply ex_is; apply Exists.intro
                  apply ex_is; apply Exists.intro
                  apply ex_is; apply Exists.intro
                  apply ex_is; apply Exists.intro
                  apply ex_is; apply Exists.intro
                  apply ex_is; apply Exists.intro
                  apply ex_is; apply Exists.intro
                  apply ex_is; apply Exists.intro
                  refine ⟨[], ⟨?steps, ?stab, ?ends⟩⟩
                  case steps =>
                    refine And.intro ?_ ?_
                    · intro a W hR hf ho K hK
                      replace hR := ext_drew hR
                      have G : a.tmps[7]?.getD undef = _ ∧ True := ho
                      obtain ⟨g7, -⟩ := G
                      clear ho hf
                      go_simp
                      exact hK _ _ (Below.refl _ _) (Eq.refl _)
                    refine And.intro ?_ ?_
                    · intro a W hR hf ho K hK
                      replace hR := ext_drew hR
                      have F : a.tmps[59]?.getD undef = _ ∧ True := hf
                      obtain ⟨f0, -⟩ := F
                      clear ho hf
                      obtain ⟨y0, y1, y2, y3, y4, y5⟩ := lie6' HBV.out hR
                      go_simp
                      exact hK _ _ (Below.refl _ _) (Eq.refl _)
                    refine And.intro ?_ ?_
                    · intro a W hR hf ho K hK
                      replace hR := ext_drew hR
                      have F : a.tmps[60]?.getD undef = _ ∧ True := hf
                      obtain ⟨f1, -⟩ := F
                      clear ho hf
                      go_simp
                      exact hK _ _ (Below.refl _ _) (Eq.refl _)
                    refine And.intro ?_ ?_
                    · intro a W hR hf ho K hK
                      replace hR := ext_drew hR
                      have F : a.tmps[61]?.getD undef = _ ∧ True := hf
                      obtain ⟨f2, -⟩ := F
                      clear ho hf
                      go_simp
                      exact hK _ _ (Below.refl _ _) (Eq.refl _)
                    refine And.intro ?_ ?_
                    · intro a W hR hf ho K hK
                      replace hR := ext_drew hR
                      have G : a.tmps[3]?.getD undef = _ ∧ True := ho
                      obtain ⟨g3, -⟩ := G
                      have F : a.tmps[62]?.getD undef = _ ∧ True := hf
                      obtain ⟨f3, -⟩ := F
                      clear ho hf
                      go_simp
                      exact hK _ _ (Below.refl _ _) (Eq.refl _)
                    refine And.intro ?_ ?_
                    · intro a W hR hf ho K hK
                      replace hR := ext_drew hR
                      have F : a.tmps[63]?.getD undef = _ ∧ a.tmps[62]?.getD undef = _ ∧ True := hf
                      obtain ⟨f4, f3, -⟩ := F
                      clear ho hf
                      go_simp
                      exact hK _ _ (Below.refl _ _) (Eq.refl _)
                    refine And.intro ?_ ?_
                    · intro a W hR hf ho K hK
                      replace hR := ext_drew hR
                      have F : a.tmps[64]?.getD undef = _ ∧ a.tmps[62]?.getD undef = _ ∧ True := hf
                      obtain ⟨f5, f3, -⟩ := F
                      clear ho hf
                      go_simp
                      exact hK _ _ (Below.refl _ _) (Eq.refl _)
                    refine And.intro ?_ ?_
                    · intro a W hR hf ho K hK
                      replace hR := ext_drew hR
                      have F : a.tmps[65]?.getD undef = _ ∧ a.tmps[62]?.getD undef = _ ∧ True := hf
                      obtain ⟨f6, f3, -⟩ := F
                      clear ho hf
                      have q1b := cellAt (ext_at' hR (ext_at' EV.out HSET.out.row)) 1 (.slice Ap P.length cp) rfl
                      go_simp
                      exact hK _ _ (Below.refl _ _) (Eq.refl _)
                    refine And.intro ?_ ?_
                    · intro a W hR hf ho K hK
                      replace hR := ext_drew hR
                      have G : a.tmps[7]?.getD undef = _ ∧ True := ho
                      obtain ⟨g7, -⟩ := G
                      have F : a.tmps[62]?.getD undef = _ ∧ True := hf
                      obtain ⟨f3, -⟩ := F
                      clear ho hf
                      go_simp
                      exact hK _ _ (Below.refl _ _) (Eq.refl _)
                    refine And.intro ?_ ?_
                    · intro a W hR hf ho K hK
                      replace hR := ext_drew hR
                      have F : a.tmps[67]?.getD undef = _ ∧ a.tmps[62]?.getD undef = _ ∧ True := hf
                      obtain ⟨f8, f3, -⟩ := F
                      clear ho hf
                      obtain ⟨y0, y1, y2, y3, y4, y5⟩ := lie6' HBV.out hR
                      go_simp
                      exact hK _ _ (Below.refl _ _) (Eq.refl _)
                    refine And.intro ?_ ?_
                    · intro a W hR hf ho K hK
                      replace hR := ext_drew hR
                      have F : a.tmps[66]?.getD undef = _ ∧ a.tmps[68]?.getD undef = _ ∧ a.tmps[62]?.getD undef = _ ∧ a.tmps[62]?.getD undef = _ ∧ True := hf
                      obtain ⟨f7, f9, f3, -, -⟩ := F
                      clear ho hf
                      go_simp
                      refine (HOV.out _ (EV.out.then hR)).mono ?_; rintro _ W1 ⟨rfl, hE⟩; exact hK _ _ hE (Eq.refl _)
                    refine And.intro ?_ ?_
                    · intro a W hR hf ho K hK
                      replace hR := ext_drew hR
                      have F : a.tmps[62]?.getD undef = _ ∧ a.tmps[69]?.getD undef = _ ∧ True := hf
                      obtain ⟨f3, f10, -⟩ := F
                      clear ho hf
                      go_simp
                      exact hK _ _ (Below.refl _ _) (Eq.refl _)
                    refine And.intro ?_ ?_
                    · intro a W hR hf ho K hK
                      replace hR := ext_drew hR
                      have F : a.tmps[70]?.getD undef = _ ∧ a.tmps[69]?.getD undef = _ ∧ a.tmps[59]?.getD undef = _ ∧ a.tmps[60]?.getD undef = _ ∧ a.tmps[61]?.getD undef = _ ∧ a.tmps[62]?.getD undef = _ ∧ a.tmps[63]?.getD undef = _ ∧ a.tmps[64]?.getD undef = _ ∧ a.tmps[65]?.getD undef = _ ∧ a.tmps[66]?.getD undef = _ ∧ a.tmps[67]?.getD undef = _ ∧ a.tmps[68]?.getD undef = _ ∧ a.tmps[69]?.getD undef = _ ∧ a.tmps[70]?.getD undef = _ ∧ True := hf
                      obtain ⟨f11, f10, f0, f1, f2, f3, f4, f5, f6, f7, f8, f9, -, -, -⟩ := F
                      clear ho hf
                      go_simp
                      exact hK _ _ (Below.refl _ _) (Eq.refl _)
                    exact trivial
                  case stab =>
                    refine And.intro is_stable ?_
                    refine And.intro is_stable ?_
                    refine And.intro is_stable ?_
                    refine And.intro is_stable ?_
                    refine And.intro is_stable ?_
                    refine And.intro is_stable ?_
                    refine And.intro is_stable ?_
                    refine And.intro is_stable ?_
                    refine And.intro is_stable ?_
                    refine And.intro is_stable ?_
                    refine And.intro is_stable ?_
                    refine And.intro is_stable ?_
                    refine And.intro is_stable ?_
                    exact trivial
                  case ends =>
                    intro vals W hR hall
                    replace hR := ext_drew hR
                    have e8 : vals 8 = _ := hall 12 (by decide)
                    clear hall
                    simp only [fill, List.setIfInBounds_toArray, List.set_cons_succ, List.set_cons_zero, e8]
                    rename World => V1
                    have E1 : Hid (Ext V V1) := Lib.hid hR
                    have hb1 := ext_at' hR HBV.out
                    obtain ⟨y0, y1, y2, y3, y4, y5⟩ := lie6' hb1 (Below.refl _ V1)
                    have fz := frozen_row' hb1
                    have hlt1 := cell_lt y0
                    simp only at hlt1
                    have HB1 := Lib.hid hb1
                    clear hb1 hR
                    go_wp2_with fail
                    obtain ⟨V2, hV2⟩ : ∃ V2, V2 = (V1.setCell ⟨wr.heap.size, 5, none⟩ (.int .i64 0)).setCell ⟨wr.heap.size, 3, none⟩ (.int .i64 g.base) := ⟨_, rfl⟩
                    rw [← hV2]
                    have HBX : Hid (V2.heap[wr.heap.size]? = some (.cells (bareC g).cells.toArray 24)) := Lib.hid (by rw [hV2]; exact set_row (o := 3) (set_row (o := 5) HB1.out (.int .i64 0)) (.int .i64 g.base))
                    have EV2 : Hid (Ext wr V2) := Lib.hid (by rw [hV2]; exact ((EV.out.then E1.out).set (Nat.le_refl _)).set (Nat.le_refl _))
                    have HRW : Hid (V2.heap[w.heap.size]? = some (.cells #[.slice (some ⟨b1, o1, none⟩) G.length cg, .slice Ap P.length cp] 53)) := Lib.hid (ext_at' EV2.out HSET.out.row)
                    have HHR := Lib.hid (fun (W : World) (e : Ext V2 W) => hasR_any Ap cp P (bareC g) W (HAP.out.ext (EV2.out.then e)) hPl)
                    clear hV2 y0 y1 y2 y3 y4 y5 fz hlt1
                    clear HHR
                    go_wp2_with fail
                    refine wp_region_obl Ext [75, 76, 77, 78, 79, 80, 81, 82, 83, 84] (by kernel_rfl) (fun _ => Below.refl _ _) (fun _ _ _ => Ext.then) (by kernel_rfl) (by kernel_rfl) ?_
                    apply ex_is; apply Exists.intro
                    apply ex_is; apply Exists.intro
                    apply ex_is; apply Exists.intro
                    apply ex_is; apply Exists.intro
                    apply ex_is; apply Exists.intro
                    apply ex_is; apply Exists.intro
                    apply ex_is; apply Exists.intro
                    apply ex_is; apply Exists.intro
                    apply ex_is; apply Exists.intro
                    apply ex_is; apply Exists.intro
                    refine ⟨[], ⟨?steps, ?stab, ?ends⟩⟩
                    case steps =>
                      refine And.intro ?_ ?_
                      · intro a W hR hf ho K hK
                        replace hR := ext_drew hR
                        have G : a.tmps[8]?.getD undef = _ ∧ True := ho
                        obtain ⟨g8, -⟩ := G
                        clear ho hf
                        go_simp
                        exact hK _ _ (Below.refl _ _) (Eq.refl _)
                      refine And.intro ?_ ?_
                      · intro a W hR hf ho K hK
                        replace hR := ext_drew hR
                        have F : a.tmps[75]?.getD undef = _ ∧ True := hf
                        obtain ⟨f0, -⟩ := F
                        clear ho hf
                        go_simp
                        exact hK _ _ (Below.refl _ _) (Eq.refl _)
                      refine And.intro ?_ ?_
                      · intro a W hR hf ho K hK
                        replace hR := ext_drew hR
                        have G : a.tmps[3]?.getD undef = _ ∧ True := ho
                        obtain ⟨g3, -⟩ := G
                        have F : a.tmps[76]?.getD undef = _ ∧ True := hf
                        obtain ⟨f1, -⟩ := F
                        clear ho hf
                        go_simp
                        exact hK _ _ (Below.refl _ _) (Eq.refl _)
                      refine And.intro ?_ ?_
                      · intro a W hR hf ho K hK
                        replace hR := ext_drew hR
                        have F : a.tmps[77]?.getD undef = _ ∧ a.tmps[76]?.getD undef = _ ∧ True := hf
                        obtain ⟨f2, f1, -⟩ := F
                        clear ho hf
                        go_simp
                        exact hK _ _ (Below.refl _ _) (Eq.refl _)
                      refine And.intro ?_ ?_
                      · intro a W hR hf ho K hK
                        replace hR := ext_drew hR
                        have F : a.tmps[78]?.getD undef = _ ∧ a.tmps[76]?.getD undef = _ ∧ True := hf
                        obtain ⟨f3, f1, -⟩ := F
                        clear ho hf
                        go_simp
                        exact hK _ _ (Below.refl _ _) (Eq.refl _)
                      refine And.intro ?_ ?_
                      · intro a W hR hf ho K hK
                        replace hR := ext_drew hR
                        have F : a.tmps[79]?.getD undef = _ ∧ a.tmps[76]?.getD undef = _ ∧ True := hf
                        obtain ⟨f4, f1, -⟩ := F
                        clear ho hf
                        go_simp
                        exact hK _ _ (Below.refl _ _) (Eq.refl _)
                      refine And.intro ?_ ?_
                      · intro a W hR hf ho K hK
                        replace hR := ext_drew hR
                        have G : a.tmps[7]?.getD undef = _ ∧ True := ho
                        obtain ⟨g7, -⟩ := G
                        have F : a.tmps[76]?.getD undef = _ ∧ True := hf
                        obtain ⟨f1, -⟩ := F
                        clear ho hf
                        go_simp
                        exact hK _ _ (Below.refl _ _) (Eq.refl _)
                      refine And.intro ?_ ?_
                      · intro a W hR hf ho K hK
                        replace hR := ext_drew hR
                        have F : a.tmps[80]?.getD undef = _ ∧ a.tmps[81]?.getD undef = _ ∧ a.tmps[76]?.getD undef = _ ∧ a.tmps[76]?.getD undef = _ ∧ True := hf
                        obtain ⟨f5, f6, f1, -, -⟩ := F
                        clear ho hf
                        go_simp
                        exact hK _ _ (Below.refl _ _) (Eq.refl _)
                      refine And.intro ?_ ?_
                      · intro a W hR hf ho K hK
                        replace hR := ext_drew hR
                        have F : a.tmps[82]?.getD undef = _ ∧ a.tmps[76]?.getD undef = _ ∧ True := hf
                        obtain ⟨f7, f1, -⟩ := F
                        clear ho hf
                        go_simp
                        exact hK _ _ (Below.refl _ _) (Eq.refl _)
                      refine And.intro ?_ ?_
                      · intro a W hR hf ho K hK
                        replace hR := ext_drew hR
                        have F : a.tmps[76]?.getD undef = _ ∧ a.tmps[83]?.getD undef = _ ∧ True := hf
                        obtain ⟨f1, f8, -⟩ := F
                        clear ho hf
                        go_simp
                        exact hK _ _ (Below.refl _ _) (Eq.refl _)
                      exact trivial
                    case stab =>
                      refine And.intro is_stable ?_
                      refine And.intro is_stable ?_
                      refine And.intro is_stable ?_
                      refine And.intro is_stable ?_
                      refine And.intro is_stable ?_
                      refine And.intro is_stable ?_
                      refine And.intro is_stable ?_
                      refine And.intro is_stable ?_
                      refine And.intro is_stable ?_
                      refine And.intro is_stable ?_
                      exact trivial
                    case ends =>
                      intro vals W hR hall
                      replace hR := ext_drew hR
                      have e84 : vals 84 = _ := hall 9 (by decide)
                      clear hall
                      simp only [fill, List.setIfInBounds_toArray, List.set_cons_succ, List.set_cons_zero, e84]
                      have ER := Lib.hid hR
                      clear hR
                      go_wp2_with fail
                      exact ⟨⟨j + 1, by omega, by simp, by rw [HST.out, HNO.out], Lib.hid (by rw [HST.out, HNO.out]; exact hJ.out.ext (EV2.out.then ER.out))⟩, by simp [intOf]; omega⟩
            · obtain rfl : j = G.length := by omega
              rw [List.take_length] at hJ ⊢
              have hrk : roundL G O = roundsL G (k + 1) := by rw [HO.out]; rfl
              have hle := lenAt_of hset
              rw [List.take_length] at hle
              have hJ' : RefIn U w.heap.size (.slice Ag G.length cg) G (roundL G O) wr := hJ.out
              obtain ⟨vo0, hs0⟩ := hI.out.1.set
              have hl0 := lenAt_of hs0
              have hgrow : O.length ≤ (roundL G O).length := (folds_len G O).1
              have hsn := (sound_rounds G (k + 1)).len
              have HF := Lib.hid (And.intro hle (And.intro hl0 (And.intro hgrow (And.intro hsn hrk))))
              clear hle hl0 hgrow hsn hrk hset hs0
              go_wp2_with fail
              refine ⟨⟨decide (O.length < (roundL G O).length), k + 1, rfl, Lib.hid ⟨by rw [← HF.out.2.2.2.2]; exact hJ', fun hb => ?_⟩⟩, ?_⟩
              · have h1 : ¬ O.length < (roundL G O).length := of_decide_eq_false hb
                have h2 : (roundL G O).length = O.length := by have := HF.out.2.2.1; omega
                rw [← HF.out.2.2.2.2, round_same h2, round_same h2]
              · have h3 : (roundL G O).length ≤ 1000 := by rw [HF.out.2.2.2.2]; exact Nat.le_trans HF.out.2.2.2.1 hGl
                rw [HF.out.2.1]
                have h5 := HF.out.1
                have h6 : (G.foldl openStep O) = roundL G O := rfl
                rw [h6] at h5 ⊢
                rw [h5]
                by_cases h7 : O.length < (roundL G O).length
                · rw [decide_eq_true h7]
                  show 1002 - (roundL G O).length < 1002 - O.length
                  omega
                · rw [decide_eq_false h7]
                  show 0 < 1002 - O.length
                  have := HF.out.2.2.1
                  omega
end Go.Proofs.Ytalndcjbnedigaa


/- ClosOrder: the walk of the law. -/
import Derived.Test.YtalndcjbnedigaaTypes06
set_option linter.all false
namespace Go.Proofs.Ytalndcjbnedigaa
open Go.RowKit Go.Shelf
attribute [local go_sem] seen dstOf boolOf

/-- A list that lies. -/
def Caps (l : List Cap) : Pr := fun v W => ∃ A c, v = .slice A l.length c ∧ Arr W A (capCells l)
theorem Caps.ext {l : List Cap} {v : Value} {W W' : World} (h : Caps l v W) (e : Ext W W') : Caps l v W' := by
  obtain ⟨A, c, h1, h2⟩ := h
  exact ⟨A, c, h1, h2.ext e⟩
def Ints (l : List Int) : Pr := fun v W => ∃ A c, v = .slice A l.length c ∧ Arr W A (intCells l)
theorem Ints.ext {l : List Int} {v : Value} {W W' : World} (h : Ints l v W) (e : Ext W W') : Ints l v W' := by
  obtain ⟨A, c, h1, h2⟩ := h
  exact ⟨A, c, h1, h2.ext e⟩
theorem Caps.own {w : World} {B : Nat} {v : Value} {l : List Cap} (h : w.ownsRow B 24 6 v l.length (capCells l)) : Caps l v w := by
  obtain ⟨A, c, rfl, -, hA⟩ := Arr.own h
  exact ⟨A, c, rfl, hA⟩
theorem Ints.own {w : World} {B : Nat} {v : Value} {l : List Int} (h : w.ownsRow B 3 1 v l.length (intCells l)) : Ints l v w := by
  obtain ⟨A, c, rfl, -, hA⟩ := Arr.own h
  exact ⟨A, c, rfl, hA⟩
def backL (l : List Cap) (m : Nat) : List Cap := (l.drop m).reverse.flatMap fun c => [c, c]
theorem backL_succ {l : List Cap} {j : Nat} (h : j < l.length) : backL l j = backL l (j + 1) ++ [l[j], l[j]] := by
  unfold backL
  rw [List.drop_eq_getElem_cons h, List.reverse_cons, List.flatMap_append]
  simp
theorem backL_len (l : List Cap) (m : Nat) : (backL l m).length = 2 * (l.length - m) := by
  unfold backL
  generalize hd : (l.drop m).reverse = d
  have hl : d.length = l.length - m := by rw [← hd, List.length_reverse, List.length_drop]
  rw [← hl]
  clear hd hl
  induction d with
  | nil => rfl
  | cons x t ih => rw [List.flatMap_cons, List.length_append, ih]; simp; omega
theorem mem_backL {l : List Cap} {c : Cap} : c ∈ backL l 0 ↔ c ∈ l := by
  unfold backL
  simp
set_option maxHeartbeats 2000000 in
set_option maxRecDepth 20000 in
theorem order06_any (A : Option Addr) (cp : Nat) (l : List Cap) (c : Cap) (w : World) (hA : Arr w A (capCells l)) (hw : ∀ x ∈ l, CapWf x) (hc : CapWf c) : Calls Try.prog 7 #[.slice A l.length cp, c.val] w (Tell w true) := by
  by_cases hl : 30 < l.length
  · go_enter Try.func7, Try.ntmps7
    go_wp2_with fail
    refine (head06 _).mono ?_
    rintro _ w1 ⟨rfl, hE⟩
    go_wp2_with fail
    go_ret
    exact ⟨rfl, Ext.then (by repeat first | (with_reducible exact Below.refl _ _) | (with_reducible apply Ext.alloc) | (with_reducible apply Ext.drew) | (with_reducible apply Ext.drewN) | (with_reducible refine Ext.set ?_ (by simp))) hE⟩
  · obtain ⟨ci, hci, hci0, hci1, hci2⟩ := info_parts infoCap
    go_enter Try.func7, Try.ntmps7
    go_wp2_with fail
    refine (head06 _).mono ?_
    rintro _ w1 ⟨rfl, hE1⟩
    have HC : Hid (w1.heap[w.heap.size]? = some (.cells c.cells.toArray 24)) := Lib.hid ((hE1.block _ (by simp)).trans (heap_alloc_new w _))
    have E1 : Hid (Ext w w1) := Lib.hid (Ext.then (by repeat first | (with_reducible exact Below.refl _ _) | (with_reducible apply Ext.alloc) | (with_reducible apply Ext.drew) | (with_reducible apply Ext.drewN) | (with_reducible refine Ext.set ?_ (by simp))) hE1)
    have HA := Lib.hid (hA.ext E1.out)
    clear hE1 hA
    go_wp2_with fail
    go_loopw [6, 7] (fun v i wr => ∃ m : Nat, m ≤ l.length ∧ i = .int .i64 ((m : Int) - 1) ∧ Hid (wr.ownsRow w1.heap.size 24 6 v (backL l m).length (capCells (backL l m)) ∧ Ext w1 wr)) (fun _ i _ => (intOf i + 1).toNat)
    case atStart => exact ⟨l.length, Nat.le_refl _, by simp, Lib.hid ⟨by simp [backL]; exact World.ownsRow_nil _ _ _ _, Below.refl _ _⟩⟩
    case round =>
      obtain ⟨m, hm, rfl, hB⟩ := hrel
      cases m with
      | succ j =>
        rw [show ((j + 1 : Nat) : Int) - 1 = (j : Int) by omega]
        obtain ⟨b1, o1, rfl, -, x0, x1, x2, x3, x4, x5⟩ := cap_row (HA.out.ext hB.out.2) hm
        have hbl := backL_len l (j + 1)
        have hbs := backL_succ hm
        have hb1 : b1 < w1.heap.size := by
          obtain ⟨b', o', e', hb', -⟩ := HA.out.open (by rw [capCells_len]; omega)
          simp only [Option.some.injEq, Addr.mk.injEq, and_true] at e'
          omega
        obtain ⟨d, hd⟩ : ∃ d, d = l[j] := ⟨_, rfl⟩
        rw [← hd] at x0 x1 x2 x3 x4 x5 hbs
        have HBS := Lib.hid hbs
        obtain ⟨L, hL⟩ : ∃ L, L = backL l (j + 1) := ⟨_, rfl⟩
        rw [← hL] at HBS hB hbl
        replace hbl : L.length ≤ 60 := by omega
        obtain ⟨Ab, cb, rfl, -, -⟩ := Arr.own hB.out.1
        have HOU : Hid (wr.drew.ownsRow w1.heap.size 24 6 (.slice Ab L.length cb) L.length (capCells L)) := Lib.hid (own_ext hB.out.1 (Ext.drew (Below.refl _ _)))
        have HSZ : Hid (w1.heap.size ≤ wr.drew.heap.size) := Lib.hid hB.out.2.size
        have HX := Lib.hid (And.intro x0 (And.intro x1 (And.intro x2 (And.intro x3 (And.intro x4 x5)))))
        have hjl : j < l.length := hm
        have hw1 : IntKind.i64.wrap ((j : Int) - 1) = (j : Int) - 1 := IntWalk.i64_in _ (by omega)
        clear hd hL hbs x0 x1 x2 x3 x4 x5
        go_wp2_with fail
        refine wp_region_res (Only w1.heap.size [24]) [⟨none, [], [10]⟩, ⟨some 9, [(9, [])], [10]⟩, ⟨some 10, [(10, [])], [11]⟩, ⟨some 11, [(11, [])], []⟩] [(fun (u : Nat → Value) (W : World) => (fun (_ : Value) (W : World) => W.ownsRow w1.heap.size 24 6 (.slice Ab L.length cb) L.length (capCells L)) (undef) W), (fun (u : Nat → Value) (W : World) => (NewLit 0 2 (capCells [d, d]) 24) (u 9) W), (fun (u : Nat → Value) (W : World) => (fun (v : Value) (W : World) => W.ownsRow w1.heap.size 24 6 v (L.length + 2) (capCells L ++ capCells [d, d])) (u 10) W), (fun (u : Nat → Value) (W : World) => (fun (v : Value) (W : World) => W.ownsRow w1.heap.size 24 6 v (L.length + 2) (capCells L ++ capCells [d, d])) (u 11) W)] [⟨[], [.keep, .keep, .early [0], .early [0]]⟩, ⟨[], [.keep, .early [4, 3, 1], .early [9, 4, 3, 1], .early [1]]⟩, ⟨[], [.keep, .early [4, 3, 2], .early [9, 4, 3, 2], .early [2]]⟩, ⟨[], [.keep, .early [4, 3], .early [9, 4, 3], .early [3]]⟩, ⟨[], [.keep, .early [4], .early [9, 4], .early [4]]⟩, ⟨[], [.keep, .early [8, 7, 5], .early [9, 8, 7, 5], .early [5]]⟩, ⟨[], [.keep, .early [8, 7, 6], .early [9, 8, 7, 6], .early [6]]⟩, ⟨[], [.keep, .early [8, 7], .early [9, 8, 7], .early [7]]⟩, ⟨[], [.keep, .early [8], .early [9, 8], .early [8]]⟩, ⟨[], [.keep, .last, .early [9], .early [9]]⟩, ⟨[(0, []), (1, [9])], [.late [[]], .late [[]], .last, .early [10]]⟩, ⟨[(2, [10])], [.late [[10]], .late [[10]], .late [[]], .last]⟩] [22, 23, 24, 25, 26, 27, 28, 29, 30, 31, 32, 6] (by kernel_rfl) (Only.refl _ _) (fun _ _ _ => Only.trans) (by kernel_rfl) (by kernel_rfl) (by kernel_rfl) (by kernel_rfl) (by kernel_rfl) ?start ?_
        case start =>
          refine And.intro ?_ ?_
          · exact HOU.out
          exact trivial
        apply ex_is; apply Exists.intro
        apply ex_is; apply Exists.intro
        apply ex_is; apply Exists.intro
        apply ex_is; apply Exists.intro
        apply ex_is; apply Exists.intro
        apply ex_is; apply Exists.intro
        apply ex_is; apply Exists.intro
        apply ex_is; apply Exists.intro
        apply ex_is; apply Exists.intro
        refine ex_phi (fun _ _ => True) ?_
        refine ex_phi (fun _ _ => True) ?_
        refine ex_phi (fun _ _ => True) ?_
        refine ⟨[], ⟨?steps, ?stab, ?ends⟩⟩
        case steps =>
          refine And.intro (obX_pure (Only.refl _ _) ?_) ?_
          · intro act W hR hf ho hu K hK
            replace hK := fun v h2 => hK v W rfl h2 trivial
            have G : act.tmps[6]?.getD undef = _ ∧ True := ho
            obtain ⟨g6, -⟩ := G
            clear ho hf hu
            go_simp
            exact hK _ (Eq.refl _)
          refine And.intro (obX_pure (Only.refl _ _) ?_) ?_
          · intro act W hR hf ho hu K hK
            replace hK := fun v h2 => hK v W rfl h2 trivial
            have G : act.tmps[0]?.getD undef = _ ∧ True := ho
            obtain ⟨g0, -⟩ := G
            clear ho hf hu
            go_simp
            exact hK _ (Eq.refl _)
          refine And.intro (obX_pure (Only.refl _ _) ?_) ?_
          · intro act W hR hf ho hu K hK
            replace hK := fun v h2 => hK v W rfl h2 trivial
            have G : act.tmps[7]?.getD undef = _ ∧ True := ho
            obtain ⟨g7, -⟩ := G
            clear ho hf hu
            go_simp
            exact hK _ (Eq.refl _)
          refine And.intro (obX_pure (Only.refl _ _) ?_) ?_
          · intro act W hR hf ho hu K hK
            replace hK := fun v h2 => hK v W rfl h2 trivial
            have F : act.tmps[23]?.getD undef = _ ∧ act.tmps[24]?.getD undef = _ ∧ True := hf
            obtain ⟨f1, f2, -⟩ := F
            clear ho hf hu
            go_simp
            exact hK _ (Eq.refl _)
          refine And.intro (obX_pure (Only.refl _ _) ?_) ?_
          · intro act W hR hf ho hu K hK
            replace hK := fun v h2 => hK v W rfl h2 trivial
            have F : act.tmps[25]?.getD undef = _ ∧ True := hf
            obtain ⟨f3, -⟩ := F
            clear ho hf hu
            have y0 := hR.cell (show wr.drew.cell? _ = _ from HX.out.1) hb1; have y1 := hR.cell (show wr.drew.cell? _ = _ from HX.out.2.1) hb1; have y2 := hR.cell (show wr.drew.cell? _ = _ from HX.out.2.2.1) hb1; have y3 := hR.cell (show wr.drew.cell? _ = _ from HX.out.2.2.2.1) hb1; have y4 := hR.cell (show wr.drew.cell? _ = _ from HX.out.2.2.2.2.1) hb1; have y5 := hR.cell (show wr.drew.cell? _ = _ from HX.out.2.2.2.2.2) hb1
            go_simp
            exact hK _ (Eq.refl _)
          refine And.intro (obX_pure (Only.refl _ _) ?_) ?_
          · intro act W hR hf ho hu K hK
            replace hK := fun v h2 => hK v W rfl h2 trivial
            have G : act.tmps[0]?.getD undef = _ ∧ True := ho
            obtain ⟨g0, -⟩ := G
            clear ho hf hu
            go_simp
            exact hK _ (Eq.refl _)
          refine And.intro (obX_pure (Only.refl _ _) ?_) ?_
          · intro act W hR hf ho hu K hK
            replace hK := fun v h2 => hK v W rfl h2 trivial
            have G : act.tmps[7]?.getD undef = _ ∧ True := ho
            obtain ⟨g7, -⟩ := G
            clear ho hf hu
            go_simp
            exact hK _ (Eq.refl _)
          refine And.intro (obX_pure (Only.refl _ _) ?_) ?_
          · intro act W hR hf ho hu K hK
            replace hK := fun v h2 => hK v W rfl h2 trivial
            have F : act.tmps[27]?.getD undef = _ ∧ act.tmps[28]?.getD undef = _ ∧ True := hf
            obtain ⟨f5, f6, -⟩ := F
            clear ho hf hu
            go_simp
            exact hK _ (Eq.refl _)
          refine And.intro (obX_pure (Only.refl _ _) ?_) ?_
          · intro act W hR hf ho hu K hK
            replace hK := fun v h2 => hK v W rfl h2 trivial
            have F : act.tmps[29]?.getD undef = _ ∧ True := hf
            obtain ⟨f7, -⟩ := F
            clear ho hf hu
            have y0 := hR.cell (show wr.drew.cell? _ = _ from HX.out.1) hb1; have y1 := hR.cell (show wr.drew.cell? _ = _ from HX.out.2.1) hb1; have y2 := hR.cell (show wr.drew.cell? _ = _ from HX.out.2.2.1) hb1; have y3 := hR.cell (show wr.drew.cell? _ = _ from HX.out.2.2.2.1) hb1; have y4 := hR.cell (show wr.drew.cell? _ = _ from HX.out.2.2.2.2.1) hb1; have y5 := hR.cell (show wr.drew.cell? _ = _ from HX.out.2.2.2.2.2) hb1
            go_simp
            exact hK _ (Eq.refl _)
          refine And.intro (obX_eff (Ext) (fun _ _ h => Only.ext h) (And.intro (fun _ _ _ h e => own_ext h e) (trivial)) ?_) ?_
          · intro act W hR hf ho hu K hK
            replace hK := fun v (w' : World) (h1 : (Ext) W w') (b1 : (NewLit 0 2 (capCells [d, d]) 24) (v) w') => hK v w' h1 trivial ⟨b1, trivial⟩
            have F : act.tmps[26]?.getD undef = _ ∧ act.tmps[30]?.getD undef = _ ∧ True := hf
            obtain ⟨f4, f8, -⟩ := F
            clear ho hf hu
            go_simp
            exact hK _ _ (by repeat first | (with_reducible exact Below.refl _ _) | (with_reducible apply Ext.alloc) | (with_reducible apply Ext.drew) | (with_reducible apply Ext.drewN) | (with_reducible refine Ext.set ?_ (by simp))) (NewLit.new (Nat.zero_le _))
          refine And.intro (obX_eff (Only w1.heap.size [24]) (fun _ _ h => h) (trivial) ?_) ?_
          · intro act W hR hf ho hu K hK
            replace hK := fun v (w' : World) (h1 : (Only w1.heap.size [24]) W w') (b2 : (fun (v : Value) (W : World) => W.ownsRow w1.heap.size 24 6 v (L.length + 2) (capCells L ++ capCells [d, d])) (v) w') => hK v w' h1 trivial ⟨b2, trivial⟩
            have F : act.tmps[22]?.getD undef = _ ∧ (fun _ _ => True) (act.tmps[31]?.getD undef) W ∧ True := hf
            obtain ⟨f0, -, -⟩ := F
            have U : (fun (_ : Value) (W : World) => W.ownsRow w1.heap.size 24 6 (.slice Ab L.length cb) L.length (capCells L)) (undef) W ∧ (NewLit 0 2 (capCells [d, d]) 24) (act.tmps[31]?.getD undef) W ∧ True := hu
            obtain ⟨r_row, r_n9, -⟩ := U
            generalize f9 : act.tmps[31]?.getD undef = v9 at r_n9
            clear ho hf hu
            obtain ⟨b3, rfl, -, hl3⟩ := r_n9
            dsimp only [Option.elim] at f0
            rw [← seen_eq]; refine step_append_src W rfl (.tmp 22) (.tmp 31) 22 rfl w1.heap.size 24 ci (.agg #[.bool false, .int .i64 0, .int .i64 0, .int .i64 0, .int .i64 0, .int .i64 0]) 6 48 Try.underlying22 hci hci0 hci1 hci2 rfl (by decide) _ _ _ (eval_get f0) r_row _ 2 (capCells [d, d]) (eval_get f9) (lies_lit hl3) rfl (capCells_one _) (by unfold maxLen; omega) (by omega) (Nat.le_trans HSZ.out hR.size) ?_; intro v' w' ho' hg' _; exact hK _ _ (Only.grown r_row hg' (by simp)) ho'
          refine And.intro (obX_pure (Only.refl _ _) ?_) ?_
          · intro act W hR hf ho hu K hK
            replace hK := fun v (b3 : (fun (v : Value) (W : World) => W.ownsRow w1.heap.size 24 6 v (L.length + 2) (capCells L ++ capCells [d, d])) (v) W) => hK v W rfl trivial ⟨b3, trivial⟩
            have F : (fun _ _ => True) (act.tmps[32]?.getD undef) W ∧ (fun _ _ => True) (act.tmps[32]?.getD undef) W ∧ act.tmps[22]?.getD undef = _ ∧ act.tmps[23]?.getD undef = _ ∧ act.tmps[24]?.getD undef = _ ∧ act.tmps[25]?.getD undef = _ ∧ act.tmps[26]?.getD undef = _ ∧ act.tmps[27]?.getD undef = _ ∧ act.tmps[28]?.getD undef = _ ∧ act.tmps[29]?.getD undef = _ ∧ act.tmps[30]?.getD undef = _ ∧ (fun _ _ => True) (act.tmps[31]?.getD undef) W ∧ (fun _ _ => True) (act.tmps[32]?.getD undef) W ∧ True := hf
            obtain ⟨-, -, f0, f1, f2, f3, f4, f5, f6, f7, f8, -, -, -⟩ := F
            have U : (fun (v : Value) (W : World) => W.ownsRow w1.heap.size 24 6 v (L.length + 2) (capCells L ++ capCells [d, d])) (act.tmps[32]?.getD undef) W ∧ True := hu
            obtain ⟨r_r10, -⟩ := U
            generalize f10 : act.tmps[32]?.getD undef = v10 at r_r10
            generalize f9 : act.tmps[31]?.getD undef = v9
            clear ho hf hu
            go_simp
            exact hK _ r_r10
          exact trivial
        case stab =>
          refine And.intro is_stable ?_
          refine And.intro is_stable ?_
          refine And.intro is_stable ?_
          refine And.intro is_stable ?_
          refine And.intro is_stable ?_
          refine And.intro is_stable ?_
          refine And.intro is_stable ?_
          refine And.intro is_stable ?_
          refine And.intro is_stable ?_
          refine And.intro (fun _ _ _ h _ => h) ?_
          refine And.intro (fun _ _ _ h _ => h) ?_
          refine And.intro (fun _ _ _ h _ => h) ?_
          exact trivial
        case ends =>
          intro vals W hR hE hall
          have E : (fun (v : Value) (W : World) => W.ownsRow w1.heap.size 24 6 v (L.length + 2) (capCells L ++ capCells [d, d])) (vals 6) W ∧ True := hE
          obtain ⟨e_r11, -⟩ := E
          clear hE
          clear hall
          generalize ev6 : vals 6 = x6 at e_r11
          simp only [fill, List.setIfInBounds_toArray, List.set_cons_succ, List.set_cons_zero, ev6]
          have hE9 : Ext w1 W := Only.below (Ext.drew hB.out.2) (Nat.le_refl _) hR
          have HN := Lib.hid (And.intro e_r11 hE9)
          clear e_r11 hE9 hR
          go_wp2_with fail
          refine ⟨⟨j, by omega, by simp, Lib.hid ⟨?_, HN.out.2⟩⟩, by first | (simp [intOf]; done) | (simp [intOf]; omega)⟩
          rw [HBS.out, capCells_app, List.length_append]
          exact HN.out.1
      | zero =>
        have hbl := backL_len l 0
        have hmem : Hid (∀ x, x ∈ backL l 0 ↔ x ∈ l) := Lib.hid fun x => mem_backL
        obtain ⟨L, hL⟩ : ∃ L, L = backL l 0 := ⟨_, rfl⟩
        rw [← hL] at hbl hB hmem
        replace hbl : L.length ≤ 60 := by omega
        obtain ⟨Ab, cb, rfl, -, hab⟩ := Arr.own hB.out.1
        have HAB := Lib.hid hab
        have hwb : Hid (∀ x ∈ L, CapWf x) := Lib.hid fun x hx => hw x ((hmem.out x).1 hx)
        clear hL hab
        rw [show ((0 : Nat) : Int) - 1 = -1 from rfl]
        go_wp2_with fail
        refine (new_is A cp l _ (HA.out.ext hB.out.2) hw (by omega)).mono ?_
        rintro _ w2 ⟨s, G, O, rfl, hs, hp, hE⟩
        have E2 := Lib.hid (hB.out.2.then hE)
        have S2 := Lib.hid hs
        have HAB2 := Lib.hid (HAB.out.ext hE)
        clear hs hE hp
        go_wp2_with fail
        refine (new_is Ab cb L _ HAB2.out hwb.out (by omega)).mono ?_
        rintro _ w3 ⟨s', G', O', rfl, hs, hp, hE⟩
        have E3 := Lib.hid (E2.out.then hE)
        have S3 := Lib.hid hs
        have T3 := Lib.hid (S2.out.ext hE)
        obtain ⟨q1, q2, q3, -⟩ := set_same S2.out.ok hs.ok fun x => (hmem.out x).symm
        have QQ := Lib.hid (And.intro (q1 c) (And.intro q2 (q3 64)))
        have hc3 : Hid (w3.heap[w.heap.size]? = some (.cells c.cells.toArray 24)) := Lib.hid ((E3.out.block _ (Array.getElem?_eq_some_iff.1 HC.out).1).trans HC.out)
        clear hs hE hp q1 q2 q3
        have HPL : Hid ((openS O').length ≤ 1000) := Lib.hid (by
          have h1 := S3.out.ok.len
          have h2 : (mostL O').length ≤ O'.length := List.length_filter_le _ _
          rw [openS_len]
          omega)
        have HTL : Hid ((typesS O' 64).length ≤ 1000) := Lib.hid (Nat.le_trans (typesS_len O' 64) (by decide))
        go_wp2_with fail
        refine wp_region_res (Ext) [⟨some 20, [(20, [])], [23]⟩, ⟨some 22, [(22, [])], [23]⟩, ⟨some 27, [(27, [])], [30]⟩, ⟨some 29, [(29, [])], [30]⟩] [(fun (u : Nat → Value) (W : World) => (fun (v : Value) (W : World) => Caps (openS O') v W) (u 20) W), (fun (u : Nat → Value) (W : World) => (fun (v : Value) (W : World) => Caps (openS O') v W) (u 22) W), (fun (u : Nat → Value) (W : World) => (fun (v : Value) (W : World) => Ints (typesS O' 64) v W) (u 27) W), (fun (u : Nat → Value) (W : World) => (fun (v : Value) (W : World) => Ints (typesS O' 64) v W) (u 29) W)] [⟨[], [.early [18, 17, 9, 5, 1, 0], .early [18, 17, 9, 5, 1, 0], .early [25, 24, 18, 17, 9, 5, 1, 0], .early [25, 24, 18, 17, 9, 5, 1, 0]]⟩, ⟨[], [.early [18, 17, 9, 5, 1], .early [18, 17, 9, 5, 1], .early [25, 24, 18, 17, 9, 5, 1], .early [25, 24, 18, 17, 9, 5, 1]]⟩, ⟨[], [.early [18, 17, 9, 5, 4, 3, 2], .early [18, 17, 9, 5, 4, 3, 2], .early [25, 24, 18, 17, 9, 5, 4, 3, 2], .early [25, 24, 18, 17, 9, 5, 4, 3, 2]]⟩, ⟨[], [.early [18, 17, 9, 5, 4, 3], .early [18, 17, 9, 5, 4, 3], .early [25, 24, 18, 17, 9, 5, 4, 3], .early [25, 24, 18, 17, 9, 5, 4, 3]]⟩, ⟨[], [.early [18, 17, 9, 5, 4], .early [18, 17, 9, 5, 4], .early [25, 24, 18, 17, 9, 5, 4], .early [25, 24, 18, 17, 9, 5, 4]]⟩, ⟨[], [.early [18, 17, 9, 5], .early [18, 17, 9, 5], .early [25, 24, 18, 17, 9, 5], .early [25, 24, 18, 17, 9, 5]]⟩, ⟨[], [.early [18, 17, 9, 8, 7, 6], .early [18, 17, 9, 8, 7, 6], .early [25, 24, 18, 17, 9, 8, 7, 6], .early [25, 24, 18, 17, 9, 8, 7, 6]]⟩, ⟨[], [.early [18, 17, 9, 8, 7], .early [18, 17, 9, 8, 7], .early [25, 24, 18, 17, 9, 8, 7], .early [25, 24, 18, 17, 9, 8, 7]]⟩, ⟨[], [.early [18, 17, 9, 8], .early [18, 17, 9, 8], .early [25, 24, 18, 17, 9, 8], .early [25, 24, 18, 17, 9, 8]]⟩, ⟨[], [.early [18, 17, 9], .early [18, 17, 9], .early [25, 24, 18, 17, 9], .early [25, 24, 18, 17, 9]]⟩, ⟨[], [.early [18, 15, 12, 10], .early [18, 15, 12, 10], .early [25, 24, 18, 15, 12, 10], .early [25, 24, 18, 15, 12, 10]]⟩, ⟨[], [.early [18, 15, 12, 11], .early [18, 15, 12, 11], .early [25, 24, 18, 15, 12, 11], .early [25, 24, 18, 15, 12, 11]]⟩, ⟨[], [.early [18, 15, 12], .early [18, 15, 12], .early [25, 24, 18, 15, 12], .early [25, 24, 18, 15, 12]]⟩, ⟨[], [.early [18, 15, 13], .early [18, 15, 13], .early [25, 24, 18, 15, 13], .early [25, 24, 18, 15, 13]]⟩, ⟨[], [.early [18, 15, 14], .early [18, 15, 14], .early [25, 24, 18, 15, 14], .early [25, 24, 18, 15, 14]]⟩, ⟨[], [.early [18, 15], .early [18, 15], .early [25, 24, 18, 15], .early [25, 24, 18, 15]]⟩, ⟨[], [.early [18, 17, 16], .early [18, 17, 16], .early [25, 24, 18, 17, 16], .early [25, 24, 18, 17, 16]]⟩, ⟨[], [.early [18, 17], .early [18, 17], .early [25, 24, 18, 17], .early [25, 24, 18, 17]]⟩, ⟨[], [.early [18], .early [18], .early [25, 24, 18], .early [25, 24, 18]]⟩, ⟨[], [.early [19], .early [20, 19], .early [25, 23, 20, 19], .early [25, 23, 20, 19]]⟩, ⟨[], [.last, .early [20], .early [25, 23, 20], .early [25, 23, 20]]⟩, ⟨[], [.keep, .early [21], .early [25, 23, 22, 21], .early [25, 23, 22, 21]]⟩, ⟨[], [.keep, .last, .early [25, 23, 22], .early [25, 23, 22]]⟩, ⟨[(0, [20]), (1, [22])], [.late [[]], .late [[]], .early [25, 23], .early [25, 23]]⟩, ⟨[], [.late [[23]], .late [[23]], .early [25, 24], .early [25, 24]]⟩, ⟨[], [.late [[23]], .late [[23]], .early [25], .early [25]]⟩, ⟨[], [.late [[25, 23]], .late [[25, 23]], .early [26], .early [27, 26]]⟩, ⟨[], [.late [[25, 23]], .late [[25, 23]], .last, .early [27]]⟩, ⟨[], [.late [[25, 23]], .late [[25, 23]], .keep, .early [28]]⟩, ⟨[], [.late [[25, 23]], .late [[25, 23]], .keep, .last]⟩, ⟨[(2, [27]), (3, [29])], [.late [[25, 23]], .late [[25, 23]], .late [[]], .late [[]]]⟩, ⟨[], [.late [[25, 23]], .late [[25, 23]], .late [[30]], .late [[30]]]⟩, ⟨[], [.late [[23]], .late [[23]], .late [[30]], .late [[30]]]⟩] [37, 38, 39, 40, 41, 42, 43, 44, 45, 46, 47, 48, 49, 50, 51, 52, 53, 54, 55, 56, 57, 58, 59, 60, 61, 62, 63, 64, 65, 66, 67, 68, 4] (by kernel_rfl) (fun _ => Below.refl _ _) (fun _ _ _ => Ext.then) (by kernel_rfl) (by kernel_rfl) (by kernel_rfl) (by kernel_rfl) (by kernel_rfl) ?start ?_
        case start =>
          exact trivial
        apply ex_is; apply Exists.intro
        apply ex_is; apply Exists.intro
        apply ex_is; apply Exists.intro
        apply ex_is; apply Exists.intro
        apply ex_is; apply Exists.intro
        apply ex_is; apply Exists.intro
        apply ex_is; apply Exists.intro
        apply ex_is; apply Exists.intro
        apply ex_is; apply Exists.intro
        apply ex_is; apply Exists.intro
        apply ex_is; apply Exists.intro
        apply ex_is; apply Exists.intro
        apply ex_is; apply Exists.intro
        apply ex_is; apply Exists.intro
        apply ex_is; apply Exists.intro
        apply ex_is; apply Exists.intro
        apply ex_is; apply Exists.intro
        apply ex_is; apply Exists.intro
        apply ex_is; apply Exists.intro
        apply ex_is; apply Exists.intro
        refine ex_phi (fun _ _ => True) ?_
        apply ex_is; apply Exists.intro
        refine ex_phi (fun _ _ => True) ?_
        apply ex_is; apply Exists.intro
        apply ex_is; apply Exists.intro
        apply ex_is; apply Exists.intro
        apply ex_is; apply Exists.intro
        refine ex_phi (fun _ _ => True) ?_
        apply ex_is; apply Exists.intro
        refine ex_phi (fun _ _ => True) ?_
        apply ex_is; apply Exists.intro
        apply ex_is; apply Exists.intro
        apply ex_is; apply Exists.intro
        refine ⟨[], ⟨?steps, ?stab, ?ends⟩⟩
        case steps =>
          refine And.intro (obX_pure (fun _ => Below.refl _ _) ?_) ?_
          · intro act W hR hf ho hu K hK
            replace hR := ext_drew hR
            replace hK := fun v h2 => hK v W rfl h2 trivial
            have G : act.tmps[5]?.getD undef = _ ∧ True := ho
            obtain ⟨g5, -⟩ := G
            clear ho hf hu
            go_simp
            exact hK _ (Eq.refl _)
          refine And.intro (obX_pure (fun _ => Below.refl _ _) ?_) ?_
          · intro act W hR hf ho hu K hK
            replace hR := ext_drew hR
            replace hK := fun v h2 => hK v W rfl h2 trivial
            have F : act.tmps[37]?.getD undef = _ ∧ True := hf
            obtain ⟨f0, -⟩ := F
            clear ho hf hu
            go_simp
            exact hK _ (Eq.refl _)
          refine And.intro (obX_pure (fun _ => Below.refl _ _) ?_) ?_
          · intro act W hR hf ho hu K hK
            replace hR := ext_drew hR
            replace hK := fun v h2 => hK v W rfl h2 trivial
            have G : act.tmps[8]?.getD undef = _ ∧ True := ho
            obtain ⟨g8, -⟩ := G
            have F : act.tmps[38]?.getD undef = _ ∧ True := hf
            obtain ⟨f1, -⟩ := F
            clear ho hf hu
            go_simp
            exact hK _ (Eq.refl _)
          refine And.intro (obX_pure (fun _ => Below.refl _ _) ?_) ?_
          · intro act W hR hf ho hu K hK
            replace hR := ext_drew hR
            replace hK := fun v h2 => hK v W rfl h2 trivial
            have F : act.tmps[39]?.getD undef = _ ∧ act.tmps[38]?.getD undef = _ ∧ True := hf
            obtain ⟨f2, f1, -⟩ := F
            clear ho hf hu
            go_simp
            exact hK _ (Eq.refl _)
          refine And.intro (obX_pure (fun _ => Below.refl _ _) ?_) ?_
          · intro act W hR hf ho hu K hK
            replace hR := ext_drew hR
            replace hK := fun v h2 => hK v W rfl h2 trivial
            have F : act.tmps[38]?.getD undef = _ ∧ act.tmps[40]?.getD undef = _ ∧ True := hf
            obtain ⟨f1, f3, -⟩ := F
            clear ho hf hu
            go_simp
            exact hK _ (Eq.refl _)
          refine And.intro (obX_pure (fun _ => Below.refl _ _) ?_) ?_
          · intro act W hR hf ho hu K hK
            replace hR := ext_drew hR
            replace hK := fun v h2 => hK v W rfl h2 trivial
            have F : act.tmps[41]?.getD undef = _ ∧ act.tmps[38]?.getD undef = _ ∧ True := hf
            obtain ⟨f4, f1, -⟩ := F
            clear ho hf hu
            go_simp
            exact hK _ (Eq.refl _)
          refine And.intro (obX_pure (fun _ => Below.refl _ _) ?_) ?_
          · intro act W hR hf ho hu K hK
            replace hR := ext_drew hR
            replace hK := fun v h2 => hK v W rfl h2 trivial
            have G : act.tmps[9]?.getD undef = _ ∧ True := ho
            obtain ⟨g9, -⟩ := G
            have F : act.tmps[42]?.getD undef = _ ∧ True := hf
            obtain ⟨f5, -⟩ := F
            clear ho hf hu
            go_simp
            exact hK _ (Eq.refl _)
          refine And.intro (obX_pure (fun _ => Below.refl _ _) ?_) ?_
          · intro act W hR hf ho hu K hK
            replace hR := ext_drew hR
            replace hK := fun v h2 => hK v W rfl h2 trivial
            have F : act.tmps[43]?.getD undef = _ ∧ act.tmps[42]?.getD undef = _ ∧ True := hf
            obtain ⟨f6, f5, -⟩ := F
            clear ho hf hu
            go_simp
            exact hK _ (Eq.refl _)
          refine And.intro (obX_pure (fun _ => Below.refl _ _) ?_) ?_
          · intro act W hR hf ho hu K hK
            replace hR := ext_drew hR
            replace hK := fun v h2 => hK v W rfl h2 trivial
            have F : act.tmps[42]?.getD undef = _ ∧ act.tmps[44]?.getD undef = _ ∧ True := hf
            obtain ⟨f5, f7, -⟩ := F
            clear ho hf hu
            go_simp
            exact hK _ (Eq.refl _)
          refine And.intro (obX_pure (fun _ => Below.refl _ _) ?_) ?_
          · intro act W hR hf ho hu K hK
            replace hR := ext_drew hR
            replace hK := fun v h2 => hK v W rfl h2 trivial
            have F : act.tmps[45]?.getD undef = _ ∧ act.tmps[42]?.getD undef = _ ∧ True := hf
            obtain ⟨f8, f5, -⟩ := F
            clear ho hf hu
            go_simp
            exact hK _ (Eq.refl _)
          refine And.intro (obX_pure (fun _ => Below.refl _ _) ?_) ?_
          · intro act W hR hf ho hu K hK
            replace hR := ext_drew hR
            replace hK := fun v h2 => hK v W rfl h2 trivial
            have G : act.tmps[8]?.getD undef = _ ∧ True := ho
            obtain ⟨g8, -⟩ := G
            have F : act.tmps[46]?.getD undef = _ ∧ True := hf
            obtain ⟨f9, -⟩ := F
            clear ho hf hu
            go_simp
            exact hK _ (Eq.refl _)
          refine And.intro (obX_pure (fun _ => Below.refl _ _) ?_) ?_
          · intro act W hR hf ho hu K hK
            replace hR := ext_drew hR
            replace hK := fun v h2 => hK v W rfl h2 trivial
            have G : act.tmps[3]?.getD undef = _ ∧ True := ho
            obtain ⟨g3, -⟩ := G
            have F : act.tmps[46]?.getD undef = _ ∧ True := hf
            obtain ⟨f9, -⟩ := F
            clear ho hf hu
            obtain ⟨y0, y1, y2, y3, y4, y5⟩ := lie6' hc3.out hR
            go_simp
            exact hK _ (Eq.refl _)
          refine And.intro (obX_eff (Ext) (fun _ _ h => h) (trivial) ?_) ?_
          · intro act W hR hf ho hu K hK
            replace hR := ext_drew hR
            replace hK := fun v (w' : World) (h1 : (Ext) W w') h2 => hK v w' h1 h2 trivial
            have F : act.tmps[47]?.getD undef = _ ∧ act.tmps[48]?.getD undef = _ ∧ act.tmps[46]?.getD undef = _ ∧ act.tmps[46]?.getD undef = _ ∧ True := hf
            obtain ⟨f10, f11, f9, -, -⟩ := F
            clear ho hf hu
            go_simp
            refine (has_set c (T3.out.ext hR) (by omega) hw hc).mono ?_; rintro _ W1 ⟨rfl, hE⟩; rw [QQ.out.1]; exact hK _ _ hE (Eq.refl _)
          refine And.intro (obX_pure (fun _ => Below.refl _ _) ?_) ?_
          · intro act W hR hf ho hu K hK
            replace hR := ext_drew hR
            replace hK := fun v h2 => hK v W rfl h2 trivial
            have G : act.tmps[9]?.getD undef = _ ∧ True := ho
            obtain ⟨g9, -⟩ := G
            have F : act.tmps[46]?.getD undef = _ ∧ True := hf
            obtain ⟨f9, -⟩ := F
            clear ho hf hu
            go_simp
            exact hK _ (Eq.refl _)
          refine And.intro (obX_pure (fun _ => Below.refl _ _) ?_) ?_
          · intro act W hR hf ho hu K hK
            replace hR := ext_drew hR
            replace hK := fun v h2 => hK v W rfl h2 trivial
            have G : act.tmps[3]?.getD undef = _ ∧ True := ho
            obtain ⟨g3, -⟩ := G
            have F : act.tmps[46]?.getD undef = _ ∧ True := hf
            obtain ⟨f9, -⟩ := F
            clear ho hf hu
            obtain ⟨y0, y1, y2, y3, y4, y5⟩ := lie6' hc3.out hR
            go_simp
            exact hK _ (Eq.refl _)
          refine And.intro (obX_eff (Ext) (fun _ _ h => h) (trivial) ?_) ?_
          · intro act W hR hf ho hu K hK
            replace hR := ext_drew hR
            replace hK := fun v (w' : World) (h1 : (Ext) W w') h2 => hK v w' h1 h2 trivial
            have F : act.tmps[50]?.getD undef = _ ∧ act.tmps[51]?.getD undef = _ ∧ act.tmps[49]?.getD undef = _ ∧ act.tmps[46]?.getD undef = _ ∧ True := hf
            obtain ⟨f13, f14, f12, f9, -⟩ := F
            clear ho hf hu
            go_simp
            refine (has_set c (S3.out.ext hR) (by omega) hwb.out hc).mono ?_; rintro _ W1 ⟨rfl, hE⟩; exact hK _ _ hE (Eq.refl _)
          refine And.intro (obX_pure (fun _ => Below.refl _ _) ?_) ?_
          · intro act W hR hf ho hu K hK
            replace hR := ext_drew hR
            replace hK := fun v h2 => hK v W rfl h2 trivial
            have F : act.tmps[49]?.getD undef = _ ∧ act.tmps[52]?.getD undef = _ ∧ act.tmps[46]?.getD undef = _ ∧ True := hf
            obtain ⟨f12, f15, f9, -⟩ := F
            clear ho hf hu
            go_simp
            exact hK _ (Eq.refl _)
          refine And.intro (obX_pure (fun _ => Below.refl _ _) ?_) ?_
          · intro act W hR hf ho hu K hK
            replace hR := ext_drew hR
            replace hK := fun v h2 => hK v W rfl h2 trivial
            have F : act.tmps[46]?.getD undef = _ ∧ act.tmps[53]?.getD undef = _ ∧ True := hf
            obtain ⟨f9, f16, -⟩ := F
            clear ho hf hu
            go_simp
            exact hK _ (Eq.refl _)
          refine And.intro (obX_pure (fun _ => Below.refl _ _) ?_) ?_
          · intro act W hR hf ho hu K hK
            replace hR := ext_drew hR
            replace hK := fun v h2 => hK v W rfl h2 trivial
            have F : act.tmps[54]?.getD undef = _ ∧ act.tmps[52]?.getD undef = _ ∧ True := hf
            obtain ⟨f17, f15, -⟩ := F
            clear ho hf hu
            go_simp
            exact hK _ (Eq.refl _)
          refine And.intro (obX_pure (fun _ => Below.refl _ _) ?_) ?_
          · intro act W hR hf ho hu K hK
            replace hR := ext_drew hR
            replace hK := fun v h2 => hK v W rfl h2 trivial
            have G : act.tmps[8]?.getD undef = _ ∧ True := ho
            obtain ⟨g8, -⟩ := G
            have F : act.tmps[55]?.getD undef = _ ∧ True := hf
            obtain ⟨f18, -⟩ := F
            clear ho hf hu
            go_simp
            exact hK _ (Eq.refl _)
          refine And.intro (obX_eff (Ext) (fun _ _ h => h) (trivial) ?_) ?_
          · intro act W hR hf ho hu K hK
            replace hR := ext_drew hR
            replace hK := fun v (w' : World) (h1 : (Ext) W w') (b0 : (fun (v : Value) (W : World) => Caps (openS O') v W) (v) w') => hK v w' h1 trivial ⟨b0, trivial⟩
            have F : act.tmps[56]?.getD undef = _ ∧ act.tmps[55]?.getD undef = _ ∧ act.tmps[55]?.getD undef = _ ∧ True := hf
            obtain ⟨f19, f18, -, -⟩ := F
            clear ho hf hu
            go_simp
            refine (open_set (T3.out.ext hR) (by omega) hw).mono ?_; rintro _ W1 ⟨v, rfl, ho, hE⟩; rw [QQ.out.2.1] at ho; exact hK _ _ hE (Caps.own ho)
          refine And.intro (obX_pure (fun _ => Below.refl _ _) ?_) ?_
          · intro act W hR hf ho hu K hK
            replace hR := ext_drew hR
            replace hK := fun v h2 => hK v W rfl h2 trivial
            have G : act.tmps[9]?.getD undef = _ ∧ True := ho
            obtain ⟨g9, -⟩ := G
            have F : act.tmps[55]?.getD undef = _ ∧ True := hf
            obtain ⟨f18, -⟩ := F
            clear ho hf hu
            go_simp
            exact hK _ (Eq.refl _)
          refine And.intro (obX_eff (Ext) (fun _ _ h => h) (And.intro (fun _ _ _ h e => h.ext e) (trivial)) ?_) ?_
          · intro act W hR hf ho hu K hK
            replace hR := ext_drew hR
            replace hK := fun v (w' : World) (h1 : (Ext) W w') (b1 : (fun (v : Value) (W : World) => Caps (openS O') v W) (v) w') => hK v w' h1 trivial ⟨b1, trivial⟩
            have F : act.tmps[58]?.getD undef = _ ∧ (fun _ _ => True) (act.tmps[57]?.getD undef) W ∧ act.tmps[55]?.getD undef = _ ∧ True := hf
            obtain ⟨f21, -, f18, -⟩ := F
            generalize f20 : act.tmps[57]?.getD undef = v20
            clear ho hf hu
            go_simp
            refine (open_set (S3.out.ext hR) (by omega) hwb.out).mono ?_; rintro _ W1 ⟨v, rfl, ho, hE⟩; exact hK _ _ hE (Caps.own ho)
          refine And.intro (obX_eff (Ext) (fun _ _ h => h) (trivial) ?_) ?_
          · intro act W hR hf ho hu K hK
            replace hR := ext_drew hR
            replace hK := fun v (w' : World) (h1 : (Ext) W w') h2 => hK v w' h1 h2 trivial
            have F : (fun _ _ => True) (act.tmps[57]?.getD undef) W ∧ (fun _ _ => True) (act.tmps[59]?.getD undef) W ∧ (fun _ _ => True) (act.tmps[59]?.getD undef) W ∧ act.tmps[55]?.getD undef = _ ∧ True := hf
            obtain ⟨-, -, -, f18, -⟩ := F
            have U : (fun (v : Value) (W : World) => Caps (openS O') v W) (act.tmps[57]?.getD undef) W ∧ (fun (v : Value) (W : World) => Caps (openS O') v W) (act.tmps[59]?.getD undef) W ∧ True := hu
            obtain ⟨r_o20, r_o22, -⟩ := U
            generalize f20 : act.tmps[57]?.getD undef = v20 at r_o20
            generalize f22 : act.tmps[59]?.getD undef = v22 at r_o22
            clear ho hf hu
            obtain ⟨A1, c1, rfl, a1⟩ := r_o20; obtain ⟨A2, c2, rfl, a2⟩ := r_o22
            go_simp
            refine (same_any A1 A2 c1 c2 _ _ W a1 a2 HPL.out HPL.out).mono ?_; rintro _ W1 ⟨rfl, hE⟩; rw [decide_eq_true rfl]; exact hK _ _ hE (Eq.refl _)
          refine And.intro (obX_pure (fun _ => Below.refl _ _) ?_) ?_
          · intro act W hR hf ho hu K hK
            replace hR := ext_drew hR
            replace hK := fun v h2 => hK v W rfl h2 trivial
            have F : act.tmps[55]?.getD undef = _ ∧ act.tmps[60]?.getD undef = _ ∧ True := hf
            obtain ⟨f18, f23, -⟩ := F
            clear ho hf hu
            go_simp
            exact hK _ (Eq.refl _)
          refine And.intro (obX_pure (fun _ => Below.refl _ _) ?_) ?_
          · intro act W hR hf ho hu K hK
            replace hR := ext_drew hR
            replace hK := fun v h2 => hK v W rfl h2 trivial
            have F : act.tmps[61]?.getD undef = _ ∧ act.tmps[60]?.getD undef = _ ∧ True := hf
            obtain ⟨f24, f23, -⟩ := F
            clear ho hf hu
            go_simp
            exact hK _ (Eq.refl _)
          refine And.intro (obX_pure (fun _ => Below.refl _ _) ?_) ?_
          · intro act W hR hf ho hu K hK
            replace hR := ext_drew hR
            replace hK := fun v h2 => hK v W rfl h2 trivial
            have G : act.tmps[8]?.getD undef = _ ∧ True := ho
            obtain ⟨g8, -⟩ := G
            have F : act.tmps[62]?.getD undef = _ ∧ True := hf
            obtain ⟨f25, -⟩ := F
            clear ho hf hu
            go_simp
            exact hK _ (Eq.refl _)
          refine And.intro (obX_eff (Ext) (fun _ _ h => h) (trivial) ?_) ?_
          · intro act W hR hf ho hu K hK
            replace hR := ext_drew hR
            replace hK := fun v (w' : World) (h1 : (Ext) W w') (b2 : (fun (v : Value) (W : World) => Ints (typesS O' 64) v W) (v) w') => hK v w' h1 trivial ⟨b2, trivial⟩
            have F : act.tmps[63]?.getD undef = _ ∧ act.tmps[62]?.getD undef = _ ∧ act.tmps[62]?.getD undef = _ ∧ True := hf
            obtain ⟨f26, f25, -, -⟩ := F
            clear ho hf hu
            go_simp
            refine (types_set 64 (T3.out.ext hR) (by omega) hw (by unfold i64ok'; omega)).mono ?_; rintro _ W1 ⟨v, rfl, ho, hE⟩; rw [QQ.out.2.2] at ho; exact hK _ _ hE (Ints.own ho)
          refine And.intro (obX_pure (fun _ => Below.refl _ _) ?_) ?_
          · intro act W hR hf ho hu K hK
            replace hR := ext_drew hR
            replace hK := fun v h2 => hK v W rfl h2 trivial
            have G : act.tmps[9]?.getD undef = _ ∧ True := ho
            obtain ⟨g9, -⟩ := G
            have F : act.tmps[62]?.getD undef = _ ∧ True := hf
            obtain ⟨f25, -⟩ := F
            clear ho hf hu
            go_simp
            exact hK _ (Eq.refl _)
          refine And.intro (obX_eff (Ext) (fun _ _ h => h) (And.intro (fun _ _ _ h e => h.ext e) (trivial)) ?_) ?_
          · intro act W hR hf ho hu K hK
            replace hR := ext_drew hR
            replace hK := fun v (w' : World) (h1 : (Ext) W w') (b3 : (fun (v : Value) (W : World) => Ints (typesS O' 64) v W) (v) w') => hK v w' h1 trivial ⟨b3, trivial⟩
            have F : act.tmps[65]?.getD undef = _ ∧ (fun _ _ => True) (act.tmps[64]?.getD undef) W ∧ act.tmps[62]?.getD undef = _ ∧ True := hf
            obtain ⟨f28, -, f25, -⟩ := F
            generalize f27 : act.tmps[64]?.getD undef = v27
            clear ho hf hu
            go_simp
            refine (types_set 64 (S3.out.ext hR) (by omega) hwb.out (by unfold i64ok'; omega)).mono ?_; rintro _ W1 ⟨v, rfl, ho, hE⟩; exact hK _ _ hE (Ints.own ho)
          refine And.intro (obX_eff (Ext) (fun _ _ h => h) (trivial) ?_) ?_
          · intro act W hR hf ho hu K hK
            replace hR := ext_drew hR
            replace hK := fun v (w' : World) (h1 : (Ext) W w') h2 => hK v w' h1 h2 trivial
            have F : (fun _ _ => True) (act.tmps[64]?.getD undef) W ∧ (fun _ _ => True) (act.tmps[66]?.getD undef) W ∧ (fun _ _ => True) (act.tmps[66]?.getD undef) W ∧ act.tmps[62]?.getD undef = _ ∧ True := hf
            obtain ⟨-, -, -, f25, -⟩ := F
            have U : (fun (v : Value) (W : World) => Ints (typesS O' 64) v W) (act.tmps[64]?.getD undef) W ∧ (fun (v : Value) (W : World) => Ints (typesS O' 64) v W) (act.tmps[66]?.getD undef) W ∧ True := hu
            obtain ⟨r_t27, r_t29, -⟩ := U
            generalize f27 : act.tmps[64]?.getD undef = v27 at r_t27
            generalize f29 : act.tmps[66]?.getD undef = v29 at r_t29
            clear ho hf hu
            obtain ⟨A1, c1, rfl, a1⟩ := r_t27; obtain ⟨A2, c2, rfl, a2⟩ := r_t29
            go_simp
            refine (sameInts_any A1 A2 c1 c2 _ _ W a1 a2 HTL.out HTL.out).mono ?_; rintro _ W1 ⟨rfl, hE⟩; rw [decide_eq_true rfl]; exact hK _ _ hE (Eq.refl _)
          refine And.intro (obX_pure (fun _ => Below.refl _ _) ?_) ?_
          · intro act W hR hf ho hu K hK
            replace hR := ext_drew hR
            replace hK := fun v h2 => hK v W rfl h2 trivial
            have F : act.tmps[62]?.getD undef = _ ∧ act.tmps[67]?.getD undef = _ ∧ True := hf
            obtain ⟨f25, f30, -⟩ := F
            clear ho hf hu
            go_simp
            exact hK _ (Eq.refl _)
          refine And.intro (obX_pure (fun _ => Below.refl _ _) ?_) ?_
          · intro act W hR hf ho hu K hK
            replace hR := ext_drew hR
            replace hK := fun v h2 => hK v W rfl h2 trivial
            have F : act.tmps[68]?.getD undef = _ ∧ act.tmps[67]?.getD undef = _ ∧ act.tmps[37]?.getD undef = _ ∧ act.tmps[38]?.getD undef = _ ∧ act.tmps[39]?.getD undef = _ ∧ act.tmps[40]?.getD undef = _ ∧ act.tmps[41]?.getD undef = _ ∧ act.tmps[42]?.getD undef = _ ∧ act.tmps[43]?.getD undef = _ ∧ act.tmps[44]?.getD undef = _ ∧ act.tmps[45]?.getD undef = _ ∧ act.tmps[46]?.getD undef = _ ∧ act.tmps[47]?.getD undef = _ ∧ act.tmps[48]?.getD undef = _ ∧ act.tmps[49]?.getD undef = _ ∧ act.tmps[50]?.getD undef = _ ∧ act.tmps[51]?.getD undef = _ ∧ act.tmps[52]?.getD undef = _ ∧ act.tmps[53]?.getD undef = _ ∧ act.tmps[54]?.getD undef = _ ∧ act.tmps[55]?.getD undef = _ ∧ act.tmps[56]?.getD undef = _ ∧ (fun _ _ => True) (act.tmps[57]?.getD undef) W ∧ act.tmps[58]?.getD undef = _ ∧ (fun _ _ => True) (act.tmps[59]?.getD undef) W ∧ act.tmps[60]?.getD undef = _ ∧ act.tmps[61]?.getD undef = _ ∧ act.tmps[62]?.getD undef = _ ∧ act.tmps[63]?.getD undef = _ ∧ (fun _ _ => True) (act.tmps[64]?.getD undef) W ∧ act.tmps[65]?.getD undef = _ ∧ (fun _ _ => True) (act.tmps[66]?.getD undef) W ∧ act.tmps[67]?.getD undef = _ ∧ act.tmps[68]?.getD undef = _ ∧ True := hf
            obtain ⟨f31, f30, f0, f1, f2, f3, f4, f5, f6, f7, f8, f9, f10, f11, f12, f13, f14, f15, f16, f17, f18, f19, -, f21, -, f23, f24, f25, f26, -, f28, -, -, -, -⟩ := F
            generalize f20 : act.tmps[57]?.getD undef = v20
            generalize f22 : act.tmps[59]?.getD undef = v22
            generalize f27 : act.tmps[64]?.getD undef = v27
            generalize f29 : act.tmps[66]?.getD undef = v29
            clear ho hf hu
            go_simp
            exact hK _ (Eq.refl _)
          exact trivial
        case stab =>
          refine And.intro is_stable ?_
          refine And.intro is_stable ?_
          refine And.intro is_stable ?_
          refine And.intro is_stable ?_
          refine And.intro is_stable ?_
          refine And.intro is_stable ?_
          refine And.intro is_stable ?_
          refine And.intro is_stable ?_
          refine And.intro is_stable ?_
          refine And.intro is_stable ?_
          refine And.intro is_stable ?_
          refine And.intro is_stable ?_
          refine And.intro is_stable ?_
          refine And.intro is_stable ?_
          refine And.intro is_stable ?_
          refine And.intro is_stable ?_
          refine And.intro is_stable ?_
          refine And.intro is_stable ?_
          refine And.intro is_stable ?_
          refine And.intro is_stable ?_
          refine And.intro (fun _ _ _ h _ => h) ?_
          refine And.intro is_stable ?_
          refine And.intro (fun _ _ _ h _ => h) ?_
          refine And.intro is_stable ?_
          refine And.intro is_stable ?_
          refine And.intro is_stable ?_
          refine And.intro is_stable ?_
          refine And.intro (fun _ _ _ h _ => h) ?_
          refine And.intro is_stable ?_
          refine And.intro (fun _ _ _ h _ => h) ?_
          refine And.intro is_stable ?_
          refine And.intro is_stable ?_
          refine And.intro is_stable ?_
          exact trivial
        case ends =>
          intro vals W hR hE hall
          replace hR := ext_drew hR
          clear hE
          have e4 : vals 4 = _ := hall 32 (by decide)
          clear hall
          simp only [fill, List.setIfInBounds_toArray, List.set_cons_succ, List.set_cons_zero, e4]
          go_wp2_with fail
          go_ret
          exact ⟨rfl, (E1.out.then E3.out).then hR⟩
end Go.Proofs.Ytalndcjbnedigaa

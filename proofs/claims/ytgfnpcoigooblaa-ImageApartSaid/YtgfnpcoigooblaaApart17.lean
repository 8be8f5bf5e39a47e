
/- ImageApart: the law returns true. -/
import Derived.Test.YtgfnpcoigooblaaBack17
import Derived.Test.YtgfnpcoigooblaaApaP17
set_option linter.all false
namespace Go.Proofs.Ytgfnpcoigooblaa
open Go.RowKit
attribute [local go_sem] seen dstOf boolOf
/-- What a layout's slices have, one behind the other; and the first shared pages. -/
def allK (y : LayM) (k : Nat) : List (Int × Int) := y.code ++ y.data ++ y.heap ++ (y.shares.take k).map fun s => (s, s + 256)
theorem allK_succ {y : LayM} {k : Nat} (hk : k < y.shares.length) : allK y (k + 1) = allK y k ++ [(y.shares[k], y.shares[k] + 256)] := by
  unfold allK
  rw [List.take_add_one, List.getElem?_eq_getElem hk, List.map_append, ← List.append_assoc]
  rfl
theorem allK_full (y : LayM) : allK y y.shares.length = allL y.d := by unfold allK allL LayM.d; rw [List.take_length]
theorem allK_len (y : LayM) (k : Nat) : (allK y k).length ≤ y.code.length + y.data.length + y.heap.length + y.shares.length := by
  unfold allK
  simp
  omega
theorem pairs_len (l : List (Int × Int)) : (l.flatMap pairC).length = l.length * 2 := flat_length pairC 2 (fun _ => rfl) l
theorem pairs_one (l : List (Int × Int)) : ∀ u ∈ l.flatMap pairC, u.oneCell' = true := by
  intro u hu
  obtain ⟨x, -, hx⟩ := List.mem_flatMap.1 hu
  simp only [List.mem_cons, List.not_mem_nil, or_false] at hx
  rcases hx with rfl | rfl <;> rfl
theorem lies_arr' {w : World} {A : Option Addr} {cs : List Value} {n c : Nat} (h : Arr w A cs) (hn : 0 < cs.length) : Lies w.heap.size w (.slice A n c) n cs := by
  obtain ⟨b, o, rfl, -, -⟩ := h.open hn
  exact Lies.arr h
set_option maxHeartbeats 8000000 in
set_option maxRecDepth 100000 in
theorem apart17_any (x : ImgM) (w : World) (h : ImgAt w x) (h1 : x.comps.length ≤ 8796093021952) (h2 : x.links.length ≤ 8796093021952) (h3 : x.shares.length ≤ 8796093021952) :
    Calls Try.prog 6 #[x.val] w fun e w' => e = .returned (.bool true) ∧ Ext w w' := by
  obtain ⟨ci, hci, hci0, hci1, hci2⟩ := info_parts infoPair
  have H := Lib.hid h
  clear h
  go_enter Try.func6, Try.ntmps6
  go_wp2_with fail
  refine (head17 _).mono ?_
  rintro e w1 ⟨rfl, hE1⟩
  have B1 : Hid (Begun w w1 x) := Lib.hid ⟨(Ext.alloc (Below.refl _ w) _).then hE1, (hE1.block _ (by simp)).trans (heap_alloc_new w _)⟩
  clear hE1
  obtain ⟨z0, z1, z2, z3, z4, z5⟩ := lie6 B1.out.row (Below.refl _ w1)
  have hlt : w.heap.size < w1.heap.size := cell_lt z0
  go_wp2_with fail
  refine (great_any x w1 (H.out.ext B1.out.ext) h1 h2 h3).mono ?_
  rintro e w2 ⟨b, rfl, hE⟩
  have B2 : Hid (Begun w w2 x) := Lib.hid (B1.out.then hE)
  clear hE B1
  cases b with
  | true =>
    go_wp2_with fail
    go_ret
    exact ⟨rfl, B2.out.ext⟩
  | false =>
    obtain ⟨z0, z1, z2, z3, z4, z5⟩ := lie6 B2.out.row (Below.refl _ w2)
    have hlt2 : w.heap.size < w2.heap.size := cell_lt z0
    go_wp2_with fail
    refine (imgRight_any x w2 (H.out.ext B2.out.ext)).mono ?_
    rintro e w3 ⟨rfl, hE⟩
    have B3 : Hid (Begun w w3 x) := Lib.hid (B2.out.then hE)
    clear hE B2
    cases hr : rightD x.d with
    | false =>
      go_wp2_with fail
      go_ret
      exact ⟨rfl, B3.out.ext⟩
    | true =>
      have HR := Lib.hid hr
      clear hr
      obtain ⟨z0, z1, z2, z3, z4, z5⟩ := lie6 B3.out.row (Below.refl _ w3)
      have hlt3 : w.heap.size < w3.heap.size := cell_lt z0
      go_wp2_with fail
      refine (where_any x w3 (H.out.ext B3.out.ext)).mono ?_
      rintro e w4 ⟨y, hy, hyd, rfl, hE⟩
      have B4 : Hid (Begun w w4 x) := Lib.hid (B3.out.then hE)
      clear hE B3
      have hle := where_lens HR.out
      rw [← hyd] at hle
      obtain ⟨e1, e2, e3, e4⟩ := hle
      replace e1 : y.code.length = x.comps.length := e1.trans (by simp [ImgM.d])
      replace e2 : y.data.length = x.comps.length := e2.trans (by simp [ImgM.d])
      replace e3 : y.heap.length = x.comps.length := e3.trans (by simp [ImgM.d])
      replace e4 : y.shares.length = x.shares.length := e4
      have HY := Lib.hid (And.intro hy (And.intro hyd (And.intro e1 (And.intro e2 (And.intro e3 e4)))))
      obtain ⟨U, hu⟩ : ∃ U, U = w4.alloc (.cells #[.slice y.Ac y.code.length y.kc, .slice y.Ad y.data.length y.kd, .slice y.Ah y.heap.length y.kh, .slice y.As y.shares.length y.ks, .int .i64 y.pages] 45) := ⟨_, rfl⟩
      have Eu : Ext w4 U := by rw [hu]; exact (by repeat first | (with_reducible exact Below.refl _ _) | (with_reducible apply Ext.alloc) | (with_reducible apply Ext.drew) | (with_reducible apply Ext.drewN) | (with_reducible refine Ext.set ?_ (by simp)))
      have hlay : U.heap[w4.heap.size]? = some (.cells #[.slice y.Ac y.code.length y.kc, .slice y.Ad y.data.length y.kd, .slice y.Ah y.heap.length y.kh, .slice y.As y.shares.length y.ks, .int .i64 y.pages] 45) := by rw [hu]; exact heap_alloc_new w4 _
      have Bu : Hid (Begun w U x) := Lib.hid (B4.out.then Eu)
      have HU := Lib.hid (And.intro Eu (And.intro hlay hu))
      have hltu : w4.heap.size < U.heap.size := by rw [hu]; simp
      obtain ⟨z0, z1, z2, z3, z4, z5⟩ := lie6 B4.out.row (Below.refl _ w4)
      have hlt4 : w.heap.size < w4.heap.size := cell_lt z0
      have hltx : w.heap.size < U.heap.size := by omega
      clear hy hyd Eu hlay hu
      go_wp2_with fail
      have hu' := HU.out.2.2
      rw [e1, e2, e3, e4] at hu'
      rw [← hu']
      clear z0 z1 z2 z3 z4 z5 e1 e2 e3 e4 hu'
      have hn4 := (right_form HR.out).n.2
      have hs4 := (right_form HR.out).ns
      have hn1 := (right_form HR.out).n.1
      have lc : y.code.length ≤ 4 := by rw [HY.out.2.2.1]; simpa [ImgM.d] using hn4
      have ld : y.data.length ≤ 4 := by rw [HY.out.2.2.2.1]; simpa [ImgM.d] using hn4
      have lh : y.heap.length ≤ 4 := by rw [HY.out.2.2.2.2.1]; simpa [ImgM.d] using hn4
      have ls : y.shares.length ≤ 4 := by rw [HY.out.2.2.2.2.2]; simpa [ImgM.d] using hs4
      have lc0 : 0 < y.code.length := by rw [HY.out.2.2.1]; have := hn1; simp [ImgM.d] at this; omega
      have ld0 : 0 < y.data.length := by rw [HY.out.2.2.2.1]; have := hn1; simp [ImgM.d] at this; omega
      have lh0 : 0 < y.heap.length := by rw [HY.out.2.2.2.2.1]; have := hn1; simp [ImgM.d] at this; omega
      clear hn4 hs4 hn1
      refine wp_region_res (Only U.heap.size [51]) [⟨some 0, [(0, [])], [3]⟩, ⟨some 3, [(3, [])], [6]⟩, ⟨some 6, [(6, [])], [9]⟩, ⟨some 9, [(9, [])], [10]⟩, ⟨some 10, [(10, [])], []⟩] [(fun (u : Nat → Value) (W : World) => (fun (v : Value) (W : World) => W.ownsRow U.heap.size 51 2 v 0 []) (u 0) W), (fun (u : Nat → Value) (W : World) => (fun (v : Value) (W : World) => W.ownsRow U.heap.size 51 2 v (0 + y.code.length) ([] ++ y.code.flatMap pairC)) (u 3) W), (fun (u : Nat → Value) (W : World) => (fun (v : Value) (W : World) => W.ownsRow U.heap.size 51 2 v (0 + y.code.length + y.data.length) ([] ++ y.code.flatMap pairC ++ y.data.flatMap pairC)) (u 6) W), (fun (u : Nat → Value) (W : World) => (fun (v : Value) (W : World) => W.ownsRow U.heap.size 51 2 v (0 + y.code.length + y.data.length + y.heap.length) ([] ++ y.code.flatMap pairC ++ y.data.flatMap pairC ++ y.heap.flatMap pairC)) (u 9) W), (fun (u : Nat → Value) (W : World) => (fun (v : Value) (W : World) => W.ownsRow U.heap.size 51 2 v (0 + y.code.length + y.data.length + y.heap.length) ([] ++ y.code.flatMap pairC ++ y.data.flatMap pairC ++ y.heap.flatMap pairC)) (u 10) W)] [⟨[], [.last, .early [0], .early [3, 0], .early [6, 3, 0], .early [0]]⟩, ⟨[], [.keep, .early [2, 1], .early [3, 2, 1], .early [6, 3, 2, 1], .early [1]]⟩, ⟨[], [.keep, .early [2], .early [3, 2], .early [6, 3, 2], .early [2]]⟩, ⟨[(0, [0])], [.late [[]], .last, .early [3], .early [6, 3], .early [3]]⟩, ⟨[], [.keep, .keep, .early [5, 4], .early [6, 5, 4], .early [4]]⟩, ⟨[], [.keep, .keep, .early [5], .early [6, 5], .early [5]]⟩, ⟨[(1, [3])], [.late [[3]], .late [[]], .last, .early [6], .early [6]]⟩, ⟨[], [.keep, .keep, .keep, .early [8, 7], .early [7]]⟩, ⟨[], [.keep, .keep, .keep, .early [8], .early [8]]⟩, ⟨[(2, [6])], [.late [[6, 3]], .late [[6]], .late [[]], .last, .early [9]]⟩, ⟨[(3, [9])], [.late [[3]], .late [[6]], .late [[9]], .late [[]], .last]⟩] [53, 54, 55, 56, 57, 58, 59, 60, 61, 62, 6] (by kernel_rfl) (Only.refl _ _) (fun _ _ _ => Only.trans) (by kernel_rfl) (by kernel_rfl) (by kernel_rfl) (by kernel_rfl) (by kernel_rfl) ?start ?_
      case start =>
        exact trivial
      refine ex_phi (fun _ _ => True) ?_
      apply ex_is; apply Exists.intro
      apply ex_is; apply Exists.intro
      refine ex_phi (fun _ _ => True) ?_
      apply ex_is; apply Exists.intro
      apply ex_is; apply Exists.intro
      refine ex_phi (fun _ _ => True) ?_
      apply ex_is; apply Exists.intro
      apply ex_is; apply Exists.intro
      refine ex_phi (fun _ _ => True) ?_
      refine ex_phi (fun _ _ => True) ?_
      refine ⟨[], ⟨?steps, ?stab, ?ends⟩⟩
      case steps =>
        refine And.intro (obX_eff (Ext) (fun _ _ h => Only.ext h) (trivial) ?_) ?_
        · intro act W hR hf ho hu K hK
          replace hK := fun v (w' : World) (h1 : (Ext) W w') (b0 : (fun (v : Value) (W : World) => W.ownsRow U.heap.size 51 2 v 0 []) (v) w') => hK v w' h1 trivial ⟨b0, trivial⟩
          clear ho hf hu
          go_simp
          exact hK _ _ (by repeat first | (with_reducible exact Below.refl _ _) | (with_reducible apply Ext.alloc) | (with_reducible apply Ext.drew) | (with_reducible apply Ext.drewN) | (with_reducible refine Ext.set ?_ (by simp))) (own_lit W U.heap.size 51 2 0 [] hR.size (by simp) (by simp [maxLen]))
        refine And.intro (obX_pure (Only.refl _ _) ?_) ?_
        · intro act W hR hf ho hu K hK
          replace hK := fun v h2 => hK v W rfl h2 trivial
          have G : act.tmps[4]?.getD undef = _ ∧ True := ho
          obtain ⟨g4, -⟩ := G
          clear ho hf hu
          go_simp
          exact hK _ (Eq.refl _)
        refine And.intro (obX_pure (Only.refl _ _) ?_) ?_
        · intro act W hR hf ho hu K hK
          replace hK := fun v h2 => hK v W rfl h2 trivial
          have F : act.tmps[54]?.getD undef = _ ∧ True := hf
          obtain ⟨f1, -⟩ := F
          clear ho hf hu
          obtain ⟨q0, q1, q2, q3, q4⟩ := lie5 (hR.low HU.out.2.1 hltu) (Below.refl _ W)
          go_simp
          exact hK _ (Eq.refl _)
        refine And.intro (obX_eff (Only U.heap.size [51]) (fun _ _ h => h) (trivial) ?_) ?_
        · intro act W hR hf ho hu K hK
          replace hK := fun v (w' : World) (h1 : (Only U.heap.size [51]) W w') (b1 : (fun (v : Value) (W : World) => W.ownsRow U.heap.size 51 2 v (0 + y.code.length) ([] ++ y.code.flatMap pairC)) (v) w') => hK v w' h1 trivial ⟨b1, trivial⟩
          have F : (fun _ _ => True) (act.tmps[53]?.getD undef) W ∧ act.tmps[55]?.getD undef = _ ∧ True := hf
          obtain ⟨-, f2, -⟩ := F
          have U : (fun (v : Value) (W : World) => W.ownsRow U.heap.size 51 2 v 0 []) (act.tmps[53]?.getD undef) W ∧ True := hu
          obtain ⟨r_a0, -⟩ := U
          generalize f0 : act.tmps[53]?.getD undef = v0 at r_a0
          clear ho hf hu
          dsimp only [Option.elim] at f2
          rw [← seen_eq]; refine step_append_src W rfl (.tmp 53) (.tmp 55) 42 rfl U.heap.size 51 ci (.agg #[.int .i64 0, .int .i64 0]) 2 16 Try.underlying42 hci hci0 hci1 hci2 rfl (by decide) _ _ _ (eval_get f0) r_a0 _ y.code.length (y.code.flatMap pairC) (eval_get f2) (lies_arr' (hR.arr (HY.out.1.code.ext (Ext.drew HU.out.1)) (Nat.le_refl _)) (by rw [pairs_len]; omega)) (pairs_len _) (pairs_one _) (by unfold maxLen; omega) (by omega) hR.size ?_; intro v' w' ho' hg' _; exact hK _ _ (Only.grown r_a0 hg' (by simp)) ho'
        refine And.intro (obX_pure (Only.refl _ _) ?_) ?_
        · intro act W hR hf ho hu K hK
          replace hK := fun v h2 => hK v W rfl h2 trivial
          have G : act.tmps[4]?.getD undef = _ ∧ True := ho
          obtain ⟨g4, -⟩ := G
          clear ho hf hu
          go_simp
          exact hK _ (Eq.refl _)
        refine And.intro (obX_pure (Only.refl _ _) ?_) ?_
        · intro act W hR hf ho hu K hK
          replace hK := fun v h2 => hK v W rfl h2 trivial
          have F : act.tmps[57]?.getD undef = _ ∧ True := hf
          obtain ⟨f4, -⟩ := F
          clear ho hf hu
          obtain ⟨q0, q1, q2, q3, q4⟩ := lie5 (hR.low HU.out.2.1 hltu) (Below.refl _ W)
          go_simp
          exact hK _ (Eq.refl _)
        refine And.intro (obX_eff (Only U.heap.size [51]) (fun _ _ h => h) (trivial) ?_) ?_
        · intro act W hR hf ho hu K hK
          replace hK := fun v (w' : World) (h1 : (Only U.heap.size [51]) W w') (b2 : (fun (v : Value) (W : World) => W.ownsRow U.heap.size 51 2 v (0 + y.code.length + y.data.length) ([] ++ y.code.flatMap pairC ++ y.data.flatMap pairC)) (v) w') => hK v w' h1 trivial ⟨b2, trivial⟩
          have F : (fun _ _ => True) (act.tmps[56]?.getD undef) W ∧ act.tmps[58]?.getD undef = _ ∧ (fun _ _ => True) (act.tmps[56]?.getD undef) W ∧ True := hf
          obtain ⟨-, f5, -, -⟩ := F
          have U : (fun (v : Value) (W : World) => W.ownsRow U.heap.size 51 2 v (0 + y.code.length) ([] ++ y.code.flatMap pairC)) (act.tmps[56]?.getD undef) W ∧ True := hu
          obtain ⟨r_a1, -⟩ := U
          generalize f3 : act.tmps[56]?.getD undef = v3 at r_a1
          clear ho hf hu
          dsimp only [Option.elim] at f5
          rw [← seen_eq]; refine step_append_src W rfl (.tmp 56) (.tmp 58) 42 rfl U.heap.size 51 ci (.agg #[.int .i64 0, .int .i64 0]) 2 16 Try.underlying42 hci hci0 hci1 hci2 rfl (by decide) _ _ _ (eval_get f3) r_a1 _ y.data.length (y.data.flatMap pairC) (eval_get f5) (lies_arr' (hR.arr (HY.out.1.data.ext (Ext.drew HU.out.1)) (Nat.le_refl _)) (by rw [pairs_len]; omega)) (pairs_len _) (pairs_one _) (by unfold maxLen; omega) (by omega) hR.size ?_; intro v' w' ho' hg' _; exact hK _ _ (Only.grown r_a1 hg' (by simp)) ho'
        refine And.intro (obX_pure (Only.refl _ _) ?_) ?_
        · intro act W hR hf ho hu K hK
          replace hK := fun v h2 => hK v W rfl h2 trivial
          have G : act.tmps[4]?.getD undef = _ ∧ True := ho
          obtain ⟨g4, -⟩ := G
          clear ho hf hu
          go_simp
          exact hK _ (Eq.refl _)
        refine And.intro (obX_pure (Only.refl _ _) ?_) ?_
        · intro act W hR hf ho hu K hK
          replace hK := fun v h2 => hK v W rfl h2 trivial
          have F : act.tmps[60]?.getD undef = _ ∧ True := hf
          obtain ⟨f7, -⟩ := F
          clear ho hf hu
          obtain ⟨q0, q1, q2, q3, q4⟩ := lie5 (hR.low HU.out.2.1 hltu) (Below.refl _ W)
          go_simp
          exact hK _ (Eq.refl _)
        refine And.intro (obX_eff (Only U.heap.size [51]) (fun _ _ h => h) (trivial) ?_) ?_
        · intro act W hR hf ho hu K hK
          replace hK := fun v (w' : World) (h1 : (Only U.heap.size [51]) W w') (b3 : (fun (v : Value) (W : World) => W.ownsRow U.heap.size 51 2 v (0 + y.code.length + y.data.length + y.heap.length) ([] ++ y.code.flatMap pairC ++ y.data.flatMap pairC ++ y.heap.flatMap pairC)) (v) w') => hK v w' h1 trivial ⟨b3, trivial⟩
          have F : (fun _ _ => True) (act.tmps[59]?.getD undef) W ∧ act.tmps[61]?.getD undef = _ ∧ (fun _ _ => True) (act.tmps[59]?.getD undef) W ∧ True := hf
          obtain ⟨-, f8, -, -⟩ := F
          have U : (fun (v : Value) (W : World) => W.ownsRow U.heap.size 51 2 v (0 + y.code.length + y.data.length) ([] ++ y.code.flatMap pairC ++ y.data.flatMap pairC)) (act.tmps[59]?.getD undef) W ∧ True := hu
          obtain ⟨r_a2, -⟩ := U
          generalize f6 : act.tmps[59]?.getD undef = v6 at r_a2
          clear ho hf hu
          dsimp only [Option.elim] at f8
          rw [← seen_eq]; refine step_append_src W rfl (.tmp 59) (.tmp 61) 42 rfl U.heap.size 51 ci (.agg #[.int .i64 0, .int .i64 0]) 2 16 Try.underlying42 hci hci0 hci1 hci2 rfl (by decide) _ _ _ (eval_get f6) r_a2 _ y.heap.length (y.heap.flatMap pairC) (eval_get f8) (lies_arr' (hR.arr (HY.out.1.heap.ext (Ext.drew HU.out.1)) (Nat.le_refl _)) (by rw [pairs_len]; omega)) (pairs_len _) (pairs_one _) (by unfold maxLen; omega) (by omega) hR.size ?_; intro v' w' ho' hg' _; exact hK _ _ (Only.grown r_a2 hg' (by simp)) ho'
        refine And.intro (obX_pure (Only.refl _ _) ?_) ?_
        · intro act W hR hf ho hu K hK
          replace hK := fun v (b4 : (fun (v : Value) (W : World) => W.ownsRow U.heap.size 51 2 v (0 + y.code.length + y.data.length + y.heap.length) ([] ++ y.code.flatMap pairC ++ y.data.flatMap pairC ++ y.heap.flatMap pairC)) (v) W) => hK v W rfl trivial ⟨b4, trivial⟩
          have F : (fun _ _ => True) (act.tmps[62]?.getD undef) W ∧ (fun _ _ => True) (act.tmps[62]?.getD undef) W ∧ (fun _ _ => True) (act.tmps[53]?.getD undef) W ∧ act.tmps[54]?.getD undef = _ ∧ act.tmps[55]?.getD undef = _ ∧ (fun _ _ => True) (act.tmps[56]?.getD undef) W ∧ act.tmps[57]?.getD undef = _ ∧ act.tmps[58]?.getD undef = _ ∧ (fun _ _ => True) (act.tmps[59]?.getD undef) W ∧ act.tmps[60]?.getD undef = _ ∧ act.tmps[61]?.getD undef = _ ∧ (fun _ _ => True) (act.tmps[62]?.getD undef) W ∧ True := hf
          obtain ⟨-, -, -, f1, f2, -, f4, f5, -, f7, f8, -, -⟩ := F
          have U : (fun (v : Value) (W : World) => W.ownsRow U.heap.size 51 2 v (0 + y.code.length + y.data.length + y.heap.length) ([] ++ y.code.flatMap pairC ++ y.data.flatMap pairC ++ y.heap.flatMap pairC)) (act.tmps[62]?.getD undef) W ∧ True := hu
          obtain ⟨r_a3, -⟩ := U
          generalize f9 : act.tmps[62]?.getD undef = v9 at r_a3
          generalize f0 : act.tmps[53]?.getD undef = v0
          generalize f3 : act.tmps[56]?.getD undef = v3
          generalize f6 : act.tmps[59]?.getD undef = v6
          clear ho hf hu
          go_simp
          exact hK _ r_a3
        exact trivial
      case stab =>
        refine And.intro (fun _ _ _ h _ => h) ?_
        refine And.intro is_stable ?_
        refine And.intro is_stable ?_
        refine And.intro (fun _ _ _ h _ => h) ?_
        refine And.intro is_stable ?_
        refine And.intro is_stable ?_
        refine And.intro (fun _ _ _ h _ => h) ?_
        refine And.intro is_stable ?_
        refine And.intro is_stable ?_
        refine And.intro (fun _ _ _ h _ => h) ?_
        refine And.intro (fun _ _ _ h _ => h) ?_
        exact trivial
      case ends =>
        intro vals W hR hE hall
        have E : (fun (v : Value) (W : World) => W.ownsRow U.heap.size 51 2 v (0 + y.code.length + y.data.length + y.heap.length) ([] ++ y.code.flatMap pairC ++ y.data.flatMap pairC ++ y.heap.flatMap pairC)) (vals 6) W ∧ True := hE
        obtain ⟨e_a4, -⟩ := E
        clear hE
        clear hall
        generalize ev6 : vals 6 = x6 at e_a4
        simp only [fill, List.setIfInBounds_toArray, List.set_cons_succ, List.set_cons_zero, ev6]
        have hE0 : Ext U W := Only.below (Ext.drew (Below.refl _ U)) (Nat.le_refl _) hR
        have hl0 : [] ++ y.code.flatMap pairC ++ y.data.flatMap pairC ++ y.heap.flatMap pairC = (allK y 0).flatMap pairC := by simp [allK]
        have hl1 : 0 + y.code.length + y.data.length + y.heap.length = (allK y 0).length := by simp [allK]; omega
        rw [hl0, hl1] at e_a4
        clear hl0 hl1
        have HSH := Lib.hid (whereD_shares HR.out)
        have HE0 := Lib.hid (And.intro e_a4 hE0)
        clear e_a4 hE0
        go_wp2_with fail
        go_loopw [6, 7] (fun v i wr => ∃ k : Nat, k ≤ y.shares.length ∧ i = .int .i64 (k : Int) ∧ wr.ownsRow U.heap.size 51 2 v (allK y k).length ((allK y k).flatMap pairC) ∧ Ext U wr) (fun _ i _ => y.shares.length - (intOf i).toNat)
        case atStart => exact ⟨0, Nat.zero_le _, rfl, HE0.out.1, HE0.out.2⟩
        case round =>
          obtain ⟨k, hk, rfl, hO, hE⟩ := hrel
          obtain ⟨A6, c6, rfl, hc6, ha6⟩ := Arr.own hO
          obtain ⟨q0, q1, q2, q3, q4⟩ := lie5 HU.out.2.1 hE
          have hlt5 := cell_lt q0
          simp only at hlt5
          by_cases hlt6 : k < y.shares.length
          · obtain ⟨bs', os, hAs, hbs, hcs⟩ := (HY.out.1.shares.ext HU.out.1).open (by simp; omega)
            have xs := hcs k (by simpa using hlt6)
            rw [List.getElem_map] at xs
            have hsm := HSH.out y.shares[k] (by rw [← HY.out.2.1]; exact List.getElem_mem hlt6)
            have hsu := allK_succ hlt6
            have hlk := allK_len y k
            generalize y.shares[k] = sm at xs hsm hsu
            have HS := Lib.hid (And.intro hsu (And.intro xs (And.intro hO hE)))
            have hw3 : IntKind.i64.wrap (sm + 256) = sm + 256 := IntWalk.i64_in _ (by omega)
            rw [hAs] at q3
            have HAS := Lib.hid hAs
            have hsz := hE.size
            clear hcs xs hsu hO hE ha6 hc6 hAs
            generalize allK y k = L at HS hlk
            go_wp2_with fail
            refine wp_region_res (Only U.heap.size [51]) [⟨none, [], [14]⟩, ⟨some 13, [(13, [])], [14]⟩, ⟨some 14, [(14, [])], [15]⟩, ⟨some 15, [(15, [])], []⟩] [(fun (u : Nat → Value) (W : World) => (fun (_ : Value) (W : World) => W.ownsRow U.heap.size 51 2 (.slice A6 L.length c6) L.length (L.flatMap pairC)) (undef) W), (fun (u : Nat → Value) (W : World) => (NewLit 0 1 (pairC (sm, sm + 256)) 51) (u 13) W), (fun (u : Nat → Value) (W : World) => (fun (v : Value) (W : World) => W.ownsRow U.heap.size 51 2 v (L.length + 1) (L.flatMap pairC ++ pairC (sm, sm + 256))) (u 14) W), (fun (u : Nat → Value) (W : World) => (fun (v : Value) (W : World) => W.ownsRow U.heap.size 51 2 v (L.length + 1) (L.flatMap pairC ++ pairC (sm, sm + 256))) (u 15) W)] [⟨[], [.keep, .keep, .early [0], .early [0]]⟩, ⟨[], [.keep, .early [12, 5, 4, 2, 1], .early [13, 12, 5, 4, 2, 1], .early [1]]⟩, ⟨[], [.keep, .early [12, 5, 4, 2], .early [13, 12, 5, 4, 2], .early [2]]⟩, ⟨[], [.keep, .early [12, 5, 4, 3], .early [13, 12, 5, 4, 3], .early [3]]⟩, ⟨[], [.keep, .early [12, 5, 4], .early [13, 12, 5, 4], .early [4]]⟩, ⟨[], [.keep, .early [12, 5], .early [13, 12, 5], .early [5]]⟩, ⟨[], [.keep, .early [12, 11, 10, 9, 7, 6], .early [13, 12, 11, 10, 9, 7, 6], .early [6]]⟩, ⟨[], [.keep, .early [12, 11, 10, 9, 7], .early [13, 12, 11, 10, 9, 7], .early [7]]⟩, ⟨[], [.keep, .early [12, 11, 10, 9, 8], .early [13, 12, 11, 10, 9, 8], .early [8]]⟩, ⟨[], [.keep, .early [12, 11, 10, 9], .early [13, 12, 11, 10, 9], .early [9]]⟩, ⟨[], [.keep, .early [12, 11, 10], .early [13, 12, 11, 10], .early [10]]⟩, ⟨[], [.keep, .early [12, 11], .early [13, 12, 11], .early [11]]⟩, ⟨[], [.keep, .early [12], .early [13, 12], .early [12]]⟩, ⟨[], [.keep, .last, .early [13], .early [13]]⟩, ⟨[(0, []), (1, [13])], [.late [[]], .late [[]], .last, .early [14]]⟩, ⟨[(2, [14])], [.late [[14]], .late [[14]], .late [[]], .last]⟩] [70, 71, 72, 73, 74, 75, 76, 77, 78, 79, 80, 81, 82, 83, 84, 6] (by kernel_rfl) (Only.refl _ _) (fun _ _ _ => Only.trans) (by kernel_rfl) (by kernel_rfl) (by kernel_rfl) (by kernel_rfl) (by kernel_rfl) ?start ?_
            case start =>
              refine And.intro ?_ ?_
              · exact HS.out.2.2.1
              exact trivial
            apply ex_is; apply Exists.intro
            apply ex_is; apply Exists.intro
            apply ex_is; apply Exists.intro
            apply ex_is; apply Exists.intro
            apply ex_is; apply Exists.intro
            apply ex_is; apply Exists.intro
            apply ex_is; apply Exists.intro
            apply ex_is; apply Exists.intro
            apply ex_is; apply Exists.intro
            apply ex_is; apply Exists.intro
            apply ex_is; apply Exists.intro
            apply ex_is; apply Exists.intro
            apply ex_is; apply Exists.intro
            refine ex_phi (fun _ _ => True) ?_
            refine ex_phi (fun _ _ => True) ?_
            refine ex_phi (fun _ _ => True) ?_
            refine ⟨[], ⟨?steps, ?stab, ?ends⟩⟩
            case steps =>
              refine And.intro (obX_pure (Only.refl _ _) ?_) ?_
              · intro act W hR hf ho hu K hK
                replace hK := fun v h2 => hK v W rfl h2 trivial
                have G : act.tmps[6]?.getD undef = _ ∧ True := ho
                obtain ⟨g6, -⟩ := G
                clear ho hf hu
                go_simp
                exact hK _ (Eq.refl _)
              refine And.intro (obX_pure (Only.refl _ _) ?_) ?_
              · intro act W hR hf ho hu K hK
                replace hK := fun v h2 => hK v W rfl h2 trivial
                have G : act.tmps[4]?.getD undef = _ ∧ True := ho
                obtain ⟨g4, -⟩ := G
                clear ho hf hu
                go_simp
                exact hK _ (Eq.refl _)
              refine And.intro (obX_pure (Only.refl _ _) ?_) ?_
              · intro act W hR hf ho hu K hK
                replace hK := fun v h2 => hK v W rfl h2 trivial
                have F : act.tmps[71]?.getD undef = _ ∧ True := hf
                obtain ⟨f1, -⟩ := F
                clear ho hf hu
                obtain ⟨q0, q1, q2, q3, q4⟩ := lie5 (hR.low ((HS.out.2.2.2.block _ hltu).trans HU.out.2.1) hltu) (Below.refl _ W); rw [HAS.out] at q3
                go_simp
                exact hK _ (Eq.refl _)
              refine And.intro (obX_pure (Only.refl _ _) ?_) ?_
              · intro act W hR hf ho hu K hK
                replace hK := fun v h2 => hK v W rfl h2 trivial
                have G : act.tmps[7]?.getD undef = _ ∧ True := ho
                obtain ⟨g7, -⟩ := G
                clear ho hf hu
                go_simp
                exact hK _ (Eq.refl _)
              refine And.intro (obX_pure (Only.refl _ _) ?_) ?_
              · intro act W hR hf ho hu K hK
                replace hK := fun v h2 => hK v W rfl h2 trivial
                have F : act.tmps[72]?.getD undef = _ ∧ act.tmps[73]?.getD undef = _ ∧ True := hf
                obtain ⟨f2, f3, -⟩ := F
                clear ho hf hu
                go_simp
                exact hK _ (Eq.refl _)
              refine And.intro (obX_pure (Only.refl _ _) ?_) ?_
              · intro act W hR hf ho hu K hK
                replace hK := fun v h2 => hK v W rfl h2 trivial
                have F : act.tmps[74]?.getD undef = _ ∧ True := hf
                obtain ⟨f4, -⟩ := F
                clear ho hf hu
                have p0 := hR.cell (ext_cell (Ext.drew HS.out.2.2.2) _ _ HS.out.2.1) hbs
                go_simp
                exact hK _ (Eq.refl _)
              refine And.intro (obX_pure (Only.refl _ _) ?_) ?_
              · intro act W hR hf ho hu K hK
                replace hK := fun v h2 => hK v W rfl h2 trivial
                have G : act.tmps[4]?.getD undef = _ ∧ True := ho
                obtain ⟨g4, -⟩ := G
                clear ho hf hu
                go_simp
                exact hK _ (Eq.refl _)
              refine And.intro (obX_pure (Only.refl _ _) ?_) ?_
              · intro act W hR hf ho hu K hK
                replace hK := fun v h2 => hK v W rfl h2 trivial
                have F : act.tmps[76]?.getD undef = _ ∧ True := hf
                obtain ⟨f6, -⟩ := F
                clear ho hf hu
                obtain ⟨q0, q1, q2, q3, q4⟩ := lie5 (hR.low ((HS.out.2.2.2.block _ hltu).trans HU.out.2.1) hltu) (Below.refl _ W); rw [HAS.out] at q3
                go_simp
                exact hK _ (Eq.refl _)
              refine And.intro (obX_pure (Only.refl _ _) ?_) ?_
              · intro act W hR hf ho hu K hK
                replace hK := fun v h2 => hK v W rfl h2 trivial
                have G : act.tmps[7]?.getD undef = _ ∧ True := ho
                obtain ⟨g7, -⟩ := G
                clear ho hf hu
                go_simp
                exact hK _ (Eq.refl _)
              refine And.intro (obX_pure (Only.refl _ _) ?_) ?_
              · intro act W hR hf ho hu K hK
                replace hK := fun v h2 => hK v W rfl h2 trivial
                have F : act.tmps[77]?.getD undef = _ ∧ act.tmps[78]?.getD undef = _ ∧ True := hf
                obtain ⟨f7, f8, -⟩ := F
                clear ho hf hu
                go_simp
                exact hK _ (Eq.refl _)
              refine And.intro (obX_pure (Only.refl _ _) ?_) ?_
              · intro act W hR hf ho hu K hK
                replace hK := fun v h2 => hK v W rfl h2 trivial
                have F : act.tmps[79]?.getD undef = _ ∧ True := hf
                obtain ⟨f9, -⟩ := F
                clear ho hf hu
                have p0 := hR.cell (ext_cell (Ext.drew HS.out.2.2.2) _ _ HS.out.2.1) hbs
                go_simp
                exact hK _ (Eq.refl _)
              refine And.intro (obX_pure (Only.refl _ _) ?_) ?_
              · intro act W hR hf ho hu K hK
                replace hK := fun v h2 => hK v W rfl h2 trivial
                have F : act.tmps[80]?.getD undef = _ ∧ True := hf
                obtain ⟨f10, -⟩ := F
                clear ho hf hu
                go_simp
                exact hK _ (Eq.refl _)
              refine And.intro (obX_pure (Only.refl _ _) ?_) ?_
              · intro act W hR hf ho hu K hK
                replace hK := fun v h2 => hK v W rfl h2 trivial
                have F : act.tmps[75]?.getD undef = _ ∧ act.tmps[81]?.getD undef = _ ∧ True := hf
                obtain ⟨f5, f11, -⟩ := F
                clear ho hf hu
                go_simp
                exact hK _ (Eq.refl _)
              refine And.intro (obX_eff (Ext) (fun _ _ h => Only.ext h) (And.intro (fun _ _ _ h e => own_ext h e) (trivial)) ?_) ?_
              · intro act W hR hf ho hu K hK
                replace hK := fun v (w' : World) (h1 : (Ext) W w') (b1 : (NewLit 0 1 (pairC (sm, sm + 256)) 51) (v) w') => hK v w' h1 trivial ⟨b1, trivial⟩
                have F : act.tmps[82]?.getD undef = _ ∧ True := hf
                obtain ⟨f12, -⟩ := F
                clear ho hf hu
                go_simp
                exact hK _ _ (by repeat first | (with_reducible exact Below.refl _ _) | (with_reducible apply Ext.alloc) | (with_reducible apply Ext.drew) | (with_reducible apply Ext.drewN) | (with_reducible refine Ext.set ?_ (by simp))) (NewLit.new (Nat.zero_le _))
              refine And.intro (obX_eff (Only U.heap.size [51]) (fun _ _ h => h) (trivial) ?_) ?_
              · intro act W hR hf ho hu K hK
                replace hK := fun v (w' : World) (h1 : (Only U.heap.size [51]) W w') (b2 : (fun (v : Value) (W : World) => W.ownsRow U.heap.size 51 2 v (L.length + 1) (L.flatMap pairC ++ pairC (sm, sm + 256))) (v) w') => hK v w' h1 trivial ⟨b2, trivial⟩
                have F : act.tmps[70]?.getD undef = _ ∧ (fun _ _ => True) (act.tmps[83]?.getD undef) W ∧ True := hf
                obtain ⟨f0, -, -⟩ := F
                have U : (fun (_ : Value) (W : World) => W.ownsRow U.heap.size 51 2 (.slice A6 L.length c6) L.length (L.flatMap pairC)) (undef) W ∧ (NewLit 0 1 (pairC (sm, sm + 256)) 51) (act.tmps[83]?.getD undef) W ∧ True := hu
                obtain ⟨r_row, r_n13, -⟩ := U
                generalize f13 : act.tmps[83]?.getD undef = v13 at r_n13
                clear ho hf hu
                obtain ⟨b3, rfl, -, hl3⟩ := r_n13
                dsimp only [Option.elim] at f0
                rw [← seen_eq]; refine step_append_src W rfl (.tmp 70) (.tmp 83) 42 rfl U.heap.size 51 ci (.agg #[.int .i64 0, .int .i64 0]) 2 16 Try.underlying42 hci hci0 hci1 hci2 rfl (by decide) _ _ _ (eval_get f0) r_row _ 1 (pairC (sm, sm + 256)) (eval_get f13) (lies_lit hl3) rfl (by simp [Value.oneCell']) (by unfold maxLen; omega) (by omega) (Nat.le_trans hsz hR.size) ?_; intro v' w' ho' hg' _; exact hK _ _ (Only.grown r_row hg' (by simp)) ho'
              refine And.intro (obX_pure (Only.refl _ _) ?_) ?_
              · intro act W hR hf ho hu K hK
                replace hK := fun v (b3 : (fun (v : Value) (W : World) => W.ownsRow U.heap.size 51 2 v (L.length + 1) (L.flatMap pairC ++ pairC (sm, sm + 256))) (v) W) => hK v W rfl trivial ⟨b3, trivial⟩
                have F : (fun _ _ => True) (act.tmps[84]?.getD undef) W ∧ (fun _ _ => True) (act.tmps[84]?.getD undef) W ∧ act.tmps[70]?.getD undef = _ ∧ act.tmps[71]?.getD undef = _ ∧ act.tmps[72]?.getD undef = _ ∧ act.tmps[73]?.getD undef = _ ∧ act.tmps[74]?.getD undef = _ ∧ act.tmps[75]?.getD undef = _ ∧ act.tmps[76]?.getD undef = _ ∧ act.tmps[77]?.getD undef = _ ∧ act.tmps[78]?.getD undef = _ ∧ act.tmps[79]?.getD undef = _ ∧ act.tmps[80]?.getD undef = _ ∧ act.tmps[81]?.getD undef = _ ∧ act.tmps[82]?.getD undef = _ ∧ (fun _ _ => True) (act.tmps[83]?.getD undef) W ∧ (fun _ _ => True) (act.tmps[84]?.getD undef) W ∧ True := hf
                obtain ⟨-, -, f0, f1, f2, f3, f4, f5, f6, f7, f8, f9, f10, f11, f12, -, -, -⟩ := F
                have U : (fun (v : Value) (W : World) => W.ownsRow U.heap.size 51 2 v (L.length + 1) (L.flatMap pairC ++ pairC (sm, sm + 256))) (act.tmps[84]?.getD undef) W ∧ True := hu
                obtain ⟨r_r14, -⟩ := U
                generalize f14 : act.tmps[84]?.getD undef = v14 at r_r14
                generalize f13 : act.tmps[83]?.getD undef = v13
                clear ho hf hu
                go_simp
                exact hK _ r_r14
              exact trivial
            case stab =>
              refine And.intro is_stable ?_
              refine And.intro is_stable ?_
              refine And.intro is_stable ?_
              refine And.intro is_stable ?_
              refine And.intro is_stable ?_
              refine And.intro is_stable ?_
              refine And.intro is_stable ?_
              refine And.intro is_stable ?_
              refine And.intro is_stable ?_
              refine And.intro is_stable ?_
              refine And.intro is_stable ?_
              refine And.intro is_stable ?_
              refine And.intro is_stable ?_
              refine And.intro (fun _ _ _ h _ => h) ?_
              refine And.intro (fun _ _ _ h _ => h) ?_
              refine And.intro (fun _ _ _ h _ => h) ?_
              exact trivial
            case ends =>
              intro vals W hR hE hall
              have E : (fun (v : Value) (W : World) => W.ownsRow U.heap.size 51 2 v (L.length + 1) (L.flatMap pairC ++ pairC (sm, sm + 256))) (vals 6) W ∧ True := hE
              obtain ⟨e_r15, -⟩ := E
              clear hE
              clear hall
              generalize ev6 : vals 6 = x6 at e_r15
              simp only [fill, List.setIfInBounds_toArray, List.set_cons_succ, List.set_cons_zero, ev6]
              have hE9 : Ext U W := Only.below (Ext.drew HS.out.2.2.2) (Nat.le_refl _) hR
              have he : (L ++ [(sm, sm + 256)]).flatMap pairC = L.flatMap pairC ++ pairC (sm, sm + 256) := by simp
              have hl : (L ++ [(sm, sm + 256)]).length = L.length + 1 := by simp
              go_wp2_with fail
              refine ⟨⟨k + 1, by omega, by simp, ?_, hE9⟩, by simp [intOf]; omega⟩
              rw [HS.out.1, he, hl]
              exact e_r15
          · obtain rfl : k = y.shares.length := by omega
            have hlk := allK_len y y.shares.length
            have hfull := allK_full y
            have HT : Hid (Tidy (allK y y.shares.length) (y.pages * 256)) := Lib.hid (by
              rw [hfull, HY.out.2.1]
              have := tidy_all HR.out
              rw [← HY.out.2.1] at this ⊢
              exact this)
            have hpg : 1 ≤ y.pages ∧ y.pages ≤ 405 := by
              have := pages_le HR.out
              rw [← HY.out.2.1] at this
              exact this
            have HA := Lib.hid (And.intro ha6 (And.intro hE (allK_full y)))
            obtain ⟨L, hL⟩ : ∃ L, L = allK y y.shares.length := ⟨_, rfl⟩
            rw [← hL] at HT HA hlk ⊢
            have HLL := Lib.hid hL
            have hw9 : IntKind.i64.wrap (256 * y.pages) = 256 * y.pages := IntWalk.i64_in _ (by omega)
            clear ha6 hE hc6 hO hL hfull hlt6 hk
            go_wp2_with fail
            go_loopw [8] (fun i wo => ∃ k : Nat, k ≤ L.length ∧ i = .int .i64 (k : Int) ∧ Ext wr wo) (fun i _ => L.length - (intOf i).toNat)
            case atStart => exact ⟨0, Nat.zero_le _, rfl, Below.refl _ _⟩
            case round =>
              obtain ⟨k, hk, rfl, hE⟩ := hrel
              obtain ⟨q0, q1, q2, q3, q4⟩ := lie5 HU.out.2.1 (HA.out.2.1.then hE)
              have hlt7 := cell_lt q0
              simp only at hlt7
              by_cases hlt8 : k < L.length
              · obtain ⟨b1, o1, rfl, hb1, p1⟩ := (HA.out.1.ext hE).flat (s := 2) (f := pairC) (fun _ => rfl) (by decide) hlt8
                have x0 := p1 0 _ rfl
                have x1 := p1 1 _ rfl
                simp only [Nat.add_zero] at x0
                have ha := HT.out.all L[k] (List.getElem_mem hlt8)
                have hap : Hid (∀ (j : Nat) (hj : j < k), (L[j]'(by omega)).2 ≤ L[k].1 ∨ L[k].2 ≤ (L[j]'(by omega)).1) := Lib.hid (fun j hj => List.pairwise_iff_getElem.1 HT.out.apart j k (by omega) hlt8 hj)
                generalize hgen : L[k] = a at x0 x1 ha hap
                obtain ⟨a1, a2⟩ := a
                simp only at x0 x1 ha
                obtain ⟨ha0, hmod, ha12, hap2⟩ := ha
                have htm : a1.tmod 256 = 0 := by rw [Int.tmod_eq_emod_of_nonneg (by omega)]; exact hmod
                have hd1 : decide (a1 < 256) = false := decide_eq_false (by omega)
                have hd3 : decide (a2 ≤ a1) = false := decide_eq_false (by omega)
                have hd4 : decide (256 * y.pages < a2) = false := decide_eq_false (by omega)
                have HE := Lib.hid (And.intro hE hgen)
                have HX := Lib.hid (And.intro x0 x1)
                clear p1 hE hgen
                go_wp2_with fail
                refine wp_region_obl Eq [91, 92, 93, 94, 95, 96, 97, 98, 99, 100, 101, 102, 103, 104, 105, 106, 107, 108, 109, 110, 111, 112, 113, 114, 115, 116, 117, 118, 119, 120, 121, 122, 123, 124, 125, 126, 127, 128, 129] (by kernel_rfl) (fun _ => rfl) (fun _ _ _ => Eq.trans) (by kernel_rfl) (by kernel_rfl) ?_
                apply ex_is; apply Exists.intro
                apply ex_is; apply Exists.intro
                apply ex_is; apply Exists.intro
                apply ex_is; apply Exists.intro
                apply ex_is; apply Exists.intro
                apply ex_is; apply Exists.intro
                apply ex_is; apply Exists.intro
                apply ex_is; apply Exists.intro
                apply ex_is; apply Exists.intro
                apply ex_is; apply Exists.intro
                apply ex_is; apply Exists.intro
                apply ex_is; apply Exists.intro
                apply ex_is; apply Exists.intro
                apply ex_is; apply Exists.intro
                apply ex_is; apply Exists.intro
                apply ex_is; apply Exists.intro
                apply ex_is; apply Exists.intro
                apply ex_is; apply Exists.intro
                apply ex_is; apply Exists.intro
                apply ex_is; apply Exists.intro
                apply ex_is; apply Exists.intro
                apply ex_is; apply Exists.intro
                apply ex_is; apply Exists.intro
                apply ex_is; apply Exists.intro
                apply ex_is; apply Exists.intro
                apply ex_is; apply Exists.intro
                apply ex_is; apply Exists.intro
                apply ex_is; apply Exists.intro
                apply ex_is; apply Exists.intro
                apply ex_is; apply Exists.intro
                apply ex_is; apply Exists.intro
                apply ex_is; apply Exists.intro
                apply ex_is; apply Exists.intro
                apply ex_is; apply Exists.intro
                apply ex_is; apply Exists.intro
                apply ex_is; apply Exists.intro
                apply ex_is; apply Exists.intro
                apply ex_is; apply Exists.intro
                apply ex_is; apply Exists.intro
                refine ⟨[], ⟨?steps, ?stab, ?ends⟩⟩
                case steps =>
                  refine And.intro ?_ ?_
                  · intro a W hR hf ho K hK
                    subst hR
                    have G : a.tmps[6]?.getD undef = _ ∧ True := ho
                    obtain ⟨g6, -⟩ := G
                    clear ho hf
                    go_simp
                    exact hK _ _ (rfl) (Eq.refl _)
                  refine And.intro ?_ ?_
                  · intro a W hR hf ho K hK
                    subst hR
                    have G : a.tmps[8]?.getD undef = _ ∧ True := ho
                    obtain ⟨g8, -⟩ := G
                    clear ho hf
                    go_simp
                    exact hK _ _ (rfl) (Eq.refl _)
                  refine And.intro ?_ ?_
                  · intro a W hR hf ho K hK
                    subst hR
                    have F : a.tmps[91]?.getD undef = _ ∧ a.tmps[92]?.getD undef = _ ∧ True := hf
                    obtain ⟨f0, f1, -⟩ := F
                    clear ho hf
                    go_simp
                    exact hK _ _ (rfl) (Eq.refl _)
                  refine And.intro ?_ ?_
                  · intro a W hR hf ho K hK
                    subst hR
                    have F : a.tmps[93]?.getD undef = _ ∧ True := hf
                    obtain ⟨f2, -⟩ := F
                    clear ho hf
                    go_simp
                    exact hK _ _ (rfl) (Eq.refl _)
                  refine And.intro ?_ ?_
                  · intro a W hR hf ho K hK
                    subst hR
                    have F : a.tmps[94]?.getD undef = _ ∧ True := hf
                    obtain ⟨f3, -⟩ := F
                    clear ho hf
                    go_simp
                    exact hK _ _ (rfl) (Eq.refl _)
                  refine And.intro ?_ ?_
                  · intro a W hR hf ho K hK
                    subst hR
                    have F : a.tmps[95]?.getD undef = _ ∧ True := hf
                    obtain ⟨f4, -⟩ := F
                    clear ho hf
                    go_simp
                    exact hK _ _ (rfl) (Eq.refl _)
                  refine And.intro ?_ ?_
                  · intro a W hR hf ho K hK
                    subst hR
                    have F : a.tmps[96]?.getD undef = _ ∧ True := hf
                    obtain ⟨f5, -⟩ := F
                    clear ho hf
                    go_simp
                    exact hK _ _ (rfl) (Eq.refl _)
                  refine And.intro ?_ ?_
                  · intro a W hR hf ho K hK
                    subst hR
                    have G : a.tmps[6]?.getD undef = _ ∧ True := ho
                    obtain ⟨g6, -⟩ := G
                    have F : a.tmps[97]?.getD undef = _ ∧ True := hf
                    obtain ⟨f6, -⟩ := F
                    clear ho hf
                    go_simp
                    exact hK _ _ (rfl) (Eq.refl _)
                  refine And.intro ?_ ?_
                  · intro a W hR hf ho K hK
                    subst hR
                    have G : a.tmps[8]?.getD undef = _ ∧ True := ho
                    obtain ⟨g8, -⟩ := G
                    have F : a.tmps[97]?.getD undef = _ ∧ True := hf
                    obtain ⟨f6, -⟩ := F
                    clear ho hf
                    go_simp
                    exact hK _ _ (rfl) (Eq.refl _)
                  refine And.intro ?_ ?_
                  · intro a W hR hf ho K hK
                    subst hR
                    have F : a.tmps[98]?.getD undef = _ ∧ a.tmps[99]?.getD undef = _ ∧ a.tmps[97]?.getD undef = _ ∧ True := hf
                    obtain ⟨f7, f8, f6, -⟩ := F
                    clear ho hf
                    go_simp
                    exact hK _ _ (rfl) (Eq.refl _)
                  refine And.intro ?_ ?_
                  · intro a W hR hf ho K hK
                    subst hR
                    have F : a.tmps[100]?.getD undef = _ ∧ a.tmps[97]?.getD undef = _ ∧ True := hf
                    obtain ⟨f9, f6, -⟩ := F
                    clear ho hf
                    go_simp
                    exact hK _ _ (rfl) (Eq.refl _)
                  refine And.intro ?_ ?_
                  · intro a W hR hf ho K hK
                    subst hR
                    have F : a.tmps[101]?.getD undef = _ ∧ a.tmps[97]?.getD undef = _ ∧ True := hf
                    obtain ⟨f10, f6, -⟩ := F
                    clear ho hf
                    go_simp
                    exact hK _ _ (rfl) (Eq.refl _)
                  refine And.intro ?_ ?_
                  · intro a W hR hf ho K hK
                    subst hR
                    have F : a.tmps[102]?.getD undef = _ ∧ a.tmps[97]?.getD undef = _ ∧ True := hf
                    obtain ⟨f11, f6, -⟩ := F
                    clear ho hf
                    go_simp
                    exact hK _ _ (rfl) (Eq.refl _)
                  refine And.intro ?_ ?_
                  · intro a W hR hf ho K hK
                    subst hR
                    have F : a.tmps[103]?.getD undef = _ ∧ a.tmps[97]?.getD undef = _ ∧ True := hf
                    obtain ⟨f12, f6, -⟩ := F
                    clear ho hf
                    go_simp
                    exact hK _ _ (rfl) (Eq.refl _)
                  refine And.intro ?_ ?_
                  · intro a W hR hf ho K hK
                    subst hR
                    have F : a.tmps[97]?.getD undef = _ ∧ a.tmps[104]?.getD undef = _ ∧ True := hf
                    obtain ⟨f6, f13, -⟩ := F
                    clear ho hf
                    go_simp
                    exact hK _ _ (rfl) (Eq.refl _)
                  refine And.intro ?_ ?_
                  · intro a W hR hf ho K hK
                    subst hR
                    have F : a.tmps[105]?.getD undef = _ ∧ a.tmps[97]?.getD undef = _ ∧ True := hf
                    obtain ⟨f14, f6, -⟩ := F
                    clear ho hf
                    go_simp
                    exact hK _ _ (rfl) (Eq.refl _)
                  refine And.intro ?_ ?_
                  · intro a W hR hf ho K hK
                    subst hR
                    have G : a.tmps[6]?.getD undef = _ ∧ True := ho
                    obtain ⟨g6, -⟩ := G
                    have F : a.tmps[106]?.getD undef = _ ∧ True := hf
                    obtain ⟨f15, -⟩ := F
                    clear ho hf
                    go_simp
                    exact hK _ _ (rfl) (Eq.refl _)
                  refine And.intro ?_ ?_
                  · intro a W hR hf ho K hK
                    subst hR
                    have G : a.tmps[8]?.getD undef = _ ∧ True := ho
                    obtain ⟨g8, -⟩ := G
                    have F : a.tmps[106]?.getD undef = _ ∧ True := hf
                    obtain ⟨f15, -⟩ := F
                    clear ho hf
                    go_simp
                    exact hK _ _ (rfl) (Eq.refl _)
                  refine And.intro ?_ ?_
                  · intro a W hR hf ho K hK
                    subst hR
                    have F : a.tmps[107]?.getD undef = _ ∧ a.tmps[108]?.getD undef = _ ∧ a.tmps[106]?.getD undef = _ ∧ True := hf
                    obtain ⟨f16, f17, f15, -⟩ := F
                    clear ho hf
                    go_simp
                    exact hK _ _ (rfl) (Eq.refl _)
                  refine And.intro ?_ ?_
                  · intro a W hR hf ho K hK
                    subst hR
                    have F : a.tmps[109]?.getD undef = _ ∧ a.tmps[106]?.getD undef = _ ∧ True := hf
                    obtain ⟨f18, f15, -⟩ := F
                    clear ho hf
                    go_simp
                    exact hK _ _ (rfl) (Eq.refl _)
                  refine And.intro ?_ ?_
                  · intro a W hR hf ho K hK
                    subst hR
                    have F : a.tmps[110]?.getD undef = _ ∧ a.tmps[106]?.getD undef = _ ∧ True := hf
                    obtain ⟨f19, f15, -⟩ := F
                    clear ho hf
                    go_simp
                    exact hK _ _ (rfl) (Eq.refl _)
                  refine And.intro ?_ ?_
                  · intro a W hR hf ho K hK
                    subst hR
                    have G : a.tmps[6]?.getD undef = _ ∧ True := ho
                    obtain ⟨g6, -⟩ := G
                    have F : a.tmps[106]?.getD undef = _ ∧ True := hf
                    obtain ⟨f15, -⟩ := F
                    clear ho hf
                    go_simp
                    exact hK _ _ (rfl) (Eq.refl _)
                  refine And.intro ?_ ?_
                  · intro a W hR hf ho K hK
                    subst hR
                    have G : a.tmps[8]?.getD undef = _ ∧ True := ho
                    obtain ⟨g8, -⟩ := G
                    have F : a.tmps[106]?.getD undef = _ ∧ True := hf
                    obtain ⟨f15, -⟩ := F
                    clear ho hf
                    go_simp
                    exact hK _ _ (rfl) (Eq.refl _)
                  refine And.intro ?_ ?_
                  · intro a W hR hf ho K hK
                    subst hR
                    have F : a.tmps[112]?.getD undef = _ ∧ a.tmps[113]?.getD undef = _ ∧ a.tmps[106]?.getD undef = _ ∧ True := hf
                    obtain ⟨f21, f22, f15, -⟩ := F
                    clear ho hf
                    go_simp
                    exact hK _ _ (rfl) (Eq.refl _)
                  refine And.intro ?_ ?_
                  · intro a W hR hf ho K hK
                    subst hR
                    have F : a.tmps[114]?.getD undef = _ ∧ a.tmps[106]?.getD undef = _ ∧ True := hf
                    obtain ⟨f23, f15, -⟩ := F
                    clear ho hf
                    go_simp
                    exact hK _ _ (rfl) (Eq.refl _)
                  refine And.intro ?_ ?_
                  · intro a W hR hf ho K hK
                    subst hR
                    have F : a.tmps[115]?.getD undef = _ ∧ a.tmps[106]?.getD undef = _ ∧ True := hf
                    obtain ⟨f24, f15, -⟩ := F
                    clear ho hf
                    go_simp
                    exact hK _ _ (rfl) (Eq.refl _)
                  refine And.intro ?_ ?_
                  · intro a W hR hf ho K hK
                    subst hR
                    have F : a.tmps[111]?.getD undef = _ ∧ a.tmps[116]?.getD undef = _ ∧ a.tmps[106]?.getD undef = _ ∧ True := hf
                    obtain ⟨f20, f25, f15, -⟩ := F
                    clear ho hf
                    go_simp
                    exact hK _ _ (rfl) (Eq.refl _)
                  refine And.intro ?_ ?_
                  · intro a W hR hf ho K hK
                    subst hR
                    have F : a.tmps[106]?.getD undef = _ ∧ a.tmps[117]?.getD undef = _ ∧ True := hf
                    obtain ⟨f15, f26, -⟩ := F
                    clear ho hf
                    go_simp
                    exact hK _ _ (rfl) (Eq.refl _)
                  refine And.intro ?_ ?_
                  · intro a W hR hf ho K hK
                    subst hR
                    have F : a.tmps[118]?.getD undef = _ ∧ a.tmps[106]?.getD undef = _ ∧ True := hf
                    obtain ⟨f27, f15, -⟩ := F
                    clear ho hf
                    go_simp
                    exact hK _ _ (rfl) (Eq.refl _)
                  refine And.intro ?_ ?_
                  · intro a W hR hf ho K hK
                    subst hR
                    have G : a.tmps[6]?.getD undef = _ ∧ True := ho
                    obtain ⟨g6, -⟩ := G
                    have F : a.tmps[119]?.getD undef = _ ∧ True := hf
                    obtain ⟨f28, -⟩ := F
                    clear ho hf
                    go_simp
                    exact hK _ _ (rfl) (Eq.refl _)
                  refine And.intro ?_ ?_
                  · intro a W hR hf ho K hK
                    subst hR
                    have G : a.tmps[8]?.getD undef = _ ∧ True := ho
                    obtain ⟨g8, -⟩ := G
                    have F : a.tmps[119]?.getD undef = _ ∧ True := hf
                    obtain ⟨f28, -⟩ := F
                    clear ho hf
                    go_simp
                    exact hK _ _ (rfl) (Eq.refl _)
                  refine And.intro ?_ ?_
                  · intro a W hR hf ho K hK
                    subst hR
                    have F : a.tmps[120]?.getD undef = _ ∧ a.tmps[121]?.getD undef = _ ∧ a.tmps[119]?.getD undef = _ ∧ True := hf
                    obtain ⟨f29, f30, f28, -⟩ := F
                    clear ho hf
                    go_simp
                    exact hK _ _ (rfl) (Eq.refl _)
                  refine And.intro ?_ ?_
                  · intro a W hR hf ho K hK
                    subst hR
                    have F : a.tmps[122]?.getD undef = _ ∧ a.tmps[119]?.getD undef = _ ∧ True := hf
                    obtain ⟨f31, f28, -⟩ := F
                    clear ho hf
                    go_simp
                    exact hK _ _ (rfl) (Eq.refl _)
                  refine And.intro ?_ ?_
                  · intro a W hR hf ho K hK
                    subst hR
                    have F : a.tmps[123]?.getD undef = _ ∧ a.tmps[119]?.getD undef = _ ∧ True := hf
                    obtain ⟨f32, f28, -⟩ := F
                    clear ho hf
                    go_simp
                    exact hK _ _ (rfl) (Eq.refl _)
                  refine And.intro ?_ ?_
                  · intro a W hR hf ho K hK
                    subst hR
                    have G : a.tmps[4]?.getD undef = _ ∧ True := ho
                    obtain ⟨g4, -⟩ := G
                    have F : a.tmps[119]?.getD undef = _ ∧ True := hf
                    obtain ⟨f28, -⟩ := F
                    clear ho hf
                    go_simp
                    exact hK _ _ (rfl) (Eq.refl _)
                  refine And.intro ?_ ?_
                  · intro a W hR hf ho K hK
                    subst hR
                    have F : a.tmps[125]?.getD undef = _ ∧ a.tmps[119]?.getD undef = _ ∧ True := hf
                    obtain ⟨f34, f28, -⟩ := F
                    clear ho hf
                    go_simp
                    exact hK _ _ (rfl) (Eq.refl _)
                  refine And.intro ?_ ?_
                  · intro a W hR hf ho K hK
                    subst hR
                    have F : a.tmps[126]?.getD undef = _ ∧ a.tmps[119]?.getD undef = _ ∧ True := hf
                    obtain ⟨f35, f28, -⟩ := F
                    clear ho hf
                    go_simp
                    exact hK _ _ (rfl) (Eq.refl _)
                  refine And.intro ?_ ?_
                  · intro a W hR hf ho K hK
                    subst hR
                    have F : a.tmps[124]?.getD undef = _ ∧ a.tmps[127]?.getD undef = _ ∧ a.tmps[119]?.getD undef = _ ∧ True := hf
                    obtain ⟨f33, f36, f28, -⟩ := F
                    clear ho hf
                    go_simp
                    exact hK _ _ (rfl) (Eq.refl _)
                  refine And.intro ?_ ?_
                  · intro a W hR hf ho K hK
                    subst hR
                    have F : a.tmps[119]?.getD undef = _ ∧ a.tmps[128]?.getD undef = _ ∧ True := hf
                    obtain ⟨f28, f37, -⟩ := F
                    clear ho hf
                    go_simp
                    exact hK _ _ (rfl) (Eq.refl _)
                  exact trivial
                case stab =>
                  refine And.intro is_stable ?_
                  refine And.intro is_stable ?_
                  refine And.intro is_stable ?_
                  refine And.intro is_stable ?_
                  refine And.intro is_stable ?_
                  refine And.intro is_stable ?_
                  refine And.intro is_stable ?_
                  refine And.intro is_stable ?_
                  refine And.intro is_stable ?_
                  refine And.intro is_stable ?_
                  refine And.intro is_stable ?_
                  refine And.intro is_stable ?_
                  refine And.intro is_stable ?_
                  refine And.intro is_stable ?_
                  refine And.intro is_stable ?_
                  refine And.intro is_stable ?_
                  refine And.intro is_stable ?_
                  refine And.intro is_stable ?_
                  refine And.intro is_stable ?_
                  refine And.intro is_stable ?_
                  refine And.intro is_stable ?_
                  refine And.intro is_stable ?_
                  refine And.intro is_stable ?_
                  refine And.intro is_stable ?_
                  refine And.intro is_stable ?_
                  refine And.intro is_stable ?_
                  refine And.intro is_stable ?_
                  refine And.intro is_stable ?_
                  refine And.intro is_stable ?_
                  refine And.intro is_stable ?_
                  refine And.intro is_stable ?_
                  refine And.intro is_stable ?_
                  refine And.intro is_stable ?_
                  refine And.intro is_stable ?_
                  refine And.intro is_stable ?_
                  refine And.intro is_stable ?_
                  refine And.intro is_stable ?_
                  refine And.intro is_stable ?_
                  refine And.intro is_stable ?_
                  exact trivial
                case ends =>
                  intro vals W hR hall
                  subst hR
                  have e129 : vals 129 = _ := hall 38 (by decide)
                  clear hall
                  simp only [fill, List.setIfInBounds_toArray, List.set_cons_succ, List.set_cons_zero, e129]
                  go_wp2_with fail
                  go_loopw [9] (fun i wo => ∃ j : Nat, j ≤ k ∧ i = .int .i64 (j : Int) ∧ Ext wr wo) (fun i _ => k - (intOf i).toNat)
                  case atStart => exact ⟨0, Nat.zero_le _, rfl, (by repeat first | (with_reducible exact Below.refl _ _) | (with_reducible apply Ext.alloc) | (with_reducible apply Ext.drew) | (with_reducible apply Ext.drewN) | (with_reducible refine Ext.set ?_ (by simp)))⟩
                  case round =>
                    obtain ⟨j, hj, rfl, hE⟩ := hrel
                    by_cases hjk : j < k
                    · have hjL : j < L.length := by omega
                      obtain ⟨b3, o3, hb4, hb3, p3⟩ := (HA.out.1.ext (HE.out.1.then hE)).flat (s := 2) (f := pairC) (fun _ => rfl) (by decide) hjL
                      have y0 := p3 0 _ rfl
                      have y1 := p3 1 _ rfl
                      simp only [Nat.add_zero] at y0
                      simp only [Option.some.injEq, Addr.mk.injEq, and_true] at hb4
                      obtain ⟨rfl, rfl⟩ := hb4
                      have hab := hap.out j hjk
                      generalize L[j] = b at y0 y1 hab
                      obtain ⟨b1', b2'⟩ := b
                      simp only at y0 y1 hab
                      replace x0 := ext_cell hE _ _ HX.out.1
                      replace x1 := ext_cell hE _ _ HX.out.2
                      have HE2 := Lib.hid hE
                      clear p3 hE
                      by_cases hq : a1 < b2'
                      · have hd5 : decide (a1 < b2') = true := decide_eq_true hq
                        have hd6 : decide (b1' < a2) = false := decide_eq_false (by omega)
                        go_wp2_with fail
                        refine wp_region_obl Eq [135, 136, 137, 138, 139, 140, 141, 142, 143, 144, 145, 146, 147, 148, 149, 150, 151, 152, 153, 154, 155, 156, 157, 158] (by kernel_rfl) (fun _ => rfl) (fun _ _ _ => Eq.trans) (by kernel_rfl) (by kernel_rfl) ?_
                        apply ex_is; apply Exists.intro
                        apply ex_is; apply Exists.intro
                        apply ex_is; apply Exists.intro
                        apply ex_is; apply Exists.intro
                        apply ex_is; apply Exists.intro
                        apply ex_is; apply Exists.intro
                        apply ex_is; apply Exists.intro
                        apply ex_is; apply Exists.intro
                        apply ex_is; apply Exists.intro
                        apply ex_is; apply Exists.intro
                        apply ex_is; apply Exists.intro
                        apply ex_is; apply Exists.intro
                        apply ex_is; apply Exists.intro
                        apply ex_is; apply Exists.intro
                        apply ex_is; apply Exists.intro
                        apply ex_is; apply Exists.intro
                        apply ex_is; apply Exists.intro
                        apply ex_is; apply Exists.intro
                        apply ex_is; apply Exists.intro
                        apply ex_is; apply Exists.intro
                        apply ex_is; apply Exists.intro
                        apply ex_is; apply Exists.intro
                        apply ex_is; apply Exists.intro
                        apply ex_is; apply Exists.intro
                        refine ⟨[], ⟨?steps, ?stab, ?ends⟩⟩
                        case steps =>
                          refine And.intro ?_ ?_
                          · intro a W hR hf ho K hK
                            subst hR
                            have G : a.tmps[6]?.getD undef = _ ∧ True := ho
                            obtain ⟨g6, -⟩ := G
                            clear ho hf
                            go_simp
                            exact hK _ _ (rfl) (Eq.refl _)
                          refine And.intro ?_ ?_
                          · intro a W hR hf ho K hK
                            subst hR
                            have G : a.tmps[8]?.getD undef = _ ∧ True := ho
                            obtain ⟨g8, -⟩ := G
                            clear ho hf
                            go_simp
                            exact hK _ _ (rfl) (Eq.refl _)
                          refine And.intro ?_ ?_
                          · intro a W hR hf ho K hK
                            subst hR
                            have F : a.tmps[135]?.getD undef = _ ∧ a.tmps[136]?.getD undef = _ ∧ True := hf
                            obtain ⟨f0, f1, -⟩ := F
                            clear ho hf
                            go_simp
                            exact hK _ _ (rfl) (Eq.refl _)
                          refine And.intro ?_ ?_
                          · intro a W hR hf ho K hK
                            subst hR
                            have F : a.tmps[137]?.getD undef = _ ∧ True := hf
                            obtain ⟨f2, -⟩ := F
                            clear ho hf
                            go_simp
                            exact hK _ _ (rfl) (Eq.refl _)
                          refine And.intro ?_ ?_
                          · intro a W hR hf ho K hK
                            subst hR
                            have F : a.tmps[138]?.getD undef = _ ∧ True := hf
                            obtain ⟨f3, -⟩ := F
                            clear ho hf
                            go_simp
                            exact hK _ _ (rfl) (Eq.refl _)
                          refine And.intro ?_ ?_
                          · intro a W hR hf ho K hK
                            subst hR
                            have G : a.tmps[6]?.getD undef = _ ∧ True := ho
                            obtain ⟨g6, -⟩ := G
                            clear ho hf
                            go_simp
                            exact hK _ _ (rfl) (Eq.refl _)
                          refine And.intro ?_ ?_
                          · intro a W hR hf ho K hK
                            subst hR
                            have G : a.tmps[9]?.getD undef = _ ∧ True := ho
                            obtain ⟨g9, -⟩ := G
                            clear ho hf
                            go_simp
                            exact hK _ _ (rfl) (Eq.refl _)
                          refine And.intro ?_ ?_
                          · intro a W hR hf ho K hK
                            subst hR
                            have F : a.tmps[140]?.getD undef = _ ∧ a.tmps[141]?.getD undef = _ ∧ True := hf
                            obtain ⟨f5, f6, -⟩ := F
                            clear ho hf
                            go_simp
                            exact hK _ _ (rfl) (Eq.refl _)
                          refine And.intro ?_ ?_
                          · intro a W hR hf ho K hK
                            subst hR
                            have F : a.tmps[142]?.getD undef = _ ∧ True := hf
                            obtain ⟨f7, -⟩ := F
                            clear ho hf
                            go_simp
                            exact hK _ _ (rfl) (Eq.refl _)
                          refine And.intro ?_ ?_
                          · intro a W hR hf ho K hK
                            subst hR
                            have F : a.tmps[143]?.getD undef = _ ∧ True := hf
                            obtain ⟨f8, -⟩ := F
                            clear ho hf
                            go_simp
                            exact hK _ _ (rfl) (Eq.refl _)
                          refine And.intro ?_ ?_
                          · intro a W hR hf ho K hK
                            subst hR
                            have F : a.tmps[139]?.getD undef = _ ∧ a.tmps[144]?.getD undef = _ ∧ True := hf
                            obtain ⟨f4, f9, -⟩ := F
                            clear ho hf
                            go_simp
                            exact hK _ _ (rfl) (Eq.refl _)
                          refine And.intro ?_ ?_
                          · intro a W hR hf ho K hK
                            subst hR
                            have F : a.tmps[145]?.getD undef = _ ∧ True := hf
                            obtain ⟨f10, -⟩ := F
                            clear ho hf
                            go_simp
                            exact hK _ _ (rfl) (Eq.refl _)
                          refine And.intro ?_ ?_
                          · intro a W hR hf ho K hK
                            subst hR
                            have G : a.tmps[6]?.getD undef = _ ∧ True := ho
                            obtain ⟨g6, -⟩ := G
                            have F : a.tmps[146]?.getD undef = _ ∧ True := hf
                            obtain ⟨f11, -⟩ := F
                            clear ho hf
                            go_simp
                            exact hK _ _ (rfl) (Eq.refl _)
                          refine And.intro ?_ ?_
                          · intro a W hR hf ho K hK
                            subst hR
                            have G : a.tmps[9]?.getD undef = _ ∧ True := ho
                            obtain ⟨g9, -⟩ := G
                            have F : a.tmps[146]?.getD undef = _ ∧ True := hf
                            obtain ⟨f11, -⟩ := F
                            clear ho hf
                            go_simp
                            exact hK _ _ (rfl) (Eq.refl _)
                          refine And.intro ?_ ?_
                          · intro a W hR hf ho K hK
                            subst hR
                            have F : a.tmps[147]?.getD undef = _ ∧ a.tmps[148]?.getD undef = _ ∧ a.tmps[146]?.getD undef = _ ∧ True := hf
                            obtain ⟨f12, f13, f11, -⟩ := F
                            clear ho hf
                            go_simp
                            exact hK _ _ (rfl) (Eq.refl _)
                          refine And.intro ?_ ?_
                          · intro a W hR hf ho K hK
                            subst hR
                            have F : a.tmps[149]?.getD undef = _ ∧ a.tmps[146]?.getD undef = _ ∧ True := hf
                            obtain ⟨f14, f11, -⟩ := F
                            clear ho hf
                            go_simp
                            exact hK _ _ (rfl) (Eq.refl _)
                          refine And.intro ?_ ?_
                          · intro a W hR hf ho K hK
                            subst hR
                            have F : a.tmps[150]?.getD undef = _ ∧ a.tmps[146]?.getD undef = _ ∧ True := hf
                            obtain ⟨f15, f11, -⟩ := F
                            clear ho hf
                            go_simp
                            exact hK _ _ (rfl) (Eq.refl _)
                          refine And.intro ?_ ?_
                          · intro a W hR hf ho K hK
                            subst hR
                            have G : a.tmps[6]?.getD undef = _ ∧ True := ho
                            obtain ⟨g6, -⟩ := G
                            have F : a.tmps[146]?.getD undef = _ ∧ True := hf
                            obtain ⟨f11, -⟩ := F
                            clear ho hf
                            go_simp
                            exact hK _ _ (rfl) (Eq.refl _)
                          refine And.intro ?_ ?_
                          · intro a W hR hf ho K hK
                            subst hR
                            have G : a.tmps[8]?.getD undef = _ ∧ True := ho
                            obtain ⟨g8, -⟩ := G
                            have F : a.tmps[146]?.getD undef = _ ∧ True := hf
                            obtain ⟨f11, -⟩ := F
                            clear ho hf
                            go_simp
                            exact hK _ _ (rfl) (Eq.refl _)
                          refine And.intro ?_ ?_
                          · intro a W hR hf ho K hK
                            subst hR
                            have F : a.tmps[152]?.getD undef = _ ∧ a.tmps[153]?.getD undef = _ ∧ a.tmps[146]?.getD undef = _ ∧ True := hf
                            obtain ⟨f17, f18, f11, -⟩ := F
                            clear ho hf
                            go_simp
                            exact hK _ _ (rfl) (Eq.refl _)
                          refine And.intro ?_ ?_
                          · intro a W hR hf ho K hK
                            subst hR
                            have F : a.tmps[154]?.getD undef = _ ∧ a.tmps[146]?.getD undef = _ ∧ True := hf
                            obtain ⟨f19, f11, -⟩ := F
                            clear ho hf
                            go_simp
                            exact hK _ _ (rfl) (Eq.refl _)
                          refine And.intro ?_ ?_
                          · intro a W hR hf ho K hK
                            subst hR
                            have F : a.tmps[155]?.getD undef = _ ∧ a.tmps[146]?.getD undef = _ ∧ True := hf
                            obtain ⟨f20, f11, -⟩ := F
                            clear ho hf
                            go_simp
                            exact hK _ _ (rfl) (Eq.refl _)
                          refine And.intro ?_ ?_
                          · intro a W hR hf ho K hK
                            subst hR
                            have F : a.tmps[151]?.getD undef = _ ∧ a.tmps[156]?.getD undef = _ ∧ a.tmps[146]?.getD undef = _ ∧ True := hf
                            obtain ⟨f16, f21, f11, -⟩ := F
                            clear ho hf
                            go_simp
                            exact hK _ _ (rfl) (Eq.refl _)
                          refine And.intro ?_ ?_
                          · intro a W hR hf ho K hK
                            subst hR
                            have F : a.tmps[146]?.getD undef = _ ∧ a.tmps[157]?.getD undef = _ ∧ True := hf
                            obtain ⟨f11, f22, -⟩ := F
                            clear ho hf
                            go_simp
                            exact hK _ _ (rfl) (Eq.refl _)
                          exact trivial
                        case stab =>
                          refine And.intro is_stable ?_
                          refine And.intro is_stable ?_
                          refine And.intro is_stable ?_
                          refine And.intro is_stable ?_
                          refine And.intro is_stable ?_
                          refine And.intro is_stable ?_
                          refine And.intro is_stable ?_
                          refine And.intro is_stable ?_
                          refine And.intro is_stable ?_
                          refine And.intro is_stable ?_
                          refine And.intro is_stable ?_
                          refine And.intro is_stable ?_
                          refine And.intro is_stable ?_
                          refine And.intro is_stable ?_
                          refine And.intro is_stable ?_
                          refine And.intro is_stable ?_
                          refine And.intro is_stable ?_
                          refine And.intro is_stable ?_
                          refine And.intro is_stable ?_
                          refine And.intro is_stable ?_
                          refine And.intro is_stable ?_
                          refine And.intro is_stable ?_
                          refine And.intro is_stable ?_
                          refine And.intro is_stable ?_
                          exact trivial
                        case ends =>
                          intro vals W hR hall
                          subst hR
                          have e158 : vals 158 = _ := hall 23 (by decide)
                          clear hall
                          simp only [fill, List.setIfInBounds_toArray, List.set_cons_succ, List.set_cons_zero, e158]
                          go_wp2_with fail
                          exact ⟨⟨j + 1, by omega, by simp, (by repeat first | (with_reducible exact Below.refl _ _) | (with_reducible apply Ext.alloc) | (with_reducible apply Ext.drew) | (with_reducible apply Ext.drewN) | (with_reducible refine Ext.set ?_ (by simp)) | (with_reducible refine Ext.then ?_ HE2.out))⟩, by simp [intOf]; omega⟩
                      · have hd5 : decide (a1 < b2') = false := decide_eq_false hq
                        go_wp2_with fail
                        refine wp_region_obl Eq [135, 136, 137, 138, 139, 140, 141, 142, 143, 144, 145, 146, 147, 148, 149, 150, 151, 152, 153, 154, 155, 156, 157, 158] (by kernel_rfl) (fun _ => rfl) (fun _ _ _ => Eq.trans) (by kernel_rfl) (by kernel_rfl) ?_
                        apply ex_is; apply Exists.intro
                        apply ex_is; apply Exists.intro
                        apply ex_is; apply Exists.intro
                        apply ex_is; apply Exists.intro
                        apply ex_is; apply Exists.intro
                        apply ex_is; apply Exists.intro
                        apply ex_is; apply Exists.intro
                        apply ex_is; apply Exists.intro
                        apply ex_is; apply Exists.intro
                        apply ex_is; apply Exists.intro
                        apply ex_is; apply Exists.intro
                        apply ex_is; apply Exists.intro
                        apply ex_is; apply Exists.intro
                        apply ex_is; apply Exists.intro
                        apply ex_is; apply Exists.intro
                        apply ex_is; apply Exists.intro
                        apply ex_is; apply Exists.intro
                        apply ex_is; apply Exists.intro
                        apply ex_is; apply Exists.intro
                        apply ex_is; apply Exists.intro
                        apply ex_is; apply Exists.intro
                        apply ex_is; apply Exists.intro
                        apply ex_is; apply Exists.intro
                        apply ex_is; apply Exists.intro
                        refine ⟨[], ⟨?steps, ?stab, ?ends⟩⟩
                        case steps =>
                          refine And.intro ?_ ?_
                          · intro a W hR hf ho K hK
                            subst hR
                            have G : a.tmps[6]?.getD undef = _ ∧ True := ho
                            obtain ⟨g6, -⟩ := G
                            clear ho hf
                            go_simp
                            exact hK _ _ (rfl) (Eq.refl _)
                          refine And.intro ?_ ?_
                          · intro a W hR hf ho K hK
                            subst hR
                            have G : a.tmps[8]?.getD undef = _ ∧ True := ho
                            obtain ⟨g8, -⟩ := G
                            clear ho hf
                            go_simp
                            exact hK _ _ (rfl) (Eq.refl _)
                          refine And.intro ?_ ?_
                          · intro a W hR hf ho K hK
                            subst hR
                            have F : a.tmps[135]?.getD undef = _ ∧ a.tmps[136]?.getD undef = _ ∧ True := hf
                            obtain ⟨f0, f1, -⟩ := F
                            clear ho hf
                            go_simp
                            exact hK _ _ (rfl) (Eq.refl _)
                          refine And.intro ?_ ?_
                          · intro a W hR hf ho K hK
                            subst hR
                            have F : a.tmps[137]?.getD undef = _ ∧ True := hf
                            obtain ⟨f2, -⟩ := F
                            clear ho hf
                            go_simp
                            exact hK _ _ (rfl) (Eq.refl _)
                          refine And.intro ?_ ?_
                          · intro a W hR hf ho K hK
                            subst hR
                            have F : a.tmps[138]?.getD undef = _ ∧ True := hf
                            obtain ⟨f3, -⟩ := F
                            clear ho hf
                            go_simp
                            exact hK _ _ (rfl) (Eq.refl _)
                          refine And.intro ?_ ?_
                          · intro a W hR hf ho K hK
                            subst hR
                            have G : a.tmps[6]?.getD undef = _ ∧ True := ho
                            obtain ⟨g6, -⟩ := G
                            clear ho hf
                            go_simp
                            exact hK _ _ (rfl) (Eq.refl _)
                          refine And.intro ?_ ?_
                          · intro a W hR hf ho K hK
                            subst hR
                            have G : a.tmps[9]?.getD undef = _ ∧ True := ho
                            obtain ⟨g9, -⟩ := G
                            clear ho hf
                            go_simp
                            exact hK _ _ (rfl) (Eq.refl _)
                          refine And.intro ?_ ?_
                          · intro a W hR hf ho K hK
                            subst hR
                            have F : a.tmps[140]?.getD undef = _ ∧ a.tmps[141]?.getD undef = _ ∧ True := hf
                            obtain ⟨f5, f6, -⟩ := F
                            clear ho hf
                            go_simp
                            exact hK _ _ (rfl) (Eq.refl _)
                          refine And.intro ?_ ?_
                          · intro a W hR hf ho K hK
                            subst hR
                            have F : a.tmps[142]?.getD undef = _ ∧ True := hf
                            obtain ⟨f7, -⟩ := F
                            clear ho hf
                            go_simp
                            exact hK _ _ (rfl) (Eq.refl _)
                          refine And.intro ?_ ?_
                          · intro a W hR hf ho K hK
                            subst hR
                            have F : a.tmps[143]?.getD undef = _ ∧ True := hf
                            obtain ⟨f8, -⟩ := F
                            clear ho hf
                            go_simp
                            exact hK _ _ (rfl) (Eq.refl _)
                          refine And.intro ?_ ?_
                          · intro a W hR hf ho K hK
                            subst hR
                            have F : a.tmps[139]?.getD undef = _ ∧ a.tmps[144]?.getD undef = _ ∧ True := hf
                            obtain ⟨f4, f9, -⟩ := F
                            clear ho hf
                            go_simp
                            exact hK _ _ (rfl) (Eq.refl _)
                          refine And.intro ?_ ?_
                          · intro a W hR hf ho K hK
                            subst hR
                            have F : a.tmps[145]?.getD undef = _ ∧ True := hf
                            obtain ⟨f10, -⟩ := F
                            clear ho hf
                            go_simp
                            exact hK _ _ (rfl) (Eq.refl _)
                          refine And.intro ?_ ?_
                          · intro a W hR hf ho K hK
                            subst hR
                            have G : a.tmps[6]?.getD undef = _ ∧ True := ho
                            obtain ⟨g6, -⟩ := G
                            have F : a.tmps[146]?.getD undef = _ ∧ True := hf
                            obtain ⟨f11, -⟩ := F
                            clear ho hf
                            go_simp
                            exact hK _ _ (rfl) (Eq.refl _)
                          refine And.intro ?_ ?_
                          · intro a W hR hf ho K hK
                            subst hR
                            have G : a.tmps[9]?.getD undef = _ ∧ True := ho
                            obtain ⟨g9, -⟩ := G
                            have F : a.tmps[146]?.getD undef = _ ∧ True := hf
                            obtain ⟨f11, -⟩ := F
                            clear ho hf
                            go_simp
                            exact hK _ _ (rfl) (Eq.refl _)
                          refine And.intro ?_ ?_
                          · intro a W hR hf ho K hK
                            subst hR
                            have F : a.tmps[147]?.getD undef = _ ∧ a.tmps[148]?.getD undef = _ ∧ a.tmps[146]?.getD undef = _ ∧ True := hf
                            obtain ⟨f12, f13, f11, -⟩ := F
                            clear ho hf
                            go_simp
                            exact hK _ _ (rfl) (Eq.refl _)
                          refine And.intro ?_ ?_
                          · intro a W hR hf ho K hK
                            subst hR
                            have F : a.tmps[149]?.getD undef = _ ∧ a.tmps[146]?.getD undef = _ ∧ True := hf
                            obtain ⟨f14, f11, -⟩ := F
                            clear ho hf
                            go_simp
                            exact hK _ _ (rfl) (Eq.refl _)
                          refine And.intro ?_ ?_
                          · intro a W hR hf ho K hK
                            subst hR
                            have F : a.tmps[150]?.getD undef = _ ∧ a.tmps[146]?.getD undef = _ ∧ True := hf
                            obtain ⟨f15, f11, -⟩ := F
                            clear ho hf
                            go_simp
                            exact hK _ _ (rfl) (Eq.refl _)
                          refine And.intro ?_ ?_
                          · intro a W hR hf ho K hK
                            subst hR
                            have G : a.tmps[6]?.getD undef = _ ∧ True := ho
                            obtain ⟨g6, -⟩ := G
                            have F : a.tmps[146]?.getD undef = _ ∧ True := hf
                            obtain ⟨f11, -⟩ := F
                            clear ho hf
                            go_simp
                            exact hK _ _ (rfl) (Eq.refl _)
                          refine And.intro ?_ ?_
                          · intro a W hR hf ho K hK
                            subst hR
                            have G : a.tmps[8]?.getD undef = _ ∧ True := ho
                            obtain ⟨g8, -⟩ := G
                            have F : a.tmps[146]?.getD undef = _ ∧ True := hf
                            obtain ⟨f11, -⟩ := F
                            clear ho hf
                            go_simp
                            exact hK _ _ (rfl) (Eq.refl _)
                          refine And.intro ?_ ?_
                          · intro a W hR hf ho K hK
                            subst hR
                            have F : a.tmps[152]?.getD undef = _ ∧ a.tmps[153]?.getD undef = _ ∧ a.tmps[146]?.getD undef = _ ∧ True := hf
                            obtain ⟨f17, f18, f11, -⟩ := F
                            clear ho hf
                            go_simp
                            exact hK _ _ (rfl) (Eq.refl _)
                          refine And.intro ?_ ?_
                          · intro a W hR hf ho K hK
                            subst hR
                            have F : a.tmps[154]?.getD undef = _ ∧ a.tmps[146]?.getD undef = _ ∧ True := hf
                            obtain ⟨f19, f11, -⟩ := F
                            clear ho hf
                            go_simp
                            exact hK _ _ (rfl) (Eq.refl _)
                          refine And.intro ?_ ?_
                          · intro a W hR hf ho K hK
                            subst hR
                            have F : a.tmps[155]?.getD undef = _ ∧ a.tmps[146]?.getD undef = _ ∧ True := hf
                            obtain ⟨f20, f11, -⟩ := F
                            clear ho hf
                            go_simp
                            exact hK _ _ (rfl) (Eq.refl _)
                          refine And.intro ?_ ?_
                          · intro a W hR hf ho K hK
                            subst hR
                            have F : a.tmps[151]?.getD undef = _ ∧ a.tmps[156]?.getD undef = _ ∧ a.tmps[146]?.getD undef = _ ∧ True := hf
                            obtain ⟨f16, f21, f11, -⟩ := F
                            clear ho hf
                            go_simp
                            exact hK _ _ (rfl) (Eq.refl _)
                          refine And.intro ?_ ?_
                          · intro a W hR hf ho K hK
                            subst hR
                            have F : a.tmps[146]?.getD undef = _ ∧ a.tmps[157]?.getD undef = _ ∧ True := hf
                            obtain ⟨f11, f22, -⟩ := F
                            clear ho hf
                            go_simp
                            exact hK _ _ (rfl) (Eq.refl _)
                          exact trivial
                        case stab =>
                          refine And.intro is_stable ?_
                          refine And.intro is_stable ?_
                          refine And.intro is_stable ?_
                          refine And.intro is_stable ?_
                          refine And.intro is_stable ?_
                          refine And.intro is_stable ?_
                          refine And.intro is_stable ?_
                          refine And.intro is_stable ?_
                          refine And.intro is_stable ?_
                          refine And.intro is_stable ?_
                          refine And.intro is_stable ?_
                          refine And.intro is_stable ?_
                          refine And.intro is_stable ?_
                          refine And.intro is_stable ?_
                          refine And.intro is_stable ?_
                          refine And.intro is_stable ?_
                          refine And.intro is_stable ?_
                          refine And.intro is_stable ?_
                          refine And.intro is_stable ?_
                          refine And.intro is_stable ?_
                          refine And.intro is_stable ?_
                          refine And.intro is_stable ?_
                          refine And.intro is_stable ?_
                          refine And.intro is_stable ?_
                          exact trivial
                        case ends =>
                          intro vals W hR hall
                          subst hR
                          have e158 : vals 158 = _ := hall 23 (by decide)
                          clear hall
                          simp only [fill, List.setIfInBounds_toArray, List.set_cons_succ, List.set_cons_zero, e158]
                          go_wp2_with fail
                          exact ⟨⟨j + 1, by omega, by simp, (by repeat first | (with_reducible exact Below.refl _ _) | (with_reducible apply Ext.alloc) | (with_reducible apply Ext.drew) | (with_reducible apply Ext.drewN) | (with_reducible refine Ext.set ?_ (by simp)) | (with_reducible refine Ext.then ?_ HE2.out))⟩, by simp [intOf]; omega⟩
                    · obtain rfl : j = k := by omega
                      go_wp2_with fail
                      exact ⟨⟨j + 1, by omega, by simp, HE.out.1.then hE⟩, by simp [intOf]; omega⟩
              · obtain rfl : k = L.length := by omega
                have HE := Lib.hid (HA.out.2.1.then hE)
                clear hE
                go_wp2_with fail
                go_loopw [10] (fun i wo => ∃ k : Nat, k ≤ x.comps.length ∧ i = .int .i64 (k : Int) ∧ Ext U wo) (fun i _ => x.comps.length - (intOf i).toNat)
                case atStart => exact ⟨0, Nat.zero_le _, rfl, HE.out⟩
                case round =>
                  obtain ⟨k, hk, rfl, hE⟩ := hrel
                  by_cases hlt9 : k < x.comps.length
                  · obtain ⟨q0, q1, q2, q3, q4⟩ := lie5 HU.out.2.1 hE
                    obtain ⟨z0, z1, z2, z3, z4, z5⟩ := lie6 Bu.out.row hE
                    have hltq := cell_lt q0
                    have hltz := cell_lt z0
                    simp only at hltq hltz
                    have kd : k < x.d.comps.length := by simpa [ImgM.d] using hlt9
                    have hsz := where_sizes HR.out kd
                    rw [← HY.out.2.1] at hsz
                    have k1 : k < y.code.length := by rw [HY.out.2.2.1]; exact hlt9
                    have k2 : k < y.data.length := by rw [HY.out.2.2.2.1]; exact hlt9
                    have k3 : k < y.heap.length := by rw [HY.out.2.2.2.2.1]; exact hlt9
                    have g1 : y.d.code.getD k (0, 0) = y.code[k] := by simp [LayM.d, List.getD_eq_getElem?_getD, List.getElem?_eq_getElem k1]
                    have g2 : y.d.data.getD k (0, 0) = y.data[k] := by simp [LayM.d, List.getD_eq_getElem?_getD, List.getElem?_eq_getElem k2]
                    have g3 : y.d.heap.getD k (0, 0) = y.heap[k] := by simp [LayM.d, List.getD_eq_getElem?_getD, List.getElem?_eq_getElem k3]
                    have hcd : x.d.comps[k] = x.comps[k].d := by simp [ImgM.d]
                    rw [g1, g2, g3, hcd] at hsz
                    have hin : ∀ a ∈ y.code ++ y.data ++ y.heap, 0 ≤ a.1 ∧ a.1 < a.2 ∧ a.2 ≤ 103680 := fun a ha => by
                      have := HT.out.all a (by rw [HLL.out, allK_full]; exact List.mem_append_left _ ha)
                      omega
                    have m1 := hin y.code[k] (by simp)
                    have m2 := hin y.data[k] (by simp)
                    have m3 := hin y.heap[k] (by simp)
                    have hcl := (H.out.codes x.comps[k] (List.getElem_mem hlt9)).2.2.2.1
                    have hform := (right_form HR.out).comps _ (List.getElem_mem kd)
                    rw [hcd] at hform
                    have hheap := (right_form HR.out).heap
                    obtain ⟨bc, oc, hbc, -, p0⟩ := (H.out.comps.ext (Bu.out.ext.then hE)).flat (s := 2) (fun _ => rfl) (by decide) hlt9
                    obtain ⟨bp, op, hbp, -, p1⟩ := (HY.out.1.code.ext (HU.out.1.then hE)).flat (s := 2) (f := pairC) (fun _ => rfl) (by decide) k1
                    obtain ⟨bq, oq, hbq, -, p2⟩ := (HY.out.1.data.ext (HU.out.1.then hE)).flat (s := 2) (f := pairC) (fun _ => rfl) (by decide) k2
                    obtain ⟨br, or, hbr, -, p3⟩ := (HY.out.1.heap.ext (HU.out.1.then hE)).flat (s := 2) (f := pairC) (fun _ => rfl) (by decide) k3
                    have x0 := p0 0 _ rfl
                    have x1 := p0 1 _ rfl
                    have c0 := p1 0 _ rfl
                    have c1 := p1 1 _ rfl
                    have d0 := p2 0 _ rfl
                    have d1 := p2 1 _ rfl
                    have h0 := p3 0 _ rfl
                    have h1 := p3 1 _ rfl
                    simp only [Nat.add_zero] at x0 c0 d0 h0
                    rw [hbc] at z3
                    rw [hbp] at q0
                    rw [hbq] at q1
                    rw [hbr] at q2
                    generalize x.comps[k] = cm at x0 x1 hsz hcl hform
                    generalize y.code[k] = pc at c0 c1 hsz m1
                    generalize y.data[k] = pd at d0 d1 hsz m2
                    generalize y.heap[k] = ph at h0 h1 hsz m3
                    obtain ⟨u1, u2⟩ := pc
                    obtain ⟨v1, v2⟩ := pd
                    obtain ⟨r1, r2⟩ := ph
                    simp only [CompM.d] at c0 c1 d0 d1 h0 h1 hsz m1 m2 m3 hform
                    have hheap' : x.d.heap = x.heap := rfl
                    rw [hheap'] at hsz hheap
                    obtain ⟨s1, s2, s3⟩ := hsz
                    have w1 : IntKind.i64.wrap (u2 - u1) = (cm.code.length : Int) := by rw [IntWalk.i64_in _ (by omega)]; exact s1
                    have w2 : IntKind.i64.wrap (v2 - v1) = 256 * cm.data := by rw [IntWalk.i64_in _ (by omega)]; exact s2
                    have w3 : IntKind.i64.wrap (r2 - r1) = 256 * x.heap := by rw [IntWalk.i64_in _ (by omega)]; exact s3
                    have w4 : IntKind.i64.wrap (256 * cm.data) = 256 * cm.data := IntWalk.i64_in _ (by omega)
                    have w5 : IntKind.i64.wrap (256 * x.heap) = 256 * x.heap := IntWalk.i64_in _ (by omega)
                    have HE4 := Lib.hid hE
                    clear hE p0 p1 p2 p3 hin g1 g2 g3 hcd kd s1 s2 s3 hbc hbp hbq hbr hheap'
                    have e1 := Lib.hid HY.out.2.2.1
                    have e2 := Lib.hid HY.out.2.2.2.1
                    have e3 := Lib.hid HY.out.2.2.2.2.1
                    go_wp2_with fail
                    refine wp_region_obl Eq [164, 165, 166, 167, 168, 169, 170, 171, 172, 173, 174, 175, 176, 177, 178, 179, 180, 181, 182, 183, 184, 185, 186, 187, 188, 189, 190, 191, 192, 193, 194, 195, 196, 197, 198, 199, 200, 201, 202, 203, 204, 205, 206, 207, 208, 209, 210, 211, 212, 213, 214, 215, 216, 217, 218, 219, 220, 221, 222, 223, 224, 225, 226] (by kernel_rfl) (fun _ => rfl) (fun _ _ _ => Eq.trans) (by kernel_rfl) (by kernel_rfl) ?_
                    apply ex_is; apply Exists.intro
                    apply ex_is; apply Exists.intro
                    apply ex_is; apply Exists.intro
                    apply ex_is; apply Exists.intro
                    apply ex_is; apply Exists.intro
                    apply ex_is; apply Exists.intro
                    apply ex_is; apply Exists.intro
                    apply ex_is; apply Exists.intro
                    apply ex_is; apply Exists.intro
                    apply ex_is; apply Exists.intro
                    apply ex_is; apply Exists.intro
                    apply ex_is; apply Exists.intro
                    apply ex_is; apply Exists.intro
                    apply ex_is; apply Exists.intro
                    apply ex_is; apply Exists.intro
                    apply ex_is; apply Exists.intro
                    apply ex_is; apply Exists.intro
                    apply ex_is; apply Exists.intro
                    apply ex_is; apply Exists.intro
                    apply ex_is; apply Exists.intro
                    apply ex_is; apply Exists.intro
                    apply ex_is; apply Exists.intro
                    apply ex_is; apply Exists.intro
                    apply ex_is; apply Exists.intro
                    apply ex_is; apply Exists.intro
                    apply ex_is; apply Exists.intro
                    apply ex_is; apply Exists.intro
                    apply ex_is; apply Exists.intro
                    apply ex_is; apply Exists.intro
                    apply ex_is; apply Exists.intro
                    apply ex_is; apply Exists.intro
                    apply ex_is; apply Exists.intro
                    apply ex_is; apply Exists.intro
                    apply ex_is; apply Exists.intro
                    apply ex_is; apply Exists.intro
                    apply ex_is; apply Exists.intro
                    apply ex_is; apply Exists.intro
                    apply ex_is; apply Exists.intro
                    apply ex_is; apply Exists.intro
                    apply ex_is; apply Exists.intro
                    apply ex_is; apply Exists.intro
                    apply ex_is; apply Exists.intro
                    apply ex_is; apply Exists.intro
                    apply ex_is; apply Exists.intro
                    apply ex_is; apply Exists.intro
                    apply ex_is; apply Exists.intro
                    apply ex_is; apply Exists.intro
                    apply ex_is; apply Exists.intro
                    apply ex_is; apply Exists.intro
                    apply ex_is; apply Exists.intro
                    apply ex_is; apply Exists.intro
                    apply ex_is; apply Exists.intro
                    apply ex_is; apply Exists.intro
                    apply ex_is; apply Exists.intro
                    apply ex_is; apply Exists.intro
                    apply ex_is; apply Exists.intro
                    apply ex_is; apply Exists.intro
                    apply ex_is; apply Exists.intro
                    apply ex_is; apply Exists.intro
                    apply ex_is; apply Exists.intro
                    apply ex_is; apply Exists.intro
                    apply ex_is; apply Exists.intro
                    apply ex_is; apply Exists.intro
                    refine ⟨[], ⟨?steps, ?stab, ?ends⟩⟩
                    case steps =>
                      refine And.intro ?_ ?_
                      · intro a W hR hf ho K hK
                        subst hR
                        have G : a.tmps[4]?.getD undef = _ ∧ True := ho
                        obtain ⟨g4, -⟩ := G
                        clear ho hf
                        go_simp
                        exact hK _ _ (rfl) (Eq.refl _)
                      refine And.intro ?_ ?_
                      · intro a W hR hf ho K hK
                        subst hR
                        have F : a.tmps[164]?.getD undef = _ ∧ True := hf
                        obtain ⟨f0, -⟩ := F
                        clear ho hf
                        go_simp
                        exact hK _ _ (rfl) (Eq.refl _)
                      refine And.intro ?_ ?_
                      · intro a W hR hf ho K hK
                        subst hR
                        have G : a.tmps[10]?.getD undef = _ ∧ True := ho
                        obtain ⟨g10, -⟩ := G
                        clear ho hf
                        go_simp
                        exact hK _ _ (rfl) (Eq.refl _)
                      refine And.intro ?_ ?_
                      · intro a W hR hf ho K hK
                        subst hR
                        have F : a.tmps[165]?.getD undef = _ ∧ a.tmps[166]?.getD undef = _ ∧ True := hf
                        obtain ⟨f1, f2, -⟩ := F
                        clear ho hf
                        go_simp
                        exact hK _ _ (rfl) (Eq.refl _)
                      refine And.intro ?_ ?_
                      · intro a W hR hf ho K hK
                        subst hR
                        have F : a.tmps[167]?.getD undef = _ ∧ True := hf
                        obtain ⟨f3, -⟩ := F
                        clear ho hf
                        go_simp
                        exact hK _ _ (rfl) (Eq.refl _)
                      refine And.intro ?_ ?_
                      · intro a W hR hf ho K hK
                        subst hR
                        have F : a.tmps[168]?.getD undef = _ ∧ True := hf
                        obtain ⟨f4, -⟩ := F
                        clear ho hf
                        go_simp
                        exact hK _ _ (rfl) (Eq.refl _)
                      refine And.intro ?_ ?_
                      · intro a W hR hf ho K hK
                        subst hR
                        have G : a.tmps[4]?.getD undef = _ ∧ True := ho
                        obtain ⟨g4, -⟩ := G
                        clear ho hf
                        go_simp
                        exact hK _ _ (rfl) (Eq.refl _)
                      refine And.intro ?_ ?_
                      · intro a W hR hf ho K hK
                        subst hR
                        have F : a.tmps[170]?.getD undef = _ ∧ True := hf
                        obtain ⟨f6, -⟩ := F
                        clear ho hf
                        go_simp
                        exact hK _ _ (rfl) (Eq.refl _)
                      refine And.intro ?_ ?_
                      · intro a W hR hf ho K hK
                        subst hR
                        have G : a.tmps[10]?.getD undef = _ ∧ True := ho
                        obtain ⟨g10, -⟩ := G
                        clear ho hf
                        go_simp
                        exact hK _ _ (rfl) (Eq.refl _)
                      refine And.intro ?_ ?_
                      · intro a W hR hf ho K hK
                        subst hR
                        have F : a.tmps[171]?.getD undef = _ ∧ a.tmps[172]?.getD undef = _ ∧ True := hf
                        obtain ⟨f7, f8, -⟩ := F
                        clear ho hf
                        go_simp
                        exact hK _ _ (rfl) (Eq.refl _)
                      refine And.intro ?_ ?_
                      · intro a W hR hf ho K hK
                        subst hR
                        have F : a.tmps[173]?.getD undef = _ ∧ True := hf
                        obtain ⟨f9, -⟩ := F
                        clear ho hf
                        go_simp
                        exact hK _ _ (rfl) (Eq.refl _)
                      refine And.intro ?_ ?_
                      · intro a W hR hf ho K hK
                        subst hR
                        have F : a.tmps[174]?.getD undef = _ ∧ True := hf
                        obtain ⟨f10, -⟩ := F
                        clear ho hf
                        go_simp
                        exact hK _ _ (rfl) (Eq.refl _)
                      refine And.intro ?_ ?_
                      · intro a W hR hf ho K hK
                        subst hR
                        have F : a.tmps[169]?.getD undef = _ ∧ a.tmps[175]?.getD undef = _ ∧ True := hf
                        obtain ⟨f5, f11, -⟩ := F
                        clear ho hf
                        go_simp
                        exact hK _ _ (rfl) (Eq.refl _)
                      refine And.intro ?_ ?_
                      · intro a W hR hf ho K hK
                        subst hR
                        have G : a.tmps[1]?.getD undef = _ ∧ True := ho
                        obtain ⟨g1, -⟩ := G
                        clear ho hf
                        go_simp
                        exact hK _ _ (rfl) (Eq.refl _)
                      refine And.intro ?_ ?_
                      · intro a W hR hf ho K hK
                        subst hR
                        have F : a.tmps[177]?.getD undef = _ ∧ True := hf
                        obtain ⟨f13, -⟩ := F
                        clear ho hf
                        go_simp
                        exact hK _ _ (rfl) (Eq.refl _)
                      refine And.intro ?_ ?_
                      · intro a W hR hf ho K hK
                        subst hR
                        have G : a.tmps[10]?.getD undef = _ ∧ True := ho
                        obtain ⟨g10, -⟩ := G
                        clear ho hf
                        go_simp
                        exact hK _ _ (rfl) (Eq.refl _)
                      refine And.intro ?_ ?_
                      · intro a W hR hf ho K hK
                        subst hR
                        have F : a.tmps[178]?.getD undef = _ ∧ a.tmps[179]?.getD undef = _ ∧ True := hf
                        obtain ⟨f14, f15, -⟩ := F
                        clear ho hf
                        go_simp
                        exact hK _ _ (rfl) (Eq.refl _)
                      refine And.intro ?_ ?_
                      · intro a W hR hf ho K hK
                        subst hR
                        have F : a.tmps[180]?.getD undef = _ ∧ True := hf
                        obtain ⟨f16, -⟩ := F
                        clear ho hf
                        go_simp
                        exact hK _ _ (rfl) (Eq.refl _)
                      refine And.intro ?_ ?_
                      · intro a W hR hf ho K hK
                        subst hR
                        have F : a.tmps[181]?.getD undef = _ ∧ True := hf
                        obtain ⟨f17, -⟩ := F
                        clear ho hf
                        go_simp
                        exact hK _ _ (rfl) (Eq.refl _)
                      refine And.intro ?_ ?_
                      · intro a W hR hf ho K hK
                        subst hR
                        have F : a.tmps[182]?.getD undef = _ ∧ True := hf
                        obtain ⟨f18, -⟩ := F
                        clear ho hf
                        go_simp
                        exact hK _ _ (rfl) (Eq.refl _)
                      refine And.intro ?_ ?_
                      · intro a W hR hf ho K hK
                        subst hR
                        have F : a.tmps[176]?.getD undef = _ ∧ a.tmps[183]?.getD undef = _ ∧ True := hf
                        obtain ⟨f12, f19, -⟩ := F
                        clear ho hf
                        go_simp
                        exact hK _ _ (rfl) (Eq.refl _)
                      refine And.intro ?_ ?_
                      · intro a W hR hf ho K hK
                        subst hR
                        have F : a.tmps[184]?.getD undef = _ ∧ True := hf
                        obtain ⟨f20, -⟩ := F
                        clear ho hf
                        go_simp
                        exact hK _ _ (rfl) (Eq.refl _)
                      refine And.intro ?_ ?_
                      · intro a W hR hf ho K hK
                        subst hR
                        have G : a.tmps[4]?.getD undef = _ ∧ True := ho
                        obtain ⟨g4, -⟩ := G
                        have F : a.tmps[185]?.getD undef = _ ∧ True := hf
                        obtain ⟨f21, -⟩ := F
                        clear ho hf
                        go_simp
                        exact hK _ _ (rfl) (Eq.refl _)
                      refine And.intro ?_ ?_
                      · intro a W hR hf ho K hK
                        subst hR
                        have F : a.tmps[186]?.getD undef = _ ∧ a.tmps[185]?.getD undef = _ ∧ True := hf
                        obtain ⟨f22, f21, -⟩ := F
                        clear ho hf
                        go_simp
                        exact hK _ _ (rfl) (Eq.refl _)
                      refine And.intro ?_ ?_
                      · intro a W hR hf ho K hK
                        subst hR
                        have G : a.tmps[10]?.getD undef = _ ∧ True := ho
                        obtain ⟨g10, -⟩ := G
                        have F : a.tmps[185]?.getD undef = _ ∧ True := hf
                        obtain ⟨f21, -⟩ := F
                        clear ho hf
                        go_simp
                        exact hK _ _ (rfl) (Eq.refl _)
                      refine And.intro ?_ ?_
                      · intro a W hR hf ho K hK
                        subst hR
                        have F : a.tmps[187]?.getD undef = _ ∧ a.tmps[188]?.getD undef = _ ∧ a.tmps[185]?.getD undef = _ ∧ True := hf
                        obtain ⟨f23, f24, f21, -⟩ := F
                        clear ho hf
                        go_simp
                        exact hK _ _ (rfl) (Eq.refl _)
                      refine And.intro ?_ ?_
                      · intro a W hR hf ho K hK
                        subst hR
                        have F : a.tmps[189]?.getD undef = _ ∧ a.tmps[185]?.getD undef = _ ∧ True := hf
                        obtain ⟨f25, f21, -⟩ := F
                        clear ho hf
                        go_simp
                        exact hK _ _ (rfl) (Eq.refl _)
                      refine And.intro ?_ ?_
                      · intro a W hR hf ho K hK
                        subst hR
                        have F : a.tmps[190]?.getD undef = _ ∧ a.tmps[185]?.getD undef = _ ∧ True := hf
                        obtain ⟨f26, f21, -⟩ := F
                        clear ho hf
                        go_simp
                        exact hK _ _ (rfl) (Eq.refl _)
                      refine And.intro ?_ ?_
                      · intro a W hR hf ho K hK
                        subst hR
                        have G : a.tmps[4]?.getD undef = _ ∧ True := ho
                        obtain ⟨g4, -⟩ := G
                        have F : a.tmps[185]?.getD undef = _ ∧ True := hf
                        obtain ⟨f21, -⟩ := F
                        clear ho hf
                        go_simp
                        exact hK _ _ (rfl) (Eq.refl _)
                      refine And.intro ?_ ?_
                      · intro a W hR hf ho K hK
                        subst hR
                        have F : a.tmps[192]?.getD undef = _ ∧ a.tmps[185]?.getD undef = _ ∧ True := hf
                        obtain ⟨f28, f21, -⟩ := F
                        clear ho hf
                        go_simp
                        exact hK _ _ (rfl) (Eq.refl _)
                      refine And.intro ?_ ?_
                      · intro a W hR hf ho K hK
                        subst hR
                        have G : a.tmps[10]?.getD undef = _ ∧ True := ho
                        obtain ⟨g10, -⟩ := G
                        have F : a.tmps[185]?.getD undef = _ ∧ True := hf
                        obtain ⟨f21, -⟩ := F
                        clear ho hf
                        go_simp
                        exact hK _ _ (rfl) (Eq.refl _)
                      refine And.intro ?_ ?_
                      · intro a W hR hf ho K hK
                        subst hR
                        have F : a.tmps[193]?.getD undef = _ ∧ a.tmps[194]?.getD undef = _ ∧ a.tmps[185]?.getD undef = _ ∧ True := hf
                        obtain ⟨f29, f30, f21, -⟩ := F
                        clear ho hf
                        go_simp
                        exact hK _ _ (rfl) (Eq.refl _)
                      refine And.intro ?_ ?_
                      · intro a W hR hf ho K hK
                        subst hR
                        have F : a.tmps[195]?.getD undef = _ ∧ a.tmps[185]?.getD undef = _ ∧ True := hf
                        obtain ⟨f31, f21, -⟩ := F
                        clear ho hf
                        go_simp
                        exact hK _ _ (rfl) (Eq.refl _)
                      refine And.intro ?_ ?_
                      · intro a W hR hf ho K hK
                        subst hR
                        have F : a.tmps[196]?.getD undef = _ ∧ a.tmps[185]?.getD undef = _ ∧ True := hf
                        obtain ⟨f32, f21, -⟩ := F
                        clear ho hf
                        go_simp
                        exact hK _ _ (rfl) (Eq.refl _)
                      refine And.intro ?_ ?_
                      · intro a W hR hf ho K hK
                        subst hR
                        have F : a.tmps[191]?.getD undef = _ ∧ a.tmps[197]?.getD undef = _ ∧ a.tmps[185]?.getD undef = _ ∧ True := hf
                        obtain ⟨f27, f33, f21, -⟩ := F
                        clear ho hf
                        go_simp
                        exact hK _ _ (rfl) (Eq.refl _)
                      refine And.intro ?_ ?_
                      · intro a W hR hf ho K hK
                        subst hR
                        have G : a.tmps[1]?.getD undef = _ ∧ True := ho
                        obtain ⟨g1, -⟩ := G
                        have F : a.tmps[185]?.getD undef = _ ∧ True := hf
                        obtain ⟨f21, -⟩ := F
                        clear ho hf
                        go_simp
                        exact hK _ _ (rfl) (Eq.refl _)
                      refine And.intro ?_ ?_
                      · intro a W hR hf ho K hK
                        subst hR
                        have F : a.tmps[199]?.getD undef = _ ∧ a.tmps[185]?.getD undef = _ ∧ True := hf
                        obtain ⟨f35, f21, -⟩ := F
                        clear ho hf
                        go_simp
                        exact hK _ _ (rfl) (Eq.refl _)
                      refine And.intro ?_ ?_
                      · intro a W hR hf ho K hK
                        subst hR
                        have G : a.tmps[10]?.getD undef = _ ∧ True := ho
                        obtain ⟨g10, -⟩ := G
                        have F : a.tmps[185]?.getD undef = _ ∧ True := hf
                        obtain ⟨f21, -⟩ := F
                        clear ho hf
                        go_simp
                        exact hK _ _ (rfl) (Eq.refl _)
                      refine And.intro ?_ ?_
                      · intro a W hR hf ho K hK
                        subst hR
                        have F : a.tmps[200]?.getD undef = _ ∧ a.tmps[201]?.getD undef = _ ∧ a.tmps[185]?.getD undef = _ ∧ True := hf
                        obtain ⟨f36, f37, f21, -⟩ := F
                        clear ho hf
                        go_simp
                        exact hK _ _ (rfl) (Eq.refl _)
                      refine And.intro ?_ ?_
                      · intro a W hR hf ho K hK
                        subst hR
                        have F : a.tmps[202]?.getD undef = _ ∧ a.tmps[185]?.getD undef = _ ∧ True := hf
                        obtain ⟨f38, f21, -⟩ := F
                        clear ho hf
                        go_simp
                        exact hK _ _ (rfl) (Eq.refl _)
                      refine And.intro ?_ ?_
                      · intro a W hR hf ho K hK
                        subst hR
                        have F : a.tmps[203]?.getD undef = _ ∧ a.tmps[185]?.getD undef = _ ∧ True := hf
                        obtain ⟨f39, f21, -⟩ := F
                        clear ho hf
                        go_simp
                        exact hK _ _ (rfl) (Eq.refl _)
                      refine And.intro ?_ ?_
                      · intro a W hR hf ho K hK
                        subst hR
                        have F : a.tmps[204]?.getD undef = _ ∧ a.tmps[185]?.getD undef = _ ∧ True := hf
                        obtain ⟨f40, f21, -⟩ := F
                        clear ho hf
                        go_simp
                        exact hK _ _ (rfl) (Eq.refl _)
                      refine And.intro ?_ ?_
                      · intro a W hR hf ho K hK
                        subst hR
                        have F : a.tmps[198]?.getD undef = _ ∧ a.tmps[205]?.getD undef = _ ∧ a.tmps[185]?.getD undef = _ ∧ True := hf
                        obtain ⟨f34, f41, f21, -⟩ := F
                        clear ho hf
                        go_simp
                        exact hK _ _ (rfl) (Eq.refl _)
                      refine And.intro ?_ ?_
                      · intro a W hR hf ho K hK
                        subst hR
                        have F : a.tmps[185]?.getD undef = _ ∧ a.tmps[206]?.getD undef = _ ∧ True := hf
                        obtain ⟨f21, f42, -⟩ := F
                        clear ho hf
                        go_simp
                        exact hK _ _ (rfl) (Eq.refl _)
                      refine And.intro ?_ ?_
                      · intro a W hR hf ho K hK
                        subst hR
                        have F : a.tmps[207]?.getD undef = _ ∧ a.tmps[185]?.getD undef = _ ∧ True := hf
                        obtain ⟨f43, f21, -⟩ := F
                        clear ho hf
                        go_simp
                        exact hK _ _ (rfl) (Eq.refl _)
                      refine And.intro ?_ ?_
                      · intro a W hR hf ho K hK
                        subst hR
                        have G : a.tmps[4]?.getD undef = _ ∧ True := ho
                        obtain ⟨g4, -⟩ := G
                        have F : a.tmps[208]?.getD undef = _ ∧ True := hf
                        obtain ⟨f44, -⟩ := F
                        clear ho hf
                        go_simp
                        exact hK _ _ (rfl) (Eq.refl _)
                      refine And.intro ?_ ?_
                      · intro a W hR hf ho K hK
                        subst hR
                        have F : a.tmps[209]?.getD undef = _ ∧ a.tmps[208]?.getD undef = _ ∧ True := hf
                        obtain ⟨f45, f44, -⟩ := F
                        clear ho hf
                        go_simp
                        exact hK _ _ (rfl) (Eq.refl _)
                      refine And.intro ?_ ?_
                      · intro a W hR hf ho K hK
                        subst hR
                        have G : a.tmps[10]?.getD undef = _ ∧ True := ho
                        obtain ⟨g10, -⟩ := G
                        have F : a.tmps[208]?.getD undef = _ ∧ True := hf
                        obtain ⟨f44, -⟩ := F
                        clear ho hf
                        go_simp
                        exact hK _ _ (rfl) (Eq.refl _)
                      refine And.intro ?_ ?_
                      · intro a W hR hf ho K hK
                        subst hR
                        have F : a.tmps[210]?.getD undef = _ ∧ a.tmps[211]?.getD undef = _ ∧ a.tmps[208]?.getD undef = _ ∧ True := hf
                        obtain ⟨f46, f47, f44, -⟩ := F
                        clear ho hf
                        go_simp
                        exact hK _ _ (rfl) (Eq.refl _)
                      refine And.intro ?_ ?_
                      · intro a W hR hf ho K hK
                        subst hR
                        have F : a.tmps[212]?.getD undef = _ ∧ a.tmps[208]?.getD undef = _ ∧ True := hf
                        obtain ⟨f48, f44, -⟩ := F
                        clear ho hf
                        go_simp
                        exact hK _ _ (rfl) (Eq.refl _)
                      refine And.intro ?_ ?_
                      · intro a W hR hf ho K hK
                        subst hR
                        have F : a.tmps[213]?.getD undef = _ ∧ a.tmps[208]?.getD undef = _ ∧ True := hf
                        obtain ⟨f49, f44, -⟩ := F
                        clear ho hf
                        go_simp
                        exact hK _ _ (rfl) (Eq.refl _)
                      refine And.intro ?_ ?_
                      · intro a W hR hf ho K hK
                        subst hR
                        have G : a.tmps[4]?.getD undef = _ ∧ True := ho
                        obtain ⟨g4, -⟩ := G
                        have F : a.tmps[208]?.getD undef = _ ∧ True := hf
                        obtain ⟨f44, -⟩ := F
                        clear ho hf
                        go_simp
                        exact hK _ _ (rfl) (Eq.refl _)
                      refine And.intro ?_ ?_
                      · intro a W hR hf ho K hK
                        subst hR
                        have F : a.tmps[215]?.getD undef = _ ∧ a.tmps[208]?.getD undef = _ ∧ True := hf
                        obtain ⟨f51, f44, -⟩ := F
                        clear ho hf
                        go_simp
                        exact hK _ _ (rfl) (Eq.refl _)
                      refine And.intro ?_ ?_
                      · intro a W hR hf ho K hK
                        subst hR
                        have G : a.tmps[10]?.getD undef = _ ∧ True := ho
                        obtain ⟨g10, -⟩ := G
                        have F : a.tmps[208]?.getD undef = _ ∧ True := hf
                        obtain ⟨f44, -⟩ := F
                        clear ho hf
                        go_simp
                        exact hK _ _ (rfl) (Eq.refl _)
                      refine And.intro ?_ ?_
                      · intro a W hR hf ho K hK
                        subst hR
                        have F : a.tmps[216]?.getD undef = _ ∧ a.tmps[217]?.getD undef = _ ∧ a.tmps[208]?.getD undef = _ ∧ True := hf
                        obtain ⟨f52, f53, f44, -⟩ := F
                        clear ho hf
                        go_simp
                        exact hK _ _ (rfl) (Eq.refl _)
                      refine And.intro ?_ ?_
                      · intro a W hR hf ho K hK
                        subst hR
                        have F : a.tmps[218]?.getD undef = _ ∧ a.tmps[208]?.getD undef = _ ∧ True := hf
                        obtain ⟨f54, f44, -⟩ := F
                        clear ho hf
                        go_simp
                        exact hK _ _ (rfl) (Eq.refl _)
                      refine And.intro ?_ ?_
                      · intro a W hR hf ho K hK
                        subst hR
                        have F : a.tmps[219]?.getD undef = _ ∧ a.tmps[208]?.getD undef = _ ∧ True := hf
                        obtain ⟨f55, f44, -⟩ := F
                        clear ho hf
                        go_simp
                        exact hK _ _ (rfl) (Eq.refl _)
                      refine And.intro ?_ ?_
                      · intro a W hR hf ho K hK
                        subst hR
                        have F : a.tmps[214]?.getD undef = _ ∧ a.tmps[220]?.getD undef = _ ∧ a.tmps[208]?.getD undef = _ ∧ True := hf
                        obtain ⟨f50, f56, f44, -⟩ := F
                        clear ho hf
                        go_simp
                        exact hK _ _ (rfl) (Eq.refl _)
                      refine And.intro ?_ ?_
                      · intro a W hR hf ho K hK
                        subst hR
                        have G : a.tmps[1]?.getD undef = _ ∧ True := ho
                        obtain ⟨g1, -⟩ := G
                        have F : a.tmps[208]?.getD undef = _ ∧ True := hf
                        obtain ⟨f44, -⟩ := F
                        clear ho hf
                        go_simp
                        exact hK _ _ (rfl) (Eq.refl _)
                      refine And.intro ?_ ?_
                      · intro a W hR hf ho K hK
                        subst hR
                        have F : a.tmps[222]?.getD undef = _ ∧ a.tmps[208]?.getD undef = _ ∧ True := hf
                        obtain ⟨f58, f44, -⟩ := F
                        clear ho hf
                        go_simp
                        exact hK _ _ (rfl) (Eq.refl _)
                      refine And.intro ?_ ?_
                      · intro a W hR hf ho K hK
                        subst hR
                        have F : a.tmps[223]?.getD undef = _ ∧ a.tmps[208]?.getD undef = _ ∧ True := hf
                        obtain ⟨f59, f44, -⟩ := F
                        clear ho hf
                        go_simp
                        exact hK _ _ (rfl) (Eq.refl _)
                      refine And.intro ?_ ?_
                      · intro a W hR hf ho K hK
                        subst hR
                        have F : a.tmps[221]?.getD undef = _ ∧ a.tmps[224]?.getD undef = _ ∧ a.tmps[208]?.getD undef = _ ∧ True := hf
                        obtain ⟨f57, f60, f44, -⟩ := F
                        clear ho hf
                        go_simp
                        exact hK _ _ (rfl) (Eq.refl _)
                      refine And.intro ?_ ?_
                      · intro a W hR hf ho K hK
                        subst hR
                        have F : a.tmps[208]?.getD undef = _ ∧ a.tmps[225]?.getD undef = _ ∧ True := hf
                        obtain ⟨f44, f61, -⟩ := F
                        clear ho hf
                        go_simp
                        exact hK _ _ (rfl) (Eq.refl _)
                      exact trivial
                    case stab =>
                      refine And.intro is_stable ?_
                      refine And.intro is_stable ?_
                      refine And.intro is_stable ?_
                      refine And.intro is_stable ?_
                      refine And.intro is_stable ?_
                      refine And.intro is_stable ?_
                      refine And.intro is_stable ?_
                      refine And.intro is_stable ?_
                      refine And.intro is_stable ?_
                      refine And.intro is_stable ?_
                      refine And.intro is_stable ?_
                      refine And.intro is_stable ?_
                      refine And.intro is_stable ?_
                      refine And.intro is_stable ?_
                      refine And.intro is_stable ?_
                      refine And.intro is_stable ?_
                      refine And.intro is_stable ?_
                      refine And.intro is_stable ?_
                      refine And.intro is_stable ?_
                      refine And.intro is_stable ?_
                      refine And.intro is_stable ?_
                      refine And.intro is_stable ?_
                      refine And.intro is_stable ?_
                      refine And.intro is_stable ?_
                      refine And.intro is_stable ?_
                      refine And.intro is_stable ?_
                      refine And.intro is_stable ?_
                      refine And.intro is_stable ?_
                      refine And.intro is_stable ?_
                      refine And.intro is_stable ?_
                      refine And.intro is_stable ?_
                      refine And.intro is_stable ?_
                      refine And.intro is_stable ?_
                      refine And.intro is_stable ?_
                      refine And.intro is_stable ?_
                      refine And.intro is_stable ?_
                      refine And.intro is_stable ?_
                      refine And.intro is_stable ?_
                      refine And.intro is_stable ?_
                      refine And.intro is_stable ?_
                      refine And.intro is_stable ?_
                      refine And.intro is_stable ?_
                      refine And.intro is_stable ?_
                      refine And.intro is_stable ?_
                      refine And.intro is_stable ?_
                      refine And.intro is_stable ?_
                      refine And.intro is_stable ?_
                      refine And.intro is_stable ?_
                      refine And.intro is_stable ?_
                      refine And.intro is_stable ?_
                      refine And.intro is_stable ?_
                      refine And.intro is_stable ?_
                      refine And.intro is_stable ?_
                      refine And.intro is_stable ?_
                      refine And.intro is_stable ?_
                      refine And.intro is_stable ?_
                      refine And.intro is_stable ?_
                      refine And.intro is_stable ?_
                      refine And.intro is_stable ?_
                      refine And.intro is_stable ?_
                      refine And.intro is_stable ?_
                      refine And.intro is_stable ?_
                      refine And.intro is_stable ?_
                      exact trivial
                    case ends =>
                      intro vals W hR hall
                      subst hR
                      have e226 : vals 226 = _ := hall 62 (by decide)
                      clear hall
                      simp only [fill, List.setIfInBounds_toArray, List.set_cons_succ, List.set_cons_zero, e226]
                      go_wp2_with fail
                      exact ⟨⟨k + 1, by omega, by simp, (by repeat first | (with_reducible exact Below.refl _ _) | (with_reducible apply Ext.alloc) | (with_reducible apply Ext.drew) | (with_reducible apply Ext.drewN) | (with_reducible refine Ext.set ?_ (by simp)) | (with_reducible refine Ext.then ?_ HE4.out))⟩, by simp [intOf]; omega⟩
                  · obtain rfl : k = x.comps.length := by omega
                    go_wp2_with fail
                    go_ret
                    exact ⟨rfl, Bu.out.ext.then hE⟩
end Go.Proofs.Ytgfnpcoigooblaa

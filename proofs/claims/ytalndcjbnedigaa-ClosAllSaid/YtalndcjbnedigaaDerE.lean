
/- Package derive: what is made of one. (Printed by gen_der.py.) -/
import Derived.Test.YtalndcjbnedigaaDerD
set_option linter.all false
namespace Go.Proofs.Ytalndcjbnedigaa
open Go.RowKit Go.Shelf
attribute [local go_sem] seen dstOf boolOf

theorem grown_set6 {w : World} {b : Nat} {v0 v1 v2 v3 v4 v5 : Value} : w.grownBy ((((((w.setCell ⟨b, 0, none⟩ v0).setCell ⟨b, 1, none⟩ v1).setCell ⟨b, 2, none⟩ v2).setCell ⟨b, 3, none⟩ v3).setCell ⟨b, 4, none⟩ v4).setCell ⟨b, 5, none⟩ v5) (some b) :=
  World.grownBy.trans (World.grownBy.trans (World.grownBy.trans (World.grownBy.trans (World.grownBy.trans grown_set grown_set) grown_set) grown_set) grown_set) grown_set
theorem ext_grown {w a b : World} {k : Nat} (h : Ext w a) (g : a.grownBy b (some k)) (hk : w.heap.size ≤ k) : Ext w b :=
  ⟨g.os.trans h.os, g.tape.trans h.tape, g.output.trans h.output, Nat.le_trans h.size g.size, fun j hj => (g.block j (Nat.lt_of_lt_of_le hj h.size) (by simp; omega)).trans (h.block j hj)⟩
/-- That blocks lie as they lay where one other is set. -/
theorem grown_at {a b : World} {k j : Nat} {o : Obj} (g : a.grownBy b (some k)) (h : a.heap[j]? = some o) (hn : j ≠ k) : b.heap[j]? = some o := (g.block j (Array.getElem?_eq_some_iff.1 h).1 (by simpa using hn)).trans h
theorem ext_at {a b : World} {j : Nat} {o : Obj} (e : Ext a b) (h : a.heap[j]? = some o) : b.heap[j]? = some o := (e.block j (Array.getElem?_eq_some_iff.1 h).1).trans h
abbrev zeroCells : Array Value := #[.bool false, .int .i64 0, .int .i64 0, .int .i64 0, .int .i64 0, .int .i64 0]
set_option maxHeartbeats 2000000 in
set_option maxRecDepth 20000 in
theorem bounds_any (c : Cap) (n : Int) (w : World) (hc : CapWf c) : Calls Try.prog 46 #[c.val, .int .i64 n] w (TupPost w (boundsD c n)) := by
  obtain ⟨i0, hi, hz0, hz1, hz2⟩ := info_parts infoMust
  obtain ⟨X, hX⟩ : ∃ X, X = boundsD c n := ⟨_, rfl⟩
  rw [← hX]
  unfold boundsD at hX
  obtain ⟨L, hL⟩ : ∃ L, L = usedL c ++ [(inC c c.at' n, 43)] := ⟨_, rfl⟩
  rw [← hL] at hX
  have HX := Lib.hid hX
  have HL := Lib.hid hL
  have hll : Hid (L.length ≤ 1000) := Lib.hid (by rw [hL]; exact (show (4 : Nat) ≤ 1000 by decide))
  obtain ⟨U, hU⟩ : ∃ U, U = ((w.alloc (.cells c.cells.toArray 24)).alloc (.cells #[.int .i64 n] 3)).alloc (.cells zeroCells 24) := ⟨_, rfl⟩
  have HU := Lib.hid hU
  have EU : Hid (Ext w U.drew) := Lib.hid (by rw [hU]; exact (by repeat first | (with_reducible exact Below.refl _ _) | (with_reducible apply Ext.alloc) | (with_reducible apply Ext.drew) | (with_reducible apply Ext.drewN) | (with_reducible refine Ext.set ?_ (by simp))))
  have Hbc : Hid (U.drew.heap[w.heap.size]? = some (.cells c.cells.toArray 24)) := Lib.hid (by rw [hU]; exact new_at (w := w) (by simp) (Ext.drew (Ext.alloc (Ext.alloc (Below.refl _ _) _) _)))
  have Hbn : Hid (U.drew.heap[w.heap.size + 1]? = some (.cells #[.int .i64 n] 3)) := Lib.hid (by rw [hU]; exact new_at (w := (w.alloc _)) (by simp) (Ext.drew (Ext.alloc (Below.refl _ _) _)))
  have Hbr : Hid (U.drew.heap[w.heap.size + 1 + 1]? = some (.cells zeroCells 24)) := Lib.hid (by rw [hU]; exact new_at (w := ((w.alloc _).alloc _)) (by simp) (Ext.drew (Below.refl _ _)))
  clear hX hL hU
  go_enter Try.func46, Try.ntmps46
  go_wp2_with fail
  rw [← HU.out]
  refine wp_region_res (fun x y => Ext w x → Ext w y) [⟨none, [], []⟩, ⟨none, [], []⟩, ⟨none, [], [12]⟩, ⟨some 12, [], []⟩, ⟨some 3, [(3, [])], [8]⟩, ⟨some 7, [(7, [])], [8]⟩, ⟨some 8, [(8, [])], [9]⟩] [(fun (u : Nat → Value) (W : World) => (fun (_ : Value) (W : World) => W.heap[w.heap.size]? = some (.cells c.cells.toArray 24)) (undef) W), (fun (u : Nat → Value) (W : World) => (fun (_ : Value) (W : World) => W.heap[w.heap.size + 1]? = some (.cells #[.int .i64 n] 3)) (undef) W), (fun (u : Nat → Value) (W : World) => (fun (_ : Value) (W : World) => W.heap[w.heap.size + 1 + 1]? = some (.cells zeroCells 24)) (undef) W), (fun (u : Nat → Value) (W : World) => (fun (_ : Value) (W : World) => W.heap[w.heap.size + 1 + 1]? = some (.cells X.1.cells.toArray 24)) (undef) W), (fun (u : Nat → Value) (W : World) => (OwnM w.heap.size (usedL c)) (u 3) W), (fun (u : Nat → Value) (W : World) => (NewLit 0 1 (mustCells [(inC c c.at' n, 43)]) 87) (u 7) W), (fun (u : Nat → Value) (W : World) => (OwnM w.heap.size L) (u 8) W)] [⟨[(0, []), (1, [])], [.keep, .keep, .keep, .early [0], .keep, .keep, .keep]⟩, ⟨[(0, []), (1, [])], [.keep, .keep, .keep, .early [1], .keep, .keep, .keep]⟩, ⟨[(0, []), (1, [])], [.keep, .keep, .keep, .early [2], .early [2], .early [6, 3, 2], .early [3, 2]]⟩, ⟨[(0, []), (1, [])], [.keep, .keep, .keep, .early [3], .last, .early [6, 3], .early [3]]⟩, ⟨[(0, []), (1, [])], [.keep, .keep, .keep, .early [4], .keep, .early [6, 4], .early [6, 4]]⟩, ⟨[(0, []), (1, [])], [.keep, .keep, .keep, .early [5], .keep, .early [6, 5], .early [6, 5]]⟩, ⟨[(0, []), (1, [])], [.keep, .keep, .keep, .early [6], .keep, .early [6], .early [6]]⟩, ⟨[(0, []), (1, [])], [.keep, .keep, .keep, .early [7], .keep, .last, .early [7]]⟩, ⟨[(0, []), (1, []), (4, [3]), (5, [7])], [.keep, .keep, .keep, .early [8], .late [[]], .late [[]], .last]⟩, ⟨[(0, []), (1, []), (6, [8])], [.keep, .keep, .keep, .early [9], .late [[8]], .late [[8]], .late [[]]]⟩, ⟨[(0, []), (1, [])], [.keep, .keep, .keep, .early [10], .late [[9, 8]], .late [[9, 8]], .late [[9]]]⟩, ⟨[(0, []), (1, [])], [.keep, .keep, .keep, .early [11], .late [[9, 8]], .late [[9, 8]], .late [[9]]]⟩, ⟨[(0, []), (1, []), (2, [])], [.keep, .keep, .late [[]], .last, .late [[8]], .late [[8]], .late [[9]]]⟩, ⟨[(0, []), (1, []), (3, [12])], [.keep, .keep, .late [[12]], .keep, .late [[8]], .late [[8]], .late [[9]]]⟩] [6, 7, 8, 9, 10, 11, 12, 13, 14, 15, 16, 17, 5] (by kernel_rfl) (fun _ k => k) (fun _ _ _ h k e => k (h e)) (by kernel_rfl) (by kernel_rfl) (by kernel_rfl) (by kernel_rfl) (by kernel_rfl) ?start ?_
  case start =>
    refine And.intro ?_ ?_
    · exact Hbc.out
    refine And.intro ?_ ?_
    · exact Hbn.out
    refine And.intro ?_ ?_
    · exact Hbr.out
    exact trivial
  apply ex_is; apply Exists.intro
  apply ex_is; apply Exists.intro
  apply ex_is; apply Exists.intro
  refine ex_phi (fun _ _ => True) ?_
  apply ex_is; apply Exists.intro
  apply ex_is; apply Exists.intro
  apply ex_is; apply Exists.intro
  refine ex_phi (fun _ _ => True) ?_
  refine ex_phi (fun _ _ => True) ?_
  apply ex_is; apply Exists.intro
  apply ex_is; apply Exists.intro
  apply ex_is; apply Exists.intro
  refine ex_phi (fun _ _ => True) ?_
  apply ex_is; apply Exists.intro
  refine ⟨[], ⟨?steps, ?stab, ?ends⟩⟩
  case steps =>
    refine And.intro (obX_pure (fun _ k => k) ?_) ?_
    · intro act W hR hf ho hu K hK
      replace hK := fun v h2 => hK v W rfl h2 trivial
      have G : act.tmps[2]?.getD undef = _ ∧ True := ho
      obtain ⟨g2, -⟩ := G
      have U : (fun (_ : Value) (W : World) => W.heap[w.heap.size]? = some (.cells c.cells.toArray 24)) (undef) W ∧ (fun (_ : Value) (W : World) => W.heap[w.heap.size + 1]? = some (.cells #[.int .i64 n] 3)) (undef) W ∧ True := hu
      obtain ⟨r_bc, r_bn, -⟩ := U
      clear ho hf hu
      obtain ⟨y0, y1, y2, y3, y4, y5⟩ := lie6' r_bc (Below.refl _ W)
      go_simp
      exact hK _ (Eq.refl _)
    refine And.intro (obX_pure (fun _ k => k) ?_) ?_
    · intro act W hR hf ho hu K hK
      replace hK := fun v h2 => hK v W rfl h2 trivial
      have G : act.tmps[3]?.getD undef = _ ∧ True := ho
      obtain ⟨g3, -⟩ := G
      have U : (fun (_ : Value) (W : World) => W.heap[w.heap.size]? = some (.cells c.cells.toArray 24)) (undef) W ∧ (fun (_ : Value) (W : World) => W.heap[w.heap.size + 1]? = some (.cells #[.int .i64 n] 3)) (undef) W ∧ True := hu
      obtain ⟨r_bc, r_bn, -⟩ := U
      clear ho hf hu
      go_simp
      exact hK _ (Eq.refl _)
    refine And.intro (obX_pure (fun _ k => k) ?_) ?_
    · intro act W hR hf ho hu K hK
      replace hK := fun v h2 => hK v W rfl h2 trivial
      have G : act.tmps[2]?.getD undef = _ ∧ True := ho
      obtain ⟨g2, -⟩ := G
      have U : (fun (_ : Value) (W : World) => W.heap[w.heap.size]? = some (.cells c.cells.toArray 24)) (undef) W ∧ (fun (_ : Value) (W : World) => W.heap[w.heap.size + 1]? = some (.cells #[.int .i64 n] 3)) (undef) W ∧ True := hu
      obtain ⟨r_bc, r_bn, -⟩ := U
      clear ho hf hu
      obtain ⟨y0, y1, y2, y3, y4, y5⟩ := lie6' r_bc (Below.refl _ W)
      go_simp
      exact hK _ (Eq.refl _)
    refine And.intro (obX_eff (Ext) (fun _ _ h k => k.then h) (And.intro (fun _ _ _ h e => ext_at e h) (And.intro (fun _ _ _ h e => ext_at e h) (And.intro (fun _ _ _ h e => ext_at e h) (trivial)))) ?_) ?_
    · intro act W hR hf ho hu K hK
      replace hK := fun v (w' : World) (h1 : (Ext) W w') (b4 : (OwnM w.heap.size (usedL c)) (v) w') => hK v w' h1 trivial ⟨b4, trivial⟩
      have F : act.tmps[8]?.getD undef = _ ∧ True := hf
      obtain ⟨f2, -⟩ := F
      have U : (fun (_ : Value) (W : World) => W.heap[w.heap.size]? = some (.cells c.cells.toArray 24)) (undef) W ∧ (fun (_ : Value) (W : World) => W.heap[w.heap.size + 1]? = some (.cells #[.int .i64 n] 3)) (undef) W ∧ True := hu
      obtain ⟨r_bc, r_bn, -⟩ := U
      clear ho hf hu
      go_simp
      refine (used_any c _ hc).mono ?_; rintro _ W1 ⟨v, rfl, ho, hE⟩; exact hK _ _ hE (ho.low (Nat.le_trans (hR EU.out).size (Nat.le_refl _)))
    refine And.intro (obX_pure (fun _ k => k) ?_) ?_
    · intro act W hR hf ho hu K hK
      replace hK := fun v h2 => hK v W rfl h2 trivial
      have G : act.tmps[2]?.getD undef = _ ∧ True := ho
      obtain ⟨g2, -⟩ := G
      have U : (fun (_ : Value) (W : World) => W.heap[w.heap.size]? = some (.cells c.cells.toArray 24)) (undef) W ∧ (fun (_ : Value) (W : World) => W.heap[w.heap.size + 1]? = some (.cells #[.int .i64 n] 3)) (undef) W ∧ True := hu
      obtain ⟨r_bc, r_bn, -⟩ := U
      clear ho hf hu
      obtain ⟨y0, y1, y2, y3, y4, y5⟩ := lie6' r_bc (Below.refl _ W)
      go_simp
      exact hK _ (Eq.refl _)
    refine And.intro (obX_pure (fun _ k => k) ?_) ?_
    · intro act W hR hf ho hu K hK
      replace hK := fun v h2 => hK v W rfl h2 trivial
      have G : act.tmps[3]?.getD undef = _ ∧ True := ho
      obtain ⟨g3, -⟩ := G
      have U : (fun (_ : Value) (W : World) => W.heap[w.heap.size]? = some (.cells c.cells.toArray 24)) (undef) W ∧ (fun (_ : Value) (W : World) => W.heap[w.heap.size + 1]? = some (.cells #[.int .i64 n] 3)) (undef) W ∧ True := hu
      obtain ⟨r_bc, r_bn, -⟩ := U
      clear ho hf hu
      have x0 := cellAt r_bn 0 (.int .i64 n) rfl
      go_simp
      exact hK _ (Eq.refl _)
    refine And.intro (obX_eff (Ext) (fun _ _ h k => k.then h) (And.intro (fun _ _ _ h e => ext_at e h) (And.intro (fun _ _ _ h e => ext_at e h) (And.intro (fun _ _ _ h e => ext_at e h) (And.intro (fun _ _ _ h e => h.ext e) (trivial))))) ?_) ?_
    · intro act W hR hf ho hu K hK
      replace hK := fun v (w' : World) (h1 : (Ext) W w') h2 => hK v w' h1 h2 trivial
      have F : act.tmps[10]?.getD undef = _ ∧ act.tmps[11]?.getD undef = _ ∧ (fun _ _ => True) (act.tmps[9]?.getD undef) W ∧ True := hf
      obtain ⟨f4, f5, -, -⟩ := F
      have U : (fun (_ : Value) (W : World) => W.heap[w.heap.size]? = some (.cells c.cells.toArray 24)) (undef) W ∧ (fun (_ : Value) (W : World) => W.heap[w.heap.size + 1]? = some (.cells #[.int .i64 n] 3)) (undef) W ∧ True := hu
      obtain ⟨r_bc, r_bn, -⟩ := U
      generalize f3 : act.tmps[9]?.getD undef = v3
      clear ho hf hu
      go_simp
      refine (spans_must c n _ hc).mono ?_; rintro _ W1 ⟨rfl, hE⟩; exact hK _ _ hE (Eq.refl _)
    refine And.intro (obX_eff (Ext) (fun _ _ h k => k.then h) (And.intro (fun _ _ _ h e => ext_at e h) (And.intro (fun _ _ _ h e => ext_at e h) (And.intro (fun _ _ _ h e => ext_at e h) (And.intro (fun _ _ _ h e => h.ext e) (trivial))))) ?_) ?_
    · intro act W hR hf ho hu K hK
      replace hK := fun v (w' : World) (h1 : (Ext) W w') (b5 : (NewLit 0 1 (mustCells [(inC c c.at' n, 43)]) 87) (v) w') => hK v w' h1 trivial ⟨b5, trivial⟩
      have F : act.tmps[12]?.getD undef = _ ∧ True := hf
      obtain ⟨f6, -⟩ := F
      have U : (fun (_ : Value) (W : World) => W.heap[w.heap.size]? = some (.cells c.cells.toArray 24)) (undef) W ∧ (fun (_ : Value) (W : World) => W.heap[w.heap.size + 1]? = some (.cells #[.int .i64 n] 3)) (undef) W ∧ True := hu
      obtain ⟨r_bc, r_bn, -⟩ := U
      clear ho hf hu
      go_simp
      exact hK _ _ (by repeat first | (with_reducible exact Below.refl _ _) | (with_reducible apply Ext.alloc) | (with_reducible apply Ext.drew) | (with_reducible apply Ext.drewN) | (with_reducible refine Ext.set ?_ (by simp))) (NewLit.new (Nat.zero_le _))
    refine And.intro (obX_eff (Only w.heap.size [87]) (fun _ _ h k => Only.below k (Nat.le_refl _) h) (And.intro (fun _ _ _ h e => e.row h (by decide)) (And.intro (fun _ _ _ h e => e.row h (by decide)) (And.intro (fun _ _ _ h e => e.row h (by decide)) (trivial)))) ?_) ?_
    · intro act W hR hf ho hu K hK
      replace hK := fun v (w' : World) (h1 : (Only w.heap.size [87]) W w') (b6 : (OwnM w.heap.size L) (v) w') => hK v w' h1 trivial ⟨b6, trivial⟩
      have F : (fun _ _ => True) (act.tmps[9]?.getD undef) W ∧ (fun _ _ => True) (act.tmps[13]?.getD undef) W ∧ act.tmps[12]?.getD undef = _ ∧ True := hf
      obtain ⟨-, -, f6, -⟩ := F
      have U : (fun (_ : Value) (W : World) => W.heap[w.heap.size]? = some (.cells c.cells.toArray 24)) (undef) W ∧ (fun (_ : Value) (W : World) => W.heap[w.heap.size + 1]? = some (.cells #[.int .i64 n] 3)) (undef) W ∧ (OwnM w.heap.size (usedL c)) (act.tmps[9]?.getD undef) W ∧ (NewLit 0 1 (mustCells [(inC c c.at' n, 43)]) 87) (act.tmps[13]?.getD undef) W ∧ True := hu
      obtain ⟨r_bc, r_bn, r_r3, r_n7, -⟩ := U
      generalize f3 : act.tmps[9]?.getD undef = v3 at r_r3
      generalize f7 : act.tmps[13]?.getD undef = v7 at r_n7
      clear ho hf hu
      obtain ⟨b3, rfl, -, hl3⟩ := r_n7
      dsimp only [Option.elim] at f6
      rw [← seen_eq]; refine step_append_src W rfl (.tmp 9) (.tmp 13) 84 rfl w.heap.size 87 i0 (.agg #[.bool false, .int .i64 0]) 2 16 Try.underlying84 hi hz0 hz1 hz2 rfl (by decide) _ _ _ (eval_get f3) r_r3 _ 1 (mustCells [(inC c c.at' n, 43)]) (eval_get f7) (lies_lit hl3) rfl (mustCells_one _) (by show (3 + 1 : Nat) ≤ maxLen; unfold maxLen; omega) (by show (3 + 1) * 16 ≤ 140737488355328; omega) (hR EU.out).size ?_; intro v' w' ho' hg' _; exact hK _ _ (Only.grown r_r3 hg' (by simp)) (HL.out ▸ OwnM.app ho' rfl rfl)
    refine And.intro (obX_eff (Ext) (fun _ _ h k => k.then h) (And.intro (fun _ _ _ h e => ext_at e h) (And.intro (fun _ _ _ h e => ext_at e h) (And.intro (fun _ _ _ h e => ext_at e h) (trivial)))) ?_) ?_
    · intro act W hR hf ho hu K hK
      replace hK := fun v (w' : World) (h1 : (Ext) W w') h2 => hK v w' h1 h2 trivial
      have F : act.tmps[6]?.getD undef = _ ∧ act.tmps[7]?.getD undef = _ ∧ (fun _ _ => True) (act.tmps[14]?.getD undef) W ∧ (fun _ _ => True) (act.tmps[14]?.getD undef) W ∧ True := hf
      obtain ⟨f0, f1, -, -, -⟩ := F
      have U : (fun (_ : Value) (W : World) => W.heap[w.heap.size]? = some (.cells c.cells.toArray 24)) (undef) W ∧ (fun (_ : Value) (W : World) => W.heap[w.heap.size + 1]? = some (.cells #[.int .i64 n] 3)) (undef) W ∧ (OwnM w.heap.size L) (act.tmps[14]?.getD undef) W ∧ True := hu
      obtain ⟨r_bc, r_bn, r_r8, -⟩ := U
      generalize f8 : act.tmps[14]?.getD undef = v8 at r_r8
      clear ho hf hu
      obtain ⟨A8, c8, rfl, -, ha8⟩ := Arr.own r_r8
      go_simp
      refine (made_any (boundsF n) 70 #[.pointer (some ⟨w.heap.size + 1, 0, none⟩)] c A8 c8 L _ ha8 hll.out (enters_of Try.func70 (by kernel_rfl) rfl) (fun W' b hE' hb' h' => bounds1_any n c b _ W' h' (ext_at hE' r_bn))).mono ?_; rintro _ W1 ⟨rfl, hE⟩; rw [← HX.out]; exact hK _ _ hE (Eq.refl _)
    refine And.intro (obX_pure (fun _ k => k) ?_) ?_
    · intro act W hR hf ho hu K hK
      replace hK := fun v h2 => hK v W rfl h2 trivial
      have F : act.tmps[15]?.getD undef = _ ∧ True := hf
      obtain ⟨f9, -⟩ := F
      have U : (fun (_ : Value) (W : World) => W.heap[w.heap.size]? = some (.cells c.cells.toArray 24)) (undef) W ∧ (fun (_ : Value) (W : World) => W.heap[w.heap.size + 1]? = some (.cells #[.int .i64 n] 3)) (undef) W ∧ True := hu
      obtain ⟨r_bc, r_bn, -⟩ := U
      clear ho hf hu
      go_simp
      exact hK _ (Eq.refl _)
    refine And.intro (obX_pure (fun _ k => k) ?_) ?_
    · intro act W hR hf ho hu K hK
      replace hK := fun v h2 => hK v W rfl h2 trivial
      have F : act.tmps[15]?.getD undef = _ ∧ True := hf
      obtain ⟨f9, -⟩ := F
      have U : (fun (_ : Value) (W : World) => W.heap[w.heap.size]? = some (.cells c.cells.toArray 24)) (undef) W ∧ (fun (_ : Value) (W : World) => W.heap[w.heap.size + 1]? = some (.cells #[.int .i64 n] 3)) (undef) W ∧ True := hu
      obtain ⟨r_bc, r_bn, -⟩ := U
      clear ho hf hu
      go_simp
      exact hK _ (Eq.refl _)
    refine And.intro (obX_eff (fun x y => World.grownBy x y (some (w.heap.size + 1 + 1))) (fun _ _ h k => ext_grown k h (by omega)) (And.intro (fun _ _ _ h e => grown_at e h (by omega)) (And.intro (fun _ _ _ h e => grown_at e h (by omega)) (trivial))) ?_) ?_
    · intro act W hR hf ho hu K hK
      replace hK := fun (w' : World) (h1 : (fun x y => World.grownBy x y (some (w.heap.size + 1 + 1))) W w') (b3 : (fun (_ : Value) (W : World) => W.heap[w.heap.size + 1 + 1]? = some (.cells X.1.cells.toArray 24)) (undef) w') => hK undef w' h1 trivial ⟨b3, trivial⟩
      have G : act.tmps[4]?.getD undef = _ ∧ True := ho
      obtain ⟨g4, -⟩ := G
      have F : act.tmps[16]?.getD undef = _ ∧ act.tmps[15]?.getD undef = _ ∧ act.tmps[6]?.getD undef = _ ∧ act.tmps[7]?.getD undef = _ ∧ act.tmps[8]?.getD undef = _ ∧ (fun _ _ => True) (act.tmps[9]?.getD undef) W ∧ act.tmps[10]?.getD undef = _ ∧ act.tmps[11]?.getD undef = _ ∧ act.tmps[12]?.getD undef = _ ∧ (fun _ _ => True) (act.tmps[13]?.getD undef) W ∧ (fun _ _ => True) (act.tmps[14]?.getD undef) W ∧ act.tmps[15]?.getD undef = _ ∧ act.tmps[16]?.getD undef = _ ∧ act.tmps[17]?.getD undef = _ ∧ True := hf
      obtain ⟨f10, f9, f0, f1, f2, -, f4, f5, f6, -, -, -, -, f11, -⟩ := F
      have U : (fun (_ : Value) (W : World) => W.heap[w.heap.size]? = some (.cells c.cells.toArray 24)) (undef) W ∧ (fun (_ : Value) (W : World) => W.heap[w.heap.size + 1]? = some (.cells #[.int .i64 n] 3)) (undef) W ∧ (fun (_ : Value) (W : World) => W.heap[w.heap.size + 1 + 1]? = some (.cells zeroCells 24)) (undef) W ∧ True := hu
      obtain ⟨r_bc, r_bn, r_br, -⟩ := U
      generalize f3 : act.tmps[9]?.getD undef = v3
      generalize f7 : act.tmps[13]?.getD undef = v7
      generalize f8 : act.tmps[14]?.getD undef = v8
      clear ho hf hu
      have fz := frozen_row' r_br; obtain ⟨q0, q1, q2, q3, q4, q5⟩ := lie6' r_br (Below.refl _ _); have hlq := cell_lt q0; simp only at hlq; have hq := set_cells6 r_br (.bool X.1.tag) (.int .i64 X.1.base) (.int .i64 X.1.top) (.int .i64 X.1.at') (.int .i64 X.1.perms) (.int .i64 X.1.ty)
      go_simp
      exact hK _ grown_set6 hq
    refine And.intro (obX_pure (fun _ k => k) ?_) ?_
    · intro act W hR hf ho hu K hK
      replace hK := fun v h2 => hK v W rfl h2 trivial
      have F : act.tmps[17]?.getD undef = _ ∧ (fun _ _ => True) (undef) W ∧ act.tmps[6]?.getD undef = _ ∧ act.tmps[7]?.getD undef = _ ∧ act.tmps[8]?.getD undef = _ ∧ (fun _ _ => True) (act.tmps[9]?.getD undef) W ∧ act.tmps[10]?.getD undef = _ ∧ act.tmps[11]?.getD undef = _ ∧ act.tmps[12]?.getD undef = _ ∧ (fun _ _ => True) (act.tmps[13]?.getD undef) W ∧ (fun _ _ => True) (act.tmps[14]?.getD undef) W ∧ act.tmps[15]?.getD undef = _ ∧ act.tmps[16]?.getD undef = _ ∧ act.tmps[17]?.getD undef = _ ∧ (fun _ _ => True) (undef) W ∧ True := hf
      obtain ⟨f11, -, f0, f1, f2, -, f4, f5, f6, -, -, f9, f10, -, -, -⟩ := F
      have U : (fun (_ : Value) (W : World) => W.heap[w.heap.size]? = some (.cells c.cells.toArray 24)) (undef) W ∧ (fun (_ : Value) (W : World) => W.heap[w.heap.size + 1]? = some (.cells #[.int .i64 n] 3)) (undef) W ∧ (fun (_ : Value) (W : World) => W.heap[w.heap.size + 1 + 1]? = some (.cells X.1.cells.toArray 24)) (undef) W ∧ True := hu
      obtain ⟨r_bc, r_bn, r_out, -⟩ := U
      generalize f3 : act.tmps[9]?.getD undef = v3
      generalize f7 : act.tmps[13]?.getD undef = v7
      generalize f8 : act.tmps[14]?.getD undef = v8
      clear ho hf hu
      go_simp
      exact hK _ (Eq.refl _)
    exact trivial
  case stab =>
    refine And.intro is_stable ?_
    refine And.intro is_stable ?_
    refine And.intro is_stable ?_
    refine And.intro (fun _ _ _ h _ => h) ?_
    refine And.intro is_stable ?_
    refine And.intro is_stable ?_
    refine And.intro is_stable ?_
    refine And.intro (fun _ _ _ h _ => h) ?_
    refine And.intro (fun _ _ _ h _ => h) ?_
    refine And.intro is_stable ?_
    refine And.intro is_stable ?_
    refine And.intro is_stable ?_
    refine And.intro (fun _ _ _ h _ => h) ?_
    refine And.intro is_stable ?_
    exact trivial
  case ends =>
    intro vals W hR hE hall
    have E : (fun (_ : Value) (W : World) => W.heap[w.heap.size]? = some (.cells c.cells.toArray 24)) (undef) W ∧ (fun (_ : Value) (W : World) => W.heap[w.heap.size + 1]? = some (.cells #[.int .i64 n] 3)) (undef) W ∧ (fun (_ : Value) (W : World) => W.heap[w.heap.size + 1 + 1]? = some (.cells X.1.cells.toArray 24)) (undef) W ∧ True := hE
    obtain ⟨e_bc, e_bn, e_out, -⟩ := E
    clear hE
    have e5 : vals 5 = _ := hall 13 (by decide)
    clear hall
    simp only [fill, List.setIfInBounds_toArray, List.set_cons_succ, List.set_cons_zero, e5]
    obtain ⟨c0, c1, c2, c3, c4, c5⟩ := lie6' e_out (Below.refl _ _)
    go_wp2_with fail
    exact bodyPost_ret (v := .tuple #[X.1.val, .int .i64 X.2]) (by simp [results, Try.results46, go_sem, c0, c1, c2, c3, c4, c5]) rfl ⟨rfl, (by repeat first | (with_reducible exact Below.refl _ _) | (with_reducible apply Ext.alloc) | (with_reducible apply Ext.drew) | (with_reducible apply Ext.drewN) | (with_reducible refine Ext.set ?_ (by simp)) | (with_reducible refine Ext.then ?_ (hR EU.out)))⟩
set_option maxHeartbeats 2000000 in
set_option maxRecDepth 20000 in
theorem perms_any (c : Cap) (n : Int) (w : World) (hc : CapWf c) (hn : i64ok' n) : Calls Try.prog 47 #[c.val, .int .i64 n] w (TupPost w (permsD c n)) := by
  obtain ⟨i0, hi, hz0, hz1, hz2⟩ := info_parts infoMust
  obtain ⟨X, hX⟩ : ∃ X, X = permsD c n := ⟨_, rfl⟩
  rw [← hX]
  unfold permsD at hX
  obtain ⟨L, hL⟩ : ∃ L, L = usedL c ++ [(permB n, 1)] := ⟨_, rfl⟩
  rw [← hL] at hX
  have HX := Lib.hid hX
  have HL := Lib.hid hL
  have hll : Hid (L.length ≤ 1000) := Lib.hid (by rw [hL]; exact (show (4 : Nat) ≤ 1000 by decide))
  obtain ⟨U, hU⟩ : ∃ U, U = ((w.alloc (.cells c.cells.toArray 24)).alloc (.cells #[.int .i64 n] 3)).alloc (.cells zeroCells 24) := ⟨_, rfl⟩
  have HU := Lib.hid hU
  have EU : Hid (Ext w U.drew) := Lib.hid (by rw [hU]; exact (by repeat first | (with_reducible exact Below.refl _ _) | (with_reducible apply Ext.alloc) | (with_reducible apply Ext.drew) | (with_reducible apply Ext.drewN) | (with_reducible refine Ext.set ?_ (by simp))))
  have Hbc : Hid (U.drew.heap[w.heap.size]? = some (.cells c.cells.toArray 24)) := Lib.hid (by rw [hU]; exact new_at (w := w) (by simp) (Ext.drew (Ext.alloc (Ext.alloc (Below.refl _ _) _) _)))
  have Hbn : Hid (U.drew.heap[w.heap.size + 1]? = some (.cells #[.int .i64 n] 3)) := Lib.hid (by rw [hU]; exact new_at (w := (w.alloc _)) (by simp) (Ext.drew (Ext.alloc (Below.refl _ _) _)))
  have Hbr : Hid (U.drew.heap[w.heap.size + 1 + 1]? = some (.cells zeroCells 24)) := Lib.hid (by rw [hU]; exact new_at (w := ((w.alloc _).alloc _)) (by simp) (Ext.drew (Below.refl _ _)))
  clear hX hL hU
  go_enter Try.func47, Try.ntmps47
  go_wp2_with fail
  rw [← HU.out]
  refine wp_region_res (fun x y => Ext w x → Ext w y) [⟨none, [], []⟩, ⟨none, [], []⟩, ⟨none, [], [12]⟩, ⟨some 12, [], []⟩, ⟨some 3, [(3, [])], [8]⟩, ⟨some 7, [(7, [])], [8]⟩, ⟨some 8, [(8, [])], [9]⟩] [(fun (u : Nat → Value) (W : World) => (fun (_ : Value) (W : World) => W.heap[w.heap.size]? = some (.cells c.cells.toArray 24)) (undef) W), (fun (u : Nat → Value) (W : World) => (fun (_ : Value) (W : World) => W.heap[w.heap.size + 1]? = some (.cells #[.int .i64 n] 3)) (undef) W), (fun (u : Nat → Value) (W : World) => (fun (_ : Value) (W : World) => W.heap[w.heap.size + 1 + 1]? = some (.cells zeroCells 24)) (undef) W), (fun (u : Nat → Value) (W : World) => (fun (_ : Value) (W : World) => W.heap[w.heap.size + 1 + 1]? = some (.cells X.1.cells.toArray 24)) (undef) W), (fun (u : Nat → Value) (W : World) => (OwnM w.heap.size (usedL c)) (u 3) W), (fun (u : Nat → Value) (W : World) => (NewLit 0 1 (mustCells [(permB n, 1)]) 87) (u 7) W), (fun (u : Nat → Value) (W : World) => (OwnM w.heap.size L) (u 8) W)] [⟨[(0, []), (1, [])], [.keep, .keep, .keep, .early [0], .keep, .keep, .keep]⟩, ⟨[(0, []), (1, [])], [.keep, .keep, .keep, .early [1], .keep, .keep, .keep]⟩, ⟨[(0, []), (1, [])], [.keep, .keep, .keep, .early [2], .early [2], .early [6, 5, 3, 2], .early [3, 2]]⟩, ⟨[(0, []), (1, [])], [.keep, .keep, .keep, .early [3], .last, .early [6, 5, 3], .early [3]]⟩, ⟨[(0, []), (1, [])], [.keep, .keep, .keep, .early [4], .keep, .early [6, 5, 4], .early [5, 4]]⟩, ⟨[(0, []), (1, [])], [.keep, .keep, .keep, .early [5], .keep, .early [6, 5], .early [5]]⟩, ⟨[(0, []), (1, [])], [.keep, .keep, .keep, .early [6], .keep, .early [6], .early [7, 6]]⟩, ⟨[(0, []), (1, [])], [.keep, .keep, .keep, .early [7], .keep, .last, .early [7]]⟩, ⟨[(0, []), (1, []), (4, [3]), (5, [7])], [.keep, .keep, .keep, .early [8], .late [[]], .late [[]], .last]⟩, ⟨[(0, []), (1, []), (6, [8])], [.keep, .keep, .keep, .early [9], .late [[8]], .late [[8]], .late [[]]]⟩, ⟨[(0, []), (1, [])], [.keep, .keep, .keep, .early [10], .late [[9, 8]], .late [[9, 8]], .late [[9]]]⟩, ⟨[(0, []), (1, [])], [.keep, .keep, .keep, .early [11], .late [[9, 8]], .late [[9, 8]], .late [[9]]]⟩, ⟨[(0, []), (1, []), (2, [])], [.keep, .keep, .late [[]], .last, .late [[8]], .late [[8]], .late [[9]]]⟩, ⟨[(0, []), (1, []), (3, [12])], [.keep, .keep, .late [[12]], .keep, .late [[8]], .late [[8]], .late [[9]]]⟩] [6, 7, 8, 9, 10, 11, 12, 13, 14, 15, 16, 17, 5] (by kernel_rfl) (fun _ k => k) (fun _ _ _ h k e => k (h e)) (by kernel_rfl) (by kernel_rfl) (by kernel_rfl) (by kernel_rfl) (by kernel_rfl) ?start ?_
  case start =>
    refine And.intro ?_ ?_
    · exact Hbc.out
    refine And.intro ?_ ?_
    · exact Hbn.out
    refine And.intro ?_ ?_
    · exact Hbr.out
    exact trivial
  apply ex_is; apply Exists.intro
  apply ex_is; apply Exists.intro
  apply ex_is; apply Exists.intro
  refine ex_phi (fun _ _ => True) ?_
  apply ex_is; apply Exists.intro
  apply ex_is; apply Exists.intro
  apply ex_is; apply Exists.intro
  refine ex_phi (fun _ _ => True) ?_
  refine ex_phi (fun _ _ => True) ?_
  apply ex_is; apply Exists.intro
  apply ex_is; apply Exists.intro
  apply ex_is; apply Exists.intro
  refine ex_phi (fun _ _ => True) ?_
  apply ex_is; apply Exists.intro
  refine ⟨[], ⟨?steps, ?stab, ?ends⟩⟩
  case steps =>
    refine And.intro (obX_pure (fun _ k => k) ?_) ?_
    · intro act W hR hf ho hu K hK
      replace hK := fun v h2 => hK v W rfl h2 trivial
      have G : act.tmps[2]?.getD undef = _ ∧ True := ho
      obtain ⟨g2, -⟩ := G
      have U : (fun (_ : Value) (W : World) => W.heap[w.heap.size]? = some (.cells c.cells.toArray 24)) (undef) W ∧ (fun (_ : Value) (W : World) => W.heap[w.heap.size + 1]? = some (.cells #[.int .i64 n] 3)) (undef) W ∧ True := hu
      obtain ⟨r_bc, r_bn, -⟩ := U
      clear ho hf hu
      obtain ⟨y0, y1, y2, y3, y4, y5⟩ := lie6' r_bc (Below.refl _ W)
      go_simp
      exact hK _ (Eq.refl _)
    refine And.intro (obX_pure (fun _ k => k) ?_) ?_
    · intro act W hR hf ho hu K hK
      replace hK := fun v h2 => hK v W rfl h2 trivial
      have G : act.tmps[3]?.getD undef = _ ∧ True := ho
      obtain ⟨g3, -⟩ := G
      have U : (fun (_ : Value) (W : World) => W.heap[w.heap.size]? = some (.cells c.cells.toArray 24)) (undef) W ∧ (fun (_ : Value) (W : World) => W.heap[w.heap.size + 1]? = some (.cells #[.int .i64 n] 3)) (undef) W ∧ True := hu
      obtain ⟨r_bc, r_bn, -⟩ := U
      clear ho hf hu
      go_simp
      exact hK _ (Eq.refl _)
    refine And.intro (obX_pure (fun _ k => k) ?_) ?_
    · intro act W hR hf ho hu K hK
      replace hK := fun v h2 => hK v W rfl h2 trivial
      have G : act.tmps[2]?.getD undef = _ ∧ True := ho
      obtain ⟨g2, -⟩ := G
      have U : (fun (_ : Value) (W : World) => W.heap[w.heap.size]? = some (.cells c.cells.toArray 24)) (undef) W ∧ (fun (_ : Value) (W : World) => W.heap[w.heap.size + 1]? = some (.cells #[.int .i64 n] 3)) (undef) W ∧ True := hu
      obtain ⟨r_bc, r_bn, -⟩ := U
      clear ho hf hu
      obtain ⟨y0, y1, y2, y3, y4, y5⟩ := lie6' r_bc (Below.refl _ W)
      go_simp
      exact hK _ (Eq.refl _)
    refine And.intro (obX_eff (Ext) (fun _ _ h k => k.then h) (And.intro (fun _ _ _ h e => ext_at e h) (And.intro (fun _ _ _ h e => ext_at e h) (And.intro (fun _ _ _ h e => ext_at e h) (trivial)))) ?_) ?_
    · intro act W hR hf ho hu K hK
      replace hK := fun v (w' : World) (h1 : (Ext) W w') (b4 : (OwnM w.heap.size (usedL c)) (v) w') => hK v w' h1 trivial ⟨b4, trivial⟩
      have F : act.tmps[8]?.getD undef = _ ∧ True := hf
      obtain ⟨f2, -⟩ := F
      have U : (fun (_ : Value) (W : World) => W.heap[w.heap.size]? = some (.cells c.cells.toArray 24)) (undef) W ∧ (fun (_ : Value) (W : World) => W.heap[w.heap.size + 1]? = some (.cells #[.int .i64 n] 3)) (undef) W ∧ True := hu
      obtain ⟨r_bc, r_bn, -⟩ := U
      clear ho hf hu
      go_simp
      refine (used_any c _ hc).mono ?_; rintro _ W1 ⟨v, rfl, ho, hE⟩; exact hK _ _ hE (ho.low (Nat.le_trans (hR EU.out).size (Nat.le_refl _)))
    refine And.intro (obX_pure (fun _ k => k) ?_) ?_
    · intro act W hR hf ho hu K hK
      replace hK := fun v h2 => hK v W rfl h2 trivial
      have G : act.tmps[3]?.getD undef = _ ∧ True := ho
      obtain ⟨g3, -⟩ := G
      have U : (fun (_ : Value) (W : World) => W.heap[w.heap.size]? = some (.cells c.cells.toArray 24)) (undef) W ∧ (fun (_ : Value) (W : World) => W.heap[w.heap.size + 1]? = some (.cells #[.int .i64 n] 3)) (undef) W ∧ True := hu
      obtain ⟨r_bc, r_bn, -⟩ := U
      clear ho hf hu
      have x0 := cellAt r_bn 0 (.int .i64 n) rfl
      go_simp
      exact hK _ (Eq.refl _)
    refine And.intro (obX_eff (Ext) (fun _ _ h k => k.then h) (And.intro (fun _ _ _ h e => ext_at e h) (And.intro (fun _ _ _ h e => ext_at e h) (And.intro (fun _ _ _ h e => ext_at e h) (And.intro (fun _ _ _ h e => h.ext e) (trivial))))) ?_) ?_
    · intro act W hR hf ho hu K hK
      replace hK := fun v (w' : World) (h1 : (Ext) W w') h2 => hK v w' h1 h2 trivial
      have F : act.tmps[10]?.getD undef = _ ∧ (fun _ _ => True) (act.tmps[9]?.getD undef) W ∧ True := hf
      obtain ⟨f4, -, -⟩ := F
      have U : (fun (_ : Value) (W : World) => W.heap[w.heap.size]? = some (.cells c.cells.toArray 24)) (undef) W ∧ (fun (_ : Value) (W : World) => W.heap[w.heap.size + 1]? = some (.cells #[.int .i64 n] 3)) (undef) W ∧ True := hu
      obtain ⟨r_bc, r_bn, -⟩ := U
      generalize f3 : act.tmps[9]?.getD undef = v3
      clear ho hf hu
      go_simp
      refine (permR_any n _ hn).mono ?_; rintro _ W1 ⟨rfl, hE⟩; exact hK _ _ hE (Eq.refl _)
    refine And.intro (obX_pure (fun _ k => k) ?_) ?_
    · intro act W hR hf ho hu K hK
      replace hK := fun v h2 => hK v W rfl h2 trivial
      have F : act.tmps[11]?.getD undef = _ ∧ True := hf
      obtain ⟨f5, -⟩ := F
      have U : (fun (_ : Value) (W : World) => W.heap[w.heap.size]? = some (.cells c.cells.toArray 24)) (undef) W ∧ (fun (_ : Value) (W : World) => W.heap[w.heap.size + 1]? = some (.cells #[.int .i64 n] 3)) (undef) W ∧ True := hu
      obtain ⟨r_bc, r_bn, -⟩ := U
      clear ho hf hu
      go_simp
      exact hK _ (Eq.refl _)
    refine And.intro (obX_eff (Ext) (fun _ _ h k => k.then h) (And.intro (fun _ _ _ h e => ext_at e h) (And.intro (fun _ _ _ h e => ext_at e h) (And.intro (fun _ _ _ h e => ext_at e h) (And.intro (fun _ _ _ h e => h.ext e) (trivial))))) ?_) ?_
    · intro act W hR hf ho hu K hK
      replace hK := fun v (w' : World) (h1 : (Ext) W w') (b5 : (NewLit 0 1 (mustCells [(permB n, 1)]) 87) (v) w') => hK v w' h1 trivial ⟨b5, trivial⟩
      have F : act.tmps[12]?.getD undef = _ ∧ True := hf
      obtain ⟨f6, -⟩ := F
      have U : (fun (_ : Value) (W : World) => W.heap[w.heap.size]? = some (.cells c.cells.toArray 24)) (undef) W ∧ (fun (_ : Value) (W : World) => W.heap[w.heap.size + 1]? = some (.cells #[.int .i64 n] 3)) (undef) W ∧ True := hu
      obtain ⟨r_bc, r_bn, -⟩ := U
      clear ho hf hu
      go_simp
      exact hK _ _ (by repeat first | (with_reducible exact Below.refl _ _) | (with_reducible apply Ext.alloc) | (with_reducible apply Ext.drew) | (with_reducible apply Ext.drewN) | (with_reducible refine Ext.set ?_ (by simp))) (NewLit.new (Nat.zero_le _))
    refine And.intro (obX_eff (Only w.heap.size [87]) (fun _ _ h k => Only.below k (Nat.le_refl _) h) (And.intro (fun _ _ _ h e => e.row h (by decide)) (And.intro (fun _ _ _ h e => e.row h (by decide)) (And.intro (fun _ _ _ h e => e.row h (by decide)) (trivial)))) ?_) ?_
    · intro act W hR hf ho hu K hK
      replace hK := fun v (w' : World) (h1 : (Only w.heap.size [87]) W w') (b6 : (OwnM w.heap.size L) (v) w') => hK v w' h1 trivial ⟨b6, trivial⟩
      have F : (fun _ _ => True) (act.tmps[9]?.getD undef) W ∧ (fun _ _ => True) (act.tmps[13]?.getD undef) W ∧ act.tmps[11]?.getD undef = _ ∧ True := hf
      obtain ⟨-, -, f5, -⟩ := F
      have U : (fun (_ : Value) (W : World) => W.heap[w.heap.size]? = some (.cells c.cells.toArray 24)) (undef) W ∧ (fun (_ : Value) (W : World) => W.heap[w.heap.size + 1]? = some (.cells #[.int .i64 n] 3)) (undef) W ∧ (OwnM w.heap.size (usedL c)) (act.tmps[9]?.getD undef) W ∧ (NewLit 0 1 (mustCells [(permB n, 1)]) 87) (act.tmps[13]?.getD undef) W ∧ True := hu
      obtain ⟨r_bc, r_bn, r_r3, r_n7, -⟩ := U
      generalize f3 : act.tmps[9]?.getD undef = v3 at r_r3
      generalize f7 : act.tmps[13]?.getD undef = v7 at r_n7
      clear ho hf hu
      obtain ⟨b3, rfl, -, hl3⟩ := r_n7
      dsimp only [Option.elim] at f5
      rw [← seen_eq]; refine step_append_src W rfl (.tmp 9) (.tmp 13) 84 rfl w.heap.size 87 i0 (.agg #[.bool false, .int .i64 0]) 2 16 Try.underlying84 hi hz0 hz1 hz2 rfl (by decide) _ _ _ (eval_get f3) r_r3 _ 1 (mustCells [(permB n, 1)]) (eval_get f7) (lies_lit hl3) rfl (mustCells_one _) (by show (3 + 1 : Nat) ≤ maxLen; unfold maxLen; omega) (by show (3 + 1) * 16 ≤ 140737488355328; omega) (hR EU.out).size ?_; intro v' w' ho' hg' _; exact hK _ _ (Only.grown r_r3 hg' (by simp)) (HL.out ▸ OwnM.app ho' rfl rfl)
    refine And.intro (obX_eff (Ext) (fun _ _ h k => k.then h) (And.intro (fun _ _ _ h e => ext_at e h) (And.intro (fun _ _ _ h e => ext_at e h) (And.intro (fun _ _ _ h e => ext_at e h) (trivial)))) ?_) ?_
    · intro act W hR hf ho hu K hK
      replace hK := fun v (w' : World) (h1 : (Ext) W w') h2 => hK v w' h1 h2 trivial
      have F : act.tmps[6]?.getD undef = _ ∧ act.tmps[7]?.getD undef = _ ∧ (fun _ _ => True) (act.tmps[14]?.getD undef) W ∧ (fun _ _ => True) (act.tmps[14]?.getD undef) W ∧ True := hf
      obtain ⟨f0, f1, -, -, -⟩ := F
      have U : (fun (_ : Value) (W : World) => W.heap[w.heap.size]? = some (.cells c.cells.toArray 24)) (undef) W ∧ (fun (_ : Value) (W : World) => W.heap[w.heap.size + 1]? = some (.cells #[.int .i64 n] 3)) (undef) W ∧ (OwnM w.heap.size L) (act.tmps[14]?.getD undef) W ∧ True := hu
      obtain ⟨r_bc, r_bn, r_r8, -⟩ := U
      generalize f8 : act.tmps[14]?.getD undef = v8 at r_r8
      clear ho hf hu
      obtain ⟨A8, c8, rfl, -, ha8⟩ := Arr.own r_r8
      go_simp
      refine (made_any (permsF n) 73 #[.pointer (some ⟨w.heap.size + 1, 0, none⟩)] c A8 c8 L _ ha8 hll.out (enters_of Try.func73 (by kernel_rfl) rfl) (fun W' b hE' hb' h' => perms1_any n c b _ W' h' (ext_at hE' r_bn))).mono ?_; rintro _ W1 ⟨rfl, hE⟩; rw [← HX.out]; exact hK _ _ hE (Eq.refl _)
    refine And.intro (obX_pure (fun _ k => k) ?_) ?_
    · intro act W hR hf ho hu K hK
      replace hK := fun v h2 => hK v W rfl h2 trivial
      have F : act.tmps[15]?.getD undef = _ ∧ True := hf
      obtain ⟨f9, -⟩ := F
      have U : (fun (_ : Value) (W : World) => W.heap[w.heap.size]? = some (.cells c.cells.toArray 24)) (undef) W ∧ (fun (_ : Value) (W : World) => W.heap[w.heap.size + 1]? = some (.cells #[.int .i64 n] 3)) (undef) W ∧ True := hu
      obtain ⟨r_bc, r_bn, -⟩ := U
      clear ho hf hu
      go_simp
      exact hK _ (Eq.refl _)
    refine And.intro (obX_pure (fun _ k => k) ?_) ?_
    · intro act W hR hf ho hu K hK
      replace hK := fun v h2 => hK v W rfl h2 trivial
      have F : act.tmps[15]?.getD undef = _ ∧ True := hf
      obtain ⟨f9, -⟩ := F
      have U : (fun (_ : Value) (W : World) => W.heap[w.heap.size]? = some (.cells c.cells.toArray 24)) (undef) W ∧ (fun (_ : Value) (W : World) => W.heap[w.heap.size + 1]? = some (.cells #[.int .i64 n] 3)) (undef) W ∧ True := hu
      obtain ⟨r_bc, r_bn, -⟩ := U
      clear ho hf hu
      go_simp
      exact hK _ (Eq.refl _)
    refine And.intro (obX_eff (fun x y => World.grownBy x y (some (w.heap.size + 1 + 1))) (fun _ _ h k => ext_grown k h (by omega)) (And.intro (fun _ _ _ h e => grown_at e h (by omega)) (And.intro (fun _ _ _ h e => grown_at e h (by omega)) (trivial))) ?_) ?_
    · intro act W hR hf ho hu K hK
      replace hK := fun (w' : World) (h1 : (fun x y => World.grownBy x y (some (w.heap.size + 1 + 1))) W w') (b3 : (fun (_ : Value) (W : World) => W.heap[w.heap.size + 1 + 1]? = some (.cells X.1.cells.toArray 24)) (undef) w') => hK undef w' h1 trivial ⟨b3, trivial⟩
      have G : act.tmps[4]?.getD undef = _ ∧ True := ho
      obtain ⟨g4, -⟩ := G
      have F : act.tmps[16]?.getD undef = _ ∧ act.tmps[15]?.getD undef = _ ∧ act.tmps[6]?.getD undef = _ ∧ act.tmps[7]?.getD undef = _ ∧ act.tmps[8]?.getD undef = _ ∧ (fun _ _ => True) (act.tmps[9]?.getD undef) W ∧ act.tmps[10]?.getD undef = _ ∧ act.tmps[11]?.getD undef = _ ∧ act.tmps[12]?.getD undef = _ ∧ (fun _ _ => True) (act.tmps[13]?.getD undef) W ∧ (fun _ _ => True) (act.tmps[14]?.getD undef) W ∧ act.tmps[15]?.getD undef = _ ∧ act.tmps[16]?.getD undef = _ ∧ act.tmps[17]?.getD undef = _ ∧ True := hf
      obtain ⟨f10, f9, f0, f1, f2, -, f4, f5, f6, -, -, -, -, f11, -⟩ := F
      have U : (fun (_ : Value) (W : World) => W.heap[w.heap.size]? = some (.cells c.cells.toArray 24)) (undef) W ∧ (fun (_ : Value) (W : World) => W.heap[w.heap.size + 1]? = some (.cells #[.int .i64 n] 3)) (undef) W ∧ (fun (_ : Value) (W : World) => W.heap[w.heap.size + 1 + 1]? = some (.cells zeroCells 24)) (undef) W ∧ True := hu
      obtain ⟨r_bc, r_bn, r_br, -⟩ := U
      generalize f3 : act.tmps[9]?.getD undef = v3
      generalize f7 : act.tmps[13]?.getD undef = v7
      generalize f8 : act.tmps[14]?.getD undef = v8
      clear ho hf hu
      have fz := frozen_row' r_br; obtain ⟨q0, q1, q2, q3, q4, q5⟩ := lie6' r_br (Below.refl _ _); have hlq := cell_lt q0; simp only at hlq; have hq := set_cells6 r_br (.bool X.1.tag) (.int .i64 X.1.base) (.int .i64 X.1.top) (.int .i64 X.1.at') (.int .i64 X.1.perms) (.int .i64 X.1.ty)
      go_simp
      exact hK _ grown_set6 hq
    refine And.intro (obX_pure (fun _ k => k) ?_) ?_
    · intro act W hR hf ho hu K hK
      replace hK := fun v h2 => hK v W rfl h2 trivial
      have F : act.tmps[17]?.getD undef = _ ∧ (fun _ _ => True) (undef) W ∧ act.tmps[6]?.getD undef = _ ∧ act.tmps[7]?.getD undef = _ ∧ act.tmps[8]?.getD undef = _ ∧ (fun _ _ => True) (act.tmps[9]?.getD undef) W ∧ act.tmps[10]?.getD undef = _ ∧ act.tmps[11]?.getD undef = _ ∧ act.tmps[12]?.getD undef = _ ∧ (fun _ _ => True) (act.tmps[13]?.getD undef) W ∧ (fun _ _ => True) (act.tmps[14]?.getD undef) W ∧ act.tmps[15]?.getD undef = _ ∧ act.tmps[16]?.getD undef = _ ∧ act.tmps[17]?.getD undef = _ ∧ (fun _ _ => True) (undef) W ∧ True := hf
      obtain ⟨f11, -, f0, f1, f2, -, f4, f5, f6, -, -, f9, f10, -, -, -⟩ := F
      have U : (fun (_ : Value) (W : World) => W.heap[w.heap.size]? = some (.cells c.cells.toArray 24)) (undef) W ∧ (fun (_ : Value) (W : World) => W.heap[w.heap.size + 1]? = some (.cells #[.int .i64 n] 3)) (undef) W ∧ (fun (_ : Value) (W : World) => W.heap[w.heap.size + 1 + 1]? = some (.cells X.1.cells.toArray 24)) (undef) W ∧ True := hu
      obtain ⟨r_bc, r_bn, r_out, -⟩ := U
      generalize f3 : act.tmps[9]?.getD undef = v3
      generalize f7 : act.tmps[13]?.getD undef = v7
      generalize f8 : act.tmps[14]?.getD undef = v8
      clear ho hf hu
      go_simp
      exact hK _ (Eq.refl _)
    exact trivial
  case stab =>
    refine And.intro is_stable ?_
    refine And.intro is_stable ?_
    refine And.intro is_stable ?_
    refine And.intro (fun _ _ _ h _ => h) ?_
    refine And.intro is_stable ?_
    refine And.intro is_stable ?_
    refine And.intro is_stable ?_
    refine And.intro (fun _ _ _ h _ => h) ?_
    refine And.intro (fun _ _ _ h _ => h) ?_
    refine And.intro is_stable ?_
    refine And.intro is_stable ?_
    refine And.intro is_stable ?_
    refine And.intro (fun _ _ _ h _ => h) ?_
    refine And.intro is_stable ?_
    exact trivial
  case ends =>
    intro vals W hR hE hall
    have E : (fun (_ : Value) (W : World) => W.heap[w.heap.size]? = some (.cells c.cells.toArray 24)) (undef) W ∧ (fun (_ : Value) (W : World) => W.heap[w.heap.size + 1]? = some (.cells #[.int .i64 n] 3)) (undef) W ∧ (fun (_ : Value) (W : World) => W.heap[w.heap.size + 1 + 1]? = some (.cells X.1.cells.toArray 24)) (undef) W ∧ True := hE
    obtain ⟨e_bc, e_bn, e_out, -⟩ := E
    clear hE
    have e5 : vals 5 = _ := hall 13 (by decide)
    clear hall
    simp only [fill, List.setIfInBounds_toArray, List.set_cons_succ, List.set_cons_zero, e5]
    obtain ⟨c0, c1, c2, c3, c4, c5⟩ := lie6' e_out (Below.refl _ _)
    go_wp2_with fail
    exact bodyPost_ret (v := .tuple #[X.1.val, .int .i64 X.2]) (by simp [results, Try.results47, go_sem, c0, c1, c2, c3, c4, c5]) rfl ⟨rfl, (by repeat first | (with_reducible exact Below.refl _ _) | (with_reducible apply Ext.alloc) | (with_reducible apply Ext.drew) | (with_reducible apply Ext.drewN) | (with_reducible refine Ext.set ?_ (by simp)) | (with_reducible refine Ext.then ?_ (hR EU.out)))⟩
set_option maxHeartbeats 2000000 in
set_option maxRecDepth 20000 in
theorem enter_any (c : Cap) (w : World) (hc : CapWf c) : Calls Try.prog 51 #[c.val] w (TupPost w (enterD c)) := by
  obtain ⟨i0, hi, hz0, hz1, hz2⟩ := info_parts infoMust
  obtain ⟨X, hX⟩ : ∃ X, X = enterD c := ⟨_, rfl⟩
  rw [← hX]
  unfold enterD at hX
  obtain ⟨L, hL⟩ : ∃ L, L = usedL c ++ [(hasP c.perms 4, 44)] := ⟨_, rfl⟩
  rw [← hL] at hX
  have HX := Lib.hid hX
  have HL := Lib.hid hL
  have hll : Hid (L.length ≤ 1000) := Lib.hid (by rw [hL]; exact (show (4 : Nat) ≤ 1000 by decide))
  obtain ⟨U, hU⟩ : ∃ U, U = (w.alloc (.cells c.cells.toArray 24)).alloc (.cells zeroCells 24) := ⟨_, rfl⟩
  have HU := Lib.hid hU
  have EU : Hid (Ext w U.drew) := Lib.hid (by rw [hU]; exact (by repeat first | (with_reducible exact Below.refl _ _) | (with_reducible apply Ext.alloc) | (with_reducible apply Ext.drew) | (with_reducible apply Ext.drewN) | (with_reducible refine Ext.set ?_ (by simp))))
  have Hbc : Hid (U.drew.heap[w.heap.size]? = some (.cells c.cells.toArray 24)) := Lib.hid (by rw [hU]; exact new_at (w := w) (by simp) (Ext.drew (Ext.alloc (Below.refl _ _) _)))
  have Hbr : Hid (U.drew.heap[w.heap.size + 1]? = some (.cells zeroCells 24)) := Lib.hid (by rw [hU]; exact new_at (w := (w.alloc _)) (by simp) (Ext.drew (Below.refl _ _)))
  clear hX hL hU
  go_enter Try.func51, Try.ntmps51
  go_wp2_with fail
  rw [← HU.out]
  refine wp_region_res (fun x y => Ext w x → Ext w y) [⟨none, [], []⟩, ⟨none, [], [10]⟩, ⟨some 10, [], []⟩, ⟨some 2, [(2, [])], [6]⟩, ⟨some 5, [(5, [])], [6]⟩, ⟨some 6, [(6, [])], [7]⟩] [(fun (u : Nat → Value) (W : World) => (fun (_ : Value) (W : World) => W.heap[w.heap.size]? = some (.cells c.cells.toArray 24)) (undef) W), (fun (u : Nat → Value) (W : World) => (fun (_ : Value) (W : World) => W.heap[w.heap.size + 1]? = some (.cells zeroCells 24)) (undef) W), (fun (u : Nat → Value) (W : World) => (fun (_ : Value) (W : World) => W.heap[w.heap.size + 1]? = some (.cells X.1.cells.toArray 24)) (undef) W), (fun (u : Nat → Value) (W : World) => (OwnM w.heap.size (usedL c)) (u 2) W), (fun (u : Nat → Value) (W : World) => (NewLit 0 1 (mustCells [(hasP c.perms 4, 44)]) 87) (u 5) W), (fun (u : Nat → Value) (W : World) => (OwnM w.heap.size L) (u 6) W)] [⟨[(0, [])], [.keep, .keep, .early [0], .keep, .keep, .keep]⟩, ⟨[(0, [])], [.keep, .keep, .early [1], .early [1], .early [4, 2, 1], .early [2, 1]]⟩, ⟨[(0, [])], [.keep, .keep, .early [2], .last, .early [4, 2], .early [2]]⟩, ⟨[(0, [])], [.keep, .keep, .early [3], .keep, .early [4, 3], .early [4, 3]]⟩, ⟨[(0, [])], [.keep, .keep, .early [4], .keep, .early [4], .early [4]]⟩, ⟨[(0, [])], [.keep, .keep, .early [5], .keep, .last, .early [5]]⟩, ⟨[(0, []), (3, [2]), (4, [5])], [.keep, .keep, .early [6], .late [[]], .late [[]], .last]⟩, ⟨[(0, []), (5, [6])], [.keep, .keep, .early [7], .late [[6]], .late [[6]], .late [[]]]⟩, ⟨[(0, [])], [.keep, .keep, .early [8], .late [[7, 6]], .late [[7, 6]], .late [[7]]]⟩, ⟨[(0, [])], [.keep, .keep, .early [9], .late [[7, 6]], .late [[7, 6]], .late [[7]]]⟩, ⟨[(0, []), (1, [])], [.keep, .late [[]], .last, .late [[6]], .late [[6]], .late [[7]]]⟩, ⟨[(0, []), (2, [10])], [.keep, .late [[10]], .keep, .late [[6]], .late [[6]], .late [[7]]]⟩] [4, 5, 6, 7, 8, 9, 10, 11, 12, 13, 3] (by kernel_rfl) (fun _ k => k) (fun _ _ _ h k e => k (h e)) (by kernel_rfl) (by kernel_rfl) (by kernel_rfl) (by kernel_rfl) (by kernel_rfl) ?start ?_
  case start =>
    refine And.intro ?_ ?_
    · exact Hbc.out
    refine And.intro ?_ ?_
    · exact Hbr.out
    exact trivial
  apply ex_is; apply Exists.intro
  apply ex_is; apply Exists.intro
  refine ex_phi (fun _ _ => True) ?_
  apply ex_is; apply Exists.intro
  apply ex_is; apply Exists.intro
  refine ex_phi (fun _ _ => True) ?_
  refine ex_phi (fun _ _ => True) ?_
  apply ex_is; apply Exists.intro
  apply ex_is; apply Exists.intro
  apply ex_is; apply Exists.intro
  refine ex_phi (fun _ _ => True) ?_
  apply ex_is; apply Exists.intro
  refine ⟨[], ⟨?steps, ?stab, ?ends⟩⟩
  case steps =>
    refine And.intro (obX_pure (fun _ k => k) ?_) ?_
    · intro act W hR hf ho hu K hK
      replace hK := fun v h2 => hK v W rfl h2 trivial
      have G : act.tmps[1]?.getD undef = _ ∧ True := ho
      obtain ⟨g1, -⟩ := G
      have U : (fun (_ : Value) (W : World) => W.heap[w.heap.size]? = some (.cells c.cells.toArray 24)) (undef) W ∧ True := hu
      obtain ⟨r_bc, -⟩ := U
      clear ho hf hu
      obtain ⟨y0, y1, y2, y3, y4, y5⟩ := lie6' r_bc (Below.refl _ W)
      go_simp
      exact hK _ (Eq.refl _)
    refine And.intro (obX_pure (fun _ k => k) ?_) ?_
    · intro act W hR hf ho hu K hK
      replace hK := fun v h2 => hK v W rfl h2 trivial
      have G : act.tmps[1]?.getD undef = _ ∧ True := ho
      obtain ⟨g1, -⟩ := G
      have U : (fun (_ : Value) (W : World) => W.heap[w.heap.size]? = some (.cells c.cells.toArray 24)) (undef) W ∧ True := hu
      obtain ⟨r_bc, -⟩ := U
      clear ho hf hu
      obtain ⟨y0, y1, y2, y3, y4, y5⟩ := lie6' r_bc (Below.refl _ W)
      go_simp
      exact hK _ (Eq.refl _)
    refine And.intro (obX_eff (Ext) (fun _ _ h k => k.then h) (And.intro (fun _ _ _ h e => ext_at e h) (And.intro (fun _ _ _ h e => ext_at e h) (trivial))) ?_) ?_
    · intro act W hR hf ho hu K hK
      replace hK := fun v (w' : World) (h1 : (Ext) W w') (b3 : (OwnM w.heap.size (usedL c)) (v) w') => hK v w' h1 trivial ⟨b3, trivial⟩
      have F : act.tmps[5]?.getD undef = _ ∧ True := hf
      obtain ⟨f1, -⟩ := F
      have U : (fun (_ : Value) (W : World) => W.heap[w.heap.size]? = some (.cells c.cells.toArray 24)) (undef) W ∧ True := hu
      obtain ⟨r_bc, -⟩ := U
      clear ho hf hu
      go_simp
      refine (used_any c _ hc).mono ?_; rintro _ W1 ⟨v, rfl, ho, hE⟩; exact hK _ _ hE (ho.low (Nat.le_trans (hR EU.out).size (Nat.le_refl _)))
    refine And.intro (obX_pure (fun _ k => k) ?_) ?_
    · intro act W hR hf ho hu K hK
      replace hK := fun v h2 => hK v W rfl h2 trivial
      have G : act.tmps[1]?.getD undef = _ ∧ True := ho
      obtain ⟨g1, -⟩ := G
      have U : (fun (_ : Value) (W : World) => W.heap[w.heap.size]? = some (.cells c.cells.toArray 24)) (undef) W ∧ True := hu
      obtain ⟨r_bc, -⟩ := U
      clear ho hf hu
      obtain ⟨y0, y1, y2, y3, y4, y5⟩ := lie6' r_bc (Below.refl _ W)
      go_simp
      exact hK _ (Eq.refl _)
    refine And.intro (obX_eff (Ext) (fun _ _ h k => k.then h) (And.intro (fun _ _ _ h e => ext_at e h) (And.intro (fun _ _ _ h e => ext_at e h) (And.intro (fun _ _ _ h e => h.ext e) (trivial)))) ?_) ?_
    · intro act W hR hf ho hu K hK
      replace hK := fun v (w' : World) (h1 : (Ext) W w') h2 => hK v w' h1 h2 trivial
      have F : act.tmps[7]?.getD undef = _ ∧ (fun _ _ => True) (act.tmps[6]?.getD undef) W ∧ True := hf
      obtain ⟨f3, -, -⟩ := F
      have U : (fun (_ : Value) (W : World) => W.heap[w.heap.size]? = some (.cells c.cells.toArray 24)) (undef) W ∧ True := hu
      obtain ⟨r_bc, -⟩ := U
      generalize f2 : act.tmps[6]?.getD undef = v2
      clear ho hf hu
      go_simp
      refine (has_must c 4 _ hc (by unfold i64ok'; omega)).mono ?_; rintro _ W1 ⟨rfl, hE⟩; exact hK _ _ hE (Eq.refl _)
    refine And.intro (obX_eff (Ext) (fun _ _ h k => k.then h) (And.intro (fun _ _ _ h e => ext_at e h) (And.intro (fun _ _ _ h e => ext_at e h) (And.intro (fun _ _ _ h e => h.ext e) (trivial)))) ?_) ?_
    · intro act W hR hf ho hu K hK
      replace hK := fun v (w' : World) (h1 : (Ext) W w') (b4 : (NewLit 0 1 (mustCells [(hasP c.perms 4, 44)]) 87) (v) w') => hK v w' h1 trivial ⟨b4, trivial⟩
      have F : act.tmps[8]?.getD undef = _ ∧ True := hf
      obtain ⟨f4, -⟩ := F
      have U : (fun (_ : Value) (W : World) => W.heap[w.heap.size]? = some (.cells c.cells.toArray 24)) (undef) W ∧ True := hu
      obtain ⟨r_bc, -⟩ := U
      clear ho hf hu
      go_simp
      exact hK _ _ (by repeat first | (with_reducible exact Below.refl _ _) | (with_reducible apply Ext.alloc) | (with_reducible apply Ext.drew) | (with_reducible apply Ext.drewN) | (with_reducible refine Ext.set ?_ (by simp))) (NewLit.new (Nat.zero_le _))
    refine And.intro (obX_eff (Only w.heap.size [87]) (fun _ _ h k => Only.below k (Nat.le_refl _) h) (And.intro (fun _ _ _ h e => e.row h (by decide)) (And.intro (fun _ _ _ h e => e.row h (by decide)) (trivial))) ?_) ?_
    · intro act W hR hf ho hu K hK
      replace hK := fun v (w' : World) (h1 : (Only w.heap.size [87]) W w') (b5 : (OwnM w.heap.size L) (v) w') => hK v w' h1 trivial ⟨b5, trivial⟩
      have F : (fun _ _ => True) (act.tmps[6]?.getD undef) W ∧ (fun _ _ => True) (act.tmps[9]?.getD undef) W ∧ act.tmps[8]?.getD undef = _ ∧ True := hf
      obtain ⟨-, -, f4, -⟩ := F
      have U : (fun (_ : Value) (W : World) => W.heap[w.heap.size]? = some (.cells c.cells.toArray 24)) (undef) W ∧ (OwnM w.heap.size (usedL c)) (act.tmps[6]?.getD undef) W ∧ (NewLit 0 1 (mustCells [(hasP c.perms 4, 44)]) 87) (act.tmps[9]?.getD undef) W ∧ True := hu
      obtain ⟨r_bc, r_r2, r_n5, -⟩ := U
      generalize f2 : act.tmps[6]?.getD undef = v2 at r_r2
      generalize f5 : act.tmps[9]?.getD undef = v5 at r_n5
      clear ho hf hu
      obtain ⟨b3, rfl, -, hl3⟩ := r_n5
      dsimp only [Option.elim] at f4
      rw [← seen_eq]; refine step_append_src W rfl (.tmp 6) (.tmp 9) 84 rfl w.heap.size 87 i0 (.agg #[.bool false, .int .i64 0]) 2 16 Try.underlying84 hi hz0 hz1 hz2 rfl (by decide) _ _ _ (eval_get f2) r_r2 _ 1 (mustCells [(hasP c.perms 4, 44)]) (eval_get f5) (lies_lit hl3) rfl (mustCells_one _) (by show (3 + 1 : Nat) ≤ maxLen; unfold maxLen; omega) (by show (3 + 1) * 16 ≤ 140737488355328; omega) (hR EU.out).size ?_; intro v' w' ho' hg' _; exact hK _ _ (Only.grown r_r2 hg' (by simp)) (HL.out ▸ OwnM.app ho' rfl rfl)
    refine And.intro (obX_eff (Ext) (fun _ _ h k => k.then h) (And.intro (fun _ _ _ h e => ext_at e h) (And.intro (fun _ _ _ h e => ext_at e h) (trivial))) ?_) ?_
    · intro act W hR hf ho hu K hK
      replace hK := fun v (w' : World) (h1 : (Ext) W w') h2 => hK v w' h1 h2 trivial
      have F : act.tmps[4]?.getD undef = _ ∧ (fun _ _ => True) (act.tmps[10]?.getD undef) W ∧ (fun _ _ => True) (act.tmps[10]?.getD undef) W ∧ True := hf
      obtain ⟨f0, -, -, -⟩ := F
      have U : (fun (_ : Value) (W : World) => W.heap[w.heap.size]? = some (.cells c.cells.toArray 24)) (undef) W ∧ (OwnM w.heap.size L) (act.tmps[10]?.getD undef) W ∧ True := hu
      obtain ⟨r_bc, r_r8, -⟩ := U
      generalize f6 : act.tmps[10]?.getD undef = v6 at r_r8
      clear ho hf hu
      obtain ⟨A8, c8, rfl, -, ha8⟩ := Arr.own r_r8
      go_simp
      refine (made_any (typeF 1) 83 #[] c A8 c8 L _ ha8 hll.out (enters_of Try.func83 (by kernel_rfl) rfl) (fun W' b hE' hb' h' => enter1_any c b W' h')).mono ?_; rintro _ W1 ⟨rfl, hE⟩; rw [← HX.out]; exact hK _ _ hE (Eq.refl _)
    refine And.intro (obX_pure (fun _ k => k) ?_) ?_
    · intro act W hR hf ho hu K hK
      replace hK := fun v h2 => hK v W rfl h2 trivial
      have F : act.tmps[11]?.getD undef = _ ∧ True := hf
      obtain ⟨f7, -⟩ := F
      have U : (fun (_ : Value) (W : World) => W.heap[w.heap.size]? = some (.cells c.cells.toArray 24)) (undef) W ∧ True := hu
      obtain ⟨r_bc, -⟩ := U
      clear ho hf hu
      go_simp
      exact hK _ (Eq.refl _)
    refine And.intro (obX_pure (fun _ k => k) ?_) ?_
    · intro act W hR hf ho hu K hK
      replace hK := fun v h2 => hK v W rfl h2 trivial
      have F : act.tmps[11]?.getD undef = _ ∧ True := hf
      obtain ⟨f7, -⟩ := F
      have U : (fun (_ : Value) (W : World) => W.heap[w.heap.size]? = some (.cells c.cells.toArray 24)) (undef) W ∧ True := hu
      obtain ⟨r_bc, -⟩ := U
      clear ho hf hu
      go_simp
      exact hK _ (Eq.refl _)
    refine And.intro (obX_eff (fun x y => World.grownBy x y (some (w.heap.size + 1))) (fun _ _ h k => ext_grown k h (by omega)) (And.intro (fun _ _ _ h e => grown_at e h (by omega)) (trivial)) ?_) ?_
    · intro act W hR hf ho hu K hK
      replace hK := fun (w' : World) (h1 : (fun x y => World.grownBy x y (some (w.heap.size + 1))) W w') (b2 : (fun (_ : Value) (W : World) => W.heap[w.heap.size + 1]? = some (.cells X.1.cells.toArray 24)) (undef) w') => hK undef w' h1 trivial ⟨b2, trivial⟩
      have G : act.tmps[2]?.getD undef = _ ∧ True := ho
      obtain ⟨g2, -⟩ := G
      have F : act.tmps[12]?.getD undef = _ ∧ act.tmps[11]?.getD undef = _ ∧ act.tmps[4]?.getD undef = _ ∧ act.tmps[5]?.getD undef = _ ∧ (fun _ _ => True) (act.tmps[6]?.getD undef) W ∧ act.tmps[7]?.getD undef = _ ∧ act.tmps[8]?.getD undef = _ ∧ (fun _ _ => True) (act.tmps[9]?.getD undef) W ∧ (fun _ _ => True) (act.tmps[10]?.getD undef) W ∧ act.tmps[11]?.getD undef = _ ∧ act.tmps[12]?.getD undef = _ ∧ act.tmps[13]?.getD undef = _ ∧ True := hf
      obtain ⟨f8, f7, f0, f1, -, f3, f4, -, -, -, -, f9, -⟩ := F
      have U : (fun (_ : Value) (W : World) => W.heap[w.heap.size]? = some (.cells c.cells.toArray 24)) (undef) W ∧ (fun (_ : Value) (W : World) => W.heap[w.heap.size + 1]? = some (.cells zeroCells 24)) (undef) W ∧ True := hu
      obtain ⟨r_bc, r_br, -⟩ := U
      generalize f2 : act.tmps[6]?.getD undef = v2
      generalize f5 : act.tmps[9]?.getD undef = v5
      generalize f6 : act.tmps[10]?.getD undef = v6
      clear ho hf hu
      have fz := frozen_row' r_br; obtain ⟨q0, q1, q2, q3, q4, q5⟩ := lie6' r_br (Below.refl _ _); have hlq := cell_lt q0; simp only at hlq; have hq := set_cells6 r_br (.bool X.1.tag) (.int .i64 X.1.base) (.int .i64 X.1.top) (.int .i64 X.1.at') (.int .i64 X.1.perms) (.int .i64 X.1.ty)
      go_simp
      exact hK _ grown_set6 hq
    refine And.intro (obX_pure (fun _ k => k) ?_) ?_
    · intro act W hR hf ho hu K hK
      replace hK := fun v h2 => hK v W rfl h2 trivial
      have F : act.tmps[13]?.getD undef = _ ∧ (fun _ _ => True) (undef) W ∧ act.tmps[4]?.getD undef = _ ∧ act.tmps[5]?.getD undef = _ ∧ (fun _ _ => True) (act.tmps[6]?.getD undef) W ∧ act.tmps[7]?.getD undef = _ ∧ act.tmps[8]?.getD undef = _ ∧ (fun _ _ => True) (act.tmps[9]?.getD undef) W ∧ (fun _ _ => True) (act.tmps[10]?.getD undef) W ∧ act.tmps[11]?.getD undef = _ ∧ act.tmps[12]?.getD undef = _ ∧ act.tmps[13]?.getD undef = _ ∧ (fun _ _ => True) (undef) W ∧ True := hf
      obtain ⟨f9, -, f0, f1, -, f3, f4, -, -, f7, f8, -, -, -⟩ := F
      have U : (fun (_ : Value) (W : World) => W.heap[w.heap.size]? = some (.cells c.cells.toArray 24)) (undef) W ∧ (fun (_ : Value) (W : World) => W.heap[w.heap.size + 1]? = some (.cells X.1.cells.toArray 24)) (undef) W ∧ True := hu
      obtain ⟨r_bc, r_out, -⟩ := U
      generalize f2 : act.tmps[6]?.getD undef = v2
      generalize f5 : act.tmps[9]?.getD undef = v5
      generalize f6 : act.tmps[10]?.getD undef = v6
      clear ho hf hu
      go_simp
      exact hK _ (Eq.refl _)
    exact trivial
  case stab =>
    refine And.intro is_stable ?_
    refine And.intro is_stable ?_
    refine And.intro (fun _ _ _ h _ => h) ?_
    refine And.intro is_stable ?_
    refine And.intro is_stable ?_
    refine And.intro (fun _ _ _ h _ => h) ?_
    refine And.intro (fun _ _ _ h _ => h) ?_
    refine And.intro is_stable ?_
    refine And.intro is_stable ?_
    refine And.intro is_stable ?_
    refine And.intro (fun _ _ _ h _ => h) ?_
    refine And.intro is_stable ?_
    exact trivial
  case ends =>
    intro vals W hR hE hall
    have E : (fun (_ : Value) (W : World) => W.heap[w.heap.size]? = some (.cells c.cells.toArray 24)) (undef) W ∧ (fun (_ : Value) (W : World) => W.heap[w.heap.size + 1]? = some (.cells X.1.cells.toArray 24)) (undef) W ∧ True := hE
    obtain ⟨e_bc, e_out, -⟩ := E
    clear hE
    have e3 : vals 3 = _ := hall 11 (by decide)
    clear hall
    simp only [fill, List.setIfInBounds_toArray, List.set_cons_succ, List.set_cons_zero, e3]
    obtain ⟨c0, c1, c2, c3, c4, c5⟩ := lie6' e_out (Below.refl _ _)
    go_wp2_with fail
    exact bodyPost_ret (v := .tuple #[X.1.val, .int .i64 X.2]) (by simp [results, Try.results51, go_sem, c0, c1, c2, c3, c4, c5]) rfl ⟨rfl, (by repeat first | (with_reducible exact Below.refl _ _) | (with_reducible apply Ext.alloc) | (with_reducible apply Ext.drew) | (with_reducible apply Ext.drewN) | (with_reducible refine Ext.set ?_ (by simp)) | (with_reducible refine Ext.then ?_ (hR EU.out)))⟩
set_option maxHeartbeats 2000000 in
set_option maxRecDepth 20000 in
theorem seal_any (c d : Cap) (w : World) (hc : CapWf c) (hd : CapWf d) : Calls Try.prog 49 #[c.val, d.val] w (TupPost w (sealD c d)) := by
  obtain ⟨i0, hi, hz0, hz1, hz2⟩ := info_parts infoMust
  obtain ⟨X, hX⟩ : ∃ X, X = sealD c d := ⟨_, rfl⟩
  rw [← hX]
  unfold sealD at hX
  obtain ⟨L, hL⟩ : ∃ L, L = usedL c ++ authoL d 32 := ⟨_, rfl⟩
  rw [← hL] at hX
  have HX := Lib.hid hX
  have HL := Lib.hid hL
  have hll : Hid (L.length ≤ 1000) := Lib.hid (by rw [hL]; exact (show (9 : Nat) ≤ 1000 by decide))
  obtain ⟨U, hU⟩ : ∃ U, U = ((w.alloc (.cells c.cells.toArray 24)).alloc (.cells d.cells.toArray 24)).alloc (.cells zeroCells 24) := ⟨_, rfl⟩
  have HU := Lib.hid hU
  have EU : Hid (Ext w U.drew) := Lib.hid (by rw [hU]; exact (by repeat first | (with_reducible exact Below.refl _ _) | (with_reducible apply Ext.alloc) | (with_reducible apply Ext.drew) | (with_reducible apply Ext.drewN) | (with_reducible refine Ext.set ?_ (by simp))))
  have Hbc : Hid (U.drew.heap[w.heap.size]? = some (.cells c.cells.toArray 24)) := Lib.hid (by rw [hU]; exact new_at (w := w) (by simp) (Ext.drew (Ext.alloc (Ext.alloc (Below.refl _ _) _) _)))
  have Hbd : Hid (U.drew.heap[w.heap.size + 1]? = some (.cells d.cells.toArray 24)) := Lib.hid (by rw [hU]; exact new_at (w := (w.alloc _)) (by simp) (Ext.drew (Ext.alloc (Below.refl _ _) _)))
  have Hbr : Hid (U.drew.heap[w.heap.size + 1 + 1]? = some (.cells zeroCells 24)) := Lib.hid (by rw [hU]; exact new_at (w := ((w.alloc _).alloc _)) (by simp) (Ext.drew (Below.refl _ _)))
  clear hX hL hU
  go_enter Try.func49, Try.ntmps49
  go_wp2_with fail
  rw [← HU.out]
  refine wp_region_res (fun x y => Ext w x → Ext w y) [⟨none, [], []⟩, ⟨none, [], []⟩, ⟨none, [], [10]⟩, ⟨some 10, [], []⟩, ⟨some 3, [(3, [])], [6]⟩, ⟨some 5, [(5, [])], [6]⟩, ⟨some 6, [(6, [])], [7]⟩] [(fun (u : Nat → Value) (W : World) => (fun (_ : Value) (W : World) => W.heap[w.heap.size]? = some (.cells c.cells.toArray 24)) (undef) W), (fun (u : Nat → Value) (W : World) => (fun (_ : Value) (W : World) => W.heap[w.heap.size + 1]? = some (.cells d.cells.toArray 24)) (undef) W), (fun (u : Nat → Value) (W : World) => (fun (_ : Value) (W : World) => W.heap[w.heap.size + 1 + 1]? = some (.cells zeroCells 24)) (undef) W), (fun (u : Nat → Value) (W : World) => (fun (_ : Value) (W : World) => W.heap[w.heap.size + 1 + 1]? = some (.cells X.1.cells.toArray 24)) (undef) W), (fun (u : Nat → Value) (W : World) => (OwnM w.heap.size (usedL c)) (u 3) W), (fun (u : Nat → Value) (W : World) => (fun (v : Value) (W : World) => Lies W.heap.size W v 6 (mustCells (authoL d 32))) (u 5) W), (fun (u : Nat → Value) (W : World) => (OwnM w.heap.size L) (u 6) W)] [⟨[(0, []), (1, [])], [.keep, .keep, .keep, .early [0], .keep, .keep, .keep]⟩, ⟨[(0, []), (1, [])], [.keep, .keep, .keep, .early [1], .keep, .keep, .keep]⟩, ⟨[(0, []), (1, [])], [.keep, .keep, .keep, .early [2], .early [2], .early [3, 2], .early [3, 2]]⟩, ⟨[(0, []), (1, [])], [.keep, .keep, .keep, .early [3], .last, .early [3], .early [3]]⟩, ⟨[(0, []), (1, [])], [.keep, .keep, .keep, .early [4], .keep, .early [4], .early [5, 4]]⟩, ⟨[(0, []), (1, [])], [.keep, .keep, .keep, .early [5], .keep, .last, .early [5]]⟩, ⟨[(0, []), (1, []), (4, [3]), (5, [5])], [.keep, .keep, .keep, .early [6], .late [[]], .late [[]], .last]⟩, ⟨[(0, []), (1, []), (6, [6])], [.keep, .keep, .keep, .early [7], .late [[6]], .late [[6]], .late [[]]]⟩, ⟨[(0, []), (1, [])], [.keep, .keep, .keep, .early [8], .late [[7, 6]], .late [[7, 6]], .late [[7]]]⟩, ⟨[(0, []), (1, [])], [.keep, .keep, .keep, .early [9], .late [[7, 6]], .late [[7, 6]], .late [[7]]]⟩, ⟨[(0, []), (1, []), (2, [])], [.keep, .keep, .late [[]], .last, .late [[6]], .late [[6]], .late [[7]]]⟩, ⟨[(0, []), (1, []), (3, [10])], [.keep, .keep, .late [[10]], .keep, .late [[6]], .late [[6]], .late [[7]]]⟩] [6, 7, 8, 9, 10, 11, 12, 13, 14, 15, 5] (by kernel_rfl) (fun _ k => k) (fun _ _ _ h k e => k (h e)) (by kernel_rfl) (by kernel_rfl) (by kernel_rfl) (by kernel_rfl) (by kernel_rfl) ?start ?_
  case start =>
    refine And.intro ?_ ?_
    · exact Hbc.out
    refine And.intro ?_ ?_
    · exact Hbd.out
    refine And.intro ?_ ?_
    · exact Hbr.out
    exact trivial
  apply ex_is; apply Exists.intro
  apply ex_is; apply Exists.intro
  apply ex_is; apply Exists.intro
  refine ex_phi (fun _ _ => True) ?_
  apply ex_is; apply Exists.intro
  refine ex_phi (fun _ _ => True) ?_
  refine ex_phi (fun _ _ => True) ?_
  apply ex_is; apply Exists.intro
  apply ex_is; apply Exists.intro
  apply ex_is; apply Exists.intro
  refine ex_phi (fun _ _ => True) ?_
  apply ex_is; apply Exists.intro
  refine ⟨[], ⟨?steps, ?stab, ?ends⟩⟩
  case steps =>
    refine And.intro (obX_pure (fun _ k => k) ?_) ?_
    · intro act W hR hf ho hu K hK
      replace hK := fun v h2 => hK v W rfl h2 trivial
      have G : act.tmps[2]?.getD undef = _ ∧ True := ho
      obtain ⟨g2, -⟩ := G
      have U : (fun (_ : Value) (W : World) => W.heap[w.heap.size]? = some (.cells c.cells.toArray 24)) (undef) W ∧ (fun (_ : Value) (W : World) => W.heap[w.heap.size + 1]? = some (.cells d.cells.toArray 24)) (undef) W ∧ True := hu
      obtain ⟨r_bc, r_bd, -⟩ := U
      clear ho hf hu
      obtain ⟨y0, y1, y2, y3, y4, y5⟩ := lie6' r_bc (Below.refl _ W)
      go_simp
      exact hK _ (Eq.refl _)
    refine And.intro (obX_pure (fun _ k => k) ?_) ?_
    · intro act W hR hf ho hu K hK
      replace hK := fun v h2 => hK v W rfl h2 trivial
      have G : act.tmps[3]?.getD undef = _ ∧ True := ho
      obtain ⟨g3, -⟩ := G
      have U : (fun (_ : Value) (W : World) => W.heap[w.heap.size]? = some (.cells c.cells.toArray 24)) (undef) W ∧ (fun (_ : Value) (W : World) => W.heap[w.heap.size + 1]? = some (.cells d.cells.toArray 24)) (undef) W ∧ True := hu
      obtain ⟨r_bc, r_bd, -⟩ := U
      clear ho hf hu
      go_simp
      exact hK _ (Eq.refl _)
    refine And.intro (obX_pure (fun _ k => k) ?_) ?_
    · intro act W hR hf ho hu K hK
      replace hK := fun v h2 => hK v W rfl h2 trivial
      have G : act.tmps[2]?.getD undef = _ ∧ True := ho
      obtain ⟨g2, -⟩ := G
      have U : (fun (_ : Value) (W : World) => W.heap[w.heap.size]? = some (.cells c.cells.toArray 24)) (undef) W ∧ (fun (_ : Value) (W : World) => W.heap[w.heap.size + 1]? = some (.cells d.cells.toArray 24)) (undef) W ∧ True := hu
      obtain ⟨r_bc, r_bd, -⟩ := U
      clear ho hf hu
      obtain ⟨y0, y1, y2, y3, y4, y5⟩ := lie6' r_bc (Below.refl _ W)
      go_simp
      exact hK _ (Eq.refl _)
    refine And.intro (obX_eff (Ext) (fun _ _ h k => k.then h) (And.intro (fun _ _ _ h e => ext_at e h) (And.intro (fun _ _ _ h e => ext_at e h) (And.intro (fun _ _ _ h e => ext_at e h) (trivial)))) ?_) ?_
    · intro act W hR hf ho hu K hK
      replace hK := fun v (w' : World) (h1 : (Ext) W w') (b4 : (OwnM w.heap.size (usedL c)) (v) w') => hK v w' h1 trivial ⟨b4, trivial⟩
      have F : act.tmps[8]?.getD undef = _ ∧ True := hf
      obtain ⟨f2, -⟩ := F
      have U : (fun (_ : Value) (W : World) => W.heap[w.heap.size]? = some (.cells c.cells.toArray 24)) (undef) W ∧ (fun (_ : Value) (W : World) => W.heap[w.heap.size + 1]? = some (.cells d.cells.toArray 24)) (undef) W ∧ True := hu
      obtain ⟨r_bc, r_bd, -⟩ := U
      clear ho hf hu
      go_simp
      refine (used_any c _ hc).mono ?_; rintro _ W1 ⟨v, rfl, ho, hE⟩; exact hK _ _ hE (ho.low (Nat.le_trans (hR EU.out).size (Nat.le_refl _)))
    refine And.intro (obX_pure (fun _ k => k) ?_) ?_
    · intro act W hR hf ho hu K hK
      replace hK := fun v h2 => hK v W rfl h2 trivial
      have G : act.tmps[3]?.getD undef = _ ∧ True := ho
      obtain ⟨g3, -⟩ := G
      have U : (fun (_ : Value) (W : World) => W.heap[w.heap.size]? = some (.cells c.cells.toArray 24)) (undef) W ∧ (fun (_ : Value) (W : World) => W.heap[w.heap.size + 1]? = some (.cells d.cells.toArray 24)) (undef) W ∧ True := hu
      obtain ⟨r_bc, r_bd, -⟩ := U
      clear ho hf hu
      obtain ⟨z0, z1, z2, z3, z4, z5⟩ := lie6' r_bd (Below.refl _ W)
      go_simp
      exact hK _ (Eq.refl _)
    refine And.intro (obX_eff (Ext) (fun _ _ h k => k.then h) (And.intro (fun _ _ _ h e => ext_at e h) (And.intro (fun _ _ _ h e => ext_at e h) (And.intro (fun _ _ _ h e => ext_at e h) (And.intro (fun _ _ _ h e => h.ext e) (trivial))))) ?_) ?_
    · intro act W hR hf ho hu K hK
      replace hK := fun v (w' : World) (h1 : (Ext) W w') (b5 : (fun (v : Value) (W : World) => Lies W.heap.size W v 6 (mustCells (authoL d 32))) (v) w') => hK v w' h1 trivial ⟨b5, trivial⟩
      have F : act.tmps[10]?.getD undef = _ ∧ (fun _ _ => True) (act.tmps[9]?.getD undef) W ∧ True := hf
      obtain ⟨f4, -, -⟩ := F
      have U : (fun (_ : Value) (W : World) => W.heap[w.heap.size]? = some (.cells c.cells.toArray 24)) (undef) W ∧ (fun (_ : Value) (W : World) => W.heap[w.heap.size + 1]? = some (.cells d.cells.toArray 24)) (undef) W ∧ True := hu
      obtain ⟨r_bc, r_bd, -⟩ := U
      generalize f3 : act.tmps[9]?.getD undef = v3
      clear ho hf hu
      go_simp
      refine (autho_any d 32 _ hd (by unfold i64ok'; omega)).mono ?_; rintro _ W1 ⟨v, rfl, ho, hE⟩; exact hK _ _ hE (Lies.own ho)
    refine And.intro (obX_eff (Only w.heap.size [87]) (fun _ _ h k => Only.below k (Nat.le_refl _) h) (And.intro (fun _ _ _ h e => e.row h (by decide)) (And.intro (fun _ _ _ h e => e.row h (by decide)) (And.intro (fun _ _ _ h e => e.row h (by decide)) (trivial)))) ?_) ?_
    · intro act W hR hf ho hu K hK
      replace hK := fun v (w' : World) (h1 : (Only w.heap.size [87]) W w') (b6 : (OwnM w.heap.size L) (v) w') => hK v w' h1 trivial ⟨b6, trivial⟩
      have F : (fun _ _ => True) (act.tmps[9]?.getD undef) W ∧ (fun _ _ => True) (act.tmps[11]?.getD undef) W ∧ (fun _ _ => True) (act.tmps[11]?.getD undef) W ∧ True := hf
      obtain ⟨-, -, -, -⟩ := F
      have U : (fun (_ : Value) (W : World) => W.heap[w.heap.size]? = some (.cells c.cells.toArray 24)) (undef) W ∧ (fun (_ : Value) (W : World) => W.heap[w.heap.size + 1]? = some (.cells d.cells.toArray 24)) (undef) W ∧ (OwnM w.heap.size (usedL c)) (act.tmps[9]?.getD undef) W ∧ (fun (v : Value) (W : World) => Lies W.heap.size W v 6 (mustCells (authoL d 32))) (act.tmps[11]?.getD undef) W ∧ True := hu
      obtain ⟨r_bc, r_bd, r_r3, r_n5, -⟩ := U
      generalize f3 : act.tmps[9]?.getD undef = v3 at r_r3
      generalize f5 : act.tmps[11]?.getD undef = v5 at r_n5
      clear ho hf hu
      rw [← seen_eq]; refine step_append_src W rfl (.tmp 9) (.tmp 11) 84 rfl w.heap.size 87 i0 (.agg #[.bool false, .int .i64 0]) 2 16 Try.underlying84 hi hz0 hz1 hz2 rfl (by decide) _ _ _ (eval_get f3) r_r3 _ 6 (mustCells (authoL d 32)) (eval_get f5) (r_n5) rfl (mustCells_one _) (by show (3 + 6 : Nat) ≤ maxLen; unfold maxLen; omega) (by show (3 + 6) * 16 ≤ 140737488355328; omega) (hR EU.out).size ?_; intro v' w' ho' hg' _; exact hK _ _ (Only.grown r_r3 hg' (by simp)) (HL.out ▸ OwnM.app ho' rfl rfl)
    refine And.intro (obX_eff (Ext) (fun _ _ h k => k.then h) (And.intro (fun _ _ _ h e => ext_at e h) (And.intro (fun _ _ _ h e => ext_at e h) (And.intro (fun _ _ _ h e => ext_at e h) (trivial)))) ?_) ?_
    · intro act W hR hf ho hu K hK
      replace hK := fun v (w' : World) (h1 : (Ext) W w') h2 => hK v w' h1 h2 trivial
      have F : act.tmps[6]?.getD undef = _ ∧ act.tmps[7]?.getD undef = _ ∧ (fun _ _ => True) (act.tmps[12]?.getD undef) W ∧ (fun _ _ => True) (act.tmps[12]?.getD undef) W ∧ True := hf
      obtain ⟨f0, f1, -, -, -⟩ := F
      have U : (fun (_ : Value) (W : World) => W.heap[w.heap.size]? = some (.cells c.cells.toArray 24)) (undef) W ∧ (fun (_ : Value) (W : World) => W.heap[w.heap.size + 1]? = some (.cells d.cells.toArray 24)) (undef) W ∧ (OwnM w.heap.size L) (act.tmps[12]?.getD undef) W ∧ True := hu
      obtain ⟨r_bc, r_bd, r_r8, -⟩ := U
      generalize f6 : act.tmps[12]?.getD undef = v6 at r_r8
      clear ho hf hu
      obtain ⟨A8, c8, rfl, -, ha8⟩ := Arr.own r_r8
      go_simp
      refine (made_any (typeF d.at') 78 #[.pointer (some ⟨w.heap.size + 1, 0, none⟩)] c A8 c8 L _ ha8 hll.out (enters_of Try.func78 (by kernel_rfl) rfl) (fun W' b hE' hb' h' => seal1_any d c b _ W' h' (ext_at hE' r_bd))).mono ?_; rintro _ W1 ⟨rfl, hE⟩; rw [← HX.out]; exact hK _ _ hE (Eq.refl _)
    refine And.intro (obX_pure (fun _ k => k) ?_) ?_
    · intro act W hR hf ho hu K hK
      replace hK := fun v h2 => hK v W rfl h2 trivial
      have F : act.tmps[13]?.getD undef = _ ∧ True := hf
      obtain ⟨f7, -⟩ := F
      have U : (fun (_ : Value) (W : World) => W.heap[w.heap.size]? = some (.cells c.cells.toArray 24)) (undef) W ∧ (fun (_ : Value) (W : World) => W.heap[w.heap.size + 1]? = some (.cells d.cells.toArray 24)) (undef) W ∧ True := hu
      obtain ⟨r_bc, r_bd, -⟩ := U
      clear ho hf hu
      go_simp
      exact hK _ (Eq.refl _)
    refine And.intro (obX_pure (fun _ k => k) ?_) ?_
    · intro act W hR hf ho hu K hK
      replace hK := fun v h2 => hK v W rfl h2 trivial
      have F : act.tmps[13]?.getD undef = _ ∧ True := hf
      obtain ⟨f7, -⟩ := F
      have U : (fun (_ : Value) (W : World) => W.heap[w.heap.size]? = some (.cells c.cells.toArray 24)) (undef) W ∧ (fun (_ : Value) (W : World) => W.heap[w.heap.size + 1]? = some (.cells d.cells.toArray 24)) (undef) W ∧ True := hu
      obtain ⟨r_bc, r_bd, -⟩ := U
      clear ho hf hu
      go_simp
      exact hK _ (Eq.refl _)
    refine And.intro (obX_eff (fun x y => World.grownBy x y (some (w.heap.size + 1 + 1))) (fun _ _ h k => ext_grown k h (by omega)) (And.intro (fun _ _ _ h e => grown_at e h (by omega)) (And.intro (fun _ _ _ h e => grown_at e h (by omega)) (trivial))) ?_) ?_
    · intro act W hR hf ho hu K hK
      replace hK := fun (w' : World) (h1 : (fun x y => World.grownBy x y (some (w.heap.size + 1 + 1))) W w') (b3 : (fun (_ : Value) (W : World) => W.heap[w.heap.size + 1 + 1]? = some (.cells X.1.cells.toArray 24)) (undef) w') => hK undef w' h1 trivial ⟨b3, trivial⟩
      have G : act.tmps[4]?.getD undef = _ ∧ True := ho
      obtain ⟨g4, -⟩ := G
      have F : act.tmps[14]?.getD undef = _ ∧ act.tmps[13]?.getD undef = _ ∧ act.tmps[6]?.getD undef = _ ∧ act.tmps[7]?.getD undef = _ ∧ act.tmps[8]?.getD undef = _ ∧ (fun _ _ => True) (act.tmps[9]?.getD undef) W ∧ act.tmps[10]?.getD undef = _ ∧ (fun _ _ => True) (act.tmps[11]?.getD undef) W ∧ (fun _ _ => True) (act.tmps[12]?.getD undef) W ∧ act.tmps[13]?.getD undef = _ ∧ act.tmps[14]?.getD undef = _ ∧ act.tmps[15]?.getD undef = _ ∧ True := hf
      obtain ⟨f8, f7, f0, f1, f2, -, f4, -, -, -, -, f9, -⟩ := F
      have U : (fun (_ : Value) (W : World) => W.heap[w.heap.size]? = some (.cells c.cells.toArray 24)) (undef) W ∧ (fun (_ : Value) (W : World) => W.heap[w.heap.size + 1]? = some (.cells d.cells.toArray 24)) (undef) W ∧ (fun (_ : Value) (W : World) => W.heap[w.heap.size + 1 + 1]? = some (.cells zeroCells 24)) (undef) W ∧ True := hu
      obtain ⟨r_bc, r_bd, r_br, -⟩ := U
      generalize f3 : act.tmps[9]?.getD undef = v3
      generalize f5 : act.tmps[11]?.getD undef = v5
      generalize f6 : act.tmps[12]?.getD undef = v6
      clear ho hf hu
      have fz := frozen_row' r_br; obtain ⟨q0, q1, q2, q3, q4, q5⟩ := lie6' r_br (Below.refl _ _); have hlq := cell_lt q0; simp only at hlq; have hq := set_cells6 r_br (.bool X.1.tag) (.int .i64 X.1.base) (.int .i64 X.1.top) (.int .i64 X.1.at') (.int .i64 X.1.perms) (.int .i64 X.1.ty)
      go_simp
      exact hK _ grown_set6 hq
    refine And.intro (obX_pure (fun _ k => k) ?_) ?_
    · intro act W hR hf ho hu K hK
      replace hK := fun v h2 => hK v W rfl h2 trivial
      have F : act.tmps[15]?.getD undef = _ ∧ (fun _ _ => True) (undef) W ∧ act.tmps[6]?.getD undef = _ ∧ act.tmps[7]?.getD undef = _ ∧ act.tmps[8]?.getD undef = _ ∧ (fun _ _ => True) (act.tmps[9]?.getD undef) W ∧ act.tmps[10]?.getD undef = _ ∧ (fun _ _ => True) (act.tmps[11]?.getD undef) W ∧ (fun _ _ => True) (act.tmps[12]?.getD undef) W ∧ act.tmps[13]?.getD undef = _ ∧ act.tmps[14]?.getD undef = _ ∧ act.tmps[15]?.getD undef = _ ∧ (fun _ _ => True) (undef) W ∧ True := hf
      obtain ⟨f9, -, f0, f1, f2, -, f4, -, -, f7, f8, -, -, -⟩ := F
      have U : (fun (_ : Value) (W : World) => W.heap[w.heap.size]? = some (.cells c.cells.toArray 24)) (undef) W ∧ (fun (_ : Value) (W : World) => W.heap[w.heap.size + 1]? = some (.cells d.cells.toArray 24)) (undef) W ∧ (fun (_ : Value) (W : World) => W.heap[w.heap.size + 1 + 1]? = some (.cells X.1.cells.toArray 24)) (undef) W ∧ True := hu
      obtain ⟨r_bc, r_bd, r_out, -⟩ := U
      generalize f3 : act.tmps[9]?.getD undef = v3
      generalize f5 : act.tmps[11]?.getD undef = v5
      generalize f6 : act.tmps[12]?.getD undef = v6
      clear ho hf hu
      go_simp
      exact hK _ (Eq.refl _)
    exact trivial
  case stab =>
    refine And.intro is_stable ?_
    refine And.intro is_stable ?_
    refine And.intro is_stable ?_
    refine And.intro (fun _ _ _ h _ => h) ?_
    refine And.intro is_stable ?_
    refine And.intro (fun _ _ _ h _ => h) ?_
    refine And.intro (fun _ _ _ h _ => h) ?_
    refine And.intro is_stable ?_
    refine And.intro is_stable ?_
    refine And.intro is_stable ?_
    refine And.intro (fun _ _ _ h _ => h) ?_
    refine And.intro is_stable ?_
    exact trivial
  case ends =>
    intro vals W hR hE hall
    have E : (fun (_ : Value) (W : World) => W.heap[w.heap.size]? = some (.cells c.cells.toArray 24)) (undef) W ∧ (fun (_ : Value) (W : World) => W.heap[w.heap.size + 1]? = some (.cells d.cells.toArray 24)) (undef) W ∧ (fun (_ : Value) (W : World) => W.heap[w.heap.size + 1 + 1]? = some (.cells X.1.cells.toArray 24)) (undef) W ∧ True := hE
    obtain ⟨e_bc, e_bd, e_out, -⟩ := E
    clear hE
    have e5 : vals 5 = _ := hall 11 (by decide)
    clear hall
    simp only [fill, List.setIfInBounds_toArray, List.set_cons_succ, List.set_cons_zero, e5]
    obtain ⟨c0, c1, c2, c3, c4, c5⟩ := lie6' e_out (Below.refl _ _)
    go_wp2_with fail
    exact bodyPost_ret (v := .tuple #[X.1.val, .int .i64 X.2]) (by simp [results, Try.results49, go_sem, c0, c1, c2, c3, c4, c5]) rfl ⟨rfl, (by repeat first | (with_reducible exact Below.refl _ _) | (with_reducible apply Ext.alloc) | (with_reducible apply Ext.drew) | (with_reducible apply Ext.drewN) | (with_reducible refine Ext.set ?_ (by simp)) | (with_reducible refine Ext.then ?_ (hR EU.out)))⟩
end Go.Proofs.Ytalndcjbnedigaa


/- Package derive: Unseal, Build, Move. (Printed by gen_der.py.) -/
import Derived.Test.YtalndcjbnedigaaDerE
set_option linter.all false

namespace Go.Proofs.Ytalndcjbnedigaa
open Go.RowKit Go.Shelf
attribute [local go_sem] seen dstOf boolOf
set_option maxHeartbeats 2000000 in
set_option maxRecDepth 20000 in
theorem unseal_any (c d : Cap) (w : World) (hc : CapWf c) (hd : CapWf d) : Calls Try.prog 50 #[c.val, d.val] w (TupPost w (unsealD c d)) := by
  obtain ⟨i0, hi, hz0, hz1, hz2⟩ := info_parts infoMust
  obtain ⟨X, hX⟩ : ∃ X, X = unsealD c d := ⟨_, rfl⟩
  rw [← hX]
  unfold unsealD at hX
  obtain ⟨L, hL⟩ : ∃ L, L = unsealL c d ++ [(d.at' == c.ty, 45)] := ⟨_, rfl⟩
  rw [← hL] at hX
  have HX := Lib.hid hX
  have HL := Lib.hid hL
  have hll : Hid (L.length ≤ 1000) := Lib.hid (by rw [hL]; exact (show (10 : Nat) ≤ 1000 by decide))
  obtain ⟨U, hU⟩ : ∃ U, U = ((w.alloc (.cells c.cells.toArray 24)).alloc (.cells d.cells.toArray 24)).alloc (.cells zeroCells 24) := ⟨_, rfl⟩
  have HU := Lib.hid hU
  have EU : Hid (Ext w U.drew) := Lib.hid (by rw [hU]; exact (by repeat first | (with_reducible exact Below.refl _ _) | (with_reducible apply Ext.alloc) | (with_reducible apply Ext.drew) | (with_reducible apply Ext.drewN) | (with_reducible refine Ext.set ?_ (by simp))))
  have Hbc : Hid (U.drew.heap[w.heap.size]? = some (.cells c.cells.toArray 24)) := Lib.hid (by rw [hU]; exact new_at (w := w) (by simp) (Ext.drew (Ext.alloc (Ext.alloc (Below.refl _ _) _) _)))
  have Hbd : Hid (U.drew.heap[w.heap.size + 1]? = some (.cells d.cells.toArray 24)) := Lib.hid (by rw [hU]; exact new_at (w := (w.alloc _)) (by simp) (Ext.drew (Ext.alloc (Below.refl _ _) _)))
  have Hbr : Hid (U.drew.heap[w.heap.size + 1 + 1]? = some (.cells zeroCells 24)) := Lib.hid (by rw [hU]; exact new_at (w := ((w.alloc _).alloc _)) (by simp) (Ext.drew (Below.refl _ _)))
  clear hX hL hU
  go_enter Try.func50, Try.ntmps50
  go_wp2_with fail
  rw [← HU.out]
  refine wp_region_res (fun x y => Ext w x → Ext w y) [⟨none, [], []⟩, ⟨none, [], []⟩, ⟨none, [], []⟩, ⟨some 6, [(6, [])], [9]⟩, ⟨some 8, [(8, [])], [9]⟩, ⟨some 9, [(9, [])], [10]⟩, ⟨some 10, [(10, [])], []⟩] [(fun (u : Nat → Value) (W : World) => (fun (_ : Value) (W : World) => W.heap[w.heap.size]? = some (.cells c.cells.toArray 24)) (undef) W), (fun (u : Nat → Value) (W : World) => (fun (_ : Value) (W : World) => W.heap[w.heap.size + 1]? = some (.cells d.cells.toArray 24)) (undef) W), (fun (u : Nat → Value) (W : World) => (fun (_ : Value) (W : World) => W.heap[w.heap.size + 1 + 1]? = some (.cells zeroCells 24)) (undef) W), (fun (u : Nat → Value) (W : World) => (OwnM w.heap.size [(rightC c, 1), (c.tag, 41), (sealB c true, 42)]) (u 6) W), (fun (u : Nat → Value) (W : World) => (fun (v : Value) (W : World) => Lies W.heap.size W v 6 (mustCells (authoL d 64))) (u 8) W), (fun (u : Nat → Value) (W : World) => (OwnM w.heap.size (unsealL c d)) (u 9) W), (fun (u : Nat → Value) (W : World) => (OwnM w.heap.size (unsealL c d)) (u 10) W)] [⟨[(0, []), (1, []), (2, [])], [.keep, .keep, .keep, .early [1, 0], .early [5, 3, 1, 0], .early [6, 1, 0], .early [0]]⟩, ⟨[(0, []), (1, []), (2, [])], [.keep, .keep, .keep, .early [1], .early [5, 3, 1], .early [6, 1], .early [1]]⟩, ⟨[(0, []), (1, []), (2, [])], [.keep, .keep, .keep, .early [3, 2], .early [5, 3, 2], .early [6, 3, 2], .early [2]]⟩, ⟨[(0, []), (1, []), (2, [])], [.keep, .keep, .keep, .early [3], .early [5, 3], .early [6, 3], .early [3]]⟩, ⟨[(0, []), (1, []), (2, [])], [.keep, .keep, .keep, .early [5, 4], .early [5, 4], .early [6, 5, 4], .early [4]]⟩, ⟨[(0, []), (1, []), (2, [])], [.keep, .keep, .keep, .early [5], .early [5], .early [6, 5], .early [5]]⟩, ⟨[(0, []), (1, []), (2, [])], [.keep, .keep, .keep, .last, .keep, .early [6], .early [6]]⟩, ⟨[(0, []), (1, []), (2, [])], [.keep, .keep, .keep, .keep, .early [7], .early [8, 7], .early [7]]⟩, ⟨[(0, []), (1, []), (2, [])], [.keep, .keep, .keep, .keep, .last, .early [8], .early [8]]⟩, ⟨[(0, []), (1, []), (2, []), (3, [6]), (4, [8])], [.keep, .keep, .keep, .late [[]], .late [[]], .last, .early [9]]⟩, ⟨[(0, []), (1, []), (2, []), (5, [9])], [.keep, .keep, .keep, .late [[9]], .late [[9]], .late [[]], .last]⟩] [7, 8, 9, 10, 11, 12, 13, 14, 15, 16, 6] (by kernel_rfl) (fun _ k => k) (fun _ _ _ h k e => k (h e)) (by kernel_rfl) (by kernel_rfl) (by kernel_rfl) (by kernel_rfl) (by kernel_rfl) ?start ?_
  case start =>
    refine And.intro ?_ ?_
    · exact Hbc.out
    refine And.intro ?_ ?_
    · exact Hbd.out
    refine And.intro ?_ ?_
    · exact Hbr.out
    exact trivial
  apply ex_is; apply Exists.intro
  apply ex_is; apply Exists.intro
  apply ex_is; apply Exists.intro
  apply ex_is; apply Exists.intro
  apply ex_is; apply Exists.intro
  apply ex_is; apply Exists.intro
  refine ex_phi (fun _ _ => True) ?_
  apply ex_is; apply Exists.intro
  refine ex_phi (fun _ _ => True) ?_
  refine ex_phi (fun _ _ => True) ?_
  refine ex_phi (fun _ _ => True) ?_
  refine ⟨[], ⟨?steps, ?stab, ?ends⟩⟩
  case steps =>
    refine And.intro (obX_pure (fun _ k => k) ?_) ?_
    · intro act W hR hf ho hu K hK
      replace hK := fun v h2 => hK v W rfl h2 trivial
      have G : act.tmps[2]?.getD undef = _ ∧ True := ho
      obtain ⟨g2, -⟩ := G
      have U : (fun (_ : Value) (W : World) => W.heap[w.heap.size]? = some (.cells c.cells.toArray 24)) (undef) W ∧ (fun (_ : Value) (W : World) => W.heap[w.heap.size + 1]? = some (.cells d.cells.toArray 24)) (undef) W ∧ (fun (_ : Value) (W : World) => W.heap[w.heap.size + 1 + 1]? = some (.cells zeroCells 24)) (undef) W ∧ True := hu
      obtain ⟨r_bc, r_bd, r_br, -⟩ := U
      clear ho hf hu
      obtain ⟨y0, y1, y2, y3, y4, y5⟩ := lie6' r_bc (Below.refl _ W)
      go_simp
      exact hK _ (Eq.refl _)
    refine And.intro (obX_eff (Ext) (fun _ _ h k => k.then h) (And.intro (fun _ _ _ h e => ext_at e h) (And.intro (fun _ _ _ h e => ext_at e h) (And.intro (fun _ _ _ h e => ext_at e h) (trivial)))) ?_) ?_
    · intro act W hR hf ho hu K hK
      replace hK := fun v (w' : World) (h1 : (Ext) W w') h2 => hK v w' h1 h2 trivial
      have F : act.tmps[7]?.getD undef = _ ∧ True := hf
      obtain ⟨f0, -⟩ := F
      have U : (fun (_ : Value) (W : World) => W.heap[w.heap.size]? = some (.cells c.cells.toArray 24)) (undef) W ∧ (fun (_ : Value) (W : World) => W.heap[w.heap.size + 1]? = some (.cells d.cells.toArray 24)) (undef) W ∧ (fun (_ : Value) (W : World) => W.heap[w.heap.size + 1 + 1]? = some (.cells zeroCells 24)) (undef) W ∧ True := hu
      obtain ⟨r_bc, r_bd, r_br, -⟩ := U
      clear ho hf hu
      go_simp
      refine (right_must c _ hc).mono ?_; rintro _ W1 ⟨rfl, hE⟩; exact hK _ _ hE (Eq.refl _)
    refine And.intro (obX_pure (fun _ k => k) ?_) ?_
    · intro act W hR hf ho hu K hK
      replace hK := fun v h2 => hK v W rfl h2 trivial
      have G : act.tmps[2]?.getD undef = _ ∧ True := ho
      obtain ⟨g2, -⟩ := G
      have U : (fun (_ : Value) (W : World) => W.heap[w.heap.size]? = some (.cells c.cells.toArray 24)) (undef) W ∧ (fun (_ : Value) (W : World) => W.heap[w.heap.size + 1]? = some (.cells d.cells.toArray 24)) (undef) W ∧ (fun (_ : Value) (W : World) => W.heap[w.heap.size + 1 + 1]? = some (.cells zeroCells 24)) (undef) W ∧ True := hu
      obtain ⟨r_bc, r_bd, r_br, -⟩ := U
      clear ho hf hu
      obtain ⟨y0, y1, y2, y3, y4, y5⟩ := lie6' r_bc (Below.refl _ W)
      go_simp
      exact hK _ (Eq.refl _)
    refine And.intro (obX_eff (Ext) (fun _ _ h k => k.then h) (And.intro (fun _ _ _ h e => ext_at e h) (And.intro (fun _ _ _ h e => ext_at e h) (And.intro (fun _ _ _ h e => ext_at e h) (trivial)))) ?_) ?_
    · intro act W hR hf ho hu K hK
      replace hK := fun v (w' : World) (h1 : (Ext) W w') h2 => hK v w' h1 h2 trivial
      have F : act.tmps[9]?.getD undef = _ ∧ act.tmps[8]?.getD undef = _ ∧ True := hf
      obtain ⟨f2, f1, -⟩ := F
      have U : (fun (_ : Value) (W : World) => W.heap[w.heap.size]? = some (.cells c.cells.toArray 24)) (undef) W ∧ (fun (_ : Value) (W : World) => W.heap[w.heap.size + 1]? = some (.cells d.cells.toArray 24)) (undef) W ∧ (fun (_ : Value) (W : World) => W.heap[w.heap.size + 1 + 1]? = some (.cells zeroCells 24)) (undef) W ∧ True := hu
      obtain ⟨r_bc, r_bd, r_br, -⟩ := U
      clear ho hf hu
      go_simp
      refine (tagged_must c _).mono ?_; rintro _ W1 ⟨rfl, hE⟩; exact hK _ _ hE (Eq.refl _)
    refine And.intro (obX_pure (fun _ k => k) ?_) ?_
    · intro act W hR hf ho hu K hK
      replace hK := fun v h2 => hK v W rfl h2 trivial
      have G : act.tmps[2]?.getD undef = _ ∧ True := ho
      obtain ⟨g2, -⟩ := G
      have U : (fun (_ : Value) (W : World) => W.heap[w.heap.size]? = some (.cells c.cells.toArray 24)) (undef) W ∧ (fun (_ : Value) (W : World) => W.heap[w.heap.size + 1]? = some (.cells d.cells.toArray 24)) (undef) W ∧ (fun (_ : Value) (W : World) => W.heap[w.heap.size + 1 + 1]? = some (.cells zeroCells 24)) (undef) W ∧ True := hu
      obtain ⟨r_bc, r_bd, r_br, -⟩ := U
      clear ho hf hu
      obtain ⟨y0, y1, y2, y3, y4, y5⟩ := lie6' r_bc (Below.refl _ W)
      go_simp
      exact hK _ (Eq.refl _)
    refine And.intro (obX_eff (Ext) (fun _ _ h k => k.then h) (And.intro (fun _ _ _ h e => ext_at e h) (And.intro (fun _ _ _ h e => ext_at e h) (And.intro (fun _ _ _ h e => ext_at e h) (trivial)))) ?_) ?_
    · intro act W hR hf ho hu K hK
      replace hK := fun v (w' : World) (h1 : (Ext) W w') h2 => hK v w' h1 h2 trivial
      have F : act.tmps[11]?.getD undef = _ ∧ act.tmps[10]?.getD undef = _ ∧ True := hf
      obtain ⟨f4, f3, -⟩ := F
      have U : (fun (_ : Value) (W : World) => W.heap[w.heap.size]? = some (.cells c.cells.toArray 24)) (undef) W ∧ (fun (_ : Value) (W : World) => W.heap[w.heap.size + 1]? = some (.cells d.cells.toArray 24)) (undef) W ∧ (fun (_ : Value) (W : World) => W.heap[w.heap.size + 1 + 1]? = some (.cells zeroCells 24)) (undef) W ∧ True := hu
      obtain ⟨r_bc, r_bd, r_br, -⟩ := U
      clear ho hf hu
      go_simp
      refine (sealed_must c true _).mono ?_; rintro _ W1 ⟨rfl, hE⟩; exact hK _ _ hE (Eq.refl _)
    refine And.intro (obX_eff (Ext) (fun _ _ h k => k.then h) (And.intro (fun _ _ _ h e => ext_at e h) (And.intro (fun _ _ _ h e => ext_at e h) (And.intro (fun _ _ _ h e => ext_at e h) (And.intro (fun _ _ _ h e => (h.ext e).mono e.size) (trivial))))) ?_) ?_
    · intro act W hR hf ho hu K hK
      replace hK := fun v (w' : World) (h1 : (Ext) W w') (b3 : (OwnM w.heap.size [(rightC c, 1), (c.tag, 41), (sealB c true, 42)]) (v) w') => hK v w' h1 trivial ⟨b3, trivial⟩
      have F : act.tmps[8]?.getD undef = _ ∧ act.tmps[10]?.getD undef = _ ∧ act.tmps[12]?.getD undef = _ ∧ True := hf
      obtain ⟨f1, f3, f5, -⟩ := F
      have U : (fun (_ : Value) (W : World) => W.heap[w.heap.size]? = some (.cells c.cells.toArray 24)) (undef) W ∧ (fun (_ : Value) (W : World) => W.heap[w.heap.size + 1]? = some (.cells d.cells.toArray 24)) (undef) W ∧ (fun (_ : Value) (W : World) => W.heap[w.heap.size + 1 + 1]? = some (.cells zeroCells 24)) (undef) W ∧ True := hu
      obtain ⟨r_bc, r_bd, r_br, -⟩ := U
      clear ho hf hu
      go_simp
      exact hK _ _ (by repeat first | (with_reducible exact Below.refl _ _) | (with_reducible apply Ext.alloc) | (with_reducible apply Ext.drew) | (with_reducible apply Ext.drewN) | (with_reducible refine Ext.set ?_ (by simp))) (own_lit W w.heap.size 87 2 3 (mustCells [(rightC c, 1), (c.tag, 41), (sealB c true, 42)]) (hR EU.out).size rfl (by simp [maxLen]))
    refine And.intro (obX_pure (fun _ k => k) ?_) ?_
    · intro act W hR hf ho hu K hK
      replace hK := fun v h2 => hK v W rfl h2 trivial
      have G : act.tmps[3]?.getD undef = _ ∧ True := ho
      obtain ⟨g3, -⟩ := G
      have U : (fun (_ : Value) (W : World) => W.heap[w.heap.size]? = some (.cells c.cells.toArray 24)) (undef) W ∧ (fun (_ : Value) (W : World) => W.heap[w.heap.size + 1]? = some (.cells d.cells.toArray 24)) (undef) W ∧ (fun (_ : Value) (W : World) => W.heap[w.heap.size + 1 + 1]? = some (.cells zeroCells 24)) (undef) W ∧ True := hu
      obtain ⟨r_bc, r_bd, r_br, -⟩ := U
      clear ho hf hu
      obtain ⟨z0, z1, z2, z3, z4, z5⟩ := lie6' r_bd (Below.refl _ W)
      go_simp
      exact hK _ (Eq.refl _)
    refine And.intro (obX_eff (Ext) (fun _ _ h k => k.then h) (And.intro (fun _ _ _ h e => ext_at e h) (And.intro (fun _ _ _ h e => ext_at e h) (And.intro (fun _ _ _ h e => ext_at e h) (And.intro (fun _ _ _ h e => h.ext e) (trivial))))) ?_) ?_
    · intro act W hR hf ho hu K hK
      replace hK := fun v (w' : World) (h1 : (Ext) W w') (b4 : (fun (v : Value) (W : World) => Lies W.heap.size W v 6 (mustCells (authoL d 64))) (v) w') => hK v w' h1 trivial ⟨b4, trivial⟩
      have F : act.tmps[14]?.getD undef = _ ∧ act.tmps[12]?.getD undef = _ ∧ True := hf
      obtain ⟨f7, f5, -⟩ := F
      have U : (fun (_ : Value) (W : World) => W.heap[w.heap.size]? = some (.cells c.cells.toArray 24)) (undef) W ∧ (fun (_ : Value) (W : World) => W.heap[w.heap.size + 1]? = some (.cells d.cells.toArray 24)) (undef) W ∧ (fun (_ : Value) (W : World) => W.heap[w.heap.size + 1 + 1]? = some (.cells zeroCells 24)) (undef) W ∧ True := hu
      obtain ⟨r_bc, r_bd, r_br, -⟩ := U
      clear ho hf hu
      go_simp
      refine (autho_any d 64 _ hd (by unfold i64ok'; omega)).mono ?_; rintro _ W1 ⟨v, rfl, ho, hE⟩; exact hK _ _ hE (Lies.own ho)
    refine And.intro (obX_eff (Only w.heap.size [87]) (fun _ _ h k => Only.below k (Nat.le_refl _) h) (And.intro (fun _ _ _ h e => e.row h (by decide)) (And.intro (fun _ _ _ h e => e.row h (by decide)) (And.intro (fun _ _ _ h e => e.row h (by decide)) (trivial)))) ?_) ?_
    · intro act W hR hf ho hu K hK
      replace hK := fun v (w' : World) (h1 : (Only w.heap.size [87]) W w') (b5 : (OwnM w.heap.size (unsealL c d)) (v) w') => hK v w' h1 trivial ⟨b5, trivial⟩
      have F : (fun _ _ => True) (act.tmps[13]?.getD undef) W ∧ (fun _ _ => True) (act.tmps[15]?.getD undef) W ∧ (fun _ _ => True) (act.tmps[15]?.getD undef) W ∧ True := hf
      obtain ⟨-, -, -, -⟩ := F
      have U : (fun (_ : Value) (W : World) => W.heap[w.heap.size]? = some (.cells c.cells.toArray 24)) (undef) W ∧ (fun (_ : Value) (W : World) => W.heap[w.heap.size + 1]? = some (.cells d.cells.toArray 24)) (undef) W ∧ (fun (_ : Value) (W : World) => W.heap[w.heap.size + 1 + 1]? = some (.cells zeroCells 24)) (undef) W ∧ (OwnM w.heap.size [(rightC c, 1), (c.tag, 41), (sealB c true, 42)]) (act.tmps[13]?.getD undef) W ∧ (fun (v : Value) (W : World) => Lies W.heap.size W v 6 (mustCells (authoL d 64))) (act.tmps[15]?.getD undef) W ∧ True := hu
      obtain ⟨r_bc, r_bd, r_br, r_n6, r_n8, -⟩ := U
      generalize f6 : act.tmps[13]?.getD undef = v6 at r_n6
      generalize f8 : act.tmps[15]?.getD undef = v8 at r_n8
      clear ho hf hu
      rw [← seen_eq]; refine step_append_src W rfl (.tmp 13) (.tmp 15) 84 rfl w.heap.size 87 i0 (.agg #[.bool false, .int .i64 0]) 2 16 Try.underlying84 hi hz0 hz1 hz2 rfl (by decide) _ _ _ (eval_get f6) r_n6 _ 6 (mustCells (authoL d 64)) (eval_get f8) (r_n8) rfl (mustCells_one _) (by show (3 + 6 : Nat) ≤ maxLen; unfold maxLen; omega) (by show (3 + 6) * 16 ≤ 140737488355328; omega) (hR EU.out).size ?_; intro v' w' ho' hg' _; exact hK _ _ (Only.grown r_n6 hg' (by simp)) (OwnM.app ho' rfl rfl)
    refine And.intro (obX_pure (fun _ k => k) ?_) ?_
    · intro act W hR hf ho hu K hK
      replace hK := fun v (b6 : (OwnM w.heap.size (unsealL c d)) (v) W) => hK v W rfl trivial ⟨b6, trivial⟩
      have F : (fun _ _ => True) (act.tmps[16]?.getD undef) W ∧ (fun _ _ => True) (act.tmps[16]?.getD undef) W ∧ act.tmps[7]?.getD undef = _ ∧ act.tmps[8]?.getD undef = _ ∧ act.tmps[9]?.getD undef = _ ∧ act.tmps[10]?.getD undef = _ ∧ act.tmps[11]?.getD undef = _ ∧ act.tmps[12]?.getD undef = _ ∧ (fun _ _ => True) (act.tmps[13]?.getD undef) W ∧ act.tmps[14]?.getD undef = _ ∧ (fun _ _ => True) (act.tmps[15]?.getD undef) W ∧ (fun _ _ => True) (act.tmps[16]?.getD undef) W ∧ True := hf
      obtain ⟨-, -, f0, f1, f2, f3, f4, f5, -, f7, -, -, -⟩ := F
      have U : (fun (_ : Value) (W : World) => W.heap[w.heap.size]? = some (.cells c.cells.toArray 24)) (undef) W ∧ (fun (_ : Value) (W : World) => W.heap[w.heap.size + 1]? = some (.cells d.cells.toArray 24)) (undef) W ∧ (fun (_ : Value) (W : World) => W.heap[w.heap.size + 1 + 1]? = some (.cells zeroCells 24)) (undef) W ∧ (OwnM w.heap.size (unsealL c d)) (act.tmps[16]?.getD undef) W ∧ True := hu
      obtain ⟨r_bc, r_bd, r_br, r_r9, -⟩ := U
      generalize f9 : act.tmps[16]?.getD undef = v9 at r_r9
      generalize f6 : act.tmps[13]?.getD undef = v6
      generalize f8 : act.tmps[15]?.getD undef = v8
      clear ho hf hu
      go_simp
      exact hK _ r_r9
    exact trivial
  case stab =>
    refine And.intro is_stable ?_
    refine And.intro is_stable ?_
    refine And.intro is_stable ?_
    refine And.intro is_stable ?_
    refine And.intro is_stable ?_
    refine And.intro is_stable ?_
    refine And.intro (fun _ _ _ h _ => h) ?_
    refine And.intro is_stable ?_
    refine And.intro (fun _ _ _ h _ => h) ?_
    refine And.intro (fun _ _ _ h _ => h) ?_
    refine And.intro (fun _ _ _ h _ => h) ?_
    exact trivial
  case ends =>
    intro vals W hR hE hall
    have E : (fun (_ : Value) (W : World) => W.heap[w.heap.size]? = some (.cells c.cells.toArray 24)) (undef) W ∧ (fun (_ : Value) (W : World) => W.heap[w.heap.size + 1]? = some (.cells d.cells.toArray 24)) (undef) W ∧ (fun (_ : Value) (W : World) => W.heap[w.heap.size + 1 + 1]? = some (.cells zeroCells 24)) (undef) W ∧ (OwnM w.heap.size (unsealL c d)) (vals 6) W ∧ True := hE
    obtain ⟨e_bc, e_bd, e_br, e_row, -⟩ := E
    clear hE
    clear hall
    generalize ev6 : vals 6 = x6 at e_row
    simp only [fill, List.setIfInBounds_toArray, List.set_cons_succ, List.set_cons_zero, ev6]
    obtain ⟨A6, c6, rfl, -, -⟩ := Arr.own e_row
    rename World => V
    have EV : Hid (Ext w V.drew) := Lib.hid (Ext.drew (hR EU.out))
    have Vbc : Hid (V.drew.heap[w.heap.size]? = some (.cells c.cells.toArray 24)) := Lib.hid e_bc
    have Vbd : Hid (V.drew.heap[w.heap.size + 1]? = some (.cells d.cells.toArray 24)) := Lib.hid e_bd
    have Vbr : Hid (V.drew.heap[w.heap.size + 1 + 1]? = some (.cells zeroCells 24)) := Lib.hid e_br
    have VL : Hid (OwnM w.heap.size (unsealL c d) (.slice A6 (unsealL c d).length c6) V.drew) := Lib.hid (OwnM.ext e_row (Ext.drew (Below.refl _ _)))
    clear e_row e_br e_bc e_bd EU HU Hbr hR Hbc Hbd
    go_wp2_with fail
    refine wp_region_res (fun x y => Ext w x → Ext w y) [⟨none, [], []⟩, ⟨none, [], []⟩, ⟨none, [], [13]⟩, ⟨some 13, [], []⟩, ⟨none, [], [9]⟩, ⟨some 8, [(8, [])], [9]⟩, ⟨some 9, [(9, [])], [10]⟩] [(fun (u : Nat → Value) (W : World) => (fun (_ : Value) (W : World) => W.heap[w.heap.size]? = some (.cells c.cells.toArray 24)) (undef) W), (fun (u : Nat → Value) (W : World) => (fun (_ : Value) (W : World) => W.heap[w.heap.size + 1]? = some (.cells d.cells.toArray 24)) (undef) W), (fun (u : Nat → Value) (W : World) => (fun (_ : Value) (W : World) => W.heap[w.heap.size + 1 + 1]? = some (.cells zeroCells 24)) (undef) W), (fun (u : Nat → Value) (W : World) => (fun (_ : Value) (W : World) => W.heap[w.heap.size + 1 + 1]? = some (.cells X.1.cells.toArray 24)) (undef) W), (fun (u : Nat → Value) (W : World) => (fun (_ : Value) (W : World) => OwnM w.heap.size (unsealL c d) (.slice A6 (unsealL c d).length c6) W) (undef) W), (fun (u : Nat → Value) (W : World) => (NewLit 0 1 (mustCells [(d.at' == c.ty, 45)]) 87) (u 8) W), (fun (u : Nat → Value) (W : World) => (OwnM w.heap.size L) (u 9) W)] [⟨[(0, []), (1, [])], [.keep, .keep, .keep, .early [0], .keep, .keep, .keep]⟩, ⟨[(0, []), (1, [])], [.keep, .keep, .keep, .early [1], .keep, .keep, .early [1]]⟩, ⟨[(0, []), (1, [])], [.keep, .keep, .keep, .early [2], .keep, .early [7, 6, 3, 2], .early [8, 7, 6, 3, 2]]⟩, ⟨[(0, []), (1, [])], [.keep, .keep, .keep, .early [3], .keep, .early [7, 6, 3], .early [8, 7, 6, 3]]⟩, ⟨[(0, []), (1, [])], [.keep, .keep, .keep, .early [4], .keep, .early [7, 6, 5, 4], .early [8, 7, 6, 5, 4]]⟩, ⟨[(0, []), (1, [])], [.keep, .keep, .keep, .early [5], .keep, .early [7, 6, 5], .early [8, 7, 6, 5]]⟩, ⟨[(0, []), (1, [])], [.keep, .keep, .keep, .early [6], .keep, .early [7, 6], .early [8, 7, 6]]⟩, ⟨[(0, []), (1, [])], [.keep, .keep, .keep, .early [7], .keep, .early [7], .early [8, 7]]⟩, ⟨[(0, []), (1, [])], [.keep, .keep, .keep, .early [8], .keep, .last, .early [8]]⟩, ⟨[(0, []), (1, []), (4, []), (5, [8])], [.keep, .keep, .keep, .early [9], .late [[]], .late [[]], .last]⟩, ⟨[(0, []), (1, []), (6, [9])], [.keep, .keep, .keep, .early [10], .late [[9]], .late [[9]], .late [[]]]⟩, ⟨[(0, []), (1, [])], [.keep, .keep, .keep, .early [11], .late [[10, 9]], .late [[10, 9]], .late [[10]]]⟩, ⟨[(0, []), (1, [])], [.keep, .keep, .keep, .early [12], .late [[10, 9]], .late [[10, 9]], .late [[10]]]⟩, ⟨[(0, []), (1, []), (2, [])], [.keep, .keep, .late [[]], .last, .late [[9]], .late [[9]], .late [[10]]]⟩, ⟨[(0, []), (1, []), (3, [13])], [.keep, .keep, .late [[13]], .keep, .late [[9]], .late [[9]], .late [[10]]]⟩] [17, 18, 19, 20, 21, 22, 23, 24, 25, 26, 27, 28, 29, 5] (by kernel_rfl) (fun _ k => k) (fun _ _ _ h k e => k (h e)) (by kernel_rfl) (by kernel_rfl) (by kernel_rfl) (by kernel_rfl) (by kernel_rfl) ?start ?_
    case start =>
      refine And.intro ?_ ?_
      · exact Vbc.out
      refine And.intro ?_ ?_
      · exact Vbd.out
      refine And.intro ?_ ?_
      · exact Vbr.out
      refine And.intro ?_ ?_
      · exact VL.out
      exact trivial
    apply ex_is; apply Exists.intro
    apply ex_is; apply Exists.intro
    apply ex_is; apply Exists.intro
    apply ex_is; apply Exists.intro
    apply ex_is; apply Exists.intro
    apply ex_is; apply Exists.intro
    apply ex_is; apply Exists.intro
    apply ex_is; apply Exists.intro
    refine ex_phi (fun _ _ => True) ?_
    refine ex_phi (fun _ _ => True) ?_
    apply ex_is; apply Exists.intro
    apply ex_is; apply Exists.intro
    apply ex_is; apply Exists.intro
    refine ex_phi (fun _ _ => True) ?_
    apply ex_is; apply Exists.intro
    refine ⟨[], ⟨?steps, ?stab, ?ends⟩⟩
    case steps =>
      refine And.intro (obX_pure (fun _ k => k) ?_) ?_
      · intro act W hR hf ho hu K hK
        replace hK := fun v h2 => hK v W rfl h2 trivial
        have G : act.tmps[2]?.getD undef = _ ∧ True := ho
        obtain ⟨g2, -⟩ := G
        have U : (fun (_ : Value) (W : World) => W.heap[w.heap.size]? = some (.cells c.cells.toArray 24)) (undef) W ∧ (fun (_ : Value) (W : World) => W.heap[w.heap.size + 1]? = some (.cells d.cells.toArray 24)) (undef) W ∧ True := hu
        obtain ⟨r_bc, r_bd, -⟩ := U
        clear ho hf hu
        obtain ⟨y0, y1, y2, y3, y4, y5⟩ := lie6' r_bc (Below.refl _ W)
        go_simp
        exact hK _ (Eq.refl _)
      refine And.intro (obX_pure (fun _ k => k) ?_) ?_
      · intro act W hR hf ho hu K hK
        replace hK := fun v h2 => hK v W rfl h2 trivial
        have G : act.tmps[6]?.getD undef = _ ∧ True := ho
        obtain ⟨g6, -⟩ := G
        have U : (fun (_ : Value) (W : World) => W.heap[w.heap.size]? = some (.cells c.cells.toArray 24)) (undef) W ∧ (fun (_ : Value) (W : World) => W.heap[w.heap.size + 1]? = some (.cells d.cells.toArray 24)) (undef) W ∧ True := hu
        obtain ⟨r_bc, r_bd, -⟩ := U
        clear ho hf hu
        go_simp
        exact hK _ (Eq.refl _)
      refine And.intro (obX_pure (fun _ k => k) ?_) ?_
      · intro act W hR hf ho hu K hK
        replace hK := fun v h2 => hK v W rfl h2 trivial
        have G : act.tmps[3]?.getD undef = _ ∧ True := ho
        obtain ⟨g3, -⟩ := G
        have U : (fun (_ : Value) (W : World) => W.heap[w.heap.size]? = some (.cells c.cells.toArray 24)) (undef) W ∧ (fun (_ : Value) (W : World) => W.heap[w.heap.size + 1]? = some (.cells d.cells.toArray 24)) (undef) W ∧ True := hu
        obtain ⟨r_bc, r_bd, -⟩ := U
        clear ho hf hu
        go_simp
        exact hK _ (Eq.refl _)
      refine And.intro (obX_pure (fun _ k => k) ?_) ?_
      · intro act W hR hf ho hu K hK
        replace hK := fun v h2 => hK v W rfl h2 trivial
        have F : act.tmps[19]?.getD undef = _ ∧ True := hf
        obtain ⟨f2, -⟩ := F
        have U : (fun (_ : Value) (W : World) => W.heap[w.heap.size]? = some (.cells c.cells.toArray 24)) (undef) W ∧ (fun (_ : Value) (W : World) => W.heap[w.heap.size + 1]? = some (.cells d.cells.toArray 24)) (undef) W ∧ True := hu
        obtain ⟨r_bc, r_bd, -⟩ := U
        clear ho hf hu
        obtain ⟨z0, z1, z2, z3, z4, z5⟩ := lie6' r_bd (Below.refl _ W)
        go_simp
        exact hK _ (Eq.refl _)
      refine And.intro (obX_pure (fun _ k => k) ?_) ?_
      · intro act W hR hf ho hu K hK
        replace hK := fun v h2 => hK v W rfl h2 trivial
        have G : act.tmps[2]?.getD undef = _ ∧ True := ho
        obtain ⟨g2, -⟩ := G
        have U : (fun (_ : Value) (W : World) => W.heap[w.heap.size]? = some (.cells c.cells.toArray 24)) (undef) W ∧ (fun (_ : Value) (W : World) => W.heap[w.heap.size + 1]? = some (.cells d.cells.toArray 24)) (undef) W ∧ True := hu
        obtain ⟨r_bc, r_bd, -⟩ := U
        clear ho hf hu
        go_simp
        exact hK _ (Eq.refl _)
      refine And.intro (obX_pure (fun _ k => k) ?_) ?_
      · intro act W hR hf ho hu K hK
        replace hK := fun v h2 => hK v W rfl h2 trivial
        have F : act.tmps[21]?.getD undef = _ ∧ True := hf
        obtain ⟨f4, -⟩ := F
        have U : (fun (_ : Value) (W : World) => W.heap[w.heap.size]? = some (.cells c.cells.toArray 24)) (undef) W ∧ (fun (_ : Value) (W : World) => W.heap[w.heap.size + 1]? = some (.cells d.cells.toArray 24)) (undef) W ∧ True := hu
        obtain ⟨r_bc, r_bd, -⟩ := U
        clear ho hf hu
        obtain ⟨y0, y1, y2, y3, y4, y5⟩ := lie6' r_bc (Below.refl _ W)
        go_simp
        exact hK _ (Eq.refl _)
      refine And.intro (obX_pure (fun _ k => k) ?_) ?_
      · intro act W hR hf ho hu K hK
        replace hK := fun v h2 => hK v W rfl h2 trivial
        have F : act.tmps[20]?.getD undef = _ ∧ act.tmps[22]?.getD undef = _ ∧ True := hf
        obtain ⟨f3, f5, -⟩ := F
        have U : (fun (_ : Value) (W : World) => W.heap[w.heap.size]? = some (.cells c.cells.toArray 24)) (undef) W ∧ (fun (_ : Value) (W : World) => W.heap[w.heap.size + 1]? = some (.cells d.cells.toArray 24)) (undef) W ∧ True := hu
        obtain ⟨r_bc, r_bd, -⟩ := U
        clear ho hf hu
        go_simp
        exact hK _ (Eq.refl _)
      refine And.intro (obX_pure (fun _ k => k) ?_) ?_
      · intro act W hR hf ho hu K hK
        replace hK := fun v h2 => hK v W rfl h2 trivial
        have F : act.tmps[23]?.getD undef = _ ∧ True := hf
        obtain ⟨f6, -⟩ := F
        have U : (fun (_ : Value) (W : World) => W.heap[w.heap.size]? = some (.cells c.cells.toArray 24)) (undef) W ∧ (fun (_ : Value) (W : World) => W.heap[w.heap.size + 1]? = some (.cells d.cells.toArray 24)) (undef) W ∧ True := hu
        obtain ⟨r_bc, r_bd, -⟩ := U
        clear ho hf hu
        go_simp
        exact hK _ (Eq.refl _)
      refine And.intro (obX_eff (Ext) (fun _ _ h k => k.then h) (And.intro (fun _ _ _ h e => ext_at e h) (And.intro (fun _ _ _ h e => ext_at e h) (And.intro (fun _ _ _ h e => ext_at e h) (And.intro (fun _ _ _ h e => h.ext e) (trivial))))) ?_) ?_
      · intro act W hR hf ho hu K hK
        replace hK := fun v (w' : World) (h1 : (Ext) W w') (b5 : (NewLit 0 1 (mustCells [(d.at' == c.ty, 45)]) 87) (v) w') => hK v w' h1 trivial ⟨b5, trivial⟩
        have F : act.tmps[24]?.getD undef = _ ∧ True := hf
        obtain ⟨f7, -⟩ := F
        have U : (fun (_ : Value) (W : World) => W.heap[w.heap.size]? = some (.cells c.cells.toArray 24)) (undef) W ∧ (fun (_ : Value) (W : World) => W.heap[w.heap.size + 1]? = some (.cells d.cells.toArray 24)) (undef) W ∧ True := hu
        obtain ⟨r_bc, r_bd, -⟩ := U
        clear ho hf hu
        go_simp
        exact hK _ _ (by repeat first | (with_reducible exact Below.refl _ _) | (with_reducible apply Ext.alloc) | (with_reducible apply Ext.drew) | (with_reducible apply Ext.drewN) | (with_reducible refine Ext.set ?_ (by simp))) (NewLit.new (Nat.zero_le _))
      refine And.intro (obX_eff (Only w.heap.size [87]) (fun _ _ h k => Only.below k (Nat.le_refl _) h) (And.intro (fun _ _ _ h e => e.row h (by decide)) (And.intro (fun _ _ _ h e => e.row h (by decide)) (And.intro (fun _ _ _ h e => e.row h (by decide)) (trivial)))) ?_) ?_
      · intro act W hR hf ho hu K hK
        replace hK := fun v (w' : World) (h1 : (Only w.heap.size [87]) W w') (b6 : (OwnM w.heap.size L) (v) w') => hK v w' h1 trivial ⟨b6, trivial⟩
        have F : act.tmps[18]?.getD undef = _ ∧ (fun _ _ => True) (act.tmps[25]?.getD undef) W ∧ True := hf
        obtain ⟨f1, -, -⟩ := F
        have U : (fun (_ : Value) (W : World) => W.heap[w.heap.size]? = some (.cells c.cells.toArray 24)) (undef) W ∧ (fun (_ : Value) (W : World) => W.heap[w.heap.size + 1]? = some (.cells d.cells.toArray 24)) (undef) W ∧ (fun (_ : Value) (W : World) => OwnM w.heap.size (unsealL c d) (.slice A6 (unsealL c d).length c6) W) (undef) W ∧ (NewLit 0 1 (mustCells [(d.at' == c.ty, 45)]) 87) (act.tmps[25]?.getD undef) W ∧ True := hu
        obtain ⟨r_bc, r_bd, r_r1, r_n8, -⟩ := U
        generalize f8 : act.tmps[25]?.getD undef = v8 at r_n8
        clear ho hf hu
        obtain ⟨b3, rfl, -, hl3⟩ := r_n8
        dsimp only [Option.elim] at f1
        rw [← seen_eq]; refine step_append_src W rfl (.tmp 18) (.tmp 25) 84 rfl w.heap.size 87 i0 (.agg #[.bool false, .int .i64 0]) 2 16 Try.underlying84 hi hz0 hz1 hz2 rfl (by decide) _ _ _ (eval_get f1) r_r1 _ 1 (mustCells [(d.at' == c.ty, 45)]) (eval_get f8) (lies_lit hl3) rfl (mustCells_one _) (by show (9 + 1 : Nat) ≤ maxLen; unfold maxLen; omega) (by show (9 + 1) * 16 ≤ 140737488355328; omega) (hR EV.out).size ?_; intro v' w' ho' hg' _; exact hK _ _ (Only.grown r_r1 hg' (by simp)) (HL.out ▸ OwnM.app ho' rfl rfl)
      refine And.intro (obX_eff (Ext) (fun _ _ h k => k.then h) (And.intro (fun _ _ _ h e => ext_at e h) (And.intro (fun _ _ _ h e => ext_at e h) (And.intro (fun _ _ _ h e => ext_at e h) (trivial)))) ?_) ?_
      · intro act W hR hf ho hu K hK
        replace hK := fun v (w' : World) (h1 : (Ext) W w') h2 => hK v w' h1 h2 trivial
        have F : act.tmps[17]?.getD undef = _ ∧ (fun _ _ => True) (act.tmps[26]?.getD undef) W ∧ (fun _ _ => True) (act.tmps[26]?.getD undef) W ∧ True := hf
        obtain ⟨f0, -, -, -⟩ := F
        have U : (fun (_ : Value) (W : World) => W.heap[w.heap.size]? = some (.cells c.cells.toArray 24)) (undef) W ∧ (fun (_ : Value) (W : World) => W.heap[w.heap.size + 1]? = some (.cells d.cells.toArray 24)) (undef) W ∧ (OwnM w.heap.size L) (act.tmps[26]?.getD undef) W ∧ True := hu
        obtain ⟨r_bc, r_bd, r_r8, -⟩ := U
        generalize f9 : act.tmps[26]?.getD undef = v9 at r_r8
        clear ho hf hu
        obtain ⟨A8, c8, rfl, -, ha8⟩ := Arr.own r_r8
        go_simp
        refine (made_any (typeF 0) 82 #[] c A8 c8 L _ ha8 hll.out (enters_of Try.func82 (by kernel_rfl) rfl) (fun W' b hE' hb' h' => unseal1_any c b W' h')).mono ?_; rintro _ W1 ⟨rfl, hE⟩; rw [← HX.out]; exact hK _ _ hE (Eq.refl _)
      refine And.intro (obX_pure (fun _ k => k) ?_) ?_
      · intro act W hR hf ho hu K hK
        replace hK := fun v h2 => hK v W rfl h2 trivial
        have F : act.tmps[27]?.getD undef = _ ∧ True := hf
        obtain ⟨f10, -⟩ := F
        have U : (fun (_ : Value) (W : World) => W.heap[w.heap.size]? = some (.cells c.cells.toArray 24)) (undef) W ∧ (fun (_ : Value) (W : World) => W.heap[w.heap.size + 1]? = some (.cells d.cells.toArray 24)) (undef) W ∧ True := hu
        obtain ⟨r_bc, r_bd, -⟩ := U
        clear ho hf hu
        go_simp
        exact hK _ (Eq.refl _)
      refine And.intro (obX_pure (fun _ k => k) ?_) ?_
      · intro act W hR hf ho hu K hK
        replace hK := fun v h2 => hK v W rfl h2 trivial
        have F : act.tmps[27]?.getD undef = _ ∧ True := hf
        obtain ⟨f10, -⟩ := F
        have U : (fun (_ : Value) (W : World) => W.heap[w.heap.size]? = some (.cells c.cells.toArray 24)) (undef) W ∧ (fun (_ : Value) (W : World) => W.heap[w.heap.size + 1]? = some (.cells d.cells.toArray 24)) (undef) W ∧ True := hu
        obtain ⟨r_bc, r_bd, -⟩ := U
        clear ho hf hu
        go_simp
        exact hK _ (Eq.refl _)
      refine And.intro (obX_eff (fun x y => World.grownBy x y (some (w.heap.size + 1 + 1))) (fun _ _ h k => ext_grown k h (by omega)) (And.intro (fun _ _ _ h e => grown_at e h (by omega)) (And.intro (fun _ _ _ h e => grown_at e h (by omega)) (trivial))) ?_) ?_
      · intro act W hR hf ho hu K hK
        replace hK := fun (w' : World) (h1 : (fun x y => World.grownBy x y (some (w.heap.size + 1 + 1))) W w') (b3 : (fun (_ : Value) (W : World) => W.heap[w.heap.size + 1 + 1]? = some (.cells X.1.cells.toArray 24)) (undef) w') => hK undef w' h1 trivial ⟨b3, trivial⟩
        have G : act.tmps[4]?.getD undef = _ ∧ True := ho
        obtain ⟨g4, -⟩ := G
        have F : act.tmps[28]?.getD undef = _ ∧ act.tmps[27]?.getD undef = _ ∧ act.tmps[17]?.getD undef = _ ∧ act.tmps[18]?.getD undef = _ ∧ act.tmps[19]?.getD undef = _ ∧ act.tmps[20]?.getD undef = _ ∧ act.tmps[21]?.getD undef = _ ∧ act.tmps[22]?.getD undef = _ ∧ act.tmps[23]?.getD undef = _ ∧ act.tmps[24]?.getD undef = _ ∧ (fun _ _ => True) (act.tmps[25]?.getD undef) W ∧ (fun _ _ => True) (act.tmps[26]?.getD undef) W ∧ act.tmps[27]?.getD undef = _ ∧ act.tmps[28]?.getD undef = _ ∧ act.tmps[29]?.getD undef = _ ∧ True := hf
        obtain ⟨f11, f10, f0, f1, f2, f3, f4, f5, f6, f7, -, -, -, -, f12, -⟩ := F
        have U : (fun (_ : Value) (W : World) => W.heap[w.heap.size]? = some (.cells c.cells.toArray 24)) (undef) W ∧ (fun (_ : Value) (W : World) => W.heap[w.heap.size + 1]? = some (.cells d.cells.toArray 24)) (undef) W ∧ (fun (_ : Value) (W : World) => W.heap[w.heap.size + 1 + 1]? = some (.cells zeroCells 24)) (undef) W ∧ True := hu
        obtain ⟨r_bc, r_bd, r_br, -⟩ := U
        generalize f8 : act.tmps[25]?.getD undef = v8
        generalize f9 : act.tmps[26]?.getD undef = v9
        clear ho hf hu
        have fz := frozen_row' r_br; obtain ⟨q0, q1, q2, q3, q4, q5⟩ := lie6' r_br (Below.refl _ _); have hlq := cell_lt q0; simp only at hlq; have hq := set_cells6 r_br (.bool X.1.tag) (.int .i64 X.1.base) (.int .i64 X.1.top) (.int .i64 X.1.at') (.int .i64 X.1.perms) (.int .i64 X.1.ty)
        go_simp
        exact hK _ grown_set6 hq
      refine And.intro (obX_pure (fun _ k => k) ?_) ?_
      · intro act W hR hf ho hu K hK
        replace hK := fun v h2 => hK v W rfl h2 trivial
        have F : act.tmps[29]?.getD undef = _ ∧ (fun _ _ => True) (undef) W ∧ act.tmps[17]?.getD undef = _ ∧ act.tmps[18]?.getD undef = _ ∧ act.tmps[19]?.getD undef = _ ∧ act.tmps[20]?.getD undef = _ ∧ act.tmps[21]?.getD undef = _ ∧ act.tmps[22]?.getD undef = _ ∧ act.tmps[23]?.getD undef = _ ∧ act.tmps[24]?.getD undef = _ ∧ (fun _ _ => True) (act.tmps[25]?.getD undef) W ∧ (fun _ _ => True) (act.tmps[26]?.getD undef) W ∧ act.tmps[27]?.getD undef = _ ∧ act.tmps[28]?.getD undef = _ ∧ act.tmps[29]?.getD undef = _ ∧ (fun _ _ => True) (undef) W ∧ True := hf
        obtain ⟨f12, -, f0, f1, f2, f3, f4, f5, f6, f7, -, -, f10, f11, -, -, -⟩ := F
        have U : (fun (_ : Value) (W : World) => W.heap[w.heap.size]? = some (.cells c.cells.toArray 24)) (undef) W ∧ (fun (_ : Value) (W : World) => W.heap[w.heap.size + 1]? = some (.cells d.cells.toArray 24)) (undef) W ∧ (fun (_ : Value) (W : World) => W.heap[w.heap.size + 1 + 1]? = some (.cells X.1.cells.toArray 24)) (undef) W ∧ True := hu
        obtain ⟨r_bc, r_bd, r_out, -⟩ := U
        generalize f8 : act.tmps[25]?.getD undef = v8
        generalize f9 : act.tmps[26]?.getD undef = v9
        clear ho hf hu
        go_simp
        exact hK _ (Eq.refl _)
      exact trivial
    case stab =>
      refine And.intro is_stable ?_
      refine And.intro is_stable ?_
      refine And.intro is_stable ?_
      refine And.intro is_stable ?_
      refine And.intro is_stable ?_
      refine And.intro is_stable ?_
      refine And.intro is_stable ?_
      refine And.intro is_stable ?_
      refine And.intro (fun _ _ _ h _ => h) ?_
      refine And.intro (fun _ _ _ h _ => h) ?_
      refine And.intro is_stable ?_
      refine And.intro is_stable ?_
      refine And.intro is_stable ?_
      refine And.intro (fun _ _ _ h _ => h) ?_
      refine And.intro is_stable ?_
      exact trivial
    case ends =>
      intro vals W hR hE hall
      have E : (fun (_ : Value) (W : World) => W.heap[w.heap.size]? = some (.cells c.cells.toArray 24)) (undef) W ∧ (fun (_ : Value) (W : World) => W.heap[w.heap.size + 1]? = some (.cells d.cells.toArray 24)) (undef) W ∧ (fun (_ : Value) (W : World) => W.heap[w.heap.size + 1 + 1]? = some (.cells X.1.cells.toArray 24)) (undef) W ∧ True := hE
      obtain ⟨e_bc, e_bd, e_out, -⟩ := E
      clear hE
      have e5 : vals 5 = _ := hall 14 (by decide)
      clear hall
      simp only [fill, List.setIfInBounds_toArray, List.set_cons_succ, List.set_cons_zero, e5]
      obtain ⟨c0, c1, c2, c3, c4, c5⟩ := lie6' e_out (Below.refl _ _)
      go_wp2_with fail
      exact bodyPost_ret (v := .tuple #[X.1.val, .int .i64 X.2]) (by simp [results, Try.results50, go_sem, c0, c1, c2, c3, c4, c5]) rfl ⟨rfl, (by repeat first | (with_reducible exact Below.refl _ _) | (with_reducible apply Ext.alloc) | (with_reducible apply Ext.drew) | (with_reducible apply Ext.drewN) | (with_reducible refine Ext.set ?_ (by simp)) | (with_reducible refine Ext.then ?_ (hR EV.out)))⟩
set_option maxHeartbeats 2000000 in
set_option maxRecDepth 20000 in
theorem build_any (c d : Cap) (w : World) (hc : CapWf c) (hd : CapWf d) : Calls Try.prog 52 #[c.val, d.val] w (TupPost w (buildD c d)) := by
  obtain ⟨i0, hi, hz0, hz1, hz2⟩ := info_parts infoMust
  obtain ⟨X, hX⟩ : ∃ X, X = buildD c d := ⟨_, rfl⟩
  rw [← hX]
  unfold buildD at hX
  obtain ⟨L, hL⟩ : ∃ L, L = buildL c d ++ [(sealB c false, 42), (hasP d.perms c.perms, 44), (underC c d, 43)] := ⟨_, rfl⟩
  rw [← hL] at hX
  have HX := Lib.hid hX
  have HL := Lib.hid hL
  have hll : Hid (L.length ≤ 1000) := Lib.hid (by rw [hL]; exact (show (7 : Nat) ≤ 1000 by decide))
  obtain ⟨U, hU⟩ : ∃ U, U = ((w.alloc (.cells c.cells.toArray 24)).alloc (.cells d.cells.toArray 24)).alloc (.cells zeroCells 24) := ⟨_, rfl⟩
  have HU := Lib.hid hU
  have EU : Hid (Ext w U.drew) := Lib.hid (by rw [hU]; exact (by repeat first | (with_reducible exact Below.refl _ _) | (with_reducible apply Ext.alloc) | (with_reducible apply Ext.drew) | (with_reducible apply Ext.drewN) | (with_reducible refine Ext.set ?_ (by simp))))
  have Hbc : Hid (U.drew.heap[w.heap.size]? = some (.cells c.cells.toArray 24)) := Lib.hid (by rw [hU]; exact new_at (w := w) (by simp) (Ext.drew (Ext.alloc (Ext.alloc (Below.refl _ _) _) _)))
  have Hbd : Hid (U.drew.heap[w.heap.size + 1]? = some (.cells d.cells.toArray 24)) := Lib.hid (by rw [hU]; exact new_at (w := (w.alloc _)) (by simp) (Ext.drew (Ext.alloc (Below.refl _ _) _)))
  have Hbr : Hid (U.drew.heap[w.heap.size + 1 + 1]? = some (.cells zeroCells 24)) := Lib.hid (by rw [hU]; exact new_at (w := ((w.alloc _).alloc _)) (by simp) (Ext.drew (Below.refl _ _)))
  clear hX hL hU
  go_enter Try.func52, Try.ntmps52
  go_wp2_with fail
  rw [← HU.out]
  refine wp_region_res (fun x y => Ext w x → Ext w y) [⟨none, [], []⟩, ⟨none, [], []⟩, ⟨none, [], []⟩, ⟨some 2, [(2, [])], [5]⟩, ⟨some 4, [(4, [])], [5]⟩, ⟨some 5, [(5, [])], [6]⟩, ⟨some 6, [(6, [])], []⟩] [(fun (u : Nat → Value) (W : World) => (fun (_ : Value) (W : World) => W.heap[w.heap.size]? = some (.cells c.cells.toArray 24)) (undef) W), (fun (u : Nat → Value) (W : World) => (fun (_ : Value) (W : World) => W.heap[w.heap.size + 1]? = some (.cells d.cells.toArray 24)) (undef) W), (fun (u : Nat → Value) (W : World) => (fun (_ : Value) (W : World) => W.heap[w.heap.size + 1 + 1]? = some (.cells zeroCells 24)) (undef) W), (fun (u : Nat → Value) (W : World) => (OwnM w.heap.size [(rightC c, 1)]) (u 2) W), (fun (u : Nat → Value) (W : World) => (fun (v : Value) (W : World) => Lies W.heap.size W v 3 (mustCells (usedL d))) (u 4) W), (fun (u : Nat → Value) (W : World) => (OwnM w.heap.size (buildL c d)) (u 5) W), (fun (u : Nat → Value) (W : World) => (OwnM w.heap.size (buildL c d)) (u 6) W)] [⟨[(0, []), (1, []), (2, [])], [.keep, .keep, .keep, .early [1, 0], .early [1, 0], .early [2, 1, 0], .early [0]]⟩, ⟨[(0, []), (1, []), (2, [])], [.keep, .keep, .keep, .early [1], .early [1], .early [2, 1], .early [1]]⟩, ⟨[(0, []), (1, []), (2, [])], [.keep, .keep, .keep, .last, .keep, .early [2], .early [2]]⟩, ⟨[(0, []), (1, []), (2, [])], [.keep, .keep, .keep, .keep, .early [3], .early [4, 3], .early [3]]⟩, ⟨[(0, []), (1, []), (2, [])], [.keep, .keep, .keep, .keep, .last, .early [4], .early [4]]⟩, ⟨[(0, []), (1, []), (2, []), (3, [2]), (4, [4])], [.keep, .keep, .keep, .late [[]], .late [[]], .last, .early [5]]⟩, ⟨[(0, []), (1, []), (2, []), (5, [5])], [.keep, .keep, .keep, .late [[5]], .late [[5]], .late [[]], .last]⟩] [7, 8, 9, 10, 11, 12, 6] (by kernel_rfl) (fun _ k => k) (fun _ _ _ h k e => k (h e)) (by kernel_rfl) (by kernel_rfl) (by kernel_rfl) (by kernel_rfl) (by kernel_rfl) ?start ?_
  case start =>
    refine And.intro ?_ ?_
    · exact Hbc.out
    refine And.intro ?_ ?_
    · exact Hbd.out
    refine And.intro ?_ ?_
    · exact Hbr.out
    exact trivial
  apply ex_is; apply Exists.intro
  apply ex_is; apply Exists.intro
  refine ex_phi (fun _ _ => True) ?_
  apply ex_is; apply Exists.intro
  refine ex_phi (fun _ _ => True) ?_
  refine ex_phi (fun _ _ => True) ?_
  refine ex_phi (fun _ _ => True) ?_
  refine ⟨[], ⟨?steps, ?stab, ?ends⟩⟩
  case steps =>
    refine And.intro (obX_pure (fun _ k => k) ?_) ?_
    · intro act W hR hf ho hu K hK
      replace hK := fun v h2 => hK v W rfl h2 trivial
      have G : act.tmps[2]?.getD undef = _ ∧ True := ho
      obtain ⟨g2, -⟩ := G
      have U : (fun (_ : Value) (W : World) => W.heap[w.heap.size]? = some (.cells c.cells.toArray 24)) (undef) W ∧ (fun (_ : Value) (W : World) => W.heap[w.heap.size + 1]? = some (.cells d.cells.toArray 24)) (undef) W ∧ (fun (_ : Value) (W : World) => W.heap[w.heap.size + 1 + 1]? = some (.cells zeroCells 24)) (undef) W ∧ True := hu
      obtain ⟨r_bc, r_bd, r_br, -⟩ := U
      clear ho hf hu
      obtain ⟨y0, y1, y2, y3, y4, y5⟩ := lie6' r_bc (Below.refl _ W)
      go_simp
      exact hK _ (Eq.refl _)
    refine And.intro (obX_eff (Ext) (fun _ _ h k => k.then h) (And.intro (fun _ _ _ h e => ext_at e h) (And.intro (fun _ _ _ h e => ext_at e h) (And.intro (fun _ _ _ h e => ext_at e h) (trivial)))) ?_) ?_
    · intro act W hR hf ho hu K hK
      replace hK := fun v (w' : World) (h1 : (Ext) W w') h2 => hK v w' h1 h2 trivial
      have F : act.tmps[7]?.getD undef = _ ∧ True := hf
      obtain ⟨f0, -⟩ := F
      have U : (fun (_ : Value) (W : World) => W.heap[w.heap.size]? = some (.cells c.cells.toArray 24)) (undef) W ∧ (fun (_ : Value) (W : World) => W.heap[w.heap.size + 1]? = some (.cells d.cells.toArray 24)) (undef) W ∧ (fun (_ : Value) (W : World) => W.heap[w.heap.size + 1 + 1]? = some (.cells zeroCells 24)) (undef) W ∧ True := hu
      obtain ⟨r_bc, r_bd, r_br, -⟩ := U
      clear ho hf hu
      go_simp
      refine (right_must c _ hc).mono ?_; rintro _ W1 ⟨rfl, hE⟩; exact hK _ _ hE (Eq.refl _)
    refine And.intro (obX_eff (Ext) (fun _ _ h k => k.then h) (And.intro (fun _ _ _ h e => ext_at e h) (And.intro (fun _ _ _ h e => ext_at e h) (And.intro (fun _ _ _ h e => ext_at e h) (And.intro (fun _ _ _ h e => (h.ext e).mono e.size) (trivial))))) ?_) ?_
    · intro act W hR hf ho hu K hK
      replace hK := fun v (w' : World) (h1 : (Ext) W w') (b3 : (OwnM w.heap.size [(rightC c, 1)]) (v) w') => hK v w' h1 trivial ⟨b3, trivial⟩
      have F : act.tmps[8]?.getD undef = _ ∧ True := hf
      obtain ⟨f1, -⟩ := F
      have U : (fun (_ : Value) (W : World) => W.heap[w.heap.size]? = some (.cells c.cells.toArray 24)) (undef) W ∧ (fun (_ : Value) (W : World) => W.heap[w.heap.size + 1]? = some (.cells d.cells.toArray 24)) (undef) W ∧ (fun (_ : Value) (W : World) => W.heap[w.heap.size + 1 + 1]? = some (.cells zeroCells 24)) (undef) W ∧ True := hu
      obtain ⟨r_bc, r_bd, r_br, -⟩ := U
      clear ho hf hu
      go_simp
      exact hK _ _ (by repeat first | (with_reducible exact Below.refl _ _) | (with_reducible apply Ext.alloc) | (with_reducible apply Ext.drew) | (with_reducible apply Ext.drewN) | (with_reducible refine Ext.set ?_ (by simp))) (own_lit W w.heap.size 87 2 1 (mustCells [(rightC c, 1)]) (hR EU.out).size rfl (by simp [maxLen]))
    refine And.intro (obX_pure (fun _ k => k) ?_) ?_
    · intro act W hR hf ho hu K hK
      replace hK := fun v h2 => hK v W rfl h2 trivial
      have G : act.tmps[3]?.getD undef = _ ∧ True := ho
      obtain ⟨g3, -⟩ := G
      have U : (fun (_ : Value) (W : World) => W.heap[w.heap.size]? = some (.cells c.cells.toArray 24)) (undef) W ∧ (fun (_ : Value) (W : World) => W.heap[w.heap.size + 1]? = some (.cells d.cells.toArray 24)) (undef) W ∧ (fun (_ : Value) (W : World) => W.heap[w.heap.size + 1 + 1]? = some (.cells zeroCells 24)) (undef) W ∧ True := hu
      obtain ⟨r_bc, r_bd, r_br, -⟩ := U
      clear ho hf hu
      obtain ⟨z0, z1, z2, z3, z4, z5⟩ := lie6' r_bd (Below.refl _ W)
      go_simp
      exact hK _ (Eq.refl _)
    refine And.intro (obX_eff (Ext) (fun _ _ h k => k.then h) (And.intro (fun _ _ _ h e => ext_at e h) (And.intro (fun _ _ _ h e => ext_at e h) (And.intro (fun _ _ _ h e => ext_at e h) (And.intro (fun _ _ _ h e => h.ext e) (trivial))))) ?_) ?_
    · intro act W hR hf ho hu K hK
      replace hK := fun v (w' : World) (h1 : (Ext) W w') (b4 : (fun (v : Value) (W : World) => Lies W.heap.size W v 3 (mustCells (usedL d))) (v) w') => hK v w' h1 trivial ⟨b4, trivial⟩
      have F : act.tmps[10]?.getD undef = _ ∧ act.tmps[8]?.getD undef = _ ∧ True := hf
      obtain ⟨f3, f1, -⟩ := F
      have U : (fun (_ : Value) (W : World) => W.heap[w.heap.size]? = some (.cells c.cells.toArray 24)) (undef) W ∧ (fun (_ : Value) (W : World) => W.heap[w.heap.size + 1]? = some (.cells d.cells.toArray 24)) (undef) W ∧ (fun (_ : Value) (W : World) => W.heap[w.heap.size + 1 + 1]? = some (.cells zeroCells 24)) (undef) W ∧ True := hu
      obtain ⟨r_bc, r_bd, r_br, -⟩ := U
      clear ho hf hu
      go_simp
      refine (used_any d _ hd).mono ?_; rintro _ W1 ⟨v, rfl, ho, hE⟩; exact hK _ _ hE (Lies.own ho)
    refine And.intro (obX_eff (Only w.heap.size [87]) (fun _ _ h k => Only.below k (Nat.le_refl _) h) (And.intro (fun _ _ _ h e => e.row h (by decide)) (And.intro (fun _ _ _ h e => e.row h (by decide)) (And.intro (fun _ _ _ h e => e.row h (by decide)) (trivial)))) ?_) ?_
    · intro act W hR hf ho hu K hK
      replace hK := fun v (w' : World) (h1 : (Only w.heap.size [87]) W w') (b5 : (OwnM w.heap.size (buildL c d)) (v) w') => hK v w' h1 trivial ⟨b5, trivial⟩
      have F : (fun _ _ => True) (act.tmps[9]?.getD undef) W ∧ (fun _ _ => True) (act.tmps[11]?.getD undef) W ∧ (fun _ _ => True) (act.tmps[11]?.getD undef) W ∧ True := hf
      obtain ⟨-, -, -, -⟩ := F
      have U : (fun (_ : Value) (W : World) => W.heap[w.heap.size]? = some (.cells c.cells.toArray 24)) (undef) W ∧ (fun (_ : Value) (W : World) => W.heap[w.heap.size + 1]? = some (.cells d.cells.toArray 24)) (undef) W ∧ (fun (_ : Value) (W : World) => W.heap[w.heap.size + 1 + 1]? = some (.cells zeroCells 24)) (undef) W ∧ (OwnM w.heap.size [(rightC c, 1)]) (act.tmps[9]?.getD undef) W ∧ (fun (v : Value) (W : World) => Lies W.heap.size W v 3 (mustCells (usedL d))) (act.tmps[11]?.getD undef) W ∧ True := hu
      obtain ⟨r_bc, r_bd, r_br, r_n2, r_n4, -⟩ := U
      generalize f2 : act.tmps[9]?.getD undef = v2 at r_n2
      generalize f4 : act.tmps[11]?.getD undef = v4 at r_n4
      clear ho hf hu
      rw [← seen_eq]; refine step_append_src W rfl (.tmp 9) (.tmp 11) 84 rfl w.heap.size 87 i0 (.agg #[.bool false, .int .i64 0]) 2 16 Try.underlying84 hi hz0 hz1 hz2 rfl (by decide) _ _ _ (eval_get f2) r_n2 _ 3 (mustCells (usedL d)) (eval_get f4) (r_n4) rfl (mustCells_one _) (by show (1 + 3 : Nat) ≤ maxLen; unfold maxLen; omega) (by show (1 + 3) * 16 ≤ 140737488355328; omega) (hR EU.out).size ?_; intro v' w' ho' hg' _; exact hK _ _ (Only.grown r_n2 hg' (by simp)) (OwnM.app ho' rfl rfl)
    refine And.intro (obX_pure (fun _ k => k) ?_) ?_
    · intro act W hR hf ho hu K hK
      replace hK := fun v (b6 : (OwnM w.heap.size (buildL c d)) (v) W) => hK v W rfl trivial ⟨b6, trivial⟩
      have F : (fun _ _ => True) (act.tmps[12]?.getD undef) W ∧ (fun _ _ => True) (act.tmps[12]?.getD undef) W ∧ act.tmps[7]?.getD undef = _ ∧ act.tmps[8]?.getD undef = _ ∧ (fun _ _ => True) (act.tmps[9]?.getD undef) W ∧ act.tmps[10]?.getD undef = _ ∧ (fun _ _ => True) (act.tmps[11]?.getD undef) W ∧ (fun _ _ => True) (act.tmps[12]?.getD undef) W ∧ True := hf
      obtain ⟨-, -, f0, f1, -, f3, -, -, -⟩ := F
      have U : (fun (_ : Value) (W : World) => W.heap[w.heap.size]? = some (.cells c.cells.toArray 24)) (undef) W ∧ (fun (_ : Value) (W : World) => W.heap[w.heap.size + 1]? = some (.cells d.cells.toArray 24)) (undef) W ∧ (fun (_ : Value) (W : World) => W.heap[w.heap.size + 1 + 1]? = some (.cells zeroCells 24)) (undef) W ∧ (OwnM w.heap.size (buildL c d)) (act.tmps[12]?.getD undef) W ∧ True := hu
      obtain ⟨r_bc, r_bd, r_br, r_r5, -⟩ := U
      generalize f5 : act.tmps[12]?.getD undef = v5 at r_r5
      generalize f2 : act.tmps[9]?.getD undef = v2
      generalize f4 : act.tmps[11]?.getD undef = v4
      clear ho hf hu
      go_simp
      exact hK _ r_r5
    exact trivial
  case stab =>
    refine And.intro is_stable ?_
    refine And.intro is_stable ?_
    refine And.intro (fun _ _ _ h _ => h) ?_
    refine And.intro is_stable ?_
    refine And.intro (fun _ _ _ h _ => h) ?_
    refine And.intro (fun _ _ _ h _ => h) ?_
    refine And.intro (fun _ _ _ h _ => h) ?_
    exact trivial
  case ends =>
    intro vals W hR hE hall
    have E : (fun (_ : Value) (W : World) => W.heap[w.heap.size]? = some (.cells c.cells.toArray 24)) (undef) W ∧ (fun (_ : Value) (W : World) => W.heap[w.heap.size + 1]? = some (.cells d.cells.toArray 24)) (undef) W ∧ (fun (_ : Value) (W : World) => W.heap[w.heap.size + 1 + 1]? = some (.cells zeroCells 24)) (undef) W ∧ (OwnM w.heap.size (buildL c d)) (vals 6) W ∧ True := hE
    obtain ⟨e_bc, e_bd, e_br, e_row, -⟩ := E
    clear hE
    clear hall
    generalize ev6 : vals 6 = x6 at e_row
    simp only [fill, List.setIfInBounds_toArray, List.set_cons_succ, List.set_cons_zero, ev6]
    obtain ⟨A6, c6, rfl, -, -⟩ := Arr.own e_row
    rename World => V
    have EV : Hid (Ext w V.drew) := Lib.hid (Ext.drew (hR EU.out))
    have Vbc : Hid (V.drew.heap[w.heap.size]? = some (.cells c.cells.toArray 24)) := Lib.hid e_bc
    have Vbd : Hid (V.drew.heap[w.heap.size + 1]? = some (.cells d.cells.toArray 24)) := Lib.hid e_bd
    have Vbr : Hid (V.drew.heap[w.heap.size + 1 + 1]? = some (.cells zeroCells 24)) := Lib.hid e_br
    have VL : Hid (OwnM w.heap.size (buildL c d) (.slice A6 (buildL c d).length c6) V.drew) := Lib.hid (OwnM.ext e_row (Ext.drew (Below.refl _ _)))
    clear e_row e_br e_bc e_bd EU HU Hbr hR Hbc Hbd
    go_wp2_with fail
    refine wp_region_res (fun x y => Ext w x → Ext w y) [⟨none, [], []⟩, ⟨none, [], []⟩, ⟨none, [], [17]⟩, ⟨some 17, [], []⟩, ⟨none, [], [13]⟩, ⟨some 12, [(12, [])], [13]⟩, ⟨some 13, [(13, [])], [14]⟩] [(fun (u : Nat → Value) (W : World) => (fun (_ : Value) (W : World) => W.heap[w.heap.size]? = some (.cells c.cells.toArray 24)) (undef) W), (fun (u : Nat → Value) (W : World) => (fun (_ : Value) (W : World) => W.heap[w.heap.size + 1]? = some (.cells d.cells.toArray 24)) (undef) W), (fun (u : Nat → Value) (W : World) => (fun (_ : Value) (W : World) => W.heap[w.heap.size + 1 + 1]? = some (.cells zeroCells 24)) (undef) W), (fun (u : Nat → Value) (W : World) => (fun (_ : Value) (W : World) => W.heap[w.heap.size + 1 + 1]? = some (.cells X.1.cells.toArray 24)) (undef) W), (fun (u : Nat → Value) (W : World) => (fun (_ : Value) (W : World) => OwnM w.heap.size (buildL c d) (.slice A6 (buildL c d).length c6) W) (undef) W), (fun (u : Nat → Value) (W : World) => (NewLit 0 3 (mustCells [(sealB c false, 42), (hasP d.perms c.perms, 44), (underC c d, 43)]) 87) (u 12) W), (fun (u : Nat → Value) (W : World) => (OwnM w.heap.size L) (u 13) W)] [⟨[(0, []), (1, [])], [.keep, .keep, .keep, .early [0], .keep, .keep, .keep]⟩, ⟨[(0, []), (1, [])], [.keep, .keep, .keep, .early [1], .keep, .keep, .early [1]]⟩, ⟨[(0, []), (1, [])], [.keep, .keep, .keep, .early [2], .keep, .early [3, 2], .early [12, 3, 2]]⟩, ⟨[(0, []), (1, [])], [.keep, .keep, .keep, .early [3], .keep, .early [3], .early [12, 3]]⟩, ⟨[(0, []), (1, [])], [.keep, .keep, .keep, .early [4], .keep, .early [7, 4], .early [12, 7, 4]]⟩, ⟨[(0, []), (1, [])], [.keep, .keep, .keep, .early [5], .keep, .early [7, 6, 5], .early [12, 7, 6, 5]]⟩, ⟨[(0, []), (1, [])], [.keep, .keep, .keep, .early [6], .keep, .early [7, 6], .early [12, 7, 6]]⟩, ⟨[(0, []), (1, [])], [.keep, .keep, .keep, .early [7], .keep, .early [7], .early [12, 7]]⟩, ⟨[(0, []), (1, [])], [.keep, .keep, .keep, .early [8], .keep, .early [11, 10, 8], .early [10, 8]]⟩, ⟨[(0, []), (1, [])], [.keep, .keep, .keep, .early [9], .keep, .early [11, 10, 9], .early [10, 9]]⟩, ⟨[(0, []), (1, [])], [.keep, .keep, .keep, .early [10], .keep, .early [11, 10], .early [10]]⟩, ⟨[(0, []), (1, [])], [.keep, .keep, .keep, .early [11], .keep, .early [11], .early [12, 11]]⟩, ⟨[(0, []), (1, [])], [.keep, .keep, .keep, .early [12], .keep, .last, .early [12]]⟩, ⟨[(0, []), (1, []), (4, []), (5, [12])], [.keep, .keep, .keep, .early [13], .late [[]], .late [[]], .last]⟩, ⟨[(0, []), (1, []), (6, [13])], [.keep, .keep, .keep, .early [14], .late [[13]], .late [[13]], .late [[]]]⟩, ⟨[(0, []), (1, [])], [.keep, .keep, .keep, .early [15], .late [[14, 13]], .late [[14, 13]], .late [[14]]]⟩, ⟨[(0, []), (1, [])], [.keep, .keep, .keep, .early [16], .late [[14, 13]], .late [[14, 13]], .late [[14]]]⟩, ⟨[(0, []), (1, []), (2, [])], [.keep, .keep, .late [[]], .last, .late [[13]], .late [[13]], .late [[14]]]⟩, ⟨[(0, []), (1, []), (3, [17])], [.keep, .keep, .late [[17]], .keep, .late [[13]], .late [[13]], .late [[14]]]⟩] [13, 14, 15, 16, 17, 18, 19, 20, 21, 22, 23, 24, 25, 26, 27, 28, 29, 5] (by kernel_rfl) (fun _ k => k) (fun _ _ _ h k e => k (h e)) (by kernel_rfl) (by kernel_rfl) (by kernel_rfl) (by kernel_rfl) (by kernel_rfl) ?start ?_
    case start =>
      refine And.intro ?_ ?_
      · exact Vbc.out
      refine And.intro ?_ ?_
      · exact Vbd.out
      refine And.intro ?_ ?_
      · exact Vbr.out
      refine And.intro ?_ ?_
      · exact VL.out
      exact trivial
    apply ex_is; apply Exists.intro
    apply ex_is; apply Exists.intro
    apply ex_is; apply Exists.intro
    apply ex_is; apply Exists.intro
    apply ex_is; apply Exists.intro
    apply ex_is; apply Exists.intro
    apply ex_is; apply Exists.intro
    apply ex_is; apply Exists.intro
    apply ex_is; apply Exists.intro
    apply ex_is; apply Exists.intro
    apply ex_is; apply Exists.intro
    apply ex_is; apply Exists.intro
    refine ex_phi (fun _ _ => True) ?_
    refine ex_phi (fun _ _ => True) ?_
    apply ex_is; apply Exists.intro
    apply ex_is; apply Exists.intro
    apply ex_is; apply Exists.intro
    refine ex_phi (fun _ _ => True) ?_
    apply ex_is; apply Exists.intro
    refine ⟨[], ⟨?steps, ?stab, ?ends⟩⟩
    case steps =>
      refine And.intro (obX_pure (fun _ k => k) ?_) ?_
      · intro act W hR hf ho hu K hK
        replace hK := fun v h2 => hK v W rfl h2 trivial
        have G : act.tmps[2]?.getD undef = _ ∧ True := ho
        obtain ⟨g2, -⟩ := G
        have U : (fun (_ : Value) (W : World) => W.heap[w.heap.size]? = some (.cells c.cells.toArray 24)) (undef) W ∧ (fun (_ : Value) (W : World) => W.heap[w.heap.size + 1]? = some (.cells d.cells.toArray 24)) (undef) W ∧ True := hu
        obtain ⟨r_bc, r_bd, -⟩ := U
        clear ho hf hu
        obtain ⟨y0, y1, y2, y3, y4, y5⟩ := lie6' r_bc (Below.refl _ W)
        go_simp
        exact hK _ (Eq.refl _)
      refine And.intro (obX_pure (fun _ k => k) ?_) ?_
      · intro act W hR hf ho hu K hK
        replace hK := fun v h2 => hK v W rfl h2 trivial
        have G : act.tmps[6]?.getD undef = _ ∧ True := ho
        obtain ⟨g6, -⟩ := G
        have U : (fun (_ : Value) (W : World) => W.heap[w.heap.size]? = some (.cells c.cells.toArray 24)) (undef) W ∧ (fun (_ : Value) (W : World) => W.heap[w.heap.size + 1]? = some (.cells d.cells.toArray 24)) (undef) W ∧ True := hu
        obtain ⟨r_bc, r_bd, -⟩ := U
        clear ho hf hu
        go_simp
        exact hK _ (Eq.refl _)
      refine And.intro (obX_pure (fun _ k => k) ?_) ?_
      · intro act W hR hf ho hu K hK
        replace hK := fun v h2 => hK v W rfl h2 trivial
        have G : act.tmps[2]?.getD undef = _ ∧ True := ho
        obtain ⟨g2, -⟩ := G
        have U : (fun (_ : Value) (W : World) => W.heap[w.heap.size]? = some (.cells c.cells.toArray 24)) (undef) W ∧ (fun (_ : Value) (W : World) => W.heap[w.heap.size + 1]? = some (.cells d.cells.toArray 24)) (undef) W ∧ True := hu
        obtain ⟨r_bc, r_bd, -⟩ := U
        clear ho hf hu
        obtain ⟨y0, y1, y2, y3, y4, y5⟩ := lie6' r_bc (Below.refl _ W)
        go_simp
        exact hK _ (Eq.refl _)
      refine And.intro (obX_eff (Ext) (fun _ _ h k => k.then h) (And.intro (fun _ _ _ h e => ext_at e h) (And.intro (fun _ _ _ h e => ext_at e h) (And.intro (fun _ _ _ h e => ext_at e h) (And.intro (fun _ _ _ h e => h.ext e) (trivial))))) ?_) ?_
      · intro act W hR hf ho hu K hK
        replace hK := fun v (w' : World) (h1 : (Ext) W w') h2 => hK v w' h1 h2 trivial
        have F : act.tmps[15]?.getD undef = _ ∧ True := hf
        obtain ⟨f2, -⟩ := F
        have U : (fun (_ : Value) (W : World) => W.heap[w.heap.size]? = some (.cells c.cells.toArray 24)) (undef) W ∧ (fun (_ : Value) (W : World) => W.heap[w.heap.size + 1]? = some (.cells d.cells.toArray 24)) (undef) W ∧ True := hu
        obtain ⟨r_bc, r_bd, -⟩ := U
        clear ho hf hu
        go_simp
        refine (sealed_must c false _).mono ?_; rintro _ W1 ⟨rfl, hE⟩; exact hK _ _ hE (Eq.refl _)
      refine And.intro (obX_pure (fun _ k => k) ?_) ?_
      · intro act W hR hf ho hu K hK
        replace hK := fun v h2 => hK v W rfl h2 trivial
        have G : act.tmps[3]?.getD undef = _ ∧ True := ho
        obtain ⟨g3, -⟩ := G
        have U : (fun (_ : Value) (W : World) => W.heap[w.heap.size]? = some (.cells c.cells.toArray 24)) (undef) W ∧ (fun (_ : Value) (W : World) => W.heap[w.heap.size + 1]? = some (.cells d.cells.toArray 24)) (undef) W ∧ True := hu
        obtain ⟨r_bc, r_bd, -⟩ := U
        clear ho hf hu
        obtain ⟨z0, z1, z2, z3, z4, z5⟩ := lie6' r_bd (Below.refl _ W)
        go_simp
        exact hK _ (Eq.refl _)
      refine And.intro (obX_pure (fun _ k => k) ?_) ?_
      · intro act W hR hf ho hu K hK
        replace hK := fun v h2 => hK v W rfl h2 trivial
        have G : act.tmps[2]?.getD undef = _ ∧ True := ho
        obtain ⟨g2, -⟩ := G
        have U : (fun (_ : Value) (W : World) => W.heap[w.heap.size]? = some (.cells c.cells.toArray 24)) (undef) W ∧ (fun (_ : Value) (W : World) => W.heap[w.heap.size + 1]? = some (.cells d.cells.toArray 24)) (undef) W ∧ True := hu
        obtain ⟨r_bc, r_bd, -⟩ := U
        clear ho hf hu
        go_simp
        exact hK _ (Eq.refl _)
      refine And.intro (obX_pure (fun _ k => k) ?_) ?_
      · intro act W hR hf ho hu K hK
        replace hK := fun v h2 => hK v W rfl h2 trivial
        have F : act.tmps[18]?.getD undef = _ ∧ True := hf
        obtain ⟨f5, -⟩ := F
        have U : (fun (_ : Value) (W : World) => W.heap[w.heap.size]? = some (.cells c.cells.toArray 24)) (undef) W ∧ (fun (_ : Value) (W : World) => W.heap[w.heap.size + 1]? = some (.cells d.cells.toArray 24)) (undef) W ∧ True := hu
        obtain ⟨r_bc, r_bd, -⟩ := U
        clear ho hf hu
        obtain ⟨y0, y1, y2, y3, y4, y5⟩ := lie6' r_bc (Below.refl _ W)
        go_simp
        exact hK _ (Eq.refl _)
      refine And.intro (obX_eff (Ext) (fun _ _ h k => k.then h) (And.intro (fun _ _ _ h e => ext_at e h) (And.intro (fun _ _ _ h e => ext_at e h) (And.intro (fun _ _ _ h e => ext_at e h) (And.intro (fun _ _ _ h e => h.ext e) (trivial))))) ?_) ?_
      · intro act W hR hf ho hu K hK
        replace hK := fun v (w' : World) (h1 : (Ext) W w') h2 => hK v w' h1 h2 trivial
        have F : act.tmps[17]?.getD undef = _ ∧ act.tmps[19]?.getD undef = _ ∧ act.tmps[16]?.getD undef = _ ∧ True := hf
        obtain ⟨f4, f6, f3, -⟩ := F
        have U : (fun (_ : Value) (W : World) => W.heap[w.heap.size]? = some (.cells c.cells.toArray 24)) (undef) W ∧ (fun (_ : Value) (W : World) => W.heap[w.heap.size + 1]? = some (.cells d.cells.toArray 24)) (undef) W ∧ True := hu
        obtain ⟨r_bc, r_bd, -⟩ := U
        clear ho hf hu
        go_simp
        refine (has_must d c.perms _ hd hc.perms).mono ?_; rintro _ W1 ⟨rfl, hE⟩; exact hK _ _ hE (Eq.refl _)
      refine And.intro (obX_pure (fun _ k => k) ?_) ?_
      · intro act W hR hf ho hu K hK
        replace hK := fun v h2 => hK v W rfl h2 trivial
        have G : act.tmps[2]?.getD undef = _ ∧ True := ho
        obtain ⟨g2, -⟩ := G
        have U : (fun (_ : Value) (W : World) => W.heap[w.heap.size]? = some (.cells c.cells.toArray 24)) (undef) W ∧ (fun (_ : Value) (W : World) => W.heap[w.heap.size + 1]? = some (.cells d.cells.toArray 24)) (undef) W ∧ True := hu
        obtain ⟨r_bc, r_bd, -⟩ := U
        clear ho hf hu
        obtain ⟨y0, y1, y2, y3, y4, y5⟩ := lie6' r_bc (Below.refl _ W)
        go_simp
        exact hK _ (Eq.refl _)
      refine And.intro (obX_pure (fun _ k => k) ?_) ?_
      · intro act W hR hf ho hu K hK
        replace hK := fun v h2 => hK v W rfl h2 trivial
        have G : act.tmps[3]?.getD undef = _ ∧ True := ho
        obtain ⟨g3, -⟩ := G
        have U : (fun (_ : Value) (W : World) => W.heap[w.heap.size]? = some (.cells c.cells.toArray 24)) (undef) W ∧ (fun (_ : Value) (W : World) => W.heap[w.heap.size + 1]? = some (.cells d.cells.toArray 24)) (undef) W ∧ True := hu
        obtain ⟨r_bc, r_bd, -⟩ := U
        clear ho hf hu
        obtain ⟨z0, z1, z2, z3, z4, z5⟩ := lie6' r_bd (Below.refl _ W)
        go_simp
        exact hK _ (Eq.refl _)
      refine And.intro (obX_eff (Ext) (fun _ _ h k => k.then h) (And.intro (fun _ _ _ h e => ext_at e h) (And.intro (fun _ _ _ h e => ext_at e h) (And.intro (fun _ _ _ h e => ext_at e h) (And.intro (fun _ _ _ h e => h.ext e) (trivial))))) ?_) ?_
      · intro act W hR hf ho hu K hK
        replace hK := fun v (w' : World) (h1 : (Ext) W w') h2 => hK v w' h1 h2 trivial
        have F : act.tmps[21]?.getD undef = _ ∧ act.tmps[22]?.getD undef = _ ∧ act.tmps[20]?.getD undef = _ ∧ True := hf
        obtain ⟨f8, f9, f7, -⟩ := F
        have U : (fun (_ : Value) (W : World) => W.heap[w.heap.size]? = some (.cells c.cells.toArray 24)) (undef) W ∧ (fun (_ : Value) (W : World) => W.heap[w.heap.size + 1]? = some (.cells d.cells.toArray 24)) (undef) W ∧ True := hu
        obtain ⟨r_bc, r_bd, -⟩ := U
        clear ho hf hu
        go_simp
        refine (capUnder_any c d _ hc.perms hd.perms).mono ?_; rintro _ W1 ⟨rfl, hE⟩; exact hK _ _ hE (Eq.refl _)
      refine And.intro (obX_pure (fun _ k => k) ?_) ?_
      · intro act W hR hf ho hu K hK
        replace hK := fun v h2 => hK v W rfl h2 trivial
        have F : act.tmps[23]?.getD undef = _ ∧ True := hf
        obtain ⟨f10, -⟩ := F
        have U : (fun (_ : Value) (W : World) => W.heap[w.heap.size]? = some (.cells c.cells.toArray 24)) (undef) W ∧ (fun (_ : Value) (W : World) => W.heap[w.heap.size + 1]? = some (.cells d.cells.toArray 24)) (undef) W ∧ True := hu
        obtain ⟨r_bc, r_bd, -⟩ := U
        clear ho hf hu
        go_simp
        exact hK _ (Eq.refl _)
      refine And.intro (obX_eff (Ext) (fun _ _ h k => k.then h) (And.intro (fun _ _ _ h e => ext_at e h) (And.intro (fun _ _ _ h e => ext_at e h) (And.intro (fun _ _ _ h e => ext_at e h) (And.intro (fun _ _ _ h e => h.ext e) (trivial))))) ?_) ?_
      · intro act W hR hf ho hu K hK
        replace hK := fun v (w' : World) (h1 : (Ext) W w') (b5 : (NewLit 0 3 (mustCells [(sealB c false, 42), (hasP d.perms c.perms, 44), (underC c d, 43)]) 87) (v) w') => hK v w' h1 trivial ⟨b5, trivial⟩
        have F : act.tmps[16]?.getD undef = _ ∧ act.tmps[20]?.getD undef = _ ∧ act.tmps[24]?.getD undef = _ ∧ True := hf
        obtain ⟨f3, f7, f11, -⟩ := F
        have U : (fun (_ : Value) (W : World) => W.heap[w.heap.size]? = some (.cells c.cells.toArray 24)) (undef) W ∧ (fun (_ : Value) (W : World) => W.heap[w.heap.size + 1]? = some (.cells d.cells.toArray 24)) (undef) W ∧ True := hu
        obtain ⟨r_bc, r_bd, -⟩ := U
        clear ho hf hu
        go_simp
        exact hK _ _ (by repeat first | (with_reducible exact Below.refl _ _) | (with_reducible apply Ext.alloc) | (with_reducible apply Ext.drew) | (with_reducible apply Ext.drewN) | (with_reducible refine Ext.set ?_ (by simp))) (NewLit.new (Nat.zero_le _))
      refine And.intro (obX_eff (Only w.heap.size [87]) (fun _ _ h k => Only.below k (Nat.le_refl _) h) (And.intro (fun _ _ _ h e => e.row h (by decide)) (And.intro (fun _ _ _ h e => e.row h (by decide)) (And.intro (fun _ _ _ h e => e.row h (by decide)) (trivial)))) ?_) ?_
      · intro act W hR hf ho hu K hK
        replace hK := fun v (w' : World) (h1 : (Only w.heap.size [87]) W w') (b6 : (OwnM w.heap.size L) (v) w') => hK v w' h1 trivial ⟨b6, trivial⟩
        have F : act.tmps[14]?.getD undef = _ ∧ (fun _ _ => True) (act.tmps[25]?.getD undef) W ∧ act.tmps[23]?.getD undef = _ ∧ True := hf
        obtain ⟨f1, -, f10, -⟩ := F
        have U : (fun (_ : Value) (W : World) => W.heap[w.heap.size]? = some (.cells c.cells.toArray 24)) (undef) W ∧ (fun (_ : Value) (W : World) => W.heap[w.heap.size + 1]? = some (.cells d.cells.toArray 24)) (undef) W ∧ (fun (_ : Value) (W : World) => OwnM w.heap.size (buildL c d) (.slice A6 (buildL c d).length c6) W) (undef) W ∧ (NewLit 0 3 (mustCells [(sealB c false, 42), (hasP d.perms c.perms, 44), (underC c d, 43)]) 87) (act.tmps[25]?.getD undef) W ∧ True := hu
        obtain ⟨r_bc, r_bd, r_r1, r_n12, -⟩ := U
        generalize f12 : act.tmps[25]?.getD undef = v12 at r_n12
        clear ho hf hu
        obtain ⟨b3, rfl, -, hl3⟩ := r_n12
        dsimp only [Option.elim] at f1
        dsimp only [Option.elim] at f10
        rw [← seen_eq]; refine step_append_src W rfl (.tmp 14) (.tmp 25) 84 rfl w.heap.size 87 i0 (.agg #[.bool false, .int .i64 0]) 2 16 Try.underlying84 hi hz0 hz1 hz2 rfl (by decide) _ _ _ (eval_get f1) r_r1 _ 3 (mustCells [(sealB c false, 42), (hasP d.perms c.perms, 44), (underC c d, 43)]) (eval_get f12) (lies_lit hl3) rfl (mustCells_one _) (by show (4 + 3 : Nat) ≤ maxLen; unfold maxLen; omega) (by show (4 + 3) * 16 ≤ 140737488355328; omega) (hR EV.out).size ?_; intro v' w' ho' hg' _; exact hK _ _ (Only.grown r_r1 hg' (by simp)) (HL.out ▸ OwnM.app ho' rfl rfl)
      refine And.intro (obX_eff (Ext) (fun _ _ h k => k.then h) (And.intro (fun _ _ _ h e => ext_at e h) (And.intro (fun _ _ _ h e => ext_at e h) (And.intro (fun _ _ _ h e => ext_at e h) (trivial)))) ?_) ?_
      · intro act W hR hf ho hu K hK
        replace hK := fun v (w' : World) (h1 : (Ext) W w') h2 => hK v w' h1 h2 trivial
        have F : act.tmps[13]?.getD undef = _ ∧ (fun _ _ => True) (act.tmps[26]?.getD undef) W ∧ (fun _ _ => True) (act.tmps[26]?.getD undef) W ∧ True := hf
        obtain ⟨f0, -, -, -⟩ := F
        have U : (fun (_ : Value) (W : World) => W.heap[w.heap.size]? = some (.cells c.cells.toArray 24)) (undef) W ∧ (fun (_ : Value) (W : World) => W.heap[w.heap.size + 1]? = some (.cells d.cells.toArray 24)) (undef) W ∧ (OwnM w.heap.size L) (act.tmps[26]?.getD undef) W ∧ True := hu
        obtain ⟨r_bc, r_bd, r_r8, -⟩ := U
        generalize f13 : act.tmps[26]?.getD undef = v13 at r_r8
        clear ho hf hu
        obtain ⟨A8, c8, rfl, -, ha8⟩ := Arr.own r_r8
        go_simp
        refine (made_any (tagF) 85 #[] c A8 c8 L _ ha8 hll.out (enters_of Try.func85 (by kernel_rfl) rfl) (fun W' b hE' hb' h' => build1_any c b W' h')).mono ?_; rintro _ W1 ⟨rfl, hE⟩; rw [← HX.out]; exact hK _ _ hE (Eq.refl _)
      refine And.intro (obX_pure (fun _ k => k) ?_) ?_
      · intro act W hR hf ho hu K hK
        replace hK := fun v h2 => hK v W rfl h2 trivial
        have F : act.tmps[27]?.getD undef = _ ∧ True := hf
        obtain ⟨f14, -⟩ := F
        have U : (fun (_ : Value) (W : World) => W.heap[w.heap.size]? = some (.cells c.cells.toArray 24)) (undef) W ∧ (fun (_ : Value) (W : World) => W.heap[w.heap.size + 1]? = some (.cells d.cells.toArray 24)) (undef) W ∧ True := hu
        obtain ⟨r_bc, r_bd, -⟩ := U
        clear ho hf hu
        go_simp
        exact hK _ (Eq.refl _)
      refine And.intro (obX_pure (fun _ k => k) ?_) ?_
      · intro act W hR hf ho hu K hK
        replace hK := fun v h2 => hK v W rfl h2 trivial
        have F : act.tmps[27]?.getD undef = _ ∧ True := hf
        obtain ⟨f14, -⟩ := F
        have U : (fun (_ : Value) (W : World) => W.heap[w.heap.size]? = some (.cells c.cells.toArray 24)) (undef) W ∧ (fun (_ : Value) (W : World) => W.heap[w.heap.size + 1]? = some (.cells d.cells.toArray 24)) (undef) W ∧ True := hu
        obtain ⟨r_bc, r_bd, -⟩ := U
        clear ho hf hu
        go_simp
        exact hK _ (Eq.refl _)
      refine And.intro (obX_eff (fun x y => World.grownBy x y (some (w.heap.size + 1 + 1))) (fun _ _ h k => ext_grown k h (by omega)) (And.intro (fun _ _ _ h e => grown_at e h (by omega)) (And.intro (fun _ _ _ h e => grown_at e h (by omega)) (trivial))) ?_) ?_
      · intro act W hR hf ho hu K hK
        replace hK := fun (w' : World) (h1 : (fun x y => World.grownBy x y (some (w.heap.size + 1 + 1))) W w') (b3 : (fun (_ : Value) (W : World) => W.heap[w.heap.size + 1 + 1]? = some (.cells X.1.cells.toArray 24)) (undef) w') => hK undef w' h1 trivial ⟨b3, trivial⟩
        have G : act.tmps[4]?.getD undef = _ ∧ True := ho
        obtain ⟨g4, -⟩ := G
        have F : act.tmps[28]?.getD undef = _ ∧ act.tmps[27]?.getD undef = _ ∧ act.tmps[13]?.getD undef = _ ∧ act.tmps[14]?.getD undef = _ ∧ act.tmps[15]?.getD undef = _ ∧ act.tmps[16]?.getD undef = _ ∧ act.tmps[17]?.getD undef = _ ∧ act.tmps[18]?.getD undef = _ ∧ act.tmps[19]?.getD undef = _ ∧ act.tmps[20]?.getD undef = _ ∧ act.tmps[21]?.getD undef = _ ∧ act.tmps[22]?.getD undef = _ ∧ act.tmps[23]?.getD undef = _ ∧ act.tmps[24]?.getD undef = _ ∧ (fun _ _ => True) (act.tmps[25]?.getD undef) W ∧ (fun _ _ => True) (act.tmps[26]?.getD undef) W ∧ act.tmps[27]?.getD undef = _ ∧ act.tmps[28]?.getD undef = _ ∧ act.tmps[29]?.getD undef = _ ∧ True := hf
        obtain ⟨f15, f14, f0, f1, f2, f3, f4, f5, f6, f7, f8, f9, f10, f11, -, -, -, -, f16, -⟩ := F
        have U : (fun (_ : Value) (W : World) => W.heap[w.heap.size]? = some (.cells c.cells.toArray 24)) (undef) W ∧ (fun (_ : Value) (W : World) => W.heap[w.heap.size + 1]? = some (.cells d.cells.toArray 24)) (undef) W ∧ (fun (_ : Value) (W : World) => W.heap[w.heap.size + 1 + 1]? = some (.cells zeroCells 24)) (undef) W ∧ True := hu
        obtain ⟨r_bc, r_bd, r_br, -⟩ := U
        generalize f12 : act.tmps[25]?.getD undef = v12
        generalize f13 : act.tmps[26]?.getD undef = v13
        clear ho hf hu
        have fz := frozen_row' r_br; obtain ⟨q0, q1, q2, q3, q4, q5⟩ := lie6' r_br (Below.refl _ _); have hlq := cell_lt q0; simp only at hlq; have hq := set_cells6 r_br (.bool X.1.tag) (.int .i64 X.1.base) (.int .i64 X.1.top) (.int .i64 X.1.at') (.int .i64 X.1.perms) (.int .i64 X.1.ty)
        go_simp
        exact hK _ grown_set6 hq
      refine And.intro (obX_pure (fun _ k => k) ?_) ?_
      · intro act W hR hf ho hu K hK
        replace hK := fun v h2 => hK v W rfl h2 trivial
        have F : act.tmps[29]?.getD undef = _ ∧ (fun _ _ => True) (undef) W ∧ act.tmps[13]?.getD undef = _ ∧ act.tmps[14]?.getD undef = _ ∧ act.tmps[15]?.getD undef = _ ∧ act.tmps[16]?.getD undef = _ ∧ act.tmps[17]?.getD undef = _ ∧ act.tmps[18]?.getD undef = _ ∧ act.tmps[19]?.getD undef = _ ∧ act.tmps[20]?.getD undef = _ ∧ act.tmps[21]?.getD undef = _ ∧ act.tmps[22]?.getD undef = _ ∧ act.tmps[23]?.getD undef = _ ∧ act.tmps[24]?.getD undef = _ ∧ (fun _ _ => True) (act.tmps[25]?.getD undef) W ∧ (fun _ _ => True) (act.tmps[26]?.getD undef) W ∧ act.tmps[27]?.getD undef = _ ∧ act.tmps[28]?.getD undef = _ ∧ act.tmps[29]?.getD undef = _ ∧ (fun _ _ => True) (undef) W ∧ True := hf
        obtain ⟨f16, -, f0, f1, f2, f3, f4, f5, f6, f7, f8, f9, f10, f11, -, -, f14, f15, -, -, -⟩ := F
        have U : (fun (_ : Value) (W : World) => W.heap[w.heap.size]? = some (.cells c.cells.toArray 24)) (undef) W ∧ (fun (_ : Value) (W : World) => W.heap[w.heap.size + 1]? = some (.cells d.cells.toArray 24)) (undef) W ∧ (fun (_ : Value) (W : World) => W.heap[w.heap.size + 1 + 1]? = some (.cells X.1.cells.toArray 24)) (undef) W ∧ True := hu
        obtain ⟨r_bc, r_bd, r_out, -⟩ := U
        generalize f12 : act.tmps[25]?.getD undef = v12
        generalize f13 : act.tmps[26]?.getD undef = v13
        clear ho hf hu
        go_simp
        exact hK _ (Eq.refl _)
      exact trivial
    case stab =>
      refine And.intro is_stable ?_
      refine And.intro is_stable ?_
      refine And.intro is_stable ?_
      refine And.intro is_stable ?_
      refine And.intro is_stable ?_
      refine And.intro is_stable ?_
      refine And.intro is_stable ?_
      refine And.intro is_stable ?_
      refine And.intro is_stable ?_
      refine And.intro is_stable ?_
      refine And.intro is_stable ?_
      refine And.intro is_stable ?_
      refine And.intro (fun _ _ _ h _ => h) ?_
      refine And.intro (fun _ _ _ h _ => h) ?_
      refine And.intro is_stable ?_
      refine And.intro is_stable ?_
      refine And.intro is_stable ?_
      refine And.intro (fun _ _ _ h _ => h) ?_
      refine And.intro is_stable ?_
      exact trivial
    case ends =>
      intro vals W hR hE hall
      have E : (fun (_ : Value) (W : World) => W.heap[w.heap.size]? = some (.cells c.cells.toArray 24)) (undef) W ∧ (fun (_ : Value) (W : World) => W.heap[w.heap.size + 1]? = some (.cells d.cells.toArray 24)) (undef) W ∧ (fun (_ : Value) (W : World) => W.heap[w.heap.size + 1 + 1]? = some (.cells X.1.cells.toArray 24)) (undef) W ∧ True := hE
      obtain ⟨e_bc, e_bd, e_out, -⟩ := E
      clear hE
      have e5 : vals 5 = _ := hall 18 (by decide)
      clear hall
      simp only [fill, List.setIfInBounds_toArray, List.set_cons_succ, List.set_cons_zero, e5]
      obtain ⟨c0, c1, c2, c3, c4, c5⟩ := lie6' e_out (Below.refl _ _)
      go_wp2_with fail
      exact bodyPost_ret (v := .tuple #[X.1.val, .int .i64 X.2]) (by simp [results, Try.results52, go_sem, c0, c1, c2, c3, c4, c5]) rfl ⟨rfl, (by repeat first | (with_reducible exact Below.refl _ _) | (with_reducible apply Ext.alloc) | (with_reducible apply Ext.drew) | (with_reducible apply Ext.drewN) | (with_reducible refine Ext.set ?_ (by simp)) | (with_reducible refine Ext.then ?_ (hR EV.out)))⟩
end Go.Proofs.Ytalndcjbnedigaa

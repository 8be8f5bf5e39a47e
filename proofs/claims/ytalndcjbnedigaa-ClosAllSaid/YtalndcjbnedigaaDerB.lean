
/- Package derive: authority, first, made. -/
import Derived.Test.YtalndcjbnedigaaDerA
set_option linter.all false
namespace Go.Proofs.Ytalndcjbnedigaa
open Go.RowKit Go.Shelf
attribute [local go_sem] seen dstOf boolOf

theorem OwnM.app {B n m : Nat} {l l' : List Must} {v : Value} {W : World} (h : W.ownsRow B 87 2 v (n + m) (mustCells l ++ mustCells l')) (hn : n = l.length) (hm : m = l'.length) : OwnM B (l ++ l') v W := by
  unfold OwnM
  rw [mustCells_app, List.length_append, ← hn, ← hm]
  exact h
set_option maxHeartbeats 2000000 in
set_option maxRecDepth 20000 in
theorem autho_any (c : Cap) (p : Int) (w : World) (hc : CapWf c) (hp : i64ok' p) : Calls Try.prog 79 #[c.val, .int .i64 p] w (UsedPost w (authoL c p)) := by
  obtain ⟨i0, hi, hz0, hz1, hz2⟩ := info_parts infoMust
  obtain ⟨U, hU⟩ : ∃ U, U = w.alloc (.cells c.cells.toArray 24) := ⟨_, rfl⟩
  have HU := Lib.hid hU
  have HB : Hid (U.drew.heap[w.heap.size]? = some (.cells c.cells.toArray 24)) := Lib.hid (by rw [hU]; exact heap_alloc_new w _)
  have EU : Hid (Ext w U.drew) := Lib.hid (by rw [hU]; exact (by repeat first | (with_reducible exact Below.refl _ _) | (with_reducible apply Ext.alloc) | (with_reducible apply Ext.drew) | (with_reducible apply Ext.drewN) | (with_reducible refine Ext.set ?_ (by simp))))
  have HT : Hid (typeB c = (decide (2 ≤ c.at') && decide (c.at' ≤ 255))) := Lib.hid rfl
  clear hU
  by_cases k1 : 2 ≤ c.at'
  · have d1 : decide (2 ≤ c.at') = true := decide_eq_true k1
    have HT' : Hid (typeB c = decide (c.at' ≤ 255)) := Lib.hid (by rw [HT.out, d1, Bool.true_and])
    go_enter Try.func79, Try.ntmps79
    go_wp2_with fail
    rw [← HU.out]
    refine wp_region_res (Only w.heap.size [87]) [⟨some 1, [(1, [])], [17]⟩, ⟨some 16, [(16, [])], [17]⟩, ⟨some 17, [(17, [])], [18]⟩, ⟨some 18, [(18, [])], []⟩] [(fun (u : Nat → Value) (W : World) => (OwnM w.heap.size (usedL c)) (u 1) W), (fun (u : Nat → Value) (W : World) => (NewLit 0 3 (mustCells [(hasP c.perms p, 44), (inC c c.at' 1, 43), (typeB c, 45)]) 87) (u 16) W), (fun (u : Nat → Value) (W : World) => (OwnM w.heap.size (authoL c p)) (u 17) W), (fun (u : Nat → Value) (W : World) => (OwnM w.heap.size (authoL c p)) (u 18) W)] [⟨[], [.early [0], .early [4, 1, 0], .early [1, 0], .early [0]]⟩, ⟨[], [.last, .early [4, 1], .early [1], .early [1]]⟩, ⟨[], [.keep, .early [4, 2], .early [16, 4, 2], .early [2]]⟩, ⟨[], [.keep, .early [4, 3], .early [16, 4, 3], .early [3]]⟩, ⟨[], [.keep, .early [4], .early [16, 4], .early [4]]⟩, ⟨[], [.keep, .early [6, 5], .early [16, 6, 5], .early [5]]⟩, ⟨[], [.keep, .early [6], .early [16, 6], .early [6]]⟩, ⟨[], [.keep, .early [15, 14, 10, 9, 8, 7], .early [10, 9, 8, 7], .early [7]]⟩, ⟨[], [.keep, .early [15, 14, 10, 9, 8], .early [10, 9, 8], .early [8]]⟩, ⟨[], [.keep, .early [15, 14, 10, 9], .early [10, 9], .early [9]]⟩, ⟨[], [.keep, .early [15, 14, 10], .early [10], .early [10]]⟩, ⟨[], [.keep, .early [15, 14, 13, 12, 11], .early [16, 15, 14, 13, 12, 11], .early [11]]⟩, ⟨[], [.keep, .early [15, 14, 13, 12], .early [16, 15, 14, 13, 12], .early [12]]⟩, ⟨[], [.keep, .early [15, 14, 13], .early [16, 15, 14, 13], .early [13]]⟩, ⟨[], [.keep, .early [15, 14], .early [16, 15, 14], .early [14]]⟩, ⟨[], [.keep, .early [15], .early [16, 15], .early [15]]⟩, ⟨[], [.keep, .last, .early [16], .early [16]]⟩, ⟨[(0, [1]), (1, [16])], [.late [[]], .late [[]], .last, .early [17]]⟩, ⟨[(2, [17])], [.late [[17]], .late [[17]], .late [[]], .last]⟩] [5, 6, 7, 8, 9, 10, 11, 12, 13, 14, 15, 16, 17, 18, 19, 20, 21, 22, 4] (by kernel_rfl) (Only.refl _ _) (fun _ _ _ => Only.trans) (by kernel_rfl) (by kernel_rfl) (by kernel_rfl) (by kernel_rfl) (by kernel_rfl) ?start ?_
    case start =>
      exact trivial
    apply ex_is; apply Exists.intro
    refine ex_phi (fun _ _ => True) ?_
    apply ex_is; apply Exists.intro
    apply ex_is; apply Exists.intro
    apply ex_is; apply Exists.intro
    apply ex_is; apply Exists.intro
    apply ex_is; apply Exists.intro
    apply ex_is; apply Exists.intro
    apply ex_is; apply Exists.intro
    apply ex_is; apply Exists.intro
    apply ex_is; apply Exists.intro
    apply ex_is; apply Exists.intro
    apply ex_is; apply Exists.intro
    apply ex_is; apply Exists.intro
    apply ex_is; apply Exists.intro
    apply ex_is; apply Exists.intro
    refine ex_phi (fun _ _ => True) ?_
    refine ex_phi (fun _ _ => True) ?_
    refine ex_phi (fun _ _ => True) ?_
    refine ⟨[], ⟨?steps, ?stab, ?ends⟩⟩
    case steps =>
      refine And.intro (obX_pure (Only.refl _ _) ?_) ?_
      · intro act W hR hf ho hu K hK
        replace hK := fun v h2 => hK v W rfl h2 trivial
        have G : act.tmps[2]?.getD undef = _ ∧ True := ho
        obtain ⟨g2, -⟩ := G
        clear ho hf hu
        obtain ⟨y0, y1, y2, y3, y4, y5⟩ := lie6' (hR.row HB.out (by decide)) (Below.refl _ W)
        go_simp
        exact hK _ (Eq.refl _)
      refine And.intro (obX_eff (Ext) (fun _ _ h => Only.ext h) (trivial) ?_) ?_
      · intro act W hR hf ho hu K hK
        replace hK := fun v (w' : World) (h1 : (Ext) W w') (b0 : (OwnM w.heap.size (usedL c)) (v) w') => hK v w' h1 trivial ⟨b0, trivial⟩
        have F : act.tmps[5]?.getD undef = _ ∧ True := hf
        obtain ⟨f0, -⟩ := F
        clear ho hf hu
        go_simp
        refine (used_any c _ hc).mono ?_; rintro _ W1 ⟨v, rfl, ho, hE⟩; exact hK _ _ hE (ho.low (Nat.le_trans EU.out.size hR.size))
      refine And.intro (obX_pure (Only.refl _ _) ?_) ?_
      · intro act W hR hf ho hu K hK
        replace hK := fun v h2 => hK v W rfl h2 trivial
        have G : act.tmps[2]?.getD undef = _ ∧ True := ho
        obtain ⟨g2, -⟩ := G
        clear ho hf hu
        obtain ⟨y0, y1, y2, y3, y4, y5⟩ := lie6' (hR.row HB.out (by decide)) (Below.refl _ W)
        go_simp
        exact hK _ (Eq.refl _)
      refine And.intro (obX_pure (Only.refl _ _) ?_) ?_
      · intro act W hR hf ho hu K hK
        replace hK := fun v h2 => hK v W rfl h2 trivial
        have G : act.tmps[1]?.getD undef = _ ∧ True := ho
        obtain ⟨g1, -⟩ := G
        clear ho hf hu
        go_simp
        exact hK _ (Eq.refl _)
      refine And.intro (obX_eff (Ext) (fun _ _ h => Only.ext h) (And.intro (fun _ _ _ h e => h.ext e) (trivial)) ?_) ?_
      · intro act W hR hf ho hu K hK
        replace hK := fun v (w' : World) (h1 : (Ext) W w') h2 => hK v w' h1 h2 trivial
        have F : act.tmps[7]?.getD undef = _ ∧ act.tmps[8]?.getD undef = _ ∧ (fun _ _ => True) (act.tmps[6]?.getD undef) W ∧ True := hf
        obtain ⟨f2, f3, -, -⟩ := F
        generalize f1 : act.tmps[6]?.getD undef = v1
        clear ho hf hu
        go_simp
        refine (has_must c p _ hc hp).mono ?_; rintro _ W1 ⟨rfl, hE⟩; exact hK _ _ hE (Eq.refl _)
      refine And.intro (obX_pure (Only.refl _ _) ?_) ?_
      · intro act W hR hf ho hu K hK
        replace hK := fun v h2 => hK v W rfl h2 trivial
        have G : act.tmps[2]?.getD undef = _ ∧ True := ho
        obtain ⟨g2, -⟩ := G
        clear ho hf hu
        obtain ⟨y0, y1, y2, y3, y4, y5⟩ := lie6' (hR.row HB.out (by decide)) (Below.refl _ W)
        go_simp
        exact hK _ (Eq.refl _)
      refine And.intro (obX_eff (Ext) (fun _ _ h => Only.ext h) (And.intro (fun _ _ _ h e => h.ext e) (trivial)) ?_) ?_
      · intro act W hR hf ho hu K hK
        replace hK := fun v (w' : World) (h1 : (Ext) W w') h2 => hK v w' h1 h2 trivial
        have F : act.tmps[10]?.getD undef = _ ∧ act.tmps[9]?.getD undef = _ ∧ True := hf
        obtain ⟨f5, f4, -⟩ := F
        clear ho hf hu
        go_simp
        refine (spans_must c 1 _ hc).mono ?_; rintro _ W1 ⟨rfl, hE⟩; exact hK _ _ hE (Eq.refl _)
      refine And.intro (obX_pure (Only.refl _ _) ?_) ?_
      · intro act W hR hf ho hu K hK
        replace hK := fun v h2 => hK v W rfl h2 trivial
        have G : act.tmps[2]?.getD undef = _ ∧ True := ho
        obtain ⟨g2, -⟩ := G
        clear ho hf hu
        go_simp
        exact hK _ (Eq.refl _)
      refine And.intro (obX_pure (Only.refl _ _) ?_) ?_
      · intro act W hR hf ho hu K hK
        replace hK := fun v h2 => hK v W rfl h2 trivial
        have F : act.tmps[12]?.getD undef = _ ∧ True := hf
        obtain ⟨f7, -⟩ := F
        clear ho hf hu
        obtain ⟨y0, y1, y2, y3, y4, y5⟩ := lie6' (hR.row HB.out (by decide)) (Below.refl _ W)
        go_simp
        exact hK _ (Eq.refl _)
      refine And.intro (obX_pure (Only.refl _ _) ?_) ?_
      · intro act W hR hf ho hu K hK
        replace hK := fun v h2 => hK v W rfl h2 trivial
        have F : act.tmps[13]?.getD undef = _ ∧ True := hf
        obtain ⟨f8, -⟩ := F
        clear ho hf hu
        go_simp
        exact hK _ (Eq.refl _)
      refine And.intro (obX_pure (Only.refl _ _) ?_) ?_
      · intro act W hR hf ho hu K hK
        replace hK := fun v h2 => hK v W rfl h2 trivial
        have F : act.tmps[14]?.getD undef = _ ∧ act.tmps[11]?.getD undef = _ ∧ True := hf
        obtain ⟨f9, f6, -⟩ := F
        clear ho hf hu
        go_simp
        exact hK _ (Eq.refl _)
      refine And.intro (obX_pure (Only.refl _ _) ?_) ?_
      · intro act W hR hf ho hu K hK
        replace hK := fun v h2 => hK v W rfl h2 trivial
        have G : act.tmps[2]?.getD undef = _ ∧ True := ho
        obtain ⟨g2, -⟩ := G
        have F : act.tmps[15]?.getD undef = _ ∧ True := hf
        obtain ⟨f10, -⟩ := F
        clear ho hf hu
        go_simp
        exact hK _ (Eq.refl _)
      refine And.intro (obX_pure (Only.refl _ _) ?_) ?_
      · intro act W hR hf ho hu K hK
        replace hK := fun v h2 => hK v W rfl h2 trivial
        have F : act.tmps[16]?.getD undef = _ ∧ act.tmps[15]?.getD undef = _ ∧ True := hf
        obtain ⟨f11, f10, -⟩ := F
        clear ho hf hu
        obtain ⟨y0, y1, y2, y3, y4, y5⟩ := lie6' (hR.row HB.out (by decide)) (Below.refl _ W)
        go_simp
        exact hK _ (Eq.refl _)
      refine And.intro (obX_pure (Only.refl _ _) ?_) ?_
      · intro act W hR hf ho hu K hK
        replace hK := fun v h2 => hK v W rfl h2 trivial
        have F : act.tmps[17]?.getD undef = _ ∧ act.tmps[15]?.getD undef = _ ∧ True := hf
        obtain ⟨f12, f10, -⟩ := F
        clear ho hf hu
        go_simp
        rw [← HT'.out]; exact hK _ (Eq.refl _)
      refine And.intro (obX_pure (Only.refl _ _) ?_) ?_
      · intro act W hR hf ho hu K hK
        replace hK := fun v h2 => hK v W rfl h2 trivial
        have F : act.tmps[15]?.getD undef = _ ∧ act.tmps[18]?.getD undef = _ ∧ True := hf
        obtain ⟨f10, f13, -⟩ := F
        clear ho hf hu
        go_simp
        exact hK _ (Eq.refl _)
      refine And.intro (obX_pure (Only.refl _ _) ?_) ?_
      · intro act W hR hf ho hu K hK
        replace hK := fun v h2 => hK v W rfl h2 trivial
        have F : act.tmps[19]?.getD undef = _ ∧ True := hf
        obtain ⟨f14, -⟩ := F
        clear ho hf hu
        go_simp
        exact hK _ (Eq.refl _)
      refine And.intro (obX_eff (Ext) (fun _ _ h => Only.ext h) (And.intro (fun _ _ _ h e => h.ext e) (trivial)) ?_) ?_
      · intro act W hR hf ho hu K hK
        replace hK := fun v (w' : World) (h1 : (Ext) W w') (b1 : (NewLit 0 3 (mustCells [(hasP c.perms p, 44), (inC c c.at' 1, 43), (typeB c, 45)]) 87) (v) w') => hK v w' h1 trivial ⟨b1, trivial⟩
        have F : act.tmps[9]?.getD undef = _ ∧ act.tmps[11]?.getD undef = _ ∧ act.tmps[20]?.getD undef = _ ∧ True := hf
        obtain ⟨f4, f6, f15, -⟩ := F
        clear ho hf hu
        go_simp
        exact hK _ _ (by repeat first | (with_reducible exact Below.refl _ _) | (with_reducible apply Ext.alloc) | (with_reducible apply Ext.drew) | (with_reducible apply Ext.drewN) | (with_reducible refine Ext.set ?_ (by simp))) (NewLit.new (Nat.zero_le _))
      refine And.intro (obX_eff (Only w.heap.size [87]) (fun _ _ h => h) (trivial) ?_) ?_
      · intro act W hR hf ho hu K hK
        replace hK := fun v (w' : World) (h1 : (Only w.heap.size [87]) W w') (b2 : (OwnM w.heap.size (authoL c p)) (v) w') => hK v w' h1 trivial ⟨b2, trivial⟩
        have F : (fun _ _ => True) (act.tmps[6]?.getD undef) W ∧ (fun _ _ => True) (act.tmps[21]?.getD undef) W ∧ act.tmps[15]?.getD undef = _ ∧ True := hf
        obtain ⟨-, -, f10, -⟩ := F
        have U : (OwnM w.heap.size (usedL c)) (act.tmps[6]?.getD undef) W ∧ (NewLit 0 3 (mustCells [(hasP c.perms p, 44), (inC c c.at' 1, 43), (typeB c, 45)]) 87) (act.tmps[21]?.getD undef) W ∧ True := hu
        obtain ⟨r_r1, r_n16, -⟩ := U
        generalize f1 : act.tmps[6]?.getD undef = v1 at r_r1
        generalize f16 : act.tmps[21]?.getD undef = v16 at r_n16
        clear ho hf hu
        obtain ⟨b3, rfl, -, hl3⟩ := r_n16
        dsimp only [Option.elim] at f10
        rw [← seen_eq]; refine step_append_src W rfl (.tmp 6) (.tmp 21) 84 rfl w.heap.size 87 i0 (.agg #[.bool false, .int .i64 0]) 2 16 Try.underlying84 hi hz0 hz1 hz2 rfl (by decide) _ _ _ (eval_get f1) r_r1 _ 3 (mustCells [(hasP c.perms p, 44), (inC c c.at' 1, 43), (typeB c, 45)]) (eval_get f16) (lies_lit hl3) rfl (mustCells_one _) (by show (3 + 3 : Nat) ≤ maxLen; unfold maxLen; omega) (by show (3 + 3) * 16 ≤ 140737488355328; omega) (Nat.le_trans EU.out.size hR.size) ?_; intro v' w' ho' hg' _; exact hK _ _ (Only.grown r_r1 hg' (by simp)) (OwnM.app ho' rfl rfl)
      refine And.intro (obX_pure (Only.refl _ _) ?_) ?_
      · intro act W hR hf ho hu K hK
        replace hK := fun v (b3 : (OwnM w.heap.size (authoL c p)) (v) W) => hK v W rfl trivial ⟨b3, trivial⟩
        have F : (fun _ _ => True) (act.tmps[22]?.getD undef) W ∧ (fun _ _ => True) (act.tmps[22]?.getD undef) W ∧ act.tmps[5]?.getD undef = _ ∧ (fun _ _ => True) (act.tmps[6]?.getD undef) W ∧ act.tmps[7]?.getD undef = _ ∧ act.tmps[8]?.getD undef = _ ∧ act.tmps[9]?.getD undef = _ ∧ act.tmps[10]?.getD undef = _ ∧ act.tmps[11]?.getD undef = _ ∧ act.tmps[12]?.getD undef = _ ∧ act.tmps[13]?.getD undef = _ ∧ act.tmps[14]?.getD undef = _ ∧ act.tmps[15]?.getD undef = _ ∧ act.tmps[16]?.getD undef = _ ∧ act.tmps[17]?.getD undef = _ ∧ act.tmps[18]?.getD undef = _ ∧ act.tmps[19]?.getD undef = _ ∧ act.tmps[20]?.getD undef = _ ∧ (fun _ _ => True) (act.tmps[21]?.getD undef) W ∧ (fun _ _ => True) (act.tmps[22]?.getD undef) W ∧ True := hf
        obtain ⟨-, -, f0, -, f2, f3, f4, f5, f6, f7, f8, f9, f10, f11, f12, f13, f14, f15, -, -, -⟩ := F
        have U : (OwnM w.heap.size (authoL c p)) (act.tmps[22]?.getD undef) W ∧ True := hu
        obtain ⟨r_r17, -⟩ := U
        generalize f17 : act.tmps[22]?.getD undef = v17 at r_r17
        generalize f1 : act.tmps[6]?.getD undef = v1
        generalize f16 : act.tmps[21]?.getD undef = v16
        clear ho hf hu
        go_simp
        exact hK _ r_r17
      exact trivial
    case stab =>
      refine And.intro is_stable ?_
      refine And.intro (fun _ _ _ h _ => h) ?_
      refine And.intro is_stable ?_
      refine And.intro is_stable ?_
      refine And.intro is_stable ?_
      refine And.intro is_stable ?_
      refine And.intro is_stable ?_
      refine And.intro is_stable ?_
      refine And.intro is_stable ?_
      refine And.intro is_stable ?_
      refine And.intro is_stable ?_
      refine And.intro is_stable ?_
      refine And.intro is_stable ?_
      refine And.intro is_stable ?_
      refine And.intro is_stable ?_
      refine And.intro is_stable ?_
      refine And.intro (fun _ _ _ h _ => h) ?_
      refine And.intro (fun _ _ _ h _ => h) ?_
      refine And.intro (fun _ _ _ h _ => h) ?_
      exact trivial
    case ends =>
      intro vals W hR hE hall
      have E : (OwnM w.heap.size (authoL c p)) (vals 4) W ∧ True := hE
      obtain ⟨e_r18, -⟩ := E
      clear hE
      clear hall
      generalize ev4 : vals 4 = x4 at e_r18
      simp only [fill, List.setIfInBounds_toArray, List.set_cons_succ, List.set_cons_zero, ev4]
      have hE9 : Ext w W := Only.below EU.out (Nat.le_refl _) hR
      go_wp2_with fail
      go_ret
      exact ⟨_, rfl, e_r18, hE9⟩
  · have d1 : decide (2 ≤ c.at') = false := decide_eq_false k1
    have HT' : Hid (typeB c = false) := Lib.hid (by rw [HT.out, d1, Bool.false_and])
    go_enter Try.func79, Try.ntmps79
    go_wp2_with fail
    rw [← HU.out]
    refine wp_region_res (Only w.heap.size [87]) [⟨some 1, [(1, [])], [17]⟩, ⟨some 16, [(16, [])], [17]⟩, ⟨some 17, [(17, [])], [18]⟩, ⟨some 18, [(18, [])], []⟩] [(fun (u : Nat → Value) (W : World) => (OwnM w.heap.size (usedL c)) (u 1) W), (fun (u : Nat → Value) (W : World) => (NewLit 0 3 (mustCells [(hasP c.perms p, 44), (inC c c.at' 1, 43), (typeB c, 45)]) 87) (u 16) W), (fun (u : Nat → Value) (W : World) => (OwnM w.heap.size (authoL c p)) (u 17) W), (fun (u : Nat → Value) (W : World) => (OwnM w.heap.size (authoL c p)) (u 18) W)] [⟨[], [.early [0], .early [4, 1, 0], .early [1, 0], .early [0]]⟩, ⟨[], [.last, .early [4, 1], .early [1], .early [1]]⟩, ⟨[], [.keep, .early [4, 2], .early [16, 4, 2], .early [2]]⟩, ⟨[], [.keep, .early [4, 3], .early [16, 4, 3], .early [3]]⟩, ⟨[], [.keep, .early [4], .early [16, 4], .early [4]]⟩, ⟨[], [.keep, .early [6, 5], .early [16, 6, 5], .early [5]]⟩, ⟨[], [.keep, .early [6], .early [16, 6], .early [6]]⟩, ⟨[], [.keep, .early [15, 14, 10, 9, 8, 7], .early [10, 9, 8, 7], .early [7]]⟩, ⟨[], [.keep, .early [15, 14, 10, 9, 8], .early [10, 9, 8], .early [8]]⟩, ⟨[], [.keep, .early [15, 14, 10, 9], .early [10, 9], .early [9]]⟩, ⟨[], [.keep, .early [15, 14, 10], .early [10], .early [10]]⟩, ⟨[], [.keep, .early [15, 14, 13, 12, 11], .early [16, 15, 14, 13, 12, 11], .early [11]]⟩, ⟨[], [.keep, .early [15, 14, 13, 12], .early [16, 15, 14, 13, 12], .early [12]]⟩, ⟨[], [.keep, .early [15, 14, 13], .early [16, 15, 14, 13], .early [13]]⟩, ⟨[], [.keep, .early [15, 14], .early [16, 15, 14], .early [14]]⟩, ⟨[], [.keep, .early [15], .early [16, 15], .early [15]]⟩, ⟨[], [.keep, .last, .early [16], .early [16]]⟩, ⟨[(0, [1]), (1, [16])], [.late [[]], .late [[]], .last, .early [17]]⟩, ⟨[(2, [17])], [.late [[17]], .late [[17]], .late [[]], .last]⟩] [5, 6, 7, 8, 9, 10, 11, 12, 13, 14, 15, 16, 17, 18, 19, 20, 21, 22, 4] (by kernel_rfl) (Only.refl _ _) (fun _ _ _ => Only.trans) (by kernel_rfl) (by kernel_rfl) (by kernel_rfl) (by kernel_rfl) (by kernel_rfl) ?start ?_
    case start =>
      exact trivial
    apply ex_is; apply Exists.intro
    refine ex_phi (fun _ _ => True) ?_
    apply ex_is; apply Exists.intro
    apply ex_is; apply Exists.intro
    apply ex_is; apply Exists.intro
    apply ex_is; apply Exists.intro
    apply ex_is; apply Exists.intro
    apply ex_is; apply Exists.intro
    apply ex_is; apply Exists.intro
    apply ex_is; apply Exists.intro
    apply ex_is; apply Exists.intro
    apply ex_is; apply Exists.intro
    apply ex_is; apply Exists.intro
    apply ex_is; apply Exists.intro
    apply ex_is; apply Exists.intro
    apply ex_is; apply Exists.intro
    refine ex_phi (fun _ _ => True) ?_
    refine ex_phi (fun _ _ => True) ?_
    refine ex_phi (fun _ _ => True) ?_
    refine ⟨[], ⟨?steps, ?stab, ?ends⟩⟩
    case steps =>
      refine And.intro (obX_pure (Only.refl _ _) ?_) ?_
      · intro act W hR hf ho hu K hK
        replace hK := fun v h2 => hK v W rfl h2 trivial
        have G : act.tmps[2]?.getD undef = _ ∧ True := ho
        obtain ⟨g2, -⟩ := G
        clear ho hf hu
        obtain ⟨y0, y1, y2, y3, y4, y5⟩ := lie6' (hR.row HB.out (by decide)) (Below.refl _ W)
        go_simp
        exact hK _ (Eq.refl _)
      refine And.intro (obX_eff (Ext) (fun _ _ h => Only.ext h) (trivial) ?_) ?_
      · intro act W hR hf ho hu K hK
        replace hK := fun v (w' : World) (h1 : (Ext) W w') (b0 : (OwnM w.heap.size (usedL c)) (v) w') => hK v w' h1 trivial ⟨b0, trivial⟩
        have F : act.tmps[5]?.getD undef = _ ∧ True := hf
        obtain ⟨f0, -⟩ := F
        clear ho hf hu
        go_simp
        refine (used_any c _ hc).mono ?_; rintro _ W1 ⟨v, rfl, ho, hE⟩; exact hK _ _ hE (ho.low (Nat.le_trans EU.out.size hR.size))
      refine And.intro (obX_pure (Only.refl _ _) ?_) ?_
      · intro act W hR hf ho hu K hK
        replace hK := fun v h2 => hK v W rfl h2 trivial
        have G : act.tmps[2]?.getD undef = _ ∧ True := ho
        obtain ⟨g2, -⟩ := G
        clear ho hf hu
        obtain ⟨y0, y1, y2, y3, y4, y5⟩ := lie6' (hR.row HB.out (by decide)) (Below.refl _ W)
        go_simp
        exact hK _ (Eq.refl _)
      refine And.intro (obX_pure (Only.refl _ _) ?_) ?_
      · intro act W hR hf ho hu K hK
        replace hK := fun v h2 => hK v W rfl h2 trivial
        have G : act.tmps[1]?.getD undef = _ ∧ True := ho
        obtain ⟨g1, -⟩ := G
        clear ho hf hu
        go_simp
        exact hK _ (Eq.refl _)
      refine And.intro (obX_eff (Ext) (fun _ _ h => Only.ext h) (And.intro (fun _ _ _ h e => h.ext e) (trivial)) ?_) ?_
      · intro act W hR hf ho hu K hK
        replace hK := fun v (w' : World) (h1 : (Ext) W w') h2 => hK v w' h1 h2 trivial
        have F : act.tmps[7]?.getD undef = _ ∧ act.tmps[8]?.getD undef = _ ∧ (fun _ _ => True) (act.tmps[6]?.getD undef) W ∧ True := hf
        obtain ⟨f2, f3, -, -⟩ := F
        generalize f1 : act.tmps[6]?.getD undef = v1
        clear ho hf hu
        go_simp
        refine (has_must c p _ hc hp).mono ?_; rintro _ W1 ⟨rfl, hE⟩; exact hK _ _ hE (Eq.refl _)
      refine And.intro (obX_pure (Only.refl _ _) ?_) ?_
      · intro act W hR hf ho hu K hK
        replace hK := fun v h2 => hK v W rfl h2 trivial
        have G : act.tmps[2]?.getD undef = _ ∧ True := ho
        obtain ⟨g2, -⟩ := G
        clear ho hf hu
        obtain ⟨y0, y1, y2, y3, y4, y5⟩ := lie6' (hR.row HB.out (by decide)) (Below.refl _ W)
        go_simp
        exact hK _ (Eq.refl _)
      refine And.intro (obX_eff (Ext) (fun _ _ h => Only.ext h) (And.intro (fun _ _ _ h e => h.ext e) (trivial)) ?_) ?_
      · intro act W hR hf ho hu K hK
        replace hK := fun v (w' : World) (h1 : (Ext) W w') h2 => hK v w' h1 h2 trivial
        have F : act.tmps[10]?.getD undef = _ ∧ act.tmps[9]?.getD undef = _ ∧ True := hf
        obtain ⟨f5, f4, -⟩ := F
        clear ho hf hu
        go_simp
        refine (spans_must c 1 _ hc).mono ?_; rintro _ W1 ⟨rfl, hE⟩; exact hK _ _ hE (Eq.refl _)
      refine And.intro (obX_pure (Only.refl _ _) ?_) ?_
      · intro act W hR hf ho hu K hK
        replace hK := fun v h2 => hK v W rfl h2 trivial
        have G : act.tmps[2]?.getD undef = _ ∧ True := ho
        obtain ⟨g2, -⟩ := G
        clear ho hf hu
        go_simp
        exact hK _ (Eq.refl _)
      refine And.intro (obX_pure (Only.refl _ _) ?_) ?_
      · intro act W hR hf ho hu K hK
        replace hK := fun v h2 => hK v W rfl h2 trivial
        have F : act.tmps[12]?.getD undef = _ ∧ True := hf
        obtain ⟨f7, -⟩ := F
        clear ho hf hu
        obtain ⟨y0, y1, y2, y3, y4, y5⟩ := lie6' (hR.row HB.out (by decide)) (Below.refl _ W)
        go_simp
        exact hK _ (Eq.refl _)
      refine And.intro (obX_pure (Only.refl _ _) ?_) ?_
      · intro act W hR hf ho hu K hK
        replace hK := fun v h2 => hK v W rfl h2 trivial
        have F : act.tmps[13]?.getD undef = _ ∧ True := hf
        obtain ⟨f8, -⟩ := F
        clear ho hf hu
        go_simp
        exact hK _ (Eq.refl _)
      refine And.intro (obX_pure (Only.refl _ _) ?_) ?_
      · intro act W hR hf ho hu K hK
        replace hK := fun v h2 => hK v W rfl h2 trivial
        have F : act.tmps[14]?.getD undef = _ ∧ act.tmps[11]?.getD undef = _ ∧ True := hf
        obtain ⟨f9, f6, -⟩ := F
        clear ho hf hu
        go_simp
        exact hK _ (Eq.refl _)
      refine And.intro (obX_pure (Only.refl _ _) ?_) ?_
      · intro act W hR hf ho hu K hK
        replace hK := fun v h2 => hK v W rfl h2 trivial
        have G : act.tmps[2]?.getD undef = _ ∧ True := ho
        obtain ⟨g2, -⟩ := G
        have F : act.tmps[15]?.getD undef = _ ∧ True := hf
        obtain ⟨f10, -⟩ := F
        clear ho hf hu
        go_simp
        exact hK _ (Eq.refl _)
      refine And.intro (obX_pure (Only.refl _ _) ?_) ?_
      · intro act W hR hf ho hu K hK
        replace hK := fun v h2 => hK v W rfl h2 trivial
        have F : act.tmps[16]?.getD undef = _ ∧ act.tmps[15]?.getD undef = _ ∧ True := hf
        obtain ⟨f11, f10, -⟩ := F
        clear ho hf hu
        go_simp
        exact hK _ (Eq.refl _)
      refine And.intro (obX_pure (Only.refl _ _) ?_) ?_
      · intro act W hR hf ho hu K hK
        replace hK := fun v h2 => hK v W rfl h2 trivial
        have F : act.tmps[17]?.getD undef = _ ∧ act.tmps[15]?.getD undef = _ ∧ True := hf
        obtain ⟨f12, f10, -⟩ := F
        clear ho hf hu
        go_simp
        exact hK _ (Eq.refl _)
      refine And.intro (obX_pure (Only.refl _ _) ?_) ?_
      · intro act W hR hf ho hu K hK
        replace hK := fun v h2 => hK v W rfl h2 trivial
        have F : act.tmps[15]?.getD undef = _ ∧ act.tmps[18]?.getD undef = _ ∧ True := hf
        obtain ⟨f10, f13, -⟩ := F
        clear ho hf hu
        go_simp
        rw [← HT'.out]; exact hK _ (Eq.refl _)
      refine And.intro (obX_pure (Only.refl _ _) ?_) ?_
      · intro act W hR hf ho hu K hK
        replace hK := fun v h2 => hK v W rfl h2 trivial
        have F : act.tmps[19]?.getD undef = _ ∧ True := hf
        obtain ⟨f14, -⟩ := F
        clear ho hf hu
        go_simp
        exact hK _ (Eq.refl _)
      refine And.intro (obX_eff (Ext) (fun _ _ h => Only.ext h) (And.intro (fun _ _ _ h e => h.ext e) (trivial)) ?_) ?_
      · intro act W hR hf ho hu K hK
        replace hK := fun v (w' : World) (h1 : (Ext) W w') (b1 : (NewLit 0 3 (mustCells [(hasP c.perms p, 44), (inC c c.at' 1, 43), (typeB c, 45)]) 87) (v) w') => hK v w' h1 trivial ⟨b1, trivial⟩
        have F : act.tmps[9]?.getD undef = _ ∧ act.tmps[11]?.getD undef = _ ∧ act.tmps[20]?.getD undef = _ ∧ True := hf
        obtain ⟨f4, f6, f15, -⟩ := F
        clear ho hf hu
        go_simp
        exact hK _ _ (by repeat first | (with_reducible exact Below.refl _ _) | (with_reducible apply Ext.alloc) | (with_reducible apply Ext.drew) | (with_reducible apply Ext.drewN) | (with_reducible refine Ext.set ?_ (by simp))) (NewLit.new (Nat.zero_le _))
      refine And.intro (obX_eff (Only w.heap.size [87]) (fun _ _ h => h) (trivial) ?_) ?_
      · intro act W hR hf ho hu K hK
        replace hK := fun v (w' : World) (h1 : (Only w.heap.size [87]) W w') (b2 : (OwnM w.heap.size (authoL c p)) (v) w') => hK v w' h1 trivial ⟨b2, trivial⟩
        have F : (fun _ _ => True) (act.tmps[6]?.getD undef) W ∧ (fun _ _ => True) (act.tmps[21]?.getD undef) W ∧ act.tmps[15]?.getD undef = _ ∧ True := hf
        obtain ⟨-, -, f10, -⟩ := F
        have U : (OwnM w.heap.size (usedL c)) (act.tmps[6]?.getD undef) W ∧ (NewLit 0 3 (mustCells [(hasP c.perms p, 44), (inC c c.at' 1, 43), (typeB c, 45)]) 87) (act.tmps[21]?.getD undef) W ∧ True := hu
        obtain ⟨r_r1, r_n16, -⟩ := U
        generalize f1 : act.tmps[6]?.getD undef = v1 at r_r1
        generalize f16 : act.tmps[21]?.getD undef = v16 at r_n16
        clear ho hf hu
        obtain ⟨b3, rfl, -, hl3⟩ := r_n16
        dsimp only [Option.elim] at f10
        rw [← seen_eq]; refine step_append_src W rfl (.tmp 6) (.tmp 21) 84 rfl w.heap.size 87 i0 (.agg #[.bool false, .int .i64 0]) 2 16 Try.underlying84 hi hz0 hz1 hz2 rfl (by decide) _ _ _ (eval_get f1) r_r1 _ 3 (mustCells [(hasP c.perms p, 44), (inC c c.at' 1, 43), (typeB c, 45)]) (eval_get f16) (lies_lit hl3) rfl (mustCells_one _) (by show (3 + 3 : Nat) ≤ maxLen; unfold maxLen; omega) (by show (3 + 3) * 16 ≤ 140737488355328; omega) (Nat.le_trans EU.out.size hR.size) ?_; intro v' w' ho' hg' _; exact hK _ _ (Only.grown r_r1 hg' (by simp)) (OwnM.app ho' rfl rfl)
      refine And.intro (obX_pure (Only.refl _ _) ?_) ?_
      · intro act W hR hf ho hu K hK
        replace hK := fun v (b3 : (OwnM w.heap.size (authoL c p)) (v) W) => hK v W rfl trivial ⟨b3, trivial⟩
        have F : (fun _ _ => True) (act.tmps[22]?.getD undef) W ∧ (fun _ _ => True) (act.tmps[22]?.getD undef) W ∧ act.tmps[5]?.getD undef = _ ∧ (fun _ _ => True) (act.tmps[6]?.getD undef) W ∧ act.tmps[7]?.getD undef = _ ∧ act.tmps[8]?.getD undef = _ ∧ act.tmps[9]?.getD undef = _ ∧ act.tmps[10]?.getD undef = _ ∧ act.tmps[11]?.getD undef = _ ∧ act.tmps[12]?.getD undef = _ ∧ act.tmps[13]?.getD undef = _ ∧ act.tmps[14]?.getD undef = _ ∧ act.tmps[15]?.getD undef = _ ∧ act.tmps[16]?.getD undef = _ ∧ act.tmps[17]?.getD undef = _ ∧ act.tmps[18]?.getD undef = _ ∧ act.tmps[19]?.getD undef = _ ∧ act.tmps[20]?.getD undef = _ ∧ (fun _ _ => True) (act.tmps[21]?.getD undef) W ∧ (fun _ _ => True) (act.tmps[22]?.getD undef) W ∧ True := hf
        obtain ⟨-, -, f0, -, f2, f3, f4, f5, f6, f7, f8, f9, f10, f11, f12, f13, f14, f15, -, -, -⟩ := F
        have U : (OwnM w.heap.size (authoL c p)) (act.tmps[22]?.getD undef) W ∧ True := hu
        obtain ⟨r_r17, -⟩ := U
        generalize f17 : act.tmps[22]?.getD undef = v17 at r_r17
        generalize f1 : act.tmps[6]?.getD undef = v1
        generalize f16 : act.tmps[21]?.getD undef = v16
        clear ho hf hu
        go_simp
        exact hK _ r_r17
      exact trivial
    case stab =>
      refine And.intro is_stable ?_
      refine And.intro (fun _ _ _ h _ => h) ?_
      refine And.intro is_stable ?_
      refine And.intro is_stable ?_
      refine And.intro is_stable ?_
      refine And.intro is_stable ?_
      refine And.intro is_stable ?_
      refine And.intro is_stable ?_
      refine And.intro is_stable ?_
      refine And.intro is_stable ?_
      refine And.intro is_stable ?_
      refine And.intro is_stable ?_
      refine And.intro is_stable ?_
      refine And.intro is_stable ?_
      refine And.intro is_stable ?_
      refine And.intro is_stable ?_
      refine And.intro (fun _ _ _ h _ => h) ?_
      refine And.intro (fun _ _ _ h _ => h) ?_
      refine And.intro (fun _ _ _ h _ => h) ?_
      exact trivial
    case ends =>
      intro vals W hR hE hall
      have E : (OwnM w.heap.size (authoL c p)) (vals 4) W ∧ True := hE
      obtain ⟨e_r18, -⟩ := E
      clear hE
      clear hall
      generalize ev4 : vals 4 = x4 at e_r18
      simp only [fill, List.setIfInBounds_toArray, List.set_cons_succ, List.set_cons_zero, ev4]
      have hE9 : Ext w W := Only.below EU.out (Nat.le_refl _) hR
      go_wp2_with fail
      go_ret
      exact ⟨_, rfl, e_r18, hE9⟩
theorem must_row {w : World} {A : Option Addr} {l : List Must} (h : Arr w A (mustCells l)) {k : Nat} (hk : k < l.length) :
    ∃ b o, A = some ⟨b, o, none⟩ ∧ b < w.heap.size ∧ w.cell? ⟨b, o + k * 2, none⟩ = some (.bool l[k].1) ∧ w.cell? ⟨b, o + k * 2 + 1, none⟩ = some (.int .i64 l[k].2) := by
  obtain ⟨b, o, e, hb, q⟩ := h.flat (s := 2) (f := Must.cells') (fun _ => rfl) (by decide) hk
  exact ⟨b, o, e, hb, q 0 _ rfl, q 1 _ rfl⟩
set_option maxHeartbeats 1000000 in
theorem first_any (A : Option Addr) (cp : Nat) (l : List Must) (w : World) (hA : Arr w A (mustCells l)) (hl : l.length ≤ 1000) : Calls Try.prog 99 #[.slice A l.length cp] w fun e w' => e = .returned (.int .i64 (firstE l)) ∧ Ext w w' := by
  obtain ⟨r, hr⟩ : ∃ r, r = firstE l := ⟨_, rfl⟩
  rw [← hr]
  have HR := Lib.hid hr
  clear hr
  go_enter Try.func99, Try.ntmps99
  go_wp2_with fail
  go_loopw [4, 7] (fun _ i wr => ∃ k : Nat, k ≤ l.length ∧ i = .int .i64 (k : Int) ∧ Hid (r = firstE (l.drop k)) ∧ Hid (Ext w wr)) (fun _ i _ => l.length - (intOf i).toNat)
  case atStart => exact ⟨0, Nat.zero_le _, rfl, Lib.hid (by rw [HR.out, List.drop_zero]), Lib.hid (Below.refl _ _)⟩
  case round =>
    obtain ⟨k, hk, rfl, hf, hE⟩ := hrel
    by_cases hlt : k < l.length
    · obtain ⟨b1, o1, rfl, -, x0, x1⟩ := must_row (hA.ext hE.out) hlt
      have hd := hf.out
      rw [List.drop_eq_getElem_cons hlt, firstE] at hd
      obtain ⟨m, hm⟩ : ∃ m, m = l[k] := ⟨_, rfl⟩
      rw [← hm] at x0 x1 hd
      obtain ⟨b, e⟩ := m
      simp only at x0 x1 hd
      clear hm
      cases b with
      | true =>
        have HD := Lib.hid (show r = firstE (l.drop (k + 1)) by simpa using hd)
        clear hd
        go_wp2_with fail
        exact ⟨⟨k + 1, by omega, by simp, HD, Lib.hid (hE.out.then (by repeat first | (with_reducible exact Below.refl _ _) | (with_reducible apply Ext.alloc) | (with_reducible apply Ext.drew) | (with_reducible apply Ext.drewN) | (with_reducible refine Ext.set ?_ (by simp))))⟩, by simp [intOf]; omega⟩
      | false =>
        have hr : r = e := by simpa using hd
        subst hr
        clear hd
        go_wp2_with fail
        go_ret
        exact ⟨rfl, hE.out.then (by repeat first | (with_reducible exact Below.refl _ _) | (with_reducible apply Ext.alloc) | (with_reducible apply Ext.drew) | (with_reducible apply Ext.drewN) | (with_reducible refine Ext.set ?_ (by simp)))⟩
    · obtain rfl : k = l.length := by omega
      have hr : r = 0 := by rw [hf.out, List.drop_length]; rfl
      subst hr
      go_wp2_with fail
      go_ret
      exact ⟨rfl, hE.out⟩
end Go.Proofs.Ytalndcjbnedigaa

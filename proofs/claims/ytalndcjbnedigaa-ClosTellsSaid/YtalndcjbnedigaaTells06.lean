
/- ClosTells: the walk of the law. -/
import Derived.Test.YtalndcjbnedigaaRefO
import Derived.Test.YtalndcjbnedigaaRefN
set_option linter.all false
namespace Go.Proofs.Ytalndcjbnedigaa
open Go.RowKit Go.Shelf
attribute [local go_sem] seen dstOf boolOf

/-- A list that lies. -/
def CapsT (l : List Cap) : Pr := fun v W => ∃ A c, v = .slice A l.length c ∧ Arr W A (capCells l)
theorem CapsT.ext {l : List Cap} {v : Value} {W W' : World} (h : CapsT l v W) (e : Ext W W') : CapsT l v W' := by
  obtain ⟨A, c, h1, h2⟩ := h
  exact ⟨A, c, h1, h2.ext e⟩
def IntsT (l : List Int) : Pr := fun v W => ∃ A c, v = .slice A l.length c ∧ Arr W A (intCells l)
theorem IntsT.ext {l : List Int} {v : Value} {W W' : World} (h : IntsT l v W) (e : Ext W W') : IntsT l v W' := by
  obtain ⟨A, c, h1, h2⟩ := h
  exact ⟨A, c, h1, h2.ext e⟩
theorem CapsT.own {w : World} {B : Nat} {v : Value} {l : List Cap} (h : w.ownsRow B 24 6 v l.length (capCells l)) : CapsT l v w := by
  obtain ⟨A, c, rfl, -, hA⟩ := Arr.own h
  exact ⟨A, c, rfl, hA⟩
theorem IntsT.own {w : World} {B : Nat} {v : Value} {l : List Int} (h : w.ownsRow B 3 1 v l.length (intCells l)) : IntsT l v w := by
  obtain ⟨A, c, rfl, -, hA⟩ := Arr.own h
  exact ⟨A, c, rfl, hA⟩
set_option maxHeartbeats 2000000 in
set_option maxRecDepth 20000 in
theorem tells06_any (A : Option Addr) (cp : Nat) (l : List Cap) (c : Cap) (p : Int) (w : World) (hA : Arr w A (capCells l)) (hw : ∀ x ∈ l, CapWf x) (hc : CapWf c) (hp : i64ok' p) : Calls Try.prog 3 #[.slice A l.length cp, c.val, .int .i64 p] w (Tell w true) := by
  by_cases hl : 40 < l.length
  · go_enter Try.func3, Try.ntmps3
    go_wp2_with fail
    refine (head06 _).mono ?_
    rintro _ w1 ⟨rfl, hE⟩
    go_wp2_with fail
    go_ret
    exact ⟨rfl, Ext.then (by repeat first | (with_reducible exact Below.refl _ _) | (with_reducible apply Ext.alloc) | (with_reducible apply Ext.drew) | (with_reducible apply Ext.drewN) | (with_reducible refine Ext.set ?_ (by simp))) hE⟩
  · go_enter Try.func3, Try.ntmps3
    go_wp2_with fail
    refine (head06 _).mono ?_
    rintro _ w1 ⟨rfl, hE1⟩
    have HC : Hid (w1.heap[w.heap.size]? = some (.cells c.cells.toArray 24)) := Lib.hid ((hE1.block _ (by simp)).trans (heap_alloc_new w _))
    have E1 : Hid (Ext w w1) := Lib.hid (Ext.then (by repeat first | (with_reducible exact Below.refl _ _) | (with_reducible apply Ext.alloc) | (with_reducible apply Ext.drew) | (with_reducible apply Ext.drewN) | (with_reducible refine Ext.set ?_ (by simp))) hE1)
    have HA := Lib.hid (hA.ext E1.out)
    clear hE1 hA
    go_wp2_with fail
    refine (new_is A cp l _ HA.out hw (by omega)).mono ?_
    rintro _ w2 ⟨s, G, O, rfl, hs, hp', hE⟩
    have E2 : Hid (Ext w1 w2) := Lib.hid hE
    have S2 := Lib.hid hs
    clear hs hE hp'
    go_wp2_with fail
    refine (newR_any A cp l _ (HA.out.ext E2.out) hw (by omega)).mono ?_
    rintro _ w3 ⟨t, vg, vo, G', O', rfl, hr, hok, hE⟩
    have E3 : Hid (Ext w1 w3) := Lib.hid (E2.out.then hE)
    have S3 := Lib.hid (S2.out.ext hE)
    have R3 := Lib.hid hr
    have hwo := Lib.hid (hok.wf hw)
    have hlen := hok.len
    have hGl : G'.length ≤ 1000 := by omega
    have hOl : O'.length ≤ 1000 := by omega
    have HOP : Hid (∀ o ∈ O', IsOpen o) := Lib.hid fun o ho => hok.open ho
    have HND : Hid O'.Nodup := Lib.hid hok.once
    obtain ⟨q1, q2, q3, -⟩ := set_same S2.out.ok hok fun _ => Iff.rfl
    have QQ := Lib.hid (And.intro (q1 c) (And.intro q2 (q3 p)))
    have hc3 := Lib.hid (ext_at' E3.out HC.out)
    have HPL : Hid ((openS O').length ≤ 1000) := Lib.hid (by
      have h2 : (mostL O').length ≤ O'.length := List.length_filter_le _ _
      rw [openS_len]
      omega)
    have HTL : Hid ((typesS O' p).length ≤ 1000) := Lib.hid (Nat.le_trans (typesK_len O' p 254) (by decide))
    clear hr hok hE q1 q2 q3 hlen
    go_wp2_with fail
    refine wp_region_res (Ext) [⟨some 12, [(12, [])], [15]⟩, ⟨some 14, [(14, [])], [15]⟩, ⟨some 20, [(20, [])], [24]⟩, ⟨some 23, [(23, [])], [24]⟩] [(fun (u : Nat → Value) (W : World) => (fun (v : Value) (W : World) => CapsT (openS O') v W) (u 12) W), (fun (u : Nat → Value) (W : World) => (fun (v : Value) (W : World) => CapsT (openS O') v W) (u 14) W), (fun (u : Nat → Value) (W : World) => (fun (v : Value) (W : World) => IntsT (typesS O' p) v W) (u 20) W), (fun (u : Nat → Value) (W : World) => (fun (v : Value) (W : World) => IntsT (typesS O' p) v W) (u 23) W)] [⟨[], [.early [10, 9, 1, 0], .early [10, 9, 1, 0], .early [17, 16, 10, 9, 1, 0], .early [17, 16, 10, 9, 1, 0]]⟩, ⟨[], [.early [10, 9, 1], .early [10, 9, 1], .early [17, 16, 10, 9, 1], .early [17, 16, 10, 9, 1]]⟩, ⟨[], [.early [10, 7, 4, 2], .early [10, 7, 4, 2], .early [17, 16, 10, 7, 4, 2], .early [17, 16, 10, 7, 4, 2]]⟩, ⟨[], [.early [10, 7, 4, 3], .early [10, 7, 4, 3], .early [17, 16, 10, 7, 4, 3], .early [17, 16, 10, 7, 4, 3]]⟩, ⟨[], [.early [10, 7, 4], .early [10, 7, 4], .early [17, 16, 10, 7, 4], .early [17, 16, 10, 7, 4]]⟩, ⟨[], [.early [10, 7, 5], .early [10, 7, 5], .early [17, 16, 10, 7, 5], .early [17, 16, 10, 7, 5]]⟩, ⟨[], [.early [10, 7, 6], .early [10, 7, 6], .early [17, 16, 10, 7, 6], .early [17, 16, 10, 7, 6]]⟩, ⟨[], [.early [10, 7], .early [10, 7], .early [17, 16, 10, 7], .early [17, 16, 10, 7]]⟩, ⟨[], [.early [10, 9, 8], .early [10, 9, 8], .early [17, 16, 10, 9, 8], .early [17, 16, 10, 9, 8]]⟩, ⟨[], [.early [10, 9], .early [10, 9], .early [17, 16, 10, 9], .early [17, 16, 10, 9]]⟩, ⟨[], [.early [10], .early [10], .early [17, 16, 10], .early [17, 16, 10]]⟩, ⟨[], [.early [11], .early [12, 11], .early [17, 15, 12, 11], .early [17, 15, 12, 11]]⟩, ⟨[], [.last, .early [12], .early [17, 15, 12], .early [17, 15, 12]]⟩, ⟨[], [.keep, .early [13], .early [17, 15, 14, 13], .early [17, 15, 14, 13]]⟩, ⟨[], [.keep, .last, .early [17, 15, 14], .early [17, 15, 14]]⟩, ⟨[(0, [12]), (1, [14])], [.late [[]], .late [[]], .early [17, 15], .early [17, 15]]⟩, ⟨[], [.late [[15]], .late [[15]], .early [17, 16], .early [17, 16]]⟩, ⟨[], [.late [[15]], .late [[15]], .early [17], .early [17]]⟩, ⟨[], [.late [[17, 15]], .late [[17, 15]], .early [18], .early [20, 18]]⟩, ⟨[], [.late [[17, 15]], .late [[17, 15]], .early [19], .early [20, 19]]⟩, ⟨[], [.late [[17, 15]], .late [[17, 15]], .last, .early [20]]⟩, ⟨[], [.late [[17, 15]], .late [[17, 15]], .keep, .early [21]]⟩, ⟨[], [.late [[17, 15]], .late [[17, 15]], .keep, .early [22]]⟩, ⟨[], [.late [[17, 15]], .late [[17, 15]], .keep, .last]⟩, ⟨[(2, [20]), (3, [23])], [.late [[17, 15]], .late [[17, 15]], .late [[]], .late [[]]]⟩, ⟨[], [.late [[17, 15]], .late [[17, 15]], .late [[24]], .late [[24]]]⟩, ⟨[], [.late [[15]], .late [[15]], .late [[24]], .late [[24]]]⟩] [21, 22, 23, 24, 25, 26, 27, 28, 29, 30, 31, 32, 33, 34, 35, 36, 37, 38, 39, 40, 41, 42, 43, 44, 45, 46, 6] (by kernel_rfl) (fun _ => Below.refl _ _) (fun _ _ _ => Ext.then) (by kernel_rfl) (by kernel_rfl) (by kernel_rfl) (by kernel_rfl) (by kernel_rfl) ?start ?_
    case start =>
      exact trivial
    apply ex_is; apply Exists.intro
    apply ex_is; apply Exists.intro
    apply ex_is; apply Exists.intro
    apply ex_is; apply Exists.intro
    apply ex_is; apply Exists.intro
    apply ex_is; apply Exists.intro
    apply ex_is; apply Exists.intro
    apply ex_is; apply Exists.intro
    apply ex_is; apply Exists.intro
    apply ex_is; apply Exists.intro
    apply ex_is; apply Exists.intro
    apply ex_is; apply Exists.intro
    refine ex_phi (fun _ _ => True) ?_
    apply ex_is; apply Exists.intro
    refine ex_phi (fun _ _ => True) ?_
    apply ex_is; apply Exists.intro
    apply ex_is; apply Exists.intro
    apply ex_is; apply Exists.intro
    apply ex_is; apply Exists.intro
    apply ex_is; apply Exists.intro
    refine ex_phi (fun _ _ => True) ?_
    apply ex_is; apply Exists.intro
    apply ex_is; apply Exists.intro
    refine ex_phi (fun _ _ => True) ?_
    apply ex_is; apply Exists.intro
    apply ex_is; apply Exists.intro
    apply ex_is; apply Exists.intro
    refine ⟨[], ⟨?steps, ?stab, ?ends⟩⟩
    case steps =>
      refine And.intro (obX_pure (fun _ => Below.refl _ _) ?_) ?_
      · intro act W hR hf ho hu K hK
        replace hR := ext_drew hR
        replace hK := fun v h2 => hK v W rfl h2 trivial
        have G : act.tmps[7]?.getD undef = _ ∧ True := ho
        obtain ⟨g7, -⟩ := G
        clear ho hf hu
        go_simp
        exact hK _ (Eq.refl _)
      refine And.intro (obX_pure (fun _ => Below.refl _ _) ?_) ?_
      · intro act W hR hf ho hu K hK
        replace hR := ext_drew hR
        replace hK := fun v h2 => hK v W rfl h2 trivial
        have F : act.tmps[21]?.getD undef = _ ∧ True := hf
        obtain ⟨f0, -⟩ := F
        clear ho hf hu
        go_simp
        exact hK _ (Eq.refl _)
      refine And.intro (obX_pure (fun _ => Below.refl _ _) ?_) ?_
      · intro act W hR hf ho hu K hK
        replace hR := ext_drew hR
        replace hK := fun v h2 => hK v W rfl h2 trivial
        have G : act.tmps[8]?.getD undef = _ ∧ True := ho
        obtain ⟨g8, -⟩ := G
        have F : act.tmps[22]?.getD undef = _ ∧ True := hf
        obtain ⟨f1, -⟩ := F
        clear ho hf hu
        go_simp
        exact hK _ (Eq.refl _)
      refine And.intro (obX_pure (fun _ => Below.refl _ _) ?_) ?_
      · intro act W hR hf ho hu K hK
        replace hR := ext_drew hR
        replace hK := fun v h2 => hK v W rfl h2 trivial
        have G : act.tmps[4]?.getD undef = _ ∧ True := ho
        obtain ⟨g4, -⟩ := G
        have F : act.tmps[22]?.getD undef = _ ∧ True := hf
        obtain ⟨f1, -⟩ := F
        clear ho hf hu
        obtain ⟨y0, y1, y2, y3, y4, y5⟩ := lie6' hc3.out hR
        go_simp
        exact hK _ (Eq.refl _)
      refine And.intro (obX_eff (Ext) (fun _ _ h => h) (trivial) ?_) ?_
      · intro act W hR hf ho hu K hK
        replace hR := ext_drew hR
        replace hK := fun v (w' : World) (h1 : (Ext) W w') h2 => hK v w' h1 h2 trivial
        have F : act.tmps[23]?.getD undef = _ ∧ act.tmps[24]?.getD undef = _ ∧ act.tmps[22]?.getD undef = _ ∧ act.tmps[22]?.getD undef = _ ∧ True := hf
        obtain ⟨f2, f3, f1, -, -⟩ := F
        clear ho hf hu
        go_simp
        refine (has_set c (S3.out.ext hR) (by omega) hw hc).mono ?_; rintro _ W1 ⟨rfl, hE⟩; rw [QQ.out.1]; exact hK _ _ hE (Eq.refl _)
      refine And.intro (obX_pure (fun _ => Below.refl _ _) ?_) ?_
      · intro act W hR hf ho hu K hK
        replace hR := ext_drew hR
        replace hK := fun v h2 => hK v W rfl h2 trivial
        have G : act.tmps[9]?.getD undef = _ ∧ True := ho
        obtain ⟨g9, -⟩ := G
        have F : act.tmps[22]?.getD undef = _ ∧ True := hf
        obtain ⟨f1, -⟩ := F
        clear ho hf hu
        go_simp
        exact hK _ (Eq.refl _)
      refine And.intro (obX_pure (fun _ => Below.refl _ _) ?_) ?_
      · intro act W hR hf ho hu K hK
        replace hR := ext_drew hR
        replace hK := fun v h2 => hK v W rfl h2 trivial
        have G : act.tmps[4]?.getD undef = _ ∧ True := ho
        obtain ⟨g4, -⟩ := G
        have F : act.tmps[22]?.getD undef = _ ∧ True := hf
        obtain ⟨f1, -⟩ := F
        clear ho hf hu
        obtain ⟨y0, y1, y2, y3, y4, y5⟩ := lie6' hc3.out hR
        go_simp
        exact hK _ (Eq.refl _)
      refine And.intro (obX_eff (Ext) (fun _ _ h => h) (trivial) ?_) ?_
      · intro act W hR hf ho hu K hK
        replace hR := ext_drew hR
        replace hK := fun v (w' : World) (h1 : (Ext) W w') h2 => hK v w' h1 h2 trivial
        have F : act.tmps[26]?.getD undef = _ ∧ act.tmps[27]?.getD undef = _ ∧ act.tmps[25]?.getD undef = _ ∧ act.tmps[22]?.getD undef = _ ∧ True := hf
        obtain ⟨f5, f6, f4, f1, -⟩ := F
        clear ho hf hu
        go_simp
        refine (hasRef_any _ t vg vo G' O' c _ (R3.out.ext hR) hGl hOl hwo.out.2).mono ?_; rintro _ W1 ⟨rfl, hE⟩; exact hK _ _ hE (Eq.refl _)
      refine And.intro (obX_pure (fun _ => Below.refl _ _) ?_) ?_
      · intro act W hR hf ho hu K hK
        replace hR := ext_drew hR
        replace hK := fun v h2 => hK v W rfl h2 trivial
        have F : act.tmps[25]?.getD undef = _ ∧ act.tmps[28]?.getD undef = _ ∧ act.tmps[22]?.getD undef = _ ∧ True := hf
        obtain ⟨f4, f7, f1, -⟩ := F
        clear ho hf hu
        go_simp
        exact hK _ (Eq.refl _)
      refine And.intro (obX_pure (fun _ => Below.refl _ _) ?_) ?_
      · intro act W hR hf ho hu K hK
        replace hR := ext_drew hR
        replace hK := fun v h2 => hK v W rfl h2 trivial
        have F : act.tmps[22]?.getD undef = _ ∧ act.tmps[29]?.getD undef = _ ∧ True := hf
        obtain ⟨f1, f8, -⟩ := F
        clear ho hf hu
        go_simp
        exact hK _ (Eq.refl _)
      refine And.intro (obX_pure (fun _ => Below.refl _ _) ?_) ?_
      · intro act W hR hf ho hu K hK
        replace hR := ext_drew hR
        replace hK := fun v h2 => hK v W rfl h2 trivial
        have F : act.tmps[30]?.getD undef = _ ∧ act.tmps[28]?.getD undef = _ ∧ True := hf
        obtain ⟨f9, f7, -⟩ := F
        clear ho hf hu
        go_simp
        exact hK _ (Eq.refl _)
      refine And.intro (obX_pure (fun _ => Below.refl _ _) ?_) ?_
      · intro act W hR hf ho hu K hK
        replace hR := ext_drew hR
        replace hK := fun v h2 => hK v W rfl h2 trivial
        have G : act.tmps[8]?.getD undef = _ ∧ True := ho
        obtain ⟨g8, -⟩ := G
        have F : act.tmps[31]?.getD undef = _ ∧ True := hf
        obtain ⟨f10, -⟩ := F
        clear ho hf hu
        go_simp
        exact hK _ (Eq.refl _)
      refine And.intro (obX_eff (Ext) (fun _ _ h => h) (trivial) ?_) ?_
      · intro act W hR hf ho hu K hK
        replace hR := ext_drew hR
        replace hK := fun v (w' : World) (h1 : (Ext) W w') (b0 : (fun (v : Value) (W : World) => CapsT (openS O') v W) (v) w') => hK v w' h1 trivial ⟨b0, trivial⟩
        have F : act.tmps[32]?.getD undef = _ ∧ act.tmps[31]?.getD undef = _ ∧ act.tmps[31]?.getD undef = _ ∧ True := hf
        obtain ⟨f11, f10, -, -⟩ := F
        clear ho hf hu
        go_simp
        refine (open_set (S3.out.ext hR) (by omega) hw).mono ?_; rintro _ W1 ⟨v, rfl, ho, hE⟩; rw [QQ.out.2.1] at ho; exact hK _ _ hE (CapsT.own ho)
      refine And.intro (obX_pure (fun _ => Below.refl _ _) ?_) ?_
      · intro act W hR hf ho hu K hK
        replace hR := ext_drew hR
        replace hK := fun v h2 => hK v W rfl h2 trivial
        have G : act.tmps[9]?.getD undef = _ ∧ True := ho
        obtain ⟨g9, -⟩ := G
        have F : act.tmps[31]?.getD undef = _ ∧ True := hf
        obtain ⟨f10, -⟩ := F
        clear ho hf hu
        go_simp
        exact hK _ (Eq.refl _)
      refine And.intro (obX_eff (Ext) (fun _ _ h => h) (And.intro (fun _ _ _ h e => h.ext e) (trivial)) ?_) ?_
      · intro act W hR hf ho hu K hK
        replace hR := ext_drew hR
        replace hK := fun v (w' : World) (h1 : (Ext) W w') (b1 : (fun (v : Value) (W : World) => CapsT (openS O') v W) (v) w') => hK v w' h1 trivial ⟨b1, trivial⟩
        have F : act.tmps[34]?.getD undef = _ ∧ (fun _ _ => True) (act.tmps[33]?.getD undef) W ∧ act.tmps[31]?.getD undef = _ ∧ True := hf
        obtain ⟨f13, -, f10, -⟩ := F
        generalize f12 : act.tmps[33]?.getD undef = v12
        clear ho hf hu
        go_simp
        refine (openR_any _ t vg vo G' O' _ (R3.out.ext hR) hOl HOP.out HND.out).mono ?_; rintro _ W1 ⟨v, rfl, ho, hE⟩; exact hK _ _ hE (CapsT.own ho)
      refine And.intro (obX_eff (Ext) (fun _ _ h => h) (trivial) ?_) ?_
      · intro act W hR hf ho hu K hK
        replace hR := ext_drew hR
        replace hK := fun v (w' : World) (h1 : (Ext) W w') h2 => hK v w' h1 h2 trivial
        have F : (fun _ _ => True) (act.tmps[33]?.getD undef) W ∧ (fun _ _ => True) (act.tmps[35]?.getD undef) W ∧ (fun _ _ => True) (act.tmps[35]?.getD undef) W ∧ act.tmps[31]?.getD undef = _ ∧ True := hf
        obtain ⟨-, -, -, f10, -⟩ := F
        have U : (fun (v : Value) (W : World) => CapsT (openS O') v W) (act.tmps[33]?.getD undef) W ∧ (fun (v : Value) (W : World) => CapsT (openS O') v W) (act.tmps[35]?.getD undef) W ∧ True := hu
        obtain ⟨r_o12, r_o14, -⟩ := U
        generalize f12 : act.tmps[33]?.getD undef = v12 at r_o12
        generalize f14 : act.tmps[35]?.getD undef = v14 at r_o14
        clear ho hf hu
        obtain ⟨A1, c1, rfl, a1⟩ := r_o12; obtain ⟨A2, c2, rfl, a2⟩ := r_o14
        go_simp
        refine (same_any A1 A2 c1 c2 _ _ W a1 a2 HPL.out HPL.out).mono ?_; rintro _ W1 ⟨rfl, hE⟩; rw [decide_eq_true rfl]; exact hK _ _ hE (Eq.refl _)
      refine And.intro (obX_pure (fun _ => Below.refl _ _) ?_) ?_
      · intro act W hR hf ho hu K hK
        replace hR := ext_drew hR
        replace hK := fun v h2 => hK v W rfl h2 trivial
        have F : act.tmps[31]?.getD undef = _ ∧ act.tmps[36]?.getD undef = _ ∧ True := hf
        obtain ⟨f10, f15, -⟩ := F
        clear ho hf hu
        go_simp
        exact hK _ (Eq.refl _)
      refine And.intro (obX_pure (fun _ => Below.refl _ _) ?_) ?_
      · intro act W hR hf ho hu K hK
        replace hR := ext_drew hR
        replace hK := fun v h2 => hK v W rfl h2 trivial
        have F : act.tmps[37]?.getD undef = _ ∧ act.tmps[36]?.getD undef = _ ∧ True := hf
        obtain ⟨f16, f15, -⟩ := F
        clear ho hf hu
        go_simp
        exact hK _ (Eq.refl _)
      refine And.intro (obX_pure (fun _ => Below.refl _ _) ?_) ?_
      · intro act W hR hf ho hu K hK
        replace hR := ext_drew hR
        replace hK := fun v h2 => hK v W rfl h2 trivial
        have G : act.tmps[8]?.getD undef = _ ∧ True := ho
        obtain ⟨g8, -⟩ := G
        have F : act.tmps[38]?.getD undef = _ ∧ True := hf
        obtain ⟨f17, -⟩ := F
        clear ho hf hu
        go_simp
        exact hK _ (Eq.refl _)
      refine And.intro (obX_pure (fun _ => Below.refl _ _) ?_) ?_
      · intro act W hR hf ho hu K hK
        replace hR := ext_drew hR
        replace hK := fun v h2 => hK v W rfl h2 trivial
        have G : act.tmps[2]?.getD undef = _ ∧ True := ho
        obtain ⟨g2, -⟩ := G
        have F : act.tmps[38]?.getD undef = _ ∧ True := hf
        obtain ⟨f17, -⟩ := F
        clear ho hf hu
        go_simp
        exact hK _ (Eq.refl _)
      refine And.intro (obX_eff (Ext) (fun _ _ h => h) (trivial) ?_) ?_
      · intro act W hR hf ho hu K hK
        replace hR := ext_drew hR
        replace hK := fun v (w' : World) (h1 : (Ext) W w') (b2 : (fun (v : Value) (W : World) => IntsT (typesS O' p) v W) (v) w') => hK v w' h1 trivial ⟨b2, trivial⟩
        have F : act.tmps[39]?.getD undef = _ ∧ act.tmps[40]?.getD undef = _ ∧ act.tmps[38]?.getD undef = _ ∧ act.tmps[38]?.getD undef = _ ∧ True := hf
        obtain ⟨f18, f19, f17, -, -⟩ := F
        clear ho hf hu
        go_simp
        refine (types_set p (S3.out.ext hR) (by omega) hw hp).mono ?_; rintro _ W1 ⟨v, rfl, ho, hE⟩; rw [QQ.out.2.2] at ho; exact hK _ _ hE (IntsT.own ho)
      refine And.intro (obX_pure (fun _ => Below.refl _ _) ?_) ?_
      · intro act W hR hf ho hu K hK
        replace hR := ext_drew hR
        replace hK := fun v h2 => hK v W rfl h2 trivial
        have G : act.tmps[9]?.getD undef = _ ∧ True := ho
        obtain ⟨g9, -⟩ := G
        have F : act.tmps[38]?.getD undef = _ ∧ True := hf
        obtain ⟨f17, -⟩ := F
        clear ho hf hu
        go_simp
        exact hK _ (Eq.refl _)
      refine And.intro (obX_pure (fun _ => Below.refl _ _) ?_) ?_
      · intro act W hR hf ho hu K hK
        replace hR := ext_drew hR
        replace hK := fun v h2 => hK v W rfl h2 trivial
        have G : act.tmps[2]?.getD undef = _ ∧ True := ho
        obtain ⟨g2, -⟩ := G
        have F : act.tmps[38]?.getD undef = _ ∧ True := hf
        obtain ⟨f17, -⟩ := F
        clear ho hf hu
        go_simp
        exact hK _ (Eq.refl _)
      refine And.intro (obX_eff (Ext) (fun _ _ h => h) (And.intro (fun _ _ _ h e => h.ext e) (trivial)) ?_) ?_
      · intro act W hR hf ho hu K hK
        replace hR := ext_drew hR
        replace hK := fun v (w' : World) (h1 : (Ext) W w') (b3 : (fun (v : Value) (W : World) => IntsT (typesS O' p) v W) (v) w') => hK v w' h1 trivial ⟨b3, trivial⟩
        have F : act.tmps[42]?.getD undef = _ ∧ act.tmps[43]?.getD undef = _ ∧ (fun _ _ => True) (act.tmps[41]?.getD undef) W ∧ act.tmps[38]?.getD undef = _ ∧ True := hf
        obtain ⟨f21, f22, -, f17, -⟩ := F
        generalize f20 : act.tmps[41]?.getD undef = v20
        clear ho hf hu
        go_simp
        refine (typesR_any _ t vg vo G' O' p _ (R3.out.ext hR) hOl hwo.out.2).mono ?_; rintro _ W1 ⟨v, rfl, ho, hE⟩; exact hK _ _ hE (IntsT.own ho)
      refine And.intro (obX_eff (Ext) (fun _ _ h => h) (trivial) ?_) ?_
      · intro act W hR hf ho hu K hK
        replace hR := ext_drew hR
        replace hK := fun v (w' : World) (h1 : (Ext) W w') h2 => hK v w' h1 h2 trivial
        have F : (fun _ _ => True) (act.tmps[41]?.getD undef) W ∧ (fun _ _ => True) (act.tmps[44]?.getD undef) W ∧ (fun _ _ => True) (act.tmps[44]?.getD undef) W ∧ act.tmps[38]?.getD undef = _ ∧ True := hf
        obtain ⟨-, -, -, f17, -⟩ := F
        have U : (fun (v : Value) (W : World) => IntsT (typesS O' p) v W) (act.tmps[41]?.getD undef) W ∧ (fun (v : Value) (W : World) => IntsT (typesS O' p) v W) (act.tmps[44]?.getD undef) W ∧ True := hu
        obtain ⟨r_t20, r_t23, -⟩ := U
        generalize f20 : act.tmps[41]?.getD undef = v20 at r_t20
        generalize f23 : act.tmps[44]?.getD undef = v23 at r_t23
        clear ho hf hu
        obtain ⟨A1, c1, rfl, a1⟩ := r_t20; obtain ⟨A2, c2, rfl, a2⟩ := r_t23
        go_simp
        refine (sameInts_any A1 A2 c1 c2 _ _ W a1 a2 HTL.out HTL.out).mono ?_; rintro _ W1 ⟨rfl, hE⟩; rw [decide_eq_true rfl]; exact hK _ _ hE (Eq.refl _)
      refine And.intro (obX_pure (fun _ => Below.refl _ _) ?_) ?_
      · intro act W hR hf ho hu K hK
        replace hR := ext_drew hR
        replace hK := fun v h2 => hK v W rfl h2 trivial
        have F : act.tmps[38]?.getD undef = _ ∧ act.tmps[45]?.getD undef = _ ∧ True := hf
        obtain ⟨f17, f24, -⟩ := F
        clear ho hf hu
        go_simp
        exact hK _ (Eq.refl _)
      refine And.intro (obX_pure (fun _ => Below.refl _ _) ?_) ?_
      · intro act W hR hf ho hu K hK
        replace hR := ext_drew hR
        replace hK := fun v h2 => hK v W rfl h2 trivial
        have F : act.tmps[46]?.getD undef = _ ∧ act.tmps[45]?.getD undef = _ ∧ act.tmps[21]?.getD undef = _ ∧ act.tmps[22]?.getD undef = _ ∧ act.tmps[23]?.getD undef = _ ∧ act.tmps[24]?.getD undef = _ ∧ act.tmps[25]?.getD undef = _ ∧ act.tmps[26]?.getD undef = _ ∧ act.tmps[27]?.getD undef = _ ∧ act.tmps[28]?.getD undef = _ ∧ act.tmps[29]?.getD undef = _ ∧ act.tmps[30]?.getD undef = _ ∧ act.tmps[31]?.getD undef = _ ∧ act.tmps[32]?.getD undef = _ ∧ (fun _ _ => True) (act.tmps[33]?.getD undef) W ∧ act.tmps[34]?.getD undef = _ ∧ (fun _ _ => True) (act.tmps[35]?.getD undef) W ∧ act.tmps[36]?.getD undef = _ ∧ act.tmps[37]?.getD undef = _ ∧ act.tmps[38]?.getD undef = _ ∧ act.tmps[39]?.getD undef = _ ∧ act.tmps[40]?.getD undef = _ ∧ (fun _ _ => True) (act.tmps[41]?.getD undef) W ∧ act.tmps[42]?.getD undef = _ ∧ act.tmps[43]?.getD undef = _ ∧ (fun _ _ => True) (act.tmps[44]?.getD undef) W ∧ act.tmps[45]?.getD undef = _ ∧ act.tmps[46]?.getD undef = _ ∧ True := hf
        obtain ⟨f25, f24, f0, f1, f2, f3, f4, f5, f6, f7, f8, f9, f10, f11, -, f13, -, f15, f16, f17, f18, f19, -, f21, f22, -, -, -, -⟩ := F
        generalize f12 : act.tmps[33]?.getD undef = v12
        generalize f14 : act.tmps[35]?.getD undef = v14
        generalize f20 : act.tmps[41]?.getD undef = v20
        generalize f23 : act.tmps[44]?.getD undef = v23
        clear ho hf hu
        go_simp
        exact hK _ (Eq.refl _)
      exact trivial
    case stab =>
      refine And.intro is_stable ?_
      refine And.intro is_stable ?_
      refine And.intro is_stable ?_
      refine And.intro is_stable ?_
      refine And.intro is_stable ?_
      refine And.intro is_stable ?_
      refine And.intro is_stable ?_
      refine And.intro is_stable ?_
      refine And.intro is_stable ?_
      refine And.intro is_stable ?_
      refine And.intro is_stable ?_
      refine And.intro is_stable ?_
      refine And.intro (fun _ _ _ h _ => h) ?_
      refine And.intro is_stable ?_
      refine And.intro (fun _ _ _ h _ => h) ?_
      refine And.intro is_stable ?_
      refine And.intro is_stable ?_
      refine And.intro is_stable ?_
      refine And.intro is_stable ?_
      refine And.intro is_stable ?_
      refine And.intro (fun _ _ _ h _ => h) ?_
      refine And.intro is_stable ?_
      refine And.intro is_stable ?_
      refine And.intro (fun _ _ _ h _ => h) ?_
      refine And.intro is_stable ?_
      refine And.intro is_stable ?_
      refine And.intro is_stable ?_
      exact trivial
    case ends =>
      intro vals W hR hE hall
      replace hR := ext_drew hR
      clear hE
      have e6 : vals 6 = _ := hall 26 (by decide)
      clear hall
      simp only [fill, List.setIfInBounds_toArray, List.set_cons_succ, List.set_cons_zero, e6]
      go_wp2_with fail
      go_ret
      exact ⟨rfl, (E1.out.then E3.out).then (Ext.then (by repeat first | (with_reducible exact Below.refl _ _) | (with_reducible apply Ext.alloc) | (with_reducible apply Ext.drew) | (with_reducible apply Ext.drewN) | (with_reducible refine Ext.set ?_ (by simp)) | (with_reducible refine Ext.then ?_ hR)) (Below.refl _ _))⟩
end Go.Proofs.Ytalndcjbnedigaa

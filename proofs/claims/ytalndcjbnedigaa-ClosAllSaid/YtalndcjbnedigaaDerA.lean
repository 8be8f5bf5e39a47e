
/- Package derive: what must be so, one by one. -/
import Derived.Test.YtalndcjbnedigaaDerP
import Derived.Test.YtalndcjbnedigaaCapU
import Derived.Test.YtalndcjbnedigaaRngInv
import Derived.Test.YtalndcjbnedigaaPhiR
import Derived.Test.YtalndcjbnedigaaFar
set_option linter.all false
namespace Go.Proofs.Ytalndcjbnedigaa
open Go.RowKit Go.Shelf
attribute [local go_sem] seen dstOf boolOf

def MustPost (w : World) (b : Bool) (k : Int) (e : Ending) (w' : World) : Prop := e = .returned (.agg #[.bool b, .int .i64 k]) ∧ Ext w w'
theorem infoMust : (Try.prog.info? 87).map (fun i => (i.zero, i.size, i.bytes)) = some (some (.agg #[.bool false, .int .i64 0]), 2, 16) := by kernel_rfl
set_option maxRecDepth 20000 in
theorem right_must (c : Cap) (w : World) (hc : CapWf c) : Calls Try.prog 77 #[c.val] w (MustPost w (rightC c) 1) := by
  go_enter Try.func77, Try.ntmps77
  go_wp2_with fail
  refine (capRight_any c _ hc).mono ?_
  rintro _ w1 ⟨rfl, hE⟩
  obtain ⟨hc1, hf1, hz1⟩ := bcell hE
  generalize rightC c = r at *
  go_wp2_with fail
  refine bodyPost_ret (v := .agg #[.bool r, .int .i64 1]) (by simp [results, Try.results77, go_sem, hc1]) rfl ⟨rfl, ((Ext.then (Ext.alloc (Ext.alloc (Below.refl _ w) _) _) hE).set (by simp)).set (by simp)⟩
set_option maxRecDepth 20000 in
theorem tagged_must (c : Cap) (w : World) : Calls Try.prog 80 #[c.val] w (MustPost w c.tag 41) := by
  go_enter Try.func80, Try.ntmps80
  go_wp2_with fail
  exact bodyPost_ret (v := .agg #[.bool c.tag, .int .i64 41]) (by simp [results, Try.results80, go_sem]) rfl ⟨rfl, (by repeat first | (with_reducible exact Below.refl _ _) | (with_reducible apply Ext.alloc) | (with_reducible apply Ext.drew) | (with_reducible apply Ext.drewN) | (with_reducible refine Ext.set ?_ (by simp)))⟩
set_option maxRecDepth 20000 in
theorem sealed_must (c : Cap) (b : Bool) (w : World) : Calls Try.prog 81 #[c.val, .bool b] w (MustPost w (sealB c b) 42) := by
  unfold sealB
  go_enter Try.func81, Try.ntmps81
  go_wp2_with fail
  exact bodyPost_ret (v := .agg #[.bool ((c.ty != 0) == b), .int .i64 42]) (by simp [results, Try.results81, go_sem]) rfl ⟨rfl, (by repeat first | (with_reducible exact Below.refl _ _) | (with_reducible apply Ext.alloc) | (with_reducible apply Ext.drew) | (with_reducible apply Ext.drewN) | (with_reducible refine Ext.set ?_ (by simp)))⟩
set_option maxRecDepth 20000 in
theorem has_must (c : Cap) (p : Int) (w : World) (hc : CapWf c) (hp : i64ok' p) : Calls Try.prog 84 #[c.val, .int .i64 p] w (MustPost w (hasP c.perms p) 44) := by
  have HP := Lib.hid (fun w => permHas_any c.perms p w hc.perms hp)
  go_enter Try.func84, Try.ntmps84
  go_wp2_with fail
  refine (HP.out _).mono ?_
  rintro _ w1 ⟨rfl, hE⟩
  obtain ⟨hc1, hf1, hz1⟩ := bcell hE
  generalize hasP c.perms p = r at *
  go_wp2_with fail
  exact bodyPost_ret (v := .agg #[.bool r, .int .i64 44]) (by simp [results, Try.results84, go_sem, hc1]) rfl ⟨rfl, ((Ext.then (Ext.alloc (Ext.alloc (Below.refl _ w) _) _) hE).set (by simp)).set (by simp)⟩
set_option maxRecDepth 20000 in
theorem spans_must (c : Cap) (n : Int) (w : World) (hc : CapWf c) : Calls Try.prog 72 #[c.val, .int .i64 n] w (MustPost w (inC c c.at' n) 43) := by
  have HP := Lib.hid (fun w => capIn_any c c.at' n w hc.top.2)
  go_enter Try.func72, Try.ntmps72
  go_wp2_with fail
  refine (HP.out _).mono ?_
  rintro _ w1 ⟨rfl, hE⟩
  obtain ⟨hc1, hf1, hz1⟩ := bcell hE
  generalize inC c c.at' n = r at *
  go_wp2_with fail
  exact bodyPost_ret (v := .agg #[.bool r, .int .i64 43]) (by simp [results, Try.results72, go_sem, hc1]) rfl ⟨rfl, ((Ext.then (Ext.alloc (Ext.alloc (Below.refl _ w) _) _) hE).set (by simp)).set (by simp)⟩
theorem own_lowM {w : World} {base base' : Nat} {e : TypeId} {size : Nat} {v : Value} {n : Nat} {xs : List Value} (h : w.ownsRow base e size v n xs) (hb : base' ≤ base) : w.ownsRow base' e size v n xs := by
  obtain ⟨hl, h⟩ := h
  refine ⟨hl, ?_⟩
  rcases h with h | ⟨g, cap, cur, h1, h2, h3⟩
  · exact .inl h
  · exact .inr ⟨g, cap, cur, h1, Nat.le_trans hb h2, h3⟩
/-- A row of one's own. -/
def Owns (B : Nat) (t : TypeId) (sz n : Nat) (cs : List Value) : Pr := fun v W => B ≤ W.heap.size ∧ W.ownsRow B t sz v n cs
/-- Musts in a row of the call's own. -/
def OwnM (B : Nat) (l : List Must) : Pr := fun v W => W.ownsRow B 87 2 v l.length (mustCells l)
theorem OwnM.ext {B : Nat} {l : List Must} {v : Value} {W W' : World} (h : OwnM B l v W) (e : Ext W W') : OwnM B l v W' := own_ext h e
theorem OwnM.low {B B' : Nat} {l : List Must} {v : Value} {W : World} (h : OwnM B l v W) (hB : B' ≤ B) : OwnM B' l v W := own_lowM h hB
def UsedPost (w : World) (l : List Must) (e : Ending) (w' : World) : Prop := ∃ v, e = .returned v ∧ OwnM w.heap.size l v w' ∧ Ext w w'
set_option maxHeartbeats 1000000 in
set_option maxRecDepth 20000 in
theorem used_any (c : Cap) (w : World) (hc : CapWf c) : Calls Try.prog 71 #[c.val] w (UsedPost w (usedL c)) := by
  obtain ⟨U, hU⟩ : ∃ U, U = w.alloc (.cells c.cells.toArray 24) := ⟨_, rfl⟩
  have HU := Lib.hid hU
  have HB : Hid (U.heap[w.heap.size]? = some (.cells c.cells.toArray 24)) := Lib.hid (by rw [hU]; exact heap_alloc_new w _)
  have EU : Hid (Ext w U) := Lib.hid (by rw [hU]; exact (by repeat first | (with_reducible exact Below.refl _ _) | (with_reducible apply Ext.alloc) | (with_reducible apply Ext.drew) | (with_reducible apply Ext.drewN) | (with_reducible refine Ext.set ?_ (by simp))))
  clear hU
  go_enter Try.func71, Try.ntmps71
  go_wp2_with fail
  rw [← HU.out]
  refine wp_region_res (Ext) [⟨some 6, [(6, [])], [7]⟩, ⟨some 7, [(7, [])], []⟩] [(fun (u : Nat → Value) (W : World) => (OwnM w.heap.size (usedL c)) (u 6) W), (fun (u : Nat → Value) (W : World) => (OwnM w.heap.size (usedL c)) (u 7) W)] [⟨[], [.early [1, 0], .early [0]]⟩, ⟨[], [.early [1], .early [1]]⟩, ⟨[], [.early [3, 2], .early [2]]⟩, ⟨[], [.early [3], .early [3]]⟩, ⟨[], [.early [5, 4], .early [4]]⟩, ⟨[], [.early [5], .early [5]]⟩, ⟨[], [.last, .early [6]]⟩, ⟨[(0, [6])], [.late [[]], .last]⟩] [3, 4, 5, 6, 7, 8, 9, 2] (by kernel_rfl) (fun _ => Below.refl _ _) (fun _ _ _ => Ext.then) (by kernel_rfl) (by kernel_rfl) (by kernel_rfl) (by kernel_rfl) (by kernel_rfl) ?start ?_
  case start =>
    exact trivial
  apply ex_is; apply Exists.intro
  apply ex_is; apply Exists.intro
  apply ex_is; apply Exists.intro
  apply ex_is; apply Exists.intro
  apply ex_is; apply Exists.intro
  apply ex_is; apply Exists.intro
  refine ex_phi (fun _ _ => True) ?_
  refine ex_phi (fun _ _ => True) ?_
  refine ⟨[], ⟨?steps, ?stab, ?ends⟩⟩
  case steps =>
    refine And.intro (obX_pure (fun _ => Below.refl _ _) ?_) ?_
    · intro act W hR hf ho hu K hK
      replace hR := ext_drew hR
      replace hK := fun v h2 => hK v W rfl h2 trivial
      have G : act.tmps[1]?.getD undef = _ ∧ True := ho
      obtain ⟨g1, -⟩ := G
      clear ho hf hu
      obtain ⟨y0, y1, y2, y3, y4, y5⟩ := lie6' HB.out hR
      go_simp
      exact hK _ (Eq.refl _)
    refine And.intro (obX_eff (Ext) (fun _ _ h => h) (trivial) ?_) ?_
    · intro act W hR hf ho hu K hK
      replace hR := ext_drew hR
      replace hK := fun v (w' : World) (h1 : (Ext) W w') h2 => hK v w' h1 h2 trivial
      have F : act.tmps[3]?.getD undef = _ ∧ True := hf
      obtain ⟨f0, -⟩ := F
      clear ho hf hu
      go_simp
      refine (right_must c _ hc).mono ?_; rintro _ W1 ⟨rfl, hE⟩; exact hK _ _ hE (Eq.refl _)
    refine And.intro (obX_pure (fun _ => Below.refl _ _) ?_) ?_
    · intro act W hR hf ho hu K hK
      replace hR := ext_drew hR
      replace hK := fun v h2 => hK v W rfl h2 trivial
      have G : act.tmps[1]?.getD undef = _ ∧ True := ho
      obtain ⟨g1, -⟩ := G
      clear ho hf hu
      obtain ⟨y0, y1, y2, y3, y4, y5⟩ := lie6' HB.out hR
      go_simp
      exact hK _ (Eq.refl _)
    refine And.intro (obX_eff (Ext) (fun _ _ h => h) (trivial) ?_) ?_
    · intro act W hR hf ho hu K hK
      replace hR := ext_drew hR
      replace hK := fun v (w' : World) (h1 : (Ext) W w') h2 => hK v w' h1 h2 trivial
      have F : act.tmps[5]?.getD undef = _ ∧ act.tmps[4]?.getD undef = _ ∧ True := hf
      obtain ⟨f2, f1, -⟩ := F
      clear ho hf hu
      go_simp
      refine (tagged_must c _).mono ?_; rintro _ W1 ⟨rfl, hE⟩; exact hK _ _ hE (Eq.refl _)
    refine And.intro (obX_pure (fun _ => Below.refl _ _) ?_) ?_
    · intro act W hR hf ho hu K hK
      replace hR := ext_drew hR
      replace hK := fun v h2 => hK v W rfl h2 trivial
      have G : act.tmps[1]?.getD undef = _ ∧ True := ho
      obtain ⟨g1, -⟩ := G
      clear ho hf hu
      obtain ⟨y0, y1, y2, y3, y4, y5⟩ := lie6' HB.out hR
      go_simp
      exact hK _ (Eq.refl _)
    refine And.intro (obX_eff (Ext) (fun _ _ h => h) (trivial) ?_) ?_
    · intro act W hR hf ho hu K hK
      replace hR := ext_drew hR
      replace hK := fun v (w' : World) (h1 : (Ext) W w') h2 => hK v w' h1 h2 trivial
      have F : act.tmps[7]?.getD undef = _ ∧ act.tmps[6]?.getD undef = _ ∧ True := hf
      obtain ⟨f4, f3, -⟩ := F
      clear ho hf hu
      go_simp
      refine (sealed_must c false _).mono ?_; rintro _ W1 ⟨rfl, hE⟩; exact hK _ _ hE (Eq.refl _)
    refine And.intro (obX_eff (Ext) (fun _ _ h => h) (trivial) ?_) ?_
    · intro act W hR hf ho hu K hK
      replace hR := ext_drew hR
      replace hK := fun v (w' : World) (h1 : (Ext) W w') (b0 : (OwnM w.heap.size (usedL c)) (v) w') => hK v w' h1 trivial ⟨b0, trivial⟩
      have F : act.tmps[4]?.getD undef = _ ∧ act.tmps[6]?.getD undef = _ ∧ act.tmps[8]?.getD undef = _ ∧ True := hf
      obtain ⟨f1, f3, f5, -⟩ := F
      clear ho hf hu
      go_simp
      exact hK _ _ (by repeat first | (with_reducible exact Below.refl _ _) | (with_reducible apply Ext.alloc) | (with_reducible apply Ext.drew) | (with_reducible apply Ext.drewN) | (with_reducible refine Ext.set ?_ (by simp))) (own_lit W w.heap.size 87 2 3 (mustCells (usedL c)) (Nat.le_trans EU.out.size hR.size) rfl (by simp [maxLen]))
    refine And.intro (obX_pure (fun _ => Below.refl _ _) ?_) ?_
    · intro act W hR hf ho hu K hK
      replace hR := ext_drew hR
      replace hK := fun v (b1 : (OwnM w.heap.size (usedL c)) (v) W) => hK v W rfl trivial ⟨b1, trivial⟩
      have F : (fun _ _ => True) (act.tmps[9]?.getD undef) W ∧ act.tmps[8]?.getD undef = _ ∧ act.tmps[3]?.getD undef = _ ∧ act.tmps[4]?.getD undef = _ ∧ act.tmps[5]?.getD undef = _ ∧ act.tmps[6]?.getD undef = _ ∧ act.tmps[7]?.getD undef = _ ∧ act.tmps[8]?.getD undef = _ ∧ (fun _ _ => True) (act.tmps[9]?.getD undef) W ∧ True := hf
      obtain ⟨-, f5, f0, f1, f2, f3, f4, -, -, -⟩ := F
      have U : (OwnM w.heap.size (usedL c)) (act.tmps[9]?.getD undef) W ∧ True := hu
      obtain ⟨r_r6, -⟩ := U
      generalize f6 : act.tmps[9]?.getD undef = v6 at r_r6
      clear ho hf hu
      go_simp
      exact hK _ r_r6
    exact trivial
  case stab =>
    refine And.intro is_stable ?_
    refine And.intro is_stable ?_
    refine And.intro is_stable ?_
    refine And.intro is_stable ?_
    refine And.intro is_stable ?_
    refine And.intro is_stable ?_
    refine And.intro (fun _ _ _ h _ => h) ?_
    refine And.intro (fun _ _ _ h _ => h) ?_
    exact trivial
  case ends =>
    intro vals W hR hE hall
    replace hR := ext_drew hR
    have E : (OwnM w.heap.size (usedL c)) (vals 2) W ∧ True := hE
    obtain ⟨e_r7, -⟩ := E
    clear hE
    clear hall
    generalize ev2 : vals 2 = x2 at e_r7
    simp only [fill, List.setIfInBounds_toArray, List.set_cons_succ, List.set_cons_zero, ev2]
    go_wp2_with fail
    go_ret
    exact ⟨_, rfl, e_r7, EU.out.then (Ext.then (by repeat first | (with_reducible exact Below.refl _ _) | (with_reducible apply Ext.alloc) | (with_reducible apply Ext.drew) | (with_reducible apply Ext.drewN) | (with_reducible refine Ext.set ?_ (by simp)) | (with_reducible refine Ext.then ?_ hR)) (Below.refl _ _))⟩
end Go.Proofs.Ytalndcjbnedigaa

/- CodeTells: its walk. -/
import Derived.Test.YtdfjpmihjfnebaaHead15
import Derived.Test.YtdfjpmihjfnebaaPhi
set_option linter.all false
namespace Go.Proofs.Ytdfjpmihjfnebaa
open Go.RowKit

theorem allS_len (l : List Int) : (allS l).1.length ≤ l.length + 3 := by
  unfold allS
  split
  · simp; omega
  · simp
attribute [local go_sem high] eqIns
attribute [local go_sem] seen dstOf boolOf
set_option maxHeartbeats 4000000 in
theorem tells_walk (x : Ins) (A : Option Addr) (c : Nat) (l : List Int) (op : Int) (w : World) (h : Arr w A (bs l)) (hl : ∀ x ∈ l, 0 ≤ x ∧ x < 256) (hc : l.length ≤ c) (hm : l.length ≤ 9000) :
    Calls Try.prog 3 #[.agg #[.int .i64 x.op, .int .i64 x.a, .int .i64 x.b, .int .i64 x.c], .slice A l.length c, .int .i64 op] w fun e w' => e = .returned (.bool true) ∧ Ext w w' := by
  go_enter Try.func3, Try.ntmps3
  go_wp2_with fail
  refine (head_any _).mono ?_
  rintro e w1 ⟨rfl, hb1⟩
  obtain ⟨hc1, hf1, hz1⟩ := bcellN hb1 (w.heap.size + 1) (by simp)
  have h1 : Arr w1 A (bs l) := h.ext ((Ext.alloc (Below.refl _ w) _).then hb1)
  go_wp2_with fail
  refine (get_any A c l _ h1 hl).mono ?_
  rintro e w2 ⟨rfl, hb2⟩
  obtain ⟨hc2, hf2, hz2⟩ := bcellN hb2 (w.heap.size + 1) (by omega)
  have h2 : Arr w2 A (bs l) := h1.ext hb2
  go_wp2_with fail
  refine (rget_any A c l _ (h2.ext (Ext.alloc (Below.refl _ w2) _)) hl).mono ?_
  rintro e w3 ⟨rfl, hb3⟩
  obtain ⟨hc3, hf3, hz3⟩ := bcellN hb3 (w2.heap.size + 1) (by simp)
  have h3 : Arr w3 A (bs l) := h2.ext ((Ext.alloc (Below.refl _ w2) _).then hb3)
  go_wp2_with fail
  refine (all_any A c l _ (h3.ext (Ext.alloc (Below.refl _ w3) _)) hl hc (by omega)).mono ?_
  intro e w4 h4
  obtain ⟨A4, c4, rfl, ha4, hb4⟩ := h4.open
  clear h4
  obtain ⟨hc4, hf4, hz4⟩ := bcellN hb4 (w3.heap.size + 1) (by simp)
  have h4 : Arr w4 A (bs l) := h3.ext ((Ext.alloc (Below.refl _ w3) _).then hb4)
  go_wp2_with fail
  refine (rall_any A c l _ h4 hl hc (by omega)).mono ?_
  intro e w5 h5
  obtain ⟨A5, c5, rfl, ha5, hb5⟩ := h5.open
  clear h5
  obtain ⟨hc5, hf5, hz5⟩ := bcellN hb5 (w3.heap.size + 1) (by omega)
  go_wp2_with fail
  have E3 : Ext (w3.alloc _) w5 := hb4.then hb5
  have E2 : Ext (w2.alloc _) w5 := hb3.then ((Ext.alloc (Below.refl _ _) _).then E3)
  have E1 : Ext (w.alloc _) w5 := hb1.then (hb2.then ((Ext.alloc (Below.refl _ _) _).then E2))
  have B1 := new_lies E1
  have B2 := new_lies E2
  have B3 := new_lies E3
  have EW : Ext w w5 := (Ext.alloc (Below.refl _ w) _).then E1
  clear hb1 hb2 hb3 hb4 E1 E2 E3 hc1 hc2 hc3 hc4 hc5 hf1 hf2 hf3 hf4 hf5 h1 h2 h3 h4
  have ha4 := ha4.ext hb5
  clear hb5
  have hb1 := Lib.hid B1
  have hb2 := Lib.hid B2
  have hb3 := Lib.hid B3
  have ha4 := Lib.hid ha4
  have ha5 := Lib.hid ha5
  have hEW := Lib.hid EW
  clear B1 B2 B3 EW
  have hsz : (allS l).1.length ≤ 140737488351232 := by have := allS_len l; omega
  refine wp_region_obl Ext [45, 46, 47, 48, 49, 50, 51, 52, 53, 54, 55, 56, 57, 58, 59, 60, 61, 62, 63, 64, 65, 66, 67, 68, 69, 70, 71, 72, 73, 74, 75, 76, 77, 78, 79, 80, 81, 82, 83, 84, 85, 86, 87, 88, 89, 90, 91, 92, 93, 6] (by kernel_rfl) (fun _ => Below.refl _ _) (fun _ _ _ => Ext.then) (by kernel_rfl) (by kernel_rfl) ?_
  apply ex_is; apply Exists.intro
  apply ex_is; apply Exists.intro
  apply ex_is; apply Exists.intro
  apply ex_is; apply Exists.intro
  apply ex_is; apply Exists.intro
  apply ex_is; apply Exists.intro
  apply ex_is; apply Exists.intro
  apply ex_is; apply Exists.intro
  apply ex_is; apply Exists.intro
  apply ex_is; apply Exists.intro
  apply ex_is; apply Exists.intro
  apply ex_is; apply Exists.intro
  apply ex_is; apply Exists.intro
  apply ex_is; apply Exists.intro
  apply ex_is; apply Exists.intro
  apply ex_is; apply Exists.intro
  apply ex_is; apply Exists.intro
  refine ex_phi (fun v w' => ∃ base, w'.ownsRow base 5 1 v (putI x).length (bs (putI x))) ?_
  apply ex_is; apply Exists.intro
  apply ex_is; apply Exists.intro
  refine ex_phi (fun v w' => ∃ base, w'.ownsRow base 5 1 v (putI x).length (bs (putI x))) ?_
  apply ex_is; apply Exists.intro
  apply ex_is; apply Exists.intro
  apply ex_is; apply Exists.intro
  apply ex_is; apply Exists.intro
  apply ex_is; apply Exists.intro
  apply ex_is; apply Exists.intro
  apply ex_is; apply Exists.intro
  apply ex_is; apply Exists.intro
  apply ex_is; apply Exists.intro
  apply ex_is; apply Exists.intro
  apply ex_is; apply Exists.intro
  apply ex_is; apply Exists.intro
  apply ex_is; apply Exists.intro
  apply ex_is; apply Exists.intro
  apply ex_is; apply Exists.intro
  apply ex_is; apply Exists.intro
  apply ex_is; apply Exists.intro
  apply ex_is; apply Exists.intro
  apply ex_is; apply Exists.intro
  apply ex_is; apply Exists.intro
  apply ex_is; apply Exists.intro
  apply ex_is; apply Exists.intro
  apply ex_is; apply Exists.intro
  apply ex_is; apply Exists.intro
  apply ex_is; apply Exists.intro
  apply ex_is; apply Exists.intro
  apply ex_is; apply Exists.intro
  apply ex_is; apply Exists.intro
  apply ex_is; apply Exists.intro
  refine ⟨[], ⟨?steps, ?stab, ?ends⟩⟩
  case steps =>
    refine And.intro ?_ ?_
    · intro a W hR hf ho K hK
      replace hR := ext_drew hR
      have G : a.tmps[7]?.getD undef = _ ∧ True := ho
      obtain ⟨g7, -⟩ := G
      clear ho hf
      go_simp
      exact hK _ _ (Below.refl _ _) (Eq.refl _)
    refine And.intro ?_ ?_
    · intro a W hR hf ho K hK
      replace hR := ext_drew hR
      have F : a.tmps[45]?.getD undef = _ ∧ True := hf
      obtain ⟨f0, -⟩ := F
      clear ho hf
      go_simp
      exact hK _ _ (Below.refl _ _) (Eq.refl _)
    refine And.intro ?_ ?_
    · intro a W hR hf ho K hK
      replace hR := ext_drew hR
      have G : a.tmps[2]?.getD undef = _ ∧ True := ho
      obtain ⟨g2, -⟩ := G
      have F : a.tmps[46]?.getD undef = _ ∧ True := hf
      obtain ⟨f1, -⟩ := F
      clear ho hf
      go_simp
      exact hK _ _ (Below.refl _ _) (Eq.refl _)
    refine And.intro ?_ ?_
    · intro a W hR hf ho K hK
      replace hR := ext_drew hR
      have F : a.tmps[47]?.getD undef = _ ∧ a.tmps[46]?.getD undef = _ ∧ a.tmps[46]?.getD undef = _ ∧ True := hf
      obtain ⟨f2, f1, -, -⟩ := F
      clear ho hf
      go_simp
      refine (kinds_any _ _).mono ?_; rintro e W1 ⟨rfl, hb⟩; exact hK _ _ hb (Eq.refl _)
    refine And.intro ?_ ?_
    · intro a W hR hf ho K hK
      replace hR := ext_drew hR
      have G : a.tmps[2]?.getD undef = _ ∧ True := ho
      obtain ⟨g2, -⟩ := G
      have F : a.tmps[46]?.getD undef = _ ∧ True := hf
      obtain ⟨f1, -⟩ := F
      clear ho hf
      go_simp
      exact hK _ _ (Below.refl _ _) (Eq.refl _)
    refine And.intro ?_ ?_
    · intro a W hR hf ho K hK
      replace hR := ext_drew hR
      have F : a.tmps[49]?.getD undef = _ ∧ a.tmps[48]?.getD undef = _ ∧ a.tmps[46]?.getD undef = _ ∧ True := hf
      obtain ⟨f4, f3, f1, -⟩ := F
      clear ho hf
      go_simp
      refine (rkinds_any _ _).mono ?_; rintro e W1 ⟨rfl, rfl⟩; exact hK _ _ (Below.refl _ _) (Eq.refl _)
    refine And.intro ?_ ?_
    · intro a W hR hf ho K hK
      replace hR := ext_drew hR
      have F : a.tmps[48]?.getD undef = _ ∧ a.tmps[50]?.getD undef = _ ∧ a.tmps[46]?.getD undef = _ ∧ True := hf
      obtain ⟨f3, f5, f1, -⟩ := F
      clear ho hf
      go_simp
      exact hK _ _ (Below.refl _ _) (Eq.refl _)
    refine And.intro ?_ ?_
    · intro a W hR hf ho K hK
      replace hR := ext_drew hR
      have F : a.tmps[46]?.getD undef = _ ∧ a.tmps[51]?.getD undef = _ ∧ True := hf
      obtain ⟨f1, f6, -⟩ := F
      clear ho hf
      go_simp
      exact hK _ _ (Below.refl _ _) (Eq.refl _)
    refine And.intro ?_ ?_
    · intro a W hR hf ho K hK
      replace hR := ext_drew hR
      have F : a.tmps[52]?.getD undef = _ ∧ a.tmps[50]?.getD undef = _ ∧ True := hf
      obtain ⟨f7, f5, -⟩ := F
      clear ho hf
      go_simp
      exact hK _ _ (Below.refl _ _) (Eq.refl _)
    refine And.intro ?_ ?_
    · intro a W hR hf ho K hK
      replace hR := ext_drew hR
      have G : a.tmps[3]?.getD undef = _ ∧ True := ho
      obtain ⟨g3, -⟩ := G
      have F : a.tmps[53]?.getD undef = _ ∧ True := hf
      obtain ⟨f8, -⟩ := F
      clear ho hf
      obtain ⟨c0, c1, c2, c3⟩ := lie4 hb1.out hR
      go_simp
      exact hK _ _ (Below.refl _ _) (Eq.refl _)
    refine And.intro ?_ ?_
    · intro a W hR hf ho K hK
      replace hR := ext_drew hR
      have F : a.tmps[54]?.getD undef = _ ∧ a.tmps[53]?.getD undef = _ ∧ a.tmps[53]?.getD undef = _ ∧ True := hf
      obtain ⟨f9, f8, -, -⟩ := F
      clear ho hf
      go_simp
      refine (right_any _ _ _ _ _).mono ?_; rintro e W1 ⟨rfl, hb⟩; exact hK _ _ hb (Eq.refl _)
    refine And.intro ?_ ?_
    · intro a W hR hf ho K hK
      replace hR := ext_drew hR
      have G : a.tmps[3]?.getD undef = _ ∧ True := ho
      obtain ⟨g3, -⟩ := G
      have F : a.tmps[53]?.getD undef = _ ∧ True := hf
      obtain ⟨f8, -⟩ := F
      clear ho hf
      obtain ⟨c0, c1, c2, c3⟩ := lie4 hb1.out hR
      go_simp
      exact hK _ _ (Below.refl _ _) (Eq.refl _)
    refine And.intro ?_ ?_
    · intro a W hR hf ho K hK
      replace hR := ext_drew hR
      have F : a.tmps[56]?.getD undef = _ ∧ a.tmps[55]?.getD undef = _ ∧ a.tmps[53]?.getD undef = _ ∧ True := hf
      obtain ⟨f11, f10, f8, -⟩ := F
      clear ho hf
      go_simp
      refine (rright_any _ _ _ _ _).mono ?_; rintro e W1 ⟨rfl, hb⟩; exact hK _ _ hb (Eq.refl _)
    refine And.intro ?_ ?_
    · intro a W hR hf ho K hK
      replace hR := ext_drew hR
      have F : a.tmps[55]?.getD undef = _ ∧ a.tmps[57]?.getD undef = _ ∧ a.tmps[53]?.getD undef = _ ∧ True := hf
      obtain ⟨f10, f12, f8, -⟩ := F
      clear ho hf
      go_simp
      exact hK _ _ (Below.refl _ _) (Eq.refl _)
    refine And.intro ?_ ?_
    · intro a W hR hf ho K hK
      replace hR := ext_drew hR
      have F : a.tmps[53]?.getD undef = _ ∧ a.tmps[58]?.getD undef = _ ∧ True := hf
      obtain ⟨f8, f13, -⟩ := F
      clear ho hf
      go_simp
      exact hK _ _ (Below.refl _ _) (Eq.refl _)
    refine And.intro ?_ ?_
    · intro a W hR hf ho K hK
      replace hR := ext_drew hR
      have F : a.tmps[59]?.getD undef = _ ∧ a.tmps[57]?.getD undef = _ ∧ True := hf
      obtain ⟨f14, f12, -⟩ := F
      clear ho hf
      go_simp
      exact hK _ _ (Below.refl _ _) (Eq.refl _)
    refine And.intro ?_ ?_
    · intro a W hR hf ho K hK
      replace hR := ext_drew hR
      have G : a.tmps[3]?.getD undef = _ ∧ True := ho
      obtain ⟨g3, -⟩ := G
      have F : a.tmps[60]?.getD undef = _ ∧ True := hf
      obtain ⟨f15, -⟩ := F
      clear ho hf
      obtain ⟨c0, c1, c2, c3⟩ := lie4 hb1.out hR
      go_simp
      exact hK _ _ (Below.refl _ _) (Eq.refl _)
    refine And.intro ?_ ?_
    · intro a W hR hf ho K hK
      replace hR := ext_drew hR
      have F : a.tmps[61]?.getD undef = _ ∧ a.tmps[60]?.getD undef = _ ∧ a.tmps[60]?.getD undef = _ ∧ True := hf
      obtain ⟨f16, f15, -, -⟩ := F
      clear ho hf
      go_simp
      refine (put_any _ _ _ _ _).mono ?_; rintro e W1 ⟨v, rfl, ho, hb⟩; exact hK _ _ hb ⟨_, ho⟩
    refine And.intro ?_ ?_
    · intro a W hR hf ho K hK
      replace hR := ext_drew hR
      have F : (fun v w' => ∃ base, w'.ownsRow base 5 1 v (putI x).length (bs (putI x))) (a.tmps[62]?.getD undef) W ∧ a.tmps[60]?.getD undef = _ ∧ True := hf
      obtain ⟨f17, f15, -⟩ := F
      clear ho hf
      obtain ⟨base, f17⟩ := f17; have hcv := conv_own f17; clear f17
      go_simp
      exact hK _ _ (Below.refl _ _) (Eq.refl _)
    refine And.intro ?_ ?_
    · intro a W hR hf ho K hK
      replace hR := ext_drew hR
      have G : a.tmps[3]?.getD undef = _ ∧ True := ho
      obtain ⟨g3, -⟩ := G
      have F : a.tmps[60]?.getD undef = _ ∧ True := hf
      obtain ⟨f15, -⟩ := F
      clear ho hf
      obtain ⟨c0, c1, c2, c3⟩ := lie4 hb1.out hR
      go_simp
      exact hK _ _ (Below.refl _ _) (Eq.refl _)
    refine And.intro ?_ ?_
    · intro a W hR hf ho K hK
      replace hR := ext_drew hR
      have F : a.tmps[64]?.getD undef = _ ∧ (fun v w' => ∃ base, w'.ownsRow base 5 1 v (putI x).length (bs (putI x))) (a.tmps[62]?.getD undef) W ∧ a.tmps[60]?.getD undef = _ ∧ True := hf
      obtain ⟨f19, f17, f15, -⟩ := F
      clear ho hf
      go_simp
      refine (rput_any _ _ _ _ _).mono ?_; rintro e W1 ⟨v, rfl, ho, hb⟩; exact hK _ _ hb ⟨_, ho⟩
    refine And.intro ?_ ?_
    · intro a W hR hf ho K hK
      replace hR := ext_drew hR
      have F : (fun v w' => ∃ base, w'.ownsRow base 5 1 v (putI x).length (bs (putI x))) (a.tmps[65]?.getD undef) W ∧ a.tmps[60]?.getD undef = _ ∧ True := hf
      obtain ⟨f20, f15, -⟩ := F
      clear ho hf
      obtain ⟨base, f20⟩ := f20; have hcv := conv_own f20; clear f20
      go_simp
      exact hK _ _ (Below.refl _ _) (Eq.refl _)
    refine And.intro ?_ ?_
    · intro a W hR hf ho K hK
      replace hR := ext_drew hR
      have F : a.tmps[63]?.getD undef = _ ∧ a.tmps[66]?.getD undef = _ ∧ a.tmps[60]?.getD undef = _ ∧ True := hf
      obtain ⟨f18, f21, f15, -⟩ := F
      clear ho hf
      go_simp
      exact hK _ _ (Below.refl _ _) (Eq.refl _)
    refine And.intro ?_ ?_
    · intro a W hR hf ho K hK
      replace hR := ext_drew hR
      have F : a.tmps[60]?.getD undef = _ ∧ a.tmps[67]?.getD undef = _ ∧ True := hf
      obtain ⟨f15, f22, -⟩ := F
      clear ho hf
      go_simp
      exact hK _ _ (Below.refl _ _) (Eq.refl _)
    refine And.intro ?_ ?_
    · intro a W hR hf ho K hK
      replace hR := ext_drew hR
      have F : a.tmps[68]?.getD undef = _ ∧ (fun v w' => ∃ base, w'.ownsRow base 5 1 v (putI x).length (bs (putI x))) (a.tmps[65]?.getD undef) W ∧ True := hf
      obtain ⟨f23, f20, -⟩ := F
      clear ho hf
      go_simp
      exact hK _ _ (Below.refl _ _) (Eq.refl _)
    refine And.intro ?_ ?_
    · intro a W hR hf ho K hK
      replace hR := ext_drew hR
      have G : a.tmps[8]?.getD undef = _ ∧ True := ho
      obtain ⟨g8, -⟩ := G
      have F : a.tmps[69]?.getD undef = _ ∧ True := hf
      obtain ⟨f24, -⟩ := F
      clear ho hf
      obtain ⟨c0, c1, c2, c3⟩ := lie4 hb2.out hR
      go_simp
      exact hK _ _ (Below.refl _ _) (Eq.refl _)
    refine And.intro ?_ ?_
    · intro a W hR hf ho K hK
      replace hR := ext_drew hR
      have G : a.tmps[10]?.getD undef = _ ∧ True := ho
      obtain ⟨g10, -⟩ := G
      have F : a.tmps[69]?.getD undef = _ ∧ True := hf
      obtain ⟨f24, -⟩ := F
      clear ho hf
      obtain ⟨c0, c1, c2, c3⟩ := lie4 hb3.out hR
      go_simp
      exact hK _ _ (Below.refl _ _) (Eq.refl _)
    refine And.intro ?_ ?_
    · intro a W hR hf ho K hK
      replace hR := ext_drew hR
      have F : a.tmps[70]?.getD undef = _ ∧ a.tmps[71]?.getD undef = _ ∧ a.tmps[69]?.getD undef = _ ∧ True := hf
      obtain ⟨f25, f26, f24, -⟩ := F
      clear ho hf
      go_simp
      exact hK _ _ (Below.refl _ _) (Eq.refl _)
    refine And.intro ?_ ?_
    · intro a W hR hf ho K hK
      replace hR := ext_drew hR
      have F : a.tmps[69]?.getD undef = _ ∧ a.tmps[72]?.getD undef = _ ∧ True := hf
      obtain ⟨f24, f27, -⟩ := F
      clear ho hf
      go_simp
      exact hK _ _ (Below.refl _ _) (Eq.refl _)
    refine And.intro ?_ ?_
    · intro a W hR hf ho K hK
      replace hR := ext_drew hR
      have F : a.tmps[73]?.getD undef = _ ∧ a.tmps[69]?.getD undef = _ ∧ True := hf
      obtain ⟨f28, f24, -⟩ := F
      clear ho hf
      go_simp
      exact hK _ _ (Below.refl _ _) (Eq.refl _)
    refine And.intro ?_ ?_
    · intro a W hR hf ho K hK
      replace hR := ext_drew hR
      have G : a.tmps[9]?.getD undef = _ ∧ True := ho
      obtain ⟨g9, -⟩ := G
      have F : a.tmps[74]?.getD undef = _ ∧ True := hf
      obtain ⟨f29, -⟩ := F
      clear ho hf
      go_simp
      exact hK _ _ (Below.refl _ _) (Eq.refl _)
    refine And.intro ?_ ?_
    · intro a W hR hf ho K hK
      replace hR := ext_drew hR
      have G : a.tmps[11]?.getD undef = _ ∧ True := ho
      obtain ⟨g11, -⟩ := G
      have F : a.tmps[74]?.getD undef = _ ∧ True := hf
      obtain ⟨f29, -⟩ := F
      clear ho hf
      go_simp
      exact hK _ _ (Below.refl _ _) (Eq.refl _)
    refine And.intro ?_ ?_
    · intro a W hR hf ho K hK
      replace hR := ext_drew hR
      have F : a.tmps[75]?.getD undef = _ ∧ a.tmps[76]?.getD undef = _ ∧ a.tmps[74]?.getD undef = _ ∧ True := hf
      obtain ⟨f30, f31, f29, -⟩ := F
      clear ho hf
      go_simp
      exact hK _ _ (Below.refl _ _) (Eq.refl _)
    refine And.intro ?_ ?_
    · intro a W hR hf ho K hK
      replace hR := ext_drew hR
      have F : a.tmps[74]?.getD undef = _ ∧ a.tmps[77]?.getD undef = _ ∧ True := hf
      obtain ⟨f29, f32, -⟩ := F
      clear ho hf
      go_simp
      exact hK _ _ (Below.refl _ _) (Eq.refl _)
    refine And.intro ?_ ?_
    · intro a W hR hf ho K hK
      replace hR := ext_drew hR
      have F : a.tmps[78]?.getD undef = _ ∧ a.tmps[74]?.getD undef = _ ∧ True := hf
      obtain ⟨f33, f29, -⟩ := F
      clear ho hf
      go_simp
      exact hK _ _ (Below.refl _ _) (Eq.refl _)
    refine And.intro ?_ ?_
    · intro a W hR hf ho K hK
      replace hR := ext_drew hR
      have G : a.tmps[12]?.getD undef = _ ∧ True := ho
      obtain ⟨g12, -⟩ := G
      have F : a.tmps[79]?.getD undef = _ ∧ True := hf
      obtain ⟨f34, -⟩ := F
      clear ho hf
      go_simp
      exact hK _ _ (Below.refl _ _) (Eq.refl _)
    refine And.intro ?_ ?_
    · intro a W hR hf ho K hK
      replace hR := ext_drew hR
      have G : a.tmps[15]?.getD undef = _ ∧ True := ho
      obtain ⟨g15, -⟩ := G
      have F : a.tmps[79]?.getD undef = _ ∧ True := hf
      obtain ⟨f34, -⟩ := F
      clear ho hf
      go_simp
      exact hK _ _ (Below.refl _ _) (Eq.refl _)
    refine And.intro ?_ ?_
    · intro a W hR hf ho K hK
      replace hR := ext_drew hR
      have F : a.tmps[80]?.getD undef = _ ∧ a.tmps[81]?.getD undef = _ ∧ a.tmps[79]?.getD undef = _ ∧ a.tmps[79]?.getD undef = _ ∧ True := hf
      obtain ⟨f35, f36, f34, -, -⟩ := F
      clear ho hf
      go_simp
      refine (rsame_any _ _ _ _ _ _ _ (ha4.out.ext hR) (ha5.out.ext hR) hsz hsz).mono ?_; rintro e W1 ⟨rfl, hb⟩; exact hK _ _ hb (Eq.refl _)
    refine And.intro ?_ ?_
    · intro a W hR hf ho K hK
      replace hR := ext_drew hR
      have F : a.tmps[79]?.getD undef = _ ∧ a.tmps[82]?.getD undef = _ ∧ True := hf
      obtain ⟨f34, f37, -⟩ := F
      clear ho hf
      go_simp
      exact hK _ _ (Below.refl _ _) (Eq.refl _)
    refine And.intro ?_ ?_
    · intro a W hR hf ho K hK
      replace hR := ext_drew hR
      have F : a.tmps[83]?.getD undef = _ ∧ a.tmps[82]?.getD undef = _ ∧ True := hf
      obtain ⟨f38, f37, -⟩ := F
      clear ho hf
      go_simp
      exact hK _ _ (Below.refl _ _) (Eq.refl _)
    refine And.intro ?_ ?_
    · intro a W hR hf ho K hK
      replace hR := ext_drew hR
      have G : a.tmps[13]?.getD undef = _ ∧ True := ho
      obtain ⟨g13, -⟩ := G
      have F : a.tmps[84]?.getD undef = _ ∧ True := hf
      obtain ⟨f39, -⟩ := F
      clear ho hf
      go_simp
      exact hK _ _ (Below.refl _ _) (Eq.refl _)
    refine And.intro ?_ ?_
    · intro a W hR hf ho K hK
      replace hR := ext_drew hR
      have G : a.tmps[16]?.getD undef = _ ∧ True := ho
      obtain ⟨g16, -⟩ := G
      have F : a.tmps[84]?.getD undef = _ ∧ True := hf
      obtain ⟨f39, -⟩ := F
      clear ho hf
      go_simp
      exact hK _ _ (Below.refl _ _) (Eq.refl _)
    refine And.intro ?_ ?_
    · intro a W hR hf ho K hK
      replace hR := ext_drew hR
      have F : a.tmps[85]?.getD undef = _ ∧ a.tmps[86]?.getD undef = _ ∧ a.tmps[84]?.getD undef = _ ∧ True := hf
      obtain ⟨f40, f41, f39, -⟩ := F
      clear ho hf
      go_simp
      exact hK _ _ (Below.refl _ _) (Eq.refl _)
    refine And.intro ?_ ?_
    · intro a W hR hf ho K hK
      replace hR := ext_drew hR
      have F : a.tmps[84]?.getD undef = _ ∧ a.tmps[87]?.getD undef = _ ∧ True := hf
      obtain ⟨f39, f42, -⟩ := F
      clear ho hf
      go_simp
      exact hK _ _ (Below.refl _ _) (Eq.refl _)
    refine And.intro ?_ ?_
    · intro a W hR hf ho K hK
      replace hR := ext_drew hR
      have F : a.tmps[88]?.getD undef = _ ∧ a.tmps[84]?.getD undef = _ ∧ True := hf
      obtain ⟨f43, f39, -⟩ := F
      clear ho hf
      go_simp
      exact hK _ _ (Below.refl _ _) (Eq.refl _)
    refine And.intro ?_ ?_
    · intro a W hR hf ho K hK
      replace hR := ext_drew hR
      have G : a.tmps[14]?.getD undef = _ ∧ True := ho
      obtain ⟨g14, -⟩ := G
      have F : a.tmps[89]?.getD undef = _ ∧ True := hf
      obtain ⟨f44, -⟩ := F
      clear ho hf
      go_simp
      exact hK _ _ (Below.refl _ _) (Eq.refl _)
    refine And.intro ?_ ?_
    · intro a W hR hf ho K hK
      replace hR := ext_drew hR
      have G : a.tmps[17]?.getD undef = _ ∧ True := ho
      obtain ⟨g17, -⟩ := G
      have F : a.tmps[89]?.getD undef = _ ∧ True := hf
      obtain ⟨f44, -⟩ := F
      clear ho hf
      go_simp
      exact hK _ _ (Below.refl _ _) (Eq.refl _)
    refine And.intro ?_ ?_
    · intro a W hR hf ho K hK
      replace hR := ext_drew hR
      have F : a.tmps[90]?.getD undef = _ ∧ a.tmps[91]?.getD undef = _ ∧ a.tmps[89]?.getD undef = _ ∧ True := hf
      obtain ⟨f45, f46, f44, -⟩ := F
      clear ho hf
      go_simp
      exact hK _ _ (Below.refl _ _) (Eq.refl _)
    refine And.intro ?_ ?_
    · intro a W hR hf ho K hK
      replace hR := ext_drew hR
      have F : a.tmps[89]?.getD undef = _ ∧ a.tmps[92]?.getD undef = _ ∧ True := hf
      obtain ⟨f44, f47, -⟩ := F
      clear ho hf
      go_simp
      exact hK _ _ (Below.refl _ _) (Eq.refl _)
    refine And.intro ?_ ?_
    · intro a W hR hf ho K hK
      replace hR := ext_drew hR
      have F : a.tmps[93]?.getD undef = _ ∧ a.tmps[89]?.getD undef = _ ∧ a.tmps[45]?.getD undef = _ ∧ a.tmps[46]?.getD undef = _ ∧ a.tmps[47]?.getD undef = _ ∧ a.tmps[48]?.getD undef = _ ∧ a.tmps[49]?.getD undef = _ ∧ a.tmps[50]?.getD undef = _ ∧ a.tmps[51]?.getD undef = _ ∧ a.tmps[52]?.getD undef = _ ∧ a.tmps[53]?.getD undef = _ ∧ a.tmps[54]?.getD undef = _ ∧ a.tmps[55]?.getD undef = _ ∧ a.tmps[56]?.getD undef = _ ∧ a.tmps[57]?.getD undef = _ ∧ a.tmps[58]?.getD undef = _ ∧ a.tmps[59]?.getD undef = _ ∧ a.tmps[60]?.getD undef = _ ∧ a.tmps[61]?.getD undef = _ ∧ (fun v w' => ∃ base, w'.ownsRow base 5 1 v (putI x).length (bs (putI x))) (a.tmps[62]?.getD undef) W ∧ a.tmps[63]?.getD undef = _ ∧ a.tmps[64]?.getD undef = _ ∧ (fun v w' => ∃ base, w'.ownsRow base 5 1 v (putI x).length (bs (putI x))) (a.tmps[65]?.getD undef) W ∧ a.tmps[66]?.getD undef = _ ∧ a.tmps[67]?.getD undef = _ ∧ a.tmps[68]?.getD undef = _ ∧ a.tmps[69]?.getD undef = _ ∧ a.tmps[70]?.getD undef = _ ∧ a.tmps[71]?.getD undef = _ ∧ a.tmps[72]?.getD undef = _ ∧ a.tmps[73]?.getD undef = _ ∧ a.tmps[74]?.getD undef = _ ∧ a.tmps[75]?.getD undef = _ ∧ a.tmps[76]?.getD undef = _ ∧ a.tmps[77]?.getD undef = _ ∧ a.tmps[78]?.getD undef = _ ∧ a.tmps[79]?.getD undef = _ ∧ a.tmps[80]?.getD undef = _ ∧ a.tmps[81]?.getD undef = _ ∧ a.tmps[82]?.getD undef = _ ∧ a.tmps[83]?.getD undef = _ ∧ a.tmps[84]?.getD undef = _ ∧ a.tmps[85]?.getD undef = _ ∧ a.tmps[86]?.getD undef = _ ∧ a.tmps[87]?.getD undef = _ ∧ a.tmps[88]?.getD undef = _ ∧ a.tmps[89]?.getD undef = _ ∧ a.tmps[90]?.getD undef = _ ∧ a.tmps[91]?.getD undef = _ ∧ a.tmps[92]?.getD undef = _ ∧ a.tmps[93]?.getD undef = _ ∧ True := hf
      obtain ⟨f48, f44, f0, f1, f2, f3, f4, f5, f6, f7, f8, f9, f10, f11, f12, f13, f14, f15, f16, f17, f18, f19, f20, f21, f22, f23, f24, f25, f26, f27, f28, f29, f30, f31, f32, f33, f34, f35, f36, f37, f38, f39, f40, f41, f42, f43, -, f45, f46, f47, -, -⟩ := F
      clear ho hf
      go_simp
      exact hK _ _ (Below.refl _ _) (Eq.refl _)
    exact trivial
  case stab =>
    refine And.intro is_stable ?_
    refine And.intro is_stable ?_
    refine And.intro is_stable ?_
    refine And.intro is_stable ?_
    refine And.intro is_stable ?_
    refine And.intro is_stable ?_
    refine And.intro is_stable ?_
    refine And.intro is_stable ?_
    refine And.intro is_stable ?_
    refine And.intro is_stable ?_
    refine And.intro is_stable ?_
    refine And.intro is_stable ?_
    refine And.intro is_stable ?_
    refine And.intro is_stable ?_
    refine And.intro is_stable ?_
    refine And.intro is_stable ?_
    refine And.intro is_stable ?_
    refine And.intro (fun _ _ _ ⟨_, h⟩ hE => ⟨_, own_ext h hE⟩) ?_
    refine And.intro is_stable ?_
    refine And.intro is_stable ?_
    refine And.intro (fun _ _ _ ⟨_, h⟩ hE => ⟨_, own_ext h hE⟩) ?_
    refine And.intro is_stable ?_
    refine And.intro is_stable ?_
    refine And.intro is_stable ?_
    refine And.intro is_stable ?_
    refine And.intro is_stable ?_
    refine And.intro is_stable ?_
    refine And.intro is_stable ?_
    refine And.intro is_stable ?_
    refine And.intro is_stable ?_
    refine And.intro is_stable ?_
    refine And.intro is_stable ?_
    refine And.intro is_stable ?_
    refine And.intro is_stable ?_
    refine And.intro is_stable ?_
    refine And.intro is_stable ?_
    refine And.intro is_stable ?_
    refine And.intro is_stable ?_
    refine And.intro is_stable ?_
    refine And.intro is_stable ?_
    refine And.intro is_stable ?_
    refine And.intro is_stable ?_
    refine And.intro is_stable ?_
    refine And.intro is_stable ?_
    refine And.intro is_stable ?_
    refine And.intro is_stable ?_
    refine And.intro is_stable ?_
    refine And.intro is_stable ?_
    refine And.intro is_stable ?_
    refine And.intro is_stable ?_
    exact trivial
  case ends =>
    intro vals W hR hall
    replace hR := ext_drew hR
    have e6 : vals 6 = _ := hall 49 (by decide)
    clear hall
    simp only [fill, List.setIfInBounds_toArray, List.set_cons_succ, List.set_cons_zero, e6]
    go_wp2_with fail
    go_ret
    exact ⟨rfl, hEW.out.then hR⟩

theorem tells_any (x : Ins) (A : Option Addr) (c : Nat) (l : List Int) (op : Int) (w : World) (h : Arr w A (bs l)) (hl : ∀ x ∈ l, 0 ≤ x ∧ x < 256) (hc : l.length ≤ c) :
    Calls Try.prog 3 #[.agg #[.int .i64 x.op, .int .i64 x.a, .int .i64 x.b, .int .i64 x.c], .slice A l.length c, .int .i64 op] w fun e w' => e = .returned (.bool true) ∧ Ext w w' := by
  by_cases hm : l.length ≤ 9000
  · exact tells_walk x A c l op w h hl hc hm
  · have hm' : (9000 : Int) < l.length := by omega
    clear hm
    go_enter Try.func3, Try.ntmps3
    go_wp2_with fail
    refine (head_any _).mono ?_
    rintro e w1 ⟨rfl, hb1⟩
    go_wp2_with fail
    go_ret
    exact ⟨rfl, (Ext.alloc (Below.refl _ w) _).then hb1⟩
end Go.Proofs.Ytdfjpmihjfnebaa

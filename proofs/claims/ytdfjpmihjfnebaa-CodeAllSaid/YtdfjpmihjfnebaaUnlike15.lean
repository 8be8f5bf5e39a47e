/- CodeUnlike: its walk. -/
import Derived.Test.YtdfjpmihjfnebaaHead15
import Derived.Test.YtdfjpmihjfnebaaPhi
import Derived.Test.YtdfjpmihjfnebaaPlain15
set_option linter.all false
namespace Go.Proofs.Ytdfjpmihjfnebaa
open Go.RowKit

theorem four_of {w : World} {base : Nat} {v : Value} {x : Ins} (hr : rightI x = true) (ho : w.ownsRow base 5 1 v (putI x).length (bs (putI x))) : ∃ g c, v = .slice (some ⟨g, 0, none⟩) 4 c ∧ 4 ≤ c ∧ g < w.heap.size ∧ base ≤ g ∧ ∃ b d, putI x = [x.op, x.a, b, d] ∧ w.cell? ⟨g, 0, none⟩ = some (.int .u8 x.op) ∧ w.cell? ⟨g, 1, none⟩ = some (.int .u8 x.a) ∧ w.cell? ⟨g, 2, none⟩ = some (.int .u8 b) ∧ w.cell? ⟨g, 3, none⟩ = some (.int .u8 d) ∧ Arr w (some ⟨g, 0, none⟩) (bs (putI x)) := by
  obtain ⟨b, d, e, -⟩ := put_four hr
  rw [e] at ho
  obtain ⟨hl, h⟩ := ho
  rcases h with ⟨rfl, h⟩ | ⟨g, cap, cur, rfl, hg, hb, hn, hm, hs, ht⟩
  · simp at h
  · have hc : ∀ j u, (bs [x.op, x.a, b, d])[j]? = some u → w.cell? ⟨g, j, none⟩ = some u := fun j u hu => by
      rw [cell_of_row w g j cur 5 (0, 0) hb]
      rw [← ht, List.getElem?_take] at hu
      split at hu
      · simpa using hu
      · cases hu
    have hlt : g < w.heap.size := World.block_lt_of_cell? w ⟨g, 0, none⟩ (hc 0 _ rfl)
    exact ⟨g, cap, rfl, hn, hlt, hg, b, d, e, hc 0 _ rfl, hc 1 _ rfl, hc 2 _ rfl, hc 3 _ rfl, by rw [e]; exact .inr ⟨g, 0, rfl, fun j hj => by rw [Nat.zero_add]; exact hc j _ (List.getElem?_eq_getElem hj)⟩⟩

attribute [local go_sem] seen dstOf boolOf
set_option maxHeartbeats 4000000 in
theorem unlike_walk (x y : Ins) (w : World) (hx : rightI x = true) (hy : rightI y = true) (q : Bool) (hq : decide (x = y) = q) (hst : ((strOfNums (putI x)).toList == (strOfNums (putI y)).toList) = q) :
    Calls Try.prog 9 #[.agg #[.int .i64 x.op, .int .i64 x.a, .int .i64 x.b, .int .i64 x.c], .agg #[.int .i64 y.op, .int .i64 y.a, .int .i64 y.b, .int .i64 y.c]] w fun e w' => e = .returned (.bool true) ∧ Ext w w' := by
  have hI := eqI x y q hq
  clear hq
  go_enter Try.func9, Try.ntmps9
  go_wp2_with fail
  refine (head_any _).mono ?_
  rintro e w1 ⟨rfl, hb1⟩
  obtain ⟨hc1, hf1, hz1⟩ := bcellN hb1 (w.heap.size + 2) (by simp)
  go_wp2_with fail
  refine (put_any _ _ _ _ _).mono ?_
  rintro e w2 ⟨v2, rfl, ho2, hb2⟩
  obtain ⟨hc2, hf2, hz2⟩ := bcellN hb2 (w.heap.size + 2) (by omega)
  go_wp2_with fail
  refine (put_any _ _ _ _ _).mono ?_
  rintro e w3 ⟨v3, rfl, ho3, hb3⟩
  obtain ⟨g3, c3, rfl, hc3, hg3, -, b3, d3, e3, q3⟩ := four_of hy ho3
  obtain ⟨g2, c2, rfl, hc2', hg2, -, b2, d2, e2, q2⟩ := four_of hx (own_ext ho2 hb3)
  have E1 : Ext ((w.alloc _).alloc _) w3 := hb1.then (hb2.then hb3)
  have B2 := new_at (b := w.heap.size + 1) (by simp) E1
  have B1 := new_lies (o := .cells #[.int .i64 x.op, .int .i64 x.a, .int .i64 x.b, .int .i64 x.c] 23) ((Ext.alloc (Below.refl _ _) _).then E1)
  have EW : Ext w w3 := (Ext.alloc (Ext.alloc (Below.refl _ w) _) _).then E1
  have o2 : w3.ownsRow _ _ _ _ _ (bs (putI x)) := own_ext ho2 hb3
  have ho3 : w3.ownsRow _ _ _ _ _ (bs (putI y)) := ho3
  have hcv2 := conv_own (W := w3.drew) o2
  have hcv3 := conv_own (W := w3.drew) ho3
  clear hb1 hb2 hb3 ho2 ho3 hc1 hf1 hc2 hf2 E1 o2
  obtain ⟨x0, x1, x2, x3⟩ := lie4 (W := w3.drew) B1 (Ext.drew (Below.refl _ _))
  obtain ⟨y0, y1, y2, y3⟩ := lie4 (W := w3.drew) B2 (Ext.drew (Below.refl _ _))
  obtain ⟨p0, -⟩ := q2
  obtain ⟨r0, -⟩ := q3
  obtain ⟨-, -, -, x00, x01, -⟩ := put_four hx
  obtain ⟨-, -, -, y00, y01, -⟩ := put_four hy
  have wx : IntKind.i64.wrap x.op = x.op := IntWalk.i64_in _ (by omega)
  have wy : IntKind.i64.wrap y.op = y.op := IntWalk.i64_in _ (by omega)
  clear x00 x01 y00 y01
  generalize hsx : strOfNums (putI x) = sx at hcv2 hst
  generalize hsy : strOfNums (putI y) = sy at hcv3 hst
  clear hsx hsy e2 e3
  go_wp2_with fail
  refine wp_region_obl Eq [22, 23, 24, 25, 26, 27, 28, 29, 30, 31, 32, 33, 34, 35, 36, 37, 38, 39, 40, 41, 42, 43, 44, 45, 46, 47, 48, 49, 50, 51, 4] (by kernel_rfl) (fun _ => rfl) (fun _ _ _ => Eq.trans) (by kernel_rfl) (by kernel_rfl) ?_
  apply ex_is; apply Exists.intro
  apply ex_is; apply Exists.intro
  apply ex_is; apply Exists.intro
  apply ex_is; apply Exists.intro
  apply ex_is; apply Exists.intro
  apply ex_is; apply Exists.intro
  apply ex_is; apply Exists.intro
  apply ex_is; apply Exists.intro
  apply ex_is; apply Exists.intro
  apply ex_is; apply Exists.intro
  apply ex_is; apply Exists.intro
  apply ex_is; apply Exists.intro
  apply ex_is; apply Exists.intro
  apply ex_is; apply Exists.intro
  apply ex_is; apply Exists.intro
  apply ex_is; apply Exists.intro
  apply ex_is; apply Exists.intro
  apply ex_is; apply Exists.intro
  apply ex_is; apply Exists.intro
  apply ex_is; apply Exists.intro
  apply ex_is; apply Exists.intro
  apply ex_is; apply Exists.intro
  apply ex_is; apply Exists.intro
  apply ex_is; apply Exists.intro
  apply ex_is; apply Exists.intro
  apply ex_is; apply Exists.intro
  apply ex_is; apply Exists.intro
  apply ex_is; apply Exists.intro
  apply ex_is; apply Exists.intro
  apply ex_is; apply Exists.intro
  apply ex_is; apply Exists.intro
  refine ⟨[], ⟨?steps, ?stab, ?ends⟩⟩
  case steps =>
    refine And.intro ?_ ?_
    · intro a W hR hf ho K hK
      subst hR
      have G : a.tmps[5]?.getD undef = _ ∧ True := ho
      obtain ⟨g5, -⟩ := G
      clear ho hf
      go_simp
      exact hK _ _ (rfl) (Eq.refl _)
    refine And.intro ?_ ?_
    · intro a W hR hf ho K hK
      subst hR
      have F : a.tmps[22]?.getD undef = _ ∧ True := hf
      obtain ⟨f0, -⟩ := F
      clear ho hf
      go_simp
      exact hK _ _ (rfl) (Eq.refl _)
    refine And.intro ?_ ?_
    · intro a W hR hf ho K hK
      subst hR
      have G : a.tmps[6]?.getD undef = _ ∧ True := ho
      obtain ⟨g6, -⟩ := G
      have F : a.tmps[23]?.getD undef = _ ∧ True := hf
      obtain ⟨f1, -⟩ := F
      clear ho hf
      go_simp
      exact hK _ _ (rfl) (Eq.refl _)
    refine And.intro ?_ ?_
    · intro a W hR hf ho K hK
      subst hR
      have F : a.tmps[24]?.getD undef = _ ∧ a.tmps[23]?.getD undef = _ ∧ True := hf
      obtain ⟨f2, f1, -⟩ := F
      clear ho hf
      go_simp
      exact hK _ _ (rfl) (Eq.refl _)
    refine And.intro ?_ ?_
    · intro a W hR hf ho K hK
      subst hR
      have G : a.tmps[7]?.getD undef = _ ∧ True := ho
      obtain ⟨g7, -⟩ := G
      have F : a.tmps[23]?.getD undef = _ ∧ True := hf
      obtain ⟨f1, -⟩ := F
      clear ho hf
      go_simp
      exact hK _ _ (rfl) (Eq.refl _)
    refine And.intro ?_ ?_
    · intro a W hR hf ho K hK
      subst hR
      have F : a.tmps[26]?.getD undef = _ ∧ a.tmps[23]?.getD undef = _ ∧ True := hf
      obtain ⟨f4, f1, -⟩ := F
      clear ho hf
      go_simp
      exact hK _ _ (rfl) (Eq.refl _)
    refine And.intro ?_ ?_
    · intro a W hR hf ho K hK
      subst hR
      have F : a.tmps[25]?.getD undef = _ ∧ a.tmps[27]?.getD undef = _ ∧ a.tmps[23]?.getD undef = _ ∧ True := hf
      obtain ⟨f3, f5, f1, -⟩ := F
      clear ho hf
      go_simp
      exact hK _ _ (rfl) (Eq.refl _)
    refine And.intro ?_ ?_
    · intro a W hR hf ho K hK
      subst hR
      have G : a.tmps[2]?.getD undef = _ ∧ True := ho
      obtain ⟨g2, -⟩ := G
      have F : a.tmps[23]?.getD undef = _ ∧ True := hf
      obtain ⟨f1, -⟩ := F
      clear ho hf
      go_simp
      exact hK _ _ (rfl) (Eq.refl _)
    refine And.intro ?_ ?_
    · intro a W hR hf ho K hK
      subst hR
      have G : a.tmps[3]?.getD undef = _ ∧ True := ho
      obtain ⟨g3, -⟩ := G
      have F : a.tmps[23]?.getD undef = _ ∧ True := hf
      obtain ⟨f1, -⟩ := F
      clear ho hf
      go_simp
      exact hK _ _ (rfl) (Eq.refl _)
    refine And.intro ?_ ?_
    · intro a W hR hf ho K hK
      subst hR
      have F : a.tmps[29]?.getD undef = _ ∧ a.tmps[30]?.getD undef = _ ∧ a.tmps[23]?.getD undef = _ ∧ True := hf
      obtain ⟨f7, f8, f1, -⟩ := F
      clear ho hf
      go_simp
      exact hK _ _ (rfl) (Eq.refl _)
    refine And.intro ?_ ?_
    · intro a W hR hf ho K hK
      subst hR
      have F : a.tmps[28]?.getD undef = _ ∧ a.tmps[31]?.getD undef = _ ∧ a.tmps[23]?.getD undef = _ ∧ True := hf
      obtain ⟨f6, f9, f1, -⟩ := F
      clear ho hf
      go_simp
      exact hK _ _ (rfl) (Eq.refl _)
    refine And.intro ?_ ?_
    · intro a W hR hf ho K hK
      subst hR
      have F : a.tmps[23]?.getD undef = _ ∧ a.tmps[32]?.getD undef = _ ∧ True := hf
      obtain ⟨f1, f10, -⟩ := F
      clear ho hf
      go_simp
      exact hK _ _ (rfl) (Eq.refl _)
    refine And.intro ?_ ?_
    · intro a W hR hf ho K hK
      subst hR
      have F : a.tmps[33]?.getD undef = _ ∧ a.tmps[23]?.getD undef = _ ∧ True := hf
      obtain ⟨f11, f1, -⟩ := F
      clear ho hf
      go_simp
      exact hK _ _ (rfl) (Eq.refl _)
    refine And.intro ?_ ?_
    · intro a W hR hf ho K hK
      subst hR
      have G : a.tmps[6]?.getD undef = _ ∧ True := ho
      obtain ⟨g6, -⟩ := G
      have F : a.tmps[34]?.getD undef = _ ∧ True := hf
      obtain ⟨f12, -⟩ := F
      clear ho hf
      go_simp
      exact hK _ _ (rfl) (Eq.refl _)
    refine And.intro ?_ ?_
    · intro a W hR hf ho K hK
      subst hR
      have F : a.tmps[35]?.getD undef = _ ∧ a.tmps[34]?.getD undef = _ ∧ True := hf
      obtain ⟨f13, f12, -⟩ := F
      clear ho hf
      go_simp
      exact hK _ _ (rfl) (Eq.refl _)
    refine And.intro ?_ ?_
    · intro a W hR hf ho K hK
      subst hR
      have F : a.tmps[36]?.getD undef = _ ∧ a.tmps[34]?.getD undef = _ ∧ True := hf
      obtain ⟨f14, f12, -⟩ := F
      clear ho hf
      go_simp
      exact hK _ _ (rfl) (Eq.refl _)
    refine And.intro ?_ ?_
    · intro a W hR hf ho K hK
      subst hR
      have F : a.tmps[37]?.getD undef = _ ∧ a.tmps[34]?.getD undef = _ ∧ True := hf
      obtain ⟨f15, f12, -⟩ := F
      clear ho hf
      go_simp
      exact hK _ _ (rfl) (Eq.refl _)
    refine And.intro ?_ ?_
    · intro a W hR hf ho K hK
      subst hR
      have G : a.tmps[2]?.getD undef = _ ∧ True := ho
      obtain ⟨g2, -⟩ := G
      have F : a.tmps[34]?.getD undef = _ ∧ True := hf
      obtain ⟨f12, -⟩ := F
      clear ho hf
      go_simp
      exact hK _ _ (rfl) (Eq.refl _)
    refine And.intro ?_ ?_
    · intro a W hR hf ho K hK
      subst hR
      have F : a.tmps[39]?.getD undef = _ ∧ a.tmps[34]?.getD undef = _ ∧ True := hf
      obtain ⟨f17, f12, -⟩ := F
      clear ho hf
      go_simp
      exact hK _ _ (rfl) (Eq.refl _)
    refine And.intro ?_ ?_
    · intro a W hR hf ho K hK
      subst hR
      have F : a.tmps[38]?.getD undef = _ ∧ a.tmps[40]?.getD undef = _ ∧ a.tmps[34]?.getD undef = _ ∧ True := hf
      obtain ⟨f16, f18, f12, -⟩ := F
      clear ho hf
      go_simp
      exact hK _ _ (rfl) (Eq.refl _)
    refine And.intro ?_ ?_
    · intro a W hR hf ho K hK
      subst hR
      have F : a.tmps[34]?.getD undef = _ ∧ a.tmps[41]?.getD undef = _ ∧ True := hf
      obtain ⟨f12, f19, -⟩ := F
      clear ho hf
      go_simp
      exact hK _ _ (rfl) (Eq.refl _)
    refine And.intro ?_ ?_
    · intro a W hR hf ho K hK
      subst hR
      have F : a.tmps[42]?.getD undef = _ ∧ a.tmps[34]?.getD undef = _ ∧ True := hf
      obtain ⟨f20, f12, -⟩ := F
      clear ho hf
      go_simp
      exact hK _ _ (rfl) (Eq.refl _)
    refine And.intro ?_ ?_
    · intro a W hR hf ho K hK
      subst hR
      have G : a.tmps[7]?.getD undef = _ ∧ True := ho
      obtain ⟨g7, -⟩ := G
      have F : a.tmps[43]?.getD undef = _ ∧ True := hf
      obtain ⟨f21, -⟩ := F
      clear ho hf
      go_simp
      exact hK _ _ (rfl) (Eq.refl _)
    refine And.intro ?_ ?_
    · intro a W hR hf ho K hK
      subst hR
      have F : a.tmps[44]?.getD undef = _ ∧ a.tmps[43]?.getD undef = _ ∧ True := hf
      obtain ⟨f22, f21, -⟩ := F
      clear ho hf
      go_simp
      exact hK _ _ (rfl) (Eq.refl _)
    refine And.intro ?_ ?_
    · intro a W hR hf ho K hK
      subst hR
      have F : a.tmps[45]?.getD undef = _ ∧ a.tmps[43]?.getD undef = _ ∧ True := hf
      obtain ⟨f23, f21, -⟩ := F
      clear ho hf
      go_simp
      exact hK _ _ (rfl) (Eq.refl _)
    refine And.intro ?_ ?_
    · intro a W hR hf ho K hK
      subst hR
      have F : a.tmps[46]?.getD undef = _ ∧ a.tmps[43]?.getD undef = _ ∧ True := hf
      obtain ⟨f24, f21, -⟩ := F
      clear ho hf
      go_simp
      exact hK _ _ (rfl) (Eq.refl _)
    refine And.intro ?_ ?_
    · intro a W hR hf ho K hK
      subst hR
      have G : a.tmps[3]?.getD undef = _ ∧ True := ho
      obtain ⟨g3, -⟩ := G
      have F : a.tmps[43]?.getD undef = _ ∧ True := hf
      obtain ⟨f21, -⟩ := F
      clear ho hf
      go_simp
      exact hK _ _ (rfl) (Eq.refl _)
    refine And.intro ?_ ?_
    · intro a W hR hf ho K hK
      subst hR
      have F : a.tmps[48]?.getD undef = _ ∧ a.tmps[43]?.getD undef = _ ∧ True := hf
      obtain ⟨f26, f21, -⟩ := F
      clear ho hf
      go_simp
      exact hK _ _ (rfl) (Eq.refl _)
    refine And.intro ?_ ?_
    · intro a W hR hf ho K hK
      subst hR
      have F : a.tmps[47]?.getD undef = _ ∧ a.tmps[49]?.getD undef = _ ∧ a.tmps[43]?.getD undef = _ ∧ True := hf
      obtain ⟨f25, f27, f21, -⟩ := F
      clear ho hf
      go_simp
      exact hK _ _ (rfl) (Eq.refl _)
    refine And.intro ?_ ?_
    · intro a W hR hf ho K hK
      subst hR
      have F : a.tmps[43]?.getD undef = _ ∧ a.tmps[50]?.getD undef = _ ∧ True := hf
      obtain ⟨f21, f28, -⟩ := F
      clear ho hf
      go_simp
      exact hK _ _ (rfl) (Eq.refl _)
    refine And.intro ?_ ?_
    · intro a W hR hf ho K hK
      subst hR
      have F : a.tmps[51]?.getD undef = _ ∧ a.tmps[43]?.getD undef = _ ∧ a.tmps[22]?.getD undef = _ ∧ a.tmps[23]?.getD undef = _ ∧ a.tmps[24]?.getD undef = _ ∧ a.tmps[25]?.getD undef = _ ∧ a.tmps[26]?.getD undef = _ ∧ a.tmps[27]?.getD undef = _ ∧ a.tmps[28]?.getD undef = _ ∧ a.tmps[29]?.getD undef = _ ∧ a.tmps[30]?.getD undef = _ ∧ a.tmps[31]?.getD undef = _ ∧ a.tmps[32]?.getD undef = _ ∧ a.tmps[33]?.getD undef = _ ∧ a.tmps[34]?.getD undef = _ ∧ a.tmps[35]?.getD undef = _ ∧ a.tmps[36]?.getD undef = _ ∧ a.tmps[37]?.getD undef = _ ∧ a.tmps[38]?.getD undef = _ ∧ a.tmps[39]?.getD undef = _ ∧ a.tmps[40]?.getD undef = _ ∧ a.tmps[41]?.getD undef = _ ∧ a.tmps[42]?.getD undef = _ ∧ a.tmps[43]?.getD undef = _ ∧ a.tmps[44]?.getD undef = _ ∧ a.tmps[45]?.getD undef = _ ∧ a.tmps[46]?.getD undef = _ ∧ a.tmps[47]?.getD undef = _ ∧ a.tmps[48]?.getD undef = _ ∧ a.tmps[49]?.getD undef = _ ∧ a.tmps[50]?.getD undef = _ ∧ a.tmps[51]?.getD undef = _ ∧ True := hf
      obtain ⟨f29, f21, f0, f1, f2, f3, f4, f5, f6, f7, f8, f9, f10, f11, f12, f13, f14, f15, f16, f17, f18, f19, f20, -, f22, f23, f24, f25, f26, f27, f28, -, -⟩ := F
      clear ho hf
      go_simp
      exact hK _ _ (rfl) (Eq.refl _)
    exact trivial
  case stab =>
    refine And.intro is_stable ?_
    refine And.intro is_stable ?_
    refine And.intro is_stable ?_
    refine And.intro is_stable ?_
    refine And.intro is_stable ?_
    refine And.intro is_stable ?_
    refine And.intro is_stable ?_
    refine And.intro is_stable ?_
    refine And.intro is_stable ?_
    refine And.intro is_stable ?_
    refine And.intro is_stable ?_
    refine And.intro is_stable ?_
    refine And.intro is_stable ?_
    refine And.intro is_stable ?_
    refine And.intro is_stable ?_
    refine And.intro is_stable ?_
    refine And.intro is_stable ?_
    refine And.intro is_stable ?_
    refine And.intro is_stable ?_
    refine And.intro is_stable ?_
    refine And.intro is_stable ?_
    refine And.intro is_stable ?_
    refine And.intro is_stable ?_
    refine And.intro is_stable ?_
    refine And.intro is_stable ?_
    refine And.intro is_stable ?_
    refine And.intro is_stable ?_
    refine And.intro is_stable ?_
    refine And.intro is_stable ?_
    refine And.intro is_stable ?_
    refine And.intro is_stable ?_
    exact trivial
  case ends =>
    intro vals W hR hall
    subst hR
    have e4 : vals 4 = _ := hall 30 (by decide)
    clear hall
    simp only [fill, List.setIfInBounds_toArray, List.set_cons_succ, List.set_cons_zero, e4]
    go_wp2_with fail
    go_ret
    exact ⟨rfl, EW.drew⟩

set_option maxHeartbeats 1000000 in
theorem unlike_any (x y : Ins) (w : World) :
    Calls Try.prog 9 #[.agg #[.int .i64 x.op, .int .i64 x.a, .int .i64 x.b, .int .i64 x.c], .agg #[.int .i64 y.op, .int .i64 y.a, .int .i64 y.b, .int .i64 y.c]] w fun e w' => e = .returned (.bool true) ∧ Ext w w' := by
  cases hx : rightI x with
  | true =>
    cases hy : rightI y with
    | true =>
      refine unlike_walk x y w hx hy _ rfl ?_
      by_cases h : x = y
      · subst h; simp
      · rw [decide_eq_false h, beq_eq_false_iff_ne]
        exact fun e => h (put_inj hx hy (strOf_eq (put_bytes x) (put_bytes y) e))
    | false =>
      have l2 : (putL x.op x.a x.b x.c).length = 4 := by have := put_length x; rw [hx] at this; exact this
      have l3 : (putL y.op y.a y.b y.c).length = 0 := by have := put_length y; rw [hy] at this; exact this
      go_enter Try.func9, Try.ntmps9
      go_wp2_with fail
      refine (head_any _).mono ?_
      rintro e w1 ⟨rfl, hb1⟩
      obtain ⟨hc1, hf1, hz1⟩ := bcellN hb1 (w.heap.size + 2) (by simp)
      go_wp2_with fail
      refine (put_any _ _ _ _ _).mono ?_
      rintro e w2 ⟨v2, rfl, ho2, hb2⟩
      obtain ⟨hc2, hf2, hz2⟩ := bcellN hb2 (w.heap.size + 2) (by omega)
      obtain ⟨A2, c2, rfl, -⟩ := Arr.own ho2
      rw [l2]
      go_wp2_with fail
      refine (put_any _ _ _ _ _).mono ?_
      rintro e w3 ⟨v3, rfl, ho3, hb3⟩
      obtain ⟨A3, c3, rfl, -⟩ := Arr.own ho3
      rw [l3]
      go_wp2_with fail
      go_ret
      exact ⟨rfl, (Ext.alloc (Ext.alloc (Below.refl _ w) _) _).then (hb1.then (hb2.then hb3))⟩
  | false =>
    have l2 : (putL x.op x.a x.b x.c).length = 0 := by have := put_length x; rw [hx] at this; exact this
    go_enter Try.func9, Try.ntmps9
    go_wp2_with fail
    refine (head_any _).mono ?_
    rintro e w1 ⟨rfl, hb1⟩
    obtain ⟨hc1, hf1, hz1⟩ := bcellN hb1 (w.heap.size + 2) (by simp)
    go_wp2_with fail
    refine (put_any _ _ _ _ _).mono ?_
    rintro e w2 ⟨v2, rfl, ho2, hb2⟩
    obtain ⟨hc2, hf2, hz2⟩ := bcellN hb2 (w.heap.size + 2) (by omega)
    obtain ⟨A2, c2, rfl, -⟩ := Arr.own ho2
    rw [l2]
    go_wp2_with fail
    refine (put_any _ _ _ _ _).mono ?_
    rintro e w3 ⟨v3, rfl, ho3, hb3⟩
    obtain ⟨A3, c3, rfl, -⟩ := Arr.own ho3
    go_wp2_with fail
    go_ret
    exact ⟨rfl, (Ext.alloc (Ext.alloc (Below.refl _ w) _) _).then (hb1.then (hb2.then hb3))⟩
end Go.Proofs.Ytdfjpmihjfnebaa

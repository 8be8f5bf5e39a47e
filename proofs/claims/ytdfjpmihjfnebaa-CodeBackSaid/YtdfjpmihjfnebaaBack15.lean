/- CodeBack: its walk. -/
import Derived.Test.YtdfjpmihjfnebaaHead15
import Derived.Test.YtdfjpmihjfnebaaPhi
import Derived.Test.YtdfjpmihjfnebaaUnlike15
set_option linter.all false
namespace Go.Proofs.Ytdfjpmihjfnebaa
open Go.RowKit

attribute [local go_sem] seen dstOf boolOf
set_option maxHeartbeats 4000000 in
theorem back_walk (x : Ins) (n : Int) (w : World) (n0 : 0 ≤ n) (n1 : n < 4294967296) (hx : rightI x = true) :
    Calls Try.prog 4 #[.agg #[.int .i64 x.op, .int .i64 x.a, .int .i64 x.b, .int .i64 x.c], .int .u32 n] w fun e w' => e = .returned (.bool true) ∧ Ext w w' := by
  have hI := eqI x x true (by simp)
  have hr : rightB x.op x.a x.b x.c = true := hx
  have hg : getI (putL x.op x.a x.b x.c) = (x, 0) := get_put hx
  have hl : (putL x.op x.a x.b x.c).length = 4 := by have := put_length x; rw [hx] at this; exact this
  have hy := put_bytes x
  go_enter Try.func4, Try.ntmps4
  go_wp2_with fail
  refine (head_any _).mono ?_
  rintro e w1 ⟨rfl, hb1⟩
  obtain ⟨hc1, hf1, hz1⟩ := bcellN hb1 (w.heap.size + 1) (by simp)
  go_wp2_with fail
  refine (put_any _ _ _ _ _).mono ?_
  rintro e w2 ⟨v2, rfl, ho2, hb2⟩
  obtain ⟨hc2, hf2, hz2⟩ := bcellN hb2 (w.heap.size + 1) (by omega)
  obtain ⟨A2, c2, rfl, -, ha2⟩ := Arr.own ho2
  go_wp2_with fail
  refine (right_any _ _ _ _ _).mono ?_
  rintro e w3 ⟨rfl, hb3⟩
  obtain ⟨hc3, hf3, hz3⟩ := bcellN hb3 (w.heap.size + 1) (by omega)
  go_wp2_with fail
  have G := get_any A2 c2 (putL x.op x.a x.b x.c) w3 (ha2.ext hb3) hy
  rw [hl, hg] at G
  refine G.mono ?_
  rintro e w4 ⟨rfl, hb4⟩
  obtain ⟨hc4, hf4, hz4⟩ := bcellN hb4 (w.heap.size + 1) (by omega)
  clear G hg hy
  have u4 : w.heap.size < w4.heap.size := by omega
  go_wp2_with fail
  have hp : ∀ y ∈ [n / 16777216, n / 65536 % 256, n / 256 % 256, n % 256], 0 ≤ y ∧ y < 256 := by
    simp only [List.mem_cons, List.not_mem_nil, or_false, forall_eq_or_imp, forall_eq]
    omega
  have EW : Ext w w4 := (Ext.alloc (Below.refl _ w) _).then (hb1.then (hb2.then (hb3.then hb4)))
  clear hb1 hb2 hb3 hb4 hc1 hc2 hc3 hc4 hf1 hf2 hf3 hf4 ha2 ho2
  refine (get_lit _ _ _ _ _ _ (by simp) hp _ rfl).mono ?_
  rintro e w5 ⟨rfl, hb5⟩
  have hob := own_ext (own_lit (w4.alloc _) 0 5 1 4 (bs [n / 16777216, n / 65536 % 256, n / 256 % 256, n % 256]) (by simp) (by simp [bs]) (by simp [maxLen])) hb5
  rw [show (w4.alloc (.cells #[.int .i64 x.op, .int .i64 x.a, .int .i64 x.b, .int .i64 x.c] 23)).heap.size = w4.heap.size + 1 by simp] at hob
  have E5 : Ext w w5 := (EW.alloc _).alloc _ |>.then hb5
  clear hb5 EW
  rcases get_back hp with ⟨q0, q1, q2⟩ | q
  · generalize getI [n / 16777216, n / 65536 % 256, n / 256 % 256, n % 256] = r at q0 q1 q2 ⊢
    obtain ⟨z, ez⟩ := r
    simp only at q0 q1 q2 ⊢
    subst q0
    rw [← q2] at hob
    have q3 : rightB z.op z.a z.b z.c = true := q1
    clear hp q2 n0 n1 hI hr hx hl
    have hob := Lib.hid hob
    have E5 := Lib.hid E5
    go_wp2_with fail
    refine wp_region_obl Ext [75, 76, 77, 78, 79, 80, 81, 82, 83, 84, 85, 86, 87, 4] (by kernel_rfl) (fun _ => Below.refl _ _) (fun _ _ _ => Ext.then) (by kernel_rfl) (by kernel_rfl) ?_
    apply ex_is; apply Exists.intro
    apply ex_is; apply Exists.intro
    apply ex_is; apply Exists.intro
    apply ex_is; apply Exists.intro
    apply ex_is; apply Exists.intro
    apply ex_is; apply Exists.intro
    apply ex_is; apply Exists.intro
    refine ex_phi (fun v w' => ∃ base, w'.ownsRow base 5 1 v (putI z).length (bs (putI z))) ?_
    apply ex_is; apply Exists.intro
    apply ex_is; apply Exists.intro
    apply ex_is; apply Exists.intro
    apply ex_is; apply Exists.intro
    apply ex_is; apply Exists.intro
    apply ex_is; apply Exists.intro
    refine ⟨[], ⟨?steps, ?stab, ?ends⟩⟩
    case steps =>
      refine And.intro ?_ ?_
      · intro a W hR hf ho K hK
        replace hR := ext_drew hR
        have G : a.tmps[5]?.getD undef = _ ∧ True := ho
        obtain ⟨g5, -⟩ := G
        clear ho hf
        go_simp
        exact hK _ _ (Below.refl _ _) (Eq.refl _)
      refine And.intro ?_ ?_
      · intro a W hR hf ho K hK
        replace hR := ext_drew hR
        have F : a.tmps[75]?.getD undef = _ ∧ True := hf
        obtain ⟨f0, -⟩ := F
        clear ho hf
        go_simp
        exact hK _ _ (Below.refl _ _) (Eq.refl _)
      refine And.intro ?_ ?_
      · intro a W hR hf ho K hK
        replace hR := ext_drew hR
        have G : a.tmps[10]?.getD undef = _ ∧ True := ho
        obtain ⟨g10, -⟩ := G
        have F : a.tmps[76]?.getD undef = _ ∧ True := hf
        obtain ⟨f1, -⟩ := F
        clear ho hf
        obtain ⟨c0, c1, c2, c3⟩ := lie4 (heap_alloc_new w5 _) hR
        go_simp
        exact hK _ _ (Below.refl _ _) (Eq.refl _)
      refine And.intro ?_ ?_
      · intro a W hR hf ho K hK
        replace hR := ext_drew hR
        have F : a.tmps[77]?.getD undef = _ ∧ a.tmps[76]?.getD undef = _ ∧ a.tmps[76]?.getD undef = _ ∧ True := hf
        obtain ⟨f2, f1, -, -⟩ := F
        clear ho hf
        go_simp
        refine (right_any _ _ _ _ _).mono ?_; rintro e W1 ⟨rfl, hb⟩; exact hK _ _ hb (Eq.refl _)
      refine And.intro ?_ ?_
      · intro a W hR hf ho K hK
        replace hR := ext_drew hR
        have F : a.tmps[76]?.getD undef = _ ∧ a.tmps[78]?.getD undef = _ ∧ True := hf
        obtain ⟨f1, f3, -⟩ := F
        clear ho hf
        go_simp
        exact hK _ _ (Below.refl _ _) (Eq.refl _)
      refine And.intro ?_ ?_
      · intro a W hR hf ho K hK
        replace hR := ext_drew hR
        have F : a.tmps[79]?.getD undef = _ ∧ a.tmps[78]?.getD undef = _ ∧ True := hf
        obtain ⟨f4, f3, -⟩ := F
        clear ho hf
        go_simp
        exact hK _ _ (Below.refl _ _) (Eq.refl _)
      refine And.intro ?_ ?_
      · intro a W hR hf ho K hK
        replace hR := ext_drew hR
        have G : a.tmps[10]?.getD undef = _ ∧ True := ho
        obtain ⟨g10, -⟩ := G
        have F : a.tmps[80]?.getD undef = _ ∧ True := hf
        obtain ⟨f5, -⟩ := F
        clear ho hf
        obtain ⟨c0, c1, c2, c3⟩ := lie4 (heap_alloc_new w5 _) hR
        go_simp
        exact hK _ _ (Below.refl _ _) (Eq.refl _)
      refine And.intro ?_ ?_
      · intro a W hR hf ho K hK
        replace hR := ext_drew hR
        have F : a.tmps[81]?.getD undef = _ ∧ a.tmps[80]?.getD undef = _ ∧ a.tmps[80]?.getD undef = _ ∧ True := hf
        obtain ⟨f6, f5, -, -⟩ := F
        clear ho hf
        go_simp
        refine (put_any _ _ _ _ _).mono ?_; rintro e W1 ⟨v, rfl, ho, hb⟩; exact hK _ _ hb ⟨_, ho⟩
      refine And.intro ?_ ?_
      · intro a W hR hf ho K hK
        replace hR := ext_drew hR
        have F : (fun v w' => ∃ base, w'.ownsRow base 5 1 v (putI z).length (bs (putI z))) (a.tmps[82]?.getD undef) W ∧ a.tmps[80]?.getD undef = _ ∧ True := hf
        obtain ⟨f7, f5, -⟩ := F
        clear ho hf
        obtain ⟨base, f7⟩ := f7; have hcv := conv_own f7; clear f7
        go_simp
        exact hK _ _ (Below.refl _ _) (Eq.refl _)
      refine And.intro ?_ ?_
      · intro a W hR hf ho K hK
        replace hR := ext_drew hR
        have G : a.tmps[9]?.getD undef = _ ∧ True := ho
        obtain ⟨g9, -⟩ := G
        have F : a.tmps[80]?.getD undef = _ ∧ True := hf
        obtain ⟨f5, -⟩ := F
        clear ho hf
        go_simp
        exact hK _ _ (Below.refl _ _) (Eq.refl _)
      refine And.intro ?_ ?_
      · intro a W hR hf ho K hK
        replace hR := ext_drew hR
        have F : a.tmps[84]?.getD undef = _ ∧ a.tmps[80]?.getD undef = _ ∧ True := hf
        obtain ⟨f9, f5, -⟩ := F
        clear ho hf
        have hcv := conv_own (own_ext hob.out ((Ext.alloc (Below.refl _ w5) _).then hR))
        go_simp
        exact hK _ _ (Below.refl _ _) (Eq.refl _)
      refine And.intro ?_ ?_
      · intro a W hR hf ho K hK
        replace hR := ext_drew hR
        have F : a.tmps[83]?.getD undef = _ ∧ a.tmps[85]?.getD undef = _ ∧ a.tmps[80]?.getD undef = _ ∧ True := hf
        obtain ⟨f8, f10, f5, -⟩ := F
        clear ho hf
        go_simp
        exact hK _ _ (Below.refl _ _) (Eq.refl _)
      refine And.intro ?_ ?_
      · intro a W hR hf ho K hK
        replace hR := ext_drew hR
        have F : a.tmps[80]?.getD undef = _ ∧ a.tmps[86]?.getD undef = _ ∧ True := hf
        obtain ⟨f5, f11, -⟩ := F
        clear ho hf
        go_simp
        exact hK _ _ (Below.refl _ _) (Eq.refl _)
      refine And.intro ?_ ?_
      · intro a W hR hf ho K hK
        replace hR := ext_drew hR
        have F : a.tmps[87]?.getD undef = _ ∧ (fun v w' => ∃ base, w'.ownsRow base 5 1 v (putI z).length (bs (putI z))) (a.tmps[82]?.getD undef) W ∧ a.tmps[75]?.getD undef = _ ∧ a.tmps[76]?.getD undef = _ ∧ a.tmps[77]?.getD undef = _ ∧ a.tmps[78]?.getD undef = _ ∧ a.tmps[79]?.getD undef = _ ∧ a.tmps[80]?.getD undef = _ ∧ a.tmps[81]?.getD undef = _ ∧ (fun v w' => ∃ base, w'.ownsRow base 5 1 v (putI z).length (bs (putI z))) (a.tmps[82]?.getD undef) W ∧ a.tmps[83]?.getD undef = _ ∧ a.tmps[84]?.getD undef = _ ∧ a.tmps[85]?.getD undef = _ ∧ a.tmps[86]?.getD undef = _ ∧ a.tmps[87]?.getD undef = _ ∧ True := hf
        obtain ⟨f12, f7, f0, f1, f2, f3, f4, f5, f6, -, f8, f9, f10, f11, -, -⟩ := F
        clear ho hf
        go_simp
        exact hK _ _ (Below.refl _ _) (Eq.refl _)
      exact trivial
    case stab =>
      refine And.intro is_stable ?_
      refine And.intro is_stable ?_
      refine And.intro is_stable ?_
      refine And.intro is_stable ?_
      refine And.intro is_stable ?_
      refine And.intro is_stable ?_
      refine And.intro is_stable ?_
      refine And.intro (fun _ _ _ ⟨_, h⟩ hE => ⟨_, own_ext h hE⟩) ?_
      refine And.intro is_stable ?_
      refine And.intro is_stable ?_
      refine And.intro is_stable ?_
      refine And.intro is_stable ?_
      refine And.intro is_stable ?_
      refine And.intro is_stable ?_
      exact trivial
    case ends =>
      intro vals W hR hall
      replace hR := ext_drew hR
      have e4 : vals 4 = _ := hall 13 (by decide)
      clear hall
      simp only [fill, List.setIfInBounds_toArray, List.set_cons_succ, List.set_cons_zero, e4]
      go_wp2_with fail
      go_ret
      exact ⟨rfl, E5.out.then ((Ext.alloc (Below.refl _ w5) _).then hR)⟩
  · rw [q]
    clear hob hp q n0 n1 hI hr hx hl
    have hI := eqI .zero .zero true (by simp)
    go_wp2_with fail
    go_ret
    exact ⟨rfl, E5.alloc _⟩
set_option maxHeartbeats 4000000 in
theorem back_none (x : Ins) (n : Int) (w : World) (n0 : 0 ≤ n) (n1 : n < 4294967296) (hx : rightI x = false) :
    Calls Try.prog 4 #[.agg #[.int .i64 x.op, .int .i64 x.a, .int .i64 x.b, .int .i64 x.c], .int .u32 n] w fun e w' => e = .returned (.bool true) ∧ Ext w w' := by
  have hr : rightB x.op x.a x.b x.c = false := hx
  have hl : (putL x.op x.a x.b x.c).length = 0 := by have := put_length x; rw [hx] at this; exact this
  go_enter Try.func4, Try.ntmps4
  go_wp2_with fail
  refine (head_any _).mono ?_
  rintro e w1 ⟨rfl, hb1⟩
  obtain ⟨hc1, hf1, hz1⟩ := bcellN hb1 (w.heap.size + 1) (by simp)
  go_wp2_with fail
  refine (put_any _ _ _ _ _).mono ?_
  rintro e w2 ⟨v2, rfl, ho2, hb2⟩
  obtain ⟨hc2, hf2, hz2⟩ := bcellN hb2 (w.heap.size + 1) (by omega)
  obtain ⟨A2, c2, rfl, -, ha2⟩ := Arr.own ho2
  go_wp2_with fail
  refine (right_any _ _ _ _ _).mono ?_
  rintro e w3 ⟨rfl, hb3⟩
  obtain ⟨hc3, hf3, hz3⟩ := bcellN hb3 (w.heap.size + 1) (by omega)
  go_wp2_with fail
  have u4 : w.heap.size < w3.heap.size := by omega
  have hp : ∀ y ∈ [n / 16777216, n / 65536 % 256, n / 256 % 256, n % 256], 0 ≤ y ∧ y < 256 := by
    simp only [List.mem_cons, List.not_mem_nil, or_false, forall_eq_or_imp, forall_eq]
    omega
  have EW : Ext w w3 := (Ext.alloc (Below.refl _ w) _).then (hb1.then (hb2.then hb3))
  clear hb1 hb2 hb3 hc1 hc2 hc3 hf1 hf2 hf3 ha2 ho2
  refine (get_lit _ _ _ _ _ _ (by simp) hp _ rfl).mono ?_
  rintro e w5 ⟨rfl, hb5⟩
  have hob := own_ext (own_lit w3 0 5 1 4 (bs [n / 16777216, n / 65536 % 256, n / 256 % 256, n % 256]) (by simp) (by simp [bs]) (by simp [maxLen])) hb5
  have E5 : Ext w w5 := (Ext.alloc EW _).then hb5
  clear hb5 EW
  rcases get_back hp with ⟨q0, q1, q2⟩ | q
  · generalize getI [n / 16777216, n / 65536 % 256, n / 256 % 256, n % 256] = r at q0 q1 q2 ⊢
    obtain ⟨z, ez⟩ := r
    simp only at q0 q1 q2 ⊢
    subst q0
    rw [← q2] at hob
    have q3 : rightB z.op z.a z.b z.c = true := q1
    clear hp q2 n0 n1 hr hx hl
    have hob := Lib.hid hob
    have E5 := Lib.hid E5
    go_wp2_with fail
    refine wp_region_obl Ext [75, 76, 77, 78, 79, 80, 81, 82, 83, 84, 85, 86, 87, 4] (by kernel_rfl) (fun _ => Below.refl _ _) (fun _ _ _ => Ext.then) (by kernel_rfl) (by kernel_rfl) ?_
    apply ex_is; apply Exists.intro
    apply ex_is; apply Exists.intro
    apply ex_is; apply Exists.intro
    apply ex_is; apply Exists.intro
    apply ex_is; apply Exists.intro
    apply ex_is; apply Exists.intro
    apply ex_is; apply Exists.intro
    refine ex_phi (fun v w' => ∃ base, w'.ownsRow base 5 1 v (putI z).length (bs (putI z))) ?_
    apply ex_is; apply Exists.intro
    apply ex_is; apply Exists.intro
    apply ex_is; apply Exists.intro
    apply ex_is; apply Exists.intro
    apply ex_is; apply Exists.intro
    apply ex_is; apply Exists.intro
    refine ⟨[], ⟨?steps, ?stab, ?ends⟩⟩
    case steps =>
      refine And.intro ?_ ?_
      · intro a W hR hf ho K hK
        replace hR := ext_drew hR
        have G : a.tmps[5]?.getD undef = _ ∧ True := ho
        obtain ⟨g5, -⟩ := G
        clear ho hf
        go_simp
        exact hK _ _ (Below.refl _ _) (Eq.refl _)
      refine And.intro ?_ ?_
      · intro a W hR hf ho K hK
        replace hR := ext_drew hR
        have F : a.tmps[75]?.getD undef = _ ∧ True := hf
        obtain ⟨f0, -⟩ := F
        clear ho hf
        go_simp
        exact hK _ _ (Below.refl _ _) (Eq.refl _)
      refine And.intro ?_ ?_
      · intro a W hR hf ho K hK
        replace hR := ext_drew hR
        have G : a.tmps[10]?.getD undef = _ ∧ True := ho
        obtain ⟨g10, -⟩ := G
        have F : a.tmps[76]?.getD undef = _ ∧ True := hf
        obtain ⟨f1, -⟩ := F
        clear ho hf
        obtain ⟨c0, c1, c2, c3⟩ := lie4 (heap_alloc_new w5 _) hR
        go_simp
        exact hK _ _ (Below.refl _ _) (Eq.refl _)
      refine And.intro ?_ ?_
      · intro a W hR hf ho K hK
        replace hR := ext_drew hR
        have F : a.tmps[77]?.getD undef = _ ∧ a.tmps[76]?.getD undef = _ ∧ a.tmps[76]?.getD undef = _ ∧ True := hf
        obtain ⟨f2, f1, -, -⟩ := F
        clear ho hf
        go_simp
        refine (right_any _ _ _ _ _).mono ?_; rintro e W1 ⟨rfl, hb⟩; exact hK _ _ hb (Eq.refl _)
      refine And.intro ?_ ?_
      · intro a W hR hf ho K hK
        replace hR := ext_drew hR
        have F : a.tmps[76]?.getD undef = _ ∧ a.tmps[78]?.getD undef = _ ∧ True := hf
        obtain ⟨f1, f3, -⟩ := F
        clear ho hf
        go_simp
        exact hK _ _ (Below.refl _ _) (Eq.refl _)
      refine And.intro ?_ ?_
      · intro a W hR hf ho K hK
        replace hR := ext_drew hR
        have F : a.tmps[79]?.getD undef = _ ∧ a.tmps[78]?.getD undef = _ ∧ True := hf
        obtain ⟨f4, f3, -⟩ := F
        clear ho hf
        go_simp
        exact hK _ _ (Below.refl _ _) (Eq.refl _)
      refine And.intro ?_ ?_
      · intro a W hR hf ho K hK
        replace hR := ext_drew hR
        have G : a.tmps[10]?.getD undef = _ ∧ True := ho
        obtain ⟨g10, -⟩ := G
        have F : a.tmps[80]?.getD undef = _ ∧ True := hf
        obtain ⟨f5, -⟩ := F
        clear ho hf
        obtain ⟨c0, c1, c2, c3⟩ := lie4 (heap_alloc_new w5 _) hR
        go_simp
        exact hK _ _ (Below.refl _ _) (Eq.refl _)
      refine And.intro ?_ ?_
      · intro a W hR hf ho K hK
        replace hR := ext_drew hR
        have F : a.tmps[81]?.getD undef = _ ∧ a.tmps[80]?.getD undef = _ ∧ a.tmps[80]?.getD undef = _ ∧ True := hf
        obtain ⟨f6, f5, -, -⟩ := F
        clear ho hf
        go_simp
        refine (put_any _ _ _ _ _).mono ?_; rintro e W1 ⟨v, rfl, ho, hb⟩; exact hK _ _ hb ⟨_, ho⟩
      refine And.intro ?_ ?_
      · intro a W hR hf ho K hK
        replace hR := ext_drew hR
        have F : (fun v w' => ∃ base, w'.ownsRow base 5 1 v (putI z).length (bs (putI z))) (a.tmps[82]?.getD undef) W ∧ a.tmps[80]?.getD undef = _ ∧ True := hf
        obtain ⟨f7, f5, -⟩ := F
        clear ho hf
        obtain ⟨base, f7⟩ := f7; have hcv := conv_own f7; clear f7
        go_simp
        exact hK _ _ (Below.refl _ _) (Eq.refl _)
      refine And.intro ?_ ?_
      · intro a W hR hf ho K hK
        replace hR := ext_drew hR
        have G : a.tmps[9]?.getD undef = _ ∧ True := ho
        obtain ⟨g9, -⟩ := G
        have F : a.tmps[80]?.getD undef = _ ∧ True := hf
        obtain ⟨f5, -⟩ := F
        clear ho hf
        go_simp
        exact hK _ _ (Below.refl _ _) (Eq.refl _)
      refine And.intro ?_ ?_
      · intro a W hR hf ho K hK
        replace hR := ext_drew hR
        have F : a.tmps[84]?.getD undef = _ ∧ a.tmps[80]?.getD undef = _ ∧ True := hf
        obtain ⟨f9, f5, -⟩ := F
        clear ho hf
        have hcv := conv_own (own_ext hob.out ((Ext.alloc (Below.refl _ w5) _).then hR))
        go_simp
        exact hK _ _ (Below.refl _ _) (Eq.refl _)
      refine And.intro ?_ ?_
      · intro a W hR hf ho K hK
        replace hR := ext_drew hR
        have F : a.tmps[83]?.getD undef = _ ∧ a.tmps[85]?.getD undef = _ ∧ a.tmps[80]?.getD undef = _ ∧ True := hf
        obtain ⟨f8, f10, f5, -⟩ := F
        clear ho hf
        go_simp
        exact hK _ _ (Below.refl _ _) (Eq.refl _)
      refine And.intro ?_ ?_
      · intro a W hR hf ho K hK
        replace hR := ext_drew hR
        have F : a.tmps[80]?.getD undef = _ ∧ a.tmps[86]?.getD undef = _ ∧ True := hf
        obtain ⟨f5, f11, -⟩ := F
        clear ho hf
        go_simp
        exact hK _ _ (Below.refl _ _) (Eq.refl _)
      refine And.intro ?_ ?_
      · intro a W hR hf ho K hK
        replace hR := ext_drew hR
        have F : a.tmps[87]?.getD undef = _ ∧ (fun v w' => ∃ base, w'.ownsRow base 5 1 v (putI z).length (bs (putI z))) (a.tmps[82]?.getD undef) W ∧ a.tmps[75]?.getD undef = _ ∧ a.tmps[76]?.getD undef = _ ∧ a.tmps[77]?.getD undef = _ ∧ a.tmps[78]?.getD undef = _ ∧ a.tmps[79]?.getD undef = _ ∧ a.tmps[80]?.getD undef = _ ∧ a.tmps[81]?.getD undef = _ ∧ (fun v w' => ∃ base, w'.ownsRow base 5 1 v (putI z).length (bs (putI z))) (a.tmps[82]?.getD undef) W ∧ a.tmps[83]?.getD undef = _ ∧ a.tmps[84]?.getD undef = _ ∧ a.tmps[85]?.getD undef = _ ∧ a.tmps[86]?.getD undef = _ ∧ a.tmps[87]?.getD undef = _ ∧ True := hf
        obtain ⟨f12, f7, f0, f1, f2, f3, f4, f5, f6, -, f8, f9, f10, f11, -, -⟩ := F
        clear ho hf
        go_simp
        exact hK _ _ (Below.refl _ _) (Eq.refl _)
      exact trivial
    case stab =>
      refine And.intro is_stable ?_
      refine And.intro is_stable ?_
      refine And.intro is_stable ?_
      refine And.intro is_stable ?_
      refine And.intro is_stable ?_
      refine And.intro is_stable ?_
      refine And.intro is_stable ?_
      refine And.intro (fun _ _ _ ⟨_, h⟩ hE => ⟨_, own_ext h hE⟩) ?_
      refine And.intro is_stable ?_
      refine And.intro is_stable ?_
      refine And.intro is_stable ?_
      refine And.intro is_stable ?_
      refine And.intro is_stable ?_
      refine And.intro is_stable ?_
      exact trivial
    case ends =>
      intro vals W hR hall
      replace hR := ext_drew hR
      have e4 : vals 4 = _ := hall 13 (by decide)
      clear hall
      simp only [fill, List.setIfInBounds_toArray, List.set_cons_succ, List.set_cons_zero, e4]
      go_wp2_with fail
      go_ret
      exact ⟨rfl, E5.out.then ((Ext.alloc (Below.refl _ w5) _).then hR)⟩
  · rw [q]
    clear hob hp q n0 n1 hr hx hl
    have hI := eqI .zero .zero true (by simp)
    go_wp2_with fail
    go_ret
    exact ⟨rfl, E5.alloc _⟩
theorem back_any (x : Ins) (n : Int) (w : World) (n0 : 0 ≤ n) (n1 : n < 4294967296) :
    Calls Try.prog 4 #[.agg #[.int .i64 x.op, .int .i64 x.a, .int .i64 x.b, .int .i64 x.c], .int .u32 n] w fun e w' => e = .returned (.bool true) ∧ Ext w w' := by
  cases hx : rightI x with
  | true => exact back_walk x n w n0 n1 hx
  | false => exact back_none x n w n0 n1 hx
end Go.Proofs.Ytdfjpmihjfnebaa


/- Package image: share, link, many. -/
import Derived.Test.YtgfnpcoigooblaaImgA
set_option linter.all false
namespace Go.Proofs.Ytgfnpcoigooblaa
open Go.RowKit

attribute [local go_sem] seen dstOf boolOf
/-- An image's value. -/
abbrev ImgM.val (x : ImgM) : Value := .agg #[.bool x.strict, .int .i64 x.heap, .int .i64 x.full, .slice x.Ac x.comps.length x.cc, .slice x.Al x.links.length x.cl, .slice x.As x.shares.length x.cs]
set_option maxHeartbeats 4000000 in
set_option maxRecDepth 20000 in
theorem share_at (st : Bool) (h f : Int) (Ac Al As : Option Addr) (n cc nl cl ns cs : Nat) (s : ShareM) (w : World) (hn : n = 0 ∨ n = 1 ∨ n = 2 ∨ n = 3 ∨ n = 4) :
    Calls Try.prog 58 #[.agg #[.bool st, .int .i64 h, .int .i64 f, .slice Ac n cc, .slice Al nl cl, .slice As ns cs], .agg #[.int .i64 s.rd, .int .i64 s.wr]] w fun e w' => e = .returned (.bool (shareOk n s)) ∧ Ext w w' := by
  have hsub : (bits .andNot .i64 s.wr s.rd == 0) = subBits s.wr s.rd := by unfold subBits; rw [Bool.eq_iff_iff, beq_iff_eq, decide_eq_true_iff]
  rcases hn with rfl | rfl | rfl | rfl | rfl
  · have hv : shareOk 0 s = (inB s.rd 0 0 && decide (s.wr ≥ 0) && subBits s.wr s.rd) := rfl
    rw [hv]
    clear hv
    go_enter Try.func58, Try.ntmps58
    go_wp2_with fail
    refine wp_region_stage (fun _ _ : World => True) [17] [(fun (_ : Nat → Value) (W : World) => W = ((w.alloc (.cells #[.bool st, .int .i64 h, .int .i64 f, .slice Ac 0 cc, .slice Al nl cl, .slice As ns cs] 26)).alloc (.cells #[.int .i64 s.rd, .int .i64 s.wr] 70)).drew), (fun (_ : Nat → Value) (W : World) => W = (((w.alloc (.cells #[.bool st, .int .i64 h, .int .i64 f, .slice Ac 0 cc, .slice Al nl cl, .slice As ns cs] 26)).alloc (.cells #[.int .i64 s.rd, .int .i64 s.wr] 70)).alloc (.cells #[.bool (inB s.rd 0 0), .bool (decide (s.wr ≥ 0)), .bool (subBits s.wr s.rd)] 4)).drew)] [5, 6, 7, 8, 9, 10, 11, 12, 13, 14, 15, 16, 17, 18, 19, 20, 21, 22, 23, 4] (by kernel_rfl) (fun _ => trivial) (fun _ _ _ _ _ => trivial) (by kernel_rfl) (by kernel_rfl) (by kernel_rfl) ?start ?_
    case start => rfl
    apply ex_is; apply Exists.intro
    apply ex_is; apply Exists.intro
    apply ex_is; apply Exists.intro
    apply ex_is; apply Exists.intro
    apply ex_is; apply Exists.intro
    apply ex_is; apply Exists.intro
    apply ex_is; apply Exists.intro
    apply ex_is; apply Exists.intro
    apply ex_is; apply Exists.intro
    apply ex_is; apply Exists.intro
    apply ex_is; apply Exists.intro
    apply ex_is; apply Exists.intro
    apply ex_is; apply Exists.intro
    apply ex_is; apply Exists.intro
    apply ex_is; apply Exists.intro
    apply ex_is; apply Exists.intro
    apply ex_is; apply Exists.intro
    apply ex_is; apply Exists.intro
    apply ex_is; apply Exists.intro
    apply ex_is; apply Exists.intro
    refine ⟨[], ⟨?steps, ?stab, ?ends⟩⟩
    case steps =>
      refine And.intro (stepC_pure (fun _ => trivial) (by kernel_rfl) ?_) ?_
      · intro act W hR hf ho K hK
        have G : act.tmps[3]?.getD undef = _ ∧ True := ho
        obtain ⟨g3, -⟩ := G
        clear ho hf
        go_simp
        exact hK _ (Eq.refl _)
      refine And.intro (stepC_stay (pss := []) (by kernel_rfl) rfl 0 [] [7, 1] (by kernel_rfl) (by kernel_rfl) ?_) ?_
      · intro act W uu hu hR hS hf ho K hK
        replace hS : (fun (_ : Nat → Value) (W : World) => W = ((w.alloc (.cells #[.bool st, .int .i64 h, .int .i64 f, .slice Ac 0 cc, .slice Al nl cl, .slice As ns cs] 26)).alloc (.cells #[.int .i64 s.rd, .int .i64 s.wr] 70)).drew) uu W := hS
        replace hK := fun (v : Value) (w' : World) (h1 : (fun _ _ : World => True) W w') h2 (h3 : (fun (_ : Nat → Value) (W : World) => W = ((w.alloc (.cells #[.bool st, .int .i64 h, .int .i64 f, .slice Ac 0 cc, .slice Al nl cl, .slice As ns cs] 26)).alloc (.cells #[.int .i64 s.rd, .int .i64 s.wr] 70)).drew) uu w') => hK v w' h1 h2 h3
        have F : act.tmps[5]?.getD undef = _ ∧ True := hf
        obtain ⟨f0, -⟩ := F
        clear hu
        clear ho hf
        obtain rfl := hS
        go_simp
        exact hK _ _ trivial (Eq.refl _) rfl
      refine And.intro (stepC_pure (fun _ => trivial) (by kernel_rfl) ?_) ?_
      · intro act W hR hf ho K hK
        have G : act.tmps[2]?.getD undef = _ ∧ True := ho
        obtain ⟨g2, -⟩ := G
        clear ho hf
        go_simp
        exact hK _ (Eq.refl _)
      refine And.intro (stepC_stay (pss := []) (by kernel_rfl) rfl 0 [] [7, 6, 5, 4, 3] (by kernel_rfl) (by kernel_rfl) ?_) ?_
      · intro act W uu hu hR hS hf ho K hK
        replace hS : (fun (_ : Nat → Value) (W : World) => W = ((w.alloc (.cells #[.bool st, .int .i64 h, .int .i64 f, .slice Ac 0 cc, .slice Al nl cl, .slice As ns cs] 26)).alloc (.cells #[.int .i64 s.rd, .int .i64 s.wr] 70)).drew) uu W := hS
        replace hK := fun (v : Value) (w' : World) (h1 : (fun _ _ : World => True) W w') h2 (h3 : (fun (_ : Nat → Value) (W : World) => W = ((w.alloc (.cells #[.bool st, .int .i64 h, .int .i64 f, .slice Ac 0 cc, .slice Al nl cl, .slice As ns cs] 26)).alloc (.cells #[.int .i64 s.rd, .int .i64 s.wr] 70)).drew) uu w') => hK v w' h1 h2 h3
        have F : act.tmps[7]?.getD undef = _ ∧ True := hf
        obtain ⟨f2, -⟩ := F
        clear hu
        clear ho hf
        obtain rfl := hS
        go_simp
        exact hK _ _ trivial (Eq.refl _) rfl
      refine And.intro (stepC_stay (pss := []) (by kernel_rfl) rfl 0 [] [7, 6, 5, 4] (by kernel_rfl) (by kernel_rfl) ?_) ?_
      · intro act W uu hu hR hS hf ho K hK
        replace hS : (fun (_ : Nat → Value) (W : World) => W = ((w.alloc (.cells #[.bool st, .int .i64 h, .int .i64 f, .slice Ac 0 cc, .slice Al nl cl, .slice As ns cs] 26)).alloc (.cells #[.int .i64 s.rd, .int .i64 s.wr] 70)).drew) uu W := hS
        replace hK := fun (v : Value) (w' : World) (h1 : (fun _ _ : World => True) W w') h2 (h3 : (fun (_ : Nat → Value) (W : World) => W = ((w.alloc (.cells #[.bool st, .int .i64 h, .int .i64 f, .slice Ac 0 cc, .slice Al nl cl, .slice As ns cs] 26)).alloc (.cells #[.int .i64 s.rd, .int .i64 s.wr] 70)).drew) uu w') => hK v w' h1 h2 h3
        have F : act.tmps[8]?.getD undef = _ ∧ True := hf
        obtain ⟨f3, -⟩ := F
        clear hu
        clear ho hf
        obtain rfl := hS
        go_simp
        exact hK _ _ trivial (Eq.refl _) rfl
      refine And.intro (stepC_pure (fun _ => trivial) (by kernel_rfl) ?_) ?_
      · intro act W hR hf ho K hK
        have F : act.tmps[9]?.getD undef = _ ∧ True := hf
        obtain ⟨f4, -⟩ := F
        clear ho hf
        go_simp
        exact hK _ (Eq.refl _)
      refine And.intro (stepC_pure (fun _ => trivial) (by kernel_rfl) ?_) ?_
      · intro act W hR hf ho K hK
        have F : act.tmps[10]?.getD undef = _ ∧ True := hf
        obtain ⟨f5, -⟩ := F
        clear ho hf
        go_simp
        exact hK _ (Eq.refl _)
      refine And.intro (stepC_stay (pss := []) (by kernel_rfl) rfl 0 [] [7] (by kernel_rfl) (by kernel_rfl) ?_) ?_
      · intro act W uu hu hR hS hf ho K hK
        replace hS : (fun (_ : Nat → Value) (W : World) => W = ((w.alloc (.cells #[.bool st, .int .i64 h, .int .i64 f, .slice Ac 0 cc, .slice Al nl cl, .slice As ns cs] 26)).alloc (.cells #[.int .i64 s.rd, .int .i64 s.wr] 70)).drew) uu W := hS
        replace hK := fun (v : Value) (w' : World) (h1 : (fun _ _ : World => True) W w') h2 (h3 : (fun (_ : Nat → Value) (W : World) => W = ((w.alloc (.cells #[.bool st, .int .i64 h, .int .i64 f, .slice Ac 0 cc, .slice Al nl cl, .slice As ns cs] 26)).alloc (.cells #[.int .i64 s.rd, .int .i64 s.wr] 70)).drew) uu w') => hK v w' h1 h2 h3
        have F : act.tmps[6]?.getD undef = _ ∧ act.tmps[11]?.getD undef = _ ∧ True := hf
        obtain ⟨f1, f6, -⟩ := F
        clear hu
        clear ho hf
        go_simp
        refine (within_any _ _ _ _).mono ?_; subst hS; rintro e W1 ⟨rfl, rfl⟩; exact hK _ _ trivial (Eq.refl _) rfl
      refine And.intro (stepC_pure (fun _ => trivial) (by kernel_rfl) ?_) ?_
      · intro act W hR hf ho K hK
        have G : act.tmps[3]?.getD undef = _ ∧ True := ho
        obtain ⟨g3, -⟩ := G
        clear ho hf
        go_simp
        exact hK _ (Eq.refl _)
      refine And.intro (stepC_stay (pss := []) (by kernel_rfl) rfl 0 [] [10, 9] (by kernel_rfl) (by kernel_rfl) ?_) ?_
      · intro act W uu hu hR hS hf ho K hK
        replace hS : (fun (_ : Nat → Value) (W : World) => W = ((w.alloc (.cells #[.bool st, .int .i64 h, .int .i64 f, .slice Ac 0 cc, .slice Al nl cl, .slice As ns cs] 26)).alloc (.cells #[.int .i64 s.rd, .int .i64 s.wr] 70)).drew) uu W := hS
        replace hK := fun (v : Value) (w' : World) (h1 : (fun _ _ : World => True) W w') h2 (h3 : (fun (_ : Nat → Value) (W : World) => W = ((w.alloc (.cells #[.bool st, .int .i64 h, .int .i64 f, .slice Ac 0 cc, .slice Al nl cl, .slice As ns cs] 26)).alloc (.cells #[.int .i64 s.rd, .int .i64 s.wr] 70)).drew) uu w') => hK v w' h1 h2 h3
        have F : act.tmps[13]?.getD undef = _ ∧ True := hf
        obtain ⟨f8, -⟩ := F
        clear hu
        clear ho hf
        obtain rfl := hS
        go_simp
        exact hK _ _ trivial (Eq.refl _) rfl
      refine And.intro (stepC_pure (fun _ => trivial) (by kernel_rfl) ?_) ?_
      · intro act W hR hf ho K hK
        have F : act.tmps[14]?.getD undef = _ ∧ True := hf
        obtain ⟨f9, -⟩ := F
        clear ho hf
        go_simp
        exact hK _ (Eq.refl _)
      refine And.intro (stepC_pure (fun _ => trivial) (by kernel_rfl) ?_) ?_
      · intro act W hR hf ho K hK
        have G : act.tmps[3]?.getD undef = _ ∧ True := ho
        obtain ⟨g3, -⟩ := G
        clear ho hf
        go_simp
        exact hK _ (Eq.refl _)
      refine And.intro (stepC_stay (pss := []) (by kernel_rfl) rfl 0 [] [16, 15, 12] (by kernel_rfl) (by kernel_rfl) ?_) ?_
      · intro act W uu hu hR hS hf ho K hK
        replace hS : (fun (_ : Nat → Value) (W : World) => W = ((w.alloc (.cells #[.bool st, .int .i64 h, .int .i64 f, .slice Ac 0 cc, .slice Al nl cl, .slice As ns cs] 26)).alloc (.cells #[.int .i64 s.rd, .int .i64 s.wr] 70)).drew) uu W := hS
        replace hK := fun (v : Value) (w' : World) (h1 : (fun _ _ : World => True) W w') h2 (h3 : (fun (_ : Nat → Value) (W : World) => W = ((w.alloc (.cells #[.bool st, .int .i64 h, .int .i64 f, .slice Ac 0 cc, .slice Al nl cl, .slice As ns cs] 26)).alloc (.cells #[.int .i64 s.rd, .int .i64 s.wr] 70)).drew) uu w') => hK v w' h1 h2 h3
        have F : act.tmps[16]?.getD undef = _ ∧ True := hf
        obtain ⟨f11, -⟩ := F
        clear hu
        clear ho hf
        obtain rfl := hS
        go_simp
        exact hK _ _ trivial (Eq.refl _) rfl
      refine And.intro (stepC_pure (fun _ => trivial) (by kernel_rfl) ?_) ?_
      · intro act W hR hf ho K hK
        have G : act.tmps[3]?.getD undef = _ ∧ True := ho
        obtain ⟨g3, -⟩ := G
        clear ho hf
        go_simp
        exact hK _ (Eq.refl _)
      refine And.intro (stepC_stay (pss := []) (by kernel_rfl) rfl 0 [] [16, 15, 14] (by kernel_rfl) (by kernel_rfl) ?_) ?_
      · intro act W uu hu hR hS hf ho K hK
        replace hS : (fun (_ : Nat → Value) (W : World) => W = ((w.alloc (.cells #[.bool st, .int .i64 h, .int .i64 f, .slice Ac 0 cc, .slice Al nl cl, .slice As ns cs] 26)).alloc (.cells #[.int .i64 s.rd, .int .i64 s.wr] 70)).drew) uu W := hS
        replace hK := fun (v : Value) (w' : World) (h1 : (fun _ _ : World => True) W w') h2 (h3 : (fun (_ : Nat → Value) (W : World) => W = ((w.alloc (.cells #[.bool st, .int .i64 h, .int .i64 f, .slice Ac 0 cc, .slice Al nl cl, .slice As ns cs] 26)).alloc (.cells #[.int .i64 s.rd, .int .i64 s.wr] 70)).drew) uu w') => hK v w' h1 h2 h3
        have F : act.tmps[18]?.getD undef = _ ∧ True := hf
        obtain ⟨f13, -⟩ := F
        clear hu
        clear ho hf
        obtain rfl := hS
        go_simp
        exact hK _ _ trivial (Eq.refl _) rfl
      refine And.intro (stepC_pure (fun _ => trivial) (by kernel_rfl) ?_) ?_
      · intro act W hR hf ho K hK
        have F : act.tmps[17]?.getD undef = _ ∧ act.tmps[19]?.getD undef = _ ∧ True := hf
        obtain ⟨f12, f14, -⟩ := F
        clear ho hf
        go_simp
        exact hK _ (Eq.refl _)
      refine And.intro (stepC_pure (fun _ => trivial) (by kernel_rfl) ?_) ?_
      · intro act W hR hf ho K hK
        have F : act.tmps[20]?.getD undef = _ ∧ True := hf
        obtain ⟨f15, -⟩ := F
        clear ho hf
        go_simp
        exact hK _ (Eq.refl _)
      refine And.intro (stepC_mark (pss := []) (by kernel_rfl) (by decide) rfl 0 [] (by kernel_rfl) rfl ?_) ?_
      · intro act W uu hu hR hS hf ho K hK
        replace hS : (fun (_ : Nat → Value) (W : World) => W = ((w.alloc (.cells #[.bool st, .int .i64 h, .int .i64 f, .slice Ac 0 cc, .slice Al nl cl, .slice As ns cs] 26)).alloc (.cells #[.int .i64 s.rd, .int .i64 s.wr] 70)).drew) uu W := hS
        replace hK := fun (v : Value) (w' : World) (h1 : (fun _ _ : World => True) W w') h2 (h3 : (fun (_ : Nat → Value) (W : World) => W = (((w.alloc (.cells #[.bool st, .int .i64 h, .int .i64 f, .slice Ac 0 cc, .slice Al nl cl, .slice As ns cs] 26)).alloc (.cells #[.int .i64 s.rd, .int .i64 s.wr] 70)).alloc (.cells #[.bool (inB s.rd 0 0), .bool (decide (s.wr ≥ 0)), .bool (subBits s.wr s.rd)] 4)).drew) (upd uu 17 v) w') => hK v w' h1 h2 h3
        have F : act.tmps[12]?.getD undef = _ ∧ act.tmps[15]?.getD undef = _ ∧ act.tmps[21]?.getD undef = _ ∧ True := hf
        obtain ⟨f7, f10, f16, -⟩ := F
        clear hu
        clear ho hf
        go_simp
        subst hS; exact hK _ _ trivial (Eq.refl _) rfl
      refine And.intro (stepC_stay (pss := []) (by kernel_rfl) rfl 1 [17] [] (by kernel_rfl) (by kernel_rfl) ?_) ?_
      · intro act W uu hu hR hS hf ho K hK
        replace hS : (fun (_ : Nat → Value) (W : World) => W = (((w.alloc (.cells #[.bool st, .int .i64 h, .int .i64 f, .slice Ac 0 cc, .slice Al nl cl, .slice As ns cs] 26)).alloc (.cells #[.int .i64 s.rd, .int .i64 s.wr] 70)).alloc (.cells #[.bool (inB s.rd 0 0), .bool (decide (s.wr ≥ 0)), .bool (subBits s.wr s.rd)] 4)).drew) uu W := hS
        replace hK := fun (v : Value) (w' : World) (h1 : (fun _ _ : World => True) W w') h2 (h3 : (fun (_ : Nat → Value) (W : World) => W = (((w.alloc (.cells #[.bool st, .int .i64 h, .int .i64 f, .slice Ac 0 cc, .slice Al nl cl, .slice As ns cs] 26)).alloc (.cells #[.int .i64 s.rd, .int .i64 s.wr] 70)).alloc (.cells #[.bool (inB s.rd 0 0), .bool (decide (s.wr ≥ 0)), .bool (subBits s.wr s.rd)] 4)).drew) uu w') => hK v w' h1 h2 h3
        have F : act.tmps[22]?.getD undef = _ ∧ act.tmps[12]?.getD undef = _ ∧ True := hf
        obtain ⟨f17, f7, -⟩ := F
        clear hu
        clear ho hf
        go_simp
        subst hS; refine (must3 _ _ _ _ _ (new_at (w := ((w.alloc (.cells #[.bool st, .int .i64 h, .int .i64 f, .slice Ac 0 cc, .slice Al nl cl, .slice As ns cs] 26)).alloc (.cells #[.int .i64 s.rd, .int .i64 s.wr] 70))) (by simp) (by repeat first | (with_reducible exact Below.refl _ _) | (with_reducible apply Ext.alloc) | (with_reducible apply Ext.drew) | (with_reducible apply Ext.drewN) | (with_reducible refine Ext.set ?_ (by simp))))).mono ?_; rintro e W1 ⟨rfl, rfl⟩; exact hK _ _ trivial (Eq.refl _) rfl
      refine And.intro (stepC_pure (fun _ => trivial) (by kernel_rfl) ?_) ?_
      · intro act W hR hf ho K hK
        have F : act.tmps[23]?.getD undef = _ ∧ act.tmps[23]?.getD undef = _ ∧ act.tmps[5]?.getD undef = _ ∧ act.tmps[6]?.getD undef = _ ∧ act.tmps[7]?.getD undef = _ ∧ act.tmps[8]?.getD undef = _ ∧ act.tmps[9]?.getD undef = _ ∧ act.tmps[10]?.getD undef = _ ∧ act.tmps[11]?.getD undef = _ ∧ act.tmps[12]?.getD undef = _ ∧ act.tmps[13]?.getD undef = _ ∧ act.tmps[14]?.getD undef = _ ∧ act.tmps[15]?.getD undef = _ ∧ act.tmps[16]?.getD undef = _ ∧ act.tmps[17]?.getD undef = _ ∧ act.tmps[18]?.getD undef = _ ∧ act.tmps[19]?.getD undef = _ ∧ act.tmps[20]?.getD undef = _ ∧ act.tmps[21]?.getD undef = _ ∧ act.tmps[22]?.getD undef = _ ∧ act.tmps[23]?.getD undef = _ ∧ True := hf
        obtain ⟨f18, -, f0, f1, f2, f3, f4, f5, f6, f7, f8, f9, f10, f11, f12, f13, f14, f15, f16, f17, -, -⟩ := F
        clear ho hf
        go_simp
        exact hK _ (Eq.refl _)
      exact trivial
    case stab =>
      refine And.intro is_stable ?_
      refine And.intro is_stable ?_
      refine And.intro is_stable ?_
      refine And.intro is_stable ?_
      refine And.intro is_stable ?_
      refine And.intro is_stable ?_
      refine And.intro is_stable ?_
      refine And.intro is_stable ?_
      refine And.intro is_stable ?_
      refine And.intro is_stable ?_
      refine And.intro is_stable ?_
      refine And.intro is_stable ?_
      refine And.intro is_stable ?_
      refine And.intro is_stable ?_
      refine And.intro is_stable ?_
      refine And.intro is_stable ?_
      refine And.intro is_stable ?_
      refine And.intro is_stable ?_
      refine And.intro is_stable ?_
      refine And.intro is_stable ?_
      exact trivial
    case ends =>
      intro vals W uu hu hR hS hall
      replace hS : (fun (_ : Nat → Value) (W : World) => W = (((w.alloc (.cells #[.bool st, .int .i64 h, .int .i64 f, .slice Ac 0 cc, .slice Al nl cl, .slice As ns cs] 26)).alloc (.cells #[.int .i64 s.rd, .int .i64 s.wr] 70)).alloc (.cells #[.bool (inB s.rd 0 0), .bool (decide (s.wr ≥ 0)), .bool (subBits s.wr s.rd)] 4)).drew) uu W := hS
      clear hu
      have e4 : vals 4 = _ := hall 19 (by decide)
      clear hall
      simp only [fill, List.setIfInBounds_toArray, List.set_cons_succ, List.set_cons_zero, e4]
      obtain rfl := hS
      go_wp2_with fail
      go_ret
      exact ⟨rfl, (by repeat first | (with_reducible exact Below.refl _ _) | (with_reducible apply Ext.alloc) | (with_reducible apply Ext.drew) | (with_reducible apply Ext.drewN) | (with_reducible refine Ext.set ?_ (by simp)))⟩
  · have hv : shareOk 1 s = (inB s.rd 0 1 && decide (s.wr ≥ 0) && subBits s.wr s.rd) := rfl
    rw [hv]
    clear hv
    go_enter Try.func58, Try.ntmps58
    go_wp2_with fail
    refine wp_region_stage (fun _ _ : World => True) [17] [(fun (_ : Nat → Value) (W : World) => W = ((w.alloc (.cells #[.bool st, .int .i64 h, .int .i64 f, .slice Ac 1 cc, .slice Al nl cl, .slice As ns cs] 26)).alloc (.cells #[.int .i64 s.rd, .int .i64 s.wr] 70)).drew), (fun (_ : Nat → Value) (W : World) => W = (((w.alloc (.cells #[.bool st, .int .i64 h, .int .i64 f, .slice Ac 1 cc, .slice Al nl cl, .slice As ns cs] 26)).alloc (.cells #[.int .i64 s.rd, .int .i64 s.wr] 70)).alloc (.cells #[.bool (inB s.rd 0 1), .bool (decide (s.wr ≥ 0)), .bool (subBits s.wr s.rd)] 4)).drew)] [5, 6, 7, 8, 9, 10, 11, 12, 13, 14, 15, 16, 17, 18, 19, 20, 21, 22, 23, 4] (by kernel_rfl) (fun _ => trivial) (fun _ _ _ _ _ => trivial) (by kernel_rfl) (by kernel_rfl) (by kernel_rfl) ?start ?_
    case start => rfl
    apply ex_is; apply Exists.intro
    apply ex_is; apply Exists.intro
    apply ex_is; apply Exists.intro
    apply ex_is; apply Exists.intro
    apply ex_is; apply Exists.intro
    apply ex_is; apply Exists.intro
    apply ex_is; apply Exists.intro
    apply ex_is; apply Exists.intro
    apply ex_is; apply Exists.intro
    apply ex_is; apply Exists.intro
    apply ex_is; apply Exists.intro
    apply ex_is; apply Exists.intro
    apply ex_is; apply Exists.intro
    apply ex_is; apply Exists.intro
    apply ex_is; apply Exists.intro
    apply ex_is; apply Exists.intro
    apply ex_is; apply Exists.intro
    apply ex_is; apply Exists.intro
    apply ex_is; apply Exists.intro
    apply ex_is; apply Exists.intro
    refine ⟨[], ⟨?steps, ?stab, ?ends⟩⟩
    case steps =>
      refine And.intro (stepC_pure (fun _ => trivial) (by kernel_rfl) ?_) ?_
      · intro act W hR hf ho K hK
        have G : act.tmps[3]?.getD undef = _ ∧ True := ho
        obtain ⟨g3, -⟩ := G
        clear ho hf
        go_simp
        exact hK _ (Eq.refl _)
      refine And.intro (stepC_stay (pss := []) (by kernel_rfl) rfl 0 [] [7, 1] (by kernel_rfl) (by kernel_rfl) ?_) ?_
      · intro act W uu hu hR hS hf ho K hK
        replace hS : (fun (_ : Nat → Value) (W : World) => W = ((w.alloc (.cells #[.bool st, .int .i64 h, .int .i64 f, .slice Ac 1 cc, .slice Al nl cl, .slice As ns cs] 26)).alloc (.cells #[.int .i64 s.rd, .int .i64 s.wr] 70)).drew) uu W := hS
        replace hK := fun (v : Value) (w' : World) (h1 : (fun _ _ : World => True) W w') h2 (h3 : (fun (_ : Nat → Value) (W : World) => W = ((w.alloc (.cells #[.bool st, .int .i64 h, .int .i64 f, .slice Ac 1 cc, .slice Al nl cl, .slice As ns cs] 26)).alloc (.cells #[.int .i64 s.rd, .int .i64 s.wr] 70)).drew) uu w') => hK v w' h1 h2 h3
        have F : act.tmps[5]?.getD undef = _ ∧ True := hf
        obtain ⟨f0, -⟩ := F
        clear hu
        clear ho hf
        obtain rfl := hS
        go_simp
        exact hK _ _ trivial (Eq.refl _) rfl
      refine And.intro (stepC_pure (fun _ => trivial) (by kernel_rfl) ?_) ?_
      · intro act W hR hf ho K hK
        have G : act.tmps[2]?.getD undef = _ ∧ True := ho
        obtain ⟨g2, -⟩ := G
        clear ho hf
        go_simp
        exact hK _ (Eq.refl _)
      refine And.intro (stepC_stay (pss := []) (by kernel_rfl) rfl 0 [] [7, 6, 5, 4, 3] (by kernel_rfl) (by kernel_rfl) ?_) ?_
      · intro act W uu hu hR hS hf ho K hK
        replace hS : (fun (_ : Nat → Value) (W : World) => W = ((w.alloc (.cells #[.bool st, .int .i64 h, .int .i64 f, .slice Ac 1 cc, .slice Al nl cl, .slice As ns cs] 26)).alloc (.cells #[.int .i64 s.rd, .int .i64 s.wr] 70)).drew) uu W := hS
        replace hK := fun (v : Value) (w' : World) (h1 : (fun _ _ : World => True) W w') h2 (h3 : (fun (_ : Nat → Value) (W : World) => W = ((w.alloc (.cells #[.bool st, .int .i64 h, .int .i64 f, .slice Ac 1 cc, .slice Al nl cl, .slice As ns cs] 26)).alloc (.cells #[.int .i64 s.rd, .int .i64 s.wr] 70)).drew) uu w') => hK v w' h1 h2 h3
        have F : act.tmps[7]?.getD undef = _ ∧ True := hf
        obtain ⟨f2, -⟩ := F
        clear hu
        clear ho hf
        obtain rfl := hS
        go_simp
        exact hK _ _ trivial (Eq.refl _) rfl
      refine And.intro (stepC_stay (pss := []) (by kernel_rfl) rfl 0 [] [7, 6, 5, 4] (by kernel_rfl) (by kernel_rfl) ?_) ?_
      · intro act W uu hu hR hS hf ho K hK
        replace hS : (fun (_ : Nat → Value) (W : World) => W = ((w.alloc (.cells #[.bool st, .int .i64 h, .int .i64 f, .slice Ac 1 cc, .slice Al nl cl, .slice As ns cs] 26)).alloc (.cells #[.int .i64 s.rd, .int .i64 s.wr] 70)).drew) uu W := hS
        replace hK := fun (v : Value) (w' : World) (h1 : (fun _ _ : World => True) W w') h2 (h3 : (fun (_ : Nat → Value) (W : World) => W = ((w.alloc (.cells #[.bool st, .int .i64 h, .int .i64 f, .slice Ac 1 cc, .slice Al nl cl, .slice As ns cs] 26)).alloc (.cells #[.int .i64 s.rd, .int .i64 s.wr] 70)).drew) uu w') => hK v w' h1 h2 h3
        have F : act.tmps[8]?.getD undef = _ ∧ True := hf
        obtain ⟨f3, -⟩ := F
        clear hu
        clear ho hf
        obtain rfl := hS
        go_simp
        exact hK _ _ trivial (Eq.refl _) rfl
      refine And.intro (stepC_pure (fun _ => trivial) (by kernel_rfl) ?_) ?_
      · intro act W hR hf ho K hK
        have F : act.tmps[9]?.getD undef = _ ∧ True := hf
        obtain ⟨f4, -⟩ := F
        clear ho hf
        go_simp
        exact hK _ (Eq.refl _)
      refine And.intro (stepC_pure (fun _ => trivial) (by kernel_rfl) ?_) ?_
      · intro act W hR hf ho K hK
        have F : act.tmps[10]?.getD undef = _ ∧ True := hf
        obtain ⟨f5, -⟩ := F
        clear ho hf
        go_simp
        exact hK _ (Eq.refl _)
      refine And.intro (stepC_stay (pss := []) (by kernel_rfl) rfl 0 [] [7] (by kernel_rfl) (by kernel_rfl) ?_) ?_
      · intro act W uu hu hR hS hf ho K hK
        replace hS : (fun (_ : Nat → Value) (W : World) => W = ((w.alloc (.cells #[.bool st, .int .i64 h, .int .i64 f, .slice Ac 1 cc, .slice Al nl cl, .slice As ns cs] 26)).alloc (.cells #[.int .i64 s.rd, .int .i64 s.wr] 70)).drew) uu W := hS
        replace hK := fun (v : Value) (w' : World) (h1 : (fun _ _ : World => True) W w') h2 (h3 : (fun (_ : Nat → Value) (W : World) => W = ((w.alloc (.cells #[.bool st, .int .i64 h, .int .i64 f, .slice Ac 1 cc, .slice Al nl cl, .slice As ns cs] 26)).alloc (.cells #[.int .i64 s.rd, .int .i64 s.wr] 70)).drew) uu w') => hK v w' h1 h2 h3
        have F : act.tmps[6]?.getD undef = _ ∧ act.tmps[11]?.getD undef = _ ∧ True := hf
        obtain ⟨f1, f6, -⟩ := F
        clear hu
        clear ho hf
        go_simp
        refine (within_any _ _ _ _).mono ?_; subst hS; rintro e W1 ⟨rfl, rfl⟩; exact hK _ _ trivial (Eq.refl _) rfl
      refine And.intro (stepC_pure (fun _ => trivial) (by kernel_rfl) ?_) ?_
      · intro act W hR hf ho K hK
        have G : act.tmps[3]?.getD undef = _ ∧ True := ho
        obtain ⟨g3, -⟩ := G
        clear ho hf
        go_simp
        exact hK _ (Eq.refl _)
      refine And.intro (stepC_stay (pss := []) (by kernel_rfl) rfl 0 [] [10, 9] (by kernel_rfl) (by kernel_rfl) ?_) ?_
      · intro act W uu hu hR hS hf ho K hK
        replace hS : (fun (_ : Nat → Value) (W : World) => W = ((w.alloc (.cells #[.bool st, .int .i64 h, .int .i64 f, .slice Ac 1 cc, .slice Al nl cl, .slice As ns cs] 26)).alloc (.cells #[.int .i64 s.rd, .int .i64 s.wr] 70)).drew) uu W := hS
        replace hK := fun (v : Value) (w' : World) (h1 : (fun _ _ : World => True) W w') h2 (h3 : (fun (_ : Nat → Value) (W : World) => W = ((w.alloc (.cells #[.bool st, .int .i64 h, .int .i64 f, .slice Ac 1 cc, .slice Al nl cl, .slice As ns cs] 26)).alloc (.cells #[.int .i64 s.rd, .int .i64 s.wr] 70)).drew) uu w') => hK v w' h1 h2 h3
        have F : act.tmps[13]?.getD undef = _ ∧ True := hf
        obtain ⟨f8, -⟩ := F
        clear hu
        clear ho hf
        obtain rfl := hS
        go_simp
        exact hK _ _ trivial (Eq.refl _) rfl
      refine And.intro (stepC_pure (fun _ => trivial) (by kernel_rfl) ?_) ?_
      · intro act W hR hf ho K hK
        have F : act.tmps[14]?.getD undef = _ ∧ True := hf
        obtain ⟨f9, -⟩ := F
        clear ho hf
        go_simp
        exact hK _ (Eq.refl _)
      refine And.intro (stepC_pure (fun _ => trivial) (by kernel_rfl) ?_) ?_
      · intro act W hR hf ho K hK
        have G : act.tmps[3]?.getD undef = _ ∧ True := ho
        obtain ⟨g3, -⟩ := G
        clear ho hf
        go_simp
        exact hK _ (Eq.refl _)
      refine And.intro (stepC_stay (pss := []) (by kernel_rfl) rfl 0 [] [16, 15, 12] (by kernel_rfl) (by kernel_rfl) ?_) ?_
      · intro act W uu hu hR hS hf ho K hK
        replace hS : (fun (_ : Nat → Value) (W : World) => W = ((w.alloc (.cells #[.bool st, .int .i64 h, .int .i64 f, .slice Ac 1 cc, .slice Al nl cl, .slice As ns cs] 26)).alloc (.cells #[.int .i64 s.rd, .int .i64 s.wr] 70)).drew) uu W := hS
        replace hK := fun (v : Value) (w' : World) (h1 : (fun _ _ : World => True) W w') h2 (h3 : (fun (_ : Nat → Value) (W : World) => W = ((w.alloc (.cells #[.bool st, .int .i64 h, .int .i64 f, .slice Ac 1 cc, .slice Al nl cl, .slice As ns cs] 26)).alloc (.cells #[.int .i64 s.rd, .int .i64 s.wr] 70)).drew) uu w') => hK v w' h1 h2 h3
        have F : act.tmps[16]?.getD undef = _ ∧ True := hf
        obtain ⟨f11, -⟩ := F
        clear hu
        clear ho hf
        obtain rfl := hS
        go_simp
        exact hK _ _ trivial (Eq.refl _) rfl
      refine And.intro (stepC_pure (fun _ => trivial) (by kernel_rfl) ?_) ?_
      · intro act W hR hf ho K hK
        have G : act.tmps[3]?.getD undef = _ ∧ True := ho
        obtain ⟨g3, -⟩ := G
        clear ho hf
        go_simp
        exact hK _ (Eq.refl _)
      refine And.intro (stepC_stay (pss := []) (by kernel_rfl) rfl 0 [] [16, 15, 14] (by kernel_rfl) (by kernel_rfl) ?_) ?_
      · intro act W uu hu hR hS hf ho K hK
        replace hS : (fun (_ : Nat → Value) (W : World) => W = ((w.alloc (.cells #[.bool st, .int .i64 h, .int .i64 f, .slice Ac 1 cc, .slice Al nl cl, .slice As ns cs] 26)).alloc (.cells #[.int .i64 s.rd, .int .i64 s.wr] 70)).drew) uu W := hS
        replace hK := fun (v : Value) (w' : World) (h1 : (fun _ _ : World => True) W w') h2 (h3 : (fun (_ : Nat → Value) (W : World) => W = ((w.alloc (.cells #[.bool st, .int .i64 h, .int .i64 f, .slice Ac 1 cc, .slice Al nl cl, .slice As ns cs] 26)).alloc (.cells #[.int .i64 s.rd, .int .i64 s.wr] 70)).drew) uu w') => hK v w' h1 h2 h3
        have F : act.tmps[18]?.getD undef = _ ∧ True := hf
        obtain ⟨f13, -⟩ := F
        clear hu
        clear ho hf
        obtain rfl := hS
        go_simp
        exact hK _ _ trivial (Eq.refl _) rfl
      refine And.intro (stepC_pure (fun _ => trivial) (by kernel_rfl) ?_) ?_
      · intro act W hR hf ho K hK
        have F : act.tmps[17]?.getD undef = _ ∧ act.tmps[19]?.getD undef = _ ∧ True := hf
        obtain ⟨f12, f14, -⟩ := F
        clear ho hf
        go_simp
        exact hK _ (Eq.refl _)
      refine And.intro (stepC_pure (fun _ => trivial) (by kernel_rfl) ?_) ?_
      · intro act W hR hf ho K hK
        have F : act.tmps[20]?.getD undef = _ ∧ True := hf
        obtain ⟨f15, -⟩ := F
        clear ho hf
        go_simp
        exact hK _ (Eq.refl _)
      refine And.intro (stepC_mark (pss := []) (by kernel_rfl) (by decide) rfl 0 [] (by kernel_rfl) rfl ?_) ?_
      · intro act W uu hu hR hS hf ho K hK
        replace hS : (fun (_ : Nat → Value) (W : World) => W = ((w.alloc (.cells #[.bool st, .int .i64 h, .int .i64 f, .slice Ac 1 cc, .slice Al nl cl, .slice As ns cs] 26)).alloc (.cells #[.int .i64 s.rd, .int .i64 s.wr] 70)).drew) uu W := hS
        replace hK := fun (v : Value) (w' : World) (h1 : (fun _ _ : World => True) W w') h2 (h3 : (fun (_ : Nat → Value) (W : World) => W = (((w.alloc (.cells #[.bool st, .int .i64 h, .int .i64 f, .slice Ac 1 cc, .slice Al nl cl, .slice As ns cs] 26)).alloc (.cells #[.int .i64 s.rd, .int .i64 s.wr] 70)).alloc (.cells #[.bool (inB s.rd 0 1), .bool (decide (s.wr ≥ 0)), .bool (subBits s.wr s.rd)] 4)).drew) (upd uu 17 v) w') => hK v w' h1 h2 h3
        have F : act.tmps[12]?.getD undef = _ ∧ act.tmps[15]?.getD undef = _ ∧ act.tmps[21]?.getD undef = _ ∧ True := hf
        obtain ⟨f7, f10, f16, -⟩ := F
        clear hu
        clear ho hf
        go_simp
        subst hS; exact hK _ _ trivial (Eq.refl _) rfl
      refine And.intro (stepC_stay (pss := []) (by kernel_rfl) rfl 1 [17] [] (by kernel_rfl) (by kernel_rfl) ?_) ?_
      · intro act W uu hu hR hS hf ho K hK
        replace hS : (fun (_ : Nat → Value) (W : World) => W = (((w.alloc (.cells #[.bool st, .int .i64 h, .int .i64 f, .slice Ac 1 cc, .slice Al nl cl, .slice As ns cs] 26)).alloc (.cells #[.int .i64 s.rd, .int .i64 s.wr] 70)).alloc (.cells #[.bool (inB s.rd 0 1), .bool (decide (s.wr ≥ 0)), .bool (subBits s.wr s.rd)] 4)).drew) uu W := hS
        replace hK := fun (v : Value) (w' : World) (h1 : (fun _ _ : World => True) W w') h2 (h3 : (fun (_ : Nat → Value) (W : World) => W = (((w.alloc (.cells #[.bool st, .int .i64 h, .int .i64 f, .slice Ac 1 cc, .slice Al nl cl, .slice As ns cs] 26)).alloc (.cells #[.int .i64 s.rd, .int .i64 s.wr] 70)).alloc (.cells #[.bool (inB s.rd 0 1), .bool (decide (s.wr ≥ 0)), .bool (subBits s.wr s.rd)] 4)).drew) uu w') => hK v w' h1 h2 h3
        have F : act.tmps[22]?.getD undef = _ ∧ act.tmps[12]?.getD undef = _ ∧ True := hf
        obtain ⟨f17, f7, -⟩ := F
        clear hu
        clear ho hf
        go_simp
        subst hS; refine (must3 _ _ _ _ _ (new_at (w := ((w.alloc (.cells #[.bool st, .int .i64 h, .int .i64 f, .slice Ac 1 cc, .slice Al nl cl, .slice As ns cs] 26)).alloc (.cells #[.int .i64 s.rd, .int .i64 s.wr] 70))) (by simp) (by repeat first | (with_reducible exact Below.refl _ _) | (with_reducible apply Ext.alloc) | (with_reducible apply Ext.drew) | (with_reducible apply Ext.drewN) | (with_reducible refine Ext.set ?_ (by simp))))).mono ?_; rintro e W1 ⟨rfl, rfl⟩; exact hK _ _ trivial (Eq.refl _) rfl
      refine And.intro (stepC_pure (fun _ => trivial) (by kernel_rfl) ?_) ?_
      · intro act W hR hf ho K hK
        have F : act.tmps[23]?.getD undef = _ ∧ act.tmps[23]?.getD undef = _ ∧ act.tmps[5]?.getD undef = _ ∧ act.tmps[6]?.getD undef = _ ∧ act.tmps[7]?.getD undef = _ ∧ act.tmps[8]?.getD undef = _ ∧ act.tmps[9]?.getD undef = _ ∧ act.tmps[10]?.getD undef = _ ∧ act.tmps[11]?.getD undef = _ ∧ act.tmps[12]?.getD undef = _ ∧ act.tmps[13]?.getD undef = _ ∧ act.tmps[14]?.getD undef = _ ∧ act.tmps[15]?.getD undef = _ ∧ act.tmps[16]?.getD undef = _ ∧ act.tmps[17]?.getD undef = _ ∧ act.tmps[18]?.getD undef = _ ∧ act.tmps[19]?.getD undef = _ ∧ act.tmps[20]?.getD undef = _ ∧ act.tmps[21]?.getD undef = _ ∧ act.tmps[22]?.getD undef = _ ∧ act.tmps[23]?.getD undef = _ ∧ True := hf
        obtain ⟨f18, -, f0, f1, f2, f3, f4, f5, f6, f7, f8, f9, f10, f11, f12, f13, f14, f15, f16, f17, -, -⟩ := F
        clear ho hf
        go_simp
        exact hK _ (Eq.refl _)
      exact trivial
    case stab =>
      refine And.intro is_stable ?_
      refine And.intro is_stable ?_
      refine And.intro is_stable ?_
      refine And.intro is_stable ?_
      refine And.intro is_stable ?_
      refine And.intro is_stable ?_
      refine And.intro is_stable ?_
      refine And.intro is_stable ?_
      refine And.intro is_stable ?_
      refine And.intro is_stable ?_
      refine And.intro is_stable ?_
      refine And.intro is_stable ?_
      refine And.intro is_stable ?_
      refine And.intro is_stable ?_
      refine And.intro is_stable ?_
      refine And.intro is_stable ?_
      refine And.intro is_stable ?_
      refine And.intro is_stable ?_
      refine And.intro is_stable ?_
      refine And.intro is_stable ?_
      exact trivial
    case ends =>
      intro vals W uu hu hR hS hall
      replace hS : (fun (_ : Nat → Value) (W : World) => W = (((w.alloc (.cells #[.bool st, .int .i64 h, .int .i64 f, .slice Ac 1 cc, .slice Al nl cl, .slice As ns cs] 26)).alloc (.cells #[.int .i64 s.rd, .int .i64 s.wr] 70)).alloc (.cells #[.bool (inB s.rd 0 1), .bool (decide (s.wr ≥ 0)), .bool (subBits s.wr s.rd)] 4)).drew) uu W := hS
      clear hu
      have e4 : vals 4 = _ := hall 19 (by decide)
      clear hall
      simp only [fill, List.setIfInBounds_toArray, List.set_cons_succ, List.set_cons_zero, e4]
      obtain rfl := hS
      go_wp2_with fail
      go_ret
      exact ⟨rfl, (by repeat first | (with_reducible exact Below.refl _ _) | (with_reducible apply Ext.alloc) | (with_reducible apply Ext.drew) | (with_reducible apply Ext.drewN) | (with_reducible refine Ext.set ?_ (by simp)))⟩
  · have hv : shareOk 2 s = (inB s.rd 0 3 && decide (s.wr ≥ 0) && subBits s.wr s.rd) := rfl
    rw [hv]
    clear hv
    go_enter Try.func58, Try.ntmps58
    go_wp2_with fail
    refine wp_region_stage (fun _ _ : World => True) [17] [(fun (_ : Nat → Value) (W : World) => W = ((w.alloc (.cells #[.bool st, .int .i64 h, .int .i64 f, .slice Ac 2 cc, .slice Al nl cl, .slice As ns cs] 26)).alloc (.cells #[.int .i64 s.rd, .int .i64 s.wr] 70)).drew), (fun (_ : Nat → Value) (W : World) => W = (((w.alloc (.cells #[.bool st, .int .i64 h, .int .i64 f, .slice Ac 2 cc, .slice Al nl cl, .slice As ns cs] 26)).alloc (.cells #[.int .i64 s.rd, .int .i64 s.wr] 70)).alloc (.cells #[.bool (inB s.rd 0 3), .bool (decide (s.wr ≥ 0)), .bool (subBits s.wr s.rd)] 4)).drew)] [5, 6, 7, 8, 9, 10, 11, 12, 13, 14, 15, 16, 17, 18, 19, 20, 21, 22, 23, 4] (by kernel_rfl) (fun _ => trivial) (fun _ _ _ _ _ => trivial) (by kernel_rfl) (by kernel_rfl) (by kernel_rfl) ?start ?_
    case start => rfl
    apply ex_is; apply Exists.intro
    apply ex_is; apply Exists.intro
    apply ex_is; apply Exists.intro
    apply ex_is; apply Exists.intro
    apply ex_is; apply Exists.intro
    apply ex_is; apply Exists.intro
    apply ex_is; apply Exists.intro
    apply ex_is; apply Exists.intro
    apply ex_is; apply Exists.intro
    apply ex_is; apply Exists.intro
    apply ex_is; apply Exists.intro
    apply ex_is; apply Exists.intro
    apply ex_is; apply Exists.intro
    apply ex_is; apply Exists.intro
    apply ex_is; apply Exists.intro
    apply ex_is; apply Exists.intro
    apply ex_is; apply Exists.intro
    apply ex_is; apply Exists.intro
    apply ex_is; apply Exists.intro
    apply ex_is; apply Exists.intro
    refine ⟨[], ⟨?steps, ?stab, ?ends⟩⟩
    case steps =>
      refine And.intro (stepC_pure (fun _ => trivial) (by kernel_rfl) ?_) ?_
      · intro act W hR hf ho K hK
        have G : act.tmps[3]?.getD undef = _ ∧ True := ho
        obtain ⟨g3, -⟩ := G
        clear ho hf
        go_simp
        exact hK _ (Eq.refl _)
      refine And.intro (stepC_stay (pss := []) (by kernel_rfl) rfl 0 [] [7, 1] (by kernel_rfl) (by kernel_rfl) ?_) ?_
      · intro act W uu hu hR hS hf ho K hK
        replace hS : (fun (_ : Nat → Value) (W : World) => W = ((w.alloc (.cells #[.bool st, .int .i64 h, .int .i64 f, .slice Ac 2 cc, .slice Al nl cl, .slice As ns cs] 26)).alloc (.cells #[.int .i64 s.rd, .int .i64 s.wr] 70)).drew) uu W := hS
        replace hK := fun (v : Value) (w' : World) (h1 : (fun _ _ : World => True) W w') h2 (h3 : (fun (_ : Nat → Value) (W : World) => W = ((w.alloc (.cells #[.bool st, .int .i64 h, .int .i64 f, .slice Ac 2 cc, .slice Al nl cl, .slice As ns cs] 26)).alloc (.cells #[.int .i64 s.rd, .int .i64 s.wr] 70)).drew) uu w') => hK v w' h1 h2 h3
        have F : act.tmps[5]?.getD undef = _ ∧ True := hf
        obtain ⟨f0, -⟩ := F
        clear hu
        clear ho hf
        obtain rfl := hS
        go_simp
        exact hK _ _ trivial (Eq.refl _) rfl
      refine And.intro (stepC_pure (fun _ => trivial) (by kernel_rfl) ?_) ?_
      · intro act W hR hf ho K hK
        have G : act.tmps[2]?.getD undef = _ ∧ True := ho
        obtain ⟨g2, -⟩ := G
        clear ho hf
        go_simp
        exact hK _ (Eq.refl _)
      refine And.intro (stepC_stay (pss := []) (by kernel_rfl) rfl 0 [] [7, 6, 5, 4, 3] (by kernel_rfl) (by kernel_rfl) ?_) ?_
      · intro act W uu hu hR hS hf ho K hK
        replace hS : (fun (_ : Nat → Value) (W : World) => W = ((w.alloc (.cells #[.bool st, .int .i64 h, .int .i64 f, .slice Ac 2 cc, .slice Al nl cl, .slice As ns cs] 26)).alloc (.cells #[.int .i64 s.rd, .int .i64 s.wr] 70)).drew) uu W := hS
        replace hK := fun (v : Value) (w' : World) (h1 : (fun _ _ : World => True) W w') h2 (h3 : (fun (_ : Nat → Value) (W : World) => W = ((w.alloc (.cells #[.bool st, .int .i64 h, .int .i64 f, .slice Ac 2 cc, .slice Al nl cl, .slice As ns cs] 26)).alloc (.cells #[.int .i64 s.rd, .int .i64 s.wr] 70)).drew) uu w') => hK v w' h1 h2 h3
        have F : act.tmps[7]?.getD undef = _ ∧ True := hf
        obtain ⟨f2, -⟩ := F
        clear hu
        clear ho hf
        obtain rfl := hS
        go_simp
        exact hK _ _ trivial (Eq.refl _) rfl
      refine And.intro (stepC_stay (pss := []) (by kernel_rfl) rfl 0 [] [7, 6, 5, 4] (by kernel_rfl) (by kernel_rfl) ?_) ?_
      · intro act W uu hu hR hS hf ho K hK
        replace hS : (fun (_ : Nat → Value) (W : World) => W = ((w.alloc (.cells #[.bool st, .int .i64 h, .int .i64 f, .slice Ac 2 cc, .slice Al nl cl, .slice As ns cs] 26)).alloc (.cells #[.int .i64 s.rd, .int .i64 s.wr] 70)).drew) uu W := hS
        replace hK := fun (v : Value) (w' : World) (h1 : (fun _ _ : World => True) W w') h2 (h3 : (fun (_ : Nat → Value) (W : World) => W = ((w.alloc (.cells #[.bool st, .int .i64 h, .int .i64 f, .slice Ac 2 cc, .slice Al nl cl, .slice As ns cs] 26)).alloc (.cells #[.int .i64 s.rd, .int .i64 s.wr] 70)).drew) uu w') => hK v w' h1 h2 h3
        have F : act.tmps[8]?.getD undef = _ ∧ True := hf
        obtain ⟨f3, -⟩ := F
        clear hu
        clear ho hf
        obtain rfl := hS
        go_simp
        exact hK _ _ trivial (Eq.refl _) rfl
      refine And.intro (stepC_pure (fun _ => trivial) (by kernel_rfl) ?_) ?_
      · intro act W hR hf ho K hK
        have F : act.tmps[9]?.getD undef = _ ∧ True := hf
        obtain ⟨f4, -⟩ := F
        clear ho hf
        go_simp
        exact hK _ (Eq.refl _)
      refine And.intro (stepC_pure (fun _ => trivial) (by kernel_rfl) ?_) ?_
      · intro act W hR hf ho K hK
        have F : act.tmps[10]?.getD undef = _ ∧ True := hf
        obtain ⟨f5, -⟩ := F
        clear ho hf
        go_simp
        exact hK _ (Eq.refl _)
      refine And.intro (stepC_stay (pss := []) (by kernel_rfl) rfl 0 [] [7] (by kernel_rfl) (by kernel_rfl) ?_) ?_
      · intro act W uu hu hR hS hf ho K hK
        replace hS : (fun (_ : Nat → Value) (W : World) => W = ((w.alloc (.cells #[.bool st, .int .i64 h, .int .i64 f, .slice Ac 2 cc, .slice Al nl cl, .slice As ns cs] 26)).alloc (.cells #[.int .i64 s.rd, .int .i64 s.wr] 70)).drew) uu W := hS
        replace hK := fun (v : Value) (w' : World) (h1 : (fun _ _ : World => True) W w') h2 (h3 : (fun (_ : Nat → Value) (W : World) => W = ((w.alloc (.cells #[.bool st, .int .i64 h, .int .i64 f, .slice Ac 2 cc, .slice Al nl cl, .slice As ns cs] 26)).alloc (.cells #[.int .i64 s.rd, .int .i64 s.wr] 70)).drew) uu w') => hK v w' h1 h2 h3
        have F : act.tmps[6]?.getD undef = _ ∧ act.tmps[11]?.getD undef = _ ∧ True := hf
        obtain ⟨f1, f6, -⟩ := F
        clear hu
        clear ho hf
        go_simp
        refine (within_any _ _ _ _).mono ?_; subst hS; rintro e W1 ⟨rfl, rfl⟩; exact hK _ _ trivial (Eq.refl _) rfl
      refine And.intro (stepC_pure (fun _ => trivial) (by kernel_rfl) ?_) ?_
      · intro act W hR hf ho K hK
        have G : act.tmps[3]?.getD undef = _ ∧ True := ho
        obtain ⟨g3, -⟩ := G
        clear ho hf
        go_simp
        exact hK _ (Eq.refl _)
      refine And.intro (stepC_stay (pss := []) (by kernel_rfl) rfl 0 [] [10, 9] (by kernel_rfl) (by kernel_rfl) ?_) ?_
      · intro act W uu hu hR hS hf ho K hK
        replace hS : (fun (_ : Nat → Value) (W : World) => W = ((w.alloc (.cells #[.bool st, .int .i64 h, .int .i64 f, .slice Ac 2 cc, .slice Al nl cl, .slice As ns cs] 26)).alloc (.cells #[.int .i64 s.rd, .int .i64 s.wr] 70)).drew) uu W := hS
        replace hK := fun (v : Value) (w' : World) (h1 : (fun _ _ : World => True) W w') h2 (h3 : (fun (_ : Nat → Value) (W : World) => W = ((w.alloc (.cells #[.bool st, .int .i64 h, .int .i64 f, .slice Ac 2 cc, .slice Al nl cl, .slice As ns cs] 26)).alloc (.cells #[.int .i64 s.rd, .int .i64 s.wr] 70)).drew) uu w') => hK v w' h1 h2 h3
        have F : act.tmps[13]?.getD undef = _ ∧ True := hf
        obtain ⟨f8, -⟩ := F
        clear hu
        clear ho hf
        obtain rfl := hS
        go_simp
        exact hK _ _ trivial (Eq.refl _) rfl
      refine And.intro (stepC_pure (fun _ => trivial) (by kernel_rfl) ?_) ?_
      · intro act W hR hf ho K hK
        have F : act.tmps[14]?.getD undef = _ ∧ True := hf
        obtain ⟨f9, -⟩ := F
        clear ho hf
        go_simp
        exact hK _ (Eq.refl _)
      refine And.intro (stepC_pure (fun _ => trivial) (by kernel_rfl) ?_) ?_
      · intro act W hR hf ho K hK
        have G : act.tmps[3]?.getD undef = _ ∧ True := ho
        obtain ⟨g3, -⟩ := G
        clear ho hf
        go_simp
        exact hK _ (Eq.refl _)
      refine And.intro (stepC_stay (pss := []) (by kernel_rfl) rfl 0 [] [16, 15, 12] (by kernel_rfl) (by kernel_rfl) ?_) ?_
      · intro act W uu hu hR hS hf ho K hK
        replace hS : (fun (_ : Nat → Value) (W : World) => W = ((w.alloc (.cells #[.bool st, .int .i64 h, .int .i64 f, .slice Ac 2 cc, .slice Al nl cl, .slice As ns cs] 26)).alloc (.cells #[.int .i64 s.rd, .int .i64 s.wr] 70)).drew) uu W := hS
        replace hK := fun (v : Value) (w' : World) (h1 : (fun _ _ : World => True) W w') h2 (h3 : (fun (_ : Nat → Value) (W : World) => W = ((w.alloc (.cells #[.bool st, .int .i64 h, .int .i64 f, .slice Ac 2 cc, .slice Al nl cl, .slice As ns cs] 26)).alloc (.cells #[.int .i64 s.rd, .int .i64 s.wr] 70)).drew) uu w') => hK v w' h1 h2 h3
        have F : act.tmps[16]?.getD undef = _ ∧ True := hf
        obtain ⟨f11, -⟩ := F
        clear hu
        clear ho hf
        obtain rfl := hS
        go_simp
        exact hK _ _ trivial (Eq.refl _) rfl
      refine And.intro (stepC_pure (fun _ => trivial) (by kernel_rfl) ?_) ?_
      · intro act W hR hf ho K hK
        have G : act.tmps[3]?.getD undef = _ ∧ True := ho
        obtain ⟨g3, -⟩ := G
        clear ho hf
        go_simp
        exact hK _ (Eq.refl _)
      refine And.intro (stepC_stay (pss := []) (by kernel_rfl) rfl 0 [] [16, 15, 14] (by kernel_rfl) (by kernel_rfl) ?_) ?_
      · intro act W uu hu hR hS hf ho K hK
        replace hS : (fun (_ : Nat → Value) (W : World) => W = ((w.alloc (.cells #[.bool st, .int .i64 h, .int .i64 f, .slice Ac 2 cc, .slice Al nl cl, .slice As ns cs] 26)).alloc (.cells #[.int .i64 s.rd, .int .i64 s.wr] 70)).drew) uu W := hS
        replace hK := fun (v : Value) (w' : World) (h1 : (fun _ _ : World => True) W w') h2 (h3 : (fun (_ : Nat → Value) (W : World) => W = ((w.alloc (.cells #[.bool st, .int .i64 h, .int .i64 f, .slice Ac 2 cc, .slice Al nl cl, .slice As ns cs] 26)).alloc (.cells #[.int .i64 s.rd, .int .i64 s.wr] 70)).drew) uu w') => hK v w' h1 h2 h3
        have F : act.tmps[18]?.getD undef = _ ∧ True := hf
        obtain ⟨f13, -⟩ := F
        clear hu
        clear ho hf
        obtain rfl := hS
        go_simp
        exact hK _ _ trivial (Eq.refl _) rfl
      refine And.intro (stepC_pure (fun _ => trivial) (by kernel_rfl) ?_) ?_
      · intro act W hR hf ho K hK
        have F : act.tmps[17]?.getD undef = _ ∧ act.tmps[19]?.getD undef = _ ∧ True := hf
        obtain ⟨f12, f14, -⟩ := F
        clear ho hf
        go_simp
        exact hK _ (Eq.refl _)
      refine And.intro (stepC_pure (fun _ => trivial) (by kernel_rfl) ?_) ?_
      · intro act W hR hf ho K hK
        have F : act.tmps[20]?.getD undef = _ ∧ True := hf
        obtain ⟨f15, -⟩ := F
        clear ho hf
        go_simp
        exact hK _ (Eq.refl _)
      refine And.intro (stepC_mark (pss := []) (by kernel_rfl) (by decide) rfl 0 [] (by kernel_rfl) rfl ?_) ?_
      · intro act W uu hu hR hS hf ho K hK
        replace hS : (fun (_ : Nat → Value) (W : World) => W = ((w.alloc (.cells #[.bool st, .int .i64 h, .int .i64 f, .slice Ac 2 cc, .slice Al nl cl, .slice As ns cs] 26)).alloc (.cells #[.int .i64 s.rd, .int .i64 s.wr] 70)).drew) uu W := hS
        replace hK := fun (v : Value) (w' : World) (h1 : (fun _ _ : World => True) W w') h2 (h3 : (fun (_ : Nat → Value) (W : World) => W = (((w.alloc (.cells #[.bool st, .int .i64 h, .int .i64 f, .slice Ac 2 cc, .slice Al nl cl, .slice As ns cs] 26)).alloc (.cells #[.int .i64 s.rd, .int .i64 s.wr] 70)).alloc (.cells #[.bool (inB s.rd 0 3), .bool (decide (s.wr ≥ 0)), .bool (subBits s.wr s.rd)] 4)).drew) (upd uu 17 v) w') => hK v w' h1 h2 h3
        have F : act.tmps[12]?.getD undef = _ ∧ act.tmps[15]?.getD undef = _ ∧ act.tmps[21]?.getD undef = _ ∧ True := hf
        obtain ⟨f7, f10, f16, -⟩ := F
        clear hu
        clear ho hf
        go_simp
        subst hS; exact hK _ _ trivial (Eq.refl _) rfl
      refine And.intro (stepC_stay (pss := []) (by kernel_rfl) rfl 1 [17] [] (by kernel_rfl) (by kernel_rfl) ?_) ?_
      · intro act W uu hu hR hS hf ho K hK
        replace hS : (fun (_ : Nat → Value) (W : World) => W = (((w.alloc (.cells #[.bool st, .int .i64 h, .int .i64 f, .slice Ac 2 cc, .slice Al nl cl, .slice As ns cs] 26)).alloc (.cells #[.int .i64 s.rd, .int .i64 s.wr] 70)).alloc (.cells #[.bool (inB s.rd 0 3), .bool (decide (s.wr ≥ 0)), .bool (subBits s.wr s.rd)] 4)).drew) uu W := hS
        replace hK := fun (v : Value) (w' : World) (h1 : (fun _ _ : World => True) W w') h2 (h3 : (fun (_ : Nat → Value) (W : World) => W = (((w.alloc (.cells #[.bool st, .int .i64 h, .int .i64 f, .slice Ac 2 cc, .slice Al nl cl, .slice As ns cs] 26)).alloc (.cells #[.int .i64 s.rd, .int .i64 s.wr] 70)).alloc (.cells #[.bool (inB s.rd 0 3), .bool (decide (s.wr ≥ 0)), .bool (subBits s.wr s.rd)] 4)).drew) uu w') => hK v w' h1 h2 h3
        have F : act.tmps[22]?.getD undef = _ ∧ act.tmps[12]?.getD undef = _ ∧ True := hf
        obtain ⟨f17, f7, -⟩ := F
        clear hu
        clear ho hf
        go_simp
        subst hS; refine (must3 _ _ _ _ _ (new_at (w := ((w.alloc (.cells #[.bool st, .int .i64 h, .int .i64 f, .slice Ac 2 cc, .slice Al nl cl, .slice As ns cs] 26)).alloc (.cells #[.int .i64 s.rd, .int .i64 s.wr] 70))) (by simp) (by repeat first | (with_reducible exact Below.refl _ _) | (with_reducible apply Ext.alloc) | (with_reducible apply Ext.drew) | (with_reducible apply Ext.drewN) | (with_reducible refine Ext.set ?_ (by simp))))).mono ?_; rintro e W1 ⟨rfl, rfl⟩; exact hK _ _ trivial (Eq.refl _) rfl
      refine And.intro (stepC_pure (fun _ => trivial) (by kernel_rfl) ?_) ?_
      · intro act W hR hf ho K hK
        have F : act.tmps[23]?.getD undef = _ ∧ act.tmps[23]?.getD undef = _ ∧ act.tmps[5]?.getD undef = _ ∧ act.tmps[6]?.getD undef = _ ∧ act.tmps[7]?.getD undef = _ ∧ act.tmps[8]?.getD undef = _ ∧ act.tmps[9]?.getD undef = _ ∧ act.tmps[10]?.getD undef = _ ∧ act.tmps[11]?.getD undef = _ ∧ act.tmps[12]?.getD undef = _ ∧ act.tmps[13]?.getD undef = _ ∧ act.tmps[14]?.getD undef = _ ∧ act.tmps[15]?.getD undef = _ ∧ act.tmps[16]?.getD undef = _ ∧ act.tmps[17]?.getD undef = _ ∧ act.tmps[18]?.getD undef = _ ∧ act.tmps[19]?.getD undef = _ ∧ act.tmps[20]?.getD undef = _ ∧ act.tmps[21]?.getD undef = _ ∧ act.tmps[22]?.getD undef = _ ∧ act.tmps[23]?.getD undef = _ ∧ True := hf
        obtain ⟨f18, -, f0, f1, f2, f3, f4, f5, f6, f7, f8, f9, f10, f11, f12, f13, f14, f15, f16, f17, -, -⟩ := F
        clear ho hf
        go_simp
        exact hK _ (Eq.refl _)
      exact trivial
    case stab =>
      refine And.intro is_stable ?_
      refine And.intro is_stable ?_
      refine And.intro is_stable ?_
      refine And.intro is_stable ?_
      refine And.intro is_stable ?_
      refine And.intro is_stable ?_
      refine And.intro is_stable ?_
      refine And.intro is_stable ?_
      refine And.intro is_stable ?_
      refine And.intro is_stable ?_
      refine And.intro is_stable ?_
      refine And.intro is_stable ?_
      refine And.intro is_stable ?_
      refine And.intro is_stable ?_
      refine And.intro is_stable ?_
      refine And.intro is_stable ?_
      refine And.intro is_stable ?_
      refine And.intro is_stable ?_
      refine And.intro is_stable ?_
      refine And.intro is_stable ?_
      exact trivial
    case ends =>
      intro vals W uu hu hR hS hall
      replace hS : (fun (_ : Nat → Value) (W : World) => W = (((w.alloc (.cells #[.bool st, .int .i64 h, .int .i64 f, .slice Ac 2 cc, .slice Al nl cl, .slice As ns cs] 26)).alloc (.cells #[.int .i64 s.rd, .int .i64 s.wr] 70)).alloc (.cells #[.bool (inB s.rd 0 3), .bool (decide (s.wr ≥ 0)), .bool (subBits s.wr s.rd)] 4)).drew) uu W := hS
      clear hu
      have e4 : vals 4 = _ := hall 19 (by decide)
      clear hall
      simp only [fill, List.setIfInBounds_toArray, List.set_cons_succ, List.set_cons_zero, e4]
      obtain rfl := hS
      go_wp2_with fail
      go_ret
      exact ⟨rfl, (by repeat first | (with_reducible exact Below.refl _ _) | (with_reducible apply Ext.alloc) | (with_reducible apply Ext.drew) | (with_reducible apply Ext.drewN) | (with_reducible refine Ext.set ?_ (by simp)))⟩
  · have hv : shareOk 3 s = (inB s.rd 0 7 && decide (s.wr ≥ 0) && subBits s.wr s.rd) := rfl
    rw [hv]
    clear hv
    go_enter Try.func58, Try.ntmps58
    go_wp2_with fail
    refine wp_region_stage (fun _ _ : World => True) [17] [(fun (_ : Nat → Value) (W : World) => W = ((w.alloc (.cells #[.bool st, .int .i64 h, .int .i64 f, .slice Ac 3 cc, .slice Al nl cl, .slice As ns cs] 26)).alloc (.cells #[.int .i64 s.rd, .int .i64 s.wr] 70)).drew), (fun (_ : Nat → Value) (W : World) => W = (((w.alloc (.cells #[.bool st, .int .i64 h, .int .i64 f, .slice Ac 3 cc, .slice Al nl cl, .slice As ns cs] 26)).alloc (.cells #[.int .i64 s.rd, .int .i64 s.wr] 70)).alloc (.cells #[.bool (inB s.rd 0 7), .bool (decide (s.wr ≥ 0)), .bool (subBits s.wr s.rd)] 4)).drew)] [5, 6, 7, 8, 9, 10, 11, 12, 13, 14, 15, 16, 17, 18, 19, 20, 21, 22, 23, 4] (by kernel_rfl) (fun _ => trivial) (fun _ _ _ _ _ => trivial) (by kernel_rfl) (by kernel_rfl) (by kernel_rfl) ?start ?_
    case start => rfl
    apply ex_is; apply Exists.intro
    apply ex_is; apply Exists.intro
    apply ex_is; apply Exists.intro
    apply ex_is; apply Exists.intro
    apply ex_is; apply Exists.intro
    apply ex_is; apply Exists.intro
    apply ex_is; apply Exists.intro
    apply ex_is; apply Exists.intro
    apply ex_is; apply Exists.intro
    apply ex_is; apply Exists.intro
    apply ex_is; apply Exists.intro
    apply ex_is; apply Exists.intro
    apply ex_is; apply Exists.intro
    apply ex_is; apply Exists.intro
    apply ex_is; apply Exists.intro
    apply ex_is; apply Exists.intro
    apply ex_is; apply Exists.intro
    apply ex_is; apply Exists.intro
    apply ex_is; apply Exists.intro
    apply ex_is; apply Exists.intro
    refine ⟨[], ⟨?steps, ?stab, ?ends⟩⟩
    case steps =>
      refine And.intro (stepC_pure (fun _ => trivial) (by kernel_rfl) ?_) ?_
      · intro act W hR hf ho K hK
        have G : act.tmps[3]?.getD undef = _ ∧ True := ho
        obtain ⟨g3, -⟩ := G
        clear ho hf
        go_simp
        exact hK _ (Eq.refl _)
      refine And.intro (stepC_stay (pss := []) (by kernel_rfl) rfl 0 [] [7, 1] (by kernel_rfl) (by kernel_rfl) ?_) ?_
      · intro act W uu hu hR hS hf ho K hK
        replace hS : (fun (_ : Nat → Value) (W : World) => W = ((w.alloc (.cells #[.bool st, .int .i64 h, .int .i64 f, .slice Ac 3 cc, .slice Al nl cl, .slice As ns cs] 26)).alloc (.cells #[.int .i64 s.rd, .int .i64 s.wr] 70)).drew) uu W := hS
        replace hK := fun (v : Value) (w' : World) (h1 : (fun _ _ : World => True) W w') h2 (h3 : (fun (_ : Nat → Value) (W : World) => W = ((w.alloc (.cells #[.bool st, .int .i64 h, .int .i64 f, .slice Ac 3 cc, .slice Al nl cl, .slice As ns cs] 26)).alloc (.cells #[.int .i64 s.rd, .int .i64 s.wr] 70)).drew) uu w') => hK v w' h1 h2 h3
        have F : act.tmps[5]?.getD undef = _ ∧ True := hf
        obtain ⟨f0, -⟩ := F
        clear hu
        clear ho hf
        obtain rfl := hS
        go_simp
        exact hK _ _ trivial (Eq.refl _) rfl
      refine And.intro (stepC_pure (fun _ => trivial) (by kernel_rfl) ?_) ?_
      · intro act W hR hf ho K hK
        have G : act.tmps[2]?.getD undef = _ ∧ True := ho
        obtain ⟨g2, -⟩ := G
        clear ho hf
        go_simp
        exact hK _ (Eq.refl _)
      refine And.intro (stepC_stay (pss := []) (by kernel_rfl) rfl 0 [] [7, 6, 5, 4, 3] (by kernel_rfl) (by kernel_rfl) ?_) ?_
      · intro act W uu hu hR hS hf ho K hK
        replace hS : (fun (_ : Nat → Value) (W : World) => W = ((w.alloc (.cells #[.bool st, .int .i64 h, .int .i64 f, .slice Ac 3 cc, .slice Al nl cl, .slice As ns cs] 26)).alloc (.cells #[.int .i64 s.rd, .int .i64 s.wr] 70)).drew) uu W := hS
        replace hK := fun (v : Value) (w' : World) (h1 : (fun _ _ : World => True) W w') h2 (h3 : (fun (_ : Nat → Value) (W : World) => W = ((w.alloc (.cells #[.bool st, .int .i64 h, .int .i64 f, .slice Ac 3 cc, .slice Al nl cl, .slice As ns cs] 26)).alloc (.cells #[.int .i64 s.rd, .int .i64 s.wr] 70)).drew) uu w') => hK v w' h1 h2 h3
        have F : act.tmps[7]?.getD undef = _ ∧ True := hf
        obtain ⟨f2, -⟩ := F
        clear hu
        clear ho hf
        obtain rfl := hS
        go_simp
        exact hK _ _ trivial (Eq.refl _) rfl
      refine And.intro (stepC_stay (pss := []) (by kernel_rfl) rfl 0 [] [7, 6, 5, 4] (by kernel_rfl) (by kernel_rfl) ?_) ?_
      · intro act W uu hu hR hS hf ho K hK
        replace hS : (fun (_ : Nat → Value) (W : World) => W = ((w.alloc (.cells #[.bool st, .int .i64 h, .int .i64 f, .slice Ac 3 cc, .slice Al nl cl, .slice As ns cs] 26)).alloc (.cells #[.int .i64 s.rd, .int .i64 s.wr] 70)).drew) uu W := hS
        replace hK := fun (v : Value) (w' : World) (h1 : (fun _ _ : World => True) W w') h2 (h3 : (fun (_ : Nat → Value) (W : World) => W = ((w.alloc (.cells #[.bool st, .int .i64 h, .int .i64 f, .slice Ac 3 cc, .slice Al nl cl, .slice As ns cs] 26)).alloc (.cells #[.int .i64 s.rd, .int .i64 s.wr] 70)).drew) uu w') => hK v w' h1 h2 h3
        have F : act.tmps[8]?.getD undef = _ ∧ True := hf
        obtain ⟨f3, -⟩ := F
        clear hu
        clear ho hf
        obtain rfl := hS
        go_simp
        exact hK _ _ trivial (Eq.refl _) rfl
      refine And.intro (stepC_pure (fun _ => trivial) (by kernel_rfl) ?_) ?_
      · intro act W hR hf ho K hK
        have F : act.tmps[9]?.getD undef = _ ∧ True := hf
        obtain ⟨f4, -⟩ := F
        clear ho hf
        go_simp
        exact hK _ (Eq.refl _)
      refine And.intro (stepC_pure (fun _ => trivial) (by kernel_rfl) ?_) ?_
      · intro act W hR hf ho K hK
        have F : act.tmps[10]?.getD undef = _ ∧ True := hf
        obtain ⟨f5, -⟩ := F
        clear ho hf
        go_simp
        exact hK _ (Eq.refl _)
      refine And.intro (stepC_stay (pss := []) (by kernel_rfl) rfl 0 [] [7] (by kernel_rfl) (by kernel_rfl) ?_) ?_
      · intro act W uu hu hR hS hf ho K hK
        replace hS : (fun (_ : Nat → Value) (W : World) => W = ((w.alloc (.cells #[.bool st, .int .i64 h, .int .i64 f, .slice Ac 3 cc, .slice Al nl cl, .slice As ns cs] 26)).alloc (.cells #[.int .i64 s.rd, .int .i64 s.wr] 70)).drew) uu W := hS
        replace hK := fun (v : Value) (w' : World) (h1 : (fun _ _ : World => True) W w') h2 (h3 : (fun (_ : Nat → Value) (W : World) => W = ((w.alloc (.cells #[.bool st, .int .i64 h, .int .i64 f, .slice Ac 3 cc, .slice Al nl cl, .slice As ns cs] 26)).alloc (.cells #[.int .i64 s.rd, .int .i64 s.wr] 70)).drew) uu w') => hK v w' h1 h2 h3
        have F : act.tmps[6]?.getD undef = _ ∧ act.tmps[11]?.getD undef = _ ∧ True := hf
        obtain ⟨f1, f6, -⟩ := F
        clear hu
        clear ho hf
        go_simp
        refine (within_any _ _ _ _).mono ?_; subst hS; rintro e W1 ⟨rfl, rfl⟩; exact hK _ _ trivial (Eq.refl _) rfl
      refine And.intro (stepC_pure (fun _ => trivial) (by kernel_rfl) ?_) ?_
      · intro act W hR hf ho K hK
        have G : act.tmps[3]?.getD undef = _ ∧ True := ho
        obtain ⟨g3, -⟩ := G
        clear ho hf
        go_simp
        exact hK _ (Eq.refl _)
      refine And.intro (stepC_stay (pss := []) (by kernel_rfl) rfl 0 [] [10, 9] (by kernel_rfl) (by kernel_rfl) ?_) ?_
      · intro act W uu hu hR hS hf ho K hK
        replace hS : (fun (_ : Nat → Value) (W : World) => W = ((w.alloc (.cells #[.bool st, .int .i64 h, .int .i64 f, .slice Ac 3 cc, .slice Al nl cl, .slice As ns cs] 26)).alloc (.cells #[.int .i64 s.rd, .int .i64 s.wr] 70)).drew) uu W := hS
        replace hK := fun (v : Value) (w' : World) (h1 : (fun _ _ : World => True) W w') h2 (h3 : (fun (_ : Nat → Value) (W : World) => W = ((w.alloc (.cells #[.bool st, .int .i64 h, .int .i64 f, .slice Ac 3 cc, .slice Al nl cl, .slice As ns cs] 26)).alloc (.cells #[.int .i64 s.rd, .int .i64 s.wr] 70)).drew) uu w') => hK v w' h1 h2 h3
        have F : act.tmps[13]?.getD undef = _ ∧ True := hf
        obtain ⟨f8, -⟩ := F
        clear hu
        clear ho hf
        obtain rfl := hS
        go_simp
        exact hK _ _ trivial (Eq.refl _) rfl
      refine And.intro (stepC_pure (fun _ => trivial) (by kernel_rfl) ?_) ?_
      · intro act W hR hf ho K hK
        have F : act.tmps[14]?.getD undef = _ ∧ True := hf
        obtain ⟨f9, -⟩ := F
        clear ho hf
        go_simp
        exact hK _ (Eq.refl _)
      refine And.intro (stepC_pure (fun _ => trivial) (by kernel_rfl) ?_) ?_
      · intro act W hR hf ho K hK
        have G : act.tmps[3]?.getD undef = _ ∧ True := ho
        obtain ⟨g3, -⟩ := G
        clear ho hf
        go_simp
        exact hK _ (Eq.refl _)
      refine And.intro (stepC_stay (pss := []) (by kernel_rfl) rfl 0 [] [16, 15, 12] (by kernel_rfl) (by kernel_rfl) ?_) ?_
      · intro act W uu hu hR hS hf ho K hK
        replace hS : (fun (_ : Nat → Value) (W : World) => W = ((w.alloc (.cells #[.bool st, .int .i64 h, .int .i64 f, .slice Ac 3 cc, .slice Al nl cl, .slice As ns cs] 26)).alloc (.cells #[.int .i64 s.rd, .int .i64 s.wr] 70)).drew) uu W := hS
        replace hK := fun (v : Value) (w' : World) (h1 : (fun _ _ : World => True) W w') h2 (h3 : (fun (_ : Nat → Value) (W : World) => W = ((w.alloc (.cells #[.bool st, .int .i64 h, .int .i64 f, .slice Ac 3 cc, .slice Al nl cl, .slice As ns cs] 26)).alloc (.cells #[.int .i64 s.rd, .int .i64 s.wr] 70)).drew) uu w') => hK v w' h1 h2 h3
        have F : act.tmps[16]?.getD undef = _ ∧ True := hf
        obtain ⟨f11, -⟩ := F
        clear hu
        clear ho hf
        obtain rfl := hS
        go_simp
        exact hK _ _ trivial (Eq.refl _) rfl
      refine And.intro (stepC_pure (fun _ => trivial) (by kernel_rfl) ?_) ?_
      · intro act W hR hf ho K hK
        have G : act.tmps[3]?.getD undef = _ ∧ True := ho
        obtain ⟨g3, -⟩ := G
        clear ho hf
        go_simp
        exact hK _ (Eq.refl _)
      refine And.intro (stepC_stay (pss := []) (by kernel_rfl) rfl 0 [] [16, 15, 14] (by kernel_rfl) (by kernel_rfl) ?_) ?_
      · intro act W uu hu hR hS hf ho K hK
        replace hS : (fun (_ : Nat → Value) (W : World) => W = ((w.alloc (.cells #[.bool st, .int .i64 h, .int .i64 f, .slice Ac 3 cc, .slice Al nl cl, .slice As ns cs] 26)).alloc (.cells #[.int .i64 s.rd, .int .i64 s.wr] 70)).drew) uu W := hS
        replace hK := fun (v : Value) (w' : World) (h1 : (fun _ _ : World => True) W w') h2 (h3 : (fun (_ : Nat → Value) (W : World) => W = ((w.alloc (.cells #[.bool st, .int .i64 h, .int .i64 f, .slice Ac 3 cc, .slice Al nl cl, .slice As ns cs] 26)).alloc (.cells #[.int .i64 s.rd, .int .i64 s.wr] 70)).drew) uu w') => hK v w' h1 h2 h3
        have F : act.tmps[18]?.getD undef = _ ∧ True := hf
        obtain ⟨f13, -⟩ := F
        clear hu
        clear ho hf
        obtain rfl := hS
        go_simp
        exact hK _ _ trivial (Eq.refl _) rfl
      refine And.intro (stepC_pure (fun _ => trivial) (by kernel_rfl) ?_) ?_
      · intro act W hR hf ho K hK
        have F : act.tmps[17]?.getD undef = _ ∧ act.tmps[19]?.getD undef = _ ∧ True := hf
        obtain ⟨f12, f14, -⟩ := F
        clear ho hf
        go_simp
        exact hK _ (Eq.refl _)
      refine And.intro (stepC_pure (fun _ => trivial) (by kernel_rfl) ?_) ?_
      · intro act W hR hf ho K hK
        have F : act.tmps[20]?.getD undef = _ ∧ True := hf
        obtain ⟨f15, -⟩ := F
        clear ho hf
        go_simp
        exact hK _ (Eq.refl _)
      refine And.intro (stepC_mark (pss := []) (by kernel_rfl) (by decide) rfl 0 [] (by kernel_rfl) rfl ?_) ?_
      · intro act W uu hu hR hS hf ho K hK
        replace hS : (fun (_ : Nat → Value) (W : World) => W = ((w.alloc (.cells #[.bool st, .int .i64 h, .int .i64 f, .slice Ac 3 cc, .slice Al nl cl, .slice As ns cs] 26)).alloc (.cells #[.int .i64 s.rd, .int .i64 s.wr] 70)).drew) uu W := hS
        replace hK := fun (v : Value) (w' : World) (h1 : (fun _ _ : World => True) W w') h2 (h3 : (fun (_ : Nat → Value) (W : World) => W = (((w.alloc (.cells #[.bool st, .int .i64 h, .int .i64 f, .slice Ac 3 cc, .slice Al nl cl, .slice As ns cs] 26)).alloc (.cells #[.int .i64 s.rd, .int .i64 s.wr] 70)).alloc (.cells #[.bool (inB s.rd 0 7), .bool (decide (s.wr ≥ 0)), .bool (subBits s.wr s.rd)] 4)).drew) (upd uu 17 v) w') => hK v w' h1 h2 h3
        have F : act.tmps[12]?.getD undef = _ ∧ act.tmps[15]?.getD undef = _ ∧ act.tmps[21]?.getD undef = _ ∧ True := hf
        obtain ⟨f7, f10, f16, -⟩ := F
        clear hu
        clear ho hf
        go_simp
        subst hS; exact hK _ _ trivial (Eq.refl _) rfl
      refine And.intro (stepC_stay (pss := []) (by kernel_rfl) rfl 1 [17] [] (by kernel_rfl) (by kernel_rfl) ?_) ?_
      · intro act W uu hu hR hS hf ho K hK
        replace hS : (fun (_ : Nat → Value) (W : World) => W = (((w.alloc (.cells #[.bool st, .int .i64 h, .int .i64 f, .slice Ac 3 cc, .slice Al nl cl, .slice As ns cs] 26)).alloc (.cells #[.int .i64 s.rd, .int .i64 s.wr] 70)).alloc (.cells #[.bool (inB s.rd 0 7), .bool (decide (s.wr ≥ 0)), .bool (subBits s.wr s.rd)] 4)).drew) uu W := hS
        replace hK := fun (v : Value) (w' : World) (h1 : (fun _ _ : World => True) W w') h2 (h3 : (fun (_ : Nat → Value) (W : World) => W = (((w.alloc (.cells #[.bool st, .int .i64 h, .int .i64 f, .slice Ac 3 cc, .slice Al nl cl, .slice As ns cs] 26)).alloc (.cells #[.int .i64 s.rd, .int .i64 s.wr] 70)).alloc (.cells #[.bool (inB s.rd 0 7), .bool (decide (s.wr ≥ 0)), .bool (subBits s.wr s.rd)] 4)).drew) uu w') => hK v w' h1 h2 h3
        have F : act.tmps[22]?.getD undef = _ ∧ act.tmps[12]?.getD undef = _ ∧ True := hf
        obtain ⟨f17, f7, -⟩ := F
        clear hu
        clear ho hf
        go_simp
        subst hS; refine (must3 _ _ _ _ _ (new_at (w := ((w.alloc (.cells #[.bool st, .int .i64 h, .int .i64 f, .slice Ac 3 cc, .slice Al nl cl, .slice As ns cs] 26)).alloc (.cells #[.int .i64 s.rd, .int .i64 s.wr] 70))) (by simp) (by repeat first | (with_reducible exact Below.refl _ _) | (with_reducible apply Ext.alloc) | (with_reducible apply Ext.drew) | (with_reducible apply Ext.drewN) | (with_reducible refine Ext.set ?_ (by simp))))).mono ?_; rintro e W1 ⟨rfl, rfl⟩; exact hK _ _ trivial (Eq.refl _) rfl
      refine And.intro (stepC_pure (fun _ => trivial) (by kernel_rfl) ?_) ?_
      · intro act W hR hf ho K hK
        have F : act.tmps[23]?.getD undef = _ ∧ act.tmps[23]?.getD undef = _ ∧ act.tmps[5]?.getD undef = _ ∧ act.tmps[6]?.getD undef = _ ∧ act.tmps[7]?.getD undef = _ ∧ act.tmps[8]?.getD undef = _ ∧ act.tmps[9]?.getD undef = _ ∧ act.tmps[10]?.getD undef = _ ∧ act.tmps[11]?.getD undef = _ ∧ act.tmps[12]?.getD undef = _ ∧ act.tmps[13]?.getD undef = _ ∧ act.tmps[14]?.getD undef = _ ∧ act.tmps[15]?.getD undef = _ ∧ act.tmps[16]?.getD undef = _ ∧ act.tmps[17]?.getD undef = _ ∧ act.tmps[18]?.getD undef = _ ∧ act.tmps[19]?.getD undef = _ ∧ act.tmps[20]?.getD undef = _ ∧ act.tmps[21]?.getD undef = _ ∧ act.tmps[22]?.getD undef = _ ∧ act.tmps[23]?.getD undef = _ ∧ True := hf
        obtain ⟨f18, -, f0, f1, f2, f3, f4, f5, f6, f7, f8, f9, f10, f11, f12, f13, f14, f15, f16, f17, -, -⟩ := F
        clear ho hf
        go_simp
        exact hK _ (Eq.refl _)
      exact trivial
    case stab =>
      refine And.intro is_stable ?_
      refine And.intro is_stable ?_
      refine And.intro is_stable ?_
      refine And.intro is_stable ?_
      refine And.intro is_stable ?_
      refine And.intro is_stable ?_
      refine And.intro is_stable ?_
      refine And.intro is_stable ?_
      refine And.intro is_stable ?_
      refine And.intro is_stable ?_
      refine And.intro is_stable ?_
      refine And.intro is_stable ?_
      refine And.intro is_stable ?_
      refine And.intro is_stable ?_
      refine And.intro is_stable ?_
      refine And.intro is_stable ?_
      refine And.intro is_stable ?_
      refine And.intro is_stable ?_
      refine And.intro is_stable ?_
      refine And.intro is_stable ?_
      exact trivial
    case ends =>
      intro vals W uu hu hR hS hall
      replace hS : (fun (_ : Nat → Value) (W : World) => W = (((w.alloc (.cells #[.bool st, .int .i64 h, .int .i64 f, .slice Ac 3 cc, .slice Al nl cl, .slice As ns cs] 26)).alloc (.cells #[.int .i64 s.rd, .int .i64 s.wr] 70)).alloc (.cells #[.bool (inB s.rd 0 7), .bool (decide (s.wr ≥ 0)), .bool (subBits s.wr s.rd)] 4)).drew) uu W := hS
      clear hu
      have e4 : vals 4 = _ := hall 19 (by decide)
      clear hall
      simp only [fill, List.setIfInBounds_toArray, List.set_cons_succ, List.set_cons_zero, e4]
      obtain rfl := hS
      go_wp2_with fail
      go_ret
      exact ⟨rfl, (by repeat first | (with_reducible exact Below.refl _ _) | (with_reducible apply Ext.alloc) | (with_reducible apply Ext.drew) | (with_reducible apply Ext.drewN) | (with_reducible refine Ext.set ?_ (by simp)))⟩
  · have hv : shareOk 4 s = (inB s.rd 0 15 && decide (s.wr ≥ 0) && subBits s.wr s.rd) := rfl
    rw [hv]
    clear hv
    go_enter Try.func58, Try.ntmps58
    go_wp2_with fail
    refine wp_region_stage (fun _ _ : World => True) [17] [(fun (_ : Nat → Value) (W : World) => W = ((w.alloc (.cells #[.bool st, .int .i64 h, .int .i64 f, .slice Ac 4 cc, .slice Al nl cl, .slice As ns cs] 26)).alloc (.cells #[.int .i64 s.rd, .int .i64 s.wr] 70)).drew), (fun (_ : Nat → Value) (W : World) => W = (((w.alloc (.cells #[.bool st, .int .i64 h, .int .i64 f, .slice Ac 4 cc, .slice Al nl cl, .slice As ns cs] 26)).alloc (.cells #[.int .i64 s.rd, .int .i64 s.wr] 70)).alloc (.cells #[.bool (inB s.rd 0 15), .bool (decide (s.wr ≥ 0)), .bool (subBits s.wr s.rd)] 4)).drew)] [5, 6, 7, 8, 9, 10, 11, 12, 13, 14, 15, 16, 17, 18, 19, 20, 21, 22, 23, 4] (by kernel_rfl) (fun _ => trivial) (fun _ _ _ _ _ => trivial) (by kernel_rfl) (by kernel_rfl) (by kernel_rfl) ?start ?_
    case start => rfl
    apply ex_is; apply Exists.intro
    apply ex_is; apply Exists.intro
    apply ex_is; apply Exists.intro
    apply ex_is; apply Exists.intro
    apply ex_is; apply Exists.intro
    apply ex_is; apply Exists.intro
    apply ex_is; apply Exists.intro
    apply ex_is; apply Exists.intro
    apply ex_is; apply Exists.intro
    apply ex_is; apply Exists.intro
    apply ex_is; apply Exists.intro
    apply ex_is; apply Exists.intro
    apply ex_is; apply Exists.intro
    apply ex_is; apply Exists.intro
    apply ex_is; apply Exists.intro
    apply ex_is; apply Exists.intro
    apply ex_is; apply Exists.intro
    apply ex_is; apply Exists.intro
    apply ex_is; apply Exists.intro
    apply ex_is; apply Exists.intro
    refine ⟨[], ⟨?steps, ?stab, ?ends⟩⟩
    case steps =>
      refine And.intro (stepC_pure (fun _ => trivial) (by kernel_rfl) ?_) ?_
      · intro act W hR hf ho K hK
        have G : act.tmps[3]?.getD undef = _ ∧ True := ho
        obtain ⟨g3, -⟩ := G
        clear ho hf
        go_simp
        exact hK _ (Eq.refl _)
      refine And.intro (stepC_stay (pss := []) (by kernel_rfl) rfl 0 [] [7, 1] (by kernel_rfl) (by kernel_rfl) ?_) ?_
      · intro act W uu hu hR hS hf ho K hK
        replace hS : (fun (_ : Nat → Value) (W : World) => W = ((w.alloc (.cells #[.bool st, .int .i64 h, .int .i64 f, .slice Ac 4 cc, .slice Al nl cl, .slice As ns cs] 26)).alloc (.cells #[.int .i64 s.rd, .int .i64 s.wr] 70)).drew) uu W := hS
        replace hK := fun (v : Value) (w' : World) (h1 : (fun _ _ : World => True) W w') h2 (h3 : (fun (_ : Nat → Value) (W : World) => W = ((w.alloc (.cells #[.bool st, .int .i64 h, .int .i64 f, .slice Ac 4 cc, .slice Al nl cl, .slice As ns cs] 26)).alloc (.cells #[.int .i64 s.rd, .int .i64 s.wr] 70)).drew) uu w') => hK v w' h1 h2 h3
        have F : act.tmps[5]?.getD undef = _ ∧ True := hf
        obtain ⟨f0, -⟩ := F
        clear hu
        clear ho hf
        obtain rfl := hS
        go_simp
        exact hK _ _ trivial (Eq.refl _) rfl
      refine And.intro (stepC_pure (fun _ => trivial) (by kernel_rfl) ?_) ?_
      · intro act W hR hf ho K hK
        have G : act.tmps[2]?.getD undef = _ ∧ True := ho
        obtain ⟨g2, -⟩ := G
        clear ho hf
        go_simp
        exact hK _ (Eq.refl _)
      refine And.intro (stepC_stay (pss := []) (by kernel_rfl) rfl 0 [] [7, 6, 5, 4, 3] (by kernel_rfl) (by kernel_rfl) ?_) ?_
      · intro act W uu hu hR hS hf ho K hK
        replace hS : (fun (_ : Nat → Value) (W : World) => W = ((w.alloc (.cells #[.bool st, .int .i64 h, .int .i64 f, .slice Ac 4 cc, .slice Al nl cl, .slice As ns cs] 26)).alloc (.cells #[.int .i64 s.rd, .int .i64 s.wr] 70)).drew) uu W := hS
        replace hK := fun (v : Value) (w' : World) (h1 : (fun _ _ : World => True) W w') h2 (h3 : (fun (_ : Nat → Value) (W : World) => W = ((w.alloc (.cells #[.bool st, .int .i64 h, .int .i64 f, .slice Ac 4 cc, .slice Al nl cl, .slice As ns cs] 26)).alloc (.cells #[.int .i64 s.rd, .int .i64 s.wr] 70)).drew) uu w') => hK v w' h1 h2 h3
        have F : act.tmps[7]?.getD undef = _ ∧ True := hf
        obtain ⟨f2, -⟩ := F
        clear hu
        clear ho hf
        obtain rfl := hS
        go_simp
        exact hK _ _ trivial (Eq.refl _) rfl
      refine And.intro (stepC_stay (pss := []) (by kernel_rfl) rfl 0 [] [7, 6, 5, 4] (by kernel_rfl) (by kernel_rfl) ?_) ?_
      · intro act W uu hu hR hS hf ho K hK
        replace hS : (fun (_ : Nat → Value) (W : World) => W = ((w.alloc (.cells #[.bool st, .int .i64 h, .int .i64 f, .slice Ac 4 cc, .slice Al nl cl, .slice As ns cs] 26)).alloc (.cells #[.int .i64 s.rd, .int .i64 s.wr] 70)).drew) uu W := hS
        replace hK := fun (v : Value) (w' : World) (h1 : (fun _ _ : World => True) W w') h2 (h3 : (fun (_ : Nat → Value) (W : World) => W = ((w.alloc (.cells #[.bool st, .int .i64 h, .int .i64 f, .slice Ac 4 cc, .slice Al nl cl, .slice As ns cs] 26)).alloc (.cells #[.int .i64 s.rd, .int .i64 s.wr] 70)).drew) uu w') => hK v w' h1 h2 h3
        have F : act.tmps[8]?.getD undef = _ ∧ True := hf
        obtain ⟨f3, -⟩ := F
        clear hu
        clear ho hf
        obtain rfl := hS
        go_simp
        exact hK _ _ trivial (Eq.refl _) rfl
      refine And.intro (stepC_pure (fun _ => trivial) (by kernel_rfl) ?_) ?_
      · intro act W hR hf ho K hK
        have F : act.tmps[9]?.getD undef = _ ∧ True := hf
        obtain ⟨f4, -⟩ := F
        clear ho hf
        go_simp
        exact hK _ (Eq.refl _)
      refine And.intro (stepC_pure (fun _ => trivial) (by kernel_rfl) ?_) ?_
      · intro act W hR hf ho K hK
        have F : act.tmps[10]?.getD undef = _ ∧ True := hf
        obtain ⟨f5, -⟩ := F
        clear ho hf
        go_simp
        exact hK _ (Eq.refl _)
      refine And.intro (stepC_stay (pss := []) (by kernel_rfl) rfl 0 [] [7] (by kernel_rfl) (by kernel_rfl) ?_) ?_
      · intro act W uu hu hR hS hf ho K hK
        replace hS : (fun (_ : Nat → Value) (W : World) => W = ((w.alloc (.cells #[.bool st, .int .i64 h, .int .i64 f, .slice Ac 4 cc, .slice Al nl cl, .slice As ns cs] 26)).alloc (.cells #[.int .i64 s.rd, .int .i64 s.wr] 70)).drew) uu W := hS
        replace hK := fun (v : Value) (w' : World) (h1 : (fun _ _ : World => True) W w') h2 (h3 : (fun (_ : Nat → Value) (W : World) => W = ((w.alloc (.cells #[.bool st, .int .i64 h, .int .i64 f, .slice Ac 4 cc, .slice Al nl cl, .slice As ns cs] 26)).alloc (.cells #[.int .i64 s.rd, .int .i64 s.wr] 70)).drew) uu w') => hK v w' h1 h2 h3
        have F : act.tmps[6]?.getD undef = _ ∧ act.tmps[11]?.getD undef = _ ∧ True := hf
        obtain ⟨f1, f6, -⟩ := F
        clear hu
        clear ho hf
        go_simp
        refine (within_any _ _ _ _).mono ?_; subst hS; rintro e W1 ⟨rfl, rfl⟩; exact hK _ _ trivial (Eq.refl _) rfl
      refine And.intro (stepC_pure (fun _ => trivial) (by kernel_rfl) ?_) ?_
      · intro act W hR hf ho K hK
        have G : act.tmps[3]?.getD undef = _ ∧ True := ho
        obtain ⟨g3, -⟩ := G
        clear ho hf
        go_simp
        exact hK _ (Eq.refl _)
      refine And.intro (stepC_stay (pss := []) (by kernel_rfl) rfl 0 [] [10, 9] (by kernel_rfl) (by kernel_rfl) ?_) ?_
      · intro act W uu hu hR hS hf ho K hK
        replace hS : (fun (_ : Nat → Value) (W : World) => W = ((w.alloc (.cells #[.bool st, .int .i64 h, .int .i64 f, .slice Ac 4 cc, .slice Al nl cl, .slice As ns cs] 26)).alloc (.cells #[.int .i64 s.rd, .int .i64 s.wr] 70)).drew) uu W := hS
        replace hK := fun (v : Value) (w' : World) (h1 : (fun _ _ : World => True) W w') h2 (h3 : (fun (_ : Nat → Value) (W : World) => W = ((w.alloc (.cells #[.bool st, .int .i64 h, .int .i64 f, .slice Ac 4 cc, .slice Al nl cl, .slice As ns cs] 26)).alloc (.cells #[.int .i64 s.rd, .int .i64 s.wr] 70)).drew) uu w') => hK v w' h1 h2 h3
        have F : act.tmps[13]?.getD undef = _ ∧ True := hf
        obtain ⟨f8, -⟩ := F
        clear hu
        clear ho hf
        obtain rfl := hS
        go_simp
        exact hK _ _ trivial (Eq.refl _) rfl
      refine And.intro (stepC_pure (fun _ => trivial) (by kernel_rfl) ?_) ?_
      · intro act W hR hf ho K hK
        have F : act.tmps[14]?.getD undef = _ ∧ True := hf
        obtain ⟨f9, -⟩ := F
        clear ho hf
        go_simp
        exact hK _ (Eq.refl _)
      refine And.intro (stepC_pure (fun _ => trivial) (by kernel_rfl) ?_) ?_
      · intro act W hR hf ho K hK
        have G : act.tmps[3]?.getD undef = _ ∧ True := ho
        obtain ⟨g3, -⟩ := G
        clear ho hf
        go_simp
        exact hK _ (Eq.refl _)
      refine And.intro (stepC_stay (pss := []) (by kernel_rfl) rfl 0 [] [16, 15, 12] (by kernel_rfl) (by kernel_rfl) ?_) ?_
      · intro act W uu hu hR hS hf ho K hK
        replace hS : (fun (_ : Nat → Value) (W : World) => W = ((w.alloc (.cells #[.bool st, .int .i64 h, .int .i64 f, .slice Ac 4 cc, .slice Al nl cl, .slice As ns cs] 26)).alloc (.cells #[.int .i64 s.rd, .int .i64 s.wr] 70)).drew) uu W := hS
        replace hK := fun (v : Value) (w' : World) (h1 : (fun _ _ : World => True) W w') h2 (h3 : (fun (_ : Nat → Value) (W : World) => W = ((w.alloc (.cells #[.bool st, .int .i64 h, .int .i64 f, .slice Ac 4 cc, .slice Al nl cl, .slice As ns cs] 26)).alloc (.cells #[.int .i64 s.rd, .int .i64 s.wr] 70)).drew) uu w') => hK v w' h1 h2 h3
        have F : act.tmps[16]?.getD undef = _ ∧ True := hf
        obtain ⟨f11, -⟩ := F
        clear hu
        clear ho hf
        obtain rfl := hS
        go_simp
        exact hK _ _ trivial (Eq.refl _) rfl
      refine And.intro (stepC_pure (fun _ => trivial) (by kernel_rfl) ?_) ?_
      · intro act W hR hf ho K hK
        have G : act.tmps[3]?.getD undef = _ ∧ True := ho
        obtain ⟨g3, -⟩ := G
        clear ho hf
        go_simp
        exact hK _ (Eq.refl _)
      refine And.intro (stepC_stay (pss := []) (by kernel_rfl) rfl 0 [] [16, 15, 14] (by kernel_rfl) (by kernel_rfl) ?_) ?_
      · intro act W uu hu hR hS hf ho K hK
        replace hS : (fun (_ : Nat → Value) (W : World) => W = ((w.alloc (.cells #[.bool st, .int .i64 h, .int .i64 f, .slice Ac 4 cc, .slice Al nl cl, .slice As ns cs] 26)).alloc (.cells #[.int .i64 s.rd, .int .i64 s.wr] 70)).drew) uu W := hS
        replace hK := fun (v : Value) (w' : World) (h1 : (fun _ _ : World => True) W w') h2 (h3 : (fun (_ : Nat → Value) (W : World) => W = ((w.alloc (.cells #[.bool st, .int .i64 h, .int .i64 f, .slice Ac 4 cc, .slice Al nl cl, .slice As ns cs] 26)).alloc (.cells #[.int .i64 s.rd, .int .i64 s.wr] 70)).drew) uu w') => hK v w' h1 h2 h3
        have F : act.tmps[18]?.getD undef = _ ∧ True := hf
        obtain ⟨f13, -⟩ := F
        clear hu
        clear ho hf
        obtain rfl := hS
        go_simp
        exact hK _ _ trivial (Eq.refl _) rfl
      refine And.intro (stepC_pure (fun _ => trivial) (by kernel_rfl) ?_) ?_
      · intro act W hR hf ho K hK
        have F : act.tmps[17]?.getD undef = _ ∧ act.tmps[19]?.getD undef = _ ∧ True := hf
        obtain ⟨f12, f14, -⟩ := F
        clear ho hf
        go_simp
        exact hK _ (Eq.refl _)
      refine And.intro (stepC_pure (fun _ => trivial) (by kernel_rfl) ?_) ?_
      · intro act W hR hf ho K hK
        have F : act.tmps[20]?.getD undef = _ ∧ True := hf
        obtain ⟨f15, -⟩ := F
        clear ho hf
        go_simp
        exact hK _ (Eq.refl _)
      refine And.intro (stepC_mark (pss := []) (by kernel_rfl) (by decide) rfl 0 [] (by kernel_rfl) rfl ?_) ?_
      · intro act W uu hu hR hS hf ho K hK
        replace hS : (fun (_ : Nat → Value) (W : World) => W = ((w.alloc (.cells #[.bool st, .int .i64 h, .int .i64 f, .slice Ac 4 cc, .slice Al nl cl, .slice As ns cs] 26)).alloc (.cells #[.int .i64 s.rd, .int .i64 s.wr] 70)).drew) uu W := hS
        replace hK := fun (v : Value) (w' : World) (h1 : (fun _ _ : World => True) W w') h2 (h3 : (fun (_ : Nat → Value) (W : World) => W = (((w.alloc (.cells #[.bool st, .int .i64 h, .int .i64 f, .slice Ac 4 cc, .slice Al nl cl, .slice As ns cs] 26)).alloc (.cells #[.int .i64 s.rd, .int .i64 s.wr] 70)).alloc (.cells #[.bool (inB s.rd 0 15), .bool (decide (s.wr ≥ 0)), .bool (subBits s.wr s.rd)] 4)).drew) (upd uu 17 v) w') => hK v w' h1 h2 h3
        have F : act.tmps[12]?.getD undef = _ ∧ act.tmps[15]?.getD undef = _ ∧ act.tmps[21]?.getD undef = _ ∧ True := hf
        obtain ⟨f7, f10, f16, -⟩ := F
        clear hu
        clear ho hf
        go_simp
        subst hS; exact hK _ _ trivial (Eq.refl _) rfl
      refine And.intro (stepC_stay (pss := []) (by kernel_rfl) rfl 1 [17] [] (by kernel_rfl) (by kernel_rfl) ?_) ?_
      · intro act W uu hu hR hS hf ho K hK
        replace hS : (fun (_ : Nat → Value) (W : World) => W = (((w.alloc (.cells #[.bool st, .int .i64 h, .int .i64 f, .slice Ac 4 cc, .slice Al nl cl, .slice As ns cs] 26)).alloc (.cells #[.int .i64 s.rd, .int .i64 s.wr] 70)).alloc (.cells #[.bool (inB s.rd 0 15), .bool (decide (s.wr ≥ 0)), .bool (subBits s.wr s.rd)] 4)).drew) uu W := hS
        replace hK := fun (v : Value) (w' : World) (h1 : (fun _ _ : World => True) W w') h2 (h3 : (fun (_ : Nat → Value) (W : World) => W = (((w.alloc (.cells #[.bool st, .int .i64 h, .int .i64 f, .slice Ac 4 cc, .slice Al nl cl, .slice As ns cs] 26)).alloc (.cells #[.int .i64 s.rd, .int .i64 s.wr] 70)).alloc (.cells #[.bool (inB s.rd 0 15), .bool (decide (s.wr ≥ 0)), .bool (subBits s.wr s.rd)] 4)).drew) uu w') => hK v w' h1 h2 h3
        have F : act.tmps[22]?.getD undef = _ ∧ act.tmps[12]?.getD undef = _ ∧ True := hf
        obtain ⟨f17, f7, -⟩ := F
        clear hu
        clear ho hf
        go_simp
        subst hS; refine (must3 _ _ _ _ _ (new_at (w := ((w.alloc (.cells #[.bool st, .int .i64 h, .int .i64 f, .slice Ac 4 cc, .slice Al nl cl, .slice As ns cs] 26)).alloc (.cells #[.int .i64 s.rd, .int .i64 s.wr] 70))) (by simp) (by repeat first | (with_reducible exact Below.refl _ _) | (with_reducible apply Ext.alloc) | (with_reducible apply Ext.drew) | (with_reducible apply Ext.drewN) | (with_reducible refine Ext.set ?_ (by simp))))).mono ?_; rintro e W1 ⟨rfl, rfl⟩; exact hK _ _ trivial (Eq.refl _) rfl
      refine And.intro (stepC_pure (fun _ => trivial) (by kernel_rfl) ?_) ?_
      · intro act W hR hf ho K hK
        have F : act.tmps[23]?.getD undef = _ ∧ act.tmps[23]?.getD undef = _ ∧ act.tmps[5]?.getD undef = _ ∧ act.tmps[6]?.getD undef = _ ∧ act.tmps[7]?.getD undef = _ ∧ act.tmps[8]?.getD undef = _ ∧ act.tmps[9]?.getD undef = _ ∧ act.tmps[10]?.getD undef = _ ∧ act.tmps[11]?.getD undef = _ ∧ act.tmps[12]?.getD undef = _ ∧ act.tmps[13]?.getD undef = _ ∧ act.tmps[14]?.getD undef = _ ∧ act.tmps[15]?.getD undef = _ ∧ act.tmps[16]?.getD undef = _ ∧ act.tmps[17]?.getD undef = _ ∧ act.tmps[18]?.getD undef = _ ∧ act.tmps[19]?.getD undef = _ ∧ act.tmps[20]?.getD undef = _ ∧ act.tmps[21]?.getD undef = _ ∧ act.tmps[22]?.getD undef = _ ∧ act.tmps[23]?.getD undef = _ ∧ True := hf
        obtain ⟨f18, -, f0, f1, f2, f3, f4, f5, f6, f7, f8, f9, f10, f11, f12, f13, f14, f15, f16, f17, -, -⟩ := F
        clear ho hf
        go_simp
        exact hK _ (Eq.refl _)
      exact trivial
    case stab =>
      refine And.intro is_stable ?_
      refine And.intro is_stable ?_
      refine And.intro is_stable ?_
      refine And.intro is_stable ?_
      refine And.intro is_stable ?_
      refine And.intro is_stable ?_
      refine And.intro is_stable ?_
      refine And.intro is_stable ?_
      refine And.intro is_stable ?_
      refine And.intro is_stable ?_
      refine And.intro is_stable ?_
      refine And.intro is_stable ?_
      refine And.intro is_stable ?_
      refine And.intro is_stable ?_
      refine And.intro is_stable ?_
      refine And.intro is_stable ?_
      refine And.intro is_stable ?_
      refine And.intro is_stable ?_
      refine And.intro is_stable ?_
      refine And.intro is_stable ?_
      exact trivial
    case ends =>
      intro vals W uu hu hR hS hall
      replace hS : (fun (_ : Nat → Value) (W : World) => W = (((w.alloc (.cells #[.bool st, .int .i64 h, .int .i64 f, .slice Ac 4 cc, .slice Al nl cl, .slice As ns cs] 26)).alloc (.cells #[.int .i64 s.rd, .int .i64 s.wr] 70)).alloc (.cells #[.bool (inB s.rd 0 15), .bool (decide (s.wr ≥ 0)), .bool (subBits s.wr s.rd)] 4)).drew) uu W := hS
      clear hu
      have e4 : vals 4 = _ := hall 19 (by decide)
      clear hall
      simp only [fill, List.setIfInBounds_toArray, List.set_cons_succ, List.set_cons_zero, e4]
      obtain rfl := hS
      go_wp2_with fail
      go_ret
      exact ⟨rfl, (by repeat first | (with_reducible exact Below.refl _ _) | (with_reducible apply Ext.alloc) | (with_reducible apply Ext.drew) | (with_reducible apply Ext.drewN) | (with_reducible refine Ext.set ?_ (by simp)))⟩
end Go.Proofs.Ytgfnpcoigooblaa

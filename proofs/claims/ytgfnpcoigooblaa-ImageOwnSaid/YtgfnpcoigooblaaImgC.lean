
/- Package image: link. -/
import Derived.Test.YtgfnpcoigooblaaImgB
set_option linter.all false
namespace Go.Proofs.Ytgfnpcoigooblaa
open Go.RowKit

attribute [local go_sem] seen dstOf boolOf
theorem linkOk_eq (cs : List CompD) (l : LinkM) : linkOk cs l = ((inB l.fr 0 (cs.length - 1) && inB l.to 0 (cs.length - 1) && (l.fr != l.to)) && (match cs[l.to.toNat]? with | some c => inB l.at' 0 (c.code.length / 4 - 1) | none => false)) := by
  unfold linkOk
  congr 2
  rw [Bool.eq_iff_iff, decide_eq_true_iff, bne_iff_ne]
set_option maxHeartbeats 4000000 in
set_option maxRecDepth 20000 in
theorem link_any (x : ImgM) (l : LinkM) (w : World) (h : ImgAt w x) : Calls Try.prog 54 #[x.val, .agg #[.int .i64 l.fr, .int .i64 l.to, .int .i64 l.at']] w fun e w' => e = .returned (.bool (linkOk x.d.comps l)) ∧ Ext w w' := by
  obtain ⟨fr, to, at'⟩ := l
  have hcl : x.d.comps.length = x.comps.length := by simp [ImgM.d]
  have hL := linkOk_eq x.d.comps ⟨fr, to, at'⟩
  rw [hcl] at hL
  simp only at hL ⊢
  have hlen : x.comps.length ≤ 140737488351232 := h.lens.2.1
  have hw : IntKind.i64.wrap ((x.comps.length : Int) - 1) = x.comps.length - 1 := IntWalk.i64_in _ (by omega)
  cases hG : (inB fr 0 ((x.comps.length : Int) - 1) && inB to 0 ((x.comps.length : Int) - 1) && (fr != to)) with
  | false =>
    rw [hG, Bool.false_and] at hL
    rw [hL]
    have HG := Lib.hid hG
    clear hG hL hcl h hlen
    go_enter Try.func54, Try.ntmps54
    go_wp2_with fail
    refine wp_region_stage (fun _ _ : World => True) [15] [(fun (_ : Nat → Value) (W : World) => W = ((w.alloc (.cells #[.bool x.strict, .int .i64 x.heap, .int .i64 x.full, .slice x.Ac x.comps.length x.cc, .slice x.Al x.links.length x.cl, .slice x.As x.shares.length x.cs] 26)).alloc (.cells #[.int .i64 fr, .int .i64 to, .int .i64 at'] 68)).drew), (fun (_ : Nat → Value) (W : World) => W = (((w.alloc (.cells #[.bool x.strict, .int .i64 x.heap, .int .i64 x.full, .slice x.Ac x.comps.length x.cc, .slice x.Al x.links.length x.cl, .slice x.As x.shares.length x.cs] 26)).alloc (.cells #[.int .i64 fr, .int .i64 to, .int .i64 at'] 68)).alloc (.cells #[.bool (inB fr 0 (x.comps.length - 1)), .bool (inB to 0 (x.comps.length - 1)), .bool (fr != to)] 4)).drew)] [9, 10, 11, 12, 13, 14, 15, 16, 17, 18, 19, 20, 21, 22, 23, 24, 25, 26, 27, 28, 29, 30, 31, 32, 33, 34, 35, 36, 37, 38, 39, 40, 4] (by kernel_rfl) (fun _ => trivial) (fun _ _ _ _ _ => trivial) (by kernel_rfl) (by kernel_rfl) (by kernel_rfl) ?start ?_
    case start => rfl
    apply ex_is; apply Exists.intro
    apply ex_is; apply Exists.intro
    apply ex_is; apply Exists.intro
    apply ex_is; apply Exists.intro
    apply ex_is; apply Exists.intro
    apply ex_is; apply Exists.intro
    apply ex_is; apply Exists.intro
    apply ex_is; apply Exists.intro
    apply ex_is; apply Exists.intro
    apply ex_is; apply Exists.intro
    apply ex_is; apply Exists.intro
    apply ex_is; apply Exists.intro
    apply ex_is; apply Exists.intro
    apply ex_is; apply Exists.intro
    apply ex_is; apply Exists.intro
    apply ex_is; apply Exists.intro
    apply ex_is; apply Exists.intro
    apply ex_is; apply Exists.intro
    apply ex_is; apply Exists.intro
    apply ex_is; apply Exists.intro
    apply ex_is; apply Exists.intro
    apply ex_is; apply Exists.intro
    apply ex_is; apply Exists.intro
    apply ex_is; apply Exists.intro
    apply ex_is; apply Exists.intro
    apply ex_is; apply Exists.intro
    apply ex_is; apply Exists.intro
    apply ex_is; apply Exists.intro
    apply ex_is; apply Exists.intro
    apply ex_is; apply Exists.intro
    apply ex_is; apply Exists.intro
    apply ex_is; apply Exists.intro
    apply ex_is; apply Exists.intro
    refine ⟨[], ⟨?steps, ?stab, ?ends⟩⟩
    case steps =>
      refine And.intro (stepC_pure (fun _ => trivial) (by kernel_rfl) ?_) ?_
      · intro act W hR hf ho K hK
        have G : act.tmps[3]?.getD undef = _ ∧ True := ho
        obtain ⟨g3, -⟩ := G
        clear ho hf
        go_simp
        exact hK _ (Eq.refl _)
      refine And.intro (stepC_stay (pss := []) (by kernel_rfl) rfl 0 [] [4, 1] (by kernel_rfl) (by kernel_rfl) ?_) ?_
      · intro act W uu hu hR hS hf ho K hK
        replace hS : (fun (_ : Nat → Value) (W : World) => W = ((w.alloc (.cells #[.bool x.strict, .int .i64 x.heap, .int .i64 x.full, .slice x.Ac x.comps.length x.cc, .slice x.Al x.links.length x.cl, .slice x.As x.shares.length x.cs] 26)).alloc (.cells #[.int .i64 fr, .int .i64 to, .int .i64 at'] 68)).drew) uu W := hS
        replace hK := fun (v : Value) (w' : World) (h1 : (fun _ _ : World => True) W w') h2 (h3 : (fun (_ : Nat → Value) (W : World) => W = ((w.alloc (.cells #[.bool x.strict, .int .i64 x.heap, .int .i64 x.full, .slice x.Ac x.comps.length x.cc, .slice x.Al x.links.length x.cl, .slice x.As x.shares.length x.cs] 26)).alloc (.cells #[.int .i64 fr, .int .i64 to, .int .i64 at'] 68)).drew) uu w') => hK v w' h1 h2 h3
        have F : act.tmps[9]?.getD undef = _ ∧ True := hf
        obtain ⟨f0, -⟩ := F
        clear hu
        clear ho hf
        obtain rfl := hS
        go_simp
        exact hK _ _ trivial (Eq.refl _) rfl
      refine And.intro (stepC_pure (fun _ => trivial) (by kernel_rfl) ?_) ?_
      · intro act W hR hf ho K hK
        have G : act.tmps[5]?.getD undef = _ ∧ True := ho
        obtain ⟨g5, -⟩ := G
        clear ho hf
        go_simp
        exact hK _ (Eq.refl _)
      refine And.intro (stepC_pure (fun _ => trivial) (by kernel_rfl) ?_) ?_
      · intro act W hR hf ho K hK
        have F : act.tmps[11]?.getD undef = _ ∧ True := hf
        obtain ⟨f2, -⟩ := F
        clear ho hf
        go_simp
        exact hK _ (Eq.refl _)
      refine And.intro (stepC_stay (pss := []) (by kernel_rfl) rfl 0 [] [4] (by kernel_rfl) (by kernel_rfl) ?_) ?_
      · intro act W uu hu hR hS hf ho K hK
        replace hS : (fun (_ : Nat → Value) (W : World) => W = ((w.alloc (.cells #[.bool x.strict, .int .i64 x.heap, .int .i64 x.full, .slice x.Ac x.comps.length x.cc, .slice x.Al x.links.length x.cl, .slice x.As x.shares.length x.cs] 26)).alloc (.cells #[.int .i64 fr, .int .i64 to, .int .i64 at'] 68)).drew) uu W := hS
        replace hK := fun (v : Value) (w' : World) (h1 : (fun _ _ : World => True) W w') h2 (h3 : (fun (_ : Nat → Value) (W : World) => W = ((w.alloc (.cells #[.bool x.strict, .int .i64 x.heap, .int .i64 x.full, .slice x.Ac x.comps.length x.cc, .slice x.Al x.links.length x.cl, .slice x.As x.shares.length x.cs] 26)).alloc (.cells #[.int .i64 fr, .int .i64 to, .int .i64 at'] 68)).drew) uu w') => hK v w' h1 h2 h3
        have F : act.tmps[10]?.getD undef = _ ∧ act.tmps[12]?.getD undef = _ ∧ True := hf
        obtain ⟨f1, f3, -⟩ := F
        clear hu
        clear ho hf
        go_simp
        refine (within_any _ _ _ _).mono ?_; subst hS; rintro e W1 ⟨rfl, rfl⟩; exact hK _ _ trivial (Eq.refl _) rfl
      refine And.intro (stepC_pure (fun _ => trivial) (by kernel_rfl) ?_) ?_
      · intro act W hR hf ho K hK
        have G : act.tmps[3]?.getD undef = _ ∧ True := ho
        obtain ⟨g3, -⟩ := G
        clear ho hf
        go_simp
        exact hK _ (Eq.refl _)
      refine And.intro (stepC_stay (pss := []) (by kernel_rfl) rfl 0 [] [9, 6] (by kernel_rfl) (by kernel_rfl) ?_) ?_
      · intro act W uu hu hR hS hf ho K hK
        replace hS : (fun (_ : Nat → Value) (W : World) => W = ((w.alloc (.cells #[.bool x.strict, .int .i64 x.heap, .int .i64 x.full, .slice x.Ac x.comps.length x.cc, .slice x.Al x.links.length x.cl, .slice x.As x.shares.length x.cs] 26)).alloc (.cells #[.int .i64 fr, .int .i64 to, .int .i64 at'] 68)).drew) uu W := hS
        replace hK := fun (v : Value) (w' : World) (h1 : (fun _ _ : World => True) W w') h2 (h3 : (fun (_ : Nat → Value) (W : World) => W = ((w.alloc (.cells #[.bool x.strict, .int .i64 x.heap, .int .i64 x.full, .slice x.Ac x.comps.length x.cc, .slice x.Al x.links.length x.cl, .slice x.As x.shares.length x.cs] 26)).alloc (.cells #[.int .i64 fr, .int .i64 to, .int .i64 at'] 68)).drew) uu w') => hK v w' h1 h2 h3
        have F : act.tmps[14]?.getD undef = _ ∧ True := hf
        obtain ⟨f5, -⟩ := F
        clear hu
        clear ho hf
        obtain rfl := hS
        go_simp
        exact hK _ _ trivial (Eq.refl _) rfl
      refine And.intro (stepC_pure (fun _ => trivial) (by kernel_rfl) ?_) ?_
      · intro act W hR hf ho K hK
        have G : act.tmps[5]?.getD undef = _ ∧ True := ho
        obtain ⟨g5, -⟩ := G
        clear ho hf
        go_simp
        exact hK _ (Eq.refl _)
      refine And.intro (stepC_pure (fun _ => trivial) (by kernel_rfl) ?_) ?_
      · intro act W hR hf ho K hK
        have F : act.tmps[16]?.getD undef = _ ∧ True := hf
        obtain ⟨f7, -⟩ := F
        clear ho hf
        go_simp
        exact hK _ (Eq.refl _)
      refine And.intro (stepC_stay (pss := []) (by kernel_rfl) rfl 0 [] [9] (by kernel_rfl) (by kernel_rfl) ?_) ?_
      · intro act W uu hu hR hS hf ho K hK
        replace hS : (fun (_ : Nat → Value) (W : World) => W = ((w.alloc (.cells #[.bool x.strict, .int .i64 x.heap, .int .i64 x.full, .slice x.Ac x.comps.length x.cc, .slice x.Al x.links.length x.cl, .slice x.As x.shares.length x.cs] 26)).alloc (.cells #[.int .i64 fr, .int .i64 to, .int .i64 at'] 68)).drew) uu W := hS
        replace hK := fun (v : Value) (w' : World) (h1 : (fun _ _ : World => True) W w') h2 (h3 : (fun (_ : Nat → Value) (W : World) => W = ((w.alloc (.cells #[.bool x.strict, .int .i64 x.heap, .int .i64 x.full, .slice x.Ac x.comps.length x.cc, .slice x.Al x.links.length x.cl, .slice x.As x.shares.length x.cs] 26)).alloc (.cells #[.int .i64 fr, .int .i64 to, .int .i64 at'] 68)).drew) uu w') => hK v w' h1 h2 h3
        have F : act.tmps[15]?.getD undef = _ ∧ act.tmps[17]?.getD undef = _ ∧ act.tmps[13]?.getD undef = _ ∧ True := hf
        obtain ⟨f6, f8, f4, -⟩ := F
        clear hu
        clear ho hf
        go_simp
        refine (within_any _ _ _ _).mono ?_; subst hS; rintro e W1 ⟨rfl, rfl⟩; exact hK _ _ trivial (Eq.refl _) rfl
      refine And.intro (stepC_pure (fun _ => trivial) (by kernel_rfl) ?_) ?_
      · intro act W hR hf ho K hK
        have G : act.tmps[3]?.getD undef = _ ∧ True := ho
        obtain ⟨g3, -⟩ := G
        clear ho hf
        go_simp
        exact hK _ (Eq.refl _)
      refine And.intro (stepC_stay (pss := []) (by kernel_rfl) rfl 0 [] [14, 11] (by kernel_rfl) (by kernel_rfl) ?_) ?_
      · intro act W uu hu hR hS hf ho K hK
        replace hS : (fun (_ : Nat → Value) (W : World) => W = ((w.alloc (.cells #[.bool x.strict, .int .i64 x.heap, .int .i64 x.full, .slice x.Ac x.comps.length x.cc, .slice x.Al x.links.length x.cl, .slice x.As x.shares.length x.cs] 26)).alloc (.cells #[.int .i64 fr, .int .i64 to, .int .i64 at'] 68)).drew) uu W := hS
        replace hK := fun (v : Value) (w' : World) (h1 : (fun _ _ : World => True) W w') h2 (h3 : (fun (_ : Nat → Value) (W : World) => W = ((w.alloc (.cells #[.bool x.strict, .int .i64 x.heap, .int .i64 x.full, .slice x.Ac x.comps.length x.cc, .slice x.Al x.links.length x.cl, .slice x.As x.shares.length x.cs] 26)).alloc (.cells #[.int .i64 fr, .int .i64 to, .int .i64 at'] 68)).drew) uu w') => hK v w' h1 h2 h3
        have F : act.tmps[19]?.getD undef = _ ∧ True := hf
        obtain ⟨f10, -⟩ := F
        clear hu
        clear ho hf
        obtain rfl := hS
        go_simp
        exact hK _ _ trivial (Eq.refl _) rfl
      refine And.intro (stepC_pure (fun _ => trivial) (by kernel_rfl) ?_) ?_
      · intro act W hR hf ho K hK
        have G : act.tmps[3]?.getD undef = _ ∧ True := ho
        obtain ⟨g3, -⟩ := G
        clear ho hf
        go_simp
        exact hK _ (Eq.refl _)
      refine And.intro (stepC_stay (pss := []) (by kernel_rfl) rfl 0 [] [14, 13] (by kernel_rfl) (by kernel_rfl) ?_) ?_
      · intro act W uu hu hR hS hf ho K hK
        replace hS : (fun (_ : Nat → Value) (W : World) => W = ((w.alloc (.cells #[.bool x.strict, .int .i64 x.heap, .int .i64 x.full, .slice x.Ac x.comps.length x.cc, .slice x.Al x.links.length x.cl, .slice x.As x.shares.length x.cs] 26)).alloc (.cells #[.int .i64 fr, .int .i64 to, .int .i64 at'] 68)).drew) uu W := hS
        replace hK := fun (v : Value) (w' : World) (h1 : (fun _ _ : World => True) W w') h2 (h3 : (fun (_ : Nat → Value) (W : World) => W = ((w.alloc (.cells #[.bool x.strict, .int .i64 x.heap, .int .i64 x.full, .slice x.Ac x.comps.length x.cc, .slice x.Al x.links.length x.cl, .slice x.As x.shares.length x.cs] 26)).alloc (.cells #[.int .i64 fr, .int .i64 to, .int .i64 at'] 68)).drew) uu w') => hK v w' h1 h2 h3
        have F : act.tmps[21]?.getD undef = _ ∧ True := hf
        obtain ⟨f12, -⟩ := F
        clear hu
        clear ho hf
        obtain rfl := hS
        go_simp
        exact hK _ _ trivial (Eq.refl _) rfl
      refine And.intro (stepC_pure (fun _ => trivial) (by kernel_rfl) ?_) ?_
      · intro act W hR hf ho K hK
        have F : act.tmps[20]?.getD undef = _ ∧ act.tmps[22]?.getD undef = _ ∧ True := hf
        obtain ⟨f11, f13, -⟩ := F
        clear ho hf
        go_simp
        exact hK _ (Eq.refl _)
      refine And.intro (stepC_mark (pss := []) (by kernel_rfl) (by decide) rfl 0 [] (by kernel_rfl) rfl ?_) ?_
      · intro act W uu hu hR hS hf ho K hK
        replace hS : (fun (_ : Nat → Value) (W : World) => W = ((w.alloc (.cells #[.bool x.strict, .int .i64 x.heap, .int .i64 x.full, .slice x.Ac x.comps.length x.cc, .slice x.Al x.links.length x.cl, .slice x.As x.shares.length x.cs] 26)).alloc (.cells #[.int .i64 fr, .int .i64 to, .int .i64 at'] 68)).drew) uu W := hS
        replace hK := fun (v : Value) (w' : World) (h1 : (fun _ _ : World => True) W w') h2 (h3 : (fun (_ : Nat → Value) (W : World) => W = (((w.alloc (.cells #[.bool x.strict, .int .i64 x.heap, .int .i64 x.full, .slice x.Ac x.comps.length x.cc, .slice x.Al x.links.length x.cl, .slice x.As x.shares.length x.cs] 26)).alloc (.cells #[.int .i64 fr, .int .i64 to, .int .i64 at'] 68)).alloc (.cells #[.bool (inB fr 0 (x.comps.length - 1)), .bool (inB to 0 (x.comps.length - 1)), .bool (fr != to)] 4)).drew) (upd uu 15 v) w') => hK v w' h1 h2 h3
        have F : act.tmps[13]?.getD undef = _ ∧ act.tmps[18]?.getD undef = _ ∧ act.tmps[23]?.getD undef = _ ∧ True := hf
        obtain ⟨f4, f9, f14, -⟩ := F
        clear hu
        clear ho hf
        go_simp
        subst hS; exact hK _ _ trivial (Eq.refl _) rfl
      refine And.intro (stepC_stay (pss := []) (by kernel_rfl) rfl 1 [15] [] (by kernel_rfl) (by kernel_rfl) ?_) ?_
      · intro act W uu hu hR hS hf ho K hK
        replace hS : (fun (_ : Nat → Value) (W : World) => W = (((w.alloc (.cells #[.bool x.strict, .int .i64 x.heap, .int .i64 x.full, .slice x.Ac x.comps.length x.cc, .slice x.Al x.links.length x.cl, .slice x.As x.shares.length x.cs] 26)).alloc (.cells #[.int .i64 fr, .int .i64 to, .int .i64 at'] 68)).alloc (.cells #[.bool (inB fr 0 (x.comps.length - 1)), .bool (inB to 0 (x.comps.length - 1)), .bool (fr != to)] 4)).drew) uu W := hS
        replace hK := fun (v : Value) (w' : World) (h1 : (fun _ _ : World => True) W w') h2 (h3 : (fun (_ : Nat → Value) (W : World) => W = (((w.alloc (.cells #[.bool x.strict, .int .i64 x.heap, .int .i64 x.full, .slice x.Ac x.comps.length x.cc, .slice x.Al x.links.length x.cl, .slice x.As x.shares.length x.cs] 26)).alloc (.cells #[.int .i64 fr, .int .i64 to, .int .i64 at'] 68)).alloc (.cells #[.bool (inB fr 0 (x.comps.length - 1)), .bool (inB to 0 (x.comps.length - 1)), .bool (fr != to)] 4)).drew) uu w') => hK v w' h1 h2 h3
        have F : act.tmps[24]?.getD undef = _ ∧ act.tmps[18]?.getD undef = _ ∧ True := hf
        obtain ⟨f15, f9, -⟩ := F
        clear hu
        clear ho hf
        go_simp
        subst hS; refine (must3 _ _ _ _ _ (new_at (w := ((w.alloc (.cells #[.bool x.strict, .int .i64 x.heap, .int .i64 x.full, .slice x.Ac x.comps.length x.cc, .slice x.Al x.links.length x.cl, .slice x.As x.shares.length x.cs] 26)).alloc (.cells #[.int .i64 fr, .int .i64 to, .int .i64 at'] 68))) (by simp) (by repeat first | (with_reducible exact Below.refl _ _) | (with_reducible apply Ext.alloc) | (with_reducible apply Ext.drew) | (with_reducible apply Ext.drewN) | (with_reducible refine Ext.set ?_ (by simp))))).mono ?_; rintro e W1 ⟨he, rfl⟩; rw [HG.out] at he; subst he; exact hK _ _ trivial (Eq.refl _) rfl
      refine And.intro (stepC_pure (fun _ => trivial) (by kernel_rfl) ?_) ?_
      · intro act W hR hf ho K hK
        have F : act.tmps[25]?.getD undef = _ ∧ act.tmps[25]?.getD undef = _ ∧ True := hf
        obtain ⟨f16, -, -⟩ := F
        clear ho hf
        go_simp
        exact hK _ (Eq.refl _)
      refine And.intro (stepC_pure (fun _ => trivial) (by kernel_rfl) ?_) ?_
      · intro act W hR hf ho K hK
        have G : act.tmps[3]?.getD undef = _ ∧ True := ho
        obtain ⟨g3, -⟩ := G
        have F : act.tmps[26]?.getD undef = _ ∧ True := hf
        obtain ⟨f17, -⟩ := F
        clear ho hf
        go_simp
        exact hK _ (Eq.refl _)
      refine And.intro (stepC_stay (pss := []) (by kernel_rfl) rfl 1 [17, 16, 15] [] (by kernel_rfl) (by kernel_rfl) ?_) ?_
      · intro act W uu hu hR hS hf ho K hK
        replace hS : (fun (_ : Nat → Value) (W : World) => W = (((w.alloc (.cells #[.bool x.strict, .int .i64 x.heap, .int .i64 x.full, .slice x.Ac x.comps.length x.cc, .slice x.Al x.links.length x.cl, .slice x.As x.shares.length x.cs] 26)).alloc (.cells #[.int .i64 fr, .int .i64 to, .int .i64 at'] 68)).alloc (.cells #[.bool (inB fr 0 (x.comps.length - 1)), .bool (inB to 0 (x.comps.length - 1)), .bool (fr != to)] 4)).drew) uu W := hS
        replace hK := fun (v : Value) (w' : World) (h1 : (fun _ _ : World => True) W w') h2 (h3 : (fun (_ : Nat → Value) (W : World) => W = (((w.alloc (.cells #[.bool x.strict, .int .i64 x.heap, .int .i64 x.full, .slice x.Ac x.comps.length x.cc, .slice x.Al x.links.length x.cl, .slice x.As x.shares.length x.cs] 26)).alloc (.cells #[.int .i64 fr, .int .i64 to, .int .i64 at'] 68)).alloc (.cells #[.bool (inB fr 0 (x.comps.length - 1)), .bool (inB to 0 (x.comps.length - 1)), .bool (fr != to)] 4)).drew) uu w') => hK v w' h1 h2 h3
        have F : act.tmps[27]?.getD undef = _ ∧ act.tmps[26]?.getD undef = _ ∧ True := hf
        obtain ⟨f18, f17, -⟩ := F
        clear hu
        clear ho hf
        obtain rfl := hS
        go_simp
        exact hK _ _ trivial (Eq.refl _) rfl
      refine And.intro (stepC_pure (fun _ => trivial) (by kernel_rfl) ?_) ?_
      · intro act W hR hf ho K hK
        have G : act.tmps[2]?.getD undef = _ ∧ True := ho
        obtain ⟨g2, -⟩ := G
        have F : act.tmps[26]?.getD undef = _ ∧ True := hf
        obtain ⟨f17, -⟩ := F
        clear ho hf
        go_simp
        exact hK _ (Eq.refl _)
      refine And.intro (stepC_stay (pss := []) (by kernel_rfl) rfl 1 [17, 16, 15] [] (by kernel_rfl) (by kernel_rfl) ?_) ?_
      · intro act W uu hu hR hS hf ho K hK
        replace hS : (fun (_ : Nat → Value) (W : World) => W = (((w.alloc (.cells #[.bool x.strict, .int .i64 x.heap, .int .i64 x.full, .slice x.Ac x.comps.length x.cc, .slice x.Al x.links.length x.cl, .slice x.As x.shares.length x.cs] 26)).alloc (.cells #[.int .i64 fr, .int .i64 to, .int .i64 at'] 68)).alloc (.cells #[.bool (inB fr 0 (x.comps.length - 1)), .bool (inB to 0 (x.comps.length - 1)), .bool (fr != to)] 4)).drew) uu W := hS
        replace hK := fun (v : Value) (w' : World) (h1 : (fun _ _ : World => True) W w') h2 (h3 : (fun (_ : Nat → Value) (W : World) => W = (((w.alloc (.cells #[.bool x.strict, .int .i64 x.heap, .int .i64 x.full, .slice x.Ac x.comps.length x.cc, .slice x.Al x.links.length x.cl, .slice x.As x.shares.length x.cs] 26)).alloc (.cells #[.int .i64 fr, .int .i64 to, .int .i64 at'] 68)).alloc (.cells #[.bool (inB fr 0 (x.comps.length - 1)), .bool (inB to 0 (x.comps.length - 1)), .bool (fr != to)] 4)).drew) uu w') => hK v w' h1 h2 h3
        have F : act.tmps[29]?.getD undef = _ ∧ act.tmps[26]?.getD undef = _ ∧ True := hf
        obtain ⟨f20, f17, -⟩ := F
        clear hu
        clear ho hf
        obtain rfl := hS
        go_simp
        exact hK _ _ trivial (Eq.refl _) rfl
      refine And.intro (stepC_pure (fun _ => trivial) (by kernel_rfl) ?_) ?_
      · intro act W hR hf ho K hK
        have G : act.tmps[3]?.getD undef = _ ∧ True := ho
        obtain ⟨g3, -⟩ := G
        have F : act.tmps[26]?.getD undef = _ ∧ True := hf
        obtain ⟨f17, -⟩ := F
        clear ho hf
        go_simp
        exact hK _ (Eq.refl _)
      refine And.intro (stepC_stay (pss := []) (by kernel_rfl) rfl 1 [17, 16, 15] [] (by kernel_rfl) (by kernel_rfl) ?_) ?_
      · intro act W uu hu hR hS hf ho K hK
        replace hS : (fun (_ : Nat → Value) (W : World) => W = (((w.alloc (.cells #[.bool x.strict, .int .i64 x.heap, .int .i64 x.full, .slice x.Ac x.comps.length x.cc, .slice x.Al x.links.length x.cl, .slice x.As x.shares.length x.cs] 26)).alloc (.cells #[.int .i64 fr, .int .i64 to, .int .i64 at'] 68)).alloc (.cells #[.bool (inB fr 0 (x.comps.length - 1)), .bool (inB to 0 (x.comps.length - 1)), .bool (fr != to)] 4)).drew) uu W := hS
        replace hK := fun (v : Value) (w' : World) (h1 : (fun _ _ : World => True) W w') h2 (h3 : (fun (_ : Nat → Value) (W : World) => W = (((w.alloc (.cells #[.bool x.strict, .int .i64 x.heap, .int .i64 x.full, .slice x.Ac x.comps.length x.cc, .slice x.Al x.links.length x.cl, .slice x.As x.shares.length x.cs] 26)).alloc (.cells #[.int .i64 fr, .int .i64 to, .int .i64 at'] 68)).alloc (.cells #[.bool (inB fr 0 (x.comps.length - 1)), .bool (inB to 0 (x.comps.length - 1)), .bool (fr != to)] 4)).drew) uu w') => hK v w' h1 h2 h3
        have F : act.tmps[31]?.getD undef = _ ∧ act.tmps[26]?.getD undef = _ ∧ True := hf
        obtain ⟨f22, f17, -⟩ := F
        clear hu
        clear ho hf
        obtain rfl := hS
        go_simp
        exact hK _ _ trivial (Eq.refl _) rfl
      refine And.intro (stepC_pure (fun _ => trivial) (by kernel_rfl) ?_) ?_
      · intro act W hR hf ho K hK
        have F : act.tmps[30]?.getD undef = _ ∧ act.tmps[32]?.getD undef = _ ∧ act.tmps[26]?.getD undef = _ ∧ True := hf
        obtain ⟨f21, f23, f17, -⟩ := F
        clear ho hf
        go_simp
        exact hK _ (Eq.refl _)
      refine And.intro (stepC_pure (fun _ => trivial) (by kernel_rfl) ?_) ?_
      · intro act W hR hf ho K hK
        have F : act.tmps[33]?.getD undef = _ ∧ act.tmps[26]?.getD undef = _ ∧ True := hf
        obtain ⟨f24, f17, -⟩ := F
        clear ho hf
        go_simp
        exact hK _ (Eq.refl _)
      refine And.intro (stepC_stay (pss := []) (by kernel_rfl) rfl 1 [17, 16, 15] [] (by kernel_rfl) (by kernel_rfl) ?_) ?_
      · intro act W uu hu hR hS hf ho K hK
        replace hS : (fun (_ : Nat → Value) (W : World) => W = (((w.alloc (.cells #[.bool x.strict, .int .i64 x.heap, .int .i64 x.full, .slice x.Ac x.comps.length x.cc, .slice x.Al x.links.length x.cl, .slice x.As x.shares.length x.cs] 26)).alloc (.cells #[.int .i64 fr, .int .i64 to, .int .i64 at'] 68)).alloc (.cells #[.bool (inB fr 0 (x.comps.length - 1)), .bool (inB to 0 (x.comps.length - 1)), .bool (fr != to)] 4)).drew) uu W := hS
        replace hK := fun (v : Value) (w' : World) (h1 : (fun _ _ : World => True) W w') h2 (h3 : (fun (_ : Nat → Value) (W : World) => W = (((w.alloc (.cells #[.bool x.strict, .int .i64 x.heap, .int .i64 x.full, .slice x.Ac x.comps.length x.cc, .slice x.Al x.links.length x.cl, .slice x.As x.shares.length x.cs] 26)).alloc (.cells #[.int .i64 fr, .int .i64 to, .int .i64 at'] 68)).alloc (.cells #[.bool (inB fr 0 (x.comps.length - 1)), .bool (inB to 0 (x.comps.length - 1)), .bool (fr != to)] 4)).drew) uu w') => hK v w' h1 h2 h3
        have F : act.tmps[34]?.getD undef = _ ∧ act.tmps[26]?.getD undef = _ ∧ True := hf
        obtain ⟨f25, f17, -⟩ := F
        clear hu
        clear ho hf
        obtain rfl := hS
        go_simp
        exact hK _ _ trivial (Eq.refl _) rfl
      refine And.intro (stepC_stay (pss := []) (by kernel_rfl) rfl 1 [17, 16, 15] [] (by kernel_rfl) (by kernel_rfl) ?_) ?_
      · intro act W uu hu hR hS hf ho K hK
        replace hS : (fun (_ : Nat → Value) (W : World) => W = (((w.alloc (.cells #[.bool x.strict, .int .i64 x.heap, .int .i64 x.full, .slice x.Ac x.comps.length x.cc, .slice x.Al x.links.length x.cl, .slice x.As x.shares.length x.cs] 26)).alloc (.cells #[.int .i64 fr, .int .i64 to, .int .i64 at'] 68)).alloc (.cells #[.bool (inB fr 0 (x.comps.length - 1)), .bool (inB to 0 (x.comps.length - 1)), .bool (fr != to)] 4)).drew) uu W := hS
        replace hK := fun (v : Value) (w' : World) (h1 : (fun _ _ : World => True) W w') h2 (h3 : (fun (_ : Nat → Value) (W : World) => W = (((w.alloc (.cells #[.bool x.strict, .int .i64 x.heap, .int .i64 x.full, .slice x.Ac x.comps.length x.cc, .slice x.Al x.links.length x.cl, .slice x.As x.shares.length x.cs] 26)).alloc (.cells #[.int .i64 fr, .int .i64 to, .int .i64 at'] 68)).alloc (.cells #[.bool (inB fr 0 (x.comps.length - 1)), .bool (inB to 0 (x.comps.length - 1)), .bool (fr != to)] 4)).drew) uu w') => hK v w' h1 h2 h3
        have F : act.tmps[35]?.getD undef = _ ∧ act.tmps[26]?.getD undef = _ ∧ True := hf
        obtain ⟨f26, f17, -⟩ := F
        clear hu
        clear ho hf
        obtain rfl := hS
        go_simp
        exact hK _ _ trivial (Eq.refl _) rfl
      refine And.intro (stepC_pure (fun _ => trivial) (by kernel_rfl) ?_) ?_
      · intro act W hR hf ho K hK
        have F : act.tmps[36]?.getD undef = _ ∧ act.tmps[26]?.getD undef = _ ∧ True := hf
        obtain ⟨f27, f17, -⟩ := F
        clear ho hf
        go_simp
        exact hK _ (Eq.refl _)
      refine And.intro (stepC_pure (fun _ => trivial) (by kernel_rfl) ?_) ?_
      · intro act W hR hf ho K hK
        have F : act.tmps[37]?.getD undef = _ ∧ act.tmps[26]?.getD undef = _ ∧ True := hf
        obtain ⟨f28, f17, -⟩ := F
        clear ho hf
        go_simp
        exact hK _ (Eq.refl _)
      refine And.intro (stepC_stay (pss := []) (by kernel_rfl) rfl 1 [17, 16, 15] [] (by kernel_rfl) (by kernel_rfl) ?_) ?_
      · intro act W uu hu hR hS hf ho K hK
        replace hS : (fun (_ : Nat → Value) (W : World) => W = (((w.alloc (.cells #[.bool x.strict, .int .i64 x.heap, .int .i64 x.full, .slice x.Ac x.comps.length x.cc, .slice x.Al x.links.length x.cl, .slice x.As x.shares.length x.cs] 26)).alloc (.cells #[.int .i64 fr, .int .i64 to, .int .i64 at'] 68)).alloc (.cells #[.bool (inB fr 0 (x.comps.length - 1)), .bool (inB to 0 (x.comps.length - 1)), .bool (fr != to)] 4)).drew) uu W := hS
        replace hK := fun (v : Value) (w' : World) (h1 : (fun _ _ : World => True) W w') h2 (h3 : (fun (_ : Nat → Value) (W : World) => W = (((w.alloc (.cells #[.bool x.strict, .int .i64 x.heap, .int .i64 x.full, .slice x.Ac x.comps.length x.cc, .slice x.Al x.links.length x.cl, .slice x.As x.shares.length x.cs] 26)).alloc (.cells #[.int .i64 fr, .int .i64 to, .int .i64 at'] 68)).alloc (.cells #[.bool (inB fr 0 (x.comps.length - 1)), .bool (inB to 0 (x.comps.length - 1)), .bool (fr != to)] 4)).drew) uu w') => hK v w' h1 h2 h3
        have F : act.tmps[28]?.getD undef = _ ∧ act.tmps[38]?.getD undef = _ ∧ act.tmps[26]?.getD undef = _ ∧ act.tmps[26]?.getD undef = _ ∧ True := hf
        obtain ⟨f19, f29, f17, -, -⟩ := F
        clear hu
        clear ho hf
        obtain rfl := hS
        go_simp
        exact hK _ _ trivial (Eq.refl _) rfl
      refine And.intro (stepC_pure (fun _ => trivial) (by kernel_rfl) ?_) ?_
      · intro act W hR hf ho K hK
        have F : act.tmps[26]?.getD undef = _ ∧ act.tmps[39]?.getD undef = _ ∧ True := hf
        obtain ⟨f17, f30, -⟩ := F
        clear ho hf
        go_simp
        exact hK _ (Eq.refl _)
      refine And.intro (stepC_pure (fun _ => trivial) (by kernel_rfl) ?_) ?_
      · intro act W hR hf ho K hK
        have F : act.tmps[40]?.getD undef = _ ∧ act.tmps[39]?.getD undef = _ ∧ act.tmps[9]?.getD undef = _ ∧ act.tmps[10]?.getD undef = _ ∧ act.tmps[11]?.getD undef = _ ∧ act.tmps[12]?.getD undef = _ ∧ act.tmps[13]?.getD undef = _ ∧ act.tmps[14]?.getD undef = _ ∧ act.tmps[15]?.getD undef = _ ∧ act.tmps[16]?.getD undef = _ ∧ act.tmps[17]?.getD undef = _ ∧ act.tmps[18]?.getD undef = _ ∧ act.tmps[19]?.getD undef = _ ∧ act.tmps[20]?.getD undef = _ ∧ act.tmps[21]?.getD undef = _ ∧ act.tmps[22]?.getD undef = _ ∧ act.tmps[23]?.getD undef = _ ∧ act.tmps[24]?.getD undef = _ ∧ act.tmps[25]?.getD undef = _ ∧ act.tmps[26]?.getD undef = _ ∧ act.tmps[27]?.getD undef = _ ∧ act.tmps[28]?.getD undef = _ ∧ act.tmps[29]?.getD undef = _ ∧ act.tmps[30]?.getD undef = _ ∧ act.tmps[31]?.getD undef = _ ∧ act.tmps[32]?.getD undef = _ ∧ act.tmps[33]?.getD undef = _ ∧ act.tmps[34]?.getD undef = _ ∧ act.tmps[35]?.getD undef = _ ∧ act.tmps[36]?.getD undef = _ ∧ act.tmps[37]?.getD undef = _ ∧ act.tmps[38]?.getD undef = _ ∧ act.tmps[39]?.getD undef = _ ∧ act.tmps[40]?.getD undef = _ ∧ True := hf
        obtain ⟨f31, f30, f0, f1, f2, f3, f4, f5, f6, f7, f8, f9, f10, f11, f12, f13, f14, f15, f16, f17, f18, f19, f20, f21, f22, f23, f24, f25, f26, f27, f28, f29, -, -, -⟩ := F
        clear ho hf
        go_simp
        exact hK _ (Eq.refl _)
      exact trivial
    case stab =>
      refine And.intro is_stable ?_
      refine And.intro is_stable ?_
      refine And.intro is_stable ?_
      refine And.intro is_stable ?_
      refine And.intro is_stable ?_
      refine And.intro is_stable ?_
      refine And.intro is_stable ?_
      refine And.intro is_stable ?_
      refine And.intro is_stable ?_
      refine And.intro is_stable ?_
      refine And.intro is_stable ?_
      refine And.intro is_stable ?_
      refine And.intro is_stable ?_
      refine And.intro is_stable ?_
      refine And.intro is_stable ?_
      refine And.intro is_stable ?_
      refine And.intro is_stable ?_
      refine And.intro is_stable ?_
      refine And.intro is_stable ?_
      refine And.intro is_stable ?_
      refine And.intro is_stable ?_
      refine And.intro is_stable ?_
      refine And.intro is_stable ?_
      refine And.intro is_stable ?_
      refine And.intro is_stable ?_
      refine And.intro is_stable ?_
      refine And.intro is_stable ?_
      refine And.intro is_stable ?_
      refine And.intro is_stable ?_
      refine And.intro is_stable ?_
      refine And.intro is_stable ?_
      refine And.intro is_stable ?_
      refine And.intro is_stable ?_
      exact trivial
    case ends =>
      intro vals W uu hu hR hS hall
      replace hS : (fun (_ : Nat → Value) (W : World) => W = (((w.alloc (.cells #[.bool x.strict, .int .i64 x.heap, .int .i64 x.full, .slice x.Ac x.comps.length x.cc, .slice x.Al x.links.length x.cl, .slice x.As x.shares.length x.cs] 26)).alloc (.cells #[.int .i64 fr, .int .i64 to, .int .i64 at'] 68)).alloc (.cells #[.bool (inB fr 0 (x.comps.length - 1)), .bool (inB to 0 (x.comps.length - 1)), .bool (fr != to)] 4)).drew) uu W := hS
      clear hu
      have e4 : vals 4 = _ := hall 32 (by decide)
      clear hall
      simp only [fill, List.setIfInBounds_toArray, List.set_cons_succ, List.set_cons_zero, e4]
      obtain rfl := hS
      go_wp2_with fail
      go_ret
      exact ⟨rfl, (by repeat first | (with_reducible exact Below.refl _ _) | (with_reducible apply Ext.alloc) | (with_reducible apply Ext.drew) | (with_reducible apply Ext.drewN) | (with_reducible refine Ext.set ?_ (by simp)))⟩
  | true =>
    obtain ⟨k, rfl⟩ : ∃ k : Nat, to = (k : Int) := by
      rw [Bool.and_eq_true, Bool.and_eq_true] at hG
      have := hG.1.2
      unfold inB at this
      rw [decide_eq_true_iff] at this
      exact ⟨to.toNat, by omega⟩
    have hk : k < x.comps.length := by
      rw [Bool.and_eq_true, Bool.and_eq_true] at hG
      have := hG.1.2
      unfold inB at this
      rw [decide_eq_true_iff] at this
      omega
    obtain ⟨bc, oc, hAc, hbc, q1⟩ := h.comps.flat (s := 2) (fun _ => rfl) (by decide) hk
    obtain ⟨-, -, hc1, hc2, -⟩ := h.codes x.comps[k] (List.getElem_mem hk)
    have hget : x.d.comps[(k : Int).toNat]? = some x.comps[k].d := by simp [ImgM.d, hk]
    rw [hG, Bool.true_and, hget] at hL
    simp only [CompM.d] at hL
    rw [hL]
    obtain ⟨y, hy⟩ : ∃ y, y = x.comps[k] := ⟨_, rfl⟩
    rw [← hy] at q1 hc1 hc2 ⊢
    have a0 : w.cell? ⟨bc, oc + k * 2, none⟩ = some (.slice y.A y.code.length y.cap) := by simpa using q1 0 _ rfl
    have hq1 : (y.code.length : Int).tdiv 4 = y.code.length / 4 := Int.tdiv_eq_ediv_of_nonneg (by omega)
    have hw3 : IntKind.i64.wrap ((y.code.length : Int) / 4) = (y.code.length : Int) / 4 := IntWalk.i64_in _ (by omega)
    have hw4 : IntKind.i64.wrap ((y.code.length : Int) / 4 - 1) = (y.code.length : Int) / 4 - 1 := IntWalk.i64_in _ (by omega)
    have HG := Lib.hid hG
    clear hG hL hcl h q1 hget hy hc1 hc2
    rw [show x.val = .agg #[.bool x.strict, .int .i64 x.heap, .int .i64 x.full, .slice x.Ac x.comps.length x.cc, .slice x.Al x.links.length x.cl, .slice x.As x.shares.length x.cs] from rfl]
    go_enter Try.func54, Try.ntmps54
    go_wp2_with fail
    refine wp_region_stage (fun _ _ : World => True) [15] [(fun (_ : Nat → Value) (W : World) => W = ((w.alloc (.cells #[.bool x.strict, .int .i64 x.heap, .int .i64 x.full, .slice (some ⟨bc, oc, none⟩) x.comps.length x.cc, .slice x.Al x.links.length x.cl, .slice x.As x.shares.length x.cs] 26)).alloc (.cells #[.int .i64 fr, .int .i64 (k : Int), .int .i64 at'] 68)).drew), (fun (_ : Nat → Value) (W : World) => W = (((w.alloc (.cells #[.bool x.strict, .int .i64 x.heap, .int .i64 x.full, .slice (some ⟨bc, oc, none⟩) x.comps.length x.cc, .slice x.Al x.links.length x.cl, .slice x.As x.shares.length x.cs] 26)).alloc (.cells #[.int .i64 fr, .int .i64 (k : Int), .int .i64 at'] 68)).alloc (.cells #[.bool (inB fr 0 (x.comps.length - 1)), .bool (inB (k : Int) 0 (x.comps.length - 1)), .bool (fr != (k : Int))] 4)).drew)] [9, 10, 11, 12, 13, 14, 15, 16, 17, 18, 19, 20, 21, 22, 23, 24, 25, 26, 27, 28, 29, 30, 31, 32, 33, 34, 35, 36, 37, 38, 39, 40, 4] (by kernel_rfl) (fun _ => trivial) (fun _ _ _ _ _ => trivial) (by kernel_rfl) (by kernel_rfl) (by kernel_rfl) ?start ?_
    case start => rfl
    apply ex_is; apply Exists.intro
    apply ex_is; apply Exists.intro
    apply ex_is; apply Exists.intro
    apply ex_is; apply Exists.intro
    apply ex_is; apply Exists.intro
    apply ex_is; apply Exists.intro
    apply ex_is; apply Exists.intro
    apply ex_is; apply Exists.intro
    apply ex_is; apply Exists.intro
    apply ex_is; apply Exists.intro
    apply ex_is; apply Exists.intro
    apply ex_is; apply Exists.intro
    apply ex_is; apply Exists.intro
    apply ex_is; apply Exists.intro
    apply ex_is; apply Exists.intro
    apply ex_is; apply Exists.intro
    apply ex_is; apply Exists.intro
    apply ex_is; apply Exists.intro
    apply ex_is; apply Exists.intro
    apply ex_is; apply Exists.intro
    apply ex_is; apply Exists.intro
    apply ex_is; apply Exists.intro
    apply ex_is; apply Exists.intro
    apply ex_is; apply Exists.intro
    apply ex_is; apply Exists.intro
    apply ex_is; apply Exists.intro
    apply ex_is; apply Exists.intro
    apply ex_is; apply Exists.intro
    apply ex_is; apply Exists.intro
    apply ex_is; apply Exists.intro
    apply ex_is; apply Exists.intro
    apply ex_is; apply Exists.intro
    apply ex_is; apply Exists.intro
    refine ⟨[], ⟨?steps, ?stab, ?ends⟩⟩
    case steps =>
      refine And.intro (stepC_pure (fun _ => trivial) (by kernel_rfl) ?_) ?_
      · intro act W hR hf ho K hK
        have G : act.tmps[3]?.getD undef = _ ∧ True := ho
        obtain ⟨g3, -⟩ := G
        clear ho hf
        go_simp
        exact hK _ (Eq.refl _)
      refine And.intro (stepC_stay (pss := []) (by kernel_rfl) rfl 0 [] [4, 1] (by kernel_rfl) (by kernel_rfl) ?_) ?_
      · intro act W uu hu hR hS hf ho K hK
        replace hS : (fun (_ : Nat → Value) (W : World) => W = ((w.alloc (.cells #[.bool x.strict, .int .i64 x.heap, .int .i64 x.full, .slice (some ⟨bc, oc, none⟩) x.comps.length x.cc, .slice x.Al x.links.length x.cl, .slice x.As x.shares.length x.cs] 26)).alloc (.cells #[.int .i64 fr, .int .i64 (k : Int), .int .i64 at'] 68)).drew) uu W := hS
        replace hK := fun (v : Value) (w' : World) (h1 : (fun _ _ : World => True) W w') h2 (h3 : (fun (_ : Nat → Value) (W : World) => W = ((w.alloc (.cells #[.bool x.strict, .int .i64 x.heap, .int .i64 x.full, .slice (some ⟨bc, oc, none⟩) x.comps.length x.cc, .slice x.Al x.links.length x.cl, .slice x.As x.shares.length x.cs] 26)).alloc (.cells #[.int .i64 fr, .int .i64 (k : Int), .int .i64 at'] 68)).drew) uu w') => hK v w' h1 h2 h3
        have F : act.tmps[9]?.getD undef = _ ∧ True := hf
        obtain ⟨f0, -⟩ := F
        clear hu
        clear ho hf
        obtain rfl := hS
        go_simp
        exact hK _ _ trivial (Eq.refl _) rfl
      refine And.intro (stepC_pure (fun _ => trivial) (by kernel_rfl) ?_) ?_
      · intro act W hR hf ho K hK
        have G : act.tmps[5]?.getD undef = _ ∧ True := ho
        obtain ⟨g5, -⟩ := G
        clear ho hf
        go_simp
        exact hK _ (Eq.refl _)
      refine And.intro (stepC_pure (fun _ => trivial) (by kernel_rfl) ?_) ?_
      · intro act W hR hf ho K hK
        have F : act.tmps[11]?.getD undef = _ ∧ True := hf
        obtain ⟨f2, -⟩ := F
        clear ho hf
        go_simp
        exact hK _ (Eq.refl _)
      refine And.intro (stepC_stay (pss := []) (by kernel_rfl) rfl 0 [] [4] (by kernel_rfl) (by kernel_rfl) ?_) ?_
      · intro act W uu hu hR hS hf ho K hK
        replace hS : (fun (_ : Nat → Value) (W : World) => W = ((w.alloc (.cells #[.bool x.strict, .int .i64 x.heap, .int .i64 x.full, .slice (some ⟨bc, oc, none⟩) x.comps.length x.cc, .slice x.Al x.links.length x.cl, .slice x.As x.shares.length x.cs] 26)).alloc (.cells #[.int .i64 fr, .int .i64 (k : Int), .int .i64 at'] 68)).drew) uu W := hS
        replace hK := fun (v : Value) (w' : World) (h1 : (fun _ _ : World => True) W w') h2 (h3 : (fun (_ : Nat → Value) (W : World) => W = ((w.alloc (.cells #[.bool x.strict, .int .i64 x.heap, .int .i64 x.full, .slice (some ⟨bc, oc, none⟩) x.comps.length x.cc, .slice x.Al x.links.length x.cl, .slice x.As x.shares.length x.cs] 26)).alloc (.cells #[.int .i64 fr, .int .i64 (k : Int), .int .i64 at'] 68)).drew) uu w') => hK v w' h1 h2 h3
        have F : act.tmps[10]?.getD undef = _ ∧ act.tmps[12]?.getD undef = _ ∧ True := hf
        obtain ⟨f1, f3, -⟩ := F
        clear hu
        clear ho hf
        go_simp
        refine (within_any _ _ _ _).mono ?_; subst hS; rintro e W1 ⟨rfl, rfl⟩; exact hK _ _ trivial (Eq.refl _) rfl
      refine And.intro (stepC_pure (fun _ => trivial) (by kernel_rfl) ?_) ?_
      · intro act W hR hf ho K hK
        have G : act.tmps[3]?.getD undef = _ ∧ True := ho
        obtain ⟨g3, -⟩ := G
        clear ho hf
        go_simp
        exact hK _ (Eq.refl _)
      refine And.intro (stepC_stay (pss := []) (by kernel_rfl) rfl 0 [] [9, 6] (by kernel_rfl) (by kernel_rfl) ?_) ?_
      · intro act W uu hu hR hS hf ho K hK
        replace hS : (fun (_ : Nat → Value) (W : World) => W = ((w.alloc (.cells #[.bool x.strict, .int .i64 x.heap, .int .i64 x.full, .slice (some ⟨bc, oc, none⟩) x.comps.length x.cc, .slice x.Al x.links.length x.cl, .slice x.As x.shares.length x.cs] 26)).alloc (.cells #[.int .i64 fr, .int .i64 (k : Int), .int .i64 at'] 68)).drew) uu W := hS
        replace hK := fun (v : Value) (w' : World) (h1 : (fun _ _ : World => True) W w') h2 (h3 : (fun (_ : Nat → Value) (W : World) => W = ((w.alloc (.cells #[.bool x.strict, .int .i64 x.heap, .int .i64 x.full, .slice (some ⟨bc, oc, none⟩) x.comps.length x.cc, .slice x.Al x.links.length x.cl, .slice x.As x.shares.length x.cs] 26)).alloc (.cells #[.int .i64 fr, .int .i64 (k : Int), .int .i64 at'] 68)).drew) uu w') => hK v w' h1 h2 h3
        have F : act.tmps[14]?.getD undef = _ ∧ True := hf
        obtain ⟨f5, -⟩ := F
        clear hu
        clear ho hf
        obtain rfl := hS
        go_simp
        exact hK _ _ trivial (Eq.refl _) rfl
      refine And.intro (stepC_pure (fun _ => trivial) (by kernel_rfl) ?_) ?_
      · intro act W hR hf ho K hK
        have G : act.tmps[5]?.getD undef = _ ∧ True := ho
        obtain ⟨g5, -⟩ := G
        clear ho hf
        go_simp
        exact hK _ (Eq.refl _)
      refine And.intro (stepC_pure (fun _ => trivial) (by kernel_rfl) ?_) ?_
      · intro act W hR hf ho K hK
        have F : act.tmps[16]?.getD undef = _ ∧ True := hf
        obtain ⟨f7, -⟩ := F
        clear ho hf
        go_simp
        exact hK _ (Eq.refl _)
      refine And.intro (stepC_stay (pss := []) (by kernel_rfl) rfl 0 [] [9] (by kernel_rfl) (by kernel_rfl) ?_) ?_
      · intro act W uu hu hR hS hf ho K hK
        replace hS : (fun (_ : Nat → Value) (W : World) => W = ((w.alloc (.cells #[.bool x.strict, .int .i64 x.heap, .int .i64 x.full, .slice (some ⟨bc, oc, none⟩) x.comps.length x.cc, .slice x.Al x.links.length x.cl, .slice x.As x.shares.length x.cs] 26)).alloc (.cells #[.int .i64 fr, .int .i64 (k : Int), .int .i64 at'] 68)).drew) uu W := hS
        replace hK := fun (v : Value) (w' : World) (h1 : (fun _ _ : World => True) W w') h2 (h3 : (fun (_ : Nat → Value) (W : World) => W = ((w.alloc (.cells #[.bool x.strict, .int .i64 x.heap, .int .i64 x.full, .slice (some ⟨bc, oc, none⟩) x.comps.length x.cc, .slice x.Al x.links.length x.cl, .slice x.As x.shares.length x.cs] 26)).alloc (.cells #[.int .i64 fr, .int .i64 (k : Int), .int .i64 at'] 68)).drew) uu w') => hK v w' h1 h2 h3
        have F : act.tmps[15]?.getD undef = _ ∧ act.tmps[17]?.getD undef = _ ∧ act.tmps[13]?.getD undef = _ ∧ True := hf
        obtain ⟨f6, f8, f4, -⟩ := F
        clear hu
        clear ho hf
        go_simp
        refine (within_any _ _ _ _).mono ?_; subst hS; rintro e W1 ⟨rfl, rfl⟩; exact hK _ _ trivial (Eq.refl _) rfl
      refine And.intro (stepC_pure (fun _ => trivial) (by kernel_rfl) ?_) ?_
      · intro act W hR hf ho K hK
        have G : act.tmps[3]?.getD undef = _ ∧ True := ho
        obtain ⟨g3, -⟩ := G
        clear ho hf
        go_simp
        exact hK _ (Eq.refl _)
      refine And.intro (stepC_stay (pss := []) (by kernel_rfl) rfl 0 [] [14, 11] (by kernel_rfl) (by kernel_rfl) ?_) ?_
      · intro act W uu hu hR hS hf ho K hK
        replace hS : (fun (_ : Nat → Value) (W : World) => W = ((w.alloc (.cells #[.bool x.strict, .int .i64 x.heap, .int .i64 x.full, .slice (some ⟨bc, oc, none⟩) x.comps.length x.cc, .slice x.Al x.links.length x.cl, .slice x.As x.shares.length x.cs] 26)).alloc (.cells #[.int .i64 fr, .int .i64 (k : Int), .int .i64 at'] 68)).drew) uu W := hS
        replace hK := fun (v : Value) (w' : World) (h1 : (fun _ _ : World => True) W w') h2 (h3 : (fun (_ : Nat → Value) (W : World) => W = ((w.alloc (.cells #[.bool x.strict, .int .i64 x.heap, .int .i64 x.full, .slice (some ⟨bc, oc, none⟩) x.comps.length x.cc, .slice x.Al x.links.length x.cl, .slice x.As x.shares.length x.cs] 26)).alloc (.cells #[.int .i64 fr, .int .i64 (k : Int), .int .i64 at'] 68)).drew) uu w') => hK v w' h1 h2 h3
        have F : act.tmps[19]?.getD undef = _ ∧ True := hf
        obtain ⟨f10, -⟩ := F
        clear hu
        clear ho hf
        obtain rfl := hS
        go_simp
        exact hK _ _ trivial (Eq.refl _) rfl
      refine And.intro (stepC_pure (fun _ => trivial) (by kernel_rfl) ?_) ?_
      · intro act W hR hf ho K hK
        have G : act.tmps[3]?.getD undef = _ ∧ True := ho
        obtain ⟨g3, -⟩ := G
        clear ho hf
        go_simp
        exact hK _ (Eq.refl _)
      refine And.intro (stepC_stay (pss := []) (by kernel_rfl) rfl 0 [] [14, 13] (by kernel_rfl) (by kernel_rfl) ?_) ?_
      · intro act W uu hu hR hS hf ho K hK
        replace hS : (fun (_ : Nat → Value) (W : World) => W = ((w.alloc (.cells #[.bool x.strict, .int .i64 x.heap, .int .i64 x.full, .slice (some ⟨bc, oc, none⟩) x.comps.length x.cc, .slice x.Al x.links.length x.cl, .slice x.As x.shares.length x.cs] 26)).alloc (.cells #[.int .i64 fr, .int .i64 (k : Int), .int .i64 at'] 68)).drew) uu W := hS
        replace hK := fun (v : Value) (w' : World) (h1 : (fun _ _ : World => True) W w') h2 (h3 : (fun (_ : Nat → Value) (W : World) => W = ((w.alloc (.cells #[.bool x.strict, .int .i64 x.heap, .int .i64 x.full, .slice (some ⟨bc, oc, none⟩) x.comps.length x.cc, .slice x.Al x.links.length x.cl, .slice x.As x.shares.length x.cs] 26)).alloc (.cells #[.int .i64 fr, .int .i64 (k : Int), .int .i64 at'] 68)).drew) uu w') => hK v w' h1 h2 h3
        have F : act.tmps[21]?.getD undef = _ ∧ True := hf
        obtain ⟨f12, -⟩ := F
        clear hu
        clear ho hf
        obtain rfl := hS
        go_simp
        exact hK _ _ trivial (Eq.refl _) rfl
      refine And.intro (stepC_pure (fun _ => trivial) (by kernel_rfl) ?_) ?_
      · intro act W hR hf ho K hK
        have F : act.tmps[20]?.getD undef = _ ∧ act.tmps[22]?.getD undef = _ ∧ True := hf
        obtain ⟨f11, f13, -⟩ := F
        clear ho hf
        go_simp
        exact hK _ (Eq.refl _)
      refine And.intro (stepC_mark (pss := []) (by kernel_rfl) (by decide) rfl 0 [] (by kernel_rfl) rfl ?_) ?_
      · intro act W uu hu hR hS hf ho K hK
        replace hS : (fun (_ : Nat → Value) (W : World) => W = ((w.alloc (.cells #[.bool x.strict, .int .i64 x.heap, .int .i64 x.full, .slice (some ⟨bc, oc, none⟩) x.comps.length x.cc, .slice x.Al x.links.length x.cl, .slice x.As x.shares.length x.cs] 26)).alloc (.cells #[.int .i64 fr, .int .i64 (k : Int), .int .i64 at'] 68)).drew) uu W := hS
        replace hK := fun (v : Value) (w' : World) (h1 : (fun _ _ : World => True) W w') h2 (h3 : (fun (_ : Nat → Value) (W : World) => W = (((w.alloc (.cells #[.bool x.strict, .int .i64 x.heap, .int .i64 x.full, .slice (some ⟨bc, oc, none⟩) x.comps.length x.cc, .slice x.Al x.links.length x.cl, .slice x.As x.shares.length x.cs] 26)).alloc (.cells #[.int .i64 fr, .int .i64 (k : Int), .int .i64 at'] 68)).alloc (.cells #[.bool (inB fr 0 (x.comps.length - 1)), .bool (inB (k : Int) 0 (x.comps.length - 1)), .bool (fr != (k : Int))] 4)).drew) (upd uu 15 v) w') => hK v w' h1 h2 h3
        have F : act.tmps[13]?.getD undef = _ ∧ act.tmps[18]?.getD undef = _ ∧ act.tmps[23]?.getD undef = _ ∧ True := hf
        obtain ⟨f4, f9, f14, -⟩ := F
        clear hu
        clear ho hf
        go_simp
        subst hS; exact hK _ _ trivial (Eq.refl _) rfl
      refine And.intro (stepC_stay (pss := []) (by kernel_rfl) rfl 1 [15] [] (by kernel_rfl) (by kernel_rfl) ?_) ?_
      · intro act W uu hu hR hS hf ho K hK
        replace hS : (fun (_ : Nat → Value) (W : World) => W = (((w.alloc (.cells #[.bool x.strict, .int .i64 x.heap, .int .i64 x.full, .slice (some ⟨bc, oc, none⟩) x.comps.length x.cc, .slice x.Al x.links.length x.cl, .slice x.As x.shares.length x.cs] 26)).alloc (.cells #[.int .i64 fr, .int .i64 (k : Int), .int .i64 at'] 68)).alloc (.cells #[.bool (inB fr 0 (x.comps.length - 1)), .bool (inB (k : Int) 0 (x.comps.length - 1)), .bool (fr != (k : Int))] 4)).drew) uu W := hS
        replace hK := fun (v : Value) (w' : World) (h1 : (fun _ _ : World => True) W w') h2 (h3 : (fun (_ : Nat → Value) (W : World) => W = (((w.alloc (.cells #[.bool x.strict, .int .i64 x.heap, .int .i64 x.full, .slice (some ⟨bc, oc, none⟩) x.comps.length x.cc, .slice x.Al x.links.length x.cl, .slice x.As x.shares.length x.cs] 26)).alloc (.cells #[.int .i64 fr, .int .i64 (k : Int), .int .i64 at'] 68)).alloc (.cells #[.bool (inB fr 0 (x.comps.length - 1)), .bool (inB (k : Int) 0 (x.comps.length - 1)), .bool (fr != (k : Int))] 4)).drew) uu w') => hK v w' h1 h2 h3
        have F : act.tmps[24]?.getD undef = _ ∧ act.tmps[18]?.getD undef = _ ∧ True := hf
        obtain ⟨f15, f9, -⟩ := F
        clear hu
        clear ho hf
        go_simp
        subst hS; refine (must3 _ _ _ _ _ (new_at (w := ((w.alloc (.cells #[.bool x.strict, .int .i64 x.heap, .int .i64 x.full, .slice (some ⟨bc, oc, none⟩) x.comps.length x.cc, .slice x.Al x.links.length x.cl, .slice x.As x.shares.length x.cs] 26)).alloc (.cells #[.int .i64 fr, .int .i64 (k : Int), .int .i64 at'] 68))) (by simp) (by repeat first | (with_reducible exact Below.refl _ _) | (with_reducible apply Ext.alloc) | (with_reducible apply Ext.drew) | (with_reducible apply Ext.drewN) | (with_reducible refine Ext.set ?_ (by simp))))).mono ?_; rintro e W1 ⟨he, rfl⟩; rw [HG.out] at he; subst he; exact hK _ _ trivial (Eq.refl _) rfl
      refine And.intro (stepC_pure (fun _ => trivial) (by kernel_rfl) ?_) ?_
      · intro act W hR hf ho K hK
        have F : act.tmps[25]?.getD undef = _ ∧ act.tmps[25]?.getD undef = _ ∧ True := hf
        obtain ⟨f16, -, -⟩ := F
        clear ho hf
        go_simp
        exact hK _ (Eq.refl _)
      refine And.intro (stepC_pure (fun _ => trivial) (by kernel_rfl) ?_) ?_
      · intro act W hR hf ho K hK
        have G : act.tmps[3]?.getD undef = _ ∧ True := ho
        obtain ⟨g3, -⟩ := G
        have F : act.tmps[26]?.getD undef = _ ∧ True := hf
        obtain ⟨f17, -⟩ := F
        clear ho hf
        go_simp
        exact hK _ (Eq.refl _)
      refine And.intro (stepC_stay (pss := []) (by kernel_rfl) rfl 1 [17, 16, 15] [] (by kernel_rfl) (by kernel_rfl) ?_) ?_
      · intro act W uu hu hR hS hf ho K hK
        replace hS : (fun (_ : Nat → Value) (W : World) => W = (((w.alloc (.cells #[.bool x.strict, .int .i64 x.heap, .int .i64 x.full, .slice (some ⟨bc, oc, none⟩) x.comps.length x.cc, .slice x.Al x.links.length x.cl, .slice x.As x.shares.length x.cs] 26)).alloc (.cells #[.int .i64 fr, .int .i64 (k : Int), .int .i64 at'] 68)).alloc (.cells #[.bool (inB fr 0 (x.comps.length - 1)), .bool (inB (k : Int) 0 (x.comps.length - 1)), .bool (fr != (k : Int))] 4)).drew) uu W := hS
        replace hK := fun (v : Value) (w' : World) (h1 : (fun _ _ : World => True) W w') h2 (h3 : (fun (_ : Nat → Value) (W : World) => W = (((w.alloc (.cells #[.bool x.strict, .int .i64 x.heap, .int .i64 x.full, .slice (some ⟨bc, oc, none⟩) x.comps.length x.cc, .slice x.Al x.links.length x.cl, .slice x.As x.shares.length x.cs] 26)).alloc (.cells #[.int .i64 fr, .int .i64 (k : Int), .int .i64 at'] 68)).alloc (.cells #[.bool (inB fr 0 (x.comps.length - 1)), .bool (inB (k : Int) 0 (x.comps.length - 1)), .bool (fr != (k : Int))] 4)).drew) uu w') => hK v w' h1 h2 h3
        have F : act.tmps[27]?.getD undef = _ ∧ act.tmps[26]?.getD undef = _ ∧ True := hf
        obtain ⟨f18, f17, -⟩ := F
        clear hu
        clear ho hf
        obtain rfl := hS
        go_simp
        exact hK _ _ trivial (Eq.refl _) rfl
      refine And.intro (stepC_pure (fun _ => trivial) (by kernel_rfl) ?_) ?_
      · intro act W hR hf ho K hK
        have G : act.tmps[2]?.getD undef = _ ∧ True := ho
        obtain ⟨g2, -⟩ := G
        have F : act.tmps[26]?.getD undef = _ ∧ True := hf
        obtain ⟨f17, -⟩ := F
        clear ho hf
        go_simp
        exact hK _ (Eq.refl _)
      refine And.intro (stepC_stay (pss := []) (by kernel_rfl) rfl 1 [17, 16, 15] [] (by kernel_rfl) (by kernel_rfl) ?_) ?_
      · intro act W uu hu hR hS hf ho K hK
        replace hS : (fun (_ : Nat → Value) (W : World) => W = (((w.alloc (.cells #[.bool x.strict, .int .i64 x.heap, .int .i64 x.full, .slice (some ⟨bc, oc, none⟩) x.comps.length x.cc, .slice x.Al x.links.length x.cl, .slice x.As x.shares.length x.cs] 26)).alloc (.cells #[.int .i64 fr, .int .i64 (k : Int), .int .i64 at'] 68)).alloc (.cells #[.bool (inB fr 0 (x.comps.length - 1)), .bool (inB (k : Int) 0 (x.comps.length - 1)), .bool (fr != (k : Int))] 4)).drew) uu W := hS
        replace hK := fun (v : Value) (w' : World) (h1 : (fun _ _ : World => True) W w') h2 (h3 : (fun (_ : Nat → Value) (W : World) => W = (((w.alloc (.cells #[.bool x.strict, .int .i64 x.heap, .int .i64 x.full, .slice (some ⟨bc, oc, none⟩) x.comps.length x.cc, .slice x.Al x.links.length x.cl, .slice x.As x.shares.length x.cs] 26)).alloc (.cells #[.int .i64 fr, .int .i64 (k : Int), .int .i64 at'] 68)).alloc (.cells #[.bool (inB fr 0 (x.comps.length - 1)), .bool (inB (k : Int) 0 (x.comps.length - 1)), .bool (fr != (k : Int))] 4)).drew) uu w') => hK v w' h1 h2 h3
        have F : act.tmps[29]?.getD undef = _ ∧ act.tmps[26]?.getD undef = _ ∧ True := hf
        obtain ⟨f20, f17, -⟩ := F
        clear hu
        clear ho hf
        obtain rfl := hS
        go_simp
        exact hK _ _ trivial (Eq.refl _) rfl
      refine And.intro (stepC_pure (fun _ => trivial) (by kernel_rfl) ?_) ?_
      · intro act W hR hf ho K hK
        have G : act.tmps[3]?.getD undef = _ ∧ True := ho
        obtain ⟨g3, -⟩ := G
        have F : act.tmps[26]?.getD undef = _ ∧ True := hf
        obtain ⟨f17, -⟩ := F
        clear ho hf
        go_simp
        exact hK _ (Eq.refl _)
      refine And.intro (stepC_stay (pss := []) (by kernel_rfl) rfl 1 [17, 16, 15] [] (by kernel_rfl) (by kernel_rfl) ?_) ?_
      · intro act W uu hu hR hS hf ho K hK
        replace hS : (fun (_ : Nat → Value) (W : World) => W = (((w.alloc (.cells #[.bool x.strict, .int .i64 x.heap, .int .i64 x.full, .slice (some ⟨bc, oc, none⟩) x.comps.length x.cc, .slice x.Al x.links.length x.cl, .slice x.As x.shares.length x.cs] 26)).alloc (.cells #[.int .i64 fr, .int .i64 (k : Int), .int .i64 at'] 68)).alloc (.cells #[.bool (inB fr 0 (x.comps.length - 1)), .bool (inB (k : Int) 0 (x.comps.length - 1)), .bool (fr != (k : Int))] 4)).drew) uu W := hS
        replace hK := fun (v : Value) (w' : World) (h1 : (fun _ _ : World => True) W w') h2 (h3 : (fun (_ : Nat → Value) (W : World) => W = (((w.alloc (.cells #[.bool x.strict, .int .i64 x.heap, .int .i64 x.full, .slice (some ⟨bc, oc, none⟩) x.comps.length x.cc, .slice x.Al x.links.length x.cl, .slice x.As x.shares.length x.cs] 26)).alloc (.cells #[.int .i64 fr, .int .i64 (k : Int), .int .i64 at'] 68)).alloc (.cells #[.bool (inB fr 0 (x.comps.length - 1)), .bool (inB (k : Int) 0 (x.comps.length - 1)), .bool (fr != (k : Int))] 4)).drew) uu w') => hK v w' h1 h2 h3
        have F : act.tmps[31]?.getD undef = _ ∧ act.tmps[26]?.getD undef = _ ∧ True := hf
        obtain ⟨f22, f17, -⟩ := F
        clear hu
        clear ho hf
        obtain rfl := hS
        go_simp
        exact hK _ _ trivial (Eq.refl _) rfl
      refine And.intro (stepC_pure (fun _ => trivial) (by kernel_rfl) ?_) ?_
      · intro act W hR hf ho K hK
        have F : act.tmps[30]?.getD undef = _ ∧ act.tmps[32]?.getD undef = _ ∧ act.tmps[26]?.getD undef = _ ∧ True := hf
        obtain ⟨f21, f23, f17, -⟩ := F
        clear ho hf
        go_simp
        exact hK _ (Eq.refl _)
      refine And.intro (stepC_pure (fun _ => trivial) (by kernel_rfl) ?_) ?_
      · intro act W hR hf ho K hK
        have F : act.tmps[33]?.getD undef = _ ∧ act.tmps[26]?.getD undef = _ ∧ True := hf
        obtain ⟨f24, f17, -⟩ := F
        clear ho hf
        go_simp
        exact hK _ (Eq.refl _)
      refine And.intro (stepC_stay (pss := []) (by kernel_rfl) rfl 1 [17, 16, 15] [] (by kernel_rfl) (by kernel_rfl) ?_) ?_
      · intro act W uu hu hR hS hf ho K hK
        replace hS : (fun (_ : Nat → Value) (W : World) => W = (((w.alloc (.cells #[.bool x.strict, .int .i64 x.heap, .int .i64 x.full, .slice (some ⟨bc, oc, none⟩) x.comps.length x.cc, .slice x.Al x.links.length x.cl, .slice x.As x.shares.length x.cs] 26)).alloc (.cells #[.int .i64 fr, .int .i64 (k : Int), .int .i64 at'] 68)).alloc (.cells #[.bool (inB fr 0 (x.comps.length - 1)), .bool (inB (k : Int) 0 (x.comps.length - 1)), .bool (fr != (k : Int))] 4)).drew) uu W := hS
        replace hK := fun (v : Value) (w' : World) (h1 : (fun _ _ : World => True) W w') h2 (h3 : (fun (_ : Nat → Value) (W : World) => W = (((w.alloc (.cells #[.bool x.strict, .int .i64 x.heap, .int .i64 x.full, .slice (some ⟨bc, oc, none⟩) x.comps.length x.cc, .slice x.Al x.links.length x.cl, .slice x.As x.shares.length x.cs] 26)).alloc (.cells #[.int .i64 fr, .int .i64 (k : Int), .int .i64 at'] 68)).alloc (.cells #[.bool (inB fr 0 (x.comps.length - 1)), .bool (inB (k : Int) 0 (x.comps.length - 1)), .bool (fr != (k : Int))] 4)).drew) uu w') => hK v w' h1 h2 h3
        have F : act.tmps[34]?.getD undef = _ ∧ act.tmps[26]?.getD undef = _ ∧ True := hf
        obtain ⟨f25, f17, -⟩ := F
        clear hu
        clear ho hf
        obtain rfl := hS; have c0 := ext_cell (show Ext w (((w.alloc (.cells #[.bool x.strict, .int .i64 x.heap, .int .i64 x.full, .slice (some ⟨bc, oc, none⟩) x.comps.length x.cc, .slice x.Al x.links.length x.cl, .slice x.As x.shares.length x.cs] 26)).alloc (.cells #[.int .i64 fr, .int .i64 (k : Int), .int .i64 at'] 68)).alloc (.cells #[.bool (inB fr 0 (x.comps.length - 1)), .bool (inB (k : Int) 0 (x.comps.length - 1)), .bool (fr != (k : Int))] 4)).drew from (by repeat first | (with_reducible exact Below.refl _ _) | (with_reducible apply Ext.alloc) | (with_reducible apply Ext.drew) | (with_reducible apply Ext.drewN) | (with_reducible refine Ext.set ?_ (by simp)))) _ _ a0
        go_simp
        exact hK _ _ trivial (Eq.refl _) rfl
      refine And.intro (stepC_stay (pss := []) (by kernel_rfl) rfl 1 [17, 16, 15] [] (by kernel_rfl) (by kernel_rfl) ?_) ?_
      · intro act W uu hu hR hS hf ho K hK
        replace hS : (fun (_ : Nat → Value) (W : World) => W = (((w.alloc (.cells #[.bool x.strict, .int .i64 x.heap, .int .i64 x.full, .slice (some ⟨bc, oc, none⟩) x.comps.length x.cc, .slice x.Al x.links.length x.cl, .slice x.As x.shares.length x.cs] 26)).alloc (.cells #[.int .i64 fr, .int .i64 (k : Int), .int .i64 at'] 68)).alloc (.cells #[.bool (inB fr 0 (x.comps.length - 1)), .bool (inB (k : Int) 0 (x.comps.length - 1)), .bool (fr != (k : Int))] 4)).drew) uu W := hS
        replace hK := fun (v : Value) (w' : World) (h1 : (fun _ _ : World => True) W w') h2 (h3 : (fun (_ : Nat → Value) (W : World) => W = (((w.alloc (.cells #[.bool x.strict, .int .i64 x.heap, .int .i64 x.full, .slice (some ⟨bc, oc, none⟩) x.comps.length x.cc, .slice x.Al x.links.length x.cl, .slice x.As x.shares.length x.cs] 26)).alloc (.cells #[.int .i64 fr, .int .i64 (k : Int), .int .i64 at'] 68)).alloc (.cells #[.bool (inB fr 0 (x.comps.length - 1)), .bool (inB (k : Int) 0 (x.comps.length - 1)), .bool (fr != (k : Int))] 4)).drew) uu w') => hK v w' h1 h2 h3
        have F : act.tmps[35]?.getD undef = _ ∧ act.tmps[26]?.getD undef = _ ∧ True := hf
        obtain ⟨f26, f17, -⟩ := F
        clear hu
        clear ho hf
        obtain rfl := hS
        go_simp
        exact hK _ _ trivial (Eq.refl _) rfl
      refine And.intro (stepC_pure (fun _ => trivial) (by kernel_rfl) ?_) ?_
      · intro act W hR hf ho K hK
        have F : act.tmps[36]?.getD undef = _ ∧ act.tmps[26]?.getD undef = _ ∧ True := hf
        obtain ⟨f27, f17, -⟩ := F
        clear ho hf
        go_simp
        exact hK _ (Eq.refl _)
      refine And.intro (stepC_pure (fun _ => trivial) (by kernel_rfl) ?_) ?_
      · intro act W hR hf ho K hK
        have F : act.tmps[37]?.getD undef = _ ∧ act.tmps[26]?.getD undef = _ ∧ True := hf
        obtain ⟨f28, f17, -⟩ := F
        clear ho hf
        go_simp
        exact hK _ (Eq.refl _)
      refine And.intro (stepC_stay (pss := []) (by kernel_rfl) rfl 1 [17, 16, 15] [] (by kernel_rfl) (by kernel_rfl) ?_) ?_
      · intro act W uu hu hR hS hf ho K hK
        replace hS : (fun (_ : Nat → Value) (W : World) => W = (((w.alloc (.cells #[.bool x.strict, .int .i64 x.heap, .int .i64 x.full, .slice (some ⟨bc, oc, none⟩) x.comps.length x.cc, .slice x.Al x.links.length x.cl, .slice x.As x.shares.length x.cs] 26)).alloc (.cells #[.int .i64 fr, .int .i64 (k : Int), .int .i64 at'] 68)).alloc (.cells #[.bool (inB fr 0 (x.comps.length - 1)), .bool (inB (k : Int) 0 (x.comps.length - 1)), .bool (fr != (k : Int))] 4)).drew) uu W := hS
        replace hK := fun (v : Value) (w' : World) (h1 : (fun _ _ : World => True) W w') h2 (h3 : (fun (_ : Nat → Value) (W : World) => W = (((w.alloc (.cells #[.bool x.strict, .int .i64 x.heap, .int .i64 x.full, .slice (some ⟨bc, oc, none⟩) x.comps.length x.cc, .slice x.Al x.links.length x.cl, .slice x.As x.shares.length x.cs] 26)).alloc (.cells #[.int .i64 fr, .int .i64 (k : Int), .int .i64 at'] 68)).alloc (.cells #[.bool (inB fr 0 (x.comps.length - 1)), .bool (inB (k : Int) 0 (x.comps.length - 1)), .bool (fr != (k : Int))] 4)).drew) uu w') => hK v w' h1 h2 h3
        have F : act.tmps[28]?.getD undef = _ ∧ act.tmps[38]?.getD undef = _ ∧ act.tmps[26]?.getD undef = _ ∧ act.tmps[26]?.getD undef = _ ∧ True := hf
        obtain ⟨f19, f29, f17, -, -⟩ := F
        clear hu
        clear ho hf
        go_simp
        refine (within_any _ _ _ _).mono ?_; subst hS; rintro e W1 ⟨rfl, rfl⟩; exact hK _ _ trivial (Eq.refl _) rfl
      refine And.intro (stepC_pure (fun _ => trivial) (by kernel_rfl) ?_) ?_
      · intro act W hR hf ho K hK
        have F : act.tmps[26]?.getD undef = _ ∧ act.tmps[39]?.getD undef = _ ∧ True := hf
        obtain ⟨f17, f30, -⟩ := F
        clear ho hf
        go_simp
        exact hK _ (Eq.refl _)
      refine And.intro (stepC_pure (fun _ => trivial) (by kernel_rfl) ?_) ?_
      · intro act W hR hf ho K hK
        have F : act.tmps[40]?.getD undef = _ ∧ act.tmps[39]?.getD undef = _ ∧ act.tmps[9]?.getD undef = _ ∧ act.tmps[10]?.getD undef = _ ∧ act.tmps[11]?.getD undef = _ ∧ act.tmps[12]?.getD undef = _ ∧ act.tmps[13]?.getD undef = _ ∧ act.tmps[14]?.getD undef = _ ∧ act.tmps[15]?.getD undef = _ ∧ act.tmps[16]?.getD undef = _ ∧ act.tmps[17]?.getD undef = _ ∧ act.tmps[18]?.getD undef = _ ∧ act.tmps[19]?.getD undef = _ ∧ act.tmps[20]?.getD undef = _ ∧ act.tmps[21]?.getD undef = _ ∧ act.tmps[22]?.getD undef = _ ∧ act.tmps[23]?.getD undef = _ ∧ act.tmps[24]?.getD undef = _ ∧ act.tmps[25]?.getD undef = _ ∧ act.tmps[26]?.getD undef = _ ∧ act.tmps[27]?.getD undef = _ ∧ act.tmps[28]?.getD undef = _ ∧ act.tmps[29]?.getD undef = _ ∧ act.tmps[30]?.getD undef = _ ∧ act.tmps[31]?.getD undef = _ ∧ act.tmps[32]?.getD undef = _ ∧ act.tmps[33]?.getD undef = _ ∧ act.tmps[34]?.getD undef = _ ∧ act.tmps[35]?.getD undef = _ ∧ act.tmps[36]?.getD undef = _ ∧ act.tmps[37]?.getD undef = _ ∧ act.tmps[38]?.getD undef = _ ∧ act.tmps[39]?.getD undef = _ ∧ act.tmps[40]?.getD undef = _ ∧ True := hf
        obtain ⟨f31, f30, f0, f1, f2, f3, f4, f5, f6, f7, f8, f9, f10, f11, f12, f13, f14, f15, f16, f17, f18, f19, f20, f21, f22, f23, f24, f25, f26, f27, f28, f29, -, -, -⟩ := F
        clear ho hf
        go_simp
        exact hK _ (Eq.refl _)
      exact trivial
    case stab =>
      refine And.intro is_stable ?_
      refine And.intro is_stable ?_
      refine And.intro is_stable ?_
      refine And.intro is_stable ?_
      refine And.intro is_stable ?_
      refine And.intro is_stable ?_
      refine And.intro is_stable ?_
      refine And.intro is_stable ?_
      refine And.intro is_stable ?_
      refine And.intro is_stable ?_
      refine And.intro is_stable ?_
      refine And.intro is_stable ?_
      refine And.intro is_stable ?_
      refine And.intro is_stable ?_
      refine And.intro is_stable ?_
      refine And.intro is_stable ?_
      refine And.intro is_stable ?_
      refine And.intro is_stable ?_
      refine And.intro is_stable ?_
      refine And.intro is_stable ?_
      refine And.intro is_stable ?_
      refine And.intro is_stable ?_
      refine And.intro is_stable ?_
      refine And.intro is_stable ?_
      refine And.intro is_stable ?_
      refine And.intro is_stable ?_
      refine And.intro is_stable ?_
      refine And.intro is_stable ?_
      refine And.intro is_stable ?_
      refine And.intro is_stable ?_
      refine And.intro is_stable ?_
      refine And.intro is_stable ?_
      refine And.intro is_stable ?_
      exact trivial
    case ends =>
      intro vals W uu hu hR hS hall
      replace hS : (fun (_ : Nat → Value) (W : World) => W = (((w.alloc (.cells #[.bool x.strict, .int .i64 x.heap, .int .i64 x.full, .slice (some ⟨bc, oc, none⟩) x.comps.length x.cc, .slice x.Al x.links.length x.cl, .slice x.As x.shares.length x.cs] 26)).alloc (.cells #[.int .i64 fr, .int .i64 (k : Int), .int .i64 at'] 68)).alloc (.cells #[.bool (inB fr 0 (x.comps.length - 1)), .bool (inB (k : Int) 0 (x.comps.length - 1)), .bool (fr != (k : Int))] 4)).drew) uu W := hS
      clear hu
      have e4 : vals 4 = _ := hall 32 (by decide)
      clear hall
      simp only [fill, List.setIfInBounds_toArray, List.set_cons_succ, List.set_cons_zero, e4]
      obtain rfl := hS
      go_wp2_with fail
      go_ret
      exact ⟨rfl, (by repeat first | (with_reducible exact Below.refl _ _) | (with_reducible apply Ext.alloc) | (with_reducible apply Ext.drew) | (with_reducible apply Ext.drewN) | (with_reducible refine Ext.set ?_ (by simp)))⟩
end Go.Proofs.Ytgfnpcoigooblaa

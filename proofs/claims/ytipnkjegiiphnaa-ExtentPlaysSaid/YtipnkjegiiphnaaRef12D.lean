/- Package seizinref12: Give. -/
import Derived.Test.YtipnkjegiiphnaaRef12C
import Derived.Deep.DeepCutAuto
set_option linter.all false
namespace Go.Proofs.Ytipnkjegiiphnaa
open Go.RowKit

attribute [local go_sem] seen dstOf boolOf
def RefGive (q : Nat) (a : Int) (g : Nat) (F : List Bool) (R : List Run) (z n : Int) (w : World) (e : Ending) (w' : World) : Prop :=
  e = .returned (.bool (giveR a (a + 16 * F.length) R z n).2) ∧ ∃ F', RefAt w' q a g F' ∧ Rep a F' (giveR a (a + 16 * F.length) R z n).1 ∧ F'.length = F.length ∧ Kept g none w w'
set_option maxHeartbeats 4000000 in
set_option maxRecDepth 20000 in
theorem ref_give_bad (q : Nat) (a : Int) (g : Nat) (F : List Bool) (R : List Run) (z n : Int) (w : World) (h : RefAt w q a g F) (hR : Rep a F R) (ha : 0 ≤ a) (hb : a + 16 * F.length ≤ 16777216) (hz : -9223372036854775808 ≤ z ∧ z ≤ 9223372036854775807) (hn : -9223372036854775808 ≤ n ∧ n ≤ 9223372036854775807) (hm : ¬ mayGive a (a + 16 * F.length) z n) :
    Calls Try.prog 14 #[.pointer (some ⟨q, 0, none⟩), .int .i64 z, .int .i64 n] w (RefGive q a g F R z n w) := by
  have hgv : giveR a (a + 16 * F.length) R z n = (R, false) := by unfold giveR; rw [if_neg hm]
  have HG := Lib.hid hgv
  have HR := Lib.hid hR
  have H := Lib.hid h
  have c0 := h.c0
  have c1 := h.c1
  have hw1 : IntKind.i64.wrap (16 * (F.length : Int)) = 16 * F.length := IntWalk.i64_in _ (by omega)
  have hw2 : IntKind.i64.wrap (a + 16 * (F.length : Int)) = a + 16 * F.length := IntWalk.i64_in _ (by omega)
  clear hgv hR h
  obtain ⟨z0, z1⟩ := hz
  obtain ⟨n0, n1⟩ := hn
  unfold mayGive at hm
  by_cases g0 : z % 16 ≠ 0
  · have f0' : (z.tmod 16 != 0) = true := by rw [bne_iff_ne]; exact fun e => g0 (tmod_zero.1 e)
    clear g0 hm
    go_enter Try.func14, Try.ntmps14
    go_wp2_with fail
    refine wp_region_stage (fun _ _ : World => True) [] [(fun (_ : Nat → Value) (W : World) => W = w.drew)] [10, 11, 12, 13, 14, 15, 16, 17, 18, 19, 20, 21, 22, 23, 24, 25, 26, 27, 28, 29, 30, 31, 32, 33, 34, 35, 36, 37, 38, 39, 40, 41, 42, 43, 44, 45, 46, 47, 48, 49, 50, 51, 52, 53, 54, 55, 56, 57, 58, 59, 60, 61] (by kernel_rfl) (fun _ => trivial) (fun _ _ _ _ _ => trivial) (by kernel_rfl) (by kernel_rfl) (by kernel_rfl) ?start ?_
    case start => rfl
    apply ex_is; apply Exists.intro
    apply ex_is; apply Exists.intro
    apply ex_is; apply Exists.intro
    apply ex_is; apply Exists.intro
    apply ex_is; apply Exists.intro
    apply ex_is; apply Exists.intro
    apply ex_is; apply Exists.intro
    apply ex_is; apply Exists.intro
    apply ex_is; apply Exists.intro
    apply ex_is; apply Exists.intro
    apply ex_is; apply Exists.intro
    apply ex_is; apply Exists.intro
    apply ex_is; apply Exists.intro
    apply ex_is; apply Exists.intro
    apply ex_is; apply Exists.intro
    apply ex_is; apply Exists.intro
    apply ex_is; apply Exists.intro
    apply ex_is; apply Exists.intro
    apply ex_is; apply Exists.intro
    apply ex_is; apply Exists.intro
    apply ex_is; apply Exists.intro
    apply ex_is; apply Exists.intro
    apply ex_is; apply Exists.intro
    apply ex_is; apply Exists.intro
    apply ex_is; apply Exists.intro
    apply ex_is; apply Exists.intro
    apply ex_is; apply Exists.intro
    apply ex_is; apply Exists.intro
    apply ex_is; apply Exists.intro
    apply ex_is; apply Exists.intro
    apply ex_is; apply Exists.intro
    apply ex_is; apply Exists.intro
    apply ex_is; apply Exists.intro
    apply ex_is; apply Exists.intro
    apply ex_is; apply Exists.intro
    apply ex_is; apply Exists.intro
    apply ex_is; apply Exists.intro
    apply ex_is; apply Exists.intro
    apply ex_is; apply Exists.intro
    apply ex_is; apply Exists.intro
    apply ex_is; apply Exists.intro
    apply ex_is; apply Exists.intro
    apply ex_is; apply Exists.intro
    apply ex_is; apply Exists.intro
    apply ex_is; apply Exists.intro
    apply ex_is; apply Exists.intro
    apply ex_is; apply Exists.intro
    apply ex_is; apply Exists.intro
    apply ex_is; apply Exists.intro
    apply ex_is; apply Exists.intro
    apply ex_is; apply Exists.intro
    apply ex_is; apply Exists.intro
    refine ⟨[], ⟨?steps, ?stab, ?ends⟩⟩
    case steps =>
      refine And.intro (stepC_pure (fun _ => trivial) (by kernel_rfl) ?_) ?_
      · intro act W hR hf ho K hK
        have G : act.tmps[1]?.getD undef = _ ∧ True := ho
        obtain ⟨g1, -⟩ := G
        clear ho hf
        go_simp
        exact hK _ (Eq.refl _)
      refine And.intro (stepC_pure (fun _ => trivial) (by kernel_rfl) ?_) ?_
      · intro act W hR hf ho K hK
        have F : act.tmps[10]?.getD undef = _ ∧ True := hf
        obtain ⟨f0, -⟩ := F
        clear ho hf
        go_simp
        exact hK _ (Eq.refl _)
      refine And.intro (stepC_pure (fun _ => trivial) (by kernel_rfl) ?_) ?_
      · intro act W hR hf ho K hK
        have F : act.tmps[11]?.getD undef = _ ∧ True := hf
        obtain ⟨f1, -⟩ := F
        clear ho hf
        go_simp
        exact hK _ (Eq.refl _)
      refine And.intro (stepC_pure (fun _ => trivial) (by kernel_rfl) ?_) ?_
      · intro act W hR hf ho K hK
        have F : act.tmps[12]?.getD undef = _ ∧ True := hf
        obtain ⟨f2, -⟩ := F
        clear ho hf
        go_simp
        exact hK _ (Eq.refl _)
      refine And.intro (stepC_pure (fun _ => trivial) (by kernel_rfl) ?_) ?_
      · intro act W hR hf ho K hK
        have G : act.tmps[2]?.getD undef = _ ∧ True := ho
        obtain ⟨g2, -⟩ := G
        have F : act.tmps[13]?.getD undef = _ ∧ True := hf
        obtain ⟨f3, -⟩ := F
        clear ho hf
        go_simp
        exact hK _ (Eq.refl _)
      refine And.intro (stepC_pure (fun _ => trivial) (by kernel_rfl) ?_) ?_
      · intro act W hR hf ho K hK
        have F : act.tmps[14]?.getD undef = _ ∧ act.tmps[13]?.getD undef = _ ∧ True := hf
        obtain ⟨f4, f3, -⟩ := F
        clear ho hf
        go_simp
        exact hK _ (Eq.refl _)
      refine And.intro (stepC_pure (fun _ => trivial) (by kernel_rfl) ?_) ?_
      · intro act W hR hf ho K hK
        have F : act.tmps[15]?.getD undef = _ ∧ act.tmps[13]?.getD undef = _ ∧ True := hf
        obtain ⟨f5, f3, -⟩ := F
        clear ho hf
        go_simp
        exact hK _ (Eq.refl _)
      refine And.intro (stepC_pure (fun _ => trivial) (by kernel_rfl) ?_) ?_
      · intro act W hR hf ho K hK
        have F : act.tmps[13]?.getD undef = _ ∧ act.tmps[16]?.getD undef = _ ∧ True := hf
        obtain ⟨f3, f6, -⟩ := F
        clear ho hf
        go_simp
        exact hK _ (Eq.refl _)
      refine And.intro (stepC_pure (fun _ => trivial) (by kernel_rfl) ?_) ?_
      · intro act W hR hf ho K hK
        have F : act.tmps[17]?.getD undef = _ ∧ act.tmps[13]?.getD undef = _ ∧ True := hf
        obtain ⟨f7, f3, -⟩ := F
        clear ho hf
        go_simp
        exact hK _ (Eq.refl _)
      refine And.intro (stepC_pure (fun _ => trivial) (by kernel_rfl) ?_) ?_
      · intro act W hR hf ho K hK
        have G : act.tmps[2]?.getD undef = _ ∧ True := ho
        obtain ⟨g2, -⟩ := G
        have F : act.tmps[18]?.getD undef = _ ∧ True := hf
        obtain ⟨f8, -⟩ := F
        clear ho hf
        go_simp
        exact hK _ (Eq.refl _)
      refine And.intro (stepC_pure (fun _ => trivial) (by kernel_rfl) ?_) ?_
      · intro act W hR hf ho K hK
        have F : act.tmps[19]?.getD undef = _ ∧ act.tmps[18]?.getD undef = _ ∧ True := hf
        obtain ⟨f9, f8, -⟩ := F
        clear ho hf
        go_simp
        exact hK _ (Eq.refl _)
      refine And.intro (stepC_pure (fun _ => trivial) (by kernel_rfl) ?_) ?_
      · intro act W hR hf ho K hK
        have F : act.tmps[18]?.getD undef = _ ∧ act.tmps[20]?.getD undef = _ ∧ True := hf
        obtain ⟨f8, f10, -⟩ := F
        clear ho hf
        go_simp
        exact hK _ (Eq.refl _)
      refine And.intro (stepC_pure (fun _ => trivial) (by kernel_rfl) ?_) ?_
      · intro act W hR hf ho K hK
        have F : act.tmps[21]?.getD undef = _ ∧ act.tmps[18]?.getD undef = _ ∧ True := hf
        obtain ⟨f11, f8, -⟩ := F
        clear ho hf
        go_simp
        exact hK _ (Eq.refl _)
      refine And.intro (stepC_pure (fun _ => trivial) (by kernel_rfl) ?_) ?_
      · intro act W hR hf ho K hK
        have G : act.tmps[1]?.getD undef = _ ∧ True := ho
        obtain ⟨g1, -⟩ := G
        have F : act.tmps[22]?.getD undef = _ ∧ True := hf
        obtain ⟨f12, -⟩ := F
        clear ho hf
        go_simp
        exact hK _ (Eq.refl _)
      refine And.intro (stepC_pure (fun _ => trivial) (by kernel_rfl) ?_) ?_
      · intro act W hR hf ho K hK
        have G : act.tmps[0]?.getD undef = _ ∧ True := ho
        obtain ⟨g0, -⟩ := G
        have F : act.tmps[22]?.getD undef = _ ∧ True := hf
        obtain ⟨f12, -⟩ := F
        clear ho hf
        go_simp
        exact hK _ (Eq.refl _)
      refine And.intro (stepC_pure (fun _ => trivial) (by kernel_rfl) ?_) ?_
      · intro act W hR hf ho K hK
        have F : act.tmps[24]?.getD undef = _ ∧ act.tmps[22]?.getD undef = _ ∧ True := hf
        obtain ⟨f14, f12, -⟩ := F
        clear ho hf
        go_simp
        exact hK _ (Eq.refl _)
      refine And.intro (stepC_pure (fun _ => trivial) (by kernel_rfl) ?_) ?_
      · intro act W hR hf ho K hK
        have F : act.tmps[25]?.getD undef = _ ∧ act.tmps[22]?.getD undef = _ ∧ True := hf
        obtain ⟨f15, f12, -⟩ := F
        clear ho hf
        go_simp
        exact hK _ (Eq.refl _)
      refine And.intro (stepC_stay (pss := []) (by kernel_rfl) rfl 0 [] [] (by kernel_rfl) (by kernel_rfl) ?_) ?_
      · intro act W uu hu hR hS hf ho K hK
        replace hS : (fun (_ : Nat → Value) (W : World) => W = w.drew) uu W := hS
        replace hK := fun (v : Value) (w' : World) (h1 : (fun _ _ : World => True) W w') h2 (h3 : (fun (_ : Nat → Value) (W : World) => W = w.drew) uu w') => hK v w' h1 h2 h3
        have F : act.tmps[26]?.getD undef = _ ∧ act.tmps[22]?.getD undef = _ ∧ True := hf
        obtain ⟨f16, f12, -⟩ := F
        clear hu
        clear ho hf
        obtain rfl := hS
        go_simp
        exact hK _ _ trivial (Eq.refl _) (by first | rfl | exact hS)
      refine And.intro (stepC_pure (fun _ => trivial) (by kernel_rfl) ?_) ?_
      · intro act W hR hf ho K hK
        have F : act.tmps[23]?.getD undef = _ ∧ act.tmps[27]?.getD undef = _ ∧ act.tmps[22]?.getD undef = _ ∧ True := hf
        obtain ⟨f13, f17, f12, -⟩ := F
        clear ho hf
        go_simp
        exact hK _ (Eq.refl _)
      refine And.intro (stepC_pure (fun _ => trivial) (by kernel_rfl) ?_) ?_
      · intro act W hR hf ho K hK
        have F : act.tmps[22]?.getD undef = _ ∧ act.tmps[28]?.getD undef = _ ∧ True := hf
        obtain ⟨f12, f18, -⟩ := F
        clear ho hf
        go_simp
        exact hK _ (Eq.refl _)
      refine And.intro (stepC_pure (fun _ => trivial) (by kernel_rfl) ?_) ?_
      · intro act W hR hf ho K hK
        have F : act.tmps[29]?.getD undef = _ ∧ act.tmps[22]?.getD undef = _ ∧ True := hf
        obtain ⟨f19, f12, -⟩ := F
        clear ho hf
        go_simp
        exact hK _ (Eq.refl _)
      refine And.intro (stepC_pure (fun _ => trivial) (by kernel_rfl) ?_) ?_
      · intro act W hR hf ho K hK
        have G : act.tmps[1]?.getD undef = _ ∧ True := ho
        obtain ⟨g1, -⟩ := G
        have F : act.tmps[30]?.getD undef = _ ∧ True := hf
        obtain ⟨f20, -⟩ := F
        clear ho hf
        go_simp
        exact hK _ (Eq.refl _)
      refine And.intro (stepC_pure (fun _ => trivial) (by kernel_rfl) ?_) ?_
      · intro act W hR hf ho K hK
        have G : act.tmps[0]?.getD undef = _ ∧ True := ho
        obtain ⟨g0, -⟩ := G
        have F : act.tmps[30]?.getD undef = _ ∧ True := hf
        obtain ⟨f20, -⟩ := F
        clear ho hf
        go_simp
        exact hK _ (Eq.refl _)
      refine And.intro (stepC_pure (fun _ => trivial) (by kernel_rfl) ?_) ?_
      · intro act W hR hf ho K hK
        have F : act.tmps[32]?.getD undef = _ ∧ act.tmps[30]?.getD undef = _ ∧ True := hf
        obtain ⟨f22, f20, -⟩ := F
        clear ho hf
        go_simp
        exact hK _ (Eq.refl _)
      refine And.intro (stepC_pure (fun _ => trivial) (by kernel_rfl) ?_) ?_
      · intro act W hR hf ho K hK
        have F : act.tmps[33]?.getD undef = _ ∧ act.tmps[30]?.getD undef = _ ∧ True := hf
        obtain ⟨f23, f20, -⟩ := F
        clear ho hf
        go_simp
        exact hK _ (Eq.refl _)
      refine And.intro (stepC_stay (pss := []) (by kernel_rfl) rfl 0 [] [] (by kernel_rfl) (by kernel_rfl) ?_) ?_
      · intro act W uu hu hR hS hf ho K hK
        replace hS : (fun (_ : Nat → Value) (W : World) => W = w.drew) uu W := hS
        replace hK := fun (v : Value) (w' : World) (h1 : (fun _ _ : World => True) W w') h2 (h3 : (fun (_ : Nat → Value) (W : World) => W = w.drew) uu w') => hK v w' h1 h2 h3
        have F : act.tmps[34]?.getD undef = _ ∧ act.tmps[30]?.getD undef = _ ∧ True := hf
        obtain ⟨f24, f20, -⟩ := F
        clear hu
        clear ho hf
        obtain rfl := hS
        go_simp
        exact hK _ _ trivial (Eq.refl _) (by first | rfl | exact hS)
      refine And.intro (stepC_pure (fun _ => trivial) (by kernel_rfl) ?_) ?_
      · intro act W hR hf ho K hK
        have G : act.tmps[0]?.getD undef = _ ∧ True := ho
        obtain ⟨g0, -⟩ := G
        have F : act.tmps[30]?.getD undef = _ ∧ True := hf
        obtain ⟨f20, -⟩ := F
        clear ho hf
        go_simp
        exact hK _ (Eq.refl _)
      refine And.intro (stepC_pure (fun _ => trivial) (by kernel_rfl) ?_) ?_
      · intro act W hR hf ho K hK
        have F : act.tmps[36]?.getD undef = _ ∧ act.tmps[30]?.getD undef = _ ∧ True := hf
        obtain ⟨f26, f20, -⟩ := F
        clear ho hf
        go_simp
        exact hK _ (Eq.refl _)
      refine And.intro (stepC_pure (fun _ => trivial) (by kernel_rfl) ?_) ?_
      · intro act W hR hf ho K hK
        have F : act.tmps[37]?.getD undef = _ ∧ act.tmps[30]?.getD undef = _ ∧ True := hf
        obtain ⟨f27, f20, -⟩ := F
        clear ho hf
        go_simp
        exact hK _ (Eq.refl _)
      refine And.intro (stepC_stay (pss := []) (by kernel_rfl) rfl 0 [] [] (by kernel_rfl) (by kernel_rfl) ?_) ?_
      · intro act W uu hu hR hS hf ho K hK
        replace hS : (fun (_ : Nat → Value) (W : World) => W = w.drew) uu W := hS
        replace hK := fun (v : Value) (w' : World) (h1 : (fun _ _ : World => True) W w') h2 (h3 : (fun (_ : Nat → Value) (W : World) => W = w.drew) uu w') => hK v w' h1 h2 h3
        have F : act.tmps[38]?.getD undef = _ ∧ act.tmps[30]?.getD undef = _ ∧ True := hf
        obtain ⟨f28, f20, -⟩ := F
        clear hu
        clear ho hf
        obtain rfl := hS
        go_simp
        exact hK _ _ trivial (Eq.refl _) (by first | rfl | exact hS)
      refine And.intro (stepC_stay (pss := []) (by kernel_rfl) rfl 0 [] [] (by kernel_rfl) (by kernel_rfl) ?_) ?_
      · intro act W uu hu hR hS hf ho K hK
        replace hS : (fun (_ : Nat → Value) (W : World) => W = w.drew) uu W := hS
        replace hK := fun (v : Value) (w' : World) (h1 : (fun _ _ : World => True) W w') h2 (h3 : (fun (_ : Nat → Value) (W : World) => W = w.drew) uu w') => hK v w' h1 h2 h3
        have F : act.tmps[39]?.getD undef = _ ∧ act.tmps[30]?.getD undef = _ ∧ True := hf
        obtain ⟨f29, f20, -⟩ := F
        clear hu
        clear ho hf
        go_simp
        exact hK _ _ trivial (Eq.refl _) (by first | rfl | exact hS)
      refine And.intro (stepC_pure (fun _ => trivial) (by kernel_rfl) ?_) ?_
      · intro act W hR hf ho K hK
        have F : act.tmps[40]?.getD undef = _ ∧ act.tmps[30]?.getD undef = _ ∧ True := hf
        obtain ⟨f30, f20, -⟩ := F
        clear ho hf
        go_simp
        exact hK _ (Eq.refl _)
      refine And.intro (stepC_pure (fun _ => trivial) (by kernel_rfl) ?_) ?_
      · intro act W hR hf ho K hK
        have F : act.tmps[35]?.getD undef = _ ∧ act.tmps[41]?.getD undef = _ ∧ act.tmps[30]?.getD undef = _ ∧ True := hf
        obtain ⟨f25, f31, f20, -⟩ := F
        clear ho hf
        go_simp
        exact hK _ (Eq.refl _)
      refine And.intro (stepC_pure (fun _ => trivial) (by kernel_rfl) ?_) ?_
      · intro act W hR hf ho K hK
        have F : act.tmps[31]?.getD undef = _ ∧ act.tmps[42]?.getD undef = _ ∧ act.tmps[30]?.getD undef = _ ∧ True := hf
        obtain ⟨f21, f32, f20, -⟩ := F
        clear ho hf
        go_simp
        exact hK _ (Eq.refl _)
      refine And.intro (stepC_pure (fun _ => trivial) (by kernel_rfl) ?_) ?_
      · intro act W hR hf ho K hK
        have F : act.tmps[30]?.getD undef = _ ∧ act.tmps[43]?.getD undef = _ ∧ True := hf
        obtain ⟨f20, f33, -⟩ := F
        clear ho hf
        go_simp
        exact hK _ (Eq.refl _)
      refine And.intro (stepC_pure (fun _ => trivial) (by kernel_rfl) ?_) ?_
      · intro act W hR hf ho K hK
        have F : act.tmps[44]?.getD undef = _ ∧ act.tmps[30]?.getD undef = _ ∧ True := hf
        obtain ⟨f34, f20, -⟩ := F
        clear ho hf
        go_simp
        exact hK _ (Eq.refl _)
      refine And.intro (stepC_pure (fun _ => trivial) (by kernel_rfl) ?_) ?_
      · intro act W hR hf ho K hK
        have G : act.tmps[2]?.getD undef = _ ∧ True := ho
        obtain ⟨g2, -⟩ := G
        have F : act.tmps[45]?.getD undef = _ ∧ True := hf
        obtain ⟨f35, -⟩ := F
        clear ho hf
        go_simp
        exact hK _ (Eq.refl _)
      refine And.intro (stepC_pure (fun _ => trivial) (by kernel_rfl) ?_) ?_
      · intro act W hR hf ho K hK
        have G : act.tmps[0]?.getD undef = _ ∧ True := ho
        obtain ⟨g0, -⟩ := G
        have F : act.tmps[45]?.getD undef = _ ∧ True := hf
        obtain ⟨f35, -⟩ := F
        clear ho hf
        go_simp
        exact hK _ (Eq.refl _)
      refine And.intro (stepC_pure (fun _ => trivial) (by kernel_rfl) ?_) ?_
      · intro act W hR hf ho K hK
        have F : act.tmps[47]?.getD undef = _ ∧ act.tmps[45]?.getD undef = _ ∧ True := hf
        obtain ⟨f37, f35, -⟩ := F
        clear ho hf
        go_simp
        exact hK _ (Eq.refl _)
      refine And.intro (stepC_pure (fun _ => trivial) (by kernel_rfl) ?_) ?_
      · intro act W hR hf ho K hK
        have F : act.tmps[48]?.getD undef = _ ∧ act.tmps[45]?.getD undef = _ ∧ True := hf
        obtain ⟨f38, f35, -⟩ := F
        clear ho hf
        go_simp
        exact hK _ (Eq.refl _)
      refine And.intro (stepC_stay (pss := []) (by kernel_rfl) rfl 0 [] [] (by kernel_rfl) (by kernel_rfl) ?_) ?_
      · intro act W uu hu hR hS hf ho K hK
        replace hS : (fun (_ : Nat → Value) (W : World) => W = w.drew) uu W := hS
        replace hK := fun (v : Value) (w' : World) (h1 : (fun _ _ : World => True) W w') h2 (h3 : (fun (_ : Nat → Value) (W : World) => W = w.drew) uu w') => hK v w' h1 h2 h3
        have F : act.tmps[49]?.getD undef = _ ∧ act.tmps[45]?.getD undef = _ ∧ True := hf
        obtain ⟨f39, f35, -⟩ := F
        clear hu
        clear ho hf
        obtain rfl := hS
        go_simp
        exact hK _ _ trivial (Eq.refl _) (by first | rfl | exact hS)
      refine And.intro (stepC_pure (fun _ => trivial) (by kernel_rfl) ?_) ?_
      · intro act W hR hf ho K hK
        have G : act.tmps[0]?.getD undef = _ ∧ True := ho
        obtain ⟨g0, -⟩ := G
        have F : act.tmps[45]?.getD undef = _ ∧ True := hf
        obtain ⟨f35, -⟩ := F
        clear ho hf
        go_simp
        exact hK _ (Eq.refl _)
      refine And.intro (stepC_pure (fun _ => trivial) (by kernel_rfl) ?_) ?_
      · intro act W hR hf ho K hK
        have F : act.tmps[51]?.getD undef = _ ∧ act.tmps[45]?.getD undef = _ ∧ True := hf
        obtain ⟨f41, f35, -⟩ := F
        clear ho hf
        go_simp
        exact hK _ (Eq.refl _)
      refine And.intro (stepC_pure (fun _ => trivial) (by kernel_rfl) ?_) ?_
      · intro act W hR hf ho K hK
        have F : act.tmps[52]?.getD undef = _ ∧ act.tmps[45]?.getD undef = _ ∧ True := hf
        obtain ⟨f42, f35, -⟩ := F
        clear ho hf
        go_simp
        exact hK _ (Eq.refl _)
      refine And.intro (stepC_stay (pss := []) (by kernel_rfl) rfl 0 [] [] (by kernel_rfl) (by kernel_rfl) ?_) ?_
      · intro act W uu hu hR hS hf ho K hK
        replace hS : (fun (_ : Nat → Value) (W : World) => W = w.drew) uu W := hS
        replace hK := fun (v : Value) (w' : World) (h1 : (fun _ _ : World => True) W w') h2 (h3 : (fun (_ : Nat → Value) (W : World) => W = w.drew) uu w') => hK v w' h1 h2 h3
        have F : act.tmps[53]?.getD undef = _ ∧ act.tmps[45]?.getD undef = _ ∧ True := hf
        obtain ⟨f43, f35, -⟩ := F
        clear hu
        clear ho hf
        obtain rfl := hS
        go_simp
        exact hK _ _ trivial (Eq.refl _) (by first | rfl | exact hS)
      refine And.intro (stepC_stay (pss := []) (by kernel_rfl) rfl 0 [] [] (by kernel_rfl) (by kernel_rfl) ?_) ?_
      · intro act W uu hu hR hS hf ho K hK
        replace hS : (fun (_ : Nat → Value) (W : World) => W = w.drew) uu W := hS
        replace hK := fun (v : Value) (w' : World) (h1 : (fun _ _ : World => True) W w') h2 (h3 : (fun (_ : Nat → Value) (W : World) => W = w.drew) uu w') => hK v w' h1 h2 h3
        have F : act.tmps[54]?.getD undef = _ ∧ act.tmps[45]?.getD undef = _ ∧ True := hf
        obtain ⟨f44, f35, -⟩ := F
        clear hu
        clear ho hf
        go_simp
        exact hK _ _ trivial (Eq.refl _) (by first | rfl | exact hS)
      refine And.intro (stepC_pure (fun _ => trivial) (by kernel_rfl) ?_) ?_
      · intro act W hR hf ho K hK
        have F : act.tmps[55]?.getD undef = _ ∧ act.tmps[45]?.getD undef = _ ∧ True := hf
        obtain ⟨f45, f35, -⟩ := F
        clear ho hf
        go_simp
        exact hK _ (Eq.refl _)
      refine And.intro (stepC_pure (fun _ => trivial) (by kernel_rfl) ?_) ?_
      · intro act W hR hf ho K hK
        have F : act.tmps[50]?.getD undef = _ ∧ act.tmps[56]?.getD undef = _ ∧ act.tmps[45]?.getD undef = _ ∧ True := hf
        obtain ⟨f40, f46, f35, -⟩ := F
        clear ho hf
        go_simp
        exact hK _ (Eq.refl _)
      refine And.intro (stepC_pure (fun _ => trivial) (by kernel_rfl) ?_) ?_
      · intro act W hR hf ho K hK
        have G : act.tmps[1]?.getD undef = _ ∧ True := ho
        obtain ⟨g1, -⟩ := G
        have F : act.tmps[45]?.getD undef = _ ∧ True := hf
        obtain ⟨f35, -⟩ := F
        clear ho hf
        go_simp
        exact hK _ (Eq.refl _)
      refine And.intro (stepC_pure (fun _ => trivial) (by kernel_rfl) ?_) ?_
      · intro act W hR hf ho K hK
        have F : act.tmps[57]?.getD undef = _ ∧ act.tmps[58]?.getD undef = _ ∧ act.tmps[45]?.getD undef = _ ∧ True := hf
        obtain ⟨f47, f48, f35, -⟩ := F
        clear ho hf
        go_simp
        exact hK _ (Eq.refl _)
      refine And.intro (stepC_pure (fun _ => trivial) (by kernel_rfl) ?_) ?_
      · intro act W hR hf ho K hK
        have F : act.tmps[46]?.getD undef = _ ∧ act.tmps[59]?.getD undef = _ ∧ act.tmps[45]?.getD undef = _ ∧ True := hf
        obtain ⟨f36, f49, f35, -⟩ := F
        clear ho hf
        go_simp
        exact hK _ (Eq.refl _)
      refine And.intro (stepC_pure (fun _ => trivial) (by kernel_rfl) ?_) ?_
      · intro act W hR hf ho K hK
        have F : act.tmps[45]?.getD undef = _ ∧ act.tmps[60]?.getD undef = _ ∧ True := hf
        obtain ⟨f35, f50, -⟩ := F
        clear ho hf
        go_simp
        exact hK _ (Eq.refl _)
      exact trivial
    case stab =>
      refine And.intro is_stable ?_
      refine And.intro is_stable ?_
      refine And.intro is_stable ?_
      refine And.intro is_stable ?_
      refine And.intro is_stable ?_
      refine And.intro is_stable ?_
      refine And.intro is_stable ?_
      refine And.intro is_stable ?_
      refine And.intro is_stable ?_
      refine And.intro is_stable ?_
      refine And.intro is_stable ?_
      refine And.intro is_stable ?_
      refine And.intro is_stable ?_
      refine And.intro is_stable ?_
      refine And.intro is_stable ?_
      refine And.intro is_stable ?_
      refine And.intro is_stable ?_
      refine And.intro is_stable ?_
      refine And.intro is_stable ?_
      refine And.intro is_stable ?_
      refine And.intro is_stable ?_
      refine And.intro is_stable ?_
      refine And.intro is_stable ?_
      refine And.intro is_stable ?_
      refine And.intro is_stable ?_
      refine And.intro is_stable ?_
      refine And.intro is_stable ?_
      refine And.intro is_stable ?_
      refine And.intro is_stable ?_
      refine And.intro is_stable ?_
      refine And.intro is_stable ?_
      refine And.intro is_stable ?_
      refine And.intro is_stable ?_
      refine And.intro is_stable ?_
      refine And.intro is_stable ?_
      refine And.intro is_stable ?_
      refine And.intro is_stable ?_
      refine And.intro is_stable ?_
      refine And.intro is_stable ?_
      refine And.intro is_stable ?_
      refine And.intro is_stable ?_
      refine And.intro is_stable ?_
      refine And.intro is_stable ?_
      refine And.intro is_stable ?_
      refine And.intro is_stable ?_
      refine And.intro is_stable ?_
      refine And.intro is_stable ?_
      refine And.intro is_stable ?_
      refine And.intro is_stable ?_
      refine And.intro is_stable ?_
      refine And.intro is_stable ?_
      refine And.intro is_stable ?_
      exact trivial
    case ends =>
      intro vals W uu hu hR hS hall
      replace hS : (fun (_ : Nat → Value) (W : World) => W = w.drew) uu W := hS
      clear hu
      have e61 : vals 61 = _ := hall 51 (by decide)
      clear hall
      simp only [fill, List.setIfInBounds_toArray, List.set_cons_succ, List.set_cons_zero, e61]
      obtain rfl := hS
      go_wp2_with fail
      go_ret
      exact ⟨by rw [HG.out]; rfl, F, H.out.drew 1, by rw [HG.out]; exact HR.out, rfl, (Kept.of_ext (Below.refl _ _)).drewN 1⟩
  · have f0' : (z.tmod 16 != 0) = false := by rw [bne_eq_false_iff_eq]; exact tmod_zero.2 (by omega)
    by_cases g1 : n % 16 ≠ 0
    · have f1' : (n.tmod 16 != 0) = true := by rw [bne_iff_ne]; exact fun e => g1 (tmod_zero.1 e)
      clear g1 hm
      go_enter Try.func14, Try.ntmps14
      go_wp2_with fail
      refine wp_region_stage (fun _ _ : World => True) [] [(fun (_ : Nat → Value) (W : World) => W = w.drew)] [10, 11, 12, 13, 14, 15, 16, 17, 18, 19, 20, 21, 22, 23, 24, 25, 26, 27, 28, 29, 30, 31, 32, 33, 34, 35, 36, 37, 38, 39, 40, 41, 42, 43, 44, 45, 46, 47, 48, 49, 50, 51, 52, 53, 54, 55, 56, 57, 58, 59, 60, 61] (by kernel_rfl) (fun _ => trivial) (fun _ _ _ _ _ => trivial) (by kernel_rfl) (by kernel_rfl) (by kernel_rfl) ?start ?_
      case start => rfl
      apply ex_is; apply Exists.intro
      apply ex_is; apply Exists.intro
      apply ex_is; apply Exists.intro
      apply ex_is; apply Exists.intro
      apply ex_is; apply Exists.intro
      apply ex_is; apply Exists.intro
      apply ex_is; apply Exists.intro
      apply ex_is; apply Exists.intro
      apply ex_is; apply Exists.intro
      apply ex_is; apply Exists.intro
      apply ex_is; apply Exists.intro
      apply ex_is; apply Exists.intro
      apply ex_is; apply Exists.intro
      apply ex_is; apply Exists.intro
      apply ex_is; apply Exists.intro
      apply ex_is; apply Exists.intro
      apply ex_is; apply Exists.intro
      apply ex_is; apply Exists.intro
      apply ex_is; apply Exists.intro
      apply ex_is; apply Exists.intro
      apply ex_is; apply Exists.intro
      apply ex_is; apply Exists.intro
      apply ex_is; apply Exists.intro
      apply ex_is; apply Exists.intro
      apply ex_is; apply Exists.intro
      apply ex_is; apply Exists.intro
      apply ex_is; apply Exists.intro
      apply ex_is; apply Exists.intro
      apply ex_is; apply Exists.intro
      apply ex_is; apply Exists.intro
      apply ex_is; apply Exists.intro
      apply ex_is; apply Exists.intro
      apply ex_is; apply Exists.intro
      apply ex_is; apply Exists.intro
      apply ex_is; apply Exists.intro
      apply ex_is; apply Exists.intro
      apply ex_is; apply Exists.intro
      apply ex_is; apply Exists.intro
      apply ex_is; apply Exists.intro
      apply ex_is; apply Exists.intro
      apply ex_is; apply Exists.intro
      apply ex_is; apply Exists.intro
      apply ex_is; apply Exists.intro
      apply ex_is; apply Exists.intro
      apply ex_is; apply Exists.intro
      apply ex_is; apply Exists.intro
      apply ex_is; apply Exists.intro
      apply ex_is; apply Exists.intro
      apply ex_is; apply Exists.intro
      apply ex_is; apply Exists.intro
      apply ex_is; apply Exists.intro
      apply ex_is; apply Exists.intro
      refine ⟨[], ⟨?steps, ?stab, ?ends⟩⟩
      case steps =>
        refine And.intro (stepC_pure (fun _ => trivial) (by kernel_rfl) ?_) ?_
        · intro act W hR hf ho K hK
          have G : act.tmps[1]?.getD undef = _ ∧ True := ho
          obtain ⟨g1, -⟩ := G
          clear ho hf
          go_simp
          exact hK _ (Eq.refl _)
        refine And.intro (stepC_pure (fun _ => trivial) (by kernel_rfl) ?_) ?_
        · intro act W hR hf ho K hK
          have F : act.tmps[10]?.getD undef = _ ∧ True := hf
          obtain ⟨f0, -⟩ := F
          clear ho hf
          go_simp
          exact hK _ (Eq.refl _)
        refine And.intro (stepC_pure (fun _ => trivial) (by kernel_rfl) ?_) ?_
        · intro act W hR hf ho K hK
          have F : act.tmps[11]?.getD undef = _ ∧ True := hf
          obtain ⟨f1, -⟩ := F
          clear ho hf
          go_simp
          exact hK _ (Eq.refl _)
        refine And.intro (stepC_pure (fun _ => trivial) (by kernel_rfl) ?_) ?_
        · intro act W hR hf ho K hK
          have F : act.tmps[12]?.getD undef = _ ∧ True := hf
          obtain ⟨f2, -⟩ := F
          clear ho hf
          go_simp
          exact hK _ (Eq.refl _)
        refine And.intro (stepC_pure (fun _ => trivial) (by kernel_rfl) ?_) ?_
        · intro act W hR hf ho K hK
          have G : act.tmps[2]?.getD undef = _ ∧ True := ho
          obtain ⟨g2, -⟩ := G
          have F : act.tmps[13]?.getD undef = _ ∧ True := hf
          obtain ⟨f3, -⟩ := F
          clear ho hf
          go_simp
          exact hK _ (Eq.refl _)
        refine And.intro (stepC_pure (fun _ => trivial) (by kernel_rfl) ?_) ?_
        · intro act W hR hf ho K hK
          have F : act.tmps[14]?.getD undef = _ ∧ act.tmps[13]?.getD undef = _ ∧ True := hf
          obtain ⟨f4, f3, -⟩ := F
          clear ho hf
          go_simp
          exact hK _ (Eq.refl _)
        refine And.intro (stepC_pure (fun _ => trivial) (by kernel_rfl) ?_) ?_
        · intro act W hR hf ho K hK
          have F : act.tmps[15]?.getD undef = _ ∧ act.tmps[13]?.getD undef = _ ∧ True := hf
          obtain ⟨f5, f3, -⟩ := F
          clear ho hf
          go_simp
          exact hK _ (Eq.refl _)
        refine And.intro (stepC_pure (fun _ => trivial) (by kernel_rfl) ?_) ?_
        · intro act W hR hf ho K hK
          have F : act.tmps[13]?.getD undef = _ ∧ act.tmps[16]?.getD undef = _ ∧ True := hf
          obtain ⟨f3, f6, -⟩ := F
          clear ho hf
          go_simp
          exact hK _ (Eq.refl _)
        refine And.intro (stepC_pure (fun _ => trivial) (by kernel_rfl) ?_) ?_
        · intro act W hR hf ho K hK
          have F : act.tmps[17]?.getD undef = _ ∧ act.tmps[13]?.getD undef = _ ∧ True := hf
          obtain ⟨f7, f3, -⟩ := F
          clear ho hf
          go_simp
          exact hK _ (Eq.refl _)
        refine And.intro (stepC_pure (fun _ => trivial) (by kernel_rfl) ?_) ?_
        · intro act W hR hf ho K hK
          have G : act.tmps[2]?.getD undef = _ ∧ True := ho
          obtain ⟨g2, -⟩ := G
          have F : act.tmps[18]?.getD undef = _ ∧ True := hf
          obtain ⟨f8, -⟩ := F
          clear ho hf
          go_simp
          exact hK _ (Eq.refl _)
        refine And.intro (stepC_pure (fun _ => trivial) (by kernel_rfl) ?_) ?_
        · intro act W hR hf ho K hK
          have F : act.tmps[19]?.getD undef = _ ∧ act.tmps[18]?.getD undef = _ ∧ True := hf
          obtain ⟨f9, f8, -⟩ := F
          clear ho hf
          go_simp
          exact hK _ (Eq.refl _)
        refine And.intro (stepC_pure (fun _ => trivial) (by kernel_rfl) ?_) ?_
        · intro act W hR hf ho K hK
          have F : act.tmps[18]?.getD undef = _ ∧ act.tmps[20]?.getD undef = _ ∧ True := hf
          obtain ⟨f8, f10, -⟩ := F
          clear ho hf
          go_simp
          exact hK _ (Eq.refl _)
        refine And.intro (stepC_pure (fun _ => trivial) (by kernel_rfl) ?_) ?_
        · intro act W hR hf ho K hK
          have F : act.tmps[21]?.getD undef = _ ∧ act.tmps[18]?.getD undef = _ ∧ True := hf
          obtain ⟨f11, f8, -⟩ := F
          clear ho hf
          go_simp
          exact hK _ (Eq.refl _)
        refine And.intro (stepC_pure (fun _ => trivial) (by kernel_rfl) ?_) ?_
        · intro act W hR hf ho K hK
          have G : act.tmps[1]?.getD undef = _ ∧ True := ho
          obtain ⟨g1, -⟩ := G
          have F : act.tmps[22]?.getD undef = _ ∧ True := hf
          obtain ⟨f12, -⟩ := F
          clear ho hf
          go_simp
          exact hK _ (Eq.refl _)
        refine And.intro (stepC_pure (fun _ => trivial) (by kernel_rfl) ?_) ?_
        · intro act W hR hf ho K hK
          have G : act.tmps[0]?.getD undef = _ ∧ True := ho
          obtain ⟨g0, -⟩ := G
          have F : act.tmps[22]?.getD undef = _ ∧ True := hf
          obtain ⟨f12, -⟩ := F
          clear ho hf
          go_simp
          exact hK _ (Eq.refl _)
        refine And.intro (stepC_pure (fun _ => trivial) (by kernel_rfl) ?_) ?_
        · intro act W hR hf ho K hK
          have F : act.tmps[24]?.getD undef = _ ∧ act.tmps[22]?.getD undef = _ ∧ True := hf
          obtain ⟨f14, f12, -⟩ := F
          clear ho hf
          go_simp
          exact hK _ (Eq.refl _)
        refine And.intro (stepC_pure (fun _ => trivial) (by kernel_rfl) ?_) ?_
        · intro act W hR hf ho K hK
          have F : act.tmps[25]?.getD undef = _ ∧ act.tmps[22]?.getD undef = _ ∧ True := hf
          obtain ⟨f15, f12, -⟩ := F
          clear ho hf
          go_simp
          exact hK _ (Eq.refl _)
        refine And.intro (stepC_stay (pss := []) (by kernel_rfl) rfl 0 [] [] (by kernel_rfl) (by kernel_rfl) ?_) ?_
        · intro act W uu hu hR hS hf ho K hK
          replace hS : (fun (_ : Nat → Value) (W : World) => W = w.drew) uu W := hS
          replace hK := fun (v : Value) (w' : World) (h1 : (fun _ _ : World => True) W w') h2 (h3 : (fun (_ : Nat → Value) (W : World) => W = w.drew) uu w') => hK v w' h1 h2 h3
          have F : act.tmps[26]?.getD undef = _ ∧ act.tmps[22]?.getD undef = _ ∧ True := hf
          obtain ⟨f16, f12, -⟩ := F
          clear hu
          clear ho hf
          obtain rfl := hS
          go_simp
          exact hK _ _ trivial (Eq.refl _) (by first | rfl | exact hS)
        refine And.intro (stepC_pure (fun _ => trivial) (by kernel_rfl) ?_) ?_
        · intro act W hR hf ho K hK
          have F : act.tmps[23]?.getD undef = _ ∧ act.tmps[27]?.getD undef = _ ∧ act.tmps[22]?.getD undef = _ ∧ True := hf
          obtain ⟨f13, f17, f12, -⟩ := F
          clear ho hf
          go_simp
          exact hK _ (Eq.refl _)
        refine And.intro (stepC_pure (fun _ => trivial) (by kernel_rfl) ?_) ?_
        · intro act W hR hf ho K hK
          have F : act.tmps[22]?.getD undef = _ ∧ act.tmps[28]?.getD undef = _ ∧ True := hf
          obtain ⟨f12, f18, -⟩ := F
          clear ho hf
          go_simp
          exact hK _ (Eq.refl _)
        refine And.intro (stepC_pure (fun _ => trivial) (by kernel_rfl) ?_) ?_
        · intro act W hR hf ho K hK
          have F : act.tmps[29]?.getD undef = _ ∧ act.tmps[22]?.getD undef = _ ∧ True := hf
          obtain ⟨f19, f12, -⟩ := F
          clear ho hf
          go_simp
          exact hK _ (Eq.refl _)
        refine And.intro (stepC_pure (fun _ => trivial) (by kernel_rfl) ?_) ?_
        · intro act W hR hf ho K hK
          have G : act.tmps[1]?.getD undef = _ ∧ True := ho
          obtain ⟨g1, -⟩ := G
          have F : act.tmps[30]?.getD undef = _ ∧ True := hf
          obtain ⟨f20, -⟩ := F
          clear ho hf
          go_simp
          exact hK _ (Eq.refl _)
        refine And.intro (stepC_pure (fun _ => trivial) (by kernel_rfl) ?_) ?_
        · intro act W hR hf ho K hK
          have G : act.tmps[0]?.getD undef = _ ∧ True := ho
          obtain ⟨g0, -⟩ := G
          have F : act.tmps[30]?.getD undef = _ ∧ True := hf
          obtain ⟨f20, -⟩ := F
          clear ho hf
          go_simp
          exact hK _ (Eq.refl _)
        refine And.intro (stepC_pure (fun _ => trivial) (by kernel_rfl) ?_) ?_
        · intro act W hR hf ho K hK
          have F : act.tmps[32]?.getD undef = _ ∧ act.tmps[30]?.getD undef = _ ∧ True := hf
          obtain ⟨f22, f20, -⟩ := F
          clear ho hf
          go_simp
          exact hK _ (Eq.refl _)
        refine And.intro (stepC_pure (fun _ => trivial) (by kernel_rfl) ?_) ?_
        · intro act W hR hf ho K hK
          have F : act.tmps[33]?.getD undef = _ ∧ act.tmps[30]?.getD undef = _ ∧ True := hf
          obtain ⟨f23, f20, -⟩ := F
          clear ho hf
          go_simp
          exact hK _ (Eq.refl _)
        refine And.intro (stepC_stay (pss := []) (by kernel_rfl) rfl 0 [] [] (by kernel_rfl) (by kernel_rfl) ?_) ?_
        · intro act W uu hu hR hS hf ho K hK
          replace hS : (fun (_ : Nat → Value) (W : World) => W = w.drew) uu W := hS
          replace hK := fun (v : Value) (w' : World) (h1 : (fun _ _ : World => True) W w') h2 (h3 : (fun (_ : Nat → Value) (W : World) => W = w.drew) uu w') => hK v w' h1 h2 h3
          have F : act.tmps[34]?.getD undef = _ ∧ act.tmps[30]?.getD undef = _ ∧ True := hf
          obtain ⟨f24, f20, -⟩ := F
          clear hu
          clear ho hf
          obtain rfl := hS
          go_simp
          exact hK _ _ trivial (Eq.refl _) (by first | rfl | exact hS)
        refine And.intro (stepC_pure (fun _ => trivial) (by kernel_rfl) ?_) ?_
        · intro act W hR hf ho K hK
          have G : act.tmps[0]?.getD undef = _ ∧ True := ho
          obtain ⟨g0, -⟩ := G
          have F : act.tmps[30]?.getD undef = _ ∧ True := hf
          obtain ⟨f20, -⟩ := F
          clear ho hf
          go_simp
          exact hK _ (Eq.refl _)
        refine And.intro (stepC_pure (fun _ => trivial) (by kernel_rfl) ?_) ?_
        · intro act W hR hf ho K hK
          have F : act.tmps[36]?.getD undef = _ ∧ act.tmps[30]?.getD undef = _ ∧ True := hf
          obtain ⟨f26, f20, -⟩ := F
          clear ho hf
          go_simp
          exact hK _ (Eq.refl _)
        refine And.intro (stepC_pure (fun _ => trivial) (by kernel_rfl) ?_) ?_
        · intro act W hR hf ho K hK
          have F : act.tmps[37]?.getD undef = _ ∧ act.tmps[30]?.getD undef = _ ∧ True := hf
          obtain ⟨f27, f20, -⟩ := F
          clear ho hf
          go_simp
          exact hK _ (Eq.refl _)
        refine And.intro (stepC_stay (pss := []) (by kernel_rfl) rfl 0 [] [] (by kernel_rfl) (by kernel_rfl) ?_) ?_
        · intro act W uu hu hR hS hf ho K hK
          replace hS : (fun (_ : Nat → Value) (W : World) => W = w.drew) uu W := hS
          replace hK := fun (v : Value) (w' : World) (h1 : (fun _ _ : World => True) W w') h2 (h3 : (fun (_ : Nat → Value) (W : World) => W = w.drew) uu w') => hK v w' h1 h2 h3
          have F : act.tmps[38]?.getD undef = _ ∧ act.tmps[30]?.getD undef = _ ∧ True := hf
          obtain ⟨f28, f20, -⟩ := F
          clear hu
          clear ho hf
          obtain rfl := hS
          go_simp
          exact hK _ _ trivial (Eq.refl _) (by first | rfl | exact hS)
        refine And.intro (stepC_stay (pss := []) (by kernel_rfl) rfl 0 [] [] (by kernel_rfl) (by kernel_rfl) ?_) ?_
        · intro act W uu hu hR hS hf ho K hK
          replace hS : (fun (_ : Nat → Value) (W : World) => W = w.drew) uu W := hS
          replace hK := fun (v : Value) (w' : World) (h1 : (fun _ _ : World => True) W w') h2 (h3 : (fun (_ : Nat → Value) (W : World) => W = w.drew) uu w') => hK v w' h1 h2 h3
          have F : act.tmps[39]?.getD undef = _ ∧ act.tmps[30]?.getD undef = _ ∧ True := hf
          obtain ⟨f29, f20, -⟩ := F
          clear hu
          clear ho hf
          go_simp
          exact hK _ _ trivial (Eq.refl _) (by first | rfl | exact hS)
        refine And.intro (stepC_pure (fun _ => trivial) (by kernel_rfl) ?_) ?_
        · intro act W hR hf ho K hK
          have F : act.tmps[40]?.getD undef = _ ∧ act.tmps[30]?.getD undef = _ ∧ True := hf
          obtain ⟨f30, f20, -⟩ := F
          clear ho hf
          go_simp
          exact hK _ (Eq.refl _)
        refine And.intro (stepC_pure (fun _ => trivial) (by kernel_rfl) ?_) ?_
        · intro act W hR hf ho K hK
          have F : act.tmps[35]?.getD undef = _ ∧ act.tmps[41]?.getD undef = _ ∧ act.tmps[30]?.getD undef = _ ∧ True := hf
          obtain ⟨f25, f31, f20, -⟩ := F
          clear ho hf
          go_simp
          exact hK _ (Eq.refl _)
        refine And.intro (stepC_pure (fun _ => trivial) (by kernel_rfl) ?_) ?_
        · intro act W hR hf ho K hK
          have F : act.tmps[31]?.getD undef = _ ∧ act.tmps[42]?.getD undef = _ ∧ act.tmps[30]?.getD undef = _ ∧ True := hf
          obtain ⟨f21, f32, f20, -⟩ := F
          clear ho hf
          go_simp
          exact hK _ (Eq.refl _)
        refine And.intro (stepC_pure (fun _ => trivial) (by kernel_rfl) ?_) ?_
        · intro act W hR hf ho K hK
          have F : act.tmps[30]?.getD undef = _ ∧ act.tmps[43]?.getD undef = _ ∧ True := hf
          obtain ⟨f20, f33, -⟩ := F
          clear ho hf
          go_simp
          exact hK _ (Eq.refl _)
        refine And.intro (stepC_pure (fun _ => trivial) (by kernel_rfl) ?_) ?_
        · intro act W hR hf ho K hK
          have F : act.tmps[44]?.getD undef = _ ∧ act.tmps[30]?.getD undef = _ ∧ True := hf
          obtain ⟨f34, f20, -⟩ := F
          clear ho hf
          go_simp
          exact hK _ (Eq.refl _)
        refine And.intro (stepC_pure (fun _ => trivial) (by kernel_rfl) ?_) ?_
        · intro act W hR hf ho K hK
          have G : act.tmps[2]?.getD undef = _ ∧ True := ho
          obtain ⟨g2, -⟩ := G
          have F : act.tmps[45]?.getD undef = _ ∧ True := hf
          obtain ⟨f35, -⟩ := F
          clear ho hf
          go_simp
          exact hK _ (Eq.refl _)
        refine And.intro (stepC_pure (fun _ => trivial) (by kernel_rfl) ?_) ?_
        · intro act W hR hf ho K hK
          have G : act.tmps[0]?.getD undef = _ ∧ True := ho
          obtain ⟨g0, -⟩ := G
          have F : act.tmps[45]?.getD undef = _ ∧ True := hf
          obtain ⟨f35, -⟩ := F
          clear ho hf
          go_simp
          exact hK _ (Eq.refl _)
        refine And.intro (stepC_pure (fun _ => trivial) (by kernel_rfl) ?_) ?_
        · intro act W hR hf ho K hK
          have F : act.tmps[47]?.getD undef = _ ∧ act.tmps[45]?.getD undef = _ ∧ True := hf
          obtain ⟨f37, f35, -⟩ := F
          clear ho hf
          go_simp
          exact hK _ (Eq.refl _)
        refine And.intro (stepC_pure (fun _ => trivial) (by kernel_rfl) ?_) ?_
        · intro act W hR hf ho K hK
          have F : act.tmps[48]?.getD undef = _ ∧ act.tmps[45]?.getD undef = _ ∧ True := hf
          obtain ⟨f38, f35, -⟩ := F
          clear ho hf
          go_simp
          exact hK _ (Eq.refl _)
        refine And.intro (stepC_stay (pss := []) (by kernel_rfl) rfl 0 [] [] (by kernel_rfl) (by kernel_rfl) ?_) ?_
        · intro act W uu hu hR hS hf ho K hK
          replace hS : (fun (_ : Nat → Value) (W : World) => W = w.drew) uu W := hS
          replace hK := fun (v : Value) (w' : World) (h1 : (fun _ _ : World => True) W w') h2 (h3 : (fun (_ : Nat → Value) (W : World) => W = w.drew) uu w') => hK v w' h1 h2 h3
          have F : act.tmps[49]?.getD undef = _ ∧ act.tmps[45]?.getD undef = _ ∧ True := hf
          obtain ⟨f39, f35, -⟩ := F
          clear hu
          clear ho hf
          obtain rfl := hS
          go_simp
          exact hK _ _ trivial (Eq.refl _) (by first | rfl | exact hS)
        refine And.intro (stepC_pure (fun _ => trivial) (by kernel_rfl) ?_) ?_
        · intro act W hR hf ho K hK
          have G : act.tmps[0]?.getD undef = _ ∧ True := ho
          obtain ⟨g0, -⟩ := G
          have F : act.tmps[45]?.getD undef = _ ∧ True := hf
          obtain ⟨f35, -⟩ := F
          clear ho hf
          go_simp
          exact hK _ (Eq.refl _)
        refine And.intro (stepC_pure (fun _ => trivial) (by kernel_rfl) ?_) ?_
        · intro act W hR hf ho K hK
          have F : act.tmps[51]?.getD undef = _ ∧ act.tmps[45]?.getD undef = _ ∧ True := hf
          obtain ⟨f41, f35, -⟩ := F
          clear ho hf
          go_simp
          exact hK _ (Eq.refl _)
        refine And.intro (stepC_pure (fun _ => trivial) (by kernel_rfl) ?_) ?_
        · intro act W hR hf ho K hK
          have F : act.tmps[52]?.getD undef = _ ∧ act.tmps[45]?.getD undef = _ ∧ True := hf
          obtain ⟨f42, f35, -⟩ := F
          clear ho hf
          go_simp
          exact hK _ (Eq.refl _)
        refine And.intro (stepC_stay (pss := []) (by kernel_rfl) rfl 0 [] [] (by kernel_rfl) (by kernel_rfl) ?_) ?_
        · intro act W uu hu hR hS hf ho K hK
          replace hS : (fun (_ : Nat → Value) (W : World) => W = w.drew) uu W := hS
          replace hK := fun (v : Value) (w' : World) (h1 : (fun _ _ : World => True) W w') h2 (h3 : (fun (_ : Nat → Value) (W : World) => W = w.drew) uu w') => hK v w' h1 h2 h3
          have F : act.tmps[53]?.getD undef = _ ∧ act.tmps[45]?.getD undef = _ ∧ True := hf
          obtain ⟨f43, f35, -⟩ := F
          clear hu
          clear ho hf
          obtain rfl := hS
          go_simp
          exact hK _ _ trivial (Eq.refl _) (by first | rfl | exact hS)
        refine And.intro (stepC_stay (pss := []) (by kernel_rfl) rfl 0 [] [] (by kernel_rfl) (by kernel_rfl) ?_) ?_
        · intro act W uu hu hR hS hf ho K hK
          replace hS : (fun (_ : Nat → Value) (W : World) => W = w.drew) uu W := hS
          replace hK := fun (v : Value) (w' : World) (h1 : (fun _ _ : World => True) W w') h2 (h3 : (fun (_ : Nat → Value) (W : World) => W = w.drew) uu w') => hK v w' h1 h2 h3
          have F : act.tmps[54]?.getD undef = _ ∧ act.tmps[45]?.getD undef = _ ∧ True := hf
          obtain ⟨f44, f35, -⟩ := F
          clear hu
          clear ho hf
          go_simp
          exact hK _ _ trivial (Eq.refl _) (by first | rfl | exact hS)
        refine And.intro (stepC_pure (fun _ => trivial) (by kernel_rfl) ?_) ?_
        · intro act W hR hf ho K hK
          have F : act.tmps[55]?.getD undef = _ ∧ act.tmps[45]?.getD undef = _ ∧ True := hf
          obtain ⟨f45, f35, -⟩ := F
          clear ho hf
          go_simp
          exact hK _ (Eq.refl _)
        refine And.intro (stepC_pure (fun _ => trivial) (by kernel_rfl) ?_) ?_
        · intro act W hR hf ho K hK
          have F : act.tmps[50]?.getD undef = _ ∧ act.tmps[56]?.getD undef = _ ∧ act.tmps[45]?.getD undef = _ ∧ True := hf
          obtain ⟨f40, f46, f35, -⟩ := F
          clear ho hf
          go_simp
          exact hK _ (Eq.refl _)
        refine And.intro (stepC_pure (fun _ => trivial) (by kernel_rfl) ?_) ?_
        · intro act W hR hf ho K hK
          have G : act.tmps[1]?.getD undef = _ ∧ True := ho
          obtain ⟨g1, -⟩ := G
          have F : act.tmps[45]?.getD undef = _ ∧ True := hf
          obtain ⟨f35, -⟩ := F
          clear ho hf
          go_simp
          exact hK _ (Eq.refl _)
        refine And.intro (stepC_pure (fun _ => trivial) (by kernel_rfl) ?_) ?_
        · intro act W hR hf ho K hK
          have F : act.tmps[57]?.getD undef = _ ∧ act.tmps[58]?.getD undef = _ ∧ act.tmps[45]?.getD undef = _ ∧ True := hf
          obtain ⟨f47, f48, f35, -⟩ := F
          clear ho hf
          go_simp
          exact hK _ (Eq.refl _)
        refine And.intro (stepC_pure (fun _ => trivial) (by kernel_rfl) ?_) ?_
        · intro act W hR hf ho K hK
          have F : act.tmps[46]?.getD undef = _ ∧ act.tmps[59]?.getD undef = _ ∧ act.tmps[45]?.getD undef = _ ∧ True := hf
          obtain ⟨f36, f49, f35, -⟩ := F
          clear ho hf
          go_simp
          exact hK _ (Eq.refl _)
        refine And.intro (stepC_pure (fun _ => trivial) (by kernel_rfl) ?_) ?_
        · intro act W hR hf ho K hK
          have F : act.tmps[45]?.getD undef = _ ∧ act.tmps[60]?.getD undef = _ ∧ True := hf
          obtain ⟨f35, f50, -⟩ := F
          clear ho hf
          go_simp
          exact hK _ (Eq.refl _)
        exact trivial
      case stab =>
        refine And.intro is_stable ?_
        refine And.intro is_stable ?_
        refine And.intro is_stable ?_
        refine And.intro is_stable ?_
        refine And.intro is_stable ?_
        refine And.intro is_stable ?_
        refine And.intro is_stable ?_
        refine And.intro is_stable ?_
        refine And.intro is_stable ?_
        refine And.intro is_stable ?_
        refine And.intro is_stable ?_
        refine And.intro is_stable ?_
        refine And.intro is_stable ?_
        refine And.intro is_stable ?_
        refine And.intro is_stable ?_
        refine And.intro is_stable ?_
        refine And.intro is_stable ?_
        refine And.intro is_stable ?_
        refine And.intro is_stable ?_
        refine And.intro is_stable ?_
        refine And.intro is_stable ?_
        refine And.intro is_stable ?_
        refine And.intro is_stable ?_
        refine And.intro is_stable ?_
        refine And.intro is_stable ?_
        refine And.intro is_stable ?_
        refine And.intro is_stable ?_
        refine And.intro is_stable ?_
        refine And.intro is_stable ?_
        refine And.intro is_stable ?_
        refine And.intro is_stable ?_
        refine And.intro is_stable ?_
        refine And.intro is_stable ?_
        refine And.intro is_stable ?_
        refine And.intro is_stable ?_
        refine And.intro is_stable ?_
        refine And.intro is_stable ?_
        refine And.intro is_stable ?_
        refine And.intro is_stable ?_
        refine And.intro is_stable ?_
        refine And.intro is_stable ?_
        refine And.intro is_stable ?_
        refine And.intro is_stable ?_
        refine And.intro is_stable ?_
        refine And.intro is_stable ?_
        refine And.intro is_stable ?_
        refine And.intro is_stable ?_
        refine And.intro is_stable ?_
        refine And.intro is_stable ?_
        refine And.intro is_stable ?_
        refine And.intro is_stable ?_
        refine And.intro is_stable ?_
        exact trivial
      case ends =>
        intro vals W uu hu hR hS hall
        replace hS : (fun (_ : Nat → Value) (W : World) => W = w.drew) uu W := hS
        clear hu
        have e61 : vals 61 = _ := hall 51 (by decide)
        clear hall
        simp only [fill, List.setIfInBounds_toArray, List.set_cons_succ, List.set_cons_zero, e61]
        obtain rfl := hS
        go_wp2_with fail
        go_ret
        exact ⟨by rw [HG.out]; rfl, F, H.out.drew 1, by rw [HG.out]; exact HR.out, rfl, (Kept.of_ext (Below.refl _ _)).drewN 1⟩
    · have f1' : (n.tmod 16 != 0) = false := by rw [bne_eq_false_iff_eq]; exact tmod_zero.2 (by omega)
      by_cases g2 : n < 1
      · have f2' : decide (n < 1) = true := decide_eq_true g2
        clear g2 hm
        go_enter Try.func14, Try.ntmps14
        go_wp2_with fail
        refine wp_region_stage (fun _ _ : World => True) [] [(fun (_ : Nat → Value) (W : World) => W = w.drew)] [10, 11, 12, 13, 14, 15, 16, 17, 18, 19, 20, 21, 22, 23, 24, 25, 26, 27, 28, 29, 30, 31, 32, 33, 34, 35, 36, 37, 38, 39, 40, 41, 42, 43, 44, 45, 46, 47, 48, 49, 50, 51, 52, 53, 54, 55, 56, 57, 58, 59, 60, 61] (by kernel_rfl) (fun _ => trivial) (fun _ _ _ _ _ => trivial) (by kernel_rfl) (by kernel_rfl) (by kernel_rfl) ?start ?_
        case start => rfl
        apply ex_is; apply Exists.intro
        apply ex_is; apply Exists.intro
        apply ex_is; apply Exists.intro
        apply ex_is; apply Exists.intro
        apply ex_is; apply Exists.intro
        apply ex_is; apply Exists.intro
        apply ex_is; apply Exists.intro
        apply ex_is; apply Exists.intro
        apply ex_is; apply Exists.intro
        apply ex_is; apply Exists.intro
        apply ex_is; apply Exists.intro
        apply ex_is; apply Exists.intro
        apply ex_is; apply Exists.intro
        apply ex_is; apply Exists.intro
        apply ex_is; apply Exists.intro
        apply ex_is; apply Exists.intro
        apply ex_is; apply Exists.intro
        apply ex_is; apply Exists.intro
        apply ex_is; apply Exists.intro
        apply ex_is; apply Exists.intro
        apply ex_is; apply Exists.intro
        apply ex_is; apply Exists.intro
        apply ex_is; apply Exists.intro
        apply ex_is; apply Exists.intro
        apply ex_is; apply Exists.intro
        apply ex_is; apply Exists.intro
        apply ex_is; apply Exists.intro
        apply ex_is; apply Exists.intro
        apply ex_is; apply Exists.intro
        apply ex_is; apply Exists.intro
        apply ex_is; apply Exists.intro
        apply ex_is; apply Exists.intro
        apply ex_is; apply Exists.intro
        apply ex_is; apply Exists.intro
        apply ex_is; apply Exists.intro
        apply ex_is; apply Exists.intro
        apply ex_is; apply Exists.intro
        apply ex_is; apply Exists.intro
        apply ex_is; apply Exists.intro
        apply ex_is; apply Exists.intro
        apply ex_is; apply Exists.intro
        apply ex_is; apply Exists.intro
        apply ex_is; apply Exists.intro
        apply ex_is; apply Exists.intro
        apply ex_is; apply Exists.intro
        apply ex_is; apply Exists.intro
        apply ex_is; apply Exists.intro
        apply ex_is; apply Exists.intro
        apply ex_is; apply Exists.intro
        apply ex_is; apply Exists.intro
        apply ex_is; apply Exists.intro
        apply ex_is; apply Exists.intro
        refine ⟨[], ⟨?steps, ?stab, ?ends⟩⟩
        case steps =>
          refine And.intro (stepC_pure (fun _ => trivial) (by kernel_rfl) ?_) ?_
          · intro act W hR hf ho K hK
            have G : act.tmps[1]?.getD undef = _ ∧ True := ho
            obtain ⟨g1, -⟩ := G
            clear ho hf
            go_simp
            exact hK _ (Eq.refl _)
          refine And.intro (stepC_pure (fun _ => trivial) (by kernel_rfl) ?_) ?_
          · intro act W hR hf ho K hK
            have F : act.tmps[10]?.getD undef = _ ∧ True := hf
            obtain ⟨f0, -⟩ := F
            clear ho hf
            go_simp
            exact hK _ (Eq.refl _)
          refine And.intro (stepC_pure (fun _ => trivial) (by kernel_rfl) ?_) ?_
          · intro act W hR hf ho K hK
            have F : act.tmps[11]?.getD undef = _ ∧ True := hf
            obtain ⟨f1, -⟩ := F
            clear ho hf
            go_simp
            exact hK _ (Eq.refl _)
          refine And.intro (stepC_pure (fun _ => trivial) (by kernel_rfl) ?_) ?_
          · intro act W hR hf ho K hK
            have F : act.tmps[12]?.getD undef = _ ∧ True := hf
            obtain ⟨f2, -⟩ := F
            clear ho hf
            go_simp
            exact hK _ (Eq.refl _)
          refine And.intro (stepC_pure (fun _ => trivial) (by kernel_rfl) ?_) ?_
          · intro act W hR hf ho K hK
            have G : act.tmps[2]?.getD undef = _ ∧ True := ho
            obtain ⟨g2, -⟩ := G
            have F : act.tmps[13]?.getD undef = _ ∧ True := hf
            obtain ⟨f3, -⟩ := F
            clear ho hf
            go_simp
            exact hK _ (Eq.refl _)
          refine And.intro (stepC_pure (fun _ => trivial) (by kernel_rfl) ?_) ?_
          · intro act W hR hf ho K hK
            have F : act.tmps[14]?.getD undef = _ ∧ act.tmps[13]?.getD undef = _ ∧ True := hf
            obtain ⟨f4, f3, -⟩ := F
            clear ho hf
            go_simp
            exact hK _ (Eq.refl _)
          refine And.intro (stepC_pure (fun _ => trivial) (by kernel_rfl) ?_) ?_
          · intro act W hR hf ho K hK
            have F : act.tmps[15]?.getD undef = _ ∧ act.tmps[13]?.getD undef = _ ∧ True := hf
            obtain ⟨f5, f3, -⟩ := F
            clear ho hf
            go_simp
            exact hK _ (Eq.refl _)
          refine And.intro (stepC_pure (fun _ => trivial) (by kernel_rfl) ?_) ?_
          · intro act W hR hf ho K hK
            have F : act.tmps[13]?.getD undef = _ ∧ act.tmps[16]?.getD undef = _ ∧ True := hf
            obtain ⟨f3, f6, -⟩ := F
            clear ho hf
            go_simp
            exact hK _ (Eq.refl _)
          refine And.intro (stepC_pure (fun _ => trivial) (by kernel_rfl) ?_) ?_
          · intro act W hR hf ho K hK
            have F : act.tmps[17]?.getD undef = _ ∧ act.tmps[13]?.getD undef = _ ∧ True := hf
            obtain ⟨f7, f3, -⟩ := F
            clear ho hf
            go_simp
            exact hK _ (Eq.refl _)
          refine And.intro (stepC_pure (fun _ => trivial) (by kernel_rfl) ?_) ?_
          · intro act W hR hf ho K hK
            have G : act.tmps[2]?.getD undef = _ ∧ True := ho
            obtain ⟨g2, -⟩ := G
            have F : act.tmps[18]?.getD undef = _ ∧ True := hf
            obtain ⟨f8, -⟩ := F
            clear ho hf
            go_simp
            exact hK _ (Eq.refl _)
          refine And.intro (stepC_pure (fun _ => trivial) (by kernel_rfl) ?_) ?_
          · intro act W hR hf ho K hK
            have F : act.tmps[19]?.getD undef = _ ∧ act.tmps[18]?.getD undef = _ ∧ True := hf
            obtain ⟨f9, f8, -⟩ := F
            clear ho hf
            go_simp
            exact hK _ (Eq.refl _)
          refine And.intro (stepC_pure (fun _ => trivial) (by kernel_rfl) ?_) ?_
          · intro act W hR hf ho K hK
            have F : act.tmps[18]?.getD undef = _ ∧ act.tmps[20]?.getD undef = _ ∧ True := hf
            obtain ⟨f8, f10, -⟩ := F
            clear ho hf
            go_simp
            exact hK _ (Eq.refl _)
          refine And.intro (stepC_pure (fun _ => trivial) (by kernel_rfl) ?_) ?_
          · intro act W hR hf ho K hK
            have F : act.tmps[21]?.getD undef = _ ∧ act.tmps[18]?.getD undef = _ ∧ True := hf
            obtain ⟨f11, f8, -⟩ := F
            clear ho hf
            go_simp
            exact hK _ (Eq.refl _)
          refine And.intro (stepC_pure (fun _ => trivial) (by kernel_rfl) ?_) ?_
          · intro act W hR hf ho K hK
            have G : act.tmps[1]?.getD undef = _ ∧ True := ho
            obtain ⟨g1, -⟩ := G
            have F : act.tmps[22]?.getD undef = _ ∧ True := hf
            obtain ⟨f12, -⟩ := F
            clear ho hf
            go_simp
            exact hK _ (Eq.refl _)
          refine And.intro (stepC_pure (fun _ => trivial) (by kernel_rfl) ?_) ?_
          · intro act W hR hf ho K hK
            have G : act.tmps[0]?.getD undef = _ ∧ True := ho
            obtain ⟨g0, -⟩ := G
            have F : act.tmps[22]?.getD undef = _ ∧ True := hf
            obtain ⟨f12, -⟩ := F
            clear ho hf
            go_simp
            exact hK _ (Eq.refl _)
          refine And.intro (stepC_pure (fun _ => trivial) (by kernel_rfl) ?_) ?_
          · intro act W hR hf ho K hK
            have F : act.tmps[24]?.getD undef = _ ∧ act.tmps[22]?.getD undef = _ ∧ True := hf
            obtain ⟨f14, f12, -⟩ := F
            clear ho hf
            go_simp
            exact hK _ (Eq.refl _)
          refine And.intro (stepC_pure (fun _ => trivial) (by kernel_rfl) ?_) ?_
          · intro act W hR hf ho K hK
            have F : act.tmps[25]?.getD undef = _ ∧ act.tmps[22]?.getD undef = _ ∧ True := hf
            obtain ⟨f15, f12, -⟩ := F
            clear ho hf
            go_simp
            exact hK _ (Eq.refl _)
          refine And.intro (stepC_stay (pss := []) (by kernel_rfl) rfl 0 [] [] (by kernel_rfl) (by kernel_rfl) ?_) ?_
          · intro act W uu hu hR hS hf ho K hK
            replace hS : (fun (_ : Nat → Value) (W : World) => W = w.drew) uu W := hS
            replace hK := fun (v : Value) (w' : World) (h1 : (fun _ _ : World => True) W w') h2 (h3 : (fun (_ : Nat → Value) (W : World) => W = w.drew) uu w') => hK v w' h1 h2 h3
            have F : act.tmps[26]?.getD undef = _ ∧ act.tmps[22]?.getD undef = _ ∧ True := hf
            obtain ⟨f16, f12, -⟩ := F
            clear hu
            clear ho hf
            obtain rfl := hS
            go_simp
            exact hK _ _ trivial (Eq.refl _) (by first | rfl | exact hS)
          refine And.intro (stepC_pure (fun _ => trivial) (by kernel_rfl) ?_) ?_
          · intro act W hR hf ho K hK
            have F : act.tmps[23]?.getD undef = _ ∧ act.tmps[27]?.getD undef = _ ∧ act.tmps[22]?.getD undef = _ ∧ True := hf
            obtain ⟨f13, f17, f12, -⟩ := F
            clear ho hf
            go_simp
            exact hK _ (Eq.refl _)
          refine And.intro (stepC_pure (fun _ => trivial) (by kernel_rfl) ?_) ?_
          · intro act W hR hf ho K hK
            have F : act.tmps[22]?.getD undef = _ ∧ act.tmps[28]?.getD undef = _ ∧ True := hf
            obtain ⟨f12, f18, -⟩ := F
            clear ho hf
            go_simp
            exact hK _ (Eq.refl _)
          refine And.intro (stepC_pure (fun _ => trivial) (by kernel_rfl) ?_) ?_
          · intro act W hR hf ho K hK
            have F : act.tmps[29]?.getD undef = _ ∧ act.tmps[22]?.getD undef = _ ∧ True := hf
            obtain ⟨f19, f12, -⟩ := F
            clear ho hf
            go_simp
            exact hK _ (Eq.refl _)
          refine And.intro (stepC_pure (fun _ => trivial) (by kernel_rfl) ?_) ?_
          · intro act W hR hf ho K hK
            have G : act.tmps[1]?.getD undef = _ ∧ True := ho
            obtain ⟨g1, -⟩ := G
            have F : act.tmps[30]?.getD undef = _ ∧ True := hf
            obtain ⟨f20, -⟩ := F
            clear ho hf
            go_simp
            exact hK _ (Eq.refl _)
          refine And.intro (stepC_pure (fun _ => trivial) (by kernel_rfl) ?_) ?_
          · intro act W hR hf ho K hK
            have G : act.tmps[0]?.getD undef = _ ∧ True := ho
            obtain ⟨g0, -⟩ := G
            have F : act.tmps[30]?.getD undef = _ ∧ True := hf
            obtain ⟨f20, -⟩ := F
            clear ho hf
            go_simp
            exact hK _ (Eq.refl _)
          refine And.intro (stepC_pure (fun _ => trivial) (by kernel_rfl) ?_) ?_
          · intro act W hR hf ho K hK
            have F : act.tmps[32]?.getD undef = _ ∧ act.tmps[30]?.getD undef = _ ∧ True := hf
            obtain ⟨f22, f20, -⟩ := F
            clear ho hf
            go_simp
            exact hK _ (Eq.refl _)
          refine And.intro (stepC_pure (fun _ => trivial) (by kernel_rfl) ?_) ?_
          · intro act W hR hf ho K hK
            have F : act.tmps[33]?.getD undef = _ ∧ act.tmps[30]?.getD undef = _ ∧ True := hf
            obtain ⟨f23, f20, -⟩ := F
            clear ho hf
            go_simp
            exact hK _ (Eq.refl _)
          refine And.intro (stepC_stay (pss := []) (by kernel_rfl) rfl 0 [] [] (by kernel_rfl) (by kernel_rfl) ?_) ?_
          · intro act W uu hu hR hS hf ho K hK
            replace hS : (fun (_ : Nat → Value) (W : World) => W = w.drew) uu W := hS
            replace hK := fun (v : Value) (w' : World) (h1 : (fun _ _ : World => True) W w') h2 (h3 : (fun (_ : Nat → Value) (W : World) => W = w.drew) uu w') => hK v w' h1 h2 h3
            have F : act.tmps[34]?.getD undef = _ ∧ act.tmps[30]?.getD undef = _ ∧ True := hf
            obtain ⟨f24, f20, -⟩ := F
            clear hu
            clear ho hf
            obtain rfl := hS
            go_simp
            exact hK _ _ trivial (Eq.refl _) (by first | rfl | exact hS)
          refine And.intro (stepC_pure (fun _ => trivial) (by kernel_rfl) ?_) ?_
          · intro act W hR hf ho K hK
            have G : act.tmps[0]?.getD undef = _ ∧ True := ho
            obtain ⟨g0, -⟩ := G
            have F : act.tmps[30]?.getD undef = _ ∧ True := hf
            obtain ⟨f20, -⟩ := F
            clear ho hf
            go_simp
            exact hK _ (Eq.refl _)
          refine And.intro (stepC_pure (fun _ => trivial) (by kernel_rfl) ?_) ?_
          · intro act W hR hf ho K hK
            have F : act.tmps[36]?.getD undef = _ ∧ act.tmps[30]?.getD undef = _ ∧ True := hf
            obtain ⟨f26, f20, -⟩ := F
            clear ho hf
            go_simp
            exact hK _ (Eq.refl _)
          refine And.intro (stepC_pure (fun _ => trivial) (by kernel_rfl) ?_) ?_
          · intro act W hR hf ho K hK
            have F : act.tmps[37]?.getD undef = _ ∧ act.tmps[30]?.getD undef = _ ∧ True := hf
            obtain ⟨f27, f20, -⟩ := F
            clear ho hf
            go_simp
            exact hK _ (Eq.refl _)
          refine And.intro (stepC_stay (pss := []) (by kernel_rfl) rfl 0 [] [] (by kernel_rfl) (by kernel_rfl) ?_) ?_
          · intro act W uu hu hR hS hf ho K hK
            replace hS : (fun (_ : Nat → Value) (W : World) => W = w.drew) uu W := hS
            replace hK := fun (v : Value) (w' : World) (h1 : (fun _ _ : World => True) W w') h2 (h3 : (fun (_ : Nat → Value) (W : World) => W = w.drew) uu w') => hK v w' h1 h2 h3
            have F : act.tmps[38]?.getD undef = _ ∧ act.tmps[30]?.getD undef = _ ∧ True := hf
            obtain ⟨f28, f20, -⟩ := F
            clear hu
            clear ho hf
            obtain rfl := hS
            go_simp
            exact hK _ _ trivial (Eq.refl _) (by first | rfl | exact hS)
          refine And.intro (stepC_stay (pss := []) (by kernel_rfl) rfl 0 [] [] (by kernel_rfl) (by kernel_rfl) ?_) ?_
          · intro act W uu hu hR hS hf ho K hK
            replace hS : (fun (_ : Nat → Value) (W : World) => W = w.drew) uu W := hS
            replace hK := fun (v : Value) (w' : World) (h1 : (fun _ _ : World => True) W w') h2 (h3 : (fun (_ : Nat → Value) (W : World) => W = w.drew) uu w') => hK v w' h1 h2 h3
            have F : act.tmps[39]?.getD undef = _ ∧ act.tmps[30]?.getD undef = _ ∧ True := hf
            obtain ⟨f29, f20, -⟩ := F
            clear hu
            clear ho hf
            go_simp
            exact hK _ _ trivial (Eq.refl _) (by first | rfl | exact hS)
          refine And.intro (stepC_pure (fun _ => trivial) (by kernel_rfl) ?_) ?_
          · intro act W hR hf ho K hK
            have F : act.tmps[40]?.getD undef = _ ∧ act.tmps[30]?.getD undef = _ ∧ True := hf
            obtain ⟨f30, f20, -⟩ := F
            clear ho hf
            go_simp
            exact hK _ (Eq.refl _)
          refine And.intro (stepC_pure (fun _ => trivial) (by kernel_rfl) ?_) ?_
          · intro act W hR hf ho K hK
            have F : act.tmps[35]?.getD undef = _ ∧ act.tmps[41]?.getD undef = _ ∧ act.tmps[30]?.getD undef = _ ∧ True := hf
            obtain ⟨f25, f31, f20, -⟩ := F
            clear ho hf
            go_simp
            exact hK _ (Eq.refl _)
          refine And.intro (stepC_pure (fun _ => trivial) (by kernel_rfl) ?_) ?_
          · intro act W hR hf ho K hK
            have F : act.tmps[31]?.getD undef = _ ∧ act.tmps[42]?.getD undef = _ ∧ act.tmps[30]?.getD undef = _ ∧ True := hf
            obtain ⟨f21, f32, f20, -⟩ := F
            clear ho hf
            go_simp
            exact hK _ (Eq.refl _)
          refine And.intro (stepC_pure (fun _ => trivial) (by kernel_rfl) ?_) ?_
          · intro act W hR hf ho K hK
            have F : act.tmps[30]?.getD undef = _ ∧ act.tmps[43]?.getD undef = _ ∧ True := hf
            obtain ⟨f20, f33, -⟩ := F
            clear ho hf
            go_simp
            exact hK _ (Eq.refl _)
          refine And.intro (stepC_pure (fun _ => trivial) (by kernel_rfl) ?_) ?_
          · intro act W hR hf ho K hK
            have F : act.tmps[44]?.getD undef = _ ∧ act.tmps[30]?.getD undef = _ ∧ True := hf
            obtain ⟨f34, f20, -⟩ := F
            clear ho hf
            go_simp
            exact hK _ (Eq.refl _)
          refine And.intro (stepC_pure (fun _ => trivial) (by kernel_rfl) ?_) ?_
          · intro act W hR hf ho K hK
            have G : act.tmps[2]?.getD undef = _ ∧ True := ho
            obtain ⟨g2, -⟩ := G
            have F : act.tmps[45]?.getD undef = _ ∧ True := hf
            obtain ⟨f35, -⟩ := F
            clear ho hf
            go_simp
            exact hK _ (Eq.refl _)
          refine And.intro (stepC_pure (fun _ => trivial) (by kernel_rfl) ?_) ?_
          · intro act W hR hf ho K hK
            have G : act.tmps[0]?.getD undef = _ ∧ True := ho
            obtain ⟨g0, -⟩ := G
            have F : act.tmps[45]?.getD undef = _ ∧ True := hf
            obtain ⟨f35, -⟩ := F
            clear ho hf
            go_simp
            exact hK _ (Eq.refl _)
          refine And.intro (stepC_pure (fun _ => trivial) (by kernel_rfl) ?_) ?_
          · intro act W hR hf ho K hK
            have F : act.tmps[47]?.getD undef = _ ∧ act.tmps[45]?.getD undef = _ ∧ True := hf
            obtain ⟨f37, f35, -⟩ := F
            clear ho hf
            go_simp
            exact hK _ (Eq.refl _)
          refine And.intro (stepC_pure (fun _ => trivial) (by kernel_rfl) ?_) ?_
          · intro act W hR hf ho K hK
            have F : act.tmps[48]?.getD undef = _ ∧ act.tmps[45]?.getD undef = _ ∧ True := hf
            obtain ⟨f38, f35, -⟩ := F
            clear ho hf
            go_simp
            exact hK _ (Eq.refl _)
          refine And.intro (stepC_stay (pss := []) (by kernel_rfl) rfl 0 [] [] (by kernel_rfl) (by kernel_rfl) ?_) ?_
          · intro act W uu hu hR hS hf ho K hK
            replace hS : (fun (_ : Nat → Value) (W : World) => W = w.drew) uu W := hS
            replace hK := fun (v : Value) (w' : World) (h1 : (fun _ _ : World => True) W w') h2 (h3 : (fun (_ : Nat → Value) (W : World) => W = w.drew) uu w') => hK v w' h1 h2 h3
            have F : act.tmps[49]?.getD undef = _ ∧ act.tmps[45]?.getD undef = _ ∧ True := hf
            obtain ⟨f39, f35, -⟩ := F
            clear hu
            clear ho hf
            obtain rfl := hS
            go_simp
            exact hK _ _ trivial (Eq.refl _) (by first | rfl | exact hS)
          refine And.intro (stepC_pure (fun _ => trivial) (by kernel_rfl) ?_) ?_
          · intro act W hR hf ho K hK
            have G : act.tmps[0]?.getD undef = _ ∧ True := ho
            obtain ⟨g0, -⟩ := G
            have F : act.tmps[45]?.getD undef = _ ∧ True := hf
            obtain ⟨f35, -⟩ := F
            clear ho hf
            go_simp
            exact hK _ (Eq.refl _)
          refine And.intro (stepC_pure (fun _ => trivial) (by kernel_rfl) ?_) ?_
          · intro act W hR hf ho K hK
            have F : act.tmps[51]?.getD undef = _ ∧ act.tmps[45]?.getD undef = _ ∧ True := hf
            obtain ⟨f41, f35, -⟩ := F
            clear ho hf
            go_simp
            exact hK _ (Eq.refl _)
          refine And.intro (stepC_pure (fun _ => trivial) (by kernel_rfl) ?_) ?_
          · intro act W hR hf ho K hK
            have F : act.tmps[52]?.getD undef = _ ∧ act.tmps[45]?.getD undef = _ ∧ True := hf
            obtain ⟨f42, f35, -⟩ := F
            clear ho hf
            go_simp
            exact hK _ (Eq.refl _)
          refine And.intro (stepC_stay (pss := []) (by kernel_rfl) rfl 0 [] [] (by kernel_rfl) (by kernel_rfl) ?_) ?_
          · intro act W uu hu hR hS hf ho K hK
            replace hS : (fun (_ : Nat → Value) (W : World) => W = w.drew) uu W := hS
            replace hK := fun (v : Value) (w' : World) (h1 : (fun _ _ : World => True) W w') h2 (h3 : (fun (_ : Nat → Value) (W : World) => W = w.drew) uu w') => hK v w' h1 h2 h3
            have F : act.tmps[53]?.getD undef = _ ∧ act.tmps[45]?.getD undef = _ ∧ True := hf
            obtain ⟨f43, f35, -⟩ := F
            clear hu
            clear ho hf
            obtain rfl := hS
            go_simp
            exact hK _ _ trivial (Eq.refl _) (by first | rfl | exact hS)
          refine And.intro (stepC_stay (pss := []) (by kernel_rfl) rfl 0 [] [] (by kernel_rfl) (by kernel_rfl) ?_) ?_
          · intro act W uu hu hR hS hf ho K hK
            replace hS : (fun (_ : Nat → Value) (W : World) => W = w.drew) uu W := hS
            replace hK := fun (v : Value) (w' : World) (h1 : (fun _ _ : World => True) W w') h2 (h3 : (fun (_ : Nat → Value) (W : World) => W = w.drew) uu w') => hK v w' h1 h2 h3
            have F : act.tmps[54]?.getD undef = _ ∧ act.tmps[45]?.getD undef = _ ∧ True := hf
            obtain ⟨f44, f35, -⟩ := F
            clear hu
            clear ho hf
            go_simp
            exact hK _ _ trivial (Eq.refl _) (by first | rfl | exact hS)
          refine And.intro (stepC_pure (fun _ => trivial) (by kernel_rfl) ?_) ?_
          · intro act W hR hf ho K hK
            have F : act.tmps[55]?.getD undef = _ ∧ act.tmps[45]?.getD undef = _ ∧ True := hf
            obtain ⟨f45, f35, -⟩ := F
            clear ho hf
            go_simp
            exact hK _ (Eq.refl _)
          refine And.intro (stepC_pure (fun _ => trivial) (by kernel_rfl) ?_) ?_
          · intro act W hR hf ho K hK
            have F : act.tmps[50]?.getD undef = _ ∧ act.tmps[56]?.getD undef = _ ∧ act.tmps[45]?.getD undef = _ ∧ True := hf
            obtain ⟨f40, f46, f35, -⟩ := F
            clear ho hf
            go_simp
            exact hK _ (Eq.refl _)
          refine And.intro (stepC_pure (fun _ => trivial) (by kernel_rfl) ?_) ?_
          · intro act W hR hf ho K hK
            have G : act.tmps[1]?.getD undef = _ ∧ True := ho
            obtain ⟨g1, -⟩ := G
            have F : act.tmps[45]?.getD undef = _ ∧ True := hf
            obtain ⟨f35, -⟩ := F
            clear ho hf
            go_simp
            exact hK _ (Eq.refl _)
          refine And.intro (stepC_pure (fun _ => trivial) (by kernel_rfl) ?_) ?_
          · intro act W hR hf ho K hK
            have F : act.tmps[57]?.getD undef = _ ∧ act.tmps[58]?.getD undef = _ ∧ act.tmps[45]?.getD undef = _ ∧ True := hf
            obtain ⟨f47, f48, f35, -⟩ := F
            clear ho hf
            go_simp
            exact hK _ (Eq.refl _)
          refine And.intro (stepC_pure (fun _ => trivial) (by kernel_rfl) ?_) ?_
          · intro act W hR hf ho K hK
            have F : act.tmps[46]?.getD undef = _ ∧ act.tmps[59]?.getD undef = _ ∧ act.tmps[45]?.getD undef = _ ∧ True := hf
            obtain ⟨f36, f49, f35, -⟩ := F
            clear ho hf
            go_simp
            exact hK _ (Eq.refl _)
          refine And.intro (stepC_pure (fun _ => trivial) (by kernel_rfl) ?_) ?_
          · intro act W hR hf ho K hK
            have F : act.tmps[45]?.getD undef = _ ∧ act.tmps[60]?.getD undef = _ ∧ True := hf
            obtain ⟨f35, f50, -⟩ := F
            clear ho hf
            go_simp
            exact hK _ (Eq.refl _)
          exact trivial
        case stab =>
          refine And.intro is_stable ?_
          refine And.intro is_stable ?_
          refine And.intro is_stable ?_
          refine And.intro is_stable ?_
          refine And.intro is_stable ?_
          refine And.intro is_stable ?_
          refine And.intro is_stable ?_
          refine And.intro is_stable ?_
          refine And.intro is_stable ?_
          refine And.intro is_stable ?_
          refine And.intro is_stable ?_
          refine And.intro is_stable ?_
          refine And.intro is_stable ?_
          refine And.intro is_stable ?_
          refine And.intro is_stable ?_
          refine And.intro is_stable ?_
          refine And.intro is_stable ?_
          refine And.intro is_stable ?_
          refine And.intro is_stable ?_
          refine And.intro is_stable ?_
          refine And.intro is_stable ?_
          refine And.intro is_stable ?_
          refine And.intro is_stable ?_
          refine And.intro is_stable ?_
          refine And.intro is_stable ?_
          refine And.intro is_stable ?_
          refine And.intro is_stable ?_
          refine And.intro is_stable ?_
          refine And.intro is_stable ?_
          refine And.intro is_stable ?_
          refine And.intro is_stable ?_
          refine And.intro is_stable ?_
          refine And.intro is_stable ?_
          refine And.intro is_stable ?_
          refine And.intro is_stable ?_
          refine And.intro is_stable ?_
          refine And.intro is_stable ?_
          refine And.intro is_stable ?_
          refine And.intro is_stable ?_
          refine And.intro is_stable ?_
          refine And.intro is_stable ?_
          refine And.intro is_stable ?_
          refine And.intro is_stable ?_
          refine And.intro is_stable ?_
          refine And.intro is_stable ?_
          refine And.intro is_stable ?_
          refine And.intro is_stable ?_
          refine And.intro is_stable ?_
          refine And.intro is_stable ?_
          refine And.intro is_stable ?_
          refine And.intro is_stable ?_
          refine And.intro is_stable ?_
          exact trivial
        case ends =>
          intro vals W uu hu hR hS hall
          replace hS : (fun (_ : Nat → Value) (W : World) => W = w.drew) uu W := hS
          clear hu
          have e61 : vals 61 = _ := hall 51 (by decide)
          clear hall
          simp only [fill, List.setIfInBounds_toArray, List.set_cons_succ, List.set_cons_zero, e61]
          obtain rfl := hS
          go_wp2_with fail
          go_ret
          exact ⟨by rw [HG.out]; rfl, F, H.out.drew 1, by rw [HG.out]; exact HR.out, rfl, (Kept.of_ext (Below.refl _ _)).drewN 1⟩
      · have f2' : decide (n < 1) = false := decide_eq_false g2
        by_cases g3 : z < a
        · have f3' : decide (z < a) = true := decide_eq_true g3
          clear g3 hm
          go_enter Try.func14, Try.ntmps14
          go_wp2_with fail
          refine wp_region_stage (fun _ _ : World => True) [] [(fun (_ : Nat → Value) (W : World) => W = w.drew)] [10, 11, 12, 13, 14, 15, 16, 17, 18, 19, 20, 21, 22, 23, 24, 25, 26, 27, 28, 29, 30, 31, 32, 33, 34, 35, 36, 37, 38, 39, 40, 41, 42, 43, 44, 45, 46, 47, 48, 49, 50, 51, 52, 53, 54, 55, 56, 57, 58, 59, 60, 61] (by kernel_rfl) (fun _ => trivial) (fun _ _ _ _ _ => trivial) (by kernel_rfl) (by kernel_rfl) (by kernel_rfl) ?start ?_
          case start => rfl
          apply ex_is; apply Exists.intro
          apply ex_is; apply Exists.intro
          apply ex_is; apply Exists.intro
          apply ex_is; apply Exists.intro
          apply ex_is; apply Exists.intro
          apply ex_is; apply Exists.intro
          apply ex_is; apply Exists.intro
          apply ex_is; apply Exists.intro
          apply ex_is; apply Exists.intro
          apply ex_is; apply Exists.intro
          apply ex_is; apply Exists.intro
          apply ex_is; apply Exists.intro
          apply ex_is; apply Exists.intro
          apply ex_is; apply Exists.intro
          apply ex_is; apply Exists.intro
          apply ex_is; apply Exists.intro
          apply ex_is; apply Exists.intro
          apply ex_is; apply Exists.intro
          apply ex_is; apply Exists.intro
          apply ex_is; apply Exists.intro
          apply ex_is; apply Exists.intro
          apply ex_is; apply Exists.intro
          apply ex_is; apply Exists.intro
          apply ex_is; apply Exists.intro
          apply ex_is; apply Exists.intro
          apply ex_is; apply Exists.intro
          apply ex_is; apply Exists.intro
          apply ex_is; apply Exists.intro
          apply ex_is; apply Exists.intro
          apply ex_is; apply Exists.intro
          apply ex_is; apply Exists.intro
          apply ex_is; apply Exists.intro
          apply ex_is; apply Exists.intro
          apply ex_is; apply Exists.intro
          apply ex_is; apply Exists.intro
          apply ex_is; apply Exists.intro
          apply ex_is; apply Exists.intro
          apply ex_is; apply Exists.intro
          apply ex_is; apply Exists.intro
          apply ex_is; apply Exists.intro
          apply ex_is; apply Exists.intro
          apply ex_is; apply Exists.intro
          apply ex_is; apply Exists.intro
          apply ex_is; apply Exists.intro
          apply ex_is; apply Exists.intro
          apply ex_is; apply Exists.intro
          apply ex_is; apply Exists.intro
          apply ex_is; apply Exists.intro
          apply ex_is; apply Exists.intro
          apply ex_is; apply Exists.intro
          apply ex_is; apply Exists.intro
          apply ex_is; apply Exists.intro
          refine ⟨[], ⟨?steps, ?stab, ?ends⟩⟩
          case steps =>
            refine And.intro (stepC_pure (fun _ => trivial) (by kernel_rfl) ?_) ?_
            · intro act W hR hf ho K hK
              have G : act.tmps[1]?.getD undef = _ ∧ True := ho
              obtain ⟨g1, -⟩ := G
              clear ho hf
              go_simp
              exact hK _ (Eq.refl _)
            refine And.intro (stepC_pure (fun _ => trivial) (by kernel_rfl) ?_) ?_
            · intro act W hR hf ho K hK
              have F : act.tmps[10]?.getD undef = _ ∧ True := hf
              obtain ⟨f0, -⟩ := F
              clear ho hf
              go_simp
              exact hK _ (Eq.refl _)
            refine And.intro (stepC_pure (fun _ => trivial) (by kernel_rfl) ?_) ?_
            · intro act W hR hf ho K hK
              have F : act.tmps[11]?.getD undef = _ ∧ True := hf
              obtain ⟨f1, -⟩ := F
              clear ho hf
              go_simp
              exact hK _ (Eq.refl _)
            refine And.intro (stepC_pure (fun _ => trivial) (by kernel_rfl) ?_) ?_
            · intro act W hR hf ho K hK
              have F : act.tmps[12]?.getD undef = _ ∧ True := hf
              obtain ⟨f2, -⟩ := F
              clear ho hf
              go_simp
              exact hK _ (Eq.refl _)
            refine And.intro (stepC_pure (fun _ => trivial) (by kernel_rfl) ?_) ?_
            · intro act W hR hf ho K hK
              have G : act.tmps[2]?.getD undef = _ ∧ True := ho
              obtain ⟨g2, -⟩ := G
              have F : act.tmps[13]?.getD undef = _ ∧ True := hf
              obtain ⟨f3, -⟩ := F
              clear ho hf
              go_simp
              exact hK _ (Eq.refl _)
            refine And.intro (stepC_pure (fun _ => trivial) (by kernel_rfl) ?_) ?_
            · intro act W hR hf ho K hK
              have F : act.tmps[14]?.getD undef = _ ∧ act.tmps[13]?.getD undef = _ ∧ True := hf
              obtain ⟨f4, f3, -⟩ := F
              clear ho hf
              go_simp
              exact hK _ (Eq.refl _)
            refine And.intro (stepC_pure (fun _ => trivial) (by kernel_rfl) ?_) ?_
            · intro act W hR hf ho K hK
              have F : act.tmps[15]?.getD undef = _ ∧ act.tmps[13]?.getD undef = _ ∧ True := hf
              obtain ⟨f5, f3, -⟩ := F
              clear ho hf
              go_simp
              exact hK _ (Eq.refl _)
            refine And.intro (stepC_pure (fun _ => trivial) (by kernel_rfl) ?_) ?_
            · intro act W hR hf ho K hK
              have F : act.tmps[13]?.getD undef = _ ∧ act.tmps[16]?.getD undef = _ ∧ True := hf
              obtain ⟨f3, f6, -⟩ := F
              clear ho hf
              go_simp
              exact hK _ (Eq.refl _)
            refine And.intro (stepC_pure (fun _ => trivial) (by kernel_rfl) ?_) ?_
            · intro act W hR hf ho K hK
              have F : act.tmps[17]?.getD undef = _ ∧ act.tmps[13]?.getD undef = _ ∧ True := hf
              obtain ⟨f7, f3, -⟩ := F
              clear ho hf
              go_simp
              exact hK _ (Eq.refl _)
            refine And.intro (stepC_pure (fun _ => trivial) (by kernel_rfl) ?_) ?_
            · intro act W hR hf ho K hK
              have G : act.tmps[2]?.getD undef = _ ∧ True := ho
              obtain ⟨g2, -⟩ := G
              have F : act.tmps[18]?.getD undef = _ ∧ True := hf
              obtain ⟨f8, -⟩ := F
              clear ho hf
              go_simp
              exact hK _ (Eq.refl _)
            refine And.intro (stepC_pure (fun _ => trivial) (by kernel_rfl) ?_) ?_
            · intro act W hR hf ho K hK
              have F : act.tmps[19]?.getD undef = _ ∧ act.tmps[18]?.getD undef = _ ∧ True := hf
              obtain ⟨f9, f8, -⟩ := F
              clear ho hf
              go_simp
              exact hK _ (Eq.refl _)
            refine And.intro (stepC_pure (fun _ => trivial) (by kernel_rfl) ?_) ?_
            · intro act W hR hf ho K hK
              have F : act.tmps[18]?.getD undef = _ ∧ act.tmps[20]?.getD undef = _ ∧ True := hf
              obtain ⟨f8, f10, -⟩ := F
              clear ho hf
              go_simp
              exact hK _ (Eq.refl _)
            refine And.intro (stepC_pure (fun _ => trivial) (by kernel_rfl) ?_) ?_
            · intro act W hR hf ho K hK
              have F : act.tmps[21]?.getD undef = _ ∧ act.tmps[18]?.getD undef = _ ∧ True := hf
              obtain ⟨f11, f8, -⟩ := F
              clear ho hf
              go_simp
              exact hK _ (Eq.refl _)
            refine And.intro (stepC_pure (fun _ => trivial) (by kernel_rfl) ?_) ?_
            · intro act W hR hf ho K hK
              have G : act.tmps[1]?.getD undef = _ ∧ True := ho
              obtain ⟨g1, -⟩ := G
              have F : act.tmps[22]?.getD undef = _ ∧ True := hf
              obtain ⟨f12, -⟩ := F
              clear ho hf
              go_simp
              exact hK _ (Eq.refl _)
            refine And.intro (stepC_pure (fun _ => trivial) (by kernel_rfl) ?_) ?_
            · intro act W hR hf ho K hK
              have G : act.tmps[0]?.getD undef = _ ∧ True := ho
              obtain ⟨g0, -⟩ := G
              have F : act.tmps[22]?.getD undef = _ ∧ True := hf
              obtain ⟨f12, -⟩ := F
              clear ho hf
              go_simp
              exact hK _ (Eq.refl _)
            refine And.intro (stepC_pure (fun _ => trivial) (by kernel_rfl) ?_) ?_
            · intro act W hR hf ho K hK
              have F : act.tmps[24]?.getD undef = _ ∧ act.tmps[22]?.getD undef = _ ∧ True := hf
              obtain ⟨f14, f12, -⟩ := F
              clear ho hf
              go_simp
              exact hK _ (Eq.refl _)
            refine And.intro (stepC_pure (fun _ => trivial) (by kernel_rfl) ?_) ?_
            · intro act W hR hf ho K hK
              have F : act.tmps[25]?.getD undef = _ ∧ act.tmps[22]?.getD undef = _ ∧ True := hf
              obtain ⟨f15, f12, -⟩ := F
              clear ho hf
              go_simp
              exact hK _ (Eq.refl _)
            refine And.intro (stepC_stay (pss := []) (by kernel_rfl) rfl 0 [] [] (by kernel_rfl) (by kernel_rfl) ?_) ?_
            · intro act W uu hu hR hS hf ho K hK
              replace hS : (fun (_ : Nat → Value) (W : World) => W = w.drew) uu W := hS
              replace hK := fun (v : Value) (w' : World) (h1 : (fun _ _ : World => True) W w') h2 (h3 : (fun (_ : Nat → Value) (W : World) => W = w.drew) uu w') => hK v w' h1 h2 h3
              have F : act.tmps[26]?.getD undef = _ ∧ act.tmps[22]?.getD undef = _ ∧ True := hf
              obtain ⟨f16, f12, -⟩ := F
              clear hu
              clear ho hf
              obtain rfl := hS
              go_simp
              exact hK _ _ trivial (Eq.refl _) (by first | rfl | exact hS)
            refine And.intro (stepC_pure (fun _ => trivial) (by kernel_rfl) ?_) ?_
            · intro act W hR hf ho K hK
              have F : act.tmps[23]?.getD undef = _ ∧ act.tmps[27]?.getD undef = _ ∧ act.tmps[22]?.getD undef = _ ∧ True := hf
              obtain ⟨f13, f17, f12, -⟩ := F
              clear ho hf
              go_simp
              exact hK _ (Eq.refl _)
            refine And.intro (stepC_pure (fun _ => trivial) (by kernel_rfl) ?_) ?_
            · intro act W hR hf ho K hK
              have F : act.tmps[22]?.getD undef = _ ∧ act.tmps[28]?.getD undef = _ ∧ True := hf
              obtain ⟨f12, f18, -⟩ := F
              clear ho hf
              go_simp
              exact hK _ (Eq.refl _)
            refine And.intro (stepC_pure (fun _ => trivial) (by kernel_rfl) ?_) ?_
            · intro act W hR hf ho K hK
              have F : act.tmps[29]?.getD undef = _ ∧ act.tmps[22]?.getD undef = _ ∧ True := hf
              obtain ⟨f19, f12, -⟩ := F
              clear ho hf
              go_simp
              exact hK _ (Eq.refl _)
            refine And.intro (stepC_pure (fun _ => trivial) (by kernel_rfl) ?_) ?_
            · intro act W hR hf ho K hK
              have G : act.tmps[1]?.getD undef = _ ∧ True := ho
              obtain ⟨g1, -⟩ := G
              have F : act.tmps[30]?.getD undef = _ ∧ True := hf
              obtain ⟨f20, -⟩ := F
              clear ho hf
              go_simp
              exact hK _ (Eq.refl _)
            refine And.intro (stepC_pure (fun _ => trivial) (by kernel_rfl) ?_) ?_
            · intro act W hR hf ho K hK
              have G : act.tmps[0]?.getD undef = _ ∧ True := ho
              obtain ⟨g0, -⟩ := G
              have F : act.tmps[30]?.getD undef = _ ∧ True := hf
              obtain ⟨f20, -⟩ := F
              clear ho hf
              go_simp
              exact hK _ (Eq.refl _)
            refine And.intro (stepC_pure (fun _ => trivial) (by kernel_rfl) ?_) ?_
            · intro act W hR hf ho K hK
              have F : act.tmps[32]?.getD undef = _ ∧ act.tmps[30]?.getD undef = _ ∧ True := hf
              obtain ⟨f22, f20, -⟩ := F
              clear ho hf
              go_simp
              exact hK _ (Eq.refl _)
            refine And.intro (stepC_pure (fun _ => trivial) (by kernel_rfl) ?_) ?_
            · intro act W hR hf ho K hK
              have F : act.tmps[33]?.getD undef = _ ∧ act.tmps[30]?.getD undef = _ ∧ True := hf
              obtain ⟨f23, f20, -⟩ := F
              clear ho hf
              go_simp
              exact hK _ (Eq.refl _)
            refine And.intro (stepC_stay (pss := []) (by kernel_rfl) rfl 0 [] [] (by kernel_rfl) (by kernel_rfl) ?_) ?_
            · intro act W uu hu hR hS hf ho K hK
              replace hS : (fun (_ : Nat → Value) (W : World) => W = w.drew) uu W := hS
              replace hK := fun (v : Value) (w' : World) (h1 : (fun _ _ : World => True) W w') h2 (h3 : (fun (_ : Nat → Value) (W : World) => W = w.drew) uu w') => hK v w' h1 h2 h3
              have F : act.tmps[34]?.getD undef = _ ∧ act.tmps[30]?.getD undef = _ ∧ True := hf
              obtain ⟨f24, f20, -⟩ := F
              clear hu
              clear ho hf
              obtain rfl := hS
              go_simp
              exact hK _ _ trivial (Eq.refl _) (by first | rfl | exact hS)
            refine And.intro (stepC_pure (fun _ => trivial) (by kernel_rfl) ?_) ?_
            · intro act W hR hf ho K hK
              have G : act.tmps[0]?.getD undef = _ ∧ True := ho
              obtain ⟨g0, -⟩ := G
              have F : act.tmps[30]?.getD undef = _ ∧ True := hf
              obtain ⟨f20, -⟩ := F
              clear ho hf
              go_simp
              exact hK _ (Eq.refl _)
            refine And.intro (stepC_pure (fun _ => trivial) (by kernel_rfl) ?_) ?_
            · intro act W hR hf ho K hK
              have F : act.tmps[36]?.getD undef = _ ∧ act.tmps[30]?.getD undef = _ ∧ True := hf
              obtain ⟨f26, f20, -⟩ := F
              clear ho hf
              go_simp
              exact hK _ (Eq.refl _)
            refine And.intro (stepC_pure (fun _ => trivial) (by kernel_rfl) ?_) ?_
            · intro act W hR hf ho K hK
              have F : act.tmps[37]?.getD undef = _ ∧ act.tmps[30]?.getD undef = _ ∧ True := hf
              obtain ⟨f27, f20, -⟩ := F
              clear ho hf
              go_simp
              exact hK _ (Eq.refl _)
            refine And.intro (stepC_stay (pss := []) (by kernel_rfl) rfl 0 [] [] (by kernel_rfl) (by kernel_rfl) ?_) ?_
            · intro act W uu hu hR hS hf ho K hK
              replace hS : (fun (_ : Nat → Value) (W : World) => W = w.drew) uu W := hS
              replace hK := fun (v : Value) (w' : World) (h1 : (fun _ _ : World => True) W w') h2 (h3 : (fun (_ : Nat → Value) (W : World) => W = w.drew) uu w') => hK v w' h1 h2 h3
              have F : act.tmps[38]?.getD undef = _ ∧ act.tmps[30]?.getD undef = _ ∧ True := hf
              obtain ⟨f28, f20, -⟩ := F
              clear hu
              clear ho hf
              obtain rfl := hS
              go_simp
              exact hK _ _ trivial (Eq.refl _) (by first | rfl | exact hS)
            refine And.intro (stepC_stay (pss := []) (by kernel_rfl) rfl 0 [] [] (by kernel_rfl) (by kernel_rfl) ?_) ?_
            · intro act W uu hu hR hS hf ho K hK
              replace hS : (fun (_ : Nat → Value) (W : World) => W = w.drew) uu W := hS
              replace hK := fun (v : Value) (w' : World) (h1 : (fun _ _ : World => True) W w') h2 (h3 : (fun (_ : Nat → Value) (W : World) => W = w.drew) uu w') => hK v w' h1 h2 h3
              have F : act.tmps[39]?.getD undef = _ ∧ act.tmps[30]?.getD undef = _ ∧ True := hf
              obtain ⟨f29, f20, -⟩ := F
              clear hu
              clear ho hf
              go_simp
              exact hK _ _ trivial (Eq.refl _) (by first | rfl | exact hS)
            refine And.intro (stepC_pure (fun _ => trivial) (by kernel_rfl) ?_) ?_
            · intro act W hR hf ho K hK
              have F : act.tmps[40]?.getD undef = _ ∧ act.tmps[30]?.getD undef = _ ∧ True := hf
              obtain ⟨f30, f20, -⟩ := F
              clear ho hf
              go_simp
              exact hK _ (Eq.refl _)
            refine And.intro (stepC_pure (fun _ => trivial) (by kernel_rfl) ?_) ?_
            · intro act W hR hf ho K hK
              have F : act.tmps[35]?.getD undef = _ ∧ act.tmps[41]?.getD undef = _ ∧ act.tmps[30]?.getD undef = _ ∧ True := hf
              obtain ⟨f25, f31, f20, -⟩ := F
              clear ho hf
              go_simp
              exact hK _ (Eq.refl _)
            refine And.intro (stepC_pure (fun _ => trivial) (by kernel_rfl) ?_) ?_
            · intro act W hR hf ho K hK
              have F : act.tmps[31]?.getD undef = _ ∧ act.tmps[42]?.getD undef = _ ∧ act.tmps[30]?.getD undef = _ ∧ True := hf
              obtain ⟨f21, f32, f20, -⟩ := F
              clear ho hf
              go_simp
              exact hK _ (Eq.refl _)
            refine And.intro (stepC_pure (fun _ => trivial) (by kernel_rfl) ?_) ?_
            · intro act W hR hf ho K hK
              have F : act.tmps[30]?.getD undef = _ ∧ act.tmps[43]?.getD undef = _ ∧ True := hf
              obtain ⟨f20, f33, -⟩ := F
              clear ho hf
              go_simp
              exact hK _ (Eq.refl _)
            refine And.intro (stepC_pure (fun _ => trivial) (by kernel_rfl) ?_) ?_
            · intro act W hR hf ho K hK
              have F : act.tmps[44]?.getD undef = _ ∧ act.tmps[30]?.getD undef = _ ∧ True := hf
              obtain ⟨f34, f20, -⟩ := F
              clear ho hf
              go_simp
              exact hK _ (Eq.refl _)
            refine And.intro (stepC_pure (fun _ => trivial) (by kernel_rfl) ?_) ?_
            · intro act W hR hf ho K hK
              have G : act.tmps[2]?.getD undef = _ ∧ True := ho
              obtain ⟨g2, -⟩ := G
              have F : act.tmps[45]?.getD undef = _ ∧ True := hf
              obtain ⟨f35, -⟩ := F
              clear ho hf
              go_simp
              exact hK _ (Eq.refl _)
            refine And.intro (stepC_pure (fun _ => trivial) (by kernel_rfl) ?_) ?_
            · intro act W hR hf ho K hK
              have G : act.tmps[0]?.getD undef = _ ∧ True := ho
              obtain ⟨g0, -⟩ := G
              have F : act.tmps[45]?.getD undef = _ ∧ True := hf
              obtain ⟨f35, -⟩ := F
              clear ho hf
              go_simp
              exact hK _ (Eq.refl _)
            refine And.intro (stepC_pure (fun _ => trivial) (by kernel_rfl) ?_) ?_
            · intro act W hR hf ho K hK
              have F : act.tmps[47]?.getD undef = _ ∧ act.tmps[45]?.getD undef = _ ∧ True := hf
              obtain ⟨f37, f35, -⟩ := F
              clear ho hf
              go_simp
              exact hK _ (Eq.refl _)
            refine And.intro (stepC_pure (fun _ => trivial) (by kernel_rfl) ?_) ?_
            · intro act W hR hf ho K hK
              have F : act.tmps[48]?.getD undef = _ ∧ act.tmps[45]?.getD undef = _ ∧ True := hf
              obtain ⟨f38, f35, -⟩ := F
              clear ho hf
              go_simp
              exact hK _ (Eq.refl _)
            refine And.intro (stepC_stay (pss := []) (by kernel_rfl) rfl 0 [] [] (by kernel_rfl) (by kernel_rfl) ?_) ?_
            · intro act W uu hu hR hS hf ho K hK
              replace hS : (fun (_ : Nat → Value) (W : World) => W = w.drew) uu W := hS
              replace hK := fun (v : Value) (w' : World) (h1 : (fun _ _ : World => True) W w') h2 (h3 : (fun (_ : Nat → Value) (W : World) => W = w.drew) uu w') => hK v w' h1 h2 h3
              have F : act.tmps[49]?.getD undef = _ ∧ act.tmps[45]?.getD undef = _ ∧ True := hf
              obtain ⟨f39, f35, -⟩ := F
              clear hu
              clear ho hf
              obtain rfl := hS
              go_simp
              exact hK _ _ trivial (Eq.refl _) (by first | rfl | exact hS)
            refine And.intro (stepC_pure (fun _ => trivial) (by kernel_rfl) ?_) ?_
            · intro act W hR hf ho K hK
              have G : act.tmps[0]?.getD undef = _ ∧ True := ho
              obtain ⟨g0, -⟩ := G
              have F : act.tmps[45]?.getD undef = _ ∧ True := hf
              obtain ⟨f35, -⟩ := F
              clear ho hf
              go_simp
              exact hK _ (Eq.refl _)
            refine And.intro (stepC_pure (fun _ => trivial) (by kernel_rfl) ?_) ?_
            · intro act W hR hf ho K hK
              have F : act.tmps[51]?.getD undef = _ ∧ act.tmps[45]?.getD undef = _ ∧ True := hf
              obtain ⟨f41, f35, -⟩ := F
              clear ho hf
              go_simp
              exact hK _ (Eq.refl _)
            refine And.intro (stepC_pure (fun _ => trivial) (by kernel_rfl) ?_) ?_
            · intro act W hR hf ho K hK
              have F : act.tmps[52]?.getD undef = _ ∧ act.tmps[45]?.getD undef = _ ∧ True := hf
              obtain ⟨f42, f35, -⟩ := F
              clear ho hf
              go_simp
              exact hK _ (Eq.refl _)
            refine And.intro (stepC_stay (pss := []) (by kernel_rfl) rfl 0 [] [] (by kernel_rfl) (by kernel_rfl) ?_) ?_
            · intro act W uu hu hR hS hf ho K hK
              replace hS : (fun (_ : Nat → Value) (W : World) => W = w.drew) uu W := hS
              replace hK := fun (v : Value) (w' : World) (h1 : (fun _ _ : World => True) W w') h2 (h3 : (fun (_ : Nat → Value) (W : World) => W = w.drew) uu w') => hK v w' h1 h2 h3
              have F : act.tmps[53]?.getD undef = _ ∧ act.tmps[45]?.getD undef = _ ∧ True := hf
              obtain ⟨f43, f35, -⟩ := F
              clear hu
              clear ho hf
              obtain rfl := hS
              go_simp
              exact hK _ _ trivial (Eq.refl _) (by first | rfl | exact hS)
            refine And.intro (stepC_stay (pss := []) (by kernel_rfl) rfl 0 [] [] (by kernel_rfl) (by kernel_rfl) ?_) ?_
            · intro act W uu hu hR hS hf ho K hK
              replace hS : (fun (_ : Nat → Value) (W : World) => W = w.drew) uu W := hS
              replace hK := fun (v : Value) (w' : World) (h1 : (fun _ _ : World => True) W w') h2 (h3 : (fun (_ : Nat → Value) (W : World) => W = w.drew) uu w') => hK v w' h1 h2 h3
              have F : act.tmps[54]?.getD undef = _ ∧ act.tmps[45]?.getD undef = _ ∧ True := hf
              obtain ⟨f44, f35, -⟩ := F
              clear hu
              clear ho hf
              go_simp
              exact hK _ _ trivial (Eq.refl _) (by first | rfl | exact hS)
            refine And.intro (stepC_pure (fun _ => trivial) (by kernel_rfl) ?_) ?_
            · intro act W hR hf ho K hK
              have F : act.tmps[55]?.getD undef = _ ∧ act.tmps[45]?.getD undef = _ ∧ True := hf
              obtain ⟨f45, f35, -⟩ := F
              clear ho hf
              go_simp
              exact hK _ (Eq.refl _)
            refine And.intro (stepC_pure (fun _ => trivial) (by kernel_rfl) ?_) ?_
            · intro act W hR hf ho K hK
              have F : act.tmps[50]?.getD undef = _ ∧ act.tmps[56]?.getD undef = _ ∧ act.tmps[45]?.getD undef = _ ∧ True := hf
              obtain ⟨f40, f46, f35, -⟩ := F
              clear ho hf
              go_simp
              exact hK _ (Eq.refl _)
            refine And.intro (stepC_pure (fun _ => trivial) (by kernel_rfl) ?_) ?_
            · intro act W hR hf ho K hK
              have G : act.tmps[1]?.getD undef = _ ∧ True := ho
              obtain ⟨g1, -⟩ := G
              have F : act.tmps[45]?.getD undef = _ ∧ True := hf
              obtain ⟨f35, -⟩ := F
              clear ho hf
              go_simp
              exact hK _ (Eq.refl _)
            refine And.intro (stepC_pure (fun _ => trivial) (by kernel_rfl) ?_) ?_
            · intro act W hR hf ho K hK
              have F : act.tmps[57]?.getD undef = _ ∧ act.tmps[58]?.getD undef = _ ∧ act.tmps[45]?.getD undef = _ ∧ True := hf
              obtain ⟨f47, f48, f35, -⟩ := F
              clear ho hf
              go_simp
              exact hK _ (Eq.refl _)
            refine And.intro (stepC_pure (fun _ => trivial) (by kernel_rfl) ?_) ?_
            · intro act W hR hf ho K hK
              have F : act.tmps[46]?.getD undef = _ ∧ act.tmps[59]?.getD undef = _ ∧ act.tmps[45]?.getD undef = _ ∧ True := hf
              obtain ⟨f36, f49, f35, -⟩ := F
              clear ho hf
              go_simp
              exact hK _ (Eq.refl _)
            refine And.intro (stepC_pure (fun _ => trivial) (by kernel_rfl) ?_) ?_
            · intro act W hR hf ho K hK
              have F : act.tmps[45]?.getD undef = _ ∧ act.tmps[60]?.getD undef = _ ∧ True := hf
              obtain ⟨f35, f50, -⟩ := F
              clear ho hf
              go_simp
              exact hK _ (Eq.refl _)
            exact trivial
          case stab =>
            refine And.intro is_stable ?_
            refine And.intro is_stable ?_
            refine And.intro is_stable ?_
            refine And.intro is_stable ?_
            refine And.intro is_stable ?_
            refine And.intro is_stable ?_
            refine And.intro is_stable ?_
            refine And.intro is_stable ?_
            refine And.intro is_stable ?_
            refine And.intro is_stable ?_
            refine And.intro is_stable ?_
            refine And.intro is_stable ?_
            refine And.intro is_stable ?_
            refine And.intro is_stable ?_
            refine And.intro is_stable ?_
            refine And.intro is_stable ?_
            refine And.intro is_stable ?_
            refine And.intro is_stable ?_
            refine And.intro is_stable ?_
            refine And.intro is_stable ?_
            refine And.intro is_stable ?_
            refine And.intro is_stable ?_
            refine And.intro is_stable ?_
            refine And.intro is_stable ?_
            refine And.intro is_stable ?_
            refine And.intro is_stable ?_
            refine And.intro is_stable ?_
            refine And.intro is_stable ?_
            refine And.intro is_stable ?_
            refine And.intro is_stable ?_
            refine And.intro is_stable ?_
            refine And.intro is_stable ?_
            refine And.intro is_stable ?_
            refine And.intro is_stable ?_
            refine And.intro is_stable ?_
            refine And.intro is_stable ?_
            refine And.intro is_stable ?_
            refine And.intro is_stable ?_
            refine And.intro is_stable ?_
            refine And.intro is_stable ?_
            refine And.intro is_stable ?_
            refine And.intro is_stable ?_
            refine And.intro is_stable ?_
            refine And.intro is_stable ?_
            refine And.intro is_stable ?_
            refine And.intro is_stable ?_
            refine And.intro is_stable ?_
            refine And.intro is_stable ?_
            refine And.intro is_stable ?_
            refine And.intro is_stable ?_
            refine And.intro is_stable ?_
            refine And.intro is_stable ?_
            exact trivial
          case ends =>
            intro vals W uu hu hR hS hall
            replace hS : (fun (_ : Nat → Value) (W : World) => W = w.drew) uu W := hS
            clear hu
            have e61 : vals 61 = _ := hall 51 (by decide)
            clear hall
            simp only [fill, List.setIfInBounds_toArray, List.set_cons_succ, List.set_cons_zero, e61]
            obtain rfl := hS
            go_wp2_with fail
            go_ret
            exact ⟨by rw [HG.out]; rfl, F, H.out.drew 1, by rw [HG.out]; exact HR.out, rfl, (Kept.of_ext (Below.refl _ _)).drewN 1⟩
        · have f3' : decide (z < a) = false := decide_eq_false g3
          by_cases g4 : z > a + 16 * F.length
          · have f4' : decide (z > a + 16 * (F.length : Int)) = true := decide_eq_true g4
            clear g4 hm
            go_enter Try.func14, Try.ntmps14
            go_wp2_with fail
            refine wp_region_stage (fun _ _ : World => True) [] [(fun (_ : Nat → Value) (W : World) => W = w.drew)] [10, 11, 12, 13, 14, 15, 16, 17, 18, 19, 20, 21, 22, 23, 24, 25, 26, 27, 28, 29, 30, 31, 32, 33, 34, 35, 36, 37, 38, 39, 40, 41, 42, 43, 44, 45, 46, 47, 48, 49, 50, 51, 52, 53, 54, 55, 56, 57, 58, 59, 60, 61] (by kernel_rfl) (fun _ => trivial) (fun _ _ _ _ _ => trivial) (by kernel_rfl) (by kernel_rfl) (by kernel_rfl) ?start ?_
            case start => rfl
            apply ex_is; apply Exists.intro
            apply ex_is; apply Exists.intro
            apply ex_is; apply Exists.intro
            apply ex_is; apply Exists.intro
            apply ex_is; apply Exists.intro
            apply ex_is; apply Exists.intro
            apply ex_is; apply Exists.intro
            apply ex_is; apply Exists.intro
            apply ex_is; apply Exists.intro
            apply ex_is; apply Exists.intro
            apply ex_is; apply Exists.intro
            apply ex_is; apply Exists.intro
            apply ex_is; apply Exists.intro
            apply ex_is; apply Exists.intro
            apply ex_is; apply Exists.intro
            apply ex_is; apply Exists.intro
            apply ex_is; apply Exists.intro
            apply ex_is; apply Exists.intro
            apply ex_is; apply Exists.intro
            apply ex_is; apply Exists.intro
            apply ex_is; apply Exists.intro
            apply ex_is; apply Exists.intro
            apply ex_is; apply Exists.intro
            apply ex_is; apply Exists.intro
            apply ex_is; apply Exists.intro
            apply ex_is; apply Exists.intro
            apply ex_is; apply Exists.intro
            apply ex_is; apply Exists.intro
            apply ex_is; apply Exists.intro
            apply ex_is; apply Exists.intro
            apply ex_is; apply Exists.intro
            apply ex_is; apply Exists.intro
            apply ex_is; apply Exists.intro
            apply ex_is; apply Exists.intro
            apply ex_is; apply Exists.intro
            apply ex_is; apply Exists.intro
            apply ex_is; apply Exists.intro
            apply ex_is; apply Exists.intro
            apply ex_is; apply Exists.intro
            apply ex_is; apply Exists.intro
            apply ex_is; apply Exists.intro
            apply ex_is; apply Exists.intro
            apply ex_is; apply Exists.intro
            apply ex_is; apply Exists.intro
            apply ex_is; apply Exists.intro
            apply ex_is; apply Exists.intro
            apply ex_is; apply Exists.intro
            apply ex_is; apply Exists.intro
            apply ex_is; apply Exists.intro
            apply ex_is; apply Exists.intro
            apply ex_is; apply Exists.intro
            apply ex_is; apply Exists.intro
            refine ⟨[], ⟨?steps, ?stab, ?ends⟩⟩
            case steps =>
              refine And.intro (stepC_pure (fun _ => trivial) (by kernel_rfl) ?_) ?_
              · intro act W hR hf ho K hK
                have G : act.tmps[1]?.getD undef = _ ∧ True := ho
                obtain ⟨g1, -⟩ := G
                clear ho hf
                go_simp
                exact hK _ (Eq.refl _)
              refine And.intro (stepC_pure (fun _ => trivial) (by kernel_rfl) ?_) ?_
              · intro act W hR hf ho K hK
                have F : act.tmps[10]?.getD undef = _ ∧ True := hf
                obtain ⟨f0, -⟩ := F
                clear ho hf
                go_simp
                exact hK _ (Eq.refl _)
              refine And.intro (stepC_pure (fun _ => trivial) (by kernel_rfl) ?_) ?_
              · intro act W hR hf ho K hK
                have F : act.tmps[11]?.getD undef = _ ∧ True := hf
                obtain ⟨f1, -⟩ := F
                clear ho hf
                go_simp
                exact hK _ (Eq.refl _)
              refine And.intro (stepC_pure (fun _ => trivial) (by kernel_rfl) ?_) ?_
              · intro act W hR hf ho K hK
                have F : act.tmps[12]?.getD undef = _ ∧ True := hf
                obtain ⟨f2, -⟩ := F
                clear ho hf
                go_simp
                exact hK _ (Eq.refl _)
              refine And.intro (stepC_pure (fun _ => trivial) (by kernel_rfl) ?_) ?_
              · intro act W hR hf ho K hK
                have G : act.tmps[2]?.getD undef = _ ∧ True := ho
                obtain ⟨g2, -⟩ := G
                have F : act.tmps[13]?.getD undef = _ ∧ True := hf
                obtain ⟨f3, -⟩ := F
                clear ho hf
                go_simp
                exact hK _ (Eq.refl _)
              refine And.intro (stepC_pure (fun _ => trivial) (by kernel_rfl) ?_) ?_
              · intro act W hR hf ho K hK
                have F : act.tmps[14]?.getD undef = _ ∧ act.tmps[13]?.getD undef = _ ∧ True := hf
                obtain ⟨f4, f3, -⟩ := F
                clear ho hf
                go_simp
                exact hK _ (Eq.refl _)
              refine And.intro (stepC_pure (fun _ => trivial) (by kernel_rfl) ?_) ?_
              · intro act W hR hf ho K hK
                have F : act.tmps[15]?.getD undef = _ ∧ act.tmps[13]?.getD undef = _ ∧ True := hf
                obtain ⟨f5, f3, -⟩ := F
                clear ho hf
                go_simp
                exact hK _ (Eq.refl _)
              refine And.intro (stepC_pure (fun _ => trivial) (by kernel_rfl) ?_) ?_
              · intro act W hR hf ho K hK
                have F : act.tmps[13]?.getD undef = _ ∧ act.tmps[16]?.getD undef = _ ∧ True := hf
                obtain ⟨f3, f6, -⟩ := F
                clear ho hf
                go_simp
                exact hK _ (Eq.refl _)
              refine And.intro (stepC_pure (fun _ => trivial) (by kernel_rfl) ?_) ?_
              · intro act W hR hf ho K hK
                have F : act.tmps[17]?.getD undef = _ ∧ act.tmps[13]?.getD undef = _ ∧ True := hf
                obtain ⟨f7, f3, -⟩ := F
                clear ho hf
                go_simp
                exact hK _ (Eq.refl _)
              refine And.intro (stepC_pure (fun _ => trivial) (by kernel_rfl) ?_) ?_
              · intro act W hR hf ho K hK
                have G : act.tmps[2]?.getD undef = _ ∧ True := ho
                obtain ⟨g2, -⟩ := G
                have F : act.tmps[18]?.getD undef = _ ∧ True := hf
                obtain ⟨f8, -⟩ := F
                clear ho hf
                go_simp
                exact hK _ (Eq.refl _)
              refine And.intro (stepC_pure (fun _ => trivial) (by kernel_rfl) ?_) ?_
              · intro act W hR hf ho K hK
                have F : act.tmps[19]?.getD undef = _ ∧ act.tmps[18]?.getD undef = _ ∧ True := hf
                obtain ⟨f9, f8, -⟩ := F
                clear ho hf
                go_simp
                exact hK _ (Eq.refl _)
              refine And.intro (stepC_pure (fun _ => trivial) (by kernel_rfl) ?_) ?_
              · intro act W hR hf ho K hK
                have F : act.tmps[18]?.getD undef = _ ∧ act.tmps[20]?.getD undef = _ ∧ True := hf
                obtain ⟨f8, f10, -⟩ := F
                clear ho hf
                go_simp
                exact hK _ (Eq.refl _)
              refine And.intro (stepC_pure (fun _ => trivial) (by kernel_rfl) ?_) ?_
              · intro act W hR hf ho K hK
                have F : act.tmps[21]?.getD undef = _ ∧ act.tmps[18]?.getD undef = _ ∧ True := hf
                obtain ⟨f11, f8, -⟩ := F
                clear ho hf
                go_simp
                exact hK _ (Eq.refl _)
              refine And.intro (stepC_pure (fun _ => trivial) (by kernel_rfl) ?_) ?_
              · intro act W hR hf ho K hK
                have G : act.tmps[1]?.getD undef = _ ∧ True := ho
                obtain ⟨g1, -⟩ := G
                have F : act.tmps[22]?.getD undef = _ ∧ True := hf
                obtain ⟨f12, -⟩ := F
                clear ho hf
                go_simp
                exact hK _ (Eq.refl _)
              refine And.intro (stepC_pure (fun _ => trivial) (by kernel_rfl) ?_) ?_
              · intro act W hR hf ho K hK
                have G : act.tmps[0]?.getD undef = _ ∧ True := ho
                obtain ⟨g0, -⟩ := G
                have F : act.tmps[22]?.getD undef = _ ∧ True := hf
                obtain ⟨f12, -⟩ := F
                clear ho hf
                go_simp
                exact hK _ (Eq.refl _)
              refine And.intro (stepC_pure (fun _ => trivial) (by kernel_rfl) ?_) ?_
              · intro act W hR hf ho K hK
                have F : act.tmps[24]?.getD undef = _ ∧ act.tmps[22]?.getD undef = _ ∧ True := hf
                obtain ⟨f14, f12, -⟩ := F
                clear ho hf
                go_simp
                exact hK _ (Eq.refl _)
              refine And.intro (stepC_pure (fun _ => trivial) (by kernel_rfl) ?_) ?_
              · intro act W hR hf ho K hK
                have F : act.tmps[25]?.getD undef = _ ∧ act.tmps[22]?.getD undef = _ ∧ True := hf
                obtain ⟨f15, f12, -⟩ := F
                clear ho hf
                go_simp
                exact hK _ (Eq.refl _)
              refine And.intro (stepC_stay (pss := []) (by kernel_rfl) rfl 0 [] [] (by kernel_rfl) (by kernel_rfl) ?_) ?_
              · intro act W uu hu hR hS hf ho K hK
                replace hS : (fun (_ : Nat → Value) (W : World) => W = w.drew) uu W := hS
                replace hK := fun (v : Value) (w' : World) (h1 : (fun _ _ : World => True) W w') h2 (h3 : (fun (_ : Nat → Value) (W : World) => W = w.drew) uu w') => hK v w' h1 h2 h3
                have F : act.tmps[26]?.getD undef = _ ∧ act.tmps[22]?.getD undef = _ ∧ True := hf
                obtain ⟨f16, f12, -⟩ := F
                clear hu
                clear ho hf
                obtain rfl := hS
                go_simp
                exact hK _ _ trivial (Eq.refl _) (by first | rfl | exact hS)
              refine And.intro (stepC_pure (fun _ => trivial) (by kernel_rfl) ?_) ?_
              · intro act W hR hf ho K hK
                have F : act.tmps[23]?.getD undef = _ ∧ act.tmps[27]?.getD undef = _ ∧ act.tmps[22]?.getD undef = _ ∧ True := hf
                obtain ⟨f13, f17, f12, -⟩ := F
                clear ho hf
                go_simp
                exact hK _ (Eq.refl _)
              refine And.intro (stepC_pure (fun _ => trivial) (by kernel_rfl) ?_) ?_
              · intro act W hR hf ho K hK
                have F : act.tmps[22]?.getD undef = _ ∧ act.tmps[28]?.getD undef = _ ∧ True := hf
                obtain ⟨f12, f18, -⟩ := F
                clear ho hf
                go_simp
                exact hK _ (Eq.refl _)
              refine And.intro (stepC_pure (fun _ => trivial) (by kernel_rfl) ?_) ?_
              · intro act W hR hf ho K hK
                have F : act.tmps[29]?.getD undef = _ ∧ act.tmps[22]?.getD undef = _ ∧ True := hf
                obtain ⟨f19, f12, -⟩ := F
                clear ho hf
                go_simp
                exact hK _ (Eq.refl _)
              refine And.intro (stepC_pure (fun _ => trivial) (by kernel_rfl) ?_) ?_
              · intro act W hR hf ho K hK
                have G : act.tmps[1]?.getD undef = _ ∧ True := ho
                obtain ⟨g1, -⟩ := G
                have F : act.tmps[30]?.getD undef = _ ∧ True := hf
                obtain ⟨f20, -⟩ := F
                clear ho hf
                go_simp
                exact hK _ (Eq.refl _)
              refine And.intro (stepC_pure (fun _ => trivial) (by kernel_rfl) ?_) ?_
              · intro act W hR hf ho K hK
                have G : act.tmps[0]?.getD undef = _ ∧ True := ho
                obtain ⟨g0, -⟩ := G
                have F : act.tmps[30]?.getD undef = _ ∧ True := hf
                obtain ⟨f20, -⟩ := F
                clear ho hf
                go_simp
                exact hK _ (Eq.refl _)
              refine And.intro (stepC_pure (fun _ => trivial) (by kernel_rfl) ?_) ?_
              · intro act W hR hf ho K hK
                have F : act.tmps[32]?.getD undef = _ ∧ act.tmps[30]?.getD undef = _ ∧ True := hf
                obtain ⟨f22, f20, -⟩ := F
                clear ho hf
                go_simp
                exact hK _ (Eq.refl _)
              refine And.intro (stepC_pure (fun _ => trivial) (by kernel_rfl) ?_) ?_
              · intro act W hR hf ho K hK
                have F : act.tmps[33]?.getD undef = _ ∧ act.tmps[30]?.getD undef = _ ∧ True := hf
                obtain ⟨f23, f20, -⟩ := F
                clear ho hf
                go_simp
                exact hK _ (Eq.refl _)
              refine And.intro (stepC_stay (pss := []) (by kernel_rfl) rfl 0 [] [] (by kernel_rfl) (by kernel_rfl) ?_) ?_
              · intro act W uu hu hR hS hf ho K hK
                replace hS : (fun (_ : Nat → Value) (W : World) => W = w.drew) uu W := hS
                replace hK := fun (v : Value) (w' : World) (h1 : (fun _ _ : World => True) W w') h2 (h3 : (fun (_ : Nat → Value) (W : World) => W = w.drew) uu w') => hK v w' h1 h2 h3
                have F : act.tmps[34]?.getD undef = _ ∧ act.tmps[30]?.getD undef = _ ∧ True := hf
                obtain ⟨f24, f20, -⟩ := F
                clear hu
                clear ho hf
                obtain rfl := hS
                go_simp
                exact hK _ _ trivial (Eq.refl _) (by first | rfl | exact hS)
              refine And.intro (stepC_pure (fun _ => trivial) (by kernel_rfl) ?_) ?_
              · intro act W hR hf ho K hK
                have G : act.tmps[0]?.getD undef = _ ∧ True := ho
                obtain ⟨g0, -⟩ := G
                have F : act.tmps[30]?.getD undef = _ ∧ True := hf
                obtain ⟨f20, -⟩ := F
                clear ho hf
                go_simp
                exact hK _ (Eq.refl _)
              refine And.intro (stepC_pure (fun _ => trivial) (by kernel_rfl) ?_) ?_
              · intro act W hR hf ho K hK
                have F : act.tmps[36]?.getD undef = _ ∧ act.tmps[30]?.getD undef = _ ∧ True := hf
                obtain ⟨f26, f20, -⟩ := F
                clear ho hf
                go_simp
                exact hK _ (Eq.refl _)
              refine And.intro (stepC_pure (fun _ => trivial) (by kernel_rfl) ?_) ?_
              · intro act W hR hf ho K hK
                have F : act.tmps[37]?.getD undef = _ ∧ act.tmps[30]?.getD undef = _ ∧ True := hf
                obtain ⟨f27, f20, -⟩ := F
                clear ho hf
                go_simp
                exact hK _ (Eq.refl _)
              refine And.intro (stepC_stay (pss := []) (by kernel_rfl) rfl 0 [] [] (by kernel_rfl) (by kernel_rfl) ?_) ?_
              · intro act W uu hu hR hS hf ho K hK
                replace hS : (fun (_ : Nat → Value) (W : World) => W = w.drew) uu W := hS
                replace hK := fun (v : Value) (w' : World) (h1 : (fun _ _ : World => True) W w') h2 (h3 : (fun (_ : Nat → Value) (W : World) => W = w.drew) uu w') => hK v w' h1 h2 h3
                have F : act.tmps[38]?.getD undef = _ ∧ act.tmps[30]?.getD undef = _ ∧ True := hf
                obtain ⟨f28, f20, -⟩ := F
                clear hu
                clear ho hf
                obtain rfl := hS
                go_simp
                exact hK _ _ trivial (Eq.refl _) (by first | rfl | exact hS)
              refine And.intro (stepC_stay (pss := []) (by kernel_rfl) rfl 0 [] [] (by kernel_rfl) (by kernel_rfl) ?_) ?_
              · intro act W uu hu hR hS hf ho K hK
                replace hS : (fun (_ : Nat → Value) (W : World) => W = w.drew) uu W := hS
                replace hK := fun (v : Value) (w' : World) (h1 : (fun _ _ : World => True) W w') h2 (h3 : (fun (_ : Nat → Value) (W : World) => W = w.drew) uu w') => hK v w' h1 h2 h3
                have F : act.tmps[39]?.getD undef = _ ∧ act.tmps[30]?.getD undef = _ ∧ True := hf
                obtain ⟨f29, f20, -⟩ := F
                clear hu
                clear ho hf
                go_simp
                exact hK _ _ trivial (Eq.refl _) (by first | rfl | exact hS)
              refine And.intro (stepC_pure (fun _ => trivial) (by kernel_rfl) ?_) ?_
              · intro act W hR hf ho K hK
                have F : act.tmps[40]?.getD undef = _ ∧ act.tmps[30]?.getD undef = _ ∧ True := hf
                obtain ⟨f30, f20, -⟩ := F
                clear ho hf
                go_simp
                exact hK _ (Eq.refl _)
              refine And.intro (stepC_pure (fun _ => trivial) (by kernel_rfl) ?_) ?_
              · intro act W hR hf ho K hK
                have F : act.tmps[35]?.getD undef = _ ∧ act.tmps[41]?.getD undef = _ ∧ act.tmps[30]?.getD undef = _ ∧ True := hf
                obtain ⟨f25, f31, f20, -⟩ := F
                clear ho hf
                go_simp
                exact hK _ (Eq.refl _)
              refine And.intro (stepC_pure (fun _ => trivial) (by kernel_rfl) ?_) ?_
              · intro act W hR hf ho K hK
                have F : act.tmps[31]?.getD undef = _ ∧ act.tmps[42]?.getD undef = _ ∧ act.tmps[30]?.getD undef = _ ∧ True := hf
                obtain ⟨f21, f32, f20, -⟩ := F
                clear ho hf
                go_simp
                exact hK _ (Eq.refl _)
              refine And.intro (stepC_pure (fun _ => trivial) (by kernel_rfl) ?_) ?_
              · intro act W hR hf ho K hK
                have F : act.tmps[30]?.getD undef = _ ∧ act.tmps[43]?.getD undef = _ ∧ True := hf
                obtain ⟨f20, f33, -⟩ := F
                clear ho hf
                go_simp
                exact hK _ (Eq.refl _)
              refine And.intro (stepC_pure (fun _ => trivial) (by kernel_rfl) ?_) ?_
              · intro act W hR hf ho K hK
                have F : act.tmps[44]?.getD undef = _ ∧ act.tmps[30]?.getD undef = _ ∧ True := hf
                obtain ⟨f34, f20, -⟩ := F
                clear ho hf
                go_simp
                exact hK _ (Eq.refl _)
              refine And.intro (stepC_pure (fun _ => trivial) (by kernel_rfl) ?_) ?_
              · intro act W hR hf ho K hK
                have G : act.tmps[2]?.getD undef = _ ∧ True := ho
                obtain ⟨g2, -⟩ := G
                have F : act.tmps[45]?.getD undef = _ ∧ True := hf
                obtain ⟨f35, -⟩ := F
                clear ho hf
                go_simp
                exact hK _ (Eq.refl _)
              refine And.intro (stepC_pure (fun _ => trivial) (by kernel_rfl) ?_) ?_
              · intro act W hR hf ho K hK
                have G : act.tmps[0]?.getD undef = _ ∧ True := ho
                obtain ⟨g0, -⟩ := G
                have F : act.tmps[45]?.getD undef = _ ∧ True := hf
                obtain ⟨f35, -⟩ := F
                clear ho hf
                go_simp
                exact hK _ (Eq.refl _)
              refine And.intro (stepC_pure (fun _ => trivial) (by kernel_rfl) ?_) ?_
              · intro act W hR hf ho K hK
                have F : act.tmps[47]?.getD undef = _ ∧ act.tmps[45]?.getD undef = _ ∧ True := hf
                obtain ⟨f37, f35, -⟩ := F
                clear ho hf
                go_simp
                exact hK _ (Eq.refl _)
              refine And.intro (stepC_pure (fun _ => trivial) (by kernel_rfl) ?_) ?_
              · intro act W hR hf ho K hK
                have F : act.tmps[48]?.getD undef = _ ∧ act.tmps[45]?.getD undef = _ ∧ True := hf
                obtain ⟨f38, f35, -⟩ := F
                clear ho hf
                go_simp
                exact hK _ (Eq.refl _)
              refine And.intro (stepC_stay (pss := []) (by kernel_rfl) rfl 0 [] [] (by kernel_rfl) (by kernel_rfl) ?_) ?_
              · intro act W uu hu hR hS hf ho K hK
                replace hS : (fun (_ : Nat → Value) (W : World) => W = w.drew) uu W := hS
                replace hK := fun (v : Value) (w' : World) (h1 : (fun _ _ : World => True) W w') h2 (h3 : (fun (_ : Nat → Value) (W : World) => W = w.drew) uu w') => hK v w' h1 h2 h3
                have F : act.tmps[49]?.getD undef = _ ∧ act.tmps[45]?.getD undef = _ ∧ True := hf
                obtain ⟨f39, f35, -⟩ := F
                clear hu
                clear ho hf
                obtain rfl := hS
                go_simp
                exact hK _ _ trivial (Eq.refl _) (by first | rfl | exact hS)
              refine And.intro (stepC_pure (fun _ => trivial) (by kernel_rfl) ?_) ?_
              · intro act W hR hf ho K hK
                have G : act.tmps[0]?.getD undef = _ ∧ True := ho
                obtain ⟨g0, -⟩ := G
                have F : act.tmps[45]?.getD undef = _ ∧ True := hf
                obtain ⟨f35, -⟩ := F
                clear ho hf
                go_simp
                exact hK _ (Eq.refl _)
              refine And.intro (stepC_pure (fun _ => trivial) (by kernel_rfl) ?_) ?_
              · intro act W hR hf ho K hK
                have F : act.tmps[51]?.getD undef = _ ∧ act.tmps[45]?.getD undef = _ ∧ True := hf
                obtain ⟨f41, f35, -⟩ := F
                clear ho hf
                go_simp
                exact hK _ (Eq.refl _)
              refine And.intro (stepC_pure (fun _ => trivial) (by kernel_rfl) ?_) ?_
              · intro act W hR hf ho K hK
                have F : act.tmps[52]?.getD undef = _ ∧ act.tmps[45]?.getD undef = _ ∧ True := hf
                obtain ⟨f42, f35, -⟩ := F
                clear ho hf
                go_simp
                exact hK _ (Eq.refl _)
              refine And.intro (stepC_stay (pss := []) (by kernel_rfl) rfl 0 [] [] (by kernel_rfl) (by kernel_rfl) ?_) ?_
              · intro act W uu hu hR hS hf ho K hK
                replace hS : (fun (_ : Nat → Value) (W : World) => W = w.drew) uu W := hS
                replace hK := fun (v : Value) (w' : World) (h1 : (fun _ _ : World => True) W w') h2 (h3 : (fun (_ : Nat → Value) (W : World) => W = w.drew) uu w') => hK v w' h1 h2 h3
                have F : act.tmps[53]?.getD undef = _ ∧ act.tmps[45]?.getD undef = _ ∧ True := hf
                obtain ⟨f43, f35, -⟩ := F
                clear hu
                clear ho hf
                obtain rfl := hS
                go_simp
                exact hK _ _ trivial (Eq.refl _) (by first | rfl | exact hS)
              refine And.intro (stepC_stay (pss := []) (by kernel_rfl) rfl 0 [] [] (by kernel_rfl) (by kernel_rfl) ?_) ?_
              · intro act W uu hu hR hS hf ho K hK
                replace hS : (fun (_ : Nat → Value) (W : World) => W = w.drew) uu W := hS
                replace hK := fun (v : Value) (w' : World) (h1 : (fun _ _ : World => True) W w') h2 (h3 : (fun (_ : Nat → Value) (W : World) => W = w.drew) uu w') => hK v w' h1 h2 h3
                have F : act.tmps[54]?.getD undef = _ ∧ act.tmps[45]?.getD undef = _ ∧ True := hf
                obtain ⟨f44, f35, -⟩ := F
                clear hu
                clear ho hf
                go_simp
                exact hK _ _ trivial (Eq.refl _) (by first | rfl | exact hS)
              refine And.intro (stepC_pure (fun _ => trivial) (by kernel_rfl) ?_) ?_
              · intro act W hR hf ho K hK
                have F : act.tmps[55]?.getD undef = _ ∧ act.tmps[45]?.getD undef = _ ∧ True := hf
                obtain ⟨f45, f35, -⟩ := F
                clear ho hf
                go_simp
                exact hK _ (Eq.refl _)
              refine And.intro (stepC_pure (fun _ => trivial) (by kernel_rfl) ?_) ?_
              · intro act W hR hf ho K hK
                have F : act.tmps[50]?.getD undef = _ ∧ act.tmps[56]?.getD undef = _ ∧ act.tmps[45]?.getD undef = _ ∧ True := hf
                obtain ⟨f40, f46, f35, -⟩ := F
                clear ho hf
                go_simp
                exact hK _ (Eq.refl _)
              refine And.intro (stepC_pure (fun _ => trivial) (by kernel_rfl) ?_) ?_
              · intro act W hR hf ho K hK
                have G : act.tmps[1]?.getD undef = _ ∧ True := ho
                obtain ⟨g1, -⟩ := G
                have F : act.tmps[45]?.getD undef = _ ∧ True := hf
                obtain ⟨f35, -⟩ := F
                clear ho hf
                go_simp
                exact hK _ (Eq.refl _)
              refine And.intro (stepC_pure (fun _ => trivial) (by kernel_rfl) ?_) ?_
              · intro act W hR hf ho K hK
                have F : act.tmps[57]?.getD undef = _ ∧ act.tmps[58]?.getD undef = _ ∧ act.tmps[45]?.getD undef = _ ∧ True := hf
                obtain ⟨f47, f48, f35, -⟩ := F
                clear ho hf
                go_simp
                exact hK _ (Eq.refl _)
              refine And.intro (stepC_pure (fun _ => trivial) (by kernel_rfl) ?_) ?_
              · intro act W hR hf ho K hK
                have F : act.tmps[46]?.getD undef = _ ∧ act.tmps[59]?.getD undef = _ ∧ act.tmps[45]?.getD undef = _ ∧ True := hf
                obtain ⟨f36, f49, f35, -⟩ := F
                clear ho hf
                go_simp
                exact hK _ (Eq.refl _)
              refine And.intro (stepC_pure (fun _ => trivial) (by kernel_rfl) ?_) ?_
              · intro act W hR hf ho K hK
                have F : act.tmps[45]?.getD undef = _ ∧ act.tmps[60]?.getD undef = _ ∧ True := hf
                obtain ⟨f35, f50, -⟩ := F
                clear ho hf
                go_simp
                exact hK _ (Eq.refl _)
              exact trivial
            case stab =>
              refine And.intro is_stable ?_
              refine And.intro is_stable ?_
              refine And.intro is_stable ?_
              refine And.intro is_stable ?_
              refine And.intro is_stable ?_
              refine And.intro is_stable ?_
              refine And.intro is_stable ?_
              refine And.intro is_stable ?_
              refine And.intro is_stable ?_
              refine And.intro is_stable ?_
              refine And.intro is_stable ?_
              refine And.intro is_stable ?_
              refine And.intro is_stable ?_
              refine And.intro is_stable ?_
              refine And.intro is_stable ?_
              refine And.intro is_stable ?_
              refine And.intro is_stable ?_
              refine And.intro is_stable ?_
              refine And.intro is_stable ?_
              refine And.intro is_stable ?_
              refine And.intro is_stable ?_
              refine And.intro is_stable ?_
              refine And.intro is_stable ?_
              refine And.intro is_stable ?_
              refine And.intro is_stable ?_
              refine And.intro is_stable ?_
              refine And.intro is_stable ?_
              refine And.intro is_stable ?_
              refine And.intro is_stable ?_
              refine And.intro is_stable ?_
              refine And.intro is_stable ?_
              refine And.intro is_stable ?_
              refine And.intro is_stable ?_
              refine And.intro is_stable ?_
              refine And.intro is_stable ?_
              refine And.intro is_stable ?_
              refine And.intro is_stable ?_
              refine And.intro is_stable ?_
              refine And.intro is_stable ?_
              refine And.intro is_stable ?_
              refine And.intro is_stable ?_
              refine And.intro is_stable ?_
              refine And.intro is_stable ?_
              refine And.intro is_stable ?_
              refine And.intro is_stable ?_
              refine And.intro is_stable ?_
              refine And.intro is_stable ?_
              refine And.intro is_stable ?_
              refine And.intro is_stable ?_
              refine And.intro is_stable ?_
              refine And.intro is_stable ?_
              refine And.intro is_stable ?_
              exact trivial
            case ends =>
              intro vals W uu hu hR hS hall
              replace hS : (fun (_ : Nat → Value) (W : World) => W = w.drew) uu W := hS
              clear hu
              have e61 : vals 61 = _ := hall 51 (by decide)
              clear hall
              simp only [fill, List.setIfInBounds_toArray, List.set_cons_succ, List.set_cons_zero, e61]
              obtain rfl := hS
              go_wp2_with fail
              go_ret
              exact ⟨by rw [HG.out]; rfl, F, H.out.drew 1, by rw [HG.out]; exact HR.out, rfl, (Kept.of_ext (Below.refl _ _)).drewN 1⟩
          · have f4' : decide (z > a + 16 * (F.length : Int)) = false := decide_eq_false g4
            by_cases g5 : n > a + 16 * F.length - z
            · have hw3 : IntKind.i64.wrap (a + 16 * (F.length : Int) - z) = a + 16 * F.length - z := IntWalk.i64_in _ (by omega)
              have f5' : decide (n > a + 16 * (F.length : Int) - z) = true := decide_eq_true g5
              clear g5 hm
              go_enter Try.func14, Try.ntmps14
              go_wp2_with fail
              refine wp_region_stage (fun _ _ : World => True) [] [(fun (_ : Nat → Value) (W : World) => W = w.drew)] [10, 11, 12, 13, 14, 15, 16, 17, 18, 19, 20, 21, 22, 23, 24, 25, 26, 27, 28, 29, 30, 31, 32, 33, 34, 35, 36, 37, 38, 39, 40, 41, 42, 43, 44, 45, 46, 47, 48, 49, 50, 51, 52, 53, 54, 55, 56, 57, 58, 59, 60, 61] (by kernel_rfl) (fun _ => trivial) (fun _ _ _ _ _ => trivial) (by kernel_rfl) (by kernel_rfl) (by kernel_rfl) ?start ?_
              case start => rfl
              apply ex_is; apply Exists.intro
              apply ex_is; apply Exists.intro
              apply ex_is; apply Exists.intro
              apply ex_is; apply Exists.intro
              apply ex_is; apply Exists.intro
              apply ex_is; apply Exists.intro
              apply ex_is; apply Exists.intro
              apply ex_is; apply Exists.intro
              apply ex_is; apply Exists.intro
              apply ex_is; apply Exists.intro
              apply ex_is; apply Exists.intro
              apply ex_is; apply Exists.intro
              apply ex_is; apply Exists.intro
              apply ex_is; apply Exists.intro
              apply ex_is; apply Exists.intro
              apply ex_is; apply Exists.intro
              apply ex_is; apply Exists.intro
              apply ex_is; apply Exists.intro
              apply ex_is; apply Exists.intro
              apply ex_is; apply Exists.intro
              apply ex_is; apply Exists.intro
              apply ex_is; apply Exists.intro
              apply ex_is; apply Exists.intro
              apply ex_is; apply Exists.intro
              apply ex_is; apply Exists.intro
              apply ex_is; apply Exists.intro
              apply ex_is; apply Exists.intro
              apply ex_is; apply Exists.intro
              apply ex_is; apply Exists.intro
              apply ex_is; apply Exists.intro
              apply ex_is; apply Exists.intro
              apply ex_is; apply Exists.intro
              apply ex_is; apply Exists.intro
              apply ex_is; apply Exists.intro
              apply ex_is; apply Exists.intro
              apply ex_is; apply Exists.intro
              apply ex_is; apply Exists.intro
              apply ex_is; apply Exists.intro
              apply ex_is; apply Exists.intro
              apply ex_is; apply Exists.intro
              apply ex_is; apply Exists.intro
              apply ex_is; apply Exists.intro
              apply ex_is; apply Exists.intro
              apply ex_is; apply Exists.intro
              apply ex_is; apply Exists.intro
              apply ex_is; apply Exists.intro
              apply ex_is; apply Exists.intro
              apply ex_is; apply Exists.intro
              apply ex_is; apply Exists.intro
              apply ex_is; apply Exists.intro
              apply ex_is; apply Exists.intro
              apply ex_is; apply Exists.intro
              refine ⟨[], ⟨?steps, ?stab, ?ends⟩⟩
              case steps =>
                refine And.intro (stepC_pure (fun _ => trivial) (by kernel_rfl) ?_) ?_
                · intro act W hR hf ho K hK
                  have G : act.tmps[1]?.getD undef = _ ∧ True := ho
                  obtain ⟨g1, -⟩ := G
                  clear ho hf
                  go_simp
                  exact hK _ (Eq.refl _)
                refine And.intro (stepC_pure (fun _ => trivial) (by kernel_rfl) ?_) ?_
                · intro act W hR hf ho K hK
                  have F : act.tmps[10]?.getD undef = _ ∧ True := hf
                  obtain ⟨f0, -⟩ := F
                  clear ho hf
                  go_simp
                  exact hK _ (Eq.refl _)
                refine And.intro (stepC_pure (fun _ => trivial) (by kernel_rfl) ?_) ?_
                · intro act W hR hf ho K hK
                  have F : act.tmps[11]?.getD undef = _ ∧ True := hf
                  obtain ⟨f1, -⟩ := F
                  clear ho hf
                  go_simp
                  exact hK _ (Eq.refl _)
                refine And.intro (stepC_pure (fun _ => trivial) (by kernel_rfl) ?_) ?_
                · intro act W hR hf ho K hK
                  have F : act.tmps[12]?.getD undef = _ ∧ True := hf
                  obtain ⟨f2, -⟩ := F
                  clear ho hf
                  go_simp
                  exact hK _ (Eq.refl _)
                refine And.intro (stepC_pure (fun _ => trivial) (by kernel_rfl) ?_) ?_
                · intro act W hR hf ho K hK
                  have G : act.tmps[2]?.getD undef = _ ∧ True := ho
                  obtain ⟨g2, -⟩ := G
                  have F : act.tmps[13]?.getD undef = _ ∧ True := hf
                  obtain ⟨f3, -⟩ := F
                  clear ho hf
                  go_simp
                  exact hK _ (Eq.refl _)
                refine And.intro (stepC_pure (fun _ => trivial) (by kernel_rfl) ?_) ?_
                · intro act W hR hf ho K hK
                  have F : act.tmps[14]?.getD undef = _ ∧ act.tmps[13]?.getD undef = _ ∧ True := hf
                  obtain ⟨f4, f3, -⟩ := F
                  clear ho hf
                  go_simp
                  exact hK _ (Eq.refl _)
                refine And.intro (stepC_pure (fun _ => trivial) (by kernel_rfl) ?_) ?_
                · intro act W hR hf ho K hK
                  have F : act.tmps[15]?.getD undef = _ ∧ act.tmps[13]?.getD undef = _ ∧ True := hf
                  obtain ⟨f5, f3, -⟩ := F
                  clear ho hf
                  go_simp
                  exact hK _ (Eq.refl _)
                refine And.intro (stepC_pure (fun _ => trivial) (by kernel_rfl) ?_) ?_
                · intro act W hR hf ho K hK
                  have F : act.tmps[13]?.getD undef = _ ∧ act.tmps[16]?.getD undef = _ ∧ True := hf
                  obtain ⟨f3, f6, -⟩ := F
                  clear ho hf
                  go_simp
                  exact hK _ (Eq.refl _)
                refine And.intro (stepC_pure (fun _ => trivial) (by kernel_rfl) ?_) ?_
                · intro act W hR hf ho K hK
                  have F : act.tmps[17]?.getD undef = _ ∧ act.tmps[13]?.getD undef = _ ∧ True := hf
                  obtain ⟨f7, f3, -⟩ := F
                  clear ho hf
                  go_simp
                  exact hK _ (Eq.refl _)
                refine And.intro (stepC_pure (fun _ => trivial) (by kernel_rfl) ?_) ?_
                · intro act W hR hf ho K hK
                  have G : act.tmps[2]?.getD undef = _ ∧ True := ho
                  obtain ⟨g2, -⟩ := G
                  have F : act.tmps[18]?.getD undef = _ ∧ True := hf
                  obtain ⟨f8, -⟩ := F
                  clear ho hf
                  go_simp
                  exact hK _ (Eq.refl _)
                refine And.intro (stepC_pure (fun _ => trivial) (by kernel_rfl) ?_) ?_
                · intro act W hR hf ho K hK
                  have F : act.tmps[19]?.getD undef = _ ∧ act.tmps[18]?.getD undef = _ ∧ True := hf
                  obtain ⟨f9, f8, -⟩ := F
                  clear ho hf
                  go_simp
                  exact hK _ (Eq.refl _)
                refine And.intro (stepC_pure (fun _ => trivial) (by kernel_rfl) ?_) ?_
                · intro act W hR hf ho K hK
                  have F : act.tmps[18]?.getD undef = _ ∧ act.tmps[20]?.getD undef = _ ∧ True := hf
                  obtain ⟨f8, f10, -⟩ := F
                  clear ho hf
                  go_simp
                  exact hK _ (Eq.refl _)
                refine And.intro (stepC_pure (fun _ => trivial) (by kernel_rfl) ?_) ?_
                · intro act W hR hf ho K hK
                  have F : act.tmps[21]?.getD undef = _ ∧ act.tmps[18]?.getD undef = _ ∧ True := hf
                  obtain ⟨f11, f8, -⟩ := F
                  clear ho hf
                  go_simp
                  exact hK _ (Eq.refl _)
                refine And.intro (stepC_pure (fun _ => trivial) (by kernel_rfl) ?_) ?_
                · intro act W hR hf ho K hK
                  have G : act.tmps[1]?.getD undef = _ ∧ True := ho
                  obtain ⟨g1, -⟩ := G
                  have F : act.tmps[22]?.getD undef = _ ∧ True := hf
                  obtain ⟨f12, -⟩ := F
                  clear ho hf
                  go_simp
                  exact hK _ (Eq.refl _)
                refine And.intro (stepC_pure (fun _ => trivial) (by kernel_rfl) ?_) ?_
                · intro act W hR hf ho K hK
                  have G : act.tmps[0]?.getD undef = _ ∧ True := ho
                  obtain ⟨g0, -⟩ := G
                  have F : act.tmps[22]?.getD undef = _ ∧ True := hf
                  obtain ⟨f12, -⟩ := F
                  clear ho hf
                  go_simp
                  exact hK _ (Eq.refl _)
                refine And.intro (stepC_pure (fun _ => trivial) (by kernel_rfl) ?_) ?_
                · intro act W hR hf ho K hK
                  have F : act.tmps[24]?.getD undef = _ ∧ act.tmps[22]?.getD undef = _ ∧ True := hf
                  obtain ⟨f14, f12, -⟩ := F
                  clear ho hf
                  go_simp
                  exact hK _ (Eq.refl _)
                refine And.intro (stepC_pure (fun _ => trivial) (by kernel_rfl) ?_) ?_
                · intro act W hR hf ho K hK
                  have F : act.tmps[25]?.getD undef = _ ∧ act.tmps[22]?.getD undef = _ ∧ True := hf
                  obtain ⟨f15, f12, -⟩ := F
                  clear ho hf
                  go_simp
                  exact hK _ (Eq.refl _)
                refine And.intro (stepC_stay (pss := []) (by kernel_rfl) rfl 0 [] [] (by kernel_rfl) (by kernel_rfl) ?_) ?_
                · intro act W uu hu hR hS hf ho K hK
                  replace hS : (fun (_ : Nat → Value) (W : World) => W = w.drew) uu W := hS
                  replace hK := fun (v : Value) (w' : World) (h1 : (fun _ _ : World => True) W w') h2 (h3 : (fun (_ : Nat → Value) (W : World) => W = w.drew) uu w') => hK v w' h1 h2 h3
                  have F : act.tmps[26]?.getD undef = _ ∧ act.tmps[22]?.getD undef = _ ∧ True := hf
                  obtain ⟨f16, f12, -⟩ := F
                  clear hu
                  clear ho hf
                  obtain rfl := hS
                  go_simp
                  exact hK _ _ trivial (Eq.refl _) (by first | rfl | exact hS)
                refine And.intro (stepC_pure (fun _ => trivial) (by kernel_rfl) ?_) ?_
                · intro act W hR hf ho K hK
                  have F : act.tmps[23]?.getD undef = _ ∧ act.tmps[27]?.getD undef = _ ∧ act.tmps[22]?.getD undef = _ ∧ True := hf
                  obtain ⟨f13, f17, f12, -⟩ := F
                  clear ho hf
                  go_simp
                  exact hK _ (Eq.refl _)
                refine And.intro (stepC_pure (fun _ => trivial) (by kernel_rfl) ?_) ?_
                · intro act W hR hf ho K hK
                  have F : act.tmps[22]?.getD undef = _ ∧ act.tmps[28]?.getD undef = _ ∧ True := hf
                  obtain ⟨f12, f18, -⟩ := F
                  clear ho hf
                  go_simp
                  exact hK _ (Eq.refl _)
                refine And.intro (stepC_pure (fun _ => trivial) (by kernel_rfl) ?_) ?_
                · intro act W hR hf ho K hK
                  have F : act.tmps[29]?.getD undef = _ ∧ act.tmps[22]?.getD undef = _ ∧ True := hf
                  obtain ⟨f19, f12, -⟩ := F
                  clear ho hf
                  go_simp
                  exact hK _ (Eq.refl _)
                refine And.intro (stepC_pure (fun _ => trivial) (by kernel_rfl) ?_) ?_
                · intro act W hR hf ho K hK
                  have G : act.tmps[1]?.getD undef = _ ∧ True := ho
                  obtain ⟨g1, -⟩ := G
                  have F : act.tmps[30]?.getD undef = _ ∧ True := hf
                  obtain ⟨f20, -⟩ := F
                  clear ho hf
                  go_simp
                  exact hK _ (Eq.refl _)
                refine And.intro (stepC_pure (fun _ => trivial) (by kernel_rfl) ?_) ?_
                · intro act W hR hf ho K hK
                  have G : act.tmps[0]?.getD undef = _ ∧ True := ho
                  obtain ⟨g0, -⟩ := G
                  have F : act.tmps[30]?.getD undef = _ ∧ True := hf
                  obtain ⟨f20, -⟩ := F
                  clear ho hf
                  go_simp
                  exact hK _ (Eq.refl _)
                refine And.intro (stepC_pure (fun _ => trivial) (by kernel_rfl) ?_) ?_
                · intro act W hR hf ho K hK
                  have F : act.tmps[32]?.getD undef = _ ∧ act.tmps[30]?.getD undef = _ ∧ True := hf
                  obtain ⟨f22, f20, -⟩ := F
                  clear ho hf
                  go_simp
                  exact hK _ (Eq.refl _)
                refine And.intro (stepC_pure (fun _ => trivial) (by kernel_rfl) ?_) ?_
                · intro act W hR hf ho K hK
                  have F : act.tmps[33]?.getD undef = _ ∧ act.tmps[30]?.getD undef = _ ∧ True := hf
                  obtain ⟨f23, f20, -⟩ := F
                  clear ho hf
                  go_simp
                  exact hK _ (Eq.refl _)
                refine And.intro (stepC_stay (pss := []) (by kernel_rfl) rfl 0 [] [] (by kernel_rfl) (by kernel_rfl) ?_) ?_
                · intro act W uu hu hR hS hf ho K hK
                  replace hS : (fun (_ : Nat → Value) (W : World) => W = w.drew) uu W := hS
                  replace hK := fun (v : Value) (w' : World) (h1 : (fun _ _ : World => True) W w') h2 (h3 : (fun (_ : Nat → Value) (W : World) => W = w.drew) uu w') => hK v w' h1 h2 h3
                  have F : act.tmps[34]?.getD undef = _ ∧ act.tmps[30]?.getD undef = _ ∧ True := hf
                  obtain ⟨f24, f20, -⟩ := F
                  clear hu
                  clear ho hf
                  obtain rfl := hS
                  go_simp
                  exact hK _ _ trivial (Eq.refl _) (by first | rfl | exact hS)
                refine And.intro (stepC_pure (fun _ => trivial) (by kernel_rfl) ?_) ?_
                · intro act W hR hf ho K hK
                  have G : act.tmps[0]?.getD undef = _ ∧ True := ho
                  obtain ⟨g0, -⟩ := G
                  have F : act.tmps[30]?.getD undef = _ ∧ True := hf
                  obtain ⟨f20, -⟩ := F
                  clear ho hf
                  go_simp
                  exact hK _ (Eq.refl _)
                refine And.intro (stepC_pure (fun _ => trivial) (by kernel_rfl) ?_) ?_
                · intro act W hR hf ho K hK
                  have F : act.tmps[36]?.getD undef = _ ∧ act.tmps[30]?.getD undef = _ ∧ True := hf
                  obtain ⟨f26, f20, -⟩ := F
                  clear ho hf
                  go_simp
                  exact hK _ (Eq.refl _)
                refine And.intro (stepC_pure (fun _ => trivial) (by kernel_rfl) ?_) ?_
                · intro act W hR hf ho K hK
                  have F : act.tmps[37]?.getD undef = _ ∧ act.tmps[30]?.getD undef = _ ∧ True := hf
                  obtain ⟨f27, f20, -⟩ := F
                  clear ho hf
                  go_simp
                  exact hK _ (Eq.refl _)
                refine And.intro (stepC_stay (pss := []) (by kernel_rfl) rfl 0 [] [] (by kernel_rfl) (by kernel_rfl) ?_) ?_
                · intro act W uu hu hR hS hf ho K hK
                  replace hS : (fun (_ : Nat → Value) (W : World) => W = w.drew) uu W := hS
                  replace hK := fun (v : Value) (w' : World) (h1 : (fun _ _ : World => True) W w') h2 (h3 : (fun (_ : Nat → Value) (W : World) => W = w.drew) uu w') => hK v w' h1 h2 h3
                  have F : act.tmps[38]?.getD undef = _ ∧ act.tmps[30]?.getD undef = _ ∧ True := hf
                  obtain ⟨f28, f20, -⟩ := F
                  clear hu
                  clear ho hf
                  obtain rfl := hS
                  go_simp
                  exact hK _ _ trivial (Eq.refl _) (by first | rfl | exact hS)
                refine And.intro (stepC_stay (pss := []) (by kernel_rfl) rfl 0 [] [] (by kernel_rfl) (by kernel_rfl) ?_) ?_
                · intro act W uu hu hR hS hf ho K hK
                  replace hS : (fun (_ : Nat → Value) (W : World) => W = w.drew) uu W := hS
                  replace hK := fun (v : Value) (w' : World) (h1 : (fun _ _ : World => True) W w') h2 (h3 : (fun (_ : Nat → Value) (W : World) => W = w.drew) uu w') => hK v w' h1 h2 h3
                  have F : act.tmps[39]?.getD undef = _ ∧ act.tmps[30]?.getD undef = _ ∧ True := hf
                  obtain ⟨f29, f20, -⟩ := F
                  clear hu
                  clear ho hf
                  go_simp
                  exact hK _ _ trivial (Eq.refl _) (by first | rfl | exact hS)
                refine And.intro (stepC_pure (fun _ => trivial) (by kernel_rfl) ?_) ?_
                · intro act W hR hf ho K hK
                  have F : act.tmps[40]?.getD undef = _ ∧ act.tmps[30]?.getD undef = _ ∧ True := hf
                  obtain ⟨f30, f20, -⟩ := F
                  clear ho hf
                  go_simp
                  exact hK _ (Eq.refl _)
                refine And.intro (stepC_pure (fun _ => trivial) (by kernel_rfl) ?_) ?_
                · intro act W hR hf ho K hK
                  have F : act.tmps[35]?.getD undef = _ ∧ act.tmps[41]?.getD undef = _ ∧ act.tmps[30]?.getD undef = _ ∧ True := hf
                  obtain ⟨f25, f31, f20, -⟩ := F
                  clear ho hf
                  go_simp
                  exact hK _ (Eq.refl _)
                refine And.intro (stepC_pure (fun _ => trivial) (by kernel_rfl) ?_) ?_
                · intro act W hR hf ho K hK
                  have F : act.tmps[31]?.getD undef = _ ∧ act.tmps[42]?.getD undef = _ ∧ act.tmps[30]?.getD undef = _ ∧ True := hf
                  obtain ⟨f21, f32, f20, -⟩ := F
                  clear ho hf
                  go_simp
                  exact hK _ (Eq.refl _)
                refine And.intro (stepC_pure (fun _ => trivial) (by kernel_rfl) ?_) ?_
                · intro act W hR hf ho K hK
                  have F : act.tmps[30]?.getD undef = _ ∧ act.tmps[43]?.getD undef = _ ∧ True := hf
                  obtain ⟨f20, f33, -⟩ := F
                  clear ho hf
                  go_simp
                  exact hK _ (Eq.refl _)
                refine And.intro (stepC_pure (fun _ => trivial) (by kernel_rfl) ?_) ?_
                · intro act W hR hf ho K hK
                  have F : act.tmps[44]?.getD undef = _ ∧ act.tmps[30]?.getD undef = _ ∧ True := hf
                  obtain ⟨f34, f20, -⟩ := F
                  clear ho hf
                  go_simp
                  exact hK _ (Eq.refl _)
                refine And.intro (stepC_pure (fun _ => trivial) (by kernel_rfl) ?_) ?_
                · intro act W hR hf ho K hK
                  have G : act.tmps[2]?.getD undef = _ ∧ True := ho
                  obtain ⟨g2, -⟩ := G
                  have F : act.tmps[45]?.getD undef = _ ∧ True := hf
                  obtain ⟨f35, -⟩ := F
                  clear ho hf
                  go_simp
                  exact hK _ (Eq.refl _)
                refine And.intro (stepC_pure (fun _ => trivial) (by kernel_rfl) ?_) ?_
                · intro act W hR hf ho K hK
                  have G : act.tmps[0]?.getD undef = _ ∧ True := ho
                  obtain ⟨g0, -⟩ := G
                  have F : act.tmps[45]?.getD undef = _ ∧ True := hf
                  obtain ⟨f35, -⟩ := F
                  clear ho hf
                  go_simp
                  exact hK _ (Eq.refl _)
                refine And.intro (stepC_pure (fun _ => trivial) (by kernel_rfl) ?_) ?_
                · intro act W hR hf ho K hK
                  have F : act.tmps[47]?.getD undef = _ ∧ act.tmps[45]?.getD undef = _ ∧ True := hf
                  obtain ⟨f37, f35, -⟩ := F
                  clear ho hf
                  go_simp
                  exact hK _ (Eq.refl _)
                refine And.intro (stepC_pure (fun _ => trivial) (by kernel_rfl) ?_) ?_
                · intro act W hR hf ho K hK
                  have F : act.tmps[48]?.getD undef = _ ∧ act.tmps[45]?.getD undef = _ ∧ True := hf
                  obtain ⟨f38, f35, -⟩ := F
                  clear ho hf
                  go_simp
                  exact hK _ (Eq.refl _)
                refine And.intro (stepC_stay (pss := []) (by kernel_rfl) rfl 0 [] [] (by kernel_rfl) (by kernel_rfl) ?_) ?_
                · intro act W uu hu hR hS hf ho K hK
                  replace hS : (fun (_ : Nat → Value) (W : World) => W = w.drew) uu W := hS
                  replace hK := fun (v : Value) (w' : World) (h1 : (fun _ _ : World => True) W w') h2 (h3 : (fun (_ : Nat → Value) (W : World) => W = w.drew) uu w') => hK v w' h1 h2 h3
                  have F : act.tmps[49]?.getD undef = _ ∧ act.tmps[45]?.getD undef = _ ∧ True := hf
                  obtain ⟨f39, f35, -⟩ := F
                  clear hu
                  clear ho hf
                  obtain rfl := hS
                  go_simp
                  exact hK _ _ trivial (Eq.refl _) (by first | rfl | exact hS)
                refine And.intro (stepC_pure (fun _ => trivial) (by kernel_rfl) ?_) ?_
                · intro act W hR hf ho K hK
                  have G : act.tmps[0]?.getD undef = _ ∧ True := ho
                  obtain ⟨g0, -⟩ := G
                  have F : act.tmps[45]?.getD undef = _ ∧ True := hf
                  obtain ⟨f35, -⟩ := F
                  clear ho hf
                  go_simp
                  exact hK _ (Eq.refl _)
                refine And.intro (stepC_pure (fun _ => trivial) (by kernel_rfl) ?_) ?_
                · intro act W hR hf ho K hK
                  have F : act.tmps[51]?.getD undef = _ ∧ act.tmps[45]?.getD undef = _ ∧ True := hf
                  obtain ⟨f41, f35, -⟩ := F
                  clear ho hf
                  go_simp
                  exact hK _ (Eq.refl _)
                refine And.intro (stepC_pure (fun _ => trivial) (by kernel_rfl) ?_) ?_
                · intro act W hR hf ho K hK
                  have F : act.tmps[52]?.getD undef = _ ∧ act.tmps[45]?.getD undef = _ ∧ True := hf
                  obtain ⟨f42, f35, -⟩ := F
                  clear ho hf
                  go_simp
                  exact hK _ (Eq.refl _)
                refine And.intro (stepC_stay (pss := []) (by kernel_rfl) rfl 0 [] [] (by kernel_rfl) (by kernel_rfl) ?_) ?_
                · intro act W uu hu hR hS hf ho K hK
                  replace hS : (fun (_ : Nat → Value) (W : World) => W = w.drew) uu W := hS
                  replace hK := fun (v : Value) (w' : World) (h1 : (fun _ _ : World => True) W w') h2 (h3 : (fun (_ : Nat → Value) (W : World) => W = w.drew) uu w') => hK v w' h1 h2 h3
                  have F : act.tmps[53]?.getD undef = _ ∧ act.tmps[45]?.getD undef = _ ∧ True := hf
                  obtain ⟨f43, f35, -⟩ := F
                  clear hu
                  clear ho hf
                  obtain rfl := hS
                  go_simp
                  exact hK _ _ trivial (Eq.refl _) (by first | rfl | exact hS)
                refine And.intro (stepC_stay (pss := []) (by kernel_rfl) rfl 0 [] [] (by kernel_rfl) (by kernel_rfl) ?_) ?_
                · intro act W uu hu hR hS hf ho K hK
                  replace hS : (fun (_ : Nat → Value) (W : World) => W = w.drew) uu W := hS
                  replace hK := fun (v : Value) (w' : World) (h1 : (fun _ _ : World => True) W w') h2 (h3 : (fun (_ : Nat → Value) (W : World) => W = w.drew) uu w') => hK v w' h1 h2 h3
                  have F : act.tmps[54]?.getD undef = _ ∧ act.tmps[45]?.getD undef = _ ∧ True := hf
                  obtain ⟨f44, f35, -⟩ := F
                  clear hu
                  clear ho hf
                  go_simp
                  exact hK _ _ trivial (Eq.refl _) (by first | rfl | exact hS)
                refine And.intro (stepC_pure (fun _ => trivial) (by kernel_rfl) ?_) ?_
                · intro act W hR hf ho K hK
                  have F : act.tmps[55]?.getD undef = _ ∧ act.tmps[45]?.getD undef = _ ∧ True := hf
                  obtain ⟨f45, f35, -⟩ := F
                  clear ho hf
                  go_simp
                  exact hK _ (Eq.refl _)
                refine And.intro (stepC_pure (fun _ => trivial) (by kernel_rfl) ?_) ?_
                · intro act W hR hf ho K hK
                  have F : act.tmps[50]?.getD undef = _ ∧ act.tmps[56]?.getD undef = _ ∧ act.tmps[45]?.getD undef = _ ∧ True := hf
                  obtain ⟨f40, f46, f35, -⟩ := F
                  clear ho hf
                  go_simp
                  exact hK _ (Eq.refl _)
                refine And.intro (stepC_pure (fun _ => trivial) (by kernel_rfl) ?_) ?_
                · intro act W hR hf ho K hK
                  have G : act.tmps[1]?.getD undef = _ ∧ True := ho
                  obtain ⟨g1, -⟩ := G
                  have F : act.tmps[45]?.getD undef = _ ∧ True := hf
                  obtain ⟨f35, -⟩ := F
                  clear ho hf
                  go_simp
                  exact hK _ (Eq.refl _)
                refine And.intro (stepC_pure (fun _ => trivial) (by kernel_rfl) ?_) ?_
                · intro act W hR hf ho K hK
                  have F : act.tmps[57]?.getD undef = _ ∧ act.tmps[58]?.getD undef = _ ∧ act.tmps[45]?.getD undef = _ ∧ True := hf
                  obtain ⟨f47, f48, f35, -⟩ := F
                  clear ho hf
                  go_simp
                  exact hK _ (Eq.refl _)
                refine And.intro (stepC_pure (fun _ => trivial) (by kernel_rfl) ?_) ?_
                · intro act W hR hf ho K hK
                  have F : act.tmps[46]?.getD undef = _ ∧ act.tmps[59]?.getD undef = _ ∧ act.tmps[45]?.getD undef = _ ∧ True := hf
                  obtain ⟨f36, f49, f35, -⟩ := F
                  clear ho hf
                  go_simp
                  exact hK _ (Eq.refl _)
                refine And.intro (stepC_pure (fun _ => trivial) (by kernel_rfl) ?_) ?_
                · intro act W hR hf ho K hK
                  have F : act.tmps[45]?.getD undef = _ ∧ act.tmps[60]?.getD undef = _ ∧ True := hf
                  obtain ⟨f35, f50, -⟩ := F
                  clear ho hf
                  go_simp
                  exact hK _ (Eq.refl _)
                exact trivial
              case stab =>
                refine And.intro is_stable ?_
                refine And.intro is_stable ?_
                refine And.intro is_stable ?_
                refine And.intro is_stable ?_
                refine And.intro is_stable ?_
                refine And.intro is_stable ?_
                refine And.intro is_stable ?_
                refine And.intro is_stable ?_
                refine And.intro is_stable ?_
                refine And.intro is_stable ?_
                refine And.intro is_stable ?_
                refine And.intro is_stable ?_
                refine And.intro is_stable ?_
                refine And.intro is_stable ?_
                refine And.intro is_stable ?_
                refine And.intro is_stable ?_
                refine And.intro is_stable ?_
                refine And.intro is_stable ?_
                refine And.intro is_stable ?_
                refine And.intro is_stable ?_
                refine And.intro is_stable ?_
                refine And.intro is_stable ?_
                refine And.intro is_stable ?_
                refine And.intro is_stable ?_
                refine And.intro is_stable ?_
                refine And.intro is_stable ?_
                refine And.intro is_stable ?_
                refine And.intro is_stable ?_
                refine And.intro is_stable ?_
                refine And.intro is_stable ?_
                refine And.intro is_stable ?_
                refine And.intro is_stable ?_
                refine And.intro is_stable ?_
                refine And.intro is_stable ?_
                refine And.intro is_stable ?_
                refine And.intro is_stable ?_
                refine And.intro is_stable ?_
                refine And.intro is_stable ?_
                refine And.intro is_stable ?_
                refine And.intro is_stable ?_
                refine And.intro is_stable ?_
                refine And.intro is_stable ?_
                refine And.intro is_stable ?_
                refine And.intro is_stable ?_
                refine And.intro is_stable ?_
                refine And.intro is_stable ?_
                refine And.intro is_stable ?_
                refine And.intro is_stable ?_
                refine And.intro is_stable ?_
                refine And.intro is_stable ?_
                refine And.intro is_stable ?_
                refine And.intro is_stable ?_
                exact trivial
              case ends =>
                intro vals W uu hu hR hS hall
                replace hS : (fun (_ : Nat → Value) (W : World) => W = w.drew) uu W := hS
                clear hu
                have e61 : vals 61 = _ := hall 51 (by decide)
                clear hall
                simp only [fill, List.setIfInBounds_toArray, List.set_cons_succ, List.set_cons_zero, e61]
                obtain rfl := hS
                go_wp2_with fail
                go_ret
                exact ⟨by rw [HG.out]; rfl, F, H.out.drew 1, by rw [HG.out]; exact HR.out, rfl, (Kept.of_ext (Below.refl _ _)).drewN 1⟩
            · have f5' : decide (n > a + 16 * (F.length : Int) - z) = false := decide_eq_false g5
              exact absurd ⟨by omega, by omega, by omega, by omega, by omega, by omega⟩ hm
set_option maxHeartbeats 4000000 in
set_option maxRecDepth 20000 in
theorem ref_give_ok (q : Nat) (a : Int) (g : Nat) (F : List Bool) (R : List Run) (z n : Int) (w : World) (h : RefAt w q a g F) (hR : Rep a F R) (ha : 0 ≤ a) (hb : a + 16 * F.length ≤ 16777216) (hm : mayGive a (a + 16 * F.length) z n) :
    Calls Try.prog 14 #[.pointer (some ⟨q, 0, none⟩), .int .i64 z, .int .i64 n] w (RefGive q a g F R z n w) := by
  have ha16 := hR.a16
  obtain ⟨m1, m2, m3, m4, m5, m6⟩ := id hm
  obtain ⟨s, hs⟩ : ∃ s : Nat, a + 16 * (s : Int) = z := ⟨((z - a) / 16).toNat, by omega⟩
  obtain ⟨N, hN⟩ : ∃ N : Nat, 16 * (N : Int) = n := ⟨(n / 16).toNat, by omega⟩
  obtain ⟨r1, r2, r3⟩ := rep_give hR hm hs hN
  have HG := Lib.hid (And.intro r2 r3)
  have HR := Lib.hid hR
  have H := Lib.hid h
  have c0 := h.c0
  have c1 := h.c1
  have hw1 : IntKind.i64.wrap (16 * (F.length : Int)) = 16 * F.length := IntWalk.i64_in _ (by omega)
  have hw2 : IntKind.i64.wrap (a + 16 * (F.length : Int)) = a + 16 * F.length := IntWalk.i64_in _ (by omega)
  have hw3 : IntKind.i64.wrap (a + 16 * (F.length : Int) - z) = a + 16 * F.length - z := IntWalk.i64_in _ (by omega)
  have f0' : (z.tmod 16 != 0) = false := by rw [bne_eq_false_iff_eq]; exact tmod_zero.2 m1
  have f1' : (n.tmod 16 != 0) = false := by rw [bne_eq_false_iff_eq]; exact tmod_zero.2 m2
  have f2' : decide (n < 1) = false := decide_eq_false (by omega)
  have f3' : decide (z < a) = false := decide_eq_false (by omega)
  have f4' : decide (z > a + 16 * (F.length : Int)) = false := decide_eq_false (by omega)
  have f5' : decide (n > a + 16 * (F.length : Int) - z) = false := decide_eq_false (by omega)
  have HM := Lib.hid hm
  have hq : n / 16 = (N : Int) := by omega
  have hq2 : n.tdiv 16 = (N : Int) := by rw [Int.tdiv_eq_ediv_of_nonneg (by omega)]; exact hq
  have hd1 : (z - a) / 16 = (s : Int) := by omega
  have hd2 : (z - a).tdiv 16 = (s : Int) := by rw [Int.tdiv_eq_ediv_of_nonneg (by omega)]; exact hd1
  have hzb : z ≤ 16777216 := by omega
  have hnb : n ≤ 16777216 := by omega
  have hNF : N ≤ F.length := by omega
  clear r2 r3 hR h hm ha16 m1 m2 m5 m6 hs hN
  go_enter Try.func14, Try.ntmps14
  go_wp2_with fail
  refine wp_region_stage (fun _ _ : World => True) [] [(fun (_ : Nat → Value) (W : World) => W = w.drew)] [10, 11, 12, 13, 14, 15, 16, 17, 18, 19, 20, 21, 22, 23, 24, 25, 26, 27, 28, 29, 30, 31, 32, 33, 34, 35, 36, 37, 38, 39, 40, 41, 42, 43, 44, 45, 46, 47, 48, 49, 50, 51, 52, 53, 54, 55, 56, 57, 58, 59, 60, 61] (by kernel_rfl) (fun _ => trivial) (fun _ _ _ _ _ => trivial) (by kernel_rfl) (by kernel_rfl) (by kernel_rfl) ?start ?_
  case start => rfl
  apply ex_is; apply Exists.intro
  apply ex_is; apply Exists.intro
  apply ex_is; apply Exists.intro
  apply ex_is; apply Exists.intro
  apply ex_is; apply Exists.intro
  apply ex_is; apply Exists.intro
  apply ex_is; apply Exists.intro
  apply ex_is; apply Exists.intro
  apply ex_is; apply Exists.intro
  apply ex_is; apply Exists.intro
  apply ex_is; apply Exists.intro
  apply ex_is; apply Exists.intro
  apply ex_is; apply Exists.intro
  apply ex_is; apply Exists.intro
  apply ex_is; apply Exists.intro
  apply ex_is; apply Exists.intro
  apply ex_is; apply Exists.intro
  apply ex_is; apply Exists.intro
  apply ex_is; apply Exists.intro
  apply ex_is; apply Exists.intro
  apply ex_is; apply Exists.intro
  apply ex_is; apply Exists.intro
  apply ex_is; apply Exists.intro
  apply ex_is; apply Exists.intro
  apply ex_is; apply Exists.intro
  apply ex_is; apply Exists.intro
  apply ex_is; apply Exists.intro
  apply ex_is; apply Exists.intro
  apply ex_is; apply Exists.intro
  apply ex_is; apply Exists.intro
  apply ex_is; apply Exists.intro
  apply ex_is; apply Exists.intro
  apply ex_is; apply Exists.intro
  apply ex_is; apply Exists.intro
  apply ex_is; apply Exists.intro
  apply ex_is; apply Exists.intro
  apply ex_is; apply Exists.intro
  apply ex_is; apply Exists.intro
  apply ex_is; apply Exists.intro
  apply ex_is; apply Exists.intro
  apply ex_is; apply Exists.intro
  apply ex_is; apply Exists.intro
  apply ex_is; apply Exists.intro
  apply ex_is; apply Exists.intro
  apply ex_is; apply Exists.intro
  apply ex_is; apply Exists.intro
  apply ex_is; apply Exists.intro
  apply ex_is; apply Exists.intro
  apply ex_is; apply Exists.intro
  apply ex_is; apply Exists.intro
  apply ex_is; apply Exists.intro
  apply ex_is; apply Exists.intro
  refine ⟨[], ⟨?steps, ?stab, ?ends⟩⟩
  case steps =>
    refine And.intro (stepC_pure (fun _ => trivial) (by kernel_rfl) ?_) ?_
    · intro act W hR hf ho K hK
      have G : act.tmps[1]?.getD undef = _ ∧ True := ho
      obtain ⟨g1, -⟩ := G
      clear ho hf
      go_simp
      exact hK _ (Eq.refl _)
    refine And.intro (stepC_pure (fun _ => trivial) (by kernel_rfl) ?_) ?_
    · intro act W hR hf ho K hK
      have F : act.tmps[10]?.getD undef = _ ∧ True := hf
      obtain ⟨f0, -⟩ := F
      clear ho hf
      go_simp
      exact hK _ (Eq.refl _)
    refine And.intro (stepC_pure (fun _ => trivial) (by kernel_rfl) ?_) ?_
    · intro act W hR hf ho K hK
      have F : act.tmps[11]?.getD undef = _ ∧ True := hf
      obtain ⟨f1, -⟩ := F
      clear ho hf
      go_simp
      exact hK _ (Eq.refl _)
    refine And.intro (stepC_pure (fun _ => trivial) (by kernel_rfl) ?_) ?_
    · intro act W hR hf ho K hK
      have F : act.tmps[12]?.getD undef = _ ∧ True := hf
      obtain ⟨f2, -⟩ := F
      clear ho hf
      go_simp
      exact hK _ (Eq.refl _)
    refine And.intro (stepC_pure (fun _ => trivial) (by kernel_rfl) ?_) ?_
    · intro act W hR hf ho K hK
      have G : act.tmps[2]?.getD undef = _ ∧ True := ho
      obtain ⟨g2, -⟩ := G
      have F : act.tmps[13]?.getD undef = _ ∧ True := hf
      obtain ⟨f3, -⟩ := F
      clear ho hf
      go_simp
      exact hK _ (Eq.refl _)
    refine And.intro (stepC_pure (fun _ => trivial) (by kernel_rfl) ?_) ?_
    · intro act W hR hf ho K hK
      have F : act.tmps[14]?.getD undef = _ ∧ act.tmps[13]?.getD undef = _ ∧ True := hf
      obtain ⟨f4, f3, -⟩ := F
      clear ho hf
      go_simp
      exact hK _ (Eq.refl _)
    refine And.intro (stepC_pure (fun _ => trivial) (by kernel_rfl) ?_) ?_
    · intro act W hR hf ho K hK
      have F : act.tmps[15]?.getD undef = _ ∧ act.tmps[13]?.getD undef = _ ∧ True := hf
      obtain ⟨f5, f3, -⟩ := F
      clear ho hf
      go_simp
      exact hK _ (Eq.refl _)
    refine And.intro (stepC_pure (fun _ => trivial) (by kernel_rfl) ?_) ?_
    · intro act W hR hf ho K hK
      have F : act.tmps[13]?.getD undef = _ ∧ act.tmps[16]?.getD undef = _ ∧ True := hf
      obtain ⟨f3, f6, -⟩ := F
      clear ho hf
      go_simp
      exact hK _ (Eq.refl _)
    refine And.intro (stepC_pure (fun _ => trivial) (by kernel_rfl) ?_) ?_
    · intro act W hR hf ho K hK
      have F : act.tmps[17]?.getD undef = _ ∧ act.tmps[13]?.getD undef = _ ∧ True := hf
      obtain ⟨f7, f3, -⟩ := F
      clear ho hf
      go_simp
      exact hK _ (Eq.refl _)
    refine And.intro (stepC_pure (fun _ => trivial) (by kernel_rfl) ?_) ?_
    · intro act W hR hf ho K hK
      have G : act.tmps[2]?.getD undef = _ ∧ True := ho
      obtain ⟨g2, -⟩ := G
      have F : act.tmps[18]?.getD undef = _ ∧ True := hf
      obtain ⟨f8, -⟩ := F
      clear ho hf
      go_simp
      exact hK _ (Eq.refl _)
    refine And.intro (stepC_pure (fun _ => trivial) (by kernel_rfl) ?_) ?_
    · intro act W hR hf ho K hK
      have F : act.tmps[19]?.getD undef = _ ∧ act.tmps[18]?.getD undef = _ ∧ True := hf
      obtain ⟨f9, f8, -⟩ := F
      clear ho hf
      go_simp
      exact hK _ (Eq.refl _)
    refine And.intro (stepC_pure (fun _ => trivial) (by kernel_rfl) ?_) ?_
    · intro act W hR hf ho K hK
      have F : act.tmps[18]?.getD undef = _ ∧ act.tmps[20]?.getD undef = _ ∧ True := hf
      obtain ⟨f8, f10, -⟩ := F
      clear ho hf
      go_simp
      exact hK _ (Eq.refl _)
    refine And.intro (stepC_pure (fun _ => trivial) (by kernel_rfl) ?_) ?_
    · intro act W hR hf ho K hK
      have F : act.tmps[21]?.getD undef = _ ∧ act.tmps[18]?.getD undef = _ ∧ True := hf
      obtain ⟨f11, f8, -⟩ := F
      clear ho hf
      go_simp
      exact hK _ (Eq.refl _)
    refine And.intro (stepC_pure (fun _ => trivial) (by kernel_rfl) ?_) ?_
    · intro act W hR hf ho K hK
      have G : act.tmps[1]?.getD undef = _ ∧ True := ho
      obtain ⟨g1, -⟩ := G
      have F : act.tmps[22]?.getD undef = _ ∧ True := hf
      obtain ⟨f12, -⟩ := F
      clear ho hf
      go_simp
      exact hK _ (Eq.refl _)
    refine And.intro (stepC_pure (fun _ => trivial) (by kernel_rfl) ?_) ?_
    · intro act W hR hf ho K hK
      have G : act.tmps[0]?.getD undef = _ ∧ True := ho
      obtain ⟨g0, -⟩ := G
      have F : act.tmps[22]?.getD undef = _ ∧ True := hf
      obtain ⟨f12, -⟩ := F
      clear ho hf
      go_simp
      exact hK _ (Eq.refl _)
    refine And.intro (stepC_pure (fun _ => trivial) (by kernel_rfl) ?_) ?_
    · intro act W hR hf ho K hK
      have F : act.tmps[24]?.getD undef = _ ∧ act.tmps[22]?.getD undef = _ ∧ True := hf
      obtain ⟨f14, f12, -⟩ := F
      clear ho hf
      go_simp
      exact hK _ (Eq.refl _)
    refine And.intro (stepC_pure (fun _ => trivial) (by kernel_rfl) ?_) ?_
    · intro act W hR hf ho K hK
      have F : act.tmps[25]?.getD undef = _ ∧ act.tmps[22]?.getD undef = _ ∧ True := hf
      obtain ⟨f15, f12, -⟩ := F
      clear ho hf
      go_simp
      exact hK _ (Eq.refl _)
    refine And.intro (stepC_stay (pss := []) (by kernel_rfl) rfl 0 [] [] (by kernel_rfl) (by kernel_rfl) ?_) ?_
    · intro act W uu hu hR hS hf ho K hK
      replace hS : (fun (_ : Nat → Value) (W : World) => W = w.drew) uu W := hS
      replace hK := fun (v : Value) (w' : World) (h1 : (fun _ _ : World => True) W w') h2 (h3 : (fun (_ : Nat → Value) (W : World) => W = w.drew) uu w') => hK v w' h1 h2 h3
      have F : act.tmps[26]?.getD undef = _ ∧ act.tmps[22]?.getD undef = _ ∧ True := hf
      obtain ⟨f16, f12, -⟩ := F
      clear hu
      clear ho hf
      obtain rfl := hS
      go_simp
      exact hK _ _ trivial (Eq.refl _) (by first | rfl | exact hS)
    refine And.intro (stepC_pure (fun _ => trivial) (by kernel_rfl) ?_) ?_
    · intro act W hR hf ho K hK
      have F : act.tmps[23]?.getD undef = _ ∧ act.tmps[27]?.getD undef = _ ∧ act.tmps[22]?.getD undef = _ ∧ True := hf
      obtain ⟨f13, f17, f12, -⟩ := F
      clear ho hf
      go_simp
      exact hK _ (Eq.refl _)
    refine And.intro (stepC_pure (fun _ => trivial) (by kernel_rfl) ?_) ?_
    · intro act W hR hf ho K hK
      have F : act.tmps[22]?.getD undef = _ ∧ act.tmps[28]?.getD undef = _ ∧ True := hf
      obtain ⟨f12, f18, -⟩ := F
      clear ho hf
      go_simp
      exact hK _ (Eq.refl _)
    refine And.intro (stepC_pure (fun _ => trivial) (by kernel_rfl) ?_) ?_
    · intro act W hR hf ho K hK
      have F : act.tmps[29]?.getD undef = _ ∧ act.tmps[22]?.getD undef = _ ∧ True := hf
      obtain ⟨f19, f12, -⟩ := F
      clear ho hf
      go_simp
      exact hK _ (Eq.refl _)
    refine And.intro (stepC_pure (fun _ => trivial) (by kernel_rfl) ?_) ?_
    · intro act W hR hf ho K hK
      have G : act.tmps[1]?.getD undef = _ ∧ True := ho
      obtain ⟨g1, -⟩ := G
      have F : act.tmps[30]?.getD undef = _ ∧ True := hf
      obtain ⟨f20, -⟩ := F
      clear ho hf
      go_simp
      exact hK _ (Eq.refl _)
    refine And.intro (stepC_pure (fun _ => trivial) (by kernel_rfl) ?_) ?_
    · intro act W hR hf ho K hK
      have G : act.tmps[0]?.getD undef = _ ∧ True := ho
      obtain ⟨g0, -⟩ := G
      have F : act.tmps[30]?.getD undef = _ ∧ True := hf
      obtain ⟨f20, -⟩ := F
      clear ho hf
      go_simp
      exact hK _ (Eq.refl _)
    refine And.intro (stepC_pure (fun _ => trivial) (by kernel_rfl) ?_) ?_
    · intro act W hR hf ho K hK
      have F : act.tmps[32]?.getD undef = _ ∧ act.tmps[30]?.getD undef = _ ∧ True := hf
      obtain ⟨f22, f20, -⟩ := F
      clear ho hf
      go_simp
      exact hK _ (Eq.refl _)
    refine And.intro (stepC_pure (fun _ => trivial) (by kernel_rfl) ?_) ?_
    · intro act W hR hf ho K hK
      have F : act.tmps[33]?.getD undef = _ ∧ act.tmps[30]?.getD undef = _ ∧ True := hf
      obtain ⟨f23, f20, -⟩ := F
      clear ho hf
      go_simp
      exact hK _ (Eq.refl _)
    refine And.intro (stepC_stay (pss := []) (by kernel_rfl) rfl 0 [] [] (by kernel_rfl) (by kernel_rfl) ?_) ?_
    · intro act W uu hu hR hS hf ho K hK
      replace hS : (fun (_ : Nat → Value) (W : World) => W = w.drew) uu W := hS
      replace hK := fun (v : Value) (w' : World) (h1 : (fun _ _ : World => True) W w') h2 (h3 : (fun (_ : Nat → Value) (W : World) => W = w.drew) uu w') => hK v w' h1 h2 h3
      have F : act.tmps[34]?.getD undef = _ ∧ act.tmps[30]?.getD undef = _ ∧ True := hf
      obtain ⟨f24, f20, -⟩ := F
      clear hu
      clear ho hf
      obtain rfl := hS
      go_simp
      exact hK _ _ trivial (Eq.refl _) (by first | rfl | exact hS)
    refine And.intro (stepC_pure (fun _ => trivial) (by kernel_rfl) ?_) ?_
    · intro act W hR hf ho K hK
      have G : act.tmps[0]?.getD undef = _ ∧ True := ho
      obtain ⟨g0, -⟩ := G
      have F : act.tmps[30]?.getD undef = _ ∧ True := hf
      obtain ⟨f20, -⟩ := F
      clear ho hf
      go_simp
      exact hK _ (Eq.refl _)
    refine And.intro (stepC_pure (fun _ => trivial) (by kernel_rfl) ?_) ?_
    · intro act W hR hf ho K hK
      have F : act.tmps[36]?.getD undef = _ ∧ act.tmps[30]?.getD undef = _ ∧ True := hf
      obtain ⟨f26, f20, -⟩ := F
      clear ho hf
      go_simp
      exact hK _ (Eq.refl _)
    refine And.intro (stepC_pure (fun _ => trivial) (by kernel_rfl) ?_) ?_
    · intro act W hR hf ho K hK
      have F : act.tmps[37]?.getD undef = _ ∧ act.tmps[30]?.getD undef = _ ∧ True := hf
      obtain ⟨f27, f20, -⟩ := F
      clear ho hf
      go_simp
      exact hK _ (Eq.refl _)
    refine And.intro (stepC_stay (pss := []) (by kernel_rfl) rfl 0 [] [] (by kernel_rfl) (by kernel_rfl) ?_) ?_
    · intro act W uu hu hR hS hf ho K hK
      replace hS : (fun (_ : Nat → Value) (W : World) => W = w.drew) uu W := hS
      replace hK := fun (v : Value) (w' : World) (h1 : (fun _ _ : World => True) W w') h2 (h3 : (fun (_ : Nat → Value) (W : World) => W = w.drew) uu w') => hK v w' h1 h2 h3
      have F : act.tmps[38]?.getD undef = _ ∧ act.tmps[30]?.getD undef = _ ∧ True := hf
      obtain ⟨f28, f20, -⟩ := F
      clear hu
      clear ho hf
      obtain rfl := hS
      go_simp
      exact hK _ _ trivial (Eq.refl _) (by first | rfl | exact hS)
    refine And.intro (stepC_stay (pss := []) (by kernel_rfl) rfl 0 [] [] (by kernel_rfl) (by kernel_rfl) ?_) ?_
    · intro act W uu hu hR hS hf ho K hK
      replace hS : (fun (_ : Nat → Value) (W : World) => W = w.drew) uu W := hS
      replace hK := fun (v : Value) (w' : World) (h1 : (fun _ _ : World => True) W w') h2 (h3 : (fun (_ : Nat → Value) (W : World) => W = w.drew) uu w') => hK v w' h1 h2 h3
      have F : act.tmps[39]?.getD undef = _ ∧ act.tmps[30]?.getD undef = _ ∧ True := hf
      obtain ⟨f29, f20, -⟩ := F
      clear hu
      clear ho hf
      go_simp
      exact hK _ _ trivial (Eq.refl _) (by first | rfl | exact hS)
    refine And.intro (stepC_pure (fun _ => trivial) (by kernel_rfl) ?_) ?_
    · intro act W hR hf ho K hK
      have F : act.tmps[40]?.getD undef = _ ∧ act.tmps[30]?.getD undef = _ ∧ True := hf
      obtain ⟨f30, f20, -⟩ := F
      clear ho hf
      go_simp
      exact hK _ (Eq.refl _)
    refine And.intro (stepC_pure (fun _ => trivial) (by kernel_rfl) ?_) ?_
    · intro act W hR hf ho K hK
      have F : act.tmps[35]?.getD undef = _ ∧ act.tmps[41]?.getD undef = _ ∧ act.tmps[30]?.getD undef = _ ∧ True := hf
      obtain ⟨f25, f31, f20, -⟩ := F
      clear ho hf
      go_simp
      exact hK _ (Eq.refl _)
    refine And.intro (stepC_pure (fun _ => trivial) (by kernel_rfl) ?_) ?_
    · intro act W hR hf ho K hK
      have F : act.tmps[31]?.getD undef = _ ∧ act.tmps[42]?.getD undef = _ ∧ act.tmps[30]?.getD undef = _ ∧ True := hf
      obtain ⟨f21, f32, f20, -⟩ := F
      clear ho hf
      go_simp
      exact hK _ (Eq.refl _)
    refine And.intro (stepC_pure (fun _ => trivial) (by kernel_rfl) ?_) ?_
    · intro act W hR hf ho K hK
      have F : act.tmps[30]?.getD undef = _ ∧ act.tmps[43]?.getD undef = _ ∧ True := hf
      obtain ⟨f20, f33, -⟩ := F
      clear ho hf
      go_simp
      exact hK _ (Eq.refl _)
    refine And.intro (stepC_pure (fun _ => trivial) (by kernel_rfl) ?_) ?_
    · intro act W hR hf ho K hK
      have F : act.tmps[44]?.getD undef = _ ∧ act.tmps[30]?.getD undef = _ ∧ True := hf
      obtain ⟨f34, f20, -⟩ := F
      clear ho hf
      go_simp
      exact hK _ (Eq.refl _)
    refine And.intro (stepC_pure (fun _ => trivial) (by kernel_rfl) ?_) ?_
    · intro act W hR hf ho K hK
      have G : act.tmps[2]?.getD undef = _ ∧ True := ho
      obtain ⟨g2, -⟩ := G
      have F : act.tmps[45]?.getD undef = _ ∧ True := hf
      obtain ⟨f35, -⟩ := F
      clear ho hf
      go_simp
      exact hK _ (Eq.refl _)
    refine And.intro (stepC_pure (fun _ => trivial) (by kernel_rfl) ?_) ?_
    · intro act W hR hf ho K hK
      have G : act.tmps[0]?.getD undef = _ ∧ True := ho
      obtain ⟨g0, -⟩ := G
      have F : act.tmps[45]?.getD undef = _ ∧ True := hf
      obtain ⟨f35, -⟩ := F
      clear ho hf
      go_simp
      exact hK _ (Eq.refl _)
    refine And.intro (stepC_pure (fun _ => trivial) (by kernel_rfl) ?_) ?_
    · intro act W hR hf ho K hK
      have F : act.tmps[47]?.getD undef = _ ∧ act.tmps[45]?.getD undef = _ ∧ True := hf
      obtain ⟨f37, f35, -⟩ := F
      clear ho hf
      go_simp
      exact hK _ (Eq.refl _)
    refine And.intro (stepC_pure (fun _ => trivial) (by kernel_rfl) ?_) ?_
    · intro act W hR hf ho K hK
      have F : act.tmps[48]?.getD undef = _ ∧ act.tmps[45]?.getD undef = _ ∧ True := hf
      obtain ⟨f38, f35, -⟩ := F
      clear ho hf
      go_simp
      exact hK _ (Eq.refl _)
    refine And.intro (stepC_stay (pss := []) (by kernel_rfl) rfl 0 [] [] (by kernel_rfl) (by kernel_rfl) ?_) ?_
    · intro act W uu hu hR hS hf ho K hK
      replace hS : (fun (_ : Nat → Value) (W : World) => W = w.drew) uu W := hS
      replace hK := fun (v : Value) (w' : World) (h1 : (fun _ _ : World => True) W w') h2 (h3 : (fun (_ : Nat → Value) (W : World) => W = w.drew) uu w') => hK v w' h1 h2 h3
      have F : act.tmps[49]?.getD undef = _ ∧ act.tmps[45]?.getD undef = _ ∧ True := hf
      obtain ⟨f39, f35, -⟩ := F
      clear hu
      clear ho hf
      obtain rfl := hS
      go_simp
      exact hK _ _ trivial (Eq.refl _) (by first | rfl | exact hS)
    refine And.intro (stepC_pure (fun _ => trivial) (by kernel_rfl) ?_) ?_
    · intro act W hR hf ho K hK
      have G : act.tmps[0]?.getD undef = _ ∧ True := ho
      obtain ⟨g0, -⟩ := G
      have F : act.tmps[45]?.getD undef = _ ∧ True := hf
      obtain ⟨f35, -⟩ := F
      clear ho hf
      go_simp
      exact hK _ (Eq.refl _)
    refine And.intro (stepC_pure (fun _ => trivial) (by kernel_rfl) ?_) ?_
    · intro act W hR hf ho K hK
      have F : act.tmps[51]?.getD undef = _ ∧ act.tmps[45]?.getD undef = _ ∧ True := hf
      obtain ⟨f41, f35, -⟩ := F
      clear ho hf
      go_simp
      exact hK _ (Eq.refl _)
    refine And.intro (stepC_pure (fun _ => trivial) (by kernel_rfl) ?_) ?_
    · intro act W hR hf ho K hK
      have F : act.tmps[52]?.getD undef = _ ∧ act.tmps[45]?.getD undef = _ ∧ True := hf
      obtain ⟨f42, f35, -⟩ := F
      clear ho hf
      go_simp
      exact hK _ (Eq.refl _)
    refine And.intro (stepC_stay (pss := []) (by kernel_rfl) rfl 0 [] [] (by kernel_rfl) (by kernel_rfl) ?_) ?_
    · intro act W uu hu hR hS hf ho K hK
      replace hS : (fun (_ : Nat → Value) (W : World) => W = w.drew) uu W := hS
      replace hK := fun (v : Value) (w' : World) (h1 : (fun _ _ : World => True) W w') h2 (h3 : (fun (_ : Nat → Value) (W : World) => W = w.drew) uu w') => hK v w' h1 h2 h3
      have F : act.tmps[53]?.getD undef = _ ∧ act.tmps[45]?.getD undef = _ ∧ True := hf
      obtain ⟨f43, f35, -⟩ := F
      clear hu
      clear ho hf
      obtain rfl := hS
      go_simp
      exact hK _ _ trivial (Eq.refl _) (by first | rfl | exact hS)
    refine And.intro (stepC_stay (pss := []) (by kernel_rfl) rfl 0 [] [] (by kernel_rfl) (by kernel_rfl) ?_) ?_
    · intro act W uu hu hR hS hf ho K hK
      replace hS : (fun (_ : Nat → Value) (W : World) => W = w.drew) uu W := hS
      replace hK := fun (v : Value) (w' : World) (h1 : (fun _ _ : World => True) W w') h2 (h3 : (fun (_ : Nat → Value) (W : World) => W = w.drew) uu w') => hK v w' h1 h2 h3
      have F : act.tmps[54]?.getD undef = _ ∧ act.tmps[45]?.getD undef = _ ∧ True := hf
      obtain ⟨f44, f35, -⟩ := F
      clear hu
      clear ho hf
      go_simp
      exact hK _ _ trivial (Eq.refl _) (by first | rfl | exact hS)
    refine And.intro (stepC_pure (fun _ => trivial) (by kernel_rfl) ?_) ?_
    · intro act W hR hf ho K hK
      have F : act.tmps[55]?.getD undef = _ ∧ act.tmps[45]?.getD undef = _ ∧ True := hf
      obtain ⟨f45, f35, -⟩ := F
      clear ho hf
      go_simp
      exact hK _ (Eq.refl _)
    refine And.intro (stepC_pure (fun _ => trivial) (by kernel_rfl) ?_) ?_
    · intro act W hR hf ho K hK
      have F : act.tmps[50]?.getD undef = _ ∧ act.tmps[56]?.getD undef = _ ∧ act.tmps[45]?.getD undef = _ ∧ True := hf
      obtain ⟨f40, f46, f35, -⟩ := F
      clear ho hf
      go_simp
      exact hK _ (Eq.refl _)
    refine And.intro (stepC_pure (fun _ => trivial) (by kernel_rfl) ?_) ?_
    · intro act W hR hf ho K hK
      have G : act.tmps[1]?.getD undef = _ ∧ True := ho
      obtain ⟨g1, -⟩ := G
      have F : act.tmps[45]?.getD undef = _ ∧ True := hf
      obtain ⟨f35, -⟩ := F
      clear ho hf
      go_simp
      exact hK _ (Eq.refl _)
    refine And.intro (stepC_pure (fun _ => trivial) (by kernel_rfl) ?_) ?_
    · intro act W hR hf ho K hK
      have F : act.tmps[57]?.getD undef = _ ∧ act.tmps[58]?.getD undef = _ ∧ act.tmps[45]?.getD undef = _ ∧ True := hf
      obtain ⟨f47, f48, f35, -⟩ := F
      clear ho hf
      go_simp
      exact hK _ (Eq.refl _)
    refine And.intro (stepC_pure (fun _ => trivial) (by kernel_rfl) ?_) ?_
    · intro act W hR hf ho K hK
      have F : act.tmps[46]?.getD undef = _ ∧ act.tmps[59]?.getD undef = _ ∧ act.tmps[45]?.getD undef = _ ∧ True := hf
      obtain ⟨f36, f49, f35, -⟩ := F
      clear ho hf
      go_simp
      exact hK _ (Eq.refl _)
    refine And.intro (stepC_pure (fun _ => trivial) (by kernel_rfl) ?_) ?_
    · intro act W hR hf ho K hK
      have F : act.tmps[45]?.getD undef = _ ∧ act.tmps[60]?.getD undef = _ ∧ True := hf
      obtain ⟨f35, f50, -⟩ := F
      clear ho hf
      go_simp
      exact hK _ (Eq.refl _)
    exact trivial
  case stab =>
    refine And.intro is_stable ?_
    refine And.intro is_stable ?_
    refine And.intro is_stable ?_
    refine And.intro is_stable ?_
    refine And.intro is_stable ?_
    refine And.intro is_stable ?_
    refine And.intro is_stable ?_
    refine And.intro is_stable ?_
    refine And.intro is_stable ?_
    refine And.intro is_stable ?_
    refine And.intro is_stable ?_
    refine And.intro is_stable ?_
    refine And.intro is_stable ?_
    refine And.intro is_stable ?_
    refine And.intro is_stable ?_
    refine And.intro is_stable ?_
    refine And.intro is_stable ?_
    refine And.intro is_stable ?_
    refine And.intro is_stable ?_
    refine And.intro is_stable ?_
    refine And.intro is_stable ?_
    refine And.intro is_stable ?_
    refine And.intro is_stable ?_
    refine And.intro is_stable ?_
    refine And.intro is_stable ?_
    refine And.intro is_stable ?_
    refine And.intro is_stable ?_
    refine And.intro is_stable ?_
    refine And.intro is_stable ?_
    refine And.intro is_stable ?_
    refine And.intro is_stable ?_
    refine And.intro is_stable ?_
    refine And.intro is_stable ?_
    refine And.intro is_stable ?_
    refine And.intro is_stable ?_
    refine And.intro is_stable ?_
    refine And.intro is_stable ?_
    refine And.intro is_stable ?_
    refine And.intro is_stable ?_
    refine And.intro is_stable ?_
    refine And.intro is_stable ?_
    refine And.intro is_stable ?_
    refine And.intro is_stable ?_
    refine And.intro is_stable ?_
    refine And.intro is_stable ?_
    refine And.intro is_stable ?_
    refine And.intro is_stable ?_
    refine And.intro is_stable ?_
    refine And.intro is_stable ?_
    refine And.intro is_stable ?_
    refine And.intro is_stable ?_
    refine And.intro is_stable ?_
    exact trivial
  case ends =>
    intro vals W uu hu hR hS hall
    replace hS : (fun (_ : Nat → Value) (W : World) => W = w.drew) uu W := hS
    clear hu
    have e61 : vals 61 = _ := hall 51 (by decide)
    clear hall
    simp only [fill, List.setIfInBounds_toArray, List.set_cons_succ, List.set_cons_zero, e61]
    obtain rfl := hS
    go_wp2_with fail
    go_loopw [8] (fun i wr => ∃ x : Nat, x ≤ N ∧ i = .int .i64 (x : Int) ∧ wr = w.drew ∧ Hid (∀ y (hy : s + y < F.length), y < x → F[s + y] = false)) (fun i _ => N - (intOf i).toNat)
    case atStart => exact ⟨0, Nat.zero_le _, rfl, rfl, Lib.hid fun y _ hy => by omega⟩
    case round =>
      obtain ⟨x, hx, rfl, rfl, hall⟩ := hrel
      by_cases hxl : x < N
      · have hlx : s + x < F.length := by omega
        have x0 := H.out.at hlx
        have hp0 : (0 : Int) ≤ (s : Int) + (x : Int) := by omega
        have hp1 : (s : Int) + (x : Int) < (F.length : Int) := by omega
        have hp2 : ((s : Int) + (x : Int)).toNat = s + x := by omega
        obtain ⟨b, hbv⟩ : ∃ b, b = F[s + x] := ⟨_, rfl⟩
        rw [← hbv] at x0
        have HB := Lib.hid hbv
        clear hbv
        cases b with
        | true =>
          have hno : (giveR a (a + 16 * F.length) R z n).2 = false := by
            cases hg : (giveR a (a + 16 * F.length) R z n).2 with
            | false => rfl
            | true =>
              have := HG.out.1.1 hg x hxl hlx
              rw [← HB.out] at this
              cases this
          have HN := Lib.hid hno
          clear hno
          go_wp2_with fail
          go_ret
          exact ⟨by rw [HN.out]; rfl, F, H.out.drew 1, by rw [give_same HN.out]; exact HR.out, rfl, (Kept.of_ext (Below.refl _ _)).drewN 1⟩
        | false =>
          go_wp2_with fail
          exact ⟨⟨x + 1, hxl, by simp, by trivial, Lib.hid fun y hy hyx => by rcases Nat.lt_succ_iff_lt_or_eq.1 hyx with hyx | rfl; exact hall.out y hy hyx; exact HB.out.symm⟩, by simp [intOf]; omega⟩
      · obtain rfl : x = N := by omega
        have hyes : (giveR a (a + 16 * F.length) R z n).2 = true := HG.out.1.2 fun i hi hif => hall.out i hif hi
        have HY := Lib.hid (And.intro hyes (HG.out.2 hyes))
        clear hyes
        go_wp2_with fail
        go_loopw [9] (fun i wr => ∃ y : Nat, y ≤ x ∧ i = .int .i64 (y : Int) ∧ RefAt wr q a g (setR F s true y) ∧ Kept g none w wr) (fun i _ => x - (intOf i).toNat)
        case atStart => exact ⟨0, Nat.zero_le _, rfl, H.out.drew 1, (Kept.of_ext (Below.refl _ _)).drewN 1⟩
        case round =>
          clear c0 c1
          obtain ⟨y, hy, rfl, hA, hE⟩ := hrel
          have c0 := hA.c0
          have c1 := hA.c1
          rw [setR_len] at c1
          by_cases hyl : y < x
          · have hsx : s + y < (setR F s true y).length := by rw [setR_len]; omega
            have x0 := hA.at hsx
            have xf := hA.free (i := s + y)
            have HS := Lib.hid (hA.set hsx true)
            have hlx : s + y < F.length := by omega
            have hp0 : (0 : Int) ≤ (s : Int) + (y : Int) := by omega
            have hp1 : (s : Int) + (y : Int) < (F.length : Int) := by omega
            have hp2 : ((s : Int) + (y : Int)).toNat = s + y := by omega
            have HE := Lib.hid hE
            clear hA hE
            go_wp2_with fail
            exact ⟨⟨y + 1, hyl, by simp, HS.out, HE.out.trans (Kept.set wr _ none _) (.inl rfl)⟩, by simp [intOf]; omega⟩
          · obtain rfl : y = x := by omega
            go_wp2_with fail
            go_ret
            exact ⟨by rw [HY.out.1]; rfl, _, hA, HY.out.2, setR_len _ _ _ _, hE⟩
theorem ref_give (q : Nat) (a : Int) (g : Nat) (F : List Bool) (R : List Run) (z n : Int) (w : World) (h : RefAt w q a g F) (hR : Rep a F R) (ha : 0 ≤ a) (hb : a + 16 * F.length ≤ 16777216) (hz : -9223372036854775808 ≤ z ∧ z ≤ 9223372036854775807) (hn : -9223372036854775808 ≤ n ∧ n ≤ 9223372036854775807) :
    Calls Try.prog 14 #[.pointer (some ⟨q, 0, none⟩), .int .i64 z, .int .i64 n] w (RefGive q a g F R z n w) := by
  by_cases hm : mayGive a (a + 16 * F.length) z n
  · exact ref_give_ok q a g F R z n w h hR ha hb hm
  · exact ref_give_bad q a g F R z n w h hR ha hb hz hn hm
end Go.Proofs.Ytipnkjegiiphnaa

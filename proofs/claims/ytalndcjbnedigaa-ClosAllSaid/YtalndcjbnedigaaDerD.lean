
/- Package derive: the changes. -/
import Derived.Test.YtalndcjbnedigaaDerC
import Derived.Test.YtalndcjbnedigaaPhi3
set_option linter.all false
namespace Go.Proofs.Ytalndcjbnedigaa
open Go.RowKit Go.Shelf
attribute [local go_sem] seen dstOf boolOf

theorem grown_set {w : World} {b : Nat} {o : Nat} {v : Value} : w.grownBy (w.setCell ⟨b, o, none⟩ v) (some b) := by
  refine ⟨rfl, rfl, rfl, by simp, fun k hk hn => ?_⟩
  have : b ≠ k := fun e => hn (by rw [e])
  simp [World.setCell, Array.getElem?_modify, this]
theorem grown_of_drew {w w' : World} {r : Option Nat} (h : w.drew.grownBy w' r) : w.grownBy w' r := ⟨h.os, h.tape, h.output, h.size, h.block⟩
theorem cell_far {w : World} {b bn o o' : Nat} {v u : Value} (hn : bn ≠ b ∨ o' ≠ o) (h : w.cell? ⟨bn, o', none⟩ = some u) : (w.setCell ⟨b, o, none⟩ v).cell? ⟨bn, o', none⟩ = some u := by
  have h1 : (⟨b, o, none⟩ : Addr) ≠ ⟨bn, o', none⟩ := by simp only [ne_eq, Addr.mk.injEq, and_true, not_and]; omega
  exact (World.cell?_setCell_other w _ _ v h1).trans h
theorem grown_drew {w w' : World} {r : Option Nat} (h : w.grownBy w' r) : w.grownBy w'.drew r := ⟨h.os, h.tape, h.output, h.size, h.block⟩
set_option maxHeartbeats 1000000 in
set_option maxRecDepth 20000 in
theorem bounds1_any (n : Int) (c : Cap) (b bn : Nat) (w : World) (hb : w.heap[b]? = some (.cells c.cells.toArray 24)) (hn : w.heap[bn]? = some (.cells #[.int .i64 n] 3)) :
    Calls Try.prog 70 #[.pointer (some ⟨b, 0, none⟩), .pointer (some ⟨bn, 0, none⟩)] w (Chg (boundsF n) c b w) := by
  obtain ⟨y0, y1, y2, y3, y4, y5⟩ := lie6' hb (Below.refl _ w)
  have x0 := cellAt hn 0 (.int .i64 n) rfl
  have fz := frozen_row' hb
  have hlt := cell_lt y0
  have hlt2 := cell_lt x0
  simp only at hlt hlt2
  have HB := Lib.hid hb
  have hne : bn ≠ b := by
    rintro rfl
    rw [hb] at hn
    simp at hn
  clear hb hn
  go_enter Try.func70, Try.ntmps70
  go_wp2_with fail
  refine wp_region_res (fun x y => World.grownBy x y (some b)) [⟨none, [], []⟩, ⟨none, [], []⟩, ⟨none, [], [14]⟩, ⟨some 14, [], [17]⟩, ⟨some 17, [], []⟩] [(fun (u : Nat → Value) (W : World) => (fun (_ : Value) (W : World) => W.cell? ⟨bn, 0, none⟩ = some (.int .i64 n)) (undef) W), (fun (u : Nat → Value) (W : World) => (fun (_ : Value) (W : World) => W.cell? ⟨b, 3, none⟩ = some (.int .i64 c.at')) (undef) W), (fun (u : Nat → Value) (W : World) => (fun (_ : Value) (W : World) => W.heap[b]? = some (.cells c.cells.toArray 24)) (undef) W), (fun (u : Nat → Value) (W : World) => (fun (_ : Value) (W : World) => W.heap[b]? = some (.cells #[.bool c.tag, .int .i64 c.at', .int .i64 c.top, .int .i64 c.at', .int .i64 c.perms, .int .i64 c.ty] 24)) (undef) W), (fun (u : Nat → Value) (W : World) => (fun (_ : Value) (W : World) => W.heap[b]? = some (.cells #[.bool c.tag, .int .i64 c.at', .int .i64 (IntKind.i64.wrap (c.at' + n)), .int .i64 c.at', .int .i64 c.perms, .int .i64 c.ty] 24)) (undef) W)] [⟨[(0, []), (1, [])], [.keep, .keep, .keep, .early [0], .early [0]]⟩, ⟨[(0, []), (1, [])], [.keep, .keep, .keep, .keep, .early [1]]⟩, ⟨[(0, []), (1, [])], [.keep, .keep, .keep, .early [2], .early [2]]⟩, ⟨[(0, []), (1, [])], [.keep, .keep, .keep, .early [3], .early [3]]⟩, ⟨[(0, []), (1, [])], [.keep, .keep, .keep, .early [4], .early [4]]⟩, ⟨[(0, []), (1, [])], [.keep, .keep, .keep, .early [5], .early [5]]⟩, ⟨[(0, []), (1, [])], [.keep, .keep, .keep, .early [9, 8, 7, 6], .early [6]]⟩, ⟨[(0, []), (1, [])], [.keep, .keep, .keep, .early [9, 8, 7], .early [7]]⟩, ⟨[(0, []), (1, [])], [.keep, .keep, .keep, .early [9, 8], .early [8]]⟩, ⟨[(0, []), (1, [])], [.keep, .keep, .keep, .early [9], .early [9]]⟩, ⟨[(0, []), (1, [])], [.keep, .keep, .keep, .keep, .early [10]]⟩, ⟨[(0, []), (1, [])], [.keep, .keep, .keep, .keep, .early [11]]⟩, ⟨[(0, []), (1, [])], [.keep, .keep, .keep, .early [13, 12], .early [12]]⟩, ⟨[(0, []), (1, [])], [.keep, .keep, .keep, .early [13], .early [13]]⟩, ⟨[(0, []), (1, []), (2, [])], [.keep, .keep, .late [[]], .last, .early [14]]⟩, ⟨[(0, []), (1, [])], [.keep, .keep, .late [[14]], .keep, .early [16, 15]]⟩, ⟨[(0, []), (1, [])], [.keep, .keep, .late [[14]], .keep, .early [16]]⟩, ⟨[(0, []), (1, []), (3, [14])], [.keep, .keep, .late [[14]], .late [[]], .last]⟩] [3, 4, 5, 6, 7, 8, 9, 10, 11, 12, 13, 14, 15, 16, 17, 18] (by kernel_rfl) (fun x => World.grownBy.refl x (some b)) (fun _ _ _ h k => World.grownBy.trans h k) (by kernel_rfl) (by kernel_rfl) (by kernel_rfl) (by kernel_rfl) (by kernel_rfl) ?start ?_
  case start =>
    refine And.intro ?_ ?_
    · exact x0
    refine And.intro ?_ ?_
    · exact y3
    refine And.intro ?_ ?_
    · exact HB.out
    exact trivial
  apply ex_is; apply Exists.intro
  apply ex_is; apply Exists.intro
  apply ex_is; apply Exists.intro
  apply ex_is; apply Exists.intro
  apply ex_is; apply Exists.intro
  apply ex_is; apply Exists.intro
  apply ex_is; apply Exists.intro
  apply ex_is; apply Exists.intro
  apply ex_is; apply Exists.intro
  apply ex_is; apply Exists.intro
  apply ex_is; apply Exists.intro
  apply ex_is; apply Exists.intro
  apply ex_is; apply Exists.intro
  apply ex_is; apply Exists.intro
  refine ex_phi (fun _ _ => True) ?_
  apply ex_is; apply Exists.intro
  apply ex_is; apply Exists.intro
  refine ex_phi (fun _ _ => True) ?_
  refine ⟨[], ⟨?steps, ?stab, ?ends⟩⟩
  case steps =>
    refine And.intro (obX_pure (fun x => World.grownBy.refl x (some b)) ?_) ?_
    · intro act W hR hf ho hu K hK
      replace hK := fun v h2 => hK v W rfl h2 trivial
      have G : act.tmps[0]?.getD undef = _ ∧ True := ho
      obtain ⟨g0, -⟩ := G
      have U : (fun (_ : Value) (W : World) => W.cell? ⟨bn, 0, none⟩ = some (.int .i64 n)) (undef) W ∧ (fun (_ : Value) (W : World) => W.cell? ⟨b, 3, none⟩ = some (.int .i64 c.at')) (undef) W ∧ True := hu
      obtain ⟨r_n, r_a, -⟩ := U
      clear ho hf hu
      go_simp
      exact hK _ (Eq.refl _)
    refine And.intro (obX_pure (fun x => World.grownBy.refl x (some b)) ?_) ?_
    · intro act W hR hf ho hu K hK
      replace hK := fun v h2 => hK v W rfl h2 trivial
      have G : act.tmps[0]?.getD undef = _ ∧ True := ho
      obtain ⟨g0, -⟩ := G
      have U : (fun (_ : Value) (W : World) => W.cell? ⟨bn, 0, none⟩ = some (.int .i64 n)) (undef) W ∧ (fun (_ : Value) (W : World) => W.cell? ⟨b, 3, none⟩ = some (.int .i64 c.at')) (undef) W ∧ True := hu
      obtain ⟨r_n, r_a, -⟩ := U
      clear ho hf hu
      go_simp
      exact hK _ (Eq.refl _)
    refine And.intro (obX_pure (fun x => World.grownBy.refl x (some b)) ?_) ?_
    · intro act W hR hf ho hu K hK
      replace hK := fun v h2 => hK v W rfl h2 trivial
      have G : act.tmps[0]?.getD undef = _ ∧ True := ho
      obtain ⟨g0, -⟩ := G
      have U : (fun (_ : Value) (W : World) => W.cell? ⟨bn, 0, none⟩ = some (.int .i64 n)) (undef) W ∧ (fun (_ : Value) (W : World) => W.cell? ⟨b, 3, none⟩ = some (.int .i64 c.at')) (undef) W ∧ True := hu
      obtain ⟨r_n, r_a, -⟩ := U
      clear ho hf hu
      go_simp
      exact hK _ (Eq.refl _)
    refine And.intro (obX_pure (fun x => World.grownBy.refl x (some b)) ?_) ?_
    · intro act W hR hf ho hu K hK
      replace hK := fun v h2 => hK v W rfl h2 trivial
      have F : act.tmps[5]?.getD undef = _ ∧ True := hf
      obtain ⟨f2, -⟩ := F
      have U : (fun (_ : Value) (W : World) => W.cell? ⟨bn, 0, none⟩ = some (.int .i64 n)) (undef) W ∧ (fun (_ : Value) (W : World) => W.cell? ⟨b, 3, none⟩ = some (.int .i64 c.at')) (undef) W ∧ True := hu
      obtain ⟨r_n, r_a, -⟩ := U
      clear ho hf hu
      go_simp
      exact hK _ (Eq.refl _)
    refine And.intro (obX_pure (fun x => World.grownBy.refl x (some b)) ?_) ?_
    · intro act W hR hf ho hu K hK
      replace hK := fun v h2 => hK v W rfl h2 trivial
      have F : act.tmps[6]?.getD undef = _ ∧ True := hf
      obtain ⟨f3, -⟩ := F
      have U : (fun (_ : Value) (W : World) => W.cell? ⟨bn, 0, none⟩ = some (.int .i64 n)) (undef) W ∧ (fun (_ : Value) (W : World) => W.cell? ⟨b, 3, none⟩ = some (.int .i64 c.at')) (undef) W ∧ True := hu
      obtain ⟨r_n, r_a, -⟩ := U
      clear ho hf hu
      go_simp
      exact hK _ (Eq.refl _)
    refine And.intro (obX_pure (fun x => World.grownBy.refl x (some b)) ?_) ?_
    · intro act W hR hf ho hu K hK
      replace hK := fun v h2 => hK v W rfl h2 trivial
      have F : act.tmps[7]?.getD undef = _ ∧ True := hf
      obtain ⟨f4, -⟩ := F
      have U : (fun (_ : Value) (W : World) => W.cell? ⟨bn, 0, none⟩ = some (.int .i64 n)) (undef) W ∧ (fun (_ : Value) (W : World) => W.cell? ⟨b, 3, none⟩ = some (.int .i64 c.at')) (undef) W ∧ True := hu
      obtain ⟨r_n, r_a, -⟩ := U
      clear ho hf hu
      go_simp
      exact hK _ (Eq.refl _)
    refine And.intro (obX_pure (fun x => World.grownBy.refl x (some b)) ?_) ?_
    · intro act W hR hf ho hu K hK
      replace hK := fun v h2 => hK v W rfl h2 trivial
      have G : act.tmps[0]?.getD undef = _ ∧ True := ho
      obtain ⟨g0, -⟩ := G
      have U : (fun (_ : Value) (W : World) => W.cell? ⟨bn, 0, none⟩ = some (.int .i64 n)) (undef) W ∧ (fun (_ : Value) (W : World) => W.cell? ⟨b, 3, none⟩ = some (.int .i64 c.at')) (undef) W ∧ True := hu
      obtain ⟨r_n, r_a, -⟩ := U
      clear ho hf hu
      go_simp
      exact hK _ (Eq.refl _)
    refine And.intro (obX_pure (fun x => World.grownBy.refl x (some b)) ?_) ?_
    · intro act W hR hf ho hu K hK
      replace hK := fun v h2 => hK v W rfl h2 trivial
      have F : act.tmps[9]?.getD undef = _ ∧ True := hf
      obtain ⟨f6, -⟩ := F
      have U : (fun (_ : Value) (W : World) => W.cell? ⟨bn, 0, none⟩ = some (.int .i64 n)) (undef) W ∧ (fun (_ : Value) (W : World) => W.cell? ⟨b, 3, none⟩ = some (.int .i64 c.at')) (undef) W ∧ True := hu
      obtain ⟨r_n, r_a, -⟩ := U
      clear ho hf hu
      go_simp
      exact hK _ (Eq.refl _)
    refine And.intro (obX_pure (fun x => World.grownBy.refl x (some b)) ?_) ?_
    · intro act W hR hf ho hu K hK
      replace hK := fun v h2 => hK v W rfl h2 trivial
      have F : act.tmps[10]?.getD undef = _ ∧ True := hf
      obtain ⟨f7, -⟩ := F
      have U : (fun (_ : Value) (W : World) => W.cell? ⟨bn, 0, none⟩ = some (.int .i64 n)) (undef) W ∧ (fun (_ : Value) (W : World) => W.cell? ⟨b, 3, none⟩ = some (.int .i64 c.at')) (undef) W ∧ True := hu
      obtain ⟨r_n, r_a, -⟩ := U
      clear ho hf hu
      go_simp
      exact hK _ (Eq.refl _)
    refine And.intro (obX_pure (fun x => World.grownBy.refl x (some b)) ?_) ?_
    · intro act W hR hf ho hu K hK
      replace hK := fun v h2 => hK v W rfl h2 trivial
      have F : act.tmps[11]?.getD undef = _ ∧ True := hf
      obtain ⟨f8, -⟩ := F
      have U : (fun (_ : Value) (W : World) => W.cell? ⟨bn, 0, none⟩ = some (.int .i64 n)) (undef) W ∧ (fun (_ : Value) (W : World) => W.cell? ⟨b, 3, none⟩ = some (.int .i64 c.at')) (undef) W ∧ True := hu
      obtain ⟨r_n, r_a, -⟩ := U
      clear ho hf hu
      go_simp
      exact hK _ (Eq.refl _)
    refine And.intro (obX_pure (fun x => World.grownBy.refl x (some b)) ?_) ?_
    · intro act W hR hf ho hu K hK
      replace hK := fun v h2 => hK v W rfl h2 trivial
      have G : act.tmps[1]?.getD undef = _ ∧ True := ho
      obtain ⟨g1, -⟩ := G
      have U : (fun (_ : Value) (W : World) => W.cell? ⟨bn, 0, none⟩ = some (.int .i64 n)) (undef) W ∧ (fun (_ : Value) (W : World) => W.cell? ⟨b, 3, none⟩ = some (.int .i64 c.at')) (undef) W ∧ True := hu
      obtain ⟨r_n, r_a, -⟩ := U
      clear ho hf hu
      go_simp
      exact hK _ (Eq.refl _)
    refine And.intro (obX_pure (fun x => World.grownBy.refl x (some b)) ?_) ?_
    · intro act W hR hf ho hu K hK
      replace hK := fun v h2 => hK v W rfl h2 trivial
      have F : act.tmps[12]?.getD undef = _ ∧ act.tmps[13]?.getD undef = _ ∧ True := hf
      obtain ⟨f9, f10, -⟩ := F
      have U : (fun (_ : Value) (W : World) => W.cell? ⟨bn, 0, none⟩ = some (.int .i64 n)) (undef) W ∧ (fun (_ : Value) (W : World) => W.cell? ⟨b, 3, none⟩ = some (.int .i64 c.at')) (undef) W ∧ True := hu
      obtain ⟨r_n, r_a, -⟩ := U
      clear ho hf hu
      go_simp
      exact hK _ (Eq.refl _)
    refine And.intro (obX_pure (fun x => World.grownBy.refl x (some b)) ?_) ?_
    · intro act W hR hf ho hu K hK
      replace hK := fun v h2 => hK v W rfl h2 trivial
      have F : act.tmps[3]?.getD undef = _ ∧ act.tmps[3]?.getD undef = _ ∧ act.tmps[5]?.getD undef = _ ∧ act.tmps[6]?.getD undef = _ ∧ act.tmps[7]?.getD undef = _ ∧ act.tmps[8]?.getD undef = _ ∧ act.tmps[12]?.getD undef = _ ∧ True := hf
      obtain ⟨f0, -, f2, f3, f4, f5, f9, -⟩ := F
      have U : (fun (_ : Value) (W : World) => W.cell? ⟨bn, 0, none⟩ = some (.int .i64 n)) (undef) W ∧ (fun (_ : Value) (W : World) => W.cell? ⟨b, 3, none⟩ = some (.int .i64 c.at')) (undef) W ∧ True := hu
      obtain ⟨r_n, r_a, -⟩ := U
      clear ho hf hu
      go_simp
      exact hK _ (Eq.refl _)
    refine And.intro (obX_pure (fun x => World.grownBy.refl x (some b)) ?_) ?_
    · intro act W hR hf ho hu K hK
      replace hK := fun v h2 => hK v W rfl h2 trivial
      have F : act.tmps[15]?.getD undef = _ ∧ act.tmps[3]?.getD undef = _ ∧ act.tmps[5]?.getD undef = _ ∧ act.tmps[6]?.getD undef = _ ∧ act.tmps[7]?.getD undef = _ ∧ act.tmps[8]?.getD undef = _ ∧ act.tmps[12]?.getD undef = _ ∧ True := hf
      obtain ⟨f12, f0, f2, f3, f4, f5, f9, -⟩ := F
      have U : (fun (_ : Value) (W : World) => W.cell? ⟨bn, 0, none⟩ = some (.int .i64 n)) (undef) W ∧ (fun (_ : Value) (W : World) => W.cell? ⟨b, 3, none⟩ = some (.int .i64 c.at')) (undef) W ∧ True := hu
      obtain ⟨r_n, r_a, -⟩ := U
      clear ho hf hu
      go_simp
      exact hK _ (Eq.refl _)
    refine And.intro (obX_eff (fun x y => y = x.setCell ⟨b, 1, none⟩ (.int .i64 c.at')) (fun _ _ h => by subst h; exact grown_set) (And.intro (fun _ _ _ h e => by subst e; exact cell_far (.inl hne) h) (And.intro (fun _ _ _ h e => by subst e; exact cell_far (.inr (by decide)) h) (trivial))) ?_) ?_
    · intro act W hR hf ho hu K hK
      replace hK := fun (w' : World) (h1 : (fun x y => y = x.setCell ⟨b, 1, none⟩ (.int .i64 c.at')) W w') (b3 : (fun (_ : Value) (W : World) => W.heap[b]? = some (.cells #[.bool c.tag, .int .i64 c.at', .int .i64 c.top, .int .i64 c.at', .int .i64 c.perms, .int .i64 c.ty] 24)) (undef) w') => hK undef w' h1 trivial ⟨b3, trivial⟩
      have F : act.tmps[16]?.getD undef = _ ∧ act.tmps[8]?.getD undef = _ ∧ act.tmps[3]?.getD undef = _ ∧ act.tmps[5]?.getD undef = _ ∧ act.tmps[6]?.getD undef = _ ∧ act.tmps[7]?.getD undef = _ ∧ act.tmps[8]?.getD undef = _ ∧ act.tmps[12]?.getD undef = _ ∧ True := hf
      obtain ⟨f13, f5, f0, f2, f3, f4, -, f9, -⟩ := F
      have U : (fun (_ : Value) (W : World) => W.cell? ⟨bn, 0, none⟩ = some (.int .i64 n)) (undef) W ∧ (fun (_ : Value) (W : World) => W.cell? ⟨b, 3, none⟩ = some (.int .i64 c.at')) (undef) W ∧ (fun (_ : Value) (W : World) => W.heap[b]? = some (.cells c.cells.toArray 24)) (undef) W ∧ True := hu
      obtain ⟨r_n, r_a, r_s0, -⟩ := U
      clear ho hf hu
      have fz := frozen_row' r_s0; obtain ⟨q0, q1, q2, q3, q4, q5⟩ := lie6' r_s0 (Below.refl _ _); have hq := set_row (o := 1) r_s0 (.int .i64 c.at')
      go_simp
      exact hK _ rfl hq
    refine And.intro (obX_pure (fun x => World.grownBy.refl x (some b)) ?_) ?_
    · intro act W hR hf ho hu K hK
      replace hK := fun v h2 => hK v W rfl h2 trivial
      have F : act.tmps[4]?.getD undef = _ ∧ act.tmps[3]?.getD undef = _ ∧ act.tmps[4]?.getD undef = _ ∧ act.tmps[5]?.getD undef = _ ∧ act.tmps[6]?.getD undef = _ ∧ act.tmps[7]?.getD undef = _ ∧ act.tmps[8]?.getD undef = _ ∧ act.tmps[9]?.getD undef = _ ∧ act.tmps[10]?.getD undef = _ ∧ act.tmps[11]?.getD undef = _ ∧ act.tmps[12]?.getD undef = _ ∧ act.tmps[13]?.getD undef = _ ∧ act.tmps[14]?.getD undef = _ ∧ act.tmps[15]?.getD undef = _ ∧ act.tmps[16]?.getD undef = _ ∧ (fun _ _ => True) (undef) W ∧ True := hf
      obtain ⟨f1, f0, -, f2, f3, f4, f5, f6, f7, f8, f9, f10, f11, f12, f13, -, -⟩ := F
      have U : (fun (_ : Value) (W : World) => W.cell? ⟨bn, 0, none⟩ = some (.int .i64 n)) (undef) W ∧ (fun (_ : Value) (W : World) => W.cell? ⟨b, 3, none⟩ = some (.int .i64 c.at')) (undef) W ∧ True := hu
      obtain ⟨r_n, r_a, -⟩ := U
      clear ho hf hu
      go_simp
      exact hK _ (Eq.refl _)
    refine And.intro (obX_pure (fun x => World.grownBy.refl x (some b)) ?_) ?_
    · intro act W hR hf ho hu K hK
      replace hK := fun v h2 => hK v W rfl h2 trivial
      have F : act.tmps[17]?.getD undef = _ ∧ act.tmps[3]?.getD undef = _ ∧ act.tmps[4]?.getD undef = _ ∧ act.tmps[5]?.getD undef = _ ∧ act.tmps[6]?.getD undef = _ ∧ act.tmps[7]?.getD undef = _ ∧ act.tmps[8]?.getD undef = _ ∧ act.tmps[9]?.getD undef = _ ∧ act.tmps[10]?.getD undef = _ ∧ act.tmps[11]?.getD undef = _ ∧ act.tmps[12]?.getD undef = _ ∧ act.tmps[13]?.getD undef = _ ∧ act.tmps[14]?.getD undef = _ ∧ act.tmps[15]?.getD undef = _ ∧ act.tmps[16]?.getD undef = _ ∧ (fun _ _ => True) (undef) W ∧ True := hf
      obtain ⟨f15, f0, f1, f2, f3, f4, f5, f6, f7, f8, f9, f10, f11, f12, f13, -, -⟩ := F
      have U : (fun (_ : Value) (W : World) => W.cell? ⟨bn, 0, none⟩ = some (.int .i64 n)) (undef) W ∧ (fun (_ : Value) (W : World) => W.cell? ⟨b, 3, none⟩ = some (.int .i64 c.at')) (undef) W ∧ True := hu
      obtain ⟨r_n, r_a, -⟩ := U
      clear ho hf hu
      go_simp
      exact hK _ (Eq.refl _)
    refine And.intro (obX_eff (fun x y => y = x.setCell ⟨b, 2, none⟩ (.int .i64 (IntKind.i64.wrap (c.at' + n)))) (fun _ _ h => by subst h; exact grown_set) (And.intro (fun _ _ _ h e => by subst e; exact cell_far (.inl hne) h) (And.intro (fun _ _ _ h e => by subst e; exact cell_far (.inr (by decide)) h) (trivial))) ?_) ?_
    · intro act W hR hf ho hu K hK
      replace hK := fun (w' : World) (h1 : (fun x y => y = x.setCell ⟨b, 2, none⟩ (.int .i64 (IntKind.i64.wrap (c.at' + n)))) W w') (b4 : (fun (_ : Value) (W : World) => W.heap[b]? = some (.cells #[.bool c.tag, .int .i64 c.at', .int .i64 (IntKind.i64.wrap (c.at' + n)), .int .i64 c.at', .int .i64 c.perms, .int .i64 c.ty] 24)) (undef) w') => hK undef w' h1 trivial ⟨b4, trivial⟩
      have F : act.tmps[18]?.getD undef = _ ∧ act.tmps[14]?.getD undef = _ ∧ (fun _ _ => True) (undef) W ∧ act.tmps[3]?.getD undef = _ ∧ act.tmps[4]?.getD undef = _ ∧ act.tmps[5]?.getD undef = _ ∧ act.tmps[6]?.getD undef = _ ∧ act.tmps[7]?.getD undef = _ ∧ act.tmps[8]?.getD undef = _ ∧ act.tmps[9]?.getD undef = _ ∧ act.tmps[10]?.getD undef = _ ∧ act.tmps[11]?.getD undef = _ ∧ act.tmps[12]?.getD undef = _ ∧ act.tmps[13]?.getD undef = _ ∧ act.tmps[14]?.getD undef = _ ∧ act.tmps[15]?.getD undef = _ ∧ act.tmps[16]?.getD undef = _ ∧ (fun _ _ => True) (undef) W ∧ True := hf
      obtain ⟨f16, f11, -, f0, f1, f2, f3, f4, f5, f6, f7, f8, f9, f10, -, f12, f13, -, -⟩ := F
      have U : (fun (_ : Value) (W : World) => W.cell? ⟨bn, 0, none⟩ = some (.int .i64 n)) (undef) W ∧ (fun (_ : Value) (W : World) => W.cell? ⟨b, 3, none⟩ = some (.int .i64 c.at')) (undef) W ∧ (fun (_ : Value) (W : World) => W.heap[b]? = some (.cells #[.bool c.tag, .int .i64 c.at', .int .i64 c.top, .int .i64 c.at', .int .i64 c.perms, .int .i64 c.ty] 24)) (undef) W ∧ True := hu
      obtain ⟨r_n, r_a, r_s1, -⟩ := U
      clear ho hf hu
      have fz := frozen_row' r_s1; obtain ⟨q0, q1, q2, q3, q4, q5⟩ := lie6' r_s1 (Below.refl _ _); have hq := set_row (o := 2) r_s1 (.int .i64 (IntKind.i64.wrap (c.at' + n)))
      go_simp
      exact hK _ rfl hq
    exact trivial
  case stab =>
    refine And.intro is_stable ?_
    refine And.intro is_stable ?_
    refine And.intro is_stable ?_
    refine And.intro is_stable ?_
    refine And.intro is_stable ?_
    refine And.intro is_stable ?_
    refine And.intro is_stable ?_
    refine And.intro is_stable ?_
    refine And.intro is_stable ?_
    refine And.intro is_stable ?_
    refine And.intro is_stable ?_
    refine And.intro is_stable ?_
    refine And.intro is_stable ?_
    refine And.intro is_stable ?_
    refine And.intro (fun _ _ _ h _ => h) ?_
    refine And.intro is_stable ?_
    refine And.intro is_stable ?_
    refine And.intro (fun _ _ _ h _ => h) ?_
    exact trivial
  case ends =>
    intro vals W hR hE hall
    have E : (fun (_ : Value) (W : World) => W.cell? ⟨bn, 0, none⟩ = some (.int .i64 n)) (undef) W ∧ (fun (_ : Value) (W : World) => W.cell? ⟨b, 3, none⟩ = some (.int .i64 c.at')) (undef) W ∧ (fun (_ : Value) (W : World) => W.heap[b]? = some (.cells #[.bool c.tag, .int .i64 c.at', .int .i64 (IntKind.i64.wrap (c.at' + n)), .int .i64 c.at', .int .i64 c.perms, .int .i64 c.ty] 24)) (undef) W ∧ True := hE
    obtain ⟨e_n, e_a, e_s2, -⟩ := E
    clear hE
    clear hall
    simp only [fill, List.setIfInBounds_toArray, List.set_cons_succ, List.set_cons_zero]
    go_wp2_with fail
    go_end0
    exact ⟨rfl, e_s2, grown_of_drew hR⟩
set_option maxHeartbeats 1000000 in
set_option maxRecDepth 20000 in
theorem perms1_any (n : Int) (c : Cap) (b bn : Nat) (w : World) (hb : w.heap[b]? = some (.cells c.cells.toArray 24)) (hn : w.heap[bn]? = some (.cells #[.int .i64 n] 3)) :
    Calls Try.prog 73 #[.pointer (some ⟨b, 0, none⟩), .pointer (some ⟨bn, 0, none⟩)] w (Chg (permsF n) c b w) := by
  obtain ⟨y0, y1, y2, y3, y4, y5⟩ := lie6' hb (Below.refl _ w)
  have x0 := cellAt hn 0 (.int .i64 n) rfl
  have fz := frozen_row' hb
  have hlt := cell_lt y0
  have hlt2 := cell_lt x0
  simp only at hlt hlt2
  have HB := Lib.hid hb
  clear hb hn
  go_enter Try.func73, Try.ntmps73
  go_wp2_with fail
  refine wp_region_stage (fun _ _ : World => True) [8] [(fun (_ : Nat → Value) (W : World) => W = w.drew), (fun (_ : Nat → Value) (W : World) => W = (w.setCell ⟨b, 4, none⟩ (.int .i64 (bits .and .i64 c.perms n))).drew)] [3, 4, 5, 6, 7, 8, 9, 10] (by kernel_rfl) (fun _ => trivial) (fun _ _ _ _ _ => trivial) (by kernel_rfl) (by kernel_rfl) (by kernel_rfl) ?start ?_
  case start => rfl
  apply ex_is; apply Exists.intro
  apply ex_is; apply Exists.intro
  apply ex_is; apply Exists.intro
  apply ex_is; apply Exists.intro
  apply ex_is; apply Exists.intro
  apply ex_is; apply Exists.intro
  apply ex_is; apply Exists.intro
  apply ex_is; apply Exists.intro
  apply ex_is; apply Exists.intro
  refine ⟨[], ⟨?steps, ?stab, ?ends⟩⟩
  case steps =>
    refine And.intro (stepC_pure (fun _ => trivial) (by kernel_rfl) ?_) ?_
    · intro act W hR hf ho K hK
      have G : act.tmps[0]?.getD undef = _ ∧ True := ho
      obtain ⟨g0, -⟩ := G
      clear ho hf
      go_simp
      exact hK _ (Eq.refl _)
    refine And.intro (stepC_pure (fun _ => trivial) (by kernel_rfl) ?_) ?_
    · intro act W hR hf ho K hK
      have F : act.tmps[3]?.getD undef = _ ∧ True := hf
      obtain ⟨f0, -⟩ := F
      clear ho hf
      go_simp
      exact hK _ (Eq.refl _)
    refine And.intro (stepC_pure (fun _ => trivial) (by kernel_rfl) ?_) ?_
    · intro act W hR hf ho K hK
      have F : act.tmps[4]?.getD undef = _ ∧ True := hf
      obtain ⟨f1, -⟩ := F
      clear ho hf
      go_simp
      exact hK _ (Eq.refl _)
    refine And.intro (stepC_stay (pss := []) (by kernel_rfl) rfl 0 [] [3] (by kernel_rfl) (by kernel_rfl) ?_) ?_
    · intro act W uu hu hR hS hf ho K hK
      replace hS : (fun (_ : Nat → Value) (W : World) => W = w.drew) uu W := hS
      replace hK := fun (v : Value) (w' : World) (h1 : (fun _ _ : World => True) W w') h2 (h3 : (fun (_ : Nat → Value) (W : World) => W = w.drew) uu w') => hK v w' h1 h2 h3
      have F : act.tmps[5]?.getD undef = _ ∧ True := hf
      obtain ⟨f2, -⟩ := F
      clear hu
      clear ho hf
      obtain rfl := hS
      go_simp
      exact hK _ _ trivial (Eq.refl _) rfl
    refine And.intro (stepC_stay (pss := []) (by kernel_rfl) rfl 0 [] [4] (by kernel_rfl) (by kernel_rfl) ?_) ?_
    · intro act W uu hu hR hS hf ho K hK
      replace hS : (fun (_ : Nat → Value) (W : World) => W = w.drew) uu W := hS
      replace hK := fun (v : Value) (w' : World) (h1 : (fun _ _ : World => True) W w') h2 (h3 : (fun (_ : Nat → Value) (W : World) => W = w.drew) uu w') => hK v w' h1 h2 h3
      have G : act.tmps[1]?.getD undef = _ ∧ True := ho
      obtain ⟨g1, -⟩ := G
      clear hu
      clear ho hf
      obtain rfl := hS
      go_simp
      exact hK _ _ trivial (Eq.refl _) rfl
    refine And.intro (stepC_pure (fun _ => trivial) (by kernel_rfl) ?_) ?_
    · intro act W hR hf ho K hK
      have F : act.tmps[6]?.getD undef = _ ∧ act.tmps[7]?.getD undef = _ ∧ True := hf
      obtain ⟨f3, f4, -⟩ := F
      clear ho hf
      go_simp
      exact hK _ (Eq.refl _)
    refine And.intro (stepC_pure (fun _ => trivial) (by kernel_rfl) ?_) ?_
    · intro act W hR hf ho K hK
      have F : act.tmps[3]?.getD undef = _ ∧ act.tmps[3]?.getD undef = _ ∧ act.tmps[4]?.getD undef = _ ∧ act.tmps[5]?.getD undef = _ ∧ act.tmps[6]?.getD undef = _ ∧ act.tmps[7]?.getD undef = _ ∧ act.tmps[8]?.getD undef = _ ∧ True := hf
      obtain ⟨f0, -, f1, f2, f3, f4, f5, -⟩ := F
      clear ho hf
      go_simp
      exact hK _ (Eq.refl _)
    refine And.intro (stepC_pure (fun _ => trivial) (by kernel_rfl) ?_) ?_
    · intro act W hR hf ho K hK
      have F : act.tmps[9]?.getD undef = _ ∧ act.tmps[3]?.getD undef = _ ∧ act.tmps[4]?.getD undef = _ ∧ act.tmps[5]?.getD undef = _ ∧ act.tmps[6]?.getD undef = _ ∧ act.tmps[7]?.getD undef = _ ∧ act.tmps[8]?.getD undef = _ ∧ True := hf
      obtain ⟨f6, f0, f1, f2, f3, f4, f5, -⟩ := F
      clear ho hf
      go_simp
      exact hK _ (Eq.refl _)
    refine And.intro (stepC_mark (pss := []) (by kernel_rfl) (by decide) rfl 0 [] (by kernel_rfl) rfl ?_) ?_
    · intro act W uu hu hR hS hf ho K hK
      replace hS : (fun (_ : Nat → Value) (W : World) => W = w.drew) uu W := hS
      replace hK := fun (v : Value) (w' : World) (h1 : (fun _ _ : World => True) W w') h2 (h3 : (fun (_ : Nat → Value) (W : World) => W = (w.setCell ⟨b, 4, none⟩ (.int .i64 (bits .and .i64 c.perms n))).drew) uu w') => hK v w' h1 h2 h3
      have F : act.tmps[10]?.getD undef = _ ∧ act.tmps[8]?.getD undef = _ ∧ act.tmps[3]?.getD undef = _ ∧ act.tmps[4]?.getD undef = _ ∧ act.tmps[5]?.getD undef = _ ∧ act.tmps[6]?.getD undef = _ ∧ act.tmps[7]?.getD undef = _ ∧ act.tmps[8]?.getD undef = _ ∧ True := hf
      obtain ⟨f7, f5, f0, f1, f2, f3, f4, -, -⟩ := F
      clear hu
      clear ho hf
      go_simp
      subst hS; exact hK undef _ trivial (Eq.refl _) rfl
    exact trivial
  case stab =>
    refine And.intro is_stable ?_
    refine And.intro is_stable ?_
    refine And.intro is_stable ?_
    refine And.intro is_stable ?_
    refine And.intro is_stable ?_
    refine And.intro is_stable ?_
    refine And.intro is_stable ?_
    refine And.intro is_stable ?_
    refine And.intro is_stable ?_
    exact trivial
  case ends =>
    intro vals W uu hu hR hS hall
    replace hS : (fun (_ : Nat → Value) (W : World) => W = (w.setCell ⟨b, 4, none⟩ (.int .i64 (bits .and .i64 c.perms n))).drew) uu W := hS
    clear hu
    clear hall
    simp only [fill, List.setIfInBounds_toArray, List.set_cons_succ, List.set_cons_zero]
    obtain rfl := hS
    go_wp2_with fail
    go_end0
    exact ⟨rfl, set_row (o := 4) HB.out _, grown_drew grown_set⟩
theorem capInt_any (n : Int) (w : World) : Calls Try.prog 76 #[.int .i64 n] w fun e w' => e = .returned (Cap.val ⟨false, 0, 0, bits .and .i64 n 4294967295, 0, 0⟩) ∧ Ext w w' := by
  go_enter Try.func76, Try.ntmps76
  go_wp2_with fail
  exact bodyPost_ret (v := Cap.val ⟨false, 0, 0, bits .and .i64 n 4294967295, 0, 0⟩) (by simp [results, Try.results76, go_sem]) rfl ⟨rfl, (by repeat first | (with_reducible exact Below.refl _ _) | (with_reducible apply Ext.alloc) | (with_reducible apply Ext.drew) | (with_reducible apply Ext.drewN) | (with_reducible refine Ext.set ?_ (by simp)))⟩
theorem capValue_any (c : Cap) (w : World) : Calls Try.prog 75 #[c.val] w fun e w' => e = .returned (.int .i64 c.at') ∧ Ext w w' := by
  go_enter Try.func75, Try.ntmps75
  go_wp2_with fail
  go_ret
  exact ⟨rfl, (by repeat first | (with_reducible exact Below.refl _ _) | (with_reducible apply Ext.alloc) | (with_reducible apply Ext.drew) | (with_reducible apply Ext.drewN) | (with_reducible refine Ext.set ?_ (by simp)))⟩
theorem grown_ext {w w' : World} {r : Option Nat} (e : Ext w w') : w.grownBy w' r := ⟨e.os, e.tape, e.output, e.size, fun k hk _ => e.block k hk⟩
set_option maxHeartbeats 1000000 in
set_option maxRecDepth 20000 in
theorem move1_any (n : Int) (c : Cap) (b bn : Nat) (w : World) (hb : w.heap[b]? = some (.cells c.cells.toArray 24)) (hn : w.heap[bn]? = some (.cells #[.int .i64 n] 3)) :
    Calls Try.prog 74 #[.pointer (some ⟨b, 0, none⟩), .pointer (some ⟨bn, 0, none⟩)] w (Chg (moveF n) c b w) := by
  have x0 := cellAt hn 0 (.int .i64 n) rfl
  have HI := Lib.hid (fun w => capInt_any n w)
  have HV := Lib.hid (fun x w => capValue_any ⟨false, 0, 0, x, 0, 0⟩ w)
  have HB := Lib.hid hb
  obtain ⟨x, hx⟩ : ∃ x, x = bits .and .i64 n 4294967295 := ⟨_, rfl⟩
  have HX := Lib.hid hx
  rw [← hx] at HI
  clear hb hn hx
  go_enter Try.func74, Try.ntmps74
  go_wp2_with fail
  refine (HI.out _).mono ?_
  rintro _ w1 ⟨rfl, hE⟩
  go_wp2_with fail
  refine (HV.out x _).mono ?_
  rintro _ w2 ⟨rfl, hE2⟩
  have E2 := Lib.hid (hE.then hE2)
  have h2 := (E2.out.block _ (Array.getElem?_eq_some_iff.1 HB.out).1).trans HB.out
  obtain ⟨y0, y1, y2, y3, y4, y5⟩ := lie6' h2 (Below.refl _ _)
  have fz := frozen_row' h2
  have hlt := cell_lt y0
  simp only at hlt
  have H2 := Lib.hid h2
  clear hE hE2 h2
  go_wp2_with fail
  go_end0
  refine ⟨rfl, ?_, World.grownBy.trans (grown_ext E2.out) grown_set⟩
  have := set_row (o := 3) H2.out (.int .i64 x)
  unfold moveF
  rw [← HX.out]
  exact this
set_option maxHeartbeats 1000000 in
set_option maxRecDepth 20000 in
theorem seal1_any (d c : Cap) (b bd : Nat) (w : World) (hb : w.heap[b]? = some (.cells c.cells.toArray 24)) (hd : w.heap[bd]? = some (.cells d.cells.toArray 24)) :
    Calls Try.prog 78 #[.pointer (some ⟨b, 0, none⟩), .pointer (some ⟨bd, 0, none⟩)] w (Chg (typeF d.at') c b w) := by
  obtain ⟨y0, y1, y2, y3, y4, y5⟩ := lie6' hb (Below.refl _ w)
  obtain ⟨z0, z1, z2, z3, z4, z5⟩ := lie6' hd (Below.refl _ w)
  have fz := frozen_row' hb
  have hlt := cell_lt y0
  simp only at hlt
  have HB := Lib.hid hb
  clear hb hd
  go_enter Try.func78, Try.ntmps78
  go_wp2_with fail
  go_end0
  exact ⟨rfl, set_row (o := 5) HB.out _, grown_set⟩
set_option maxHeartbeats 1000000 in
set_option maxRecDepth 20000 in
theorem unseal1_any (c : Cap) (b : Nat) (w : World) (hb : w.heap[b]? = some (.cells c.cells.toArray 24)) :
    Calls Try.prog 82 #[.pointer (some ⟨b, 0, none⟩)] w (Chg (typeF 0) c b w) := by
  obtain ⟨y0, y1, y2, y3, y4, y5⟩ := lie6' hb (Below.refl _ w)
  have fz := frozen_row' hb
  have hlt := cell_lt y0
  simp only at hlt
  have HB := Lib.hid hb
  clear hb
  go_enter Try.func82, Try.ntmps82
  go_wp2_with fail
  go_end0
  exact ⟨rfl, set_row (o := 5) HB.out _, grown_set⟩
set_option maxHeartbeats 1000000 in
set_option maxRecDepth 20000 in
theorem enter1_any (c : Cap) (b : Nat) (w : World) (hb : w.heap[b]? = some (.cells c.cells.toArray 24)) :
    Calls Try.prog 83 #[.pointer (some ⟨b, 0, none⟩)] w (Chg (typeF 1) c b w) := by
  obtain ⟨y0, y1, y2, y3, y4, y5⟩ := lie6' hb (Below.refl _ w)
  have fz := frozen_row' hb
  have hlt := cell_lt y0
  simp only at hlt
  have HB := Lib.hid hb
  clear hb
  go_enter Try.func83, Try.ntmps83
  go_wp2_with fail
  go_end0
  exact ⟨rfl, set_row (o := 5) HB.out _, grown_set⟩
set_option maxHeartbeats 1000000 in
set_option maxRecDepth 20000 in
theorem build1_any (c : Cap) (b : Nat) (w : World) (hb : w.heap[b]? = some (.cells c.cells.toArray 24)) :
    Calls Try.prog 85 #[.pointer (some ⟨b, 0, none⟩)] w (Chg tagF c b w) := by
  obtain ⟨y0, y1, y2, y3, y4, y5⟩ := lie6' hb (Below.refl _ w)
  have fz := frozen_row' hb
  have hlt := cell_lt y0
  simp only at hlt
  have HB := Lib.hid hb
  clear hb
  go_enter Try.func85, Try.ntmps85
  go_wp2_with fail
  go_end0
  exact ⟨rfl, set_row (o := 0) HB.out _, grown_set⟩
theorem clear_any (c : Cap) (w : World) : Calls Try.prog 53 #[c.val] w fun e w' => e = .returned (clearD c).val ∧ Ext w w' := by
  go_enter Try.func53, Try.ntmps53
  go_wp2_with fail
  exact bodyPost_ret (v := (clearD c).val) (by simp [results, Try.results53, go_sem, clearD]) rfl ⟨rfl, (by repeat first | (with_reducible exact Below.refl _ _) | (with_reducible apply Ext.alloc) | (with_reducible apply Ext.drew) | (with_reducible apply Ext.drewN) | (with_reducible refine Ext.set ?_ (by simp)))⟩
end Go.Proofs.Ytalndcjbnedigaa


/- Package extent: what lies in memory; size, the two tests, IndexFunc. -/
import Derived.Test.YtpjlhkepdiajjaaProg
import Derived.Test.YtpjlhkepdiajjaaMem
import Derived.Test.YtpjlhkepdiajjaaPhi
set_option linter.all false
namespace Go.Proofs.Ytpjlhkepdiajjaa
open Go.RowKit

theorem lie2 {w W : World} {b : Nat} {v0 v1 : Value} {t : TypeId} (hB : w.heap[b]? = some (.cells #[v0, v1] t)) (hE : Ext w W) :
    W.cell? ⟨b, 0, none⟩ = some v0 ∧ W.cell? ⟨b, 1, none⟩ = some v1 := by
  have h := (hE.block b (Array.getElem?_eq_some_iff.1 hB).1).trans hB
  exact ⟨by simp [World.cell?, h], by simp [World.cell?, h]⟩
abbrev Run := Int × Int
abbrev cell2 (r : Run) : List Value := [.int .i64 r.1, .int .i64 r.2]
def rowC (R : List Run) : List Value := R.flatMap cell2
theorem rowC_len (R : List Run) : (rowC R).length = R.length * 2 := flat_length cell2 2 (fun _ => rfl) R
theorem rowC_append (R S : List Run) : rowC (R ++ S) = rowC R ++ rowC S := by simp [rowC]
theorem rowC_one (R : List Run) : ∀ u ∈ rowC R, u.oneCell' = true := by
  intro u hu
  obtain ⟨x, -, hx⟩ := List.mem_flatMap.1 hu
  simp at hx
  rcases hx with rfl | rfl <;> rfl
theorem rowC_take (R : List Run) (k : Nat) : (rowC R).take (k * 2) = rowC (R.take k) := by
  induction R generalizing k with
  | nil => simp [rowC]
  | cons x R ih =>
    cases k with
    | zero => simp [rowC]
    | succ k =>
      rw [List.take_succ_cons, show (k + 1) * 2 = k * 2 + 1 + 1 by omega]
      unfold rowC at ih ⊢
      simp [ih]
theorem rowC_drop (R : List Run) (k : Nat) : (rowC R).drop (k * 2) = rowC (R.drop k) := by
  induction R generalizing k with
  | nil => simp [rowC]
  | cons x R ih =>
    cases k with
    | zero => simp
    | succ k =>
      rw [List.drop_succ_cons, show (k + 1) * 2 = k * 2 + 1 + 1 by omega]
      unfold rowC at ih ⊢
      simp [ih]
/-- What may be. -/
def Fine (r : Run) : Prop := 0 ≤ r.1 ∧ r.1 ≤ 16777216 ∧ 0 ≤ r.2 ∧ r.2 ≤ 16777216
def AllFine (R : List Run) : Prop := ∀ r ∈ R, Fine r

/-- The first of which something holds; -1: none. -/
def idxI (p : Run → Bool) (R : List Run) : Int := match R.findIdx? p with | some i => (i : Int) | none => -1

set_option maxHeartbeats 1000000 in
theorem size_any (x y : Int) (w : World) (h : Fine (x, y)) : Calls Try.prog 62 #[.agg #[.int .i64 x, .int .i64 y]] w fun e w' => e = .returned (.int .i64 (y - x)) ∧ Ext w w' := by
  obtain ⟨h0, h1, h2, h3⟩ := h
  simp only at h0 h1 h2 h3
  go_enter Try.func62, Try.ntmps62
  go_wp2_with fail
  go_ret
  exact ⟨rfl, (by repeat first | (with_reducible exact Below.refl _ _) | (with_reducible apply Ext.alloc) | (with_reducible apply Ext.drew) | (with_reducible apply Ext.drewN) | (with_reducible refine Ext.set ?_ (by simp)))⟩

attribute [local go_sem] seen dstOf boolOf
set_option maxHeartbeats 4000000 in
theorem fits_any (x y n : Int) (q : Nat) (w : World) (h : Fine (x, y)) (hn : w.cell? ⟨q, 0, none⟩ = some (.int .i64 n)) :
    Calls Try.prog 61 #[.agg #[.int .i64 x, .int .i64 y], .pointer (some ⟨q, 0, none⟩)] w fun e w' => e = .returned (.bool (decide (n ≤ y - x))) ∧ Ext w w' := by
  have hq := cell_lt hn
  simp only at hq
  have HF := Lib.hid h
  clear h
  go_enter Try.func61, Try.ntmps61
  go_wp2_with fail
  refine wp_region_obl Ext [4, 5, 6, 7, 3] (by kernel_rfl) (fun _ => Below.refl _ _) (fun _ _ _ => Ext.then) (by kernel_rfl) (by kernel_rfl) ?_
  apply ex_is; apply Exists.intro
  apply ex_is; apply Exists.intro
  apply ex_is; apply Exists.intro
  apply ex_is; apply Exists.intro
  apply ex_is; apply Exists.intro
  refine ⟨[], ⟨?steps, ?stab, ?ends⟩⟩
  case steps =>
    refine And.intro ?_ ?_
    · intro a W hR hf ho K hK
      replace hR := ext_drew hR
      have G : a.tmps[2]?.getD undef = _ ∧ True := ho
      obtain ⟨g2, -⟩ := G
      clear ho hf
      obtain ⟨c0, c1⟩ := lie2 (heap_alloc_new w _) hR
      go_simp
      exact hK _ _ (Below.refl _ _) (Eq.refl _)
    refine And.intro ?_ ?_
    · intro a W hR hf ho K hK
      replace hR := ext_drew hR
      have F : a.tmps[4]?.getD undef = _ ∧ True := hf
      obtain ⟨f0, -⟩ := F
      clear ho hf
      go_simp
      refine (size_any _ _ _ HF.out).mono ?_; rintro e W1 ⟨rfl, hb⟩; exact hK _ _ hb (Eq.refl _)
    refine And.intro ?_ ?_
    · intro a W hR hf ho K hK
      replace hR := ext_drew hR
      have G : a.tmps[1]?.getD undef = _ ∧ True := ho
      obtain ⟨g1, -⟩ := G
      clear ho hf
      have c2 := ext_cell ((Ext.alloc (Below.refl _ w) _).then hR) _ _ hn
      go_simp
      exact hK _ _ (Below.refl _ _) (Eq.refl _)
    refine And.intro ?_ ?_
    · intro a W hR hf ho K hK
      replace hR := ext_drew hR
      have F : a.tmps[5]?.getD undef = _ ∧ a.tmps[6]?.getD undef = _ ∧ True := hf
      obtain ⟨f1, f2, -⟩ := F
      clear ho hf
      go_simp
      exact hK _ _ (Below.refl _ _) (Eq.refl _)
    refine And.intro ?_ ?_
    · intro a W hR hf ho K hK
      replace hR := ext_drew hR
      have F : a.tmps[7]?.getD undef = _ ∧ a.tmps[5]?.getD undef = _ ∧ a.tmps[4]?.getD undef = _ ∧ a.tmps[5]?.getD undef = _ ∧ a.tmps[6]?.getD undef = _ ∧ a.tmps[7]?.getD undef = _ ∧ True := hf
      obtain ⟨f3, f1, f0, -, f2, -, -⟩ := F
      clear ho hf
      go_simp
      exact hK _ _ (Below.refl _ _) (Eq.refl _)
    exact trivial
  case stab =>
    refine And.intro is_stable ?_
    refine And.intro is_stable ?_
    refine And.intro is_stable ?_
    refine And.intro is_stable ?_
    refine And.intro is_stable ?_
    exact trivial
  case ends =>
    intro vals W hR hall
    replace hR := ext_drew hR
    have e3 : vals 3 = _ := hall 4 (by decide)
    clear hall
    simp only [fill, List.setIfInBounds_toArray, List.set_cons_succ, List.set_cons_zero, e3]
    go_wp2_with fail
    go_ret
    exact ⟨rfl, (Ext.alloc (Below.refl _ w) _).then hR⟩
theorem upto_any (x y z z' : Int) (q : Nat) (w : World) (hn : w.cell? ⟨q, 0, none⟩ = some (.int .i64 z)) :
    Calls Try.prog 57 #[.agg #[.int .i64 x, .int .i64 y], .pointer (some ⟨q, 0, none⟩)] w fun e w' => e = .returned (.bool (decide (z ≤ y))) ∧ Ext w w' := by
  have hq := cell_lt hn
  simp only at hq
  go_enter Try.func57, Try.ntmps57
  go_wp2_with fail
  go_ret
  exact ⟨rfl, (by repeat first | (with_reducible exact Below.refl _ _) | (with_reducible apply Ext.alloc) | (with_reducible apply Ext.drew) | (with_reducible apply Ext.drewN) | (with_reducible refine Ext.set ?_ (by simp)))⟩
end Go.Proofs.Ytpjlhkepdiajjaa


/- Package extent: Give. -/
import Derived.Test.YtpjlhkepdiajjaaExtF
import Derived.BigQuiet
set_option linter.all false
namespace Go.Proofs.Ytpjlhkepdiajjaa
open Go.RowKit

/-- The first run that ends at z, or behind that. -/
def upTo (z : Int) (r : Run) : Bool := decide (z ≤ r.2)
def upI (R : List Run) (z : Int) : Nat := (R.findIdx? (upTo z)).getD R.length
/-- Does a run have something between? -/
def hits (z z' : Int) (r : Run) : Bool := decide (r.1 < z') && decide (z < r.2)
def begins (z' : Int) (r : Run) : Bool := decide (r.1 ≤ z')
def nextTo (R : List Run) (z z' : Int) : Nat := ((R.drop (upI R z)).takeWhile (begins z')).length
def joinX (R : List Run) (z z' : Int) (i m : Nat) : Run := if m = 0 then (z, z') else (min z (R.getD i (0, 0)).1, max z' (R.getD (i + m - 1) (0, 0)).2)
def mayGive (a b z n : Int) : Prop := z % 16 = 0 ∧ n % 16 = 0 ∧ 1 ≤ n ∧ a ≤ z ∧ z ≤ b ∧ n ≤ b - z
instance (a b z n : Int) : Decidable (mayGive a b z n) := by unfold mayGive; infer_instance
def giveR (a b : Int) (R : List Run) (z n : Int) : List Run × Bool :=
  if mayGive a b z n then
    if ((R.drop (upI R z)).take (nextTo R z (z + n))).any (hits z (z + n)) then (R, false)
    else (R.take (upI R z) ++ [joinX R z (z + n) (upI R z) (nextTo R z (z + n))] ++ R.drop (upI R z + nextTo R z (z + n)), true)
  else (R, false)

theorem take_while {α : Type} {p : α → Bool} : ∀ {L : List α} {m : Nat} (_ : m ≤ L.length) (_ : ∀ j (hj : j < L.length), j < m → p L[j] = true) (_ : ∀ hm : m < L.length, p L[m] = false), (L.takeWhile p).length = m
  | [], m, hm, _, _ => by simp at hm ⊢; omega
  | x :: L, 0, _, _, h => by
    have := h (by simp)
    simp at this
    simp [List.takeWhile, this]
  | x :: L, m + 1, hm, h1, h2 => by
    have hx : p x = true := h1 0 (by simp) (by omega)
    have ih := take_while (p := p) (L := L) (m := m) (by simpa using hm) (fun j hj h => h1 (j + 1) (by simpa using hj) (by omega)) (fun hm => h2 (by simpa using hm))
    simp [List.takeWhile, hx, ih]
theorem upI_le (R : List Run) (z : Int) : upI R z ≤ R.length := by
  unfold upI
  cases h : R.findIdx? (upTo z) with
  | none => simp
  | some i => have := (List.findIdx?_eq_some_iff_getElem.1 h).1; simp; omega
/-- So many are beside it, if the first so many begin in time, and the next one does not. -/
theorem nextTo_eq {R : List Run} {z z' : Int} {k : Nat} (h1 : upI R z ≤ k) (h2 : k ≤ R.length) (h3 : ∀ j (hj : j < R.length), upI R z ≤ j → j < k → R[j].1 ≤ z') (h4 : ∀ hk : k < R.length, ¬ R[k].1 ≤ z') : nextTo R z z' = k - upI R z := by
  unfold nextTo
  refine take_while (by rw [List.length_drop]; omega) (fun j hj hm => ?_) (fun hm => ?_)
  · rw [List.length_drop] at hj
    rw [List.getElem_drop]
    exact decide_eq_true (h3 _ (by omega) (by omega) (by omega))
  · rw [List.length_drop] at hm
    have e : upI R z + (k - upI R z) = k := by omega
    rw [List.getElem_drop]
    refine decide_eq_false ?_
    have := h4 (by omega)
    simpa only [e] using this
theorem any_no {R : List Run} {z z' : Int} {k : Nat} (h1 : upI R z ≤ k) (h2 : k ≤ R.length) (h : ∀ j (hj : j < R.length), upI R z ≤ j → j < k → ¬ (R[j].1 < z' ∧ z < R[j].2)) : ((R.drop (upI R z)).take (k - upI R z)).any (hits z z') = false := by
  rw [List.any_eq_false]
  intro r hr
  obtain ⟨j, hj, rfl⟩ := List.getElem_of_mem hr
  rw [List.length_take, List.length_drop] at hj
  rw [List.getElem_take, List.getElem_drop]
  have := h (upI R z + j) (by omega) (by omega) (by omega)
  simpa [hits] using this
/-- One that is hit, and begins in time: nothing is given. -/
theorem any_yes {R : List Run} {z z' : Int} {k : Nat} (h1 : upI R z ≤ k) (h2 : k < R.length) (h3 : ∀ j (hj : j < R.length), upI R z ≤ j → j ≤ k → R[j].1 ≤ z') (h : R[k].1 < z' ∧ z < R[k].2) : ((R.drop (upI R z)).take (nextTo R z z')).any (hits z z') = true := by
  have hm : k - upI R z < nextTo R z z' := by
    unfold nextTo
    by_cases hlt : k - upI R z < ((R.drop (upI R z)).takeWhile (begins z')).length
    · exact hlt
    · exfalso
      have hp := List.takeWhile_append_dropWhile (p := begins z') (l := R.drop (upI R z))
      generalize hT : (R.drop (upI R z)).takeWhile (begins z') = T at hlt hp
      generalize hD : (R.drop (upI R z)).dropWhile (begins z') = D at hp
      have hne : D ≠ [] := by
        intro h0
        rw [h0, List.append_nil] at hp
        have := congrArg List.length hp
        rw [List.length_drop] at this
        omega
      have hd := List.head_dropWhile_not (begins z') (by rw [hD]; exact hne : (R.drop (upI R z)).dropWhile (begins z') ≠ [])
      have hx : (R.drop (upI R z))[T.length]? = some (D.head hne) := by
        rw [← hp, List.getElem?_append_right (Nat.le_refl _), Nat.sub_self, List.head?_eq_getElem?.symm, List.head?_eq_some_head hne]
      rw [List.getElem?_drop] at hx
      obtain ⟨hl, hx⟩ := List.getElem?_eq_some_iff.1 hx
      have := h3 _ hl (by omega) (by omega)
      rw [hx] at this
      simp only [hD] at hd
      have hb : begins z' (D.head hne) = true := decide_eq_true this
      rw [hb] at hd
      simp at hd
  rw [List.any_eq_true]
  refine ⟨R[k], ?_, by simpa [hits] using h⟩
  rw [List.mem_take_iff_getElem]
  refine ⟨k - upI R z, by rw [List.length_drop]; omega, ?_⟩
  rw [List.getElem_drop]
  have e : upI R z + (k - upI R z) = k := by omega
  simp only [e]
end Go.Proofs.Ytpjlhkepdiajjaa


/- The first of which something holds. -/
import Derived.Test.YtalndcjbnedigaaBase
set_option linter.all false
namespace Go.Proofs.Ytalndcjbnedigaa

/-- The first of which something holds; -1: none. -/
def idxP {α : Type} (p : α → Bool) (l : List α) : Int := match l.findIdx? p with | some i => (i : Int) | none => -1
theorem idxP_hit {α : Type} {p : α → Bool} {l : List α} {k : Nat} (hk : k < l.length) (h : p l[k] = true) (hn : ∀ j (hj : j < l.length), j < k → p l[j] = false) : idxP p l = (k : Int) := by
  have : l.findIdx? p = some k := by
    rw [List.findIdx?_eq_some_iff_getElem]
    exact ⟨hk, h, fun j hj => by simp [hn j (by omega) hj]⟩
  simp [idxP, this]
theorem idxP_miss {α : Type} {p : α → Bool} {l : List α} (hn : ∀ j (hj : j < l.length), p l[j] = false) : idxP p l = -1 := by
  have : l.findIdx? p = none := by
    rw [List.findIdx?_eq_none_iff]
    intro x hx
    obtain ⟨j, hj, rfl⟩ := List.getElem_of_mem hx
    exact hn j hj
  simp [idxP, this]
theorem idxP_any {α : Type} {p : α → Bool} {l : List α} : decide (idxP p l ≥ 0) = l.any p := by
  unfold idxP
  cases h : l.findIdx? p with
  | none =>
    rw [List.findIdx?_eq_none_iff] at h
    have : l.any p = false := by rw [List.any_eq_false]; exact fun x hx => by simpa using h x hx
    rw [this]; rfl
  | some i =>
    rw [List.findIdx?_eq_some_iff_getElem] at h
    obtain ⟨hi, hp, -⟩ := h
    have : l.any p = true := List.any_eq_true.2 ⟨l[i], List.getElem_mem hi, hp⟩
    rw [this]
    exact decide_eq_true (by simp)
theorem idxP_small {α : Type} {p : α → Bool} {l : List α} : -1 ≤ idxP p l ∧ idxP p l ≤ l.length := by
  unfold idxP
  cases h : l.findIdx? p with
  | none => simp
  | some i =>
    rw [List.findIdx?_eq_some_iff_getElem] at h
    obtain ⟨hi, -⟩ := h
    simp only
    omega
end Go.Proofs.Ytalndcjbnedigaa

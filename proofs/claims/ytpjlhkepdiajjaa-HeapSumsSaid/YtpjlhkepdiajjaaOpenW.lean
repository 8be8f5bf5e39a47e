
/- How rows that came in are opened, with the bounds of their sizes. -/
import Derived.Test.YtpjlhkepdiajjaaSaidKit
import Derived.Test.YtpjlhkepdiajjaaMore
import Derived.SizedLaws
set_option linter.all false
namespace Go.Proofs.Ytpjlhkepdiajjaa
open Go.ChangeShapes Go.WideShapes Go.ChangeAt Go.RowKit Go.Joins

section
variable {H : Type} {enc : TypeId × Value → H} {P : Program} {W : World}
theorem trod_struct6 {t : TypeId} {f0 f1 f2 f3 f4 f5 : Field} {fuel : Nat} {cs : List Value} {x : DataW H × List MemPlace} {base : Nat} {spare : Nat → Bool} {held : Bool} (ht : P.underlying t = some (.struct #[f0, f1, f2, f3, f4, f5])) (h : DataW.trod enc P W base spare held fuel t cs = some x) :
    ∃ y0 y1 y2 y3 y4 y5 n, x.1 = .agg [y0.1, y1.1, y2.1, y3.1, y4.1, y5.1] ∧ cs.length = P.cellsOf t ∧ DataW.trod enc P W base spare held n f0.type ((cs.drop f0.offset).take (P.cellsOf f0.type)) = some y0 ∧
      DataW.trod enc P W base spare held n f1.type ((cs.drop f1.offset).take (P.cellsOf f1.type)) = some y1 ∧ DataW.trod enc P W base spare held n f2.type ((cs.drop f2.offset).take (P.cellsOf f2.type)) = some y2 ∧
      DataW.trod enc P W base spare held n f3.type ((cs.drop f3.offset).take (P.cellsOf f3.type)) = some y3 ∧ DataW.trod enc P W base spare held n f4.type ((cs.drop f4.offset).take (P.cellsOf f4.type)) = some y4 ∧
      DataW.trod enc P W base spare held n f5.type ((cs.drop f5.offset).take (P.cellsOf f5.type)) = some y5 := by
  obtain ⟨xs, n, _, rfl, hl, hlen, hf⟩ := DataW.trod_struct ht h
  match xs, hlen with
  | [y0, y1, y2, y3, y4, y5], _ => exact ⟨y0, y1, y2, y3, y4, y5, n, by simp, hl, by simpa using hf 0 f0 rfl, by simpa using hf 1 f1 rfl, by simpa using hf 2 f2 rfl, by simpa using hf 3 f3 rfl, by simpa using hf 4 f4 rfl, by simpa using hf 5 f5 rfl⟩
theorem weightsAll_mem' {e : TypeId} : ∀ {l : List (DataW H)} {d : DataW H}, d ∈ l → ∀ k ∈ d.weights P e, k ∈ DataW.weightsAll P e l
  | a :: l, d, h, k, hk => by
    simp only [DataW.weightsAll, List.mem_append]
    rcases List.mem_cons.1 h with rfl | h
    · exact .inl hk
    · exact .inr (weightsAll_mem' h k hk)
/-- All that is reached is of a size that memory may have. -/
def Wt (P : Program) (t : TypeId) (d : DataW H) : Prop := ∀ k ∈ d.weights P t, k ≤ reachBytes
/-- A slice, wherever it lies, as it came in. -/
theorem trod_row' {α : Type} [Inhabited α] (f : α → List Value) (p : α → Prop) {s : Nat} (hf : ∀ x, (f x).length = s) (hs : 0 < s) {t e : TypeId} {n : Nat} {cs : List Value} {y : DataW H × List MemPlace} (ht : P.underlying t = some (.slice e)) (hc : P.cellsOf e = s)
    (hel : ∀ n cs y, cs.length = s → DataW.trod enc P W 0 (fun _ => true) true n e cs = some y → Wt P e y.1 → ∃ x, cs = f x ∧ p x)
    (h : DataW.trod enc P W 0 (fun _ => true) true n t cs = some y) (hw : Wt P t y.1) :
    ∃ (A : Option Addr) (c : Nat) (l : List α), cs = [.slice A l.length c] ∧ l.length ≤ c ∧ c ≤ maxLen ∧ c * P.bytesOf e ≤ reachBytes ∧ Arr W A (l.flatMap f) ∧ (∀ x ∈ l, p x) ∧ (A = none → c = 0) := by
  rcases Go.Deep.open_slice ht h with ⟨hcs, _⟩ | ⟨a, len, cap, m, k, D, Pl, hcs, _, hl, hm, hmm, hy, hi⟩
  · exact ⟨none, 0, [], hcs, Nat.le_refl _, by simp [maxLen], by simp, .inl rfl, by simp, fun _ => rfl⟩
  · rw [hc] at hi
    simp only [if_true] at hmm
    subst hmm
    have hwt : y.1 = .slice ((List.range len).map D) ((List.range (m - len)).map fun j => D (len + j)) := by rw [hy]
    have hw1 : m * P.bytesOf e ≤ reachBytes := by
      refine hw _ ?_
      rw [hwt]
      simp only [DataW.weights, ht, List.mem_cons, List.length_map, List.length_range]
      left
      congr 1
      omega
    obtain ⟨F, hF⟩ := Go.Deep.choose_lt (n := len) (p := fun i x => W.cells? 0 (a.add (i * s)) s = some (f x) ∧ p x) (fun i hin => by
      obtain ⟨cs', h1, h2⟩ := hi i (by omega)
      obtain ⟨x, rfl, hx⟩ := hel _ _ _ (World.cells?_some h1).2.1 h2 (fun q hq => hw q (by
        rw [hwt]
        simp only [DataW.weights, ht, List.mem_cons, List.mem_append]
        exact .inr (.inl (weightsAll_mem' (List.mem_map.2 ⟨i, List.mem_range.2 hin, rfl⟩) q hq))))
      exact ⟨x, h1, hx⟩)
    refine ⟨some a, m, (List.range len).map F, by simpa using hcs, by simpa using hl, hm, hw1, ?_, (by simpa using fun i hin => (hF i hin).2), fun h => by cases h⟩
    by_cases h0 : len = 0
    · subst h0; exact .inl rfl
    · obtain ⟨b, o, spot⟩ := a
      have hc0 := (World.cells?_some (hF 0 (by omega)).1).2.2 0 (by omega)
      have hspot : spot = none := by
        rw [List.getElem?_eq_getElem (by rw [hf]; omega)] at hc0
        simpa [Addr.add] using World.cell?_spot hc0
      subst hspot
      refine arr_flat hf hs fun i hin q hq => ?_
      have hin' : i < len := by simpa using hin
      have := (World.cells?_some (hF i hin').1).2.2 q hq
      rw [add_none, add_none] at this
      rw [← Nat.add_assoc, this]
      simp
/-- A slice, wherever it lies, as it came in. -/
theorem trod_row {α : Type} [Inhabited α] (f : α → List Value) (p : α → Prop) {s : Nat} (hf : ∀ x, (f x).length = s) (hs : 0 < s) {t e : TypeId} {n : Nat} {cs : List Value} {y : DataW H × List MemPlace} (ht : P.underlying t = some (.slice e)) (hc : P.cellsOf e = s)
    (hel : ∀ n cs y, cs.length = s → DataW.trod enc P W 0 (fun _ => true) true n e cs = some y → Wt P e y.1 → ∃ x, cs = f x ∧ p x)
    (h : DataW.trod enc P W 0 (fun _ => true) true n t cs = some y) (hw : Wt P t y.1) :
    ∃ (A : Option Addr) (c : Nat) (l : List α), cs = [.slice A l.length c] ∧ l.length ≤ c ∧ c ≤ maxLen ∧ c * P.bytesOf e ≤ reachBytes ∧ Arr W A (l.flatMap f) ∧ ∀ x ∈ l, p x := by
  obtain ⟨A, c, l, h1, h2, h3, h4, h5, h6, -⟩ := trod_row' f p hf hs ht hc hel h hw
  exact ⟨A, c, l, h1, h2, h3, h4, h5, h6⟩
end
/-- Room is less than a slice's bytes. -/
theorem reach_le {c b : Nat} (h : c * b ≤ reachBytes) (hb : 16 ≤ b) : c ≤ 8796093021952 := by
  unfold reachBytes at h
  have := Nat.mul_le_mul_left c hb
  omega
end Go.Proofs.Ytpjlhkepdiajjaa

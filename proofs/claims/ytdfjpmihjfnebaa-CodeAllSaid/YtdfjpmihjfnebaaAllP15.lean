/- Plain laws on bytes of instructions, one behind the other. -/
import Derived.Test.YtdfjpmihjfnebaaPlain15
import Derived.Test.YtdfjpmihjfnebaaCodeD
import Derived.Test.YtdfjpmihjfnebaaRef15D
import Derived.Test.YtdfjpmihjfnebaaTells15
import Derived.Test.YtdfjpmihjfnebaaMore
set_option linter.all false
namespace Go.Proofs.Ytdfjpmihjfnebaa
open Go.RowKit

/-- The bytes of instructions. -/
def putAll (l : List Ins) : List Int := l.flatMap putI
/-- The right ones. -/
def rights (l : List Ins) : List Ins := l.filter rightI

theorem putAll_rights (l : List Ins) : putAll l = putAll (rights l) := by
  induction l with
  | nil => rfl
  | cons x l ih =>
    unfold putAll rights at *
    rw [List.flatMap_cons, List.filter_cons, ih]
    cases h : rightI x with
    | true => simp
    | false =>
      have : putI x = [] := List.eq_nil_of_length_eq_zero (by rw [put_length, h]; rfl)
      simp [this]
theorem rights_mem {l : List Ins} : ∀ x ∈ rights l, rightI x = true := fun x hx => (List.mem_filter.1 hx).2
theorem putAll_bytes (l : List Ins) : ∀ y ∈ putAll l, 0 ≤ y ∧ y < 256 := fun y hy => by
  obtain ⟨x, -, hx⟩ := List.mem_flatMap.1 hy
  exact put_bytes x y hx
theorem putAll_len {l : List Ins} (h : ∀ x ∈ l, rightI x = true) : (putAll l).length = 4 * l.length := by
  induction l with
  | nil => rfl
  | cons x l ih =>
    have := ih fun y hy => h y (List.mem_cons_of_mem _ hy)
    unfold putAll at *
    rw [List.flatMap_cons, List.length_append, put_length, h x (List.mem_cons_self), this]
    simp
    omega
theorem rights_len (l : List Ins) : (rights l).length ≤ l.length := List.length_filter_le ..
theorem putAll_le (l : List Ins) : (putAll l).length ≤ 4 * l.length := by
  rw [putAll_rights, putAll_len rights_mem]
  have := rights_len l
  omega
theorem chunk_zero (l : List Int) : chunkL l 0 = l.take 4 := by simp [chunkL]
theorem chunk_succ {p l : List Int} (hp : p.length = 4) (i : Nat) : chunkL (p ++ l) (i + 1) = chunkL l i := by
  unfold chunkL
  rw [show 4 * (i + 1) = p.length + 4 * i by omega, List.drop_append, List.drop_eq_nil_of_le (by omega), show p.length + 4 * i - p.length = 4 * i by omega, List.nil_append]
theorem chunk_put {l : List Ins} (h : ∀ x ∈ l, rightI x = true) (m : List Int) {i : Nat} (hi : i < l.length) : chunkL (putAll l ++ m) i = putI l[i] := by
  induction l generalizing i with
  | nil => simp at hi
  | cons x l ih =>
    have hx : (putI x).length = 4 := by rw [put_length, h x (List.mem_cons_self)]; rfl
    have e : putAll (x :: l) ++ m = putI x ++ (putAll l ++ m) := by simp [putAll]
    rw [e]
    cases i with
    | zero => rw [chunk_zero, List.take_append_of_le_length (by omega), List.take_of_length_le (by omega)]; rfl
    | succ i =>
      rw [chunk_succ hx, ih (fun y hy => h y (List.mem_cons_of_mem _ hy)) (by simpa using hi)]
      rfl
theorem chunk_next {l : List Ins} (h : ∀ x ∈ l, rightI x = true) (m : List Int) : chunkL (putAll l ++ m) l.length = m.take 4 := by
  unfold chunkL
  rw [show 4 * l.length = (putAll l).length by rw [putAll_len h], List.drop_append_of_le_length (Nat.le_refl _)]
  simp
/-- Of bytes of right ones these are got, and all is well. -/
theorem allS_put {l : List Ins} (h : ∀ x ∈ l, rightI x = true) : allS (putAll l) = (l, (((putAll l).length : Nat) : Int), 0) := by
  have hn := putAll_len h
  have hk : ((putAll l).length + 3) / 4 = l.length := by omega
  have hc : ∀ i (hi : i < l.length), getI (chunkL (putAll l) i) = (l[i], 0) := fun i hi => by
    have := chunk_put h [] hi
    rw [List.append_nil] at this
    rw [this, get_put (h _ (List.getElem_mem hi))]
  rw [allS_ok (by rw [hk]; intro i hi; rw [hc i (by simpa using hi)]), hk, hn]
  congr 1
  apply List.ext_getElem (by simp)
  intro i h1 h2
  simp [hc i h2]
/-- Behind right ones something that is none: where it is, and what is wrong. -/
theorem allS_bad {l : List Ins} (h : ∀ x ∈ l, rightI x = true) {m : List Int} (hm : m ≠ []) (hb : (getI (m.take 4)).2 ≠ 0) : allS (putAll l ++ m) = ([], ((4 * l.length : Nat) : Int), (getI (m.take 4)).2) := by
  have hn := putAll_len h
  have hpos : 0 < m.length := List.length_pos_iff.2 hm
  have hN : l.length < ((putAll l ++ m).length + 3) / 4 := by rw [List.length_append, hn]; omega
  have hp : List.range l.length ++ [l.length] <+: List.range (((putAll l ++ m).length + 3) / 4) := by
    rw [← List.range_succ]
    exact range_prefix (by omega)
  have e := allS_no hp (fun i hi => by
    have hi' : i < l.length := by simpa using hi
    rw [chunk_put h m hi', get_put (h _ (List.getElem_mem hi'))]) (by rw [chunk_next h]; exact hb)
  rw [e, chunk_next h, List.length_range]
theorem putAll_append (l m : List Ins) : putAll (l ++ m) = putAll l ++ putAll m := by simp [putAll]
theorem putAll_take {l : List Ins} (h : ∀ x ∈ l, rightI x = true) (k : Nat) : (putAll l).take (4 * k) = putAll (l.take k) := by
  have h1 : putAll l = putAll (l.take k) ++ putAll (l.drop k) := by rw [← putAll_append, List.take_append_drop]
  by_cases hk : k ≤ l.length
  · have h2 := putAll_len (l := l.take k) fun x hx => h x (List.mem_of_mem_take hx)
    rw [List.length_take, Nat.min_eq_left hk] at h2
    rw [h1, List.take_append_of_le_length (by omega), List.take_of_length_le (by omega)]
  · rw [List.take_of_length_le (by omega : l.length ≤ k), List.take_of_length_le]
    rw [putAll_len h]; omega
theorem flat_insCells_len (l : List Ins) : (insCells l).length = l.length * 4 := flat_length _ 4 (fun _ => rfl) l
theorem rights_succ {l : List Ins} {j : Nat} (hj : j < l.length) : rights (l.take (j + 1)) = rights (l.take j) ++ if rightI l[j] then [l[j]] else [] := by
  unfold rights
  rw [List.take_add_one, List.getElem?_eq_getElem hj, List.filter_append]
  congr 1
  simp only [Option.toList_some, List.filter_cons, List.filter_nil]
theorem putAll_succ {l : List Ins} {j : Nat} (hj : j < l.length) : putAll (l.take (j + 1)) = putAll (l.take j) ++ putI l[j] := by
  unfold putAll
  rw [List.take_add_one, List.getElem?_eq_getElem hj, List.flatMap_append]
  simp
end Go.Proofs.Ytdfjpmihjfnebaa

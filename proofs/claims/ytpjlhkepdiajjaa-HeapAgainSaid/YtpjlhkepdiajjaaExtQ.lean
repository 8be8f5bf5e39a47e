
/- Plain laws on lists of runs: how many are free. -/
import Derived.Test.YtpjlhkepdiajjaaExtP
set_option linter.all false
namespace Go.Proofs.Ytpjlhkepdiajjaa

theorem sumR_cons (r : Run) (R : List Run) : sumR (r :: R) = (r.2 - r.1) + sumR R := by simp [sumR]
theorem sumR_nil : sumR [] = 0 := rfl
theorem sumR_append (R S : List Run) : sumR (R ++ S) = sumR R + sumR S := by
  unfold sumR
  rw [List.map_append, List.sum_append]
/-- So many less are free. -/
theorem take_sum {R : List Run} {n : Int} (ht : (takeR R n).2.2 = true) : sumR (takeR R n).1 = sumR R - n := by
  unfold takeR at ht ⊢
  split at ht
  · simp at ht
  · rename_i hn
    rw [if_neg hn]
    split at ht
    · simp at ht
    · rename_i i hi
      simp only [hi]
      obtain ⟨hlt, -, -⟩ := List.findIdx?_eq_some_iff_getElem.1 hi
      rw [getD_at hlt]
      have e : sumR R = sumR (R.take i) + ((R[i].2 - R[i].1) + sumR (R.drop (i + 1))) := by
        conv => lhs; rw [split_at hlt]
        rw [sumR_append, sumR_cons]
      split
      · rename_i he
        rw [erase_at, sumR_append, e]
        omega
      · rw [set_at hlt, sumR_append, sumR_cons, e]
        simp only
        omega
/-- So many more are free. -/
theorem give_sum {a b : Int} {R : List Run} (h : WF a b R) {z n : Int} (hg : (giveR a b R z n).2 = true) : sumR (giveR a b R z n).1 = sumR R + n := by
  obtain ⟨⟨n1, n2, n3, n4, n5, n6⟩, hh, e⟩ := give_yes hg
  obtain ⟨A, T, B, x, hA, hT, hB, hx, hR, pA, pT, pB, x1, x2, x3, x4, x5⟩ := give_parts h z (z + n) (by omega)
  rw [← hT, List.any_eq_false] at hh
  have mT : ∀ r ∈ T, r ∈ R := fun r hr => by rw [hR]; exact List.mem_append_right _ (List.mem_append_left _ hr)
  have hw : ∀ r ∈ T, r.1 < r.2 ∧ (r.1 = z + n ∨ r.2 = z) := fun r hr => by
    have h1 := (h.2 r (mT r hr)).2.1
    have h2 := hh r hr
    have h3 := pT r hr
    simp [hits] at h2
    omega
  have hp : T.Pairwise (fun r s => r.2 < s.1) := by
    have hp := h.1
    rw [hR, List.pairwise_append, List.pairwise_append] at hp
    exact hp.2.1.1
  have hX : sumR [x] = sumR T + n := by
    rw [sumR_cons, sumR_nil]
    match T, pT, x3, x4, x5, hw, hp with
    | [], _, _, x4, x5, _, _ =>
      rcases x4 with x4 | ⟨_, hr, _⟩
      · rcases x5 with x5 | ⟨_, hr, _⟩
        · rw [sumR_nil]; omega
        · cases hr
      · cases hr
    | [r], pT, x3, x4, x5, hw, _ =>
      have w1 := hw r (by simp)
      have w2 := pT r (by simp)
      have w3 := x3 r (by simp)
      simp only [List.mem_singleton, exists_eq_left] at x4 x5
      rw [sumR_cons, sumR_nil]
      omega
    | [r, s], pT, x3, x4, x5, hw, hp =>
      have w1 := hw r (by simp)
      have w2 := pT r (by simp)
      have w3 := x3 r (by simp)
      have v1 := hw s (by simp)
      have v2 := pT s (by simp)
      have v3 := x3 s (by simp)
      have q : r.2 < s.1 := by simpa using hp
      simp only [List.mem_cons, List.not_mem_nil, or_false, exists_eq_or_imp, exists_eq_left] at x4 x5
      rw [sumR_cons, sumR_cons, sumR_nil]
      omega
    | r :: s :: t :: T', pT, _, _, _, hw, hp =>
      exfalso
      have w2 := pT r (by simp)
      have v1 := hw s (by simp)
      have t2 := pT t (by simp)
      rw [List.pairwise_cons, List.pairwise_cons] at hp
      have q1 := hp.1 s (by simp)
      have q2 := hp.2.1 t (by simp)
      omega
  rw [e, ← hA, ← hB, ← hx, sumR_append, sumR_append, hX]
  conv => rhs; rw [hR, sumR_append, sumR_append]
  omega

theorem most_iff {R : List Run} {n : Int} (hn : 0 < n) : n ≤ mostR R ↔ ∃ r ∈ R, n ≤ r.2 - r.1 := by
  unfold mostR
  have key : ∀ (R : List Run) (m : Int), n ≤ R.foldl (fun n r => max n (r.2 - r.1)) m ↔ n ≤ m ∨ ∃ r ∈ R, n ≤ r.2 - r.1 := by
    intro R
    induction R with
    | nil => intro m; simp
    | cons r R ih =>
      intro m
      have hmax : n ≤ max m (r.2 - r.1) ↔ n ≤ m ∨ n ≤ r.2 - r.1 := by rw [Int.max_def]; split <;> omega
      rw [List.foldl_cons, ih, hmax]
      simp only [List.mem_cons, exists_eq_or_imp]
      exact or_assoc
  rw [key]
  constructor
  · rintro (h | h)
    · omega
    · exact h
  · exact .inr
/-- So many are taken just if so many are free together. -/
theorem take_iff {R : List Run} {n : Int} (h1 : 1 ≤ n) (h2 : n % 16 = 0) : (takeR R n).2.2 = true ↔ n ≤ mostR R := by
  rw [most_iff (by omega)]
  unfold takeR
  rw [if_neg (by omega)]
  cases hf : R.findIdx? (fitsR n) with
  | none =>
    have := List.findIdx?_eq_none_iff.1 hf
    simp only [Bool.false_eq_true, false_iff]
    rintro ⟨r, hr, h⟩
    have := this r hr
    simp [fitsR] at this
    omega
  | some i =>
    obtain ⟨hlt, hfi, -⟩ := List.findIdx?_eq_some_iff_getElem.1 hf
    simp only [true_iff]
    exact ⟨R[i], List.getElem_mem hlt, by simpa [fitsR] using hfi⟩
/-- Of the first run that has them. -/
theorem take_first {R : List Run} {n : Int} (h1 : 1 ≤ n) (h2 : n % 16 = 0) {i : Nat} (hi : i < R.length) (hf : n ≤ R[i].2 - R[i].1) (hn : ∀ j (hj : j < R.length), j < i → ¬ n ≤ R[j].2 - R[j].1) : (takeR R n).2.1 = R[i].1 ∧ (takeR R n).2.2 = true := by
  have e : R.findIdx? (fitsR n) = some i := by
    rw [List.findIdx?_eq_some_iff_getElem]
    exact ⟨hi, decide_eq_true hf, fun j hj => by have := hn j (by omega) hj; simp [fitsR]; omega⟩
  unfold takeR
  rw [if_neg (by omega), e]
  simp only [getD_at hi, and_self]
theorem give_len {a b : Int} {R : List Run} (h : WF a b R) (ha : a ≤ b) (h0 : 0 ≤ a) (hb : b ≤ 16777216) (z n : Int) : (giveR a b R z n).1.length ≤ 2000000 := by
  have := wf_len (wf_give h z n) ha
  omega
theorem wf_start {a b : Int} (h : mayBe a b) : WF a b (startR a b) := by
  obtain ⟨h1, h2, h3, h4, h5⟩ := h
  unfold startR
  split
  · exact ⟨by simp, fun r hr => by simp only [List.mem_singleton] at hr; subst hr; exact ⟨Int.le_refl _, by assumption, Int.le_refl _, h1, h2⟩⟩
  · exact ⟨List.Pairwise.nil, fun r hr => by cases hr⟩
end Go.Proofs.Ytpjlhkepdiajjaa

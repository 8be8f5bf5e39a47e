/- Plain laws: a memory told granule by granule, and the same by its runs: no program in sight. -/
import Derived.Test.YtipnkjegiiphnaaExtQ
set_option linter.all false
namespace Go.Proofs.Ytipnkjegiiphnaa

/-- Granule by granule, and by runs. -/
structure Rep (a : Int) (F : List Bool) (R : List Run) : Prop where
  a16 : a % 16 = 0
  wf : WF a (a + 16 * F.length) R
  at' : ∀ i (hi : i < F.length), F[i] = true ↔ inR R (a + 16 * i)

/-- How far a look for runs has come. -/
structure Seen (a : Int) (R : List Run) (i m : Nat) : Prop where
  le : m ≤ R.length
  before : ∀ j (hj : j < R.length), j < m → R[j].2 < a + 16 * i
  behind : ∀ j (hj : j < R.length), m ≤ j → a + 16 * i ≤ R[j].1
theorem seen_start {a : Int} {F : List Bool} {R : List Run} (h : Rep a F R) : Seen a R 0 0 :=
  ⟨Nat.zero_le _, fun j _ h => by omega, fun j hj _ => by have := (h.wf.2 R[j] (List.getElem_mem hj)).1; omega⟩
theorem seen_skip {a : Int} {F : List Bool} {R : List Run} (h : Rep a F R) {i m : Nat} (hs : Seen a R i m) (hi : i < F.length) (hf : F[i] = false) : Seen a R (i + 1) m := by
  refine ⟨hs.le, fun j hj hm => by have := hs.before j hj hm; omega, fun j hj hm => ?_⟩
  have h1 := hs.behind j hj hm
  obtain ⟨w1, w2, w3, w4, w5⟩ := h.wf.2 R[j] (List.getElem_mem hj)
  have hne : R[j].1 ≠ a + 16 * i := fun e => by
    have := (h.at' i hi).2 ⟨R[j], List.getElem_mem hj, by omega, by omega⟩
    rw [hf] at this
    cases this
  have := h.a16
  omega
theorem seen_run {a : Int} {F : List Bool} {R : List Run} (h : Rep a F R) {i m : Nat} (hs : Seen a R i m) (hi : i < F.length) (hf : F[i] = true) : ∃ hm : m < R.length, R[m].1 = a + 16 * i := by
  obtain ⟨r, hr, h1, h2⟩ := (h.at' i hi).1 hf
  obtain ⟨j, hj, rfl⟩ := List.getElem_of_mem hr
  have hmj : m ≤ j := by
    rcases Nat.lt_or_ge j m with h' | h'
    · have := hs.before j hj h'; omega
    · exact h'
  have hj1 := hs.behind j hj hmj
  have hm : m < R.length := by omega
  refine ⟨hm, ?_⟩
  have hm1 := hs.behind m hm (Nat.le_refl _)
  rcases Nat.lt_or_eq_of_le hmj with h' | rfl
  · have := List.pairwise_iff_getElem.1 h.wf.1 m j hm hj h'
    have := (h.wf.2 R[m] (List.getElem_mem hm)).2.1
    omega
  · omega
/-- Within a run. -/
theorem run_on {a : Int} {F : List Bool} {R : List Run} (h : Rep a F R) {m k : Nat} (hm : m < R.length) (h1 : R[m].1 ≤ a + 16 * k) (h2 : a + 16 * k ≤ R[m].2) (hk : k < F.length) : (F[k] = true → a + 16 * ((k + 1 : Nat) : Int) ≤ R[m].2) ∧ (F[k] = false → R[m].2 = a + 16 * k) := by
  obtain ⟨w1, w2, w3, w4, w5⟩ := h.wf.2 R[m] (List.getElem_mem hm)
  have ha := h.a16
  constructor
  · intro hf
    obtain ⟨r, hr, r1, r2⟩ := (h.at' k hk).1 hf
    obtain ⟨j, hj, rfl⟩ := List.getElem_of_mem hr
    rcases Nat.lt_trichotomy j m with hjm | rfl | hjm
    · have := List.pairwise_iff_getElem.1 h.wf.1 j m hj hm hjm
      omega
    · omega
    · have := List.pairwise_iff_getElem.1 h.wf.1 m j hm hj hjm
      omega
  · intro hf
    rcases Int.lt_or_le (a + 16 * k) R[m].2 with hlt | hle
    · have := (h.at' k hk).2 ⟨R[m], List.getElem_mem hm, h1, hlt⟩
      rw [hf] at this
      cases this
    · omega
theorem run_end {a : Int} {F : List Bool} {R : List Run} (h : Rep a F R) {m k : Nat} (hm : m < R.length) (h2 : a + 16 * k ≤ R[m].2) (hk : k = F.length) : R[m].2 = a + 16 * k := by
  have := (h.wf.2 R[m] (List.getElem_mem hm)).2.2.1
  subst hk
  omega
theorem seen_took {a : Int} {F : List Bool} {R : List Run} (h : Rep a F R) {i m k : Nat} (hs : Seen a R i m) (hm : m < R.length) (he : R[m].2 = a + 16 * k) (hik : i ≤ k) : Seen a R (k + 1) (m + 1) := by
  refine ⟨hm, fun j hj hjm => ?_, fun j hj hjm => ?_⟩
  · rcases Nat.lt_or_eq_of_le (Nat.le_of_lt_succ hjm) with h' | rfl
    · have := hs.before j hj h'; omega
    · omega
  · have := List.pairwise_iff_getElem.1 h.wf.1 m j hm hj hjm
    obtain ⟨w1, w2, w3, w4, w5⟩ := h.wf.2 R[j] (List.getElem_mem hj)
    have ha := h.a16
    omega
theorem seen_end {a : Int} {F : List Bool} {R : List Run} (h : Rep a F R) {i m : Nat} (hs : Seen a R i m) (hi : F.length ≤ i) : m = R.length := by
  rcases Nat.lt_or_eq_of_le hs.le with hm | hm
  · have h1 := hs.behind m hm (Nat.le_refl _)
    obtain ⟨w1, w2, w3, -⟩ := h.wf.2 R[m] (List.getElem_mem hm)
    omega
  · exact hm

/-! ### how much -/
def cntF (F : List Bool) : Int := 16 * (F.count true : Int)
theorem rep_cons {a : Int} {b : Bool} {F : List Bool} {R R' : List Run} (h : Rep a (b :: F) R) (hw : WF (a + 16) (a + 16 + 16 * F.length) R') (hR : ∀ y, a + 16 ≤ y → (inR R y ↔ inR R' y)) : Rep (a + 16) F R' := by
  refine ⟨by have := h.a16; omega, hw, fun i hi => ?_⟩
  have := h.at' (i + 1) (by simpa using hi)
  rw [List.getElem_cons_succ, show a + 16 * ((i + 1 : Nat) : Int) = a + 16 + 16 * (i : Int) by omega] at this
  rw [this, hR _ (by omega)]
theorem cnt_sum : ∀ {F : List Bool} {a : Int} {R : List Run}, Rep a F R → cntF F = sumR R
  | [], a, R, h => by
    cases R with
    | nil => rfl
    | cons r R =>
      obtain ⟨w1, w2, w3, -⟩ := h.wf.2 r (List.mem_cons_self)
      simp at w3
      omega
  | b :: F, a, R, h => by
    have ha := h.a16
    have hb := h.at' 0 (by simp)
    have hlen : a + 16 * (((b :: F).length : Nat) : Int) = a + 16 + 16 * (F.length : Int) := by simp; omega
    have hwf := h.wf
    rw [hlen] at hwf
    cases R with
    | nil =>
      cases b with
      | true => obtain ⟨r, hr, -⟩ := hb.1 rfl; cases hr
      | false =>
        have := cnt_sum (rep_cons h (R' := []) ⟨List.Pairwise.nil, by simp⟩ (fun _ _ => Iff.rfl))
        simpa [cntF] using this
    | cons r R =>
      obtain ⟨p1, p2⟩ := List.pairwise_cons.1 hwf.1
      obtain ⟨w1, w2, w3, w4, w5⟩ := hwf.2 r (List.mem_cons_self)
      have hin : ∀ s ∈ R, a + 16 ≤ s.1 ∧ s.1 < s.2 ∧ s.2 ≤ a + 16 + 16 * F.length ∧ s.1 % 16 = 0 ∧ s.2 % 16 = 0 := fun s hs => by
        obtain ⟨v1, v2, v3, v4, v5⟩ := hwf.2 s (List.mem_cons_of_mem _ hs)
        have := p1 s hs
        exact ⟨by omega, v2, v3, v4, v5⟩
      cases b with
      | false =>
        have hr1 : a + 16 ≤ r.1 := by
          rcases Int.lt_or_le a r.1 with h' | h'
          · omega
          · have := hb.2 ⟨r, List.mem_cons_self, by omega, by omega⟩
            simp at this
        have hw' : WF (a + 16) (a + 16 + 16 * F.length) (r :: R) := ⟨hwf.1, fun s hs => by
          rcases List.mem_cons.1 hs with rfl | hs
          · exact ⟨hr1, w2, w3, w4, w5⟩
          · exact hin s hs⟩
        have := cnt_sum (rep_cons h hw' (fun _ _ => Iff.rfl))
        simpa [cntF] using this
      | true =>
        have hr1 : r.1 = a := by
          obtain ⟨s, hs, s1, s2⟩ := hb.1 rfl
          rcases List.mem_cons.1 hs with rfl | hs
          · omega
          · have := (hin s hs).1; omega
        have hcount : cntF (true :: F) = 16 + cntF F := by simp [cntF]; omega
        rw [hcount, sumR_cons]
        by_cases hr2 : r.2 = a + 16
        · have hw' : WF (a + 16) (a + 16 + 16 * F.length) R := ⟨p2, hin⟩
          have := cnt_sum (rep_cons h hw' (fun y hy => ⟨fun ⟨s, hs, s1, s2⟩ => by
            rcases List.mem_cons.1 hs with rfl | hs
            · omega
            · exact ⟨s, hs, s1, s2⟩, fun ⟨s, hs, s1, s2⟩ => ⟨s, List.mem_cons_of_mem _ hs, s1, s2⟩⟩))
          rw [this]
          omega
        · have hw' : WF (a + 16) (a + 16 + 16 * F.length) ((a + 16, r.2) :: R) := ⟨List.pairwise_cons.2 ⟨p1, p2⟩, fun s hs => by
            rcases List.mem_cons.1 hs with rfl | hs
            · simp only; omega
            · exact hin s hs⟩
          have := cnt_sum (rep_cons h hw' (fun y hy => ⟨fun ⟨s, hs, s1, s2⟩ => by
            rcases List.mem_cons.1 hs with rfl | hs
            · exact ⟨(a + 16, s.2), List.mem_cons_self, hy, s2⟩
            · exact ⟨s, List.mem_cons_of_mem _ hs, s1, s2⟩, fun ⟨s, hs, s1, s2⟩ => by
            rcases List.mem_cons.1 hs with rfl | hs
            · exact ⟨r, List.mem_cons_self, by omega, s2⟩
            · exact ⟨s, List.mem_cons_of_mem _ hs, s1, s2⟩⟩))
          rw [this, sumR_cons]
          simp only
          omega

/-! ### some granules turned -/
def setR (F : List Bool) (s : Nat) (b : Bool) : Nat → List Bool
  | 0 => F
  | k + 1 => (setR F s b k).set (s + k) b
theorem setR_len (F : List Bool) (s : Nat) (b : Bool) (k : Nat) : (setR F s b k).length = F.length := by
  induction k with
  | zero => rfl
  | succ k ih => rw [setR, List.length_set, ih]
theorem setR_get (F : List Bool) (s : Nat) (b : Bool) (k : Nat) (hk : s + k ≤ F.length) (i : Nat) (hi : i < (setR F s b k).length) : (setR F s b k)[i] = if s ≤ i ∧ i < s + k then b else F[i]'(by rw [setR_len] at hi; exact hi) := by
  induction k with
  | zero => rw [if_neg (by omega)]; rfl
  | succ k ih =>
    have hi' : i < (setR F s b k).length := by rw [setR_len]; rw [setR_len] at hi; exact hi
    have := ih (by omega) hi'
    simp only [setR, List.getElem_set, this]
    by_cases h1 : s + k = i
    · rw [if_pos h1, if_pos (by omega)]
    · rw [if_neg h1]
      by_cases h2 : s ≤ i ∧ i < s + k
      · rw [if_pos h2, if_pos (by omega)]
      · rw [if_neg h2, if_neg (by omega)]
theorem rep_take {a : Int} {F : List Bool} {R : List Run} (h : Rep a F R) {n : Int} (ht : (takeR R n).2.2 = true) {s k : Nat} (hs : a + 16 * (s : Int) = (takeR R n).2.1) (hk : 16 * (k : Int) = n) : s + k ≤ F.length ∧ Rep a (setR F s false k) (takeR R n).1 := by
  obtain ⟨n1, n2, ⟨r, hr, hat, hle⟩, hset⟩ := take_set h.wf ht
  obtain ⟨w1, w2, w3, w4, w5⟩ := h.wf.2 r hr
  have hsk : s + k ≤ F.length := by omega
  refine ⟨hsk, h.a16, by rw [setR_len]; exact wf_take h.wf n, fun i hi => ?_⟩
  rw [setR_get F s false k hsk i hi, hset]
  have hi' : i < F.length := by rw [setR_len] at hi; exact hi
  by_cases hc : s ≤ i ∧ i < s + k
  · rw [if_pos hc]
    constructor
    · intro h'; cases h'
    · rintro ⟨-, h'⟩; exact absurd ⟨by omega, by omega⟩ h'
  · rw [if_neg hc, h.at' i hi']
    exact ⟨fun h' => ⟨h', fun h'' => hc (by omega)⟩, fun h' => h'.1⟩
theorem rep_give {a : Int} {F : List Bool} {R : List Run} (h : Rep a F R) {z n : Int} (hm : mayGive a (a + 16 * F.length) z n) {s k : Nat} (hs : a + 16 * (s : Int) = z) (hk : 16 * (k : Int) = n) :
    s + k ≤ F.length ∧ ((giveR a (a + 16 * F.length) R z n).2 = true ↔ ∀ i (_ : i < k) (hi : s + i < F.length), F[s + i] = false) ∧ ((giveR a (a + 16 * F.length) R z n).2 = true → Rep a (setR F s true k) (giveR a (a + 16 * F.length) R z n).1) := by
  obtain ⟨m1, m2, m3, m4, m5, m6⟩ := hm
  have hsk : s + k ≤ F.length := by omega
  have ha := h.a16
  refine ⟨hsk, ?_, fun ht => ⟨ha, by rw [setR_len]; exact wf_give h.wf z n, fun i hi => ?_⟩⟩
  · rw [give_iff h.wf ⟨m1, m2, m3, m4, m5, m6⟩]
    constructor
    · intro hn i hik hi
      cases hf : F[s + i] with
      | false => rfl
      | true => exact absurd ((h.at' (s + i) hi).1 hf) (hn _ (by omega) (by omega))
    · rintro hn y y1 y2 ⟨r, hr, r1, r2⟩
      obtain ⟨w1, w2, w3, w4, w5⟩ := h.wf.2 r hr
      obtain ⟨i, hi⟩ : ∃ i : Nat, a + 16 * ((s + i : Nat) : Int) ≤ y ∧ y < a + 16 * ((s + i : Nat) : Int) + 16 := ⟨((y - z) / 16).toNat, by omega⟩
      have hif : s + i < F.length := by omega
      have := (h.at' (s + i) hif).2 ⟨r, hr, by omega, by omega⟩
      rw [hn i (by omega) hif] at this
      cases this
  · rw [setR_get F s true k hsk i hi, give_set h.wf ht]
    have hi' : i < F.length := by rw [setR_len] at hi; exact hi
    by_cases hc : s ≤ i ∧ i < s + k
    · rw [if_pos hc]
      exact ⟨fun _ => .inr (by omega), fun _ => rfl⟩
    · rw [if_neg hc, h.at' i hi']
      exact ⟨.inl, fun h' => h'.elim id fun h'' => absurd (by omega) hc⟩
theorem rep_start {a b : Int} (hm : mayBe a b) (k : Nat) (hk : 16 * (k : Int) = b - a) : Rep a (List.replicate k true) (startR a b) := by
  obtain ⟨m1, m2, m3, m4, m5⟩ := hm
  have hb : a + 16 * (((List.replicate k true).length : Nat) : Int) = b := by rw [List.length_replicate]; omega
  refine ⟨m1, by rw [hb]; exact wf_start ⟨m1, m2, m3, m4, m5⟩, fun i hi => ?_⟩
  rw [List.length_replicate] at hi
  rw [List.getElem_replicate]
  refine ⟨fun _ => ?_, fun _ => rfl⟩
  unfold startR
  rw [if_pos (by omega)]
  exact ⟨_, List.mem_singleton.2 rfl, by simp only; omega, by simp only; omega⟩
end Go.Proofs.Ytipnkjegiiphnaa


/- Plain laws on what was taken, and is held (from where on, and how many): no program in sight. -/
import Derived.Test.YtpjlhkepdiajjaaExtQ
set_option linter.all false
namespace Go.Proofs.Ytpjlhkepdiajjaa

def inH (h : Run) (y : Int) : Prop := h.1 ≤ y ∧ y < h.1 + h.2
def farH (h s : Run) : Prop := h.1 + h.2 ≤ s.1 ∨ s.1 + s.2 ≤ h.1
/-- What is held: each may be given back, is apart from the others, and from what is free. -/
structure Held (a b : Int) (R : List Run) (H : List Run) : Prop where
  wf : WF a b R
  may : ∀ h ∈ H, mayGive a b h.1 h.2
  far : H.Pairwise farH
  out : ∀ h ∈ H, ∀ y, inH h y → ¬ inR R y

theorem far_of {h s : Run} (h1 : 1 ≤ h.2) (s1 : 1 ≤ s.2) (hn : ∀ y, inH h y → ¬ inH s y) : farH h s := by
  by_cases hc : farH h s
  · exact hc
  · unfold farH at hc
    rcases Int.le_total h.1 s.1 with hl | hl
    · exact absurd (show inH s s.1 from ⟨by omega, by omega⟩) (hn s.1 ⟨by omega, by omega⟩)
    · exact absurd (show inH s h.1 from ⟨by omega, by omega⟩) (hn h.1 ⟨by omega, by omega⟩)
theorem far_symm {h s : Run} (k : farH h s) : farH s h := Or.symm k
theorem far_not {h s : Run} (k : farH h s) {y : Int} (hy : inH h y) : ¬ inH s y := by
  unfold farH inH at *
  omega
theorem far_at {H : List Run} (h : H.Pairwise farH) {j k : Nat} (hj : j < H.length) (hk : k < H.length) (hne : j ≠ k) : farH H[j] H[k] := by
  rcases Nat.lt_or_gt_of_ne hne with hl | hl
  · exact List.pairwise_iff_getElem.1 h j k hj hk hl
  · exact far_symm (List.pairwise_iff_getElem.1 h k j hk hj hl)
theorem take_same {R : List Run} {n : Int} (ht : (takeR R n).2.2 = false) : (takeR R n).1 = R := by
  unfold takeR at ht ⊢
  by_cases hn : n < 1 ∨ n % 16 ≠ 0
  · rw [if_pos hn]
  · rw [if_neg hn] at ht ⊢
    cases hf : R.findIdx? (fitsR n) with
    | none => rfl
    | some i => rw [hf] at ht; cases ht
theorem take_sub {a b : Int} {R : List Run} (h : WF a b R) (n : Int) {y : Int} (hy : inR (takeR R n).1 y) : inR R y := by
  cases ht : (takeR R n).2.2 with
  | false => rw [take_same ht] at hy; exact hy
  | true => exact ((take_set h ht).2.2.2 y).1 hy |>.1
theorem held_nil {a b : Int} {R : List Run} (h : WF a b R) : Held a b R [] := ⟨h, by simp, List.Pairwise.nil, by simp⟩
theorem held_skip {a b : Int} {R H : List Run} (h : Held a b R H) (n : Int) : Held a b (takeR R n).1 H :=
  ⟨wf_take h.wf n, h.may, h.far, fun s hs y hy hr => h.out s hs y hy (take_sub h.wf n hr)⟩
theorem take_may {a b : Int} {R : List Run} (h : WF a b R) {n : Int} (ht : (takeR R n).2.2 = true) : mayGive a b (takeR R n).2.1 n := by
  obtain ⟨n1, n2, ⟨r, hr, hat, hle⟩, -⟩ := take_set h ht
  obtain ⟨w1, w2, w3, w4, w5⟩ := h.2 r hr
  rw [hat]
  exact ⟨w4, n2, n1, w1, by omega, by omega⟩
theorem held_take {a b : Int} {R H : List Run} (h : Held a b R H) {n : Int} (ht : (takeR R n).2.2 = true) : Held a b (takeR R n).1 (H ++ [((takeR R n).2.1, n)]) := by
  obtain ⟨n1, n2, ⟨r, hr, hat, hle⟩, hset⟩ := take_set h.wf ht
  have hm := take_may h.wf ht
  refine ⟨wf_take h.wf n, fun s hs => ?_, ?_, fun s hs y hy hr => ?_⟩
  · rcases List.mem_append.1 hs with hs | hs
    · exact h.may s hs
    · rw [List.mem_singleton] at hs; subst hs; exact hm
  · refine List.pairwise_append.2 ⟨h.far, List.pairwise_singleton _ _, fun s hs t ht' => ?_⟩
    rw [List.mem_singleton] at ht'
    subst ht'
    refine far_of (h.may s hs).2.2.1 n1 fun y hy hz => h.out s hs y hy ⟨r, hr, ?_, ?_⟩
    · have := hz.1; simp only at this; omega
    · have := hz.2; simp only at this; omega
  · rcases List.mem_append.1 hs with hs | hs
    · exact h.out s hs y hy (take_sub h.wf n hr)
    · rw [List.mem_singleton] at hs
      subst hs
      exact ((hset y).1 hr).2 hy

/-- What of what was held was given back. -/
def Gave (a b : Int) (R H : List Run) (S : Nat → Prop) (Q : List Run) : Prop := WF a b Q ∧ ∀ y, inR Q y ↔ inR R y ∨ ∃ (j : Nat) (hj : j < H.length), S j ∧ inH H[j] y
theorem gave_start {a b : Int} {R H : List Run} (h : WF a b R) {S : Nat → Prop} (hS : ∀ j, j < H.length → ¬ S j) : Gave a b R H S R :=
  ⟨h, fun y => ⟨.inl, fun hy => hy.elim id fun ⟨j, hj, hs, _⟩ => absurd hs (hS j hj)⟩⟩
theorem gave_step {a b : Int} {R H Q : List Run} {S : Nat → Prop} (h : Held a b R H) (hG : Gave a b R H S Q) {k : Nat} (hk : k < H.length) (hS : ¬ S k) {S' : Nat → Prop} (hS' : ∀ j, j < H.length → (S' j ↔ S j ∨ j = k)) :
    (giveR a b Q H[k].1 H[k].2).2 = true ∧ Gave a b R H S' (giveR a b Q H[k].1 H[k].2).1 := by
  have hm := h.may H[k] (List.getElem_mem hk)
  have ht : (giveR a b Q H[k].1 H[k].2).2 = true := (give_iff hG.1 hm).2 fun y h1 h2 hr => by
    rcases (hG.2 y).1 hr with hr | ⟨j, hj, hs, hy⟩
    · exact h.out H[k] (List.getElem_mem hk) y ⟨h1, h2⟩ hr
    · have hne : j ≠ k := by rintro rfl; exact hS hs
      exact far_not (far_at h.far hj hk hne) hy ⟨h1, h2⟩
  refine ⟨ht, wf_give hG.1 _ _, fun y => ?_⟩
  rw [give_set hG.1 ht, hG.2]
  constructor
  · rintro ((hr | ⟨j, hj, hs, hy⟩) | ⟨h1, h2⟩)
    · exact .inl hr
    · exact .inr ⟨j, hj, (hS' j hj).2 (.inl hs), hy⟩
    · exact .inr ⟨k, hk, (hS' k hk).2 (.inr rfl), h1, h2⟩
  · rintro (hr | ⟨j, hj, hs, hy⟩)
    · exact .inl (.inl hr)
    · rcases (hS' j hj).1 hs with hs | rfl
      · exact .inl (.inr ⟨j, hj, hs, hy⟩)
      · exact .inr hy
theorem gave_same {a b : Int} {R H Q Q' : List Run} {S S' : Nat → Prop} (h : Gave a b R H S Q) (h' : Gave a b R H S' Q') (hS : ∀ j, j < H.length → (S j ↔ S' j)) : Q = Q' :=
  wf_unique h.1 h'.1 fun y => by
    rw [h.2, h'.2]
    refine or_congr Iff.rfl ⟨fun ⟨j, hj, hs, hy⟩ => ⟨j, hj, (hS j hj).1 hs, hy⟩, fun ⟨j, hj, hs, hy⟩ => ⟨j, hj, (hS j hj).2 hs, hy⟩⟩

/-- What is held may be free again: each all, or not at all; together they are all. -/
structure Mixed (a b : Int) (R H : List Run) : Prop where
  wf : WF a b R
  may : ∀ h ∈ H, mayGive a b h.1 h.2
  far : H.Pairwise farH
  each : ∀ h ∈ H, (∀ y, inH h y → inR R y) ∨ (∀ y, inH h y → ¬ inR R y)
  all : ∀ y, a ≤ y → y < b → inR R y ∨ ∃ h ∈ H, inH h y
theorem mixed_give {a b : Int} {R H : List Run} (h : Mixed a b R H) {k : Nat} (hk : k < H.length) :
    Mixed a b (giveR a b R H[k].1 H[k].2).1 H ∧ (∀ y, inH H[k] y → inR (giveR a b R H[k].1 H[k].2).1 y) ∧ ∀ y, inR R y → inR (giveR a b R H[k].1 H[k].2).1 y := by
  have hkm := List.getElem_mem hk
  have hm := h.may H[k] hkm
  cases hg : (giveR a b R H[k].1 H[k].2).2 with
  | false =>
    rw [give_same hg]
    refine ⟨h, ?_, fun _ hy => hy⟩
    rcases h.each H[k] hkm with he | he
    · exact he
    · have := (give_iff h.wf hm).2 fun y h1 h2 => he y ⟨h1, h2⟩
      rw [hg] at this
      cases this
  | true =>
    have hset := give_set h.wf hg
    refine ⟨⟨wf_give h.wf _ _, h.may, h.far, fun s hs => ?_, fun y h1 h2 => ?_⟩, fun y hy => (hset y).2 (.inr hy), fun y hy => (hset y).2 (.inl hy)⟩
    · obtain ⟨j, hj, rfl⟩ := List.getElem_of_mem hs
      by_cases hjk : j = k
      · subst hjk
        exact .inl fun y hy => (hset y).2 (.inr hy)
      · rcases h.each H[j] hs with he | he
        · exact .inl fun y hy => (hset y).2 (.inl (he y hy))
        · refine .inr fun y hy hr => ?_
          rcases (hset y).1 hr with hr | hr
          · exact he y hy hr
          · exact far_not (far_at h.far hj hk hjk) hy hr
    · rcases h.all y h1 h2 with hr | hr
      · exact .inl ((hset y).2 (.inl hr))
      · exact .inr hr
theorem wf_one {a b : Int} (ha : a < b) (h1 : a % 16 = 0) (h2 : b % 16 = 0) : WF a b [(a, b)] :=
  ⟨by simp, fun r hr => by simp only [List.mem_singleton] at hr; subst hr; exact ⟨Int.le_refl _, ha, Int.le_refl _, h1, h2⟩⟩
theorem inR_in {a b : Int} {R : List Run} (h : WF a b R) {y : Int} (hy : inR R y) : a ≤ y ∧ y < b := by
  obtain ⟨r, hr, h1, h2⟩ := hy
  obtain ⟨w1, w2, w3, -⟩ := h.2 r hr
  omega
theorem mixed_all {a b : Int} {R H : List Run} (h : Mixed a b R H) (ha : a < b) (h1 : a % 16 = 0) (h2 : b % 16 = 0) (hall : ∀ (j : Nat) (hj : j < H.length), ∀ y, inH H[j] y → inR R y) : R = [(a, b)] :=
  wf_unique h.wf (wf_one ha h1 h2) fun y => by
    constructor
    · intro hy
      have := inR_in h.wf hy
      exact ⟨(a, b), List.mem_singleton.2 rfl, this.1, this.2⟩
    · rintro ⟨r, hr, y1, y2⟩
      rw [List.mem_singleton] at hr
      subst hr
      rcases h.all y y1 y2 with hr | ⟨s, hs, hy⟩
      · exact hr
      · obtain ⟨j, hj, rfl⟩ := List.getElem_of_mem hs
        exact hall j hj y hy
theorem mixed_of {a b : Int} {R H : List Run} (h : Held a b R H) (hall : ∀ y, a ≤ y → y < b → inR R y ∨ ∃ h ∈ H, inH h y) : Mixed a b R H :=
  ⟨h.wf, h.may, h.far, fun s hs => .inr (h.out s hs), hall⟩
/-- All is free, or held. -/
def AllIn (a b : Int) (R H : List Run) : Prop := ∀ y, a ≤ y → y < b → inR R y ∨ ∃ h ∈ H, inH h y
theorem all_take {a b : Int} {R H : List Run} (h : WF a b R) (hA : AllIn a b R H) {n : Int} (ht : (takeR R n).2.2 = true) : AllIn a b (takeR R n).1 (H ++ [((takeR R n).2.1, n)]) := fun y h1 h2 => by
  rcases hA y h1 h2 with hr | ⟨s, hs, hy⟩
  · by_cases hin : inH ((takeR R n).2.1, n) y
    · exact .inr ⟨_, List.mem_append_right _ (List.mem_singleton.2 rfl), hin⟩
    · exact .inl (((take_set h ht).2.2.2 y).2 ⟨hr, hin⟩)
  · exact .inr ⟨s, List.mem_append_left _ hs, hy⟩
theorem all_start {a b : Int} (h : a < b) : AllIn a b (startR a b) [] := fun y h1 h2 => by
  left
  unfold startR
  rw [if_pos h]
  exact ⟨_, List.mem_singleton.2 rfl, h1, h2⟩

/-! ### A layer's third law: what is held is given back, and is held no more -/
def sumH (H : List Run) : Int := (H.map fun h => h.2).sum
theorem sumH_append (H K : List Run) : sumH (H ++ K) = sumH H + sumH K := by simp [sumH]
theorem sumH_one (h : Run) : sumH [h] = h.2 := by simp [sumH]
theorem sumH_split {H : List Run} {k : Nat} (hk : k < H.length) : sumH H = sumH (H.take k ++ H.drop (k + 1)) + H[k].2 := by
  conv => lhs; rw [split_at hk]
  rw [sumH_append, sumH_append, show H[k] :: H.drop (k + 1) = [H[k]] ++ H.drop (k + 1) from rfl, sumH_append, sumH_one]
  omega
theorem held_give {a b : Int} {R H : List Run} (h : Held a b R H) {k : Nat} (hk : k < H.length) :
    (giveR a b R H[k].1 H[k].2).2 = true ∧ Held a b (giveR a b R H[k].1 H[k].2).1 (H.take k ++ H.drop (k + 1)) := by
  have hm := h.may H[k] (List.getElem_mem hk)
  have ht : (giveR a b R H[k].1 H[k].2).2 = true := (give_iff h.wf hm).2 fun y h1 h2 => h.out H[k] (List.getElem_mem hk) y ⟨h1, h2⟩
  have hmem : ∀ s ∈ H.take k ++ H.drop (k + 1), s ∈ H := fun s hs => by
    rcases List.mem_append.1 hs with hs | hs
    · exact List.mem_of_mem_take hs
    · exact List.mem_of_mem_drop hs
  have hfar := h.far
  rw [split_at hk] at hfar
  obtain ⟨f1, f2, f3⟩ := List.pairwise_append.1 hfar
  obtain ⟨f4, f5⟩ := List.pairwise_cons.1 f2
  refine ⟨ht, wf_give h.wf _ _, fun s hs => h.may s (hmem s hs), List.pairwise_append.2 ⟨f1, f5, fun s hs t ht' => f3 s hs t (List.mem_cons_of_mem _ ht')⟩, fun s hs y hy hr => ?_⟩
  rcases (give_set h.wf ht y).1 hr with hr | hr
  · exact h.out s (hmem s hs) y hy hr
  · rcases List.mem_append.1 hs with hs | hs
    · exact far_not (f3 s hs H[k] List.mem_cons_self) hy hr
    · exact far_not (far_symm (f4 s hs)) hy hr
theorem sum_take {a b : Int} {R H : List Run} (hs : sumR R + sumH H = b - a) {n : Int} (ht : (takeR R n).2.2 = true) : sumR (takeR R n).1 + sumH (H ++ [((takeR R n).2.1, n)]) = b - a := by
  rw [take_sum ht, sumH_append, sumH_one]
  simp only
  omega
theorem sum_give {a b : Int} {R H : List Run} (h : Held a b R H) (hs : sumR R + sumH H = b - a) {k : Nat} (hk : k < H.length) : sumR (giveR a b R H[k].1 H[k].2).1 + sumH (H.take k ++ H.drop (k + 1)) = b - a := by
  have := sumH_split hk
  rw [give_sum h.wf (held_give h hk).1]
  omega
/-- From where up to where. -/
def upH (h : Run) : Run := (h.1, h.1 + h.2)
def far2 (r s : Run) : Prop := r.2 ≤ s.1 ∨ s.2 ≤ r.1
theorem all_far {a b : Int} {R H : List Run} (h : Held a b R H) : (H.map upH ++ R).Pairwise far2 := by
  refine List.pairwise_append.2 ⟨List.pairwise_map.2 h.far, h.wf.1.imp fun hr => .inl (by omega), fun s hs r hr => ?_⟩
  obtain ⟨t, ht, rfl⟩ := List.mem_map.1 hs
  obtain ⟨w1, w2, -⟩ := h.wf.2 r hr
  have hm := (h.may t ht).2.2.1
  by_cases hc : far2 (upH t) r
  · exact hc
  · unfold far2 upH at hc
    simp only at hc
    rcases Int.le_total t.1 r.1 with hl | hl
    · exact absurd ⟨r, hr, by omega, by omega⟩ (h.out t ht r.1 ⟨hl, by omega⟩)
    · exact absurd ⟨r, hr, hl, by omega⟩ (h.out t ht t.1 ⟨by omega, by omega⟩)
theorem all_within {a b : Int} {R H : List Run} (h : Held a b R H) : ∀ r ∈ H.map upH ++ R, a ≤ r.1 ∧ r.1 < r.2 ∧ r.2 ≤ b := by
  intro r hr
  rcases List.mem_append.1 hr with hr | hr
  · obtain ⟨t, ht, rfl⟩ := List.mem_map.1 hr
    obtain ⟨-, -, m3, m4, m5, m6⟩ := h.may t ht
    unfold upH
    simp only
    omega
  · obtain ⟨w1, w2, w3, -⟩ := h.wf.2 r hr
    exact ⟨w1, w2, w3⟩
theorem sum_up (H : List Run) : sumR (H.map upH) = sumH H := by
  induction H with
  | nil => rfl
  | cons h H ih =>
    rw [List.map_cons, sumR_cons, ih]
    simp [sumH, upH]
    omega
end Go.Proofs.Ytpjlhkepdiajjaa

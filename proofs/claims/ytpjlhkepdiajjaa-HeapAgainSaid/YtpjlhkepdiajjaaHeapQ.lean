
/- Package heap, plain: what always holds goes on to hold. -/
import Derived.Test.YtpjlhkepdiajjaaHeapL
import Derived.Test.YtpjlhkepdiajjaaHeapN
set_option linter.all false
namespace Go.Proofs.Ytpjlhkepdiajjaa

theorem held_perm {a b : Int} {R H K : List Run} (h : Held a b R H) (p : H.Perm K) : Held a b R K :=
  ⟨h.wf, fun x hx => h.may x (p.mem_iff.2 hx), (p.pairwise_iff (fun {_ _} hf => far_symm hf)).1 h.far, fun x hx => h.out x (p.mem_iff.2 hx)⟩
theorem sumH_perm {H K : List Run} (p : H.Perm K) : sumH H = sumH K := by
  unfold sumH
  induction p with
  | nil => rfl
  | cons x _ ih => simp only [List.map_cons, List.sum_cons, ih]
  | swap x y l => simp only [List.map_cons, List.sum_cons]; omega
  | trans _ _ h1 h2 => exact h1.trans h2
theorem held_head {a b : Int} {R H : List Run} {x : Run} (h : Held a b R (x :: H)) : (giveR a b R x.1 x.2).2 = true ∧ Held a b (giveR a b R x.1 x.2).1 H := by
  have := held_give h (k := 0) (by simp)
  simpa using this
theorem sum_head {a b : Int} {R H : List Run} {x : Run} (h : Held a b R (x :: H)) (hs : sumR R + sumH (x :: H) = b - a) : sumR (giveR a b R x.1 x.2).1 + sumH H = b - a := by
  have := sum_give h hs (k := 0) (by simp)
  simpa using this
theorem held_giveQ {a b : Int} : ∀ {D : List HeldD} {R P : List Run}, Held a b R (D.map (fun q => (q.at', q.n)) ++ P) → sumR R + sumH (D.map (fun q => (q.at', q.n)) ++ P) = b - a →
    Held a b (giveQ a b R D) P ∧ sumR (giveQ a b R D) + sumH P = b - a
  | [], R, P, h, hs => ⟨h, hs⟩
  | q :: D, R, P, h, hs => by
    have h1 := (held_head (x := (q.at', q.n)) h).2
    have h2 := sum_head (x := (q.at', q.n)) h hs
    exact held_giveQ (D := D) h1 h2
section
variable {X : HeapD}
theorem heldL_perm_due (D E : List HeldD) (L : List LiveD) : (L.map (fun l => (l.at', l.takes)) ++ (D ++ E).map (fun q => (q.at', q.n))).Perm (D.map (fun q => (q.at', q.n)) ++ (L.map (fun l => (l.at', l.takes)) ++ E.map (fun q => (q.at', q.n)))) := by
  rw [List.map_append, ← List.append_assoc, ← List.append_assoc]
  exact List.Perm.append_right _ List.perm_append_comm
theorem live_perm {L : List LiveD} (ho : L.Pairwise fun l m => l.at' ≠ m.at') {l : LiveD} (hl : l ∈ L) : L.Perm (l :: L.filter fun m => decide (m.at' ≠ l.at')) := by
  induction L with
  | nil => cases hl
  | cons m L ih =>
    obtain ⟨h1, h2⟩ := List.pairwise_cons.1 ho
    rcases List.mem_cons.1 hl with rfl | hl
    · rw [List.filter_cons_of_neg (by simp), List.filter_eq_self.2 (fun m hm => by simpa using (h1 m hm).symm)]
    · rw [List.filter_cons_of_pos (by simpa using h1 l hl)]
      exact ((ih h2 hl).cons m).trans (List.Perm.swap l m _)
theorem far_once {a b : Int} {R : List Run} {L : List LiveD} {K : List Run} (h : Held a b R (L.map (fun l => (l.at', l.takes)) ++ K)) : L.Pairwise fun l m => l.at' ≠ m.at' := by
  have h1 := (List.pairwise_append.1 h.far).1
  rw [List.pairwise_map] at h1
  refine List.Pairwise.imp_of_mem (fun {l m} hl hm hf he => ?_) h1
  have h2 := (h.may (l.at', l.takes) (List.mem_append_left _ (List.mem_map.2 ⟨l, hl, rfl⟩))).2.2.1
  have h3 := (h.may (m.at', m.takes) (List.mem_append_left _ (List.mem_map.2 ⟨m, hm, rfl⟩))).2.2.1
  unfold farH at hf
  simp only at hf h2 h3
  omega
theorem heap_start {root : Cap} {full : Int} {G : Nat} {ws : List Nat} (hw : CapWf root) (ok : newOk root full) (hb : root.top - root.base ≤ 1600000) (hG : root.top ≤ 16 * (G : Int)) : HeapOk (startD root full G ws) := by
  obtain ⟨o1, o2, o3, o4, o5, o6⟩ := ok
  refine ⟨o5, o6, hw, o1, hb, held_nil (wf_start o1), ?_, by simp [startD], by simp [startD], List.Pairwise.nil, ⟨Int.le_refl _, by simp [startD]⟩, hG⟩
  have h1 := o1
  unfold mayBe at h1
  show sumR (startR root.base root.top) + sumH [] = root.top - root.base
  unfold startR
  split
  · simp [sumR, sumH]
  · simp [sumR, sumH]
    omega
theorem alloc_full (n : Int) (h : (roundD n).2 = false ∨ (takeR X.R (roundD n).1).2.2 = false) : (allocD X n).1 = X := by
  unfold allocD
  rcases h with h | h
  · rw [if_pos h]
  · split
    · rfl
    · rfl
theorem alloc_fits {n : Int} (h1 : (roundD n).2 = true) (h2 : (takeR X.R (roundD n).1).2.2 = true) : allocD X n = ({ X with R := (takeR X.R (roundD n).1).1, L := X.L ++ [⟨(takeR X.R (roundD n).1).2.1, max n 1, (roundD n).1⟩] }, { X.root with base := (takeR X.R (roundD n).1).2.1, at' := (takeR X.R (roundD n).1).2.1, top := (takeR X.R (roundD n).1).2.1 + max n 1 }, 0) := by
  unfold allocD
  rw [if_neg (by rw [h1]; simp), if_neg (by rw [h2]; simp)]
theorem heap_alloc (ok : HeapOk X) (n : Int) : HeapOk (allocD X n).1 := by
  cases h1 : (roundD n).2 with
  | false => rw [alloc_full n (.inl h1)]; exact ok
  | true =>
    cases h2 : (takeR X.R (roundD n).1).2.2 with
    | false => rw [alloc_full n (.inr h2)]; exact ok
    | true =>
      rw [alloc_fits h1 h2]
      have hf := round_fits h1
      have hp : (heldL X ++ [((takeR X.R (roundD n).1).2.1, (roundD n).1)]).Perm (heldL { X with R := (takeR X.R (roundD n).1).1, L := X.L ++ [⟨(takeR X.R (roundD n).1).2.1, max n 1, (roundD n).1⟩] }) := by
        unfold heldL
        simp only [List.map_append, List.map_cons, List.map_nil, List.append_assoc]
        exact List.Perm.append_left _ List.perm_append_comm
      refine ⟨ok.tag, ok.ty, ok.wf, ok.ends, ok.big, held_perm (held_take ok.held h2) hp, ?_, ?_, ok.times, ok.rise, ok.time, ok.shad⟩
      · rw [← sumH_perm hp]
        exact sum_take ok.sum h2
      · intro l hl
        rcases List.mem_append.1 hl with hl | hl
        · exact ok.asked l hl
        · rw [List.mem_singleton.1 hl]
          simp only
          omega
theorem heap_free (ok : HeapOk X) (c : Cap) : HeapOk (freeD X c) := by
  unfold freeD
  cases ho : (ofD X.L c).2 with
  | none => exact ok
  | some l =>
    obtain ⟨hl, -⟩ := ofD_some ho
    have hone := far_once ok.held
    have hp : (heldL X).Perm (heldL { X with L := X.L.filter fun m => decide (m.at' ≠ l.at'), Q := X.Q ++ [⟨l.at', l.takes, X.time⟩] }) := by
      unfold heldL
      refine (List.Perm.append_right _ ((live_perm hone hl).map _)).trans ?_
      simp only [List.map_cons, List.map_append, List.map_nil]
      rw [← List.append_assoc]
      exact (List.perm_append_comm (l₁ := [(l.at', l.takes)]))
    refine ⟨ok.tag, ok.ty, ok.wf, ok.ends, ok.big, held_perm ok.held hp, ?_, fun m hm => ok.asked m (List.mem_filter.1 hm).1, ?_, ?_, ok.time, ok.shad⟩
    · rw [← sumH_perm hp]
      exact ok.sum
    · intro q hq
      rcases List.mem_append.1 hq with hq | hq
      · exact ok.times q hq
      · rw [List.mem_singleton.1 hq]
        exact ⟨ok.time.1, Int.le_refl _⟩
    · refine List.pairwise_append.2 ⟨ok.rise, List.pairwise_singleton _ _, fun p hp q hq => ?_⟩
      rw [List.mem_singleton.1 hq]
      exact (ok.times p hp).2
theorem heap_begin (ok : HeapOk X) : HeapOk (beginD X) := by
  unfold beginD
  split
  · rename_i h
    unfold beginB runsB at h
    have ht := ok.time
    simp only [Bool.and_eq_true, Bool.not_eq_true', beq_eq_false_iff_ne, ne_eq, decide_eq_true_eq] at h
    exact ⟨ok.tag, ok.ty, ok.wf, ok.ends, ok.big, ok.held, ok.sum, ok.asked, fun q hq => by have := ok.times q hq; simp only; omega, ok.rise, by simp only; omega, ok.shad⟩
  · exact ok
theorem heap_end (ok : HeapOk X) : HeapOk (endD X) := by
  unfold endD
  split
  · rename_i h
    unfold runsB at h
    have ht := ok.time
    rw [beq_iff_eq] at h
    have hq := due_drop (X.time + 1) X.Q
    have hp : (heldL X).Perm ((dueL (X.time + 1) X.Q).map (fun q => (q.at', q.n)) ++ (X.L.map (fun l => (l.at', l.takes)) ++ (X.Q.drop (dueL (X.time + 1) X.Q).length).map (fun q => (q.at', q.n)))) := by
      have := heldL_perm_due (dueL (X.time + 1) X.Q) (X.Q.drop (dueL (X.time + 1) X.Q).length) X.L
      rw [hq] at this
      exact this
    have hg := held_giveQ (held_perm ok.held hp) (by rw [← sumH_perm hp]; exact ok.sum)
    exact ⟨ok.tag, ok.ty, ok.wf, ok.ends, ok.big, hg.1, hg.2, ok.asked, fun q hq => by have := ok.times q (List.mem_of_mem_drop hq); simp only; omega, ok.rise.sublist (List.drop_sublist _ _), by simp only; omega, ok.shad⟩
  · exact ok
end
end Go.Proofs.Ytpjlhkepdiajjaa

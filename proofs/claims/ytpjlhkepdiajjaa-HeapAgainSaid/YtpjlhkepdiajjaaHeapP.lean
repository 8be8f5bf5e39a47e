
/- Package heap, plain: what each call does; what always holds. -/
import Derived.Test.YtpjlhkepdiajjaaHeapC
import Derived.Test.YtpjlhkepdiajjaaSize11
set_option linter.all false
namespace Go.Proofs.Ytpjlhkepdiajjaa

def heldL (X : HeapD) : List Run := X.L.map (fun l => (l.at', l.takes)) ++ X.Q.map (fun q => (q.at', q.n))
structure HeapOk (X : HeapD) : Prop where
  tag : X.root.tag = true
  ty : X.root.ty = 0
  wf : CapWf X.root
  ends : mayBe X.root.base X.root.top
  big : X.root.top - X.root.base ≤ 1600000
  held : Held X.root.base X.root.top X.R (heldL X)
  sum : sumR X.R + sumH (heldL X) = X.root.top - X.root.base
  asked : ∀ l ∈ X.L, 1 ≤ l.asked ∧ l.asked ≤ l.takes
  times : ∀ q ∈ X.Q, 0 ≤ q.time ∧ q.time ≤ X.time
  rise : X.Q.Pairwise fun p q => p.time ≤ q.time
  time : 0 ≤ X.time ∧ X.time ≤ 1099511627776
  shad : X.root.top ≤ 16 * (X.G : Int)
theorem sumH_ge {H : List Run} (h : ∀ x ∈ H, 16 ≤ x.2) : 16 * (H.length : Int) ≤ sumH H := by
  induction H with
  | nil => simp [sumH]
  | cons x H ih =>
    have h1 := h x List.mem_cons_self
    have h2 := ih fun y hy => h y (List.mem_cons_of_mem _ hy)
    have e : sumH (x :: H) = x.2 + sumH H := by simp [sumH]
    rw [e, List.length_cons]
    push_cast
    omega
section
variable {X : HeapD}
theorem HeapOk.run (h : HeapOk X) : ∀ x ∈ heldL X, x.1 % 16 = 0 ∧ x.2 % 16 = 0 ∧ 16 ≤ x.2 ∧ X.root.base ≤ x.1 ∧ x.1 + x.2 ≤ X.root.top := fun x hx => by
  obtain ⟨h1, h2, h3, h4, h5, h6⟩ := h.held.may x hx
  exact ⟨h1, h2, by omega, h4, by omega⟩
theorem HeapOk.free0 (h : HeapOk X) : 0 ≤ sumR X.R := by
  have := wf_sum h.held.wf h.ends.2.2.2.1
  exact this.1
theorem HeapOk.lens (h : HeapOk X) : X.L.length ≤ 100000 ∧ X.Q.length ≤ 100000 ∧ X.R.length ≤ 100000 := by
  have h1 := sumH_ge (fun x hx => (h.run x hx).2.2.1)
  have h2 := h.free0
  have h3 := h.sum
  have h4 := h.big
  have h5 : (heldL X).length = X.L.length + X.Q.length := by simp [heldL]
  have h6 := wf_len h.held.wf h.ends.2.2.2.1
  refine ⟨by omega, by omega, by omega⟩
theorem HeapOk.live (h : HeapOk X) {l : LiveD} (hl : l ∈ X.L) : l.at' % 16 = 0 ∧ l.takes % 16 = 0 ∧ 16 ≤ l.takes ∧ X.root.base ≤ l.at' ∧ l.at' + l.takes ≤ X.root.top :=
  h.run (l.at', l.takes) (by unfold heldL; exact List.mem_append_left _ (List.mem_map.2 ⟨l, hl, rfl⟩))
theorem HeapOk.kept (h : HeapOk X) {q : HeldD} (hq : q ∈ X.Q) : q.at' % 16 = 0 ∧ q.n % 16 = 0 ∧ 16 ≤ q.n ∧ X.root.base ≤ q.at' ∧ q.at' + q.n ≤ X.root.top :=
  h.run (q.at', q.n) (by unfold heldL; exact List.mem_append_right _ (List.mem_map.2 ⟨q, hq, rfl⟩))
theorem sumH_heldL : sumH (heldL X) = sumH (X.L.map fun l => (l.at', l.takes)) + sumN X.Q := by
  unfold heldL
  rw [sumH_append]
  congr 1
  simp [sumH, sumN, Function.comp_def]
theorem HeapOk.bytes (h : HeapOk X) : 0 ≤ sumN X.Q ∧ sumN X.Q ≤ 1600000 := by
  have h1 := (sumN_le (L := X.Q) fun q hq => ⟨by have := (h.kept hq).2.2.1; omega, by have := h.kept hq; have := h.ends; unfold mayBe at this; omega⟩).1
  have h2 := h.free0
  have h3 := h.sum
  have h4 := h.big
  rw [sumH_heldL] at h3
  have h5 := sumH_ge (H := X.L.map fun l => (l.at', l.takes)) fun x hx => (h.run x (by unfold heldL; exact List.mem_append_left _ hx)).2.2.1
  omega
theorem HeapOk.small (h : HeapOk X) : ∀ l ∈ X.L, 0 ≤ l.at' ∧ l.at' ≤ 16777216 ∧ 0 ≤ l.asked ∧ l.asked ≤ 16777216 := fun l hl => by
  have h1 := h.live hl
  have h2 := h.asked l hl
  have h3 := h.ends
  unfold mayBe at h3
  omega
end
/-- Free. -/
def freeD (X : HeapD) (c : Cap) : HeapD :=
  match (ofD X.L c).2 with
  | none => X
  | some l => { X with L := X.L.filter fun m => decide (m.at' ≠ l.at'), Q := X.Q ++ [⟨l.at', l.takes, X.time⟩] }
theorem ofD_some {L : List LiveD} {c : Cap} {l : LiveD} (h : (ofD L c).2 = some l) : l ∈ L ∧ l.at' = c.base ∧ c.tag = true ∧ c.ty = 0 ∧ c.top = c.base + l.asked ∧ (ofD L c).1 = 0 := by
  unfold ofD at h ⊢
  split at h
  · cases h
  · split at h
    · cases h
    · rename_i h1 h2
      split at h
      · cases h
      · rename_i m hm
        split at h
        · cases h
        · rename_i h3
          cases h
          have h4 := List.mem_of_find?_eq_some hm
          have h5 := List.find?_some hm
          refine ⟨h4, of_decide_eq_true h5, by simpa using h1, by simpa using h2, by simpa using h3, ?_⟩
          rw [if_neg h1, if_neg h2]
          simp only [if_neg h3]
theorem sizes_ok : ((List.range 1025).all fun k => decide (classN (k : Int) < 14) && decide ((sizesL.getD (classN (k : Int)) 0) % 16 = 0) && decide (16 ≤ sizesL.getD (classN (k : Int)) 0) && decide ((k : Int) ≤ sizesL.getD (classN (k : Int)) 0) && decide (sizesL.getD (classN (k : Int)) 0 ≤ 1024)) = true := by kernel_rfl
theorem round_fits {n : Int} (h : (roundD n).2 = true) : 0 ≤ n ∧ n ≤ 65536 ∧ (roundD n).1 % 16 = 0 ∧ 16 ≤ (roundD n).1 ∧ n ≤ (roundD n).1 ∧ (roundD n).1 ≤ 65536 := by
  unfold roundD at h ⊢
  split at h
  · cases h
  · rename_i h1
    rw [if_neg h1]
    by_cases hn : n ≤ 1024
    · obtain ⟨k, rfl⟩ := Int.eq_ofNat_of_zero_le (show 0 ≤ n by omega)
      have h2 := List.all_eq_true.1 sizes_ok k (List.mem_range.2 (by omega))
      simp only [Bool.and_eq_true, decide_eq_true_eq] at h2
      obtain ⟨⟨⟨⟨a1, a2⟩, a3⟩, a4⟩, a5⟩ := h2
      rw [if_pos a1]
      simp only
      refine ⟨by omega, by omega, a2, a3, a4, by omega⟩
    · have h3 : classN n = 14 := by
        unfold classN
        rw [List.countP_eq_length.2 fun x hx => ?_]
        · rfl
        · have : ∀ x ∈ sizesL, x ≤ 1024 := by decide
          have := this x hx
          simp
          omega
      rw [h3, if_neg (by omega)]
      simp only
      omega
/-- Alloc. -/
def allocD (X : HeapD) (n : Int) : HeapD × Cap × Int :=
  if (roundD n).2 = false then (X, Cap.zero, 1) else
  if (takeR X.R (roundD n).1).2.2 = false then (X, Cap.zero, 5) else
  ({ X with R := (takeR X.R (roundD n).1).1, L := X.L ++ [⟨(takeR X.R (roundD n).1).2.1, max n 1, (roundD n).1⟩] }, { X.root with base := (takeR X.R (roundD n).1).2.1, at' := (takeR X.R (roundD n).1).2.1, top := (takeR X.R (roundD n).1).2.1 + max n 1 }, 0)
/-- What is taken is nothing that is live. -/
theorem take_new {X : HeapD} (h : HeapOk X) {n : Int} (ht : (takeR X.R n).2.2 = true) : hasL X.L (takeR X.R n).2.1 = false ∧ X.root.base ≤ (takeR X.R n).2.1 ∧ (takeR X.R n).2.1 + n ≤ X.root.top ∧ (takeR X.R n).2.1 % 16 = 0 := by
  obtain ⟨n1, n2, ⟨r, hr, hat, hle⟩, -⟩ := take_set h.held.wf ht
  obtain ⟨w1, w2, w3, w4, w5⟩ := h.held.wf.2 r hr
  refine ⟨?_, by omega, by omega, by omega⟩
  cases hh : hasL X.L (takeR X.R n).2.1 with
  | false => rfl
  | true =>
    exfalso
    obtain ⟨l, hl, he⟩ := hasL_iff.1 hh
    have h1 := h.live hl
    refine h.held.out (l.at', l.takes) (by unfold heldL; exact List.mem_append_left _ (List.mem_map.2 ⟨l, hl, rfl⟩)) (takeR X.R n).2.1 ⟨?_, ?_⟩ ⟨r, hr, ?_, ?_⟩
    · show l.at' ≤ _
      omega
    · show _ < l.at' + l.takes
      omega
    · omega
    · omega
/-- Painting of what is kept apart. -/
def paintQ (ws : List Nat) (is : Bool) (L : List HeldD) : List Nat := L.foldl (fun ws q => paintW ws (q.at' / 16).toNat is (q.n / 16).toNat) ws
theorem paintQ_succ {ws : List Nat} {is : Bool} {L : List HeldD} {k : Nat} (hk : k < L.length) : paintQ ws is (L.take (k + 1)) = paintW (paintQ ws is (L.take k)) (L[k].at' / 16).toNat is (L[k].n / 16).toNat := by
  unfold paintQ
  rw [List.take_add_one, List.getElem?_eq_getElem hk, List.foldl_append]
  rfl
/-- Giving back of what was kept apart. -/
def giveQ (a b : Int) (R : List Run) (L : List HeldD) : List Run := L.foldl (fun R q => (giveR a b R q.at' q.n).1) R
theorem giveQ_succ {a b : Int} {R : List Run} {L : List HeldD} {k : Nat} (hk : k < L.length) : giveQ a b R (L.take (k + 1)) = (giveR a b (giveQ a b R (L.take k)) L[k].at' L[k].n).1 := by
  unfold giveQ
  rw [List.take_add_one, List.getElem?_eq_getElem hk, List.foldl_append]
  rfl
theorem wf_giveQ {a b : Int} {R : List Run} (h : WF a b R) (L : List HeldD) : WF a b (giveQ a b R L) := by
  induction L generalizing R with
  | nil => exact h
  | cons q L ih => exact ih (wf_give h q.at' q.n)
/-- Begin. -/
def beginD (X : HeapD) : HeapD := if beginB X.time then { X with time := X.time + 1, ws := paintQ X.ws true X.Q } else X
/-- End. -/
def endD (X : HeapD) : HeapD :=
  if runsB X.time then { X with time := X.time + 1, Q := X.Q.drop (dueL (X.time + 1) X.Q).length, ws := paintQ X.ws false (dueL (X.time + 1) X.Q), R := giveQ X.root.base X.root.top X.R (dueL (X.time + 1) X.Q) } else X
end Go.Proofs.Ytpjlhkepdiajjaa

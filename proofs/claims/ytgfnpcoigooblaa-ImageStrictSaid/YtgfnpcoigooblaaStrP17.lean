
/- Images: what being strict asks (plain). -/
import Derived.Test.YtgfnpcoigooblaaRdQ17
set_option linter.all false
namespace Go.Proofs.Ytgfnpcoigooblaa

def asksL (code : List Int) (n : Nat) : Bool := (List.range n).any fun i => code.getD (4 * i) 0 == 28
def asksD (x : ImgD) (n : Nat) : Bool := (x.comps.take n).any fun c => asksL c.code (c.code.length / 4)
theorem chunk_head {l : List Int} {i : Nat} (h : i < l.length / 4) : ∃ a b c, chunkL l i = [l.getD (4 * i) 0, a, b, c] := by
  have h1 : 4 * i + 4 ≤ l.length := by omega
  have hl : (chunkL l i).length = 4 := by unfold chunkL; rw [List.length_take, List.length_drop]; omega
  have h0 : (chunkL l i)[0]? = l[4 * i]? := by unfold chunkL; rw [List.getElem?_take, if_pos (by decide), List.getElem?_drop]; rfl
  match hc : chunkL l i, hl with
  | [p, a, b, c], _ =>
    rw [hc] at h0
    refine ⟨a, b, c, ?_⟩
    rw [List.getD_eq_getElem?_getD, ← h0]
    rfl
theorem get_op {p a b c : Int} (h : (getI [p, a, b, c]).2 = 0) : (getI [p, a, b, c]).1.op = p := by
  unfold getI at h ⊢
  simp only at h ⊢
  by_cases hw : wideB p = true
  · rw [if_pos hw] at h ⊢
    by_cases hr : rightI ⟨p, a, i16 (256 * b + c), 0⟩ = true
    · rw [if_pos hr]
    · rw [if_neg hr] at h; cases h
  · rw [if_neg hw] at h ⊢
    by_cases hr : rightI ⟨p, a, b, c⟩ = true
    · rw [if_pos hr]
    · rw [if_neg hr] at h; cases h
theorem any_asks {l : List Int} (h : (allS l).2.2 = 0) (h4 : l.length % 4 = 0) : (allS l).1.any asksB = asksL l (l.length / 4) := by
  have hn : (l.length + 3) / 4 = l.length / 4 := by omega
  unfold allS at h ⊢
  rw [hn] at h ⊢
  cases hf : (List.range (l.length / 4)).findIdx? (fun i => (getI (chunkL l i)).2 != 0) with
  | some i =>
    exfalso
    rw [hf] at h
    obtain ⟨hi, hp, -⟩ := List.findIdx?_eq_some_iff_getElem.1 hf
    simp only [List.getElem_range] at hp
    simp only at h
    rw [h] at hp
    simp at hp
  | none =>
    have hz := List.findIdx?_eq_none_iff.1 hf
    simp only [asksL, List.any_map]
    have hz' : ∀ i ∈ List.range (l.length / 4), (asksB ∘ fun i => (getI (chunkL l i)).1) i = (l.getD (4 * i) 0 == 28) := fun i hi => by
      have h1 := hz i hi
      obtain ⟨a, b, c, hc⟩ := chunk_head (List.mem_range.1 hi)
      simp only [Function.comp, hc] at h1 ⊢
      have h2 : (getI [l.getD (4 * i) 0, a, b, c]).2 = 0 := by simpa using h1
      unfold asksB
      rw [get_op h2]
    rw [Bool.eq_iff_iff, List.any_eq_true, List.any_eq_true]
    constructor
    · rintro ⟨i, hi, hp⟩
      exact ⟨i, hi, by rw [← hz' i hi]; exact hp⟩
    · rintro ⟨i, hi, hp⟩
      exact ⟨i, hi, by rw [hz' i hi]; exact hp⟩
theorem runs_strict {l : List Int} (h4 : l.length % 4 = 0) : runsD true l = (runsD false l && !asksL l (l.length / 4)) := by
  unfold runsD
  cases h : ((allS l).2.2 == 0) with
  | false => rfl
  | true =>
    rw [any_asks (by simpa using h) h4]
    simp
theorem all_strict : ∀ {cs : List CompD}, (∀ c ∈ cs, c.code.length % 4 = 0) → (cs.all fun c => runsD true c.code) = ((cs.all fun c => runsD false c.code) && !(cs.any fun c => asksL c.code (c.code.length / 4)))
  | [], _ => rfl
  | c :: cs, h => by
    rw [List.all_cons, List.all_cons, List.any_cons, all_strict fun c hc => h c (List.mem_cons_of_mem _ hc), runs_strict (h c List.mem_cons_self)]
    cases runsD false c.code <;> cases asksL c.code (c.code.length / 4) <;> simp
/-- P17.1: one that is strict is right just if it is right when it is not, and none of its instructions asks for an address. -/
theorem strict_law (x : ImgD) : rightD { x with strict := true } = (rightD { x with strict := false } && !asksD x x.comps.length) := by
  unfold rightD asksD
  rw [show formD { x with strict := true } = formD x from rfl, show formD { x with strict := false } = formD x from rfl, List.take_length]
  cases hf : formD x with
  | false => rfl
  | true =>
    have h := form_iff hf
    simp only [Bool.true_and]
    exact all_strict fun c hc => (h.comps c hc).2.2.1
theorem asksD_succ {x : ImgD} {k : Nat} (hk : k < x.comps.length) : asksD x (k + 1) = (asksD x k || asksL x.comps[k].code (x.comps[k].code.length / 4)) := by
  unfold asksD
  rw [List.take_add_one, List.getElem?_eq_getElem hk, List.any_append]
  simp
theorem asksL_succ (l : List Int) (n : Nat) : asksL l (n + 1) = (asksL l n || (l.getD (4 * n) 0 == 28)) := by
  unfold asksL
  rw [List.range_succ, List.any_append]
  simp
end Go.Proofs.Ytgfnpcoigooblaa

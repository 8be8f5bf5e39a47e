
/- How capabilities that came in are opened. -/
import Derived.Test.YtpjlhkepdiajjaaOpenW
import Derived.Test.YtpjlhkepdiajjaaCapA
set_option linter.all false
namespace Go.Proofs.Ytpjlhkepdiajjaa
open Go.ChangeShapes Go.WideShapes Go.ChangeAt Go.RowKit Go.Joins

section
variable {H : Type} {enc : TypeId × Value → H} {W : World}
theorem ok_i64' {n : Int} (h : (Lit.int .i64 n).wf = true) : i64ok' n := by
  have := bounds_i64 h
  unfold i64ok'
  omega
instance : Inhabited Cap := ⟨Cap.zero⟩
set_option maxRecDepth 100000 in
theorem trod_cap {n : Nat} {cs : List Value} {y : DataW H × List MemPlace} (hl : cs.length = 6) (h : DataW.trod enc Try.prog W 0 (fun _ => true) true n 27 cs = some y) :
    ∃ c : Cap, cs = c.cells ∧ CapWf c := by
  obtain ⟨y0, y1, y2, y3, y4, y5, m, -, -, h0, h1, h2, h3, h4, h5⟩ := trod_struct6 Try.underlying27 h
  match cs, hl with
  | [c0, c1, c2, c3, c4, c5], _ =>
    have kb : Try.prog.cellsOf 4 = 1 := by kernel_rfl
    have ki : Try.prog.cellsOf 3 = 1 := by kernel_rfl
    obtain ⟨b, e0, -⟩ := DataW.trod_bool Try.underlying4 h0
    obtain ⟨n1, e1, -, w1⟩ := DataW.trod_int Try.underlying3 h1
    obtain ⟨n2, e2, -, w2⟩ := DataW.trod_int Try.underlying3 h2
    obtain ⟨n3, e3, -, w3⟩ := DataW.trod_int Try.underlying3 h3
    obtain ⟨n4, e4, -, w4⟩ := DataW.trod_int Try.underlying3 h4
    obtain ⟨n5, e5, -, w5⟩ := DataW.trod_int Try.underlying3 h5
    simp [kb] at e0
    simp [ki] at e1 e2 e3 e4 e5
    subst e0 e1 e2 e3 e4 e5
    exact ⟨⟨b, n1, n2, n3, n4, n5⟩, rfl, ok_i64' w1, ok_i64' w2, ok_i64' w3, ok_i64' w4, ok_i64' w5⟩
set_option maxRecDepth 100000 in
theorem open_cap {base : Nat} {v : Value} {d : DataW H} {p : List MemPlace} (hval : Value.okWide Try.prog W .any base 27 v) (h : DataW.Trod enc Try.prog W 0 (fun _ => true) true 27 v d p) :
    ∃ c : Cap, v = c.val ∧ CapWf c := by
  unfold Value.okWide at hval
  rw [Try.underlying27] at hval
  obtain ⟨cs, rfl, -, -⟩ := hval
  obtain ⟨fuel, hf⟩ := h
  obtain ⟨y0, y1, y2, y3, y4, y5, n, hy, hl, -⟩ := trod_struct6 Try.underlying27 hf
  have hc6 : Try.prog.cellsOf 27 = 6 := by kernel_rfl
  rw [hc6] at hl
  obtain ⟨c, hc, hw⟩ := trod_cap hl hf
  refine ⟨c, ?_, hw⟩
  have : cs = c.cells.toArray := Array.ext' (by simpa [Value.cells] using hc)
  rw [this]
set_option maxRecDepth 100000 in
theorem open_caps {base : Nat} {v : Value} {d : DataW H} {p : List MemPlace} (hval : Value.okWide Try.prog W .any base 48 v) (h : DataW.Trod enc Try.prog W 0 (fun _ => true) true 48 v d p) (hw : Wt Try.prog 48 d) :
    ∃ (A : Option Addr) (c : Nat) (l : List Cap), v = .slice A l.length c ∧ l.length ≤ c ∧ l.length ≤ 8796093021952 ∧ Arr W A (capCells l) ∧ (∀ x ∈ l, CapWf x) ∧ (A = none → c = 0) := by
  obtain ⟨A, n, c, rfl⟩ := okWide_slice Try.underlying48 hval
  obtain ⟨fuel, hf⟩ := h
  obtain ⟨A', c', l, h1, h2, h3, h4, h5, h6, h7⟩ := trod_row' Cap.cells CapWf (s := 6) (fun _ => rfl) (by decide) Try.underlying48 (by kernel_rfl) (fun n cs y hl ht _ => trod_cap hl ht) hf hw
  simp [Value.cells] at h1
  obtain ⟨rfl, rfl, rfl⟩ := h1
  have x := reach_le h4 (by have : Try.prog.bytesOf 27 = 48 := by kernel_rfl
                            omega)
  exact ⟨A, c, l, rfl, h2, Nat.le_trans h2 x, h5, h6, h7⟩
/-- What came in lies. -/
theorem lies_in {A : Option Addr} {c : Nat} {l : List Cap} (h : Arr W A (capCells l)) (h0 : A = none → c = 0) : Lies W.heap.size W (.slice A l.length c) l.length (capCells l) := by
  rcases h with h | ⟨b, o, rfl, hc⟩
  · have hn : l = [] := by
      have := congrArg List.length h
      rw [capCells_len] at this
      exact List.length_eq_zero_iff.1 (by simp only [List.length_nil] at this; omega)
    subst hn
    cases A with
    | none => rw [h0 rfl]; exact .inl ⟨rfl, rfl, rfl⟩
    | some a => exact .inr ⟨a, c, rfl, (fun h => absurd h (by simp)), (fun j u h => by simp at h)⟩
  · exact Lies.arr (.inr ⟨b, o, rfl, hc⟩)
end
end Go.Proofs.Ytpjlhkepdiajjaa

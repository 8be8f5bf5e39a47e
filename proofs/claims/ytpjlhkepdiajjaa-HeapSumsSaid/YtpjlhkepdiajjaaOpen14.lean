
/- How calls that came in are opened. -/
import Derived.Test.YtpjlhkepdiajjaaOps14
import Derived.Test.YtpjlhkepdiajjaaOpenCap
import Derived.Deep.Strs
set_option linter.all false
namespace Go.Proofs.Ytpjlhkepdiajjaa
open Go.ChangeShapes Go.WideShapes Go.ChangeAt Go.RowKit Go.Joins

theorem cellsOp14 : Try.prog.cellsOf 33 = 8 := by kernel_rfl
set_option maxRecDepth 100000 in
theorem trod_op14 {H : Type} {enc : TypeId × Value → H} {W : World} (n : Nat) (cs : List Value) (y : DataW H × List MemPlace) (hl : cs.length = 8) (h : DataW.trod enc Try.prog W 0 (fun _ => true) true n 33 cs = some y) : ∃ x : OpD, cs = x.cells ∧ OpWf x := by
  obtain ⟨y0, y1, y2, m, -, -, h0, h1, h2⟩ := Go.Deep.trod_struct3 Try.underlying33 h
  match cs, hl with
  | [c0, c1, c2, c3, c4, c5, c6, c7], _ =>
    obtain ⟨a, e0, -, w0⟩ := DataW.trod_int Try.underlying3 h0
    obtain ⟨b, e1, -, w1⟩ := DataW.trod_int Try.underlying3 h1
    have hc : Try.prog.cellsOf 3 = 1 := by kernel_rfl
    have hc6 : Try.prog.cellsOf 27 = 6 := by kernel_rfl
    simp [hc] at e0 e1
    simp only [hc6] at h2
    obtain ⟨x, e2, wx⟩ := trod_cap (by rfl) h2
    simp at e2
    obtain ⟨rfl, rfl, rfl, rfl, rfl, rfl⟩ := e2
    subst e0 e1
    exact ⟨⟨a, b, x⟩, rfl, ok_i64' w0, ok_i64' w1, wx⟩
set_option maxRecDepth 100000 in
theorem open_ops14 {H : Type} {enc : TypeId × Value → H} {W : World} {base : Nat} {v : Value} {d : DataW H} {p : List MemPlace} (hval : Value.okWide Try.prog W .any base 22 v) (h : DataW.Trod enc Try.prog W 0 (fun _ => true) true 22 v d p) :
    ∃ (A : Option Addr) (c : Nat) (l : List OpD), v = .slice A l.length c ∧ l.length ≤ c ∧ c ≤ maxLen ∧ Arr W A (opCells l) ∧ ∀ x ∈ l, OpWf x :=
  open_row OpD.cells OpWf (s := 8) (fun _ => rfl) (by decide) Try.underlying22 cellsOp14 trod_op14 hval h
end Go.Proofs.Ytpjlhkepdiajjaa

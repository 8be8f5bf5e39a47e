/- How a slice of calls that came in is opened. -/
import Derived.Test.YtipnkjegiiphnaaMore
import Derived.Deep.Strs
set_option linter.all false
namespace Go.Proofs.Ytipnkjegiiphnaa
open Go.ChangeShapes Go.WideShapes Go.ChangeAt Go.RowKit Go.Joins

/-- A call: What, At, N. -/
structure Op12 where
  what : Int
  at' : Int
  n : Int
deriving Inhabited
abbrev Op12.cells (x : Op12) : List Value := [.int .i64 x.what, .int .i64 x.at', .int .i64 x.n]
def opCells (l : List Op12) : List Value := l.flatMap Op12.cells
def OpWf (x : Op12) : Prop := (Lit.int .i64 x.what).wf = true ∧ (Lit.int .i64 x.at').wf = true ∧ (Lit.int .i64 x.n).wf = true
theorem cellsOp : Try.prog.cellsOf 29 = 3 := by kernel_rfl
theorem trod_op {H : Type} {enc : TypeId × Value → H} {W : World} (n : Nat) (cs : List Value) (y : DataW H × List MemPlace) (hl : cs.length = 3) (h : DataW.trod enc Try.prog W 0 (fun _ => true) true n 29 cs = some y) : ∃ x : Op12, cs = x.cells ∧ OpWf x := by
  obtain ⟨y0, y1, y2, m, -, -, h0, h1, h2⟩ := Go.Deep.trod_struct3 Try.underlying29 h
  match cs, hl with
  | [c0, c1, c2], _ =>
    obtain ⟨a, e0, -, w0⟩ := DataW.trod_int Try.underlying3 h0
    obtain ⟨b, e1, -, w1⟩ := DataW.trod_int Try.underlying3 h1
    obtain ⟨c, e2, -, w2⟩ := DataW.trod_int Try.underlying3 h2
    have hc : Try.prog.cellsOf 3 = 1 := by kernel_rfl
    simp [hc] at e0 e1 e2
    subst e0 e1 e2
    exact ⟨⟨a, b, c⟩, rfl, w0, w1, w2⟩
theorem open_ops {H : Type} {enc : TypeId × Value → H} {W : World} {base : Nat} {v : Value} {d : DataW H} {p : List MemPlace} (hval : Value.okWide Try.prog W .any base 22 v) (h : DataW.Trod enc Try.prog W 0 (fun _ => true) true 22 v d p) :
    ∃ (A : Option Addr) (c : Nat) (l : List Op12), v = .slice A l.length c ∧ l.length ≤ c ∧ c ≤ maxLen ∧ Arr W A (opCells l) ∧ ∀ x ∈ l, OpWf x :=
  open_row Op12.cells OpWf (s := 3) (fun _ => rfl) (by decide) Try.underlying22 cellsOp trod_op hval h
end Go.Proofs.Ytipnkjegiiphnaa

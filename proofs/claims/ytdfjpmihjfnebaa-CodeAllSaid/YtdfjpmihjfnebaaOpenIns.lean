/- How a slice of instructions that came in is opened. -/
import Derived.Test.YtdfjpmihjfnebaaOpen15
import Derived.Test.YtdfjpmihjfnebaaMore
import Derived.Test.YtdfjpmihjfnebaaRef15D
set_option linter.all false
namespace Go.Proofs.Ytdfjpmihjfnebaa
open Go.ChangeShapes Go.WideShapes Go.ChangeAt Go.RowKit Go.Joins

/-- What a number of an instruction may be. -/
def InsWf (x : Ins) : Prop := (Lit.int .i64 x.op).wf = true ∧ (Lit.int .i64 x.a).wf = true ∧ (Lit.int .i64 x.b).wf = true ∧ (Lit.int .i64 x.c).wf = true
instance : Inhabited Ins := ⟨.zero⟩
theorem trod_ins {H : Type} {enc : TypeId × Value → H} {W : World} (n : Nat) (cs : List Value) (y : DataW H × List MemPlace) (hl : cs.length = 4) (h : DataW.trod enc Try.prog W 0 (fun _ => true) true n 23 cs = some y) : ∃ x : Ins, cs = x.cells ∧ InsWf x := by
  obtain ⟨y0, y1, y2, y3, m, -, -, h0, h1, h2, h3⟩ := trod_struct4 Try.underlying23 h
  match cs, hl with
  | [c0, c1, c2, c3], _ =>
    obtain ⟨a, e0, -, w0⟩ := DataW.trod_int Try.underlying3 h0
    obtain ⟨b, e1, -, w1⟩ := DataW.trod_int Try.underlying3 h1
    obtain ⟨c, e2, -, w2⟩ := DataW.trod_int Try.underlying3 h2
    obtain ⟨d, e3, -, w3⟩ := DataW.trod_int Try.underlying3 h3
    have hc : Try.prog.cellsOf 3 = 1 := by kernel_rfl
    simp [hc] at e0 e1 e2 e3
    subst e0 e1 e2 e3
    exact ⟨⟨a, b, c, d⟩, rfl, w0, w1, w2, w3⟩
theorem open_inses {H : Type} {enc : TypeId × Value → H} {W : World} {base : Nat} {v : Value} {d : DataW H} {p : List MemPlace} (hval : Value.okWide Try.prog W .any base 29 v) (h : DataW.Trod enc Try.prog W 0 (fun _ => true) true 29 v d p) :
    ∃ (A : Option Addr) (c : Nat) (l : List Ins), v = .slice A l.length c ∧ l.length ≤ c ∧ c ≤ maxLen ∧ Arr W A (insCells l) ∧ ∀ x ∈ l, InsWf x :=
  open_row Ins.cells InsWf (s := 4) (fun _ => rfl) (by decide) Try.underlying29 cellsIns trod_ins hval h
end Go.Proofs.Ytdfjpmihjfnebaa

/- How an instruction that came in is opened. -/
import Derived.Test.YtdfjpmihjfnebaaSaidKit
import Derived.Test.YtdfjpmihjfnebaaCodeB
set_option linter.all false
namespace Go.Proofs.Ytdfjpmihjfnebaa
open Go.ChangeShapes Go.WideShapes Go.ChangeAt Go.RowKit Go.Joins
open Go.ChangeMaps (open_string shut_string)

theorem cellsIns : Try.prog.cellsOf 23 = 4 := by kernel_rfl
/-- An instruction that came in. -/
theorem open_ins {H : Type} {enc : TypeId × Value → H} {W : World} {base : Nat} {v : Value} {d : DataW H} {p : List MemPlace} (hval : Value.okWide Try.prog W .any base 23 v) (h : DataW.Trod enc Try.prog W 0 (fun _ => true) true 23 v d p) :
    ∃ x : Ins, v = .agg #[.int .i64 x.op, .int .i64 x.a, .int .i64 x.b, .int .i64 x.c] ∧ (Lit.int .i64 x.op).wf = true ∧ (Lit.int .i64 x.a).wf = true ∧ (Lit.int .i64 x.b).wf = true ∧ (Lit.int .i64 x.c).wf = true := by
  obtain ⟨c0, c1, c2, c3, y0, y1, y2, y3, n, rfl, -, -, h0, h1, h2, h3⟩ := open_agg4 Try.underlying23 (by kernel_rfl) cellsIns hval h
  obtain ⟨a, e0, -, w0⟩ := DataW.trod_int Try.underlying3 h0
  obtain ⟨b, e1, -, w1⟩ := DataW.trod_int Try.underlying3 h1
  obtain ⟨c, e2, -, w2⟩ := DataW.trod_int Try.underlying3 h2
  obtain ⟨d, e3, -, w3⟩ := DataW.trod_int Try.underlying3 h3
  simp at e0 e1 e2 e3
  subst e0 e1 e2 e3
  exact ⟨⟨a, b, c, d⟩, rfl, w0, w1, w2, w3⟩

end Go.Proofs.Ytdfjpmihjfnebaa

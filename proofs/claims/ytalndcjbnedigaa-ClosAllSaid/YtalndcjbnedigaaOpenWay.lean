
/- How ways that came in are opened. -/
import Derived.Test.YtalndcjbnedigaaOpenCap
import Derived.Test.YtalndcjbnedigaaAll06
set_option linter.all false
namespace Go.Proofs.Ytalndcjbnedigaa
open Go.ChangeShapes Go.WideShapes Go.ChangeAt Go.RowKit Go.Joins

section
variable {H : Type} {enc : TypeId × Value → H} {P : Program} {W : World}
theorem trod_struct4w {t : TypeId} {f0 f1 f2 f3 : Field} {fuel : Nat} {cs : List Value} {x : DataW H × List MemPlace} {base : Nat} {spare : Nat → Bool} {held : Bool} (ht : P.underlying t = some (.struct #[f0, f1, f2, f3])) (h : DataW.trod enc P W base spare held fuel t cs = some x) :
    ∃ y0 y1 y2 y3 n, cs.length = P.cellsOf t ∧ DataW.trod enc P W base spare held n f0.type ((cs.drop f0.offset).take (P.cellsOf f0.type)) = some y0 ∧
      DataW.trod enc P W base spare held n f1.type ((cs.drop f1.offset).take (P.cellsOf f1.type)) = some y1 ∧ DataW.trod enc P W base spare held n f2.type ((cs.drop f2.offset).take (P.cellsOf f2.type)) = some y2 ∧
      DataW.trod enc P W base spare held n f3.type ((cs.drop f3.offset).take (P.cellsOf f3.type)) = some y3 := by
  obtain ⟨xs, n, _, rfl, hl, hlen, hf⟩ := DataW.trod_struct ht h
  match xs, hlen with
  | [y0, y1, y2, y3], _ => exact ⟨y0, y1, y2, y3, n, hl, by simpa using hf 0 f0 rfl, by simpa using hf 1 f1 rfl, by simpa using hf 2 f2 rfl, by simpa using hf 3 f3 rfl⟩
end
section
variable {H : Type} {enc : TypeId × Value → H} {W : World}
set_option maxRecDepth 100000 in
theorem trod_way {n : Nat} {cs : List Value} {y : DataW H × List MemPlace} (hl : cs.length = 4) (h : DataW.trod enc Try.prog W 0 (fun _ => true) true n 45 cs = some y) :
    ∃ c : Way, cs = c.cells ∧ WayWf c := by
  obtain ⟨y0, y1, y2, y3, m, -, h0, h1, h2, h3⟩ := trod_struct4w Try.underlying45 h
  match cs, hl with
  | [c0, c1, c2, c3], _ =>
    have ki : Try.prog.cellsOf 3 = 1 := by kernel_rfl
    have ku : Try.prog.cellsOf 5 = 1 := by kernel_rfl
    obtain ⟨n1, e1, -, w1⟩ := DataW.trod_int Try.underlying3 h0
    obtain ⟨n2, e2, -, w2⟩ := DataW.trod_int Try.underlying3 h1
    obtain ⟨n3, e3, -, w3⟩ := DataW.trod_int Try.underlying3 h2
    obtain ⟨n4, e4, -, w4⟩ := DataW.trod_int Try.underlying5 h3
    simp [ki] at e1 e2 e3
    simp [ku] at e4
    subst e1 e2 e3 e4
    have := bounds_u8 w4
    exact ⟨⟨n1, n2, n3, n4⟩, rfl, ok_i64' w1, ok_i64' w2, ok_i64' w3, by show 0 ≤ n4; omega, by show n4 ≤ 255; omega⟩
set_option maxRecDepth 100000 in
theorem open_ways {base : Nat} {v : Value} {d : DataW H} {p : List MemPlace} (hval : Value.okWide Try.prog W .any base 43 v) (h : DataW.Trod enc Try.prog W 0 (fun _ => true) true 43 v d p) :
    ∃ (A : Option Addr) (c : Nat) (l : List Way), v = .slice A l.length c ∧ Arr W A (wayCells l) ∧ ∀ x ∈ l, WayWf x := by
  obtain ⟨A, c, l, h1, -, -, h4, h5⟩ := open_row Way.cells WayWf (s := 4) (fun _ => rfl) (by decide) Try.underlying43 (by kernel_rfl) (fun n cs y hl ht => trod_way hl ht) hval h
  exact ⟨A, c, l, h1, h4, h5⟩
end
end Go.Proofs.Ytalndcjbnedigaa

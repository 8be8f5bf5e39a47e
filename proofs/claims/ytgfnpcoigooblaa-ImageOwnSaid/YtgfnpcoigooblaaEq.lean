
/- '==' of structs, as one Bool. -/
import Derived.Test.YtgfnpcoigooblaaProg
import Derived.Test.YtgfnpcoigooblaaBase
import Derived.Laws.StructEq
set_option linter.all false
namespace Go.Proofs.Ytgfnpcoigooblaa
open Go.RowKit
section
variable {P : Program} {d : Nat} {xs ys : Array Value} {f : Field} {fs : List Field} {a b : Value} {r s : Bool} {w : World}
theorem fields_one (hn : f.name ≠ "_") (ha : (part f.type xs f.offset).run P w = .ok a w) (hb : (part f.type ys f.offset).run P w = .ok b w) (he : (Op.equalIn d f.type a b).run P w = .ok r w) (hr : (Op.eqFields d xs ys fs).run P w = .ok s w) :
    (Op.eqFields d xs ys (f :: fs)).run P w = .ok (r && s) w := by
  rw [Op.eqFields]
  simp only [if_pos hn, Sem.run_bind, ha, hb, he, Result.andThen_ok]
  cases r with
  | false => simp
  | true => simpa using hr
theorem fields_none : (Op.eqFields d xs ys []).run P w = .ok true w := by simp [Op.eqFields]
theorem struct_eq {t : TypeId} {fs : Array Field} (hu : P.underlying t = some (.struct fs)) (hp : P.stoodInHeld t = false) (h : (Op.eqFields d xs ys fs.toList).run P w = .ok r w) : (Op.equalIn (d + 1) t (.agg xs) (.agg ys)).run P w = .ok r w := by
  have hf : P.fieldsOf t = fs := by simp [Program.fieldsOf, hu]
  rw [run_equalIn_struct (P := P) w d t xs ys (by rw [hf]; exact hu) hp, hf]
  exact h
end

theorem eqIns (d : Nat) (w : World) (x0 y0 x1 y1 x2 y2 x3 y3 : Int) :
    (Op.equalIn (d + 2) 79 (.agg #[.int .i64 x0, .int .i64 x1, .int .i64 x2, .int .i64 x3]) (.agg #[.int .i64 y0, .int .i64 y1, .int .i64 y2, .int .i64 y3])).run Try.prog w = .ok (x0 == y0 && (x1 == y1 && (x2 == y2 && (x3 == y3 && true)))) w := by
  refine struct_eq Try.underlying79 (by kernel_rfl) ?_
  refine fields_one (by decide) (by go_simp; rfl) (by go_simp; rfl) (by go_simp) ?_
  refine fields_one (by decide) (by go_simp; rfl) (by go_simp; rfl) (by go_simp) ?_
  refine fields_one (by decide) (by go_simp; rfl) (by go_simp; rfl) (by go_simp) ?_
  refine fields_one (by decide) (by go_simp; rfl) (by go_simp; rfl) (by go_simp) ?_
  exact fields_none
end Go.Proofs.Ytgfnpcoigooblaa

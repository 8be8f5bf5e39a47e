
/- '==' of links, shares and capabilities, as one Bool. -/
import Derived.Test.YtgfnpcoigooblaaEq
import Derived.Test.YtgfnpcoigooblaaImgD
import Derived.Test.YtgfnpcoigooblaaCap
set_option linter.all false
namespace Go.Proofs.Ytgfnpcoigooblaa
open Go.RowKit

theorem eqLink (d : Nat) (w : World) (x0 y0 x1 y1 x2 y2 : Int) :
    (Op.equalIn (d + 2) 68 (.agg #[.int .i64 x0, .int .i64 x1, .int .i64 x2]) (.agg #[.int .i64 y0, .int .i64 y1, .int .i64 y2])).run Try.prog w = .ok (x0 == y0 && (x1 == y1 && (x2 == y2 && true))) w := by
  refine struct_eq Try.underlying68 (by kernel_rfl) ?_
  refine fields_one (by decide) (by go_simp; rfl) (by go_simp; rfl) (by go_simp) ?_
  refine fields_one (by decide) (by go_simp; rfl) (by go_simp; rfl) (by go_simp) ?_
  refine fields_one (by decide) (by go_simp; rfl) (by go_simp; rfl) (by go_simp) ?_
  exact fields_none
theorem eqShare (d : Nat) (w : World) (x0 y0 x1 y1 : Int) :
    (Op.equalIn (d + 2) 70 (.agg #[.int .i64 x0, .int .i64 x1]) (.agg #[.int .i64 y0, .int .i64 y1])).run Try.prog w = .ok (x0 == y0 && (x1 == y1 && true)) w := by
  refine struct_eq Try.underlying70 (by kernel_rfl) ?_
  refine fields_one (by decide) (by go_simp; rfl) (by go_simp; rfl) (by go_simp) ?_
  refine fields_one (by decide) (by go_simp; rfl) (by go_simp; rfl) (by go_simp) ?_
  exact fields_none
theorem eqCap (d : Nat) (w : World) (t t' : Bool) (x0 y0 x1 y1 x2 y2 x3 y3 x4 y4 : Int) :
    (Op.equalIn (d + 2) 39 (.agg #[.bool t, .int .i64 x0, .int .i64 x1, .int .i64 x2, .int .i64 x3, .int .i64 x4]) (.agg #[.bool t', .int .i64 y0, .int .i64 y1, .int .i64 y2, .int .i64 y3, .int .i64 y4])).run Try.prog w = .ok (t == t' && (x0 == y0 && (x1 == y1 && (x2 == y2 && (x3 == y3 && (x4 == y4 && true)))))) w := by
  refine struct_eq Try.underlying39 (by kernel_rfl) ?_
  refine fields_one (by decide) (by go_simp; rfl) (by go_simp; rfl) (by go_simp) ?_
  refine fields_one (by decide) (by go_simp; rfl) (by go_simp; rfl) (by go_simp) ?_
  refine fields_one (by decide) (by go_simp; rfl) (by go_simp; rfl) (by go_simp) ?_
  refine fields_one (by decide) (by go_simp; rfl) (by go_simp; rfl) (by go_simp) ?_
  refine fields_one (by decide) (by go_simp; rfl) (by go_simp; rfl) (by go_simp) ?_
  refine fields_one (by decide) (by go_simp; rfl) (by go_simp; rfl) (by go_simp) ?_
  exact fields_none
end Go.Proofs.Ytgfnpcoigooblaa

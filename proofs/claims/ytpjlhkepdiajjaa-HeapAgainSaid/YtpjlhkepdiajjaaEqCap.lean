
/- '==' of capabilities, as one Bool. -/
import Derived.Test.YtpjlhkepdiajjaaEq0
import Derived.Test.YtpjlhkepdiajjaaCap
set_option linter.all false
namespace Go.Proofs.Ytpjlhkepdiajjaa
open Go.RowKit

theorem eqCap (d : Nat) (w : World) (t t' : Bool) (x0 y0 x1 y1 x2 y2 x3 y3 x4 y4 : Int) :
    (Op.equalIn (d + 2) 27 (.agg #[.bool t, .int .i64 x0, .int .i64 x1, .int .i64 x2, .int .i64 x3, .int .i64 x4]) (.agg #[.bool t', .int .i64 y0, .int .i64 y1, .int .i64 y2, .int .i64 y3, .int .i64 y4])).run Try.prog w = .ok (t == t' && (x0 == y0 && (x1 == y1 && (x2 == y2 && (x3 == y3 && (x4 == y4 && true)))))) w := by
  refine struct_eq Try.underlying27 (by kernel_rfl) ?_
  refine fields_one (by decide) (by go_simp; rfl) (by go_simp; rfl) (by go_simp) ?_
  refine fields_one (by decide) (by go_simp; rfl) (by go_simp; rfl) (by go_simp) ?_
  refine fields_one (by decide) (by go_simp; rfl) (by go_simp; rfl) (by go_simp) ?_
  refine fields_one (by decide) (by go_simp; rfl) (by go_simp; rfl) (by go_simp) ?_
  refine fields_one (by decide) (by go_simp; rfl) (by go_simp; rfl) (by go_simp) ?_
  refine fields_one (by decide) (by go_simp; rfl) (by go_simp; rfl) (by go_simp) ?_
  exact fields_none
end Go.Proofs.Ytpjlhkepdiajjaa

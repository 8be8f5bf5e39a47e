
/- Package clos: New makes the set of its grants. -/
import Derived.Test.YtalndcjbnedigaaClosB
import Derived.Test.YtalndcjbnedigaaClosC
set_option linter.all false
namespace Go.Proofs.Ytalndcjbnedigaa
open Go.RowKit

theorem new_set (A : Option Addr) (c : Nat) (l : List Cap) (w : World) (hA : Arr w A (capCells l)) (hwf : ∀ x ∈ l, CapWf x) (hl : l.length ≤ 1000) : Calls Try.prog 11 #[.slice A l.length c] w (NewPost w l) :=
  new_any A c l w hA hwf hl (Lib.hid fun n hn bs sp B N vg G O0 hwf hG hO => opens_stops n hn bs sp B N vg G O0 hwf hG hO)
end Go.Proofs.Ytalndcjbnedigaa

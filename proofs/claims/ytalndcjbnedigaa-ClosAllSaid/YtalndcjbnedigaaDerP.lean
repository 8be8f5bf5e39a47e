
/- Package derive: what is made of one, and what must be so (plain). -/
import Derived.Test.YtalndcjbnedigaaClosP
set_option linter.all false
namespace Go.Proofs.Ytalndcjbnedigaa

/-- Something that must be so, and what is wrong, if it is not. -/
abbrev Must : Type := Bool × Int
abbrev Must.cells' (m : Must) : List Value := [.bool m.1, .int .i64 m.2]
abbrev mustCells (l : List Must) : List Value := l.flatMap Must.cells'
def firstE : List Must → Int
  | [] => 0
  | m :: l => if m.1 then firstE l else m.2
def sealB (c : Cap) (b : Bool) : Bool := (c.ty != 0) == b
def usedL (c : Cap) : List Must := [(rightC c, 1), (c.tag, 41), (sealB c false, 42)]
def typeB (c : Cap) : Bool := decide (2 ≤ c.at') && decide (c.at' ≤ 255)
def authoL (c : Cap) (p : Int) : List Must := usedL c ++ [(hasP c.perms p, 44), (inC c c.at' 1, 43), (typeB c, 45)]
def madeD (f : Cap → Cap) (c : Cap) (l : List Must) : Cap × Int := if firstE l = 0 then (f c, 0) else (Cap.zero, firstE l)
def boundsF (n : Int) (c : Cap) : Cap := ⟨c.tag, c.at', IntKind.i64.wrap (c.at' + n), c.at', c.perms, c.ty⟩
def boundsD (c : Cap) (n : Int) : Cap × Int := madeD (boundsF n) c (usedL c ++ [(inC c c.at' n, 43)])
def permsF (p : Int) (c : Cap) : Cap := ⟨c.tag, c.base, c.top, c.at', bits .and .i64 c.perms p, c.ty⟩
def permsD (c : Cap) (p : Int) : Cap × Int := madeD (permsF p) c (usedL c ++ [(permB p, 1)])
def moveF (n : Int) (c : Cap) : Cap := ⟨c.tag, c.base, c.top, bits .and .i64 n 4294967295, c.perms, c.ty⟩
def looseB (c : Cap) : Bool := !c.tag || c.ty == 0
def moveD (c : Cap) (n : Int) : Cap × Int := madeD (moveF n) c [(rightC c, 1), (looseB c, 42)]
def clearD (c : Cap) : Cap := ⟨false, c.base, c.top, c.at', c.perms, c.ty⟩
def typeF (t : Int) (c : Cap) : Cap := ⟨c.tag, c.base, c.top, c.at', c.perms, t⟩
def sealD (c d : Cap) : Cap × Int := madeD (typeF d.at') c (usedL c ++ authoL d 32)
def unsealL (c d : Cap) : List Must := [(rightC c, 1), (c.tag, 41), (sealB c true, 42)] ++ authoL d 64
def unsealD (c d : Cap) : Cap × Int := madeD (typeF 0) c (unsealL c d ++ [(d.at' == c.ty, 45)])
def enterD (c : Cap) : Cap × Int := madeD (typeF 1) c (usedL c ++ [(hasP c.perms 4, 44)])
def tagF (c : Cap) : Cap := ⟨true, c.base, c.top, c.at', c.perms, c.ty⟩
def buildL (c d : Cap) : List Must := [(rightC c, 1)] ++ usedL d
def buildD (c d : Cap) : Cap × Int := madeD tagF c (buildL c d ++ [(sealB c false, 42), (hasP d.perms c.perms, 44), (underC c d, 43)])
theorem mustCells_len (l : List Must) : (mustCells l).length = l.length * 2 := flat_length Must.cells' 2 (fun _ => rfl) l
theorem mustCells_one (l : List Must) : ∀ u ∈ mustCells l, u.oneCell' = true := by
  intro u hu
  obtain ⟨x, -, hx⟩ := List.mem_flatMap.1 hu
  simp only [List.mem_cons, List.not_mem_nil, or_false] at hx
  rcases hx with rfl | rfl <;> rfl
theorem mustCells_app (a b : List Must) : mustCells (a ++ b) = mustCells a ++ mustCells b := List.flatMap_append
end Go.Proofs.Ytalndcjbnedigaa

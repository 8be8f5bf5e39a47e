/-
  No cell of these rows narrows 'for every input' (looked for: loops, veiled, ifaces, maps, wideKeys, modest, calm, conditions, laid).
  DERIVED. THE GIVEN ROWS OF THIS SEAT. 5 by the template 'for every input the law returns true; each argument reads behind the call as it read before'; 0 by the template 'total and deterministic' (their statements: YtipnkjegiiphnaaTotals.lean).
  GIVEN WITH THE SEED: the statements are not yours to turn. If you find one false, say at which input.
  Laid BY PROGRAM, IN A SANDBOX (cutbox-rows.mjs): the forced cells as the released guide's own fill.sh prints them over the translation 9c3a653af274f265… (all of the seat's roots in one cut). By AI agents, Wed Nov 11 2026. No macro, syntax, notation, axiom, sorry.
-/
import Derived.Test.YtipnkjegiiphnaaChecked
import GoSem.Claim
import GoSem.ClaimJoined
import GoSem.ClaimMapViews
import Derived.JoinedTies
import Derived.KernelRfl
namespace Go.Proofs.Ytipnkjegiiphnaa
/- THE CELL 'sum', in the pinned program and in every row, IS THE sha256 OF THE DUMP (.gsa) THAT YtipnkjegiiphnaaProg.lean LOADS. Nothing in Lean hashes anything: it is a label: what it is worth is what the hold of that sum in a sandbox is worth. -/
noncomputable def Try.pinned : Pinned := { name := "ytipnkjegiiphnaa", sum := "9c3a653af274f26524d9cf72a2257a6b9f92554ddda52eb30798c3d7768c7a32", checked := Try.checked }
namespace Rows
def none {H : Type} : Left H := { results := [], args := [] }

/-- 'seizinlaw12.ExtentPlays': WHATEVER THE INPUT: true; the input reads as it did. -/
def extentPlaysSpec : ChangeSpec := { name := "extentPlays", fn := fun _ => fun
  | [d1, d2, d3] => { results := [.lit (.bool true)], args := [d1, d2, d3] }
  | _ => none }
def extentPlaysRow : OpenClaim := { program := "ytipnkjegiiphnaa", sum := "9c3a653af274f26524d9cf72a2257a6b9f92554ddda52eb30798c3d7768c7a32", func := "seizin/seizinlaw12.ExtentPlays", spec := "extentPlays", inPlace := ["slices.overlaps[seizin/extent.run]"], unfollowed := true, recurses := true, apart := false }
def ExtentPlaysSaid : Prop := extentPlaysRow.holds Try.pinned (OpenSpec.ofChange extentPlaysSpec)

/-- ITS FALSE NEIGHBOUR: 'it returns false'. Refute it at one input. -/
def extentPlaysWrong : ChangeSpec := { name := "extentPlays", fn := fun _ => fun
  | [d1, d2, d3] => { results := [.lit (.bool false)], args := [d1, d2, d3] }
  | _ => none }
def ExtentPlaysWrongFalsely : Prop := extentPlaysRow.holds Try.pinned (OpenSpec.ofChange extentPlaysWrong)

/-- 'seizinlaw12.ExtentApart': WHATEVER THE INPUT: true; the input reads as it did. -/
def extentApartSpec : ChangeSpec := { name := "extentApart", fn := fun _ => fun
  | [d1, d2] => { results := [.lit (.bool true)], args := [d1, d2] }
  | _ => none }
def extentApartRow : OpenClaim := { program := "ytipnkjegiiphnaa", sum := "9c3a653af274f26524d9cf72a2257a6b9f92554ddda52eb30798c3d7768c7a32", func := "seizin/seizinlaw12.ExtentApart", spec := "extentApart", inPlace := ["slices.overlaps[seizin/extent.run]"], unfollowed := true, recurses := true, apart := false }
def ExtentApartSaid : Prop := extentApartRow.holds Try.pinned (OpenSpec.ofChange extentApartSpec)

/-- ITS FALSE NEIGHBOUR: 'it returns false'. Refute it at one input. -/
def extentApartWrong : ChangeSpec := { name := "extentApart", fn := fun _ => fun
  | [d1, d2] => { results := [.lit (.bool false)], args := [d1, d2] }
  | _ => none }
def ExtentApartWrongFalsely : Prop := extentApartRow.holds Try.pinned (OpenSpec.ofChange extentApartWrong)

/-- 'seizinlaw12.ExtentRuns': WHATEVER THE INPUT: true; the input reads as it did. -/
def extentRunsSpec : ChangeSpec := { name := "extentRuns", fn := fun _ => fun
  | [d1, d2, d3] => { results := [.lit (.bool true)], args := [d1, d2, d3] }
  | _ => none }
def extentRunsRow : OpenClaim := { program := "ytipnkjegiiphnaa", sum := "9c3a653af274f26524d9cf72a2257a6b9f92554ddda52eb30798c3d7768c7a32", func := "seizin/seizinlaw12.ExtentRuns", spec := "extentRuns", inPlace := ["slices.overlaps[seizin/extent.run]"], unfollowed := true, recurses := true, apart := false }
def ExtentRunsSaid : Prop := extentRunsRow.holds Try.pinned (OpenSpec.ofChange extentRunsSpec)

/-- ITS FALSE NEIGHBOUR: 'it returns false'. Refute it at one input. -/
def extentRunsWrong : ChangeSpec := { name := "extentRuns", fn := fun _ => fun
  | [d1, d2, d3] => { results := [.lit (.bool false)], args := [d1, d2, d3] }
  | _ => none }
def ExtentRunsWrongFalsely : Prop := extentRunsRow.holds Try.pinned (OpenSpec.ofChange extentRunsWrong)

/-- 'seizinlaw12.ExtentFits': WHATEVER THE INPUT: true; the input reads as it did. -/
def extentFitsSpec : ChangeSpec := { name := "extentFits", fn := fun _ => fun
  | [d1, d2, d3] => { results := [.lit (.bool true)], args := [d1, d2, d3] }
  | _ => none }
def extentFitsRow : OpenClaim := { program := "ytipnkjegiiphnaa", sum := "9c3a653af274f26524d9cf72a2257a6b9f92554ddda52eb30798c3d7768c7a32", func := "seizin/seizinlaw12.ExtentFits", spec := "extentFits", inPlace := ["slices.overlaps[seizin/extent.run]"], unfollowed := true, recurses := true, apart := false }
def ExtentFitsSaid : Prop := extentFitsRow.holds Try.pinned (OpenSpec.ofChange extentFitsSpec)

/-- ITS FALSE NEIGHBOUR: 'it returns false'. Refute it at one input. -/
def extentFitsWrong : ChangeSpec := { name := "extentFits", fn := fun _ => fun
  | [d1, d2, d3] => { results := [.lit (.bool false)], args := [d1, d2, d3] }
  | _ => none }
def ExtentFitsWrongFalsely : Prop := extentFitsRow.holds Try.pinned (OpenSpec.ofChange extentFitsWrong)

/-- 'seizinlaw12.ExtentOrder': WHATEVER THE INPUT: true; the input reads as it did. -/
def extentOrderSpec : ChangeSpec := { name := "extentOrder", fn := fun _ => fun
  | [d1, d2] => { results := [.lit (.bool true)], args := [d1, d2] }
  | _ => none }
def extentOrderRow : OpenClaim := { program := "ytipnkjegiiphnaa", sum := "9c3a653af274f26524d9cf72a2257a6b9f92554ddda52eb30798c3d7768c7a32", func := "seizin/seizinlaw12.ExtentOrder", spec := "extentOrder", inPlace := ["slices.overlaps[seizin/extent.run]"], unfollowed := true, recurses := true, apart := false }
def ExtentOrderSaid : Prop := extentOrderRow.holds Try.pinned (OpenSpec.ofChange extentOrderSpec)

/-- ITS FALSE NEIGHBOUR: 'it returns false'. Refute it at one input. -/
def extentOrderWrong : ChangeSpec := { name := "extentOrder", fn := fun _ => fun
  | [d1, d2] => { results := [.lit (.bool false)], args := [d1, d2] }
  | _ => none }
def ExtentOrderWrongFalsely : Prop := extentOrderRow.holds Try.pinned (OpenSpec.ofChange extentOrderWrong)

/- THE SECOND FORM. 'bulk': how many values and letters a reading holds, each counted each time it is reached (what is shared counts as often as it is met; a slice's spare places count too). A statement '..UptoSaid' is the law's where the arguments, and the package variables that the reading takes, are together of bulk at most 1048576: NARROWER than '..Said'. Prove '..Said' where nothing that the law and all that it calls make is longer than what came in: it says more and counts as full. Else prove '..UptoSaid'. A law counts once. -/
mutual
def uptoBulk {H : Type} : DataW H → Nat
  | .lit (.string bytes) => bytes.length + 1
  | .lit _ => 1
  | .nil => 1
  | .ptr d => uptoBulk d + 1
  | .slice elems spare => uptoBulkAll elems + uptoBulkAll spare + 1
  | .agg parts => uptoBulkAll parts + 1
  | .iface _ d => uptoBulk d + 1
  | .map entries => uptoBulkEntries entries + 1
  | .held _ => 1
def uptoBulkAll {H : Type} : List (DataW H) → Nat
  | [] => 0
  | d :: r => uptoBulk d + uptoBulkAll r
def uptoBulkEntries {H : Type} : List (Lit × DataW H) → Nat
  | [] => 0
  | x :: r => uptoBulkEntry x + uptoBulkEntries r
def uptoBulkEntry {H : Type} : Lit × DataW H → Nat
  | (.string bytes, d) => bytes.length + uptoBulk d + 1
  | (_, d) => uptoBulk d + 1
 end
def uptoSmall : (H : Type) → List (DataW H) → Bool := fun _ ds => decide (uptoBulkAll ds ≤ 1048576)
def OpenSpec.upto (s : _root_.Go.ChangeSpec) : _root_.Go.OpenSpec := { _root_.Go.OpenSpec.ofChange s with cond := some uptoSmall }

/-- 'seizinlaw12.ExtentPlays', WHERE WHAT IT READS IS OF BULK AT MOST 1048576: true; the input reads as it did. -/
def extentPlaysUptoRow : OpenClaim := { program := "ytipnkjegiiphnaa", sum := "9c3a653af274f26524d9cf72a2257a6b9f92554ddda52eb30798c3d7768c7a32", func := "seizin/seizinlaw12.ExtentPlays", spec := "extentPlays", inPlace := ["slices.overlaps[seizin/extent.run]"], unfollowed := true, recurses := true, apart := false, narrowed := true }
def ExtentPlaysUptoSaid : Prop := extentPlaysUptoRow.holds Try.pinned (OpenSpec.upto extentPlaysSpec)

/-- 'seizinlaw12.ExtentApart', WHERE WHAT IT READS IS OF BULK AT MOST 1048576: true; the input reads as it did. -/
def extentApartUptoRow : OpenClaim := { program := "ytipnkjegiiphnaa", sum := "9c3a653af274f26524d9cf72a2257a6b9f92554ddda52eb30798c3d7768c7a32", func := "seizin/seizinlaw12.ExtentApart", spec := "extentApart", inPlace := ["slices.overlaps[seizin/extent.run]"], unfollowed := true, recurses := true, apart := false, narrowed := true }
def ExtentApartUptoSaid : Prop := extentApartUptoRow.holds Try.pinned (OpenSpec.upto extentApartSpec)

/-- 'seizinlaw12.ExtentRuns', WHERE WHAT IT READS IS OF BULK AT MOST 1048576: true; the input reads as it did. -/
def extentRunsUptoRow : OpenClaim := { program := "ytipnkjegiiphnaa", sum := "9c3a653af274f26524d9cf72a2257a6b9f92554ddda52eb30798c3d7768c7a32", func := "seizin/seizinlaw12.ExtentRuns", spec := "extentRuns", inPlace := ["slices.overlaps[seizin/extent.run]"], unfollowed := true, recurses := true, apart := false, narrowed := true }
def ExtentRunsUptoSaid : Prop := extentRunsUptoRow.holds Try.pinned (OpenSpec.upto extentRunsSpec)

/-- 'seizinlaw12.ExtentFits', WHERE WHAT IT READS IS OF BULK AT MOST 1048576: true; the input reads as it did. -/
def extentFitsUptoRow : OpenClaim := { program := "ytipnkjegiiphnaa", sum := "9c3a653af274f26524d9cf72a2257a6b9f92554ddda52eb30798c3d7768c7a32", func := "seizin/seizinlaw12.ExtentFits", spec := "extentFits", inPlace := ["slices.overlaps[seizin/extent.run]"], unfollowed := true, recurses := true, apart := false, narrowed := true }
def ExtentFitsUptoSaid : Prop := extentFitsUptoRow.holds Try.pinned (OpenSpec.upto extentFitsSpec)

/-- 'seizinlaw12.ExtentOrder', WHERE WHAT IT READS IS OF BULK AT MOST 1048576: true; the input reads as it did. -/
def extentOrderUptoRow : OpenClaim := { program := "ytipnkjegiiphnaa", sum := "9c3a653af274f26524d9cf72a2257a6b9f92554ddda52eb30798c3d7768c7a32", func := "seizin/seizinlaw12.ExtentOrder", spec := "extentOrder", inPlace := ["slices.overlaps[seizin/extent.run]"], unfollowed := true, recurses := true, apart := false, narrowed := true }
def ExtentOrderUptoSaid : Prop := extentOrderUptoRow.holds Try.pinned (OpenSpec.upto extentOrderSpec)

end Rows
end Go.Proofs.Ytipnkjegiiphnaa

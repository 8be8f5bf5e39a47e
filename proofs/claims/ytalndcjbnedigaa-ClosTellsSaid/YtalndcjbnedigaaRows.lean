/-
  No cell of these rows narrows 'for every input' (looked for: loops, veiled, ifaces, maps, wideKeys, modest, calm, conditions, laid).
  DERIVED. THE GIVEN ROWS OF THIS SEAT. 7 by the template 'for every input the law returns true; each argument reads behind the call as it read before'; 0 by the template 'total and deterministic' (their statements: YtalndcjbnedigaaTotals.lean).
  GIVEN WITH THE SEED: the statements are not yours to turn. If you find one false, say at which input.
  Laid BY PROGRAM, IN A SANDBOX (cutbox-rows.mjs): the forced cells as the released guide's own fill.sh prints them over the translation 5a6a84fafee1bf54… (all of the seat's roots in one cut). By AI agents, Wed Nov 11 2026. No macro, syntax, notation, axiom, sorry.
-/
import Derived.Test.YtalndcjbnedigaaChecked
import GoSem.Claim
import GoSem.ClaimJoined
import GoSem.ClaimMapViews
import Derived.JoinedTies
import Derived.KernelRfl
namespace Go.Proofs.Ytalndcjbnedigaa
/- THE CELL 'sum', in the pinned program and in every row, IS THE sha256 OF THE DUMP (.gsa) THAT YtalndcjbnedigaaProg.lean LOADS. Nothing in Lean hashes anything: it is a label: what it is worth is what the hold of that sum in a sandbox is worth. -/
noncomputable def Try.pinned : Pinned := { name := "ytalndcjbnedigaa", sum := "5a6a84fafee1bf54fdcba4ca9e0e8869ce7bfb4e5c0e788ec7a42b28264f274e", checked := Try.checked }
namespace Rows
def none {H : Type} : Left H := { results := [], args := [] }

/-- 'seizinlaw06.ClosTells': WHATEVER THE INPUT: true; the input reads as it did. -/
def closTellsSpec : ChangeSpec := { name := "closTells", fn := fun _ => fun
  | [d1, d2, d3] => { results := [.lit (.bool true)], args := [d1, d2, d3] }
  | _ => none }
def closTellsRow : OpenClaim := { program := "ytalndcjbnedigaa", sum := "5a6a84fafee1bf54fdcba4ca9e0e8869ce7bfb4e5c0e788ec7a42b28264f274e", func := "seizin/seizinlaw06.ClosTells", spec := "closTells", unfollowed := true, recurses := true, apart := false }
def ClosTellsSaid : Prop := closTellsRow.holds Try.pinned (OpenSpec.ofChange closTellsSpec)

/-- ITS FALSE NEIGHBOUR: 'it returns false'. Refute it at one input. -/
def closTellsWrong : ChangeSpec := { name := "closTells", fn := fun _ => fun
  | [d1, d2, d3] => { results := [.lit (.bool false)], args := [d1, d2, d3] }
  | _ => none }
def ClosTellsWrongFalsely : Prop := closTellsRow.holds Try.pinned (OpenSpec.ofChange closTellsWrong)

/-- 'seizinlaw06.ClosMore': WHATEVER THE INPUT: true; the input reads as it did. -/
def closMoreSpec : ChangeSpec := { name := "closMore", fn := fun _ => fun
  | [d1, d2, d3] => { results := [.lit (.bool true)], args := [d1, d2, d3] }
  | _ => none }
def closMoreRow : OpenClaim := { program := "ytalndcjbnedigaa", sum := "5a6a84fafee1bf54fdcba4ca9e0e8869ce7bfb4e5c0e788ec7a42b28264f274e", func := "seizin/seizinlaw06.ClosMore", spec := "closMore", unfollowed := true, recurses := true, apart := false }
def ClosMoreSaid : Prop := closMoreRow.holds Try.pinned (OpenSpec.ofChange closMoreSpec)

/-- ITS FALSE NEIGHBOUR: 'it returns false'. Refute it at one input. -/
def closMoreWrong : ChangeSpec := { name := "closMore", fn := fun _ => fun
  | [d1, d2, d3] => { results := [.lit (.bool false)], args := [d1, d2, d3] }
  | _ => none }
def ClosMoreWrongFalsely : Prop := closMoreRow.holds Try.pinned (OpenSpec.ofChange closMoreWrong)

/-- 'seizinlaw06.ClosOpen': WHATEVER THE INPUT: true; the input reads as it did. -/
def closOpenSpec : ChangeSpec := { name := "closOpen", fn := fun _ => fun
  | [d1, d2] => { results := [.lit (.bool true)], args := [d1, d2] }
  | _ => none }
def closOpenRow : OpenClaim := { program := "ytalndcjbnedigaa", sum := "5a6a84fafee1bf54fdcba4ca9e0e8869ce7bfb4e5c0e788ec7a42b28264f274e", func := "seizin/seizinlaw06.ClosOpen", spec := "closOpen", unfollowed := true, recurses := true, apart := false }
def ClosOpenSaid : Prop := closOpenRow.holds Try.pinned (OpenSpec.ofChange closOpenSpec)

/-- ITS FALSE NEIGHBOUR: 'it returns false'. Refute it at one input. -/
def closOpenWrong : ChangeSpec := { name := "closOpen", fn := fun _ => fun
  | [d1, d2] => { results := [.lit (.bool false)], args := [d1, d2] }
  | _ => none }
def ClosOpenWrongFalsely : Prop := closOpenRow.holds Try.pinned (OpenSpec.ofChange closOpenWrong)

/-- 'seizinlaw06.ClosTypes': WHATEVER THE INPUT: true; the input reads as it did. -/
def closTypesSpec : ChangeSpec := { name := "closTypes", fn := fun _ => fun
  | [d1, d2] => { results := [.lit (.bool true)], args := [d1, d2] }
  | _ => none }
def closTypesRow : OpenClaim := { program := "ytalndcjbnedigaa", sum := "5a6a84fafee1bf54fdcba4ca9e0e8869ce7bfb4e5c0e788ec7a42b28264f274e", func := "seizin/seizinlaw06.ClosTypes", spec := "closTypes", unfollowed := true, recurses := true, apart := false }
def ClosTypesSaid : Prop := closTypesRow.holds Try.pinned (OpenSpec.ofChange closTypesSpec)

/-- ITS FALSE NEIGHBOUR: 'it returns false'. Refute it at one input. -/
def closTypesWrong : ChangeSpec := { name := "closTypes", fn := fun _ => fun
  | [d1, d2] => { results := [.lit (.bool false)], args := [d1, d2] }
  | _ => none }
def ClosTypesWrongFalsely : Prop := closTypesRow.holds Try.pinned (OpenSpec.ofChange closTypesWrong)

/-- 'seizinlaw06.ClosOrder': WHATEVER THE INPUT: true; the input reads as it did. -/
def closOrderSpec : ChangeSpec := { name := "closOrder", fn := fun _ => fun
  | [d1, d2] => { results := [.lit (.bool true)], args := [d1, d2] }
  | _ => none }
def closOrderRow : OpenClaim := { program := "ytalndcjbnedigaa", sum := "5a6a84fafee1bf54fdcba4ca9e0e8869ce7bfb4e5c0e788ec7a42b28264f274e", func := "seizin/seizinlaw06.ClosOrder", spec := "closOrder", unfollowed := true, recurses := true, apart := false }
def ClosOrderSaid : Prop := closOrderRow.holds Try.pinned (OpenSpec.ofChange closOrderSpec)

/-- ITS FALSE NEIGHBOUR: 'it returns false'. Refute it at one input. -/
def closOrderWrong : ChangeSpec := { name := "closOrder", fn := fun _ => fun
  | [d1, d2] => { results := [.lit (.bool false)], args := [d1, d2] }
  | _ => none }
def ClosOrderWrongFalsely : Prop := closOrderRow.holds Try.pinned (OpenSpec.ofChange closOrderWrong)

/-- 'seizinlaw06.ClosClosed': WHATEVER THE INPUT: true; the input reads as it did. -/
def closClosedSpec : ChangeSpec := { name := "closClosed", fn := fun _ => fun
  | [d1, d2, d3, d4, d5] => { results := [.lit (.bool true)], args := [d1, d2, d3, d4, d5] }
  | _ => none }
def closClosedRow : OpenClaim := { program := "ytalndcjbnedigaa", sum := "5a6a84fafee1bf54fdcba4ca9e0e8869ce7bfb4e5c0e788ec7a42b28264f274e", func := "seizin/seizinlaw06.ClosClosed", spec := "closClosed", unfollowed := true, recurses := true, apart := false }
def ClosClosedSaid : Prop := closClosedRow.holds Try.pinned (OpenSpec.ofChange closClosedSpec)

/-- ITS FALSE NEIGHBOUR: 'it returns false'. Refute it at one input. -/
def closClosedWrong : ChangeSpec := { name := "closClosed", fn := fun _ => fun
  | [d1, d2, d3, d4, d5] => { results := [.lit (.bool false)], args := [d1, d2, d3, d4, d5] }
  | _ => none }
def ClosClosedWrongFalsely : Prop := closClosedRow.holds Try.pinned (OpenSpec.ofChange closClosedWrong)

/-- 'seizinlaw06.ClosAll': WHATEVER THE INPUT: true; the input reads as it did. -/
def closAllSpec : ChangeSpec := { name := "closAll", fn := fun _ => fun
  | [d1, d2] => { results := [.lit (.bool true)], args := [d1, d2] }
  | _ => none }
def closAllRow : OpenClaim := { program := "ytalndcjbnedigaa", sum := "5a6a84fafee1bf54fdcba4ca9e0e8869ce7bfb4e5c0e788ec7a42b28264f274e", func := "seizin/seizinlaw06.ClosAll", spec := "closAll", unfollowed := true, recurses := true, apart := false }
def ClosAllSaid : Prop := closAllRow.holds Try.pinned (OpenSpec.ofChange closAllSpec)

/-- ITS FALSE NEIGHBOUR: 'it returns false'. Refute it at one input. -/
def closAllWrong : ChangeSpec := { name := "closAll", fn := fun _ => fun
  | [d1, d2] => { results := [.lit (.bool false)], args := [d1, d2] }
  | _ => none }
def ClosAllWrongFalsely : Prop := closAllRow.holds Try.pinned (OpenSpec.ofChange closAllWrong)

/- THE SECOND FORM. 'bulk': how many values and letters a reading holds, each counted each time it is reached (what is shared counts as often as it is met; a slice's spare places count too). A statement '..UptoSaid' is the law's where the arguments, and the package variables that the reading takes, are together of bulk at most 1048576: NARROWER than '..Said'. Prove '..Said' where nothing that the law and all that it calls make is longer than what came in: it says more and counts as full. Else prove '..UptoSaid'. A law counts once. -/
mutual
def uptoBulk {H : Type} : DataW H → Nat
  | .lit (.string bytes) => bytes.length + 1
  | .lit _ => 1
  | .nil => 1
  | .ptr d => uptoBulk d + 1
  | .slice elems spare => uptoBulkAll elems + uptoBulkAll spare + 1
  | .agg parts => uptoBulkAll parts + 1
  | .iface _ d => uptoBulk d + 1
  | .map entries => uptoBulkEntries entries + 1
  | .held _ => 1
def uptoBulkAll {H : Type} : List (DataW H) → Nat
  | [] => 0
  | d :: r => uptoBulk d + uptoBulkAll r
def uptoBulkEntries {H : Type} : List (Lit × DataW H) → Nat
  | [] => 0
  | x :: r => uptoBulkEntry x + uptoBulkEntries r
def uptoBulkEntry {H : Type} : Lit × DataW H → Nat
  | (.string bytes, d) => bytes.length + uptoBulk d + 1
  | (_, d) => uptoBulk d + 1
 end
def uptoSmall : (H : Type) → List (DataW H) → Bool := fun _ ds => decide (uptoBulkAll ds ≤ 1048576)
def OpenSpec.upto (s : _root_.Go.ChangeSpec) : _root_.Go.OpenSpec := { _root_.Go.OpenSpec.ofChange s with cond := some uptoSmall }

/-- 'seizinlaw06.ClosTells', WHERE WHAT IT READS IS OF BULK AT MOST 1048576: true; the input reads as it did. -/
def closTellsUptoRow : OpenClaim := { program := "ytalndcjbnedigaa", sum := "5a6a84fafee1bf54fdcba4ca9e0e8869ce7bfb4e5c0e788ec7a42b28264f274e", func := "seizin/seizinlaw06.ClosTells", spec := "closTells", unfollowed := true, recurses := true, apart := false, narrowed := true }
def ClosTellsUptoSaid : Prop := closTellsUptoRow.holds Try.pinned (OpenSpec.upto closTellsSpec)

/-- 'seizinlaw06.ClosMore', WHERE WHAT IT READS IS OF BULK AT MOST 1048576: true; the input reads as it did. -/
def closMoreUptoRow : OpenClaim := { program := "ytalndcjbnedigaa", sum := "5a6a84fafee1bf54fdcba4ca9e0e8869ce7bfb4e5c0e788ec7a42b28264f274e", func := "seizin/seizinlaw06.ClosMore", spec := "closMore", unfollowed := true, recurses := true, apart := false, narrowed := true }
def ClosMoreUptoSaid : Prop := closMoreUptoRow.holds Try.pinned (OpenSpec.upto closMoreSpec)

/-- 'seizinlaw06.ClosOpen', WHERE WHAT IT READS IS OF BULK AT MOST 1048576: true; the input reads as it did. -/
def closOpenUptoRow : OpenClaim := { program := "ytalndcjbnedigaa", sum := "5a6a84fafee1bf54fdcba4ca9e0e8869ce7bfb4e5c0e788ec7a42b28264f274e", func := "seizin/seizinlaw06.ClosOpen", spec := "closOpen", unfollowed := true, recurses := true, apart := false, narrowed := true }
def ClosOpenUptoSaid : Prop := closOpenUptoRow.holds Try.pinned (OpenSpec.upto closOpenSpec)

/-- 'seizinlaw06.ClosTypes', WHERE WHAT IT READS IS OF BULK AT MOST 1048576: true; the input reads as it did. -/
def closTypesUptoRow : OpenClaim := { program := "ytalndcjbnedigaa", sum := "5a6a84fafee1bf54fdcba4ca9e0e8869ce7bfb4e5c0e788ec7a42b28264f274e", func := "seizin/seizinlaw06.ClosTypes", spec := "closTypes", unfollowed := true, recurses := true, apart := false, narrowed := true }
def ClosTypesUptoSaid : Prop := closTypesUptoRow.holds Try.pinned (OpenSpec.upto closTypesSpec)

/-- 'seizinlaw06.ClosOrder', WHERE WHAT IT READS IS OF BULK AT MOST 1048576: true; the input reads as it did. -/
def closOrderUptoRow : OpenClaim := { program := "ytalndcjbnedigaa", sum := "5a6a84fafee1bf54fdcba4ca9e0e8869ce7bfb4e5c0e788ec7a42b28264f274e", func := "seizin/seizinlaw06.ClosOrder", spec := "closOrder", unfollowed := true, recurses := true, apart := false, narrowed := true }
def ClosOrderUptoSaid : Prop := closOrderUptoRow.holds Try.pinned (OpenSpec.upto closOrderSpec)

/-- 'seizinlaw06.ClosClosed', WHERE WHAT IT READS IS OF BULK AT MOST 1048576: true; the input reads as it did. -/
def closClosedUptoRow : OpenClaim := { program := "ytalndcjbnedigaa", sum := "5a6a84fafee1bf54fdcba4ca9e0e8869ce7bfb4e5c0e788ec7a42b28264f274e", func := "seizin/seizinlaw06.ClosClosed", spec := "closClosed", unfollowed := true, recurses := true, apart := false, narrowed := true }
def ClosClosedUptoSaid : Prop := closClosedUptoRow.holds Try.pinned (OpenSpec.upto closClosedSpec)

/-- 'seizinlaw06.ClosAll', WHERE WHAT IT READS IS OF BULK AT MOST 1048576: true; the input reads as it did. -/
def closAllUptoRow : OpenClaim := { program := "ytalndcjbnedigaa", sum := "5a6a84fafee1bf54fdcba4ca9e0e8869ce7bfb4e5c0e788ec7a42b28264f274e", func := "seizin/seizinlaw06.ClosAll", spec := "closAll", unfollowed := true, recurses := true, apart := false, narrowed := true }
def ClosAllUptoSaid : Prop := closAllUptoRow.holds Try.pinned (OpenSpec.upto closAllSpec)

end Rows
end Go.Proofs.Ytalndcjbnedigaa

/-
  No cell of these rows narrows 'for every input' (looked for: loops, veiled, ifaces, maps, wideKeys, modest, calm, conditions, laid).
  DERIVED. THE GIVEN ROWS OF THIS SEAT. 7 by the template 'for every input the law returns true; each argument reads behind the call as it read before'; 0 by the template 'total and deterministic' (their statements: YtgfnpcoigooblaaTotals.lean).
  GIVEN WITH THE SEED: the statements are not yours to turn. If you find one false, say at which input.
  Laid BY PROGRAM, IN A SANDBOX (cutbox-rows.mjs): the forced cells as the released guide's own fill.sh prints them over the translation ca6b5bef362ab2b1… (all of the seat's roots in one cut). By AI agents, Wed Nov 11 2026. No macro, syntax, notation, axiom, sorry.
-/
import Derived.Test.YtgfnpcoigooblaaChecked
import GoSem.Claim
import GoSem.ClaimJoined
import GoSem.ClaimMapViews
import Derived.JoinedTies
import Derived.KernelRfl
namespace Go.Proofs.Ytgfnpcoigooblaa
/- THE CELL 'sum', in the pinned program and in every row, IS THE sha256 OF THE DUMP (.gsa) THAT YtgfnpcoigooblaaProg.lean LOADS. Nothing in Lean hashes anything: it is a label: what it is worth is what the hold of that sum in a sandbox is worth. -/
noncomputable def Try.pinned : Pinned := { name := "ytgfnpcoigooblaa", sum := "ca6b5bef362ab2b1fe041109de763439a75fb16a057c69613159c6db2823bb0f", checked := Try.checked }
namespace Rows
def none {H : Type} : Left H := { results := [], args := [] }

/-- 'seizinlaw17.ImageTells': WHATEVER THE INPUT: true; the input reads as it did. -/
def imageTellsSpec : ChangeSpec := { name := "imageTells", fn := fun _ => fun
  | [d1, d2] => { results := [.lit (.bool true)], args := [d1, d2] }
  | _ => none }
def imageTellsRow : OpenClaim := { program := "ytgfnpcoigooblaa", sum := "ca6b5bef362ab2b1fe041109de763439a75fb16a057c69613159c6db2823bb0f", func := "seizin/seizinlaw17.ImageTells", spec := "imageTells", unfollowed := true, recurses := true, apart := false }
def ImageTellsSaid : Prop := imageTellsRow.holds Try.pinned (OpenSpec.ofChange imageTellsSpec)

/-- ITS FALSE NEIGHBOUR: 'it returns false'. Refute it at one input. -/
def imageTellsWrong : ChangeSpec := { name := "imageTells", fn := fun _ => fun
  | [d1, d2] => { results := [.lit (.bool false)], args := [d1, d2] }
  | _ => none }
def ImageTellsWrongFalsely : Prop := imageTellsRow.holds Try.pinned (OpenSpec.ofChange imageTellsWrong)

/-- 'seizinlaw17.ImageWhere': WHATEVER THE INPUT: true; the input reads as it did. -/
def imageWhereSpec : ChangeSpec := { name := "imageWhere", fn := fun _ => fun
  | [d1, d2] => { results := [.lit (.bool true)], args := [d1, d2] }
  | _ => none }
def imageWhereRow : OpenClaim := { program := "ytgfnpcoigooblaa", sum := "ca6b5bef362ab2b1fe041109de763439a75fb16a057c69613159c6db2823bb0f", func := "seizin/seizinlaw17.ImageWhere", spec := "imageWhere", unfollowed := true, recurses := true, apart := false }
def ImageWhereSaid : Prop := imageWhereRow.holds Try.pinned (OpenSpec.ofChange imageWhereSpec)

/-- ITS FALSE NEIGHBOUR: 'it returns false'. Refute it at one input. -/
def imageWhereWrong : ChangeSpec := { name := "imageWhere", fn := fun _ => fun
  | [d1, d2] => { results := [.lit (.bool false)], args := [d1, d2] }
  | _ => none }
def ImageWhereWrongFalsely : Prop := imageWhereRow.holds Try.pinned (OpenSpec.ofChange imageWhereWrong)

/-- 'seizinlaw17.ImageBack': WHATEVER THE INPUT: true; the input reads as it did. -/
def imageBackSpec : ChangeSpec := { name := "imageBack", fn := fun _ => fun
  | [d1, d2] => { results := [.lit (.bool true)], args := [d1, d2] }
  | _ => none }
def imageBackRow : OpenClaim := { program := "ytgfnpcoigooblaa", sum := "ca6b5bef362ab2b1fe041109de763439a75fb16a057c69613159c6db2823bb0f", func := "seizin/seizinlaw17.ImageBack", spec := "imageBack", unfollowed := true, recurses := true, apart := false }
def ImageBackSaid : Prop := imageBackRow.holds Try.pinned (OpenSpec.ofChange imageBackSpec)

/-- ITS FALSE NEIGHBOUR: 'it returns false'. Refute it at one input. -/
def imageBackWrong : ChangeSpec := { name := "imageBack", fn := fun _ => fun
  | [d1, d2] => { results := [.lit (.bool false)], args := [d1, d2] }
  | _ => none }
def ImageBackWrongFalsely : Prop := imageBackRow.holds Try.pinned (OpenSpec.ofChange imageBackWrong)

/-- 'seizinlaw17.ImageApart': WHATEVER THE INPUT: true; the input reads as it did. -/
def imageApartSpec : ChangeSpec := { name := "imageApart", fn := fun _ => fun
  | [d] => { results := [.lit (.bool true)], args := [d] }
  | _ => none }
def imageApartRow : OpenClaim := { program := "ytgfnpcoigooblaa", sum := "ca6b5bef362ab2b1fe041109de763439a75fb16a057c69613159c6db2823bb0f", func := "seizin/seizinlaw17.ImageApart", spec := "imageApart", unfollowed := true, recurses := true, apart := false }
def ImageApartSaid : Prop := imageApartRow.holds Try.pinned (OpenSpec.ofChange imageApartSpec)

/-- ITS FALSE NEIGHBOUR: 'it returns false'. Refute it at one input. -/
def imageApartWrong : ChangeSpec := { name := "imageApart", fn := fun _ => fun
  | [d] => { results := [.lit (.bool false)], args := [d] }
  | _ => none }
def ImageApartWrongFalsely : Prop := imageApartRow.holds Try.pinned (OpenSpec.ofChange imageApartWrong)

/-- 'seizinlaw17.ImageOwn': WHATEVER THE INPUT: true; the input reads as it did. -/
def imageOwnSpec : ChangeSpec := { name := "imageOwn", fn := fun _ => fun
  | [d1, d2, d3] => { results := [.lit (.bool true)], args := [d1, d2, d3] }
  | _ => none }
def imageOwnRow : OpenClaim := { program := "ytgfnpcoigooblaa", sum := "ca6b5bef362ab2b1fe041109de763439a75fb16a057c69613159c6db2823bb0f", func := "seizin/seizinlaw17.ImageOwn", spec := "imageOwn", unfollowed := true, recurses := true, apart := false }
def ImageOwnSaid : Prop := imageOwnRow.holds Try.pinned (OpenSpec.ofChange imageOwnSpec)

/-- ITS FALSE NEIGHBOUR: 'it returns false'. Refute it at one input. -/
def imageOwnWrong : ChangeSpec := { name := "imageOwn", fn := fun _ => fun
  | [d1, d2, d3] => { results := [.lit (.bool false)], args := [d1, d2, d3] }
  | _ => none }
def ImageOwnWrongFalsely : Prop := imageOwnRow.holds Try.pinned (OpenSpec.ofChange imageOwnWrong)

/-- 'seizinlaw17.ImageStrict': WHATEVER THE INPUT: true; the input reads as it did. -/
def imageStrictSpec : ChangeSpec := { name := "imageStrict", fn := fun _ => fun
  | [d] => { results := [.lit (.bool true)], args := [d] }
  | _ => none }
def imageStrictRow : OpenClaim := { program := "ytgfnpcoigooblaa", sum := "ca6b5bef362ab2b1fe041109de763439a75fb16a057c69613159c6db2823bb0f", func := "seizin/seizinlaw17.ImageStrict", spec := "imageStrict", unfollowed := true, recurses := true, apart := false }
def ImageStrictSaid : Prop := imageStrictRow.holds Try.pinned (OpenSpec.ofChange imageStrictSpec)

/-- ITS FALSE NEIGHBOUR: 'it returns false'. Refute it at one input. -/
def imageStrictWrong : ChangeSpec := { name := "imageStrict", fn := fun _ => fun
  | [d] => { results := [.lit (.bool false)], args := [d] }
  | _ => none }
def ImageStrictWrongFalsely : Prop := imageStrictRow.holds Try.pinned (OpenSpec.ofChange imageStrictWrong)

/-- 'seizinlaw17.ImageCut': WHATEVER THE INPUT: true; the input reads as it did. -/
def imageCutSpec : ChangeSpec := { name := "imageCut", fn := fun _ => fun
  | [d1, d2, d3] => { results := [.lit (.bool true)], args := [d1, d2, d3] }
  | _ => none }
def imageCutRow : OpenClaim := { program := "ytgfnpcoigooblaa", sum := "ca6b5bef362ab2b1fe041109de763439a75fb16a057c69613159c6db2823bb0f", func := "seizin/seizinlaw17.ImageCut", spec := "imageCut", unfollowed := true, recurses := true, apart := false }
def ImageCutSaid : Prop := imageCutRow.holds Try.pinned (OpenSpec.ofChange imageCutSpec)

/-- ITS FALSE NEIGHBOUR: 'it returns false'. Refute it at one input. -/
def imageCutWrong : ChangeSpec := { name := "imageCut", fn := fun _ => fun
  | [d1, d2, d3] => { results := [.lit (.bool false)], args := [d1, d2, d3] }
  | _ => none }
def ImageCutWrongFalsely : Prop := imageCutRow.holds Try.pinned (OpenSpec.ofChange imageCutWrong)

/- THE SECOND FORM. 'bulk': how many values and letters a reading holds, each counted each time it is reached (what is shared counts as often as it is met; a slice's spare places count too). A statement '..UptoSaid' is the law's where the arguments, and the package variables that the reading takes, are together of bulk at most 1048576: NARROWER than '..Said'. Prove '..Said' where nothing that the law and all that it calls make is longer than what came in: it says more and counts as full. Else prove '..UptoSaid'. A law counts once. -/
mutual
def uptoBulk {H : Type} : DataW H → Nat
  | .lit (.string bytes) => bytes.length + 1
  | .lit _ => 1
  | .nil => 1
  | .ptr d => uptoBulk d + 1
  | .slice elems spare => uptoBulkAll elems + uptoBulkAll spare + 1
  | .agg parts => uptoBulkAll parts + 1
  | .iface _ d => uptoBulk d + 1
  | .map entries => uptoBulkEntries entries + 1
  | .held _ => 1
def uptoBulkAll {H : Type} : List (DataW H) → Nat
  | [] => 0
  | d :: r => uptoBulk d + uptoBulkAll r
def uptoBulkEntries {H : Type} : List (Lit × DataW H) → Nat
  | [] => 0
  | x :: r => uptoBulkEntry x + uptoBulkEntries r
def uptoBulkEntry {H : Type} : Lit × DataW H → Nat
  | (.string bytes, d) => bytes.length + uptoBulk d + 1
  | (_, d) => uptoBulk d + 1
 end
def uptoSmall : (H : Type) → List (DataW H) → Bool := fun _ ds => decide (uptoBulkAll ds ≤ 1048576)
def OpenSpec.upto (s : _root_.Go.ChangeSpec) : _root_.Go.OpenSpec := { _root_.Go.OpenSpec.ofChange s with cond := some uptoSmall }

/-- 'seizinlaw17.ImageTells', WHERE WHAT IT READS IS OF BULK AT MOST 1048576: true; the input reads as it did. -/
def imageTellsUptoRow : OpenClaim := { program := "ytgfnpcoigooblaa", sum := "ca6b5bef362ab2b1fe041109de763439a75fb16a057c69613159c6db2823bb0f", func := "seizin/seizinlaw17.ImageTells", spec := "imageTells", unfollowed := true, recurses := true, apart := false, narrowed := true }
def ImageTellsUptoSaid : Prop := imageTellsUptoRow.holds Try.pinned (OpenSpec.upto imageTellsSpec)

/-- 'seizinlaw17.ImageWhere', WHERE WHAT IT READS IS OF BULK AT MOST 1048576: true; the input reads as it did. -/
def imageWhereUptoRow : OpenClaim := { program := "ytgfnpcoigooblaa", sum := "ca6b5bef362ab2b1fe041109de763439a75fb16a057c69613159c6db2823bb0f", func := "seizin/seizinlaw17.ImageWhere", spec := "imageWhere", unfollowed := true, recurses := true, apart := false, narrowed := true }
def ImageWhereUptoSaid : Prop := imageWhereUptoRow.holds Try.pinned (OpenSpec.upto imageWhereSpec)

/-- 'seizinlaw17.ImageBack', WHERE WHAT IT READS IS OF BULK AT MOST 1048576: true; the input reads as it did. -/
def imageBackUptoRow : OpenClaim := { program := "ytgfnpcoigooblaa", sum := "ca6b5bef362ab2b1fe041109de763439a75fb16a057c69613159c6db2823bb0f", func := "seizin/seizinlaw17.ImageBack", spec := "imageBack", unfollowed := true, recurses := true, apart := false, narrowed := true }
def ImageBackUptoSaid : Prop := imageBackUptoRow.holds Try.pinned (OpenSpec.upto imageBackSpec)

/-- 'seizinlaw17.ImageApart', WHERE WHAT IT READS IS OF BULK AT MOST 1048576: true; the input reads as it did. -/
def imageApartUptoRow : OpenClaim := { program := "ytgfnpcoigooblaa", sum := "ca6b5bef362ab2b1fe041109de763439a75fb16a057c69613159c6db2823bb0f", func := "seizin/seizinlaw17.ImageApart", spec := "imageApart", unfollowed := true, recurses := true, apart := false, narrowed := true }
def ImageApartUptoSaid : Prop := imageApartUptoRow.holds Try.pinned (OpenSpec.upto imageApartSpec)

/-- 'seizinlaw17.ImageOwn', WHERE WHAT IT READS IS OF BULK AT MOST 1048576: true; the input reads as it did. -/
def imageOwnUptoRow : OpenClaim := { program := "ytgfnpcoigooblaa", sum := "ca6b5bef362ab2b1fe041109de763439a75fb16a057c69613159c6db2823bb0f", func := "seizin/seizinlaw17.ImageOwn", spec := "imageOwn", unfollowed := true, recurses := true, apart := false, narrowed := true }
def ImageOwnUptoSaid : Prop := imageOwnUptoRow.holds Try.pinned (OpenSpec.upto imageOwnSpec)

/-- 'seizinlaw17.ImageStrict', WHERE WHAT IT READS IS OF BULK AT MOST 1048576: true; the input reads as it did. -/
def imageStrictUptoRow : OpenClaim := { program := "ytgfnpcoigooblaa", sum := "ca6b5bef362ab2b1fe041109de763439a75fb16a057c69613159c6db2823bb0f", func := "seizin/seizinlaw17.ImageStrict", spec := "imageStrict", unfollowed := true, recurses := true, apart := false, narrowed := true }
def ImageStrictUptoSaid : Prop := imageStrictUptoRow.holds Try.pinned (OpenSpec.upto imageStrictSpec)

/-- 'seizinlaw17.ImageCut', WHERE WHAT IT READS IS OF BULK AT MOST 1048576: true; the input reads as it did. -/
def imageCutUptoRow : OpenClaim := { program := "ytgfnpcoigooblaa", sum := "ca6b5bef362ab2b1fe041109de763439a75fb16a057c69613159c6db2823bb0f", func := "seizin/seizinlaw17.ImageCut", spec := "imageCut", unfollowed := true, recurses := true, apart := false, narrowed := true }
def ImageCutUptoSaid : Prop := imageCutUptoRow.holds Try.pinned (OpenSpec.upto imageCutSpec)

end Rows
end Go.Proofs.Ytgfnpcoigooblaa

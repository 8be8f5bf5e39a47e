/-
  No cell of these rows narrows 'for every input' (looked for: loops, veiled, ifaces, maps, wideKeys, modest, calm, conditions, laid).
  DERIVED. THE GIVEN ROWS OF THIS SEAT. 7 by the template 'for every input the law returns true; each argument reads behind the call as it read before'; 0 by the template 'total and deterministic' (their statements: YtdfjpmihjfnebaaTotals.lean).
  GIVEN WITH THE SEED: the statements are not yours to turn. If you find one false, say at which input.
  Laid BY PROGRAM, IN A SANDBOX (cutbox-rows.mjs): the forced cells as the released guide's own fill.sh prints them over the translation 6453ffc5b31a9fcb… (all of the seat's roots in one cut). By AI agents, Wed Nov 11 2026. No macro, syntax, notation, axiom, sorry.
-/
import Derived.Test.YtdfjpmihjfnebaaChecked
import GoSem.Claim
import GoSem.ClaimJoined
import GoSem.ClaimMapViews
import Derived.JoinedTies
import Derived.KernelRfl
namespace Go.Proofs.Ytdfjpmihjfnebaa
/- THE CELL 'sum', in the pinned program and in every row, IS THE sha256 OF THE DUMP (.gsa) THAT YtdfjpmihjfnebaaProg.lean LOADS. Nothing in Lean hashes anything: it is a label: what it is worth is what the hold of that sum in a sandbox is worth. -/
noncomputable def Try.pinned : Pinned := { name := "ytdfjpmihjfnebaa", sum := "6453ffc5b31a9fcb3599a134bfa27416a832b3d7a50c37410dbbb7798f942732", checked := Try.checked }
namespace Rows
def none {H : Type} : Left H := { results := [], args := [] }

/-- 'seizinlaw15.CodeTells': WHATEVER THE INPUT: true; the input reads as it did. -/
def codeTellsSpec : ChangeSpec := { name := "codeTells", fn := fun _ => fun
  | [d1, d2, d3] => { results := [.lit (.bool true)], args := [d1, d2, d3] }
  | _ => none }
def codeTellsRow : OpenClaim := { program := "ytdfjpmihjfnebaa", sum := "6453ffc5b31a9fcb3599a134bfa27416a832b3d7a50c37410dbbb7798f942732", func := "seizin/seizinlaw15.CodeTells", spec := "codeTells", unfollowed := true, recurses := true, apart := false }
def CodeTellsSaid : Prop := codeTellsRow.holds Try.pinned (OpenSpec.ofChange codeTellsSpec)

/-- ITS FALSE NEIGHBOUR: 'it returns false'. Refute it at one input. -/
def codeTellsWrong : ChangeSpec := { name := "codeTells", fn := fun _ => fun
  | [d1, d2, d3] => { results := [.lit (.bool false)], args := [d1, d2, d3] }
  | _ => none }
def CodeTellsWrongFalsely : Prop := codeTellsRow.holds Try.pinned (OpenSpec.ofChange codeTellsWrong)

/-- 'seizinlaw15.CodeBack': WHATEVER THE INPUT: true; the input reads as it did. -/
def codeBackSpec : ChangeSpec := { name := "codeBack", fn := fun _ => fun
  | [d1, d2] => { results := [.lit (.bool true)], args := [d1, d2] }
  | _ => none }
def codeBackRow : OpenClaim := { program := "ytdfjpmihjfnebaa", sum := "6453ffc5b31a9fcb3599a134bfa27416a832b3d7a50c37410dbbb7798f942732", func := "seizin/seizinlaw15.CodeBack", spec := "codeBack", unfollowed := true, recurses := true, apart := false }
def CodeBackSaid : Prop := codeBackRow.holds Try.pinned (OpenSpec.ofChange codeBackSpec)

/-- ITS FALSE NEIGHBOUR: 'it returns false'. Refute it at one input. -/
def codeBackWrong : ChangeSpec := { name := "codeBack", fn := fun _ => fun
  | [d1, d2] => { results := [.lit (.bool false)], args := [d1, d2] }
  | _ => none }
def CodeBackWrongFalsely : Prop := codeBackRow.holds Try.pinned (OpenSpec.ofChange codeBackWrong)

/-- 'seizinlaw15.CodeAll': WHATEVER THE INPUT: true; the input reads as it did. -/
def codeAllSpec : ChangeSpec := { name := "codeAll", fn := fun _ => fun
  | [d1, d2, d3] => { results := [.lit (.bool true)], args := [d1, d2, d3] }
  | _ => none }
def codeAllRow : OpenClaim := { program := "ytdfjpmihjfnebaa", sum := "6453ffc5b31a9fcb3599a134bfa27416a832b3d7a50c37410dbbb7798f942732", func := "seizin/seizinlaw15.CodeAll", spec := "codeAll", unfollowed := true, recurses := true, apart := false }
def CodeAllSaid : Prop := codeAllRow.holds Try.pinned (OpenSpec.ofChange codeAllSpec)

/-- ITS FALSE NEIGHBOUR: 'it returns false'. Refute it at one input. -/
def codeAllWrong : ChangeSpec := { name := "codeAll", fn := fun _ => fun
  | [d1, d2, d3] => { results := [.lit (.bool false)], args := [d1, d2, d3] }
  | _ => none }
def CodeAllWrongFalsely : Prop := codeAllRow.holds Try.pinned (OpenSpec.ofChange codeAllWrong)

/-- 'seizinlaw15.CodeCut': WHATEVER THE INPUT: true; the input reads as it did. -/
def codeCutSpec : ChangeSpec := { name := "codeCut", fn := fun _ => fun
  | [d1, d2] => { results := [.lit (.bool true)], args := [d1, d2] }
  | _ => none }
def codeCutRow : OpenClaim := { program := "ytdfjpmihjfnebaa", sum := "6453ffc5b31a9fcb3599a134bfa27416a832b3d7a50c37410dbbb7798f942732", func := "seizin/seizinlaw15.CodeCut", spec := "codeCut", unfollowed := true, recurses := true, apart := false }
def CodeCutSaid : Prop := codeCutRow.holds Try.pinned (OpenSpec.ofChange codeCutSpec)

/-- ITS FALSE NEIGHBOUR: 'it returns false'. Refute it at one input. -/
def codeCutWrong : ChangeSpec := { name := "codeCut", fn := fun _ => fun
  | [d1, d2] => { results := [.lit (.bool false)], args := [d1, d2] }
  | _ => none }
def CodeCutWrongFalsely : Prop := codeCutRow.holds Try.pinned (OpenSpec.ofChange codeCutWrong)

/-- 'seizinlaw15.CodeKinds': WHATEVER THE INPUT: true; the input reads as it did. -/
def codeKindsSpec : ChangeSpec := { name := "codeKinds", fn := fun _ => fun
  | [d1, d2, d3, d4] => { results := [.lit (.bool true)], args := [d1, d2, d3, d4] }
  | _ => none }
def codeKindsRow : OpenClaim := { program := "ytdfjpmihjfnebaa", sum := "6453ffc5b31a9fcb3599a134bfa27416a832b3d7a50c37410dbbb7798f942732", func := "seizin/seizinlaw15.CodeKinds", spec := "codeKinds", unfollowed := true, recurses := true, apart := false }
def CodeKindsSaid : Prop := codeKindsRow.holds Try.pinned (OpenSpec.ofChange codeKindsSpec)

/-- ITS FALSE NEIGHBOUR: 'it returns false'. Refute it at one input. -/
def codeKindsWrong : ChangeSpec := { name := "codeKinds", fn := fun _ => fun
  | [d1, d2, d3, d4] => { results := [.lit (.bool false)], args := [d1, d2, d3, d4] }
  | _ => none }
def CodeKindsWrongFalsely : Prop := codeKindsRow.holds Try.pinned (OpenSpec.ofChange codeKindsWrong)

/-- 'seizinlaw15.CodeWide': WHATEVER THE INPUT: true; the input reads as it did. -/
def codeWideSpec : ChangeSpec := { name := "codeWide", fn := fun _ => fun
  | [d1, d2, d3] => { results := [.lit (.bool true)], args := [d1, d2, d3] }
  | _ => none }
def codeWideRow : OpenClaim := { program := "ytdfjpmihjfnebaa", sum := "6453ffc5b31a9fcb3599a134bfa27416a832b3d7a50c37410dbbb7798f942732", func := "seizin/seizinlaw15.CodeWide", spec := "codeWide", unfollowed := true, recurses := true, apart := false }
def CodeWideSaid : Prop := codeWideRow.holds Try.pinned (OpenSpec.ofChange codeWideSpec)

/-- ITS FALSE NEIGHBOUR: 'it returns false'. Refute it at one input. -/
def codeWideWrong : ChangeSpec := { name := "codeWide", fn := fun _ => fun
  | [d1, d2, d3] => { results := [.lit (.bool false)], args := [d1, d2, d3] }
  | _ => none }
def CodeWideWrongFalsely : Prop := codeWideRow.holds Try.pinned (OpenSpec.ofChange codeWideWrong)

/-- 'seizinlaw15.CodeUnlike': WHATEVER THE INPUT: true; the input reads as it did. -/
def codeUnlikeSpec : ChangeSpec := { name := "codeUnlike", fn := fun _ => fun
  | [d1, d2] => { results := [.lit (.bool true)], args := [d1, d2] }
  | _ => none }
def codeUnlikeRow : OpenClaim := { program := "ytdfjpmihjfnebaa", sum := "6453ffc5b31a9fcb3599a134bfa27416a832b3d7a50c37410dbbb7798f942732", func := "seizin/seizinlaw15.CodeUnlike", spec := "codeUnlike", unfollowed := true, recurses := true, apart := false }
def CodeUnlikeSaid : Prop := codeUnlikeRow.holds Try.pinned (OpenSpec.ofChange codeUnlikeSpec)

/-- ITS FALSE NEIGHBOUR: 'it returns false'. Refute it at one input. -/
def codeUnlikeWrong : ChangeSpec := { name := "codeUnlike", fn := fun _ => fun
  | [d1, d2] => { results := [.lit (.bool false)], args := [d1, d2] }
  | _ => none }
def CodeUnlikeWrongFalsely : Prop := codeUnlikeRow.holds Try.pinned (OpenSpec.ofChange codeUnlikeWrong)

/- THE SECOND FORM. 'bulk': how many values and letters a reading holds, each counted each time it is reached (what is shared counts as often as it is met; a slice's spare places count too). A statement '..UptoSaid' is the law's where the arguments, and the package variables that the reading takes, are together of bulk at most 1048576: NARROWER than '..Said'. Prove '..Said' where nothing that the law and all that it calls make is longer than what came in: it says more and counts as full. Else prove '..UptoSaid'. A law counts once. -/
mutual
def uptoBulk {H : Type} : DataW H → Nat
  | .lit (.string bytes) => bytes.length + 1
  | .lit _ => 1
  | .nil => 1
  | .ptr d => uptoBulk d + 1
  | .slice elems spare => uptoBulkAll elems + uptoBulkAll spare + 1
  | .agg parts => uptoBulkAll parts + 1
  | .iface _ d => uptoBulk d + 1
  | .map entries => uptoBulkEntries entries + 1
  | .held _ => 1
def uptoBulkAll {H : Type} : List (DataW H) → Nat
  | [] => 0
  | d :: r => uptoBulk d + uptoBulkAll r
def uptoBulkEntries {H : Type} : List (Lit × DataW H) → Nat
  | [] => 0
  | x :: r => uptoBulkEntry x + uptoBulkEntries r
def uptoBulkEntry {H : Type} : Lit × DataW H → Nat
  | (.string bytes, d) => bytes.length + uptoBulk d + 1
  | (_, d) => uptoBulk d + 1
 end
def uptoSmall : (H : Type) → List (DataW H) → Bool := fun _ ds => decide (uptoBulkAll ds ≤ 1048576)
def OpenSpec.upto (s : _root_.Go.ChangeSpec) : _root_.Go.OpenSpec := { _root_.Go.OpenSpec.ofChange s with cond := some uptoSmall }

/-- 'seizinlaw15.CodeTells', WHERE WHAT IT READS IS OF BULK AT MOST 1048576: true; the input reads as it did. -/
def codeTellsUptoRow : OpenClaim := { program := "ytdfjpmihjfnebaa", sum := "6453ffc5b31a9fcb3599a134bfa27416a832b3d7a50c37410dbbb7798f942732", func := "seizin/seizinlaw15.CodeTells", spec := "codeTells", unfollowed := true, recurses := true, apart := false, narrowed := true }
def CodeTellsUptoSaid : Prop := codeTellsUptoRow.holds Try.pinned (OpenSpec.upto codeTellsSpec)

/-- 'seizinlaw15.CodeBack', WHERE WHAT IT READS IS OF BULK AT MOST 1048576: true; the input reads as it did. -/
def codeBackUptoRow : OpenClaim := { program := "ytdfjpmihjfnebaa", sum := "6453ffc5b31a9fcb3599a134bfa27416a832b3d7a50c37410dbbb7798f942732", func := "seizin/seizinlaw15.CodeBack", spec := "codeBack", unfollowed := true, recurses := true, apart := false, narrowed := true }
def CodeBackUptoSaid : Prop := codeBackUptoRow.holds Try.pinned (OpenSpec.upto codeBackSpec)

/-- 'seizinlaw15.CodeAll', WHERE WHAT IT READS IS OF BULK AT MOST 1048576: true; the input reads as it did. -/
def codeAllUptoRow : OpenClaim := { program := "ytdfjpmihjfnebaa", sum := "6453ffc5b31a9fcb3599a134bfa27416a832b3d7a50c37410dbbb7798f942732", func := "seizin/seizinlaw15.CodeAll", spec := "codeAll", unfollowed := true, recurses := true, apart := false, narrowed := true }
def CodeAllUptoSaid : Prop := codeAllUptoRow.holds Try.pinned (OpenSpec.upto codeAllSpec)

/-- 'seizinlaw15.CodeCut', WHERE WHAT IT READS IS OF BULK AT MOST 1048576: true; the input reads as it did. -/
def codeCutUptoRow : OpenClaim := { program := "ytdfjpmihjfnebaa", sum := "6453ffc5b31a9fcb3599a134bfa27416a832b3d7a50c37410dbbb7798f942732", func := "seizin/seizinlaw15.CodeCut", spec := "codeCut", unfollowed := true, recurses := true, apart := false, narrowed := true }
def CodeCutUptoSaid : Prop := codeCutUptoRow.holds Try.pinned (OpenSpec.upto codeCutSpec)

/-- 'seizinlaw15.CodeKinds', WHERE WHAT IT READS IS OF BULK AT MOST 1048576: true; the input reads as it did. -/
def codeKindsUptoRow : OpenClaim := { program := "ytdfjpmihjfnebaa", sum := "6453ffc5b31a9fcb3599a134bfa27416a832b3d7a50c37410dbbb7798f942732", func := "seizin/seizinlaw15.CodeKinds", spec := "codeKinds", unfollowed := true, recurses := true, apart := false, narrowed := true }
def CodeKindsUptoSaid : Prop := codeKindsUptoRow.holds Try.pinned (OpenSpec.upto codeKindsSpec)

/-- 'seizinlaw15.CodeWide', WHERE WHAT IT READS IS OF BULK AT MOST 1048576: true; the input reads as it did. -/
def codeWideUptoRow : OpenClaim := { program := "ytdfjpmihjfnebaa", sum := "6453ffc5b31a9fcb3599a134bfa27416a832b3d7a50c37410dbbb7798f942732", func := "seizin/seizinlaw15.CodeWide", spec := "codeWide", unfollowed := true, recurses := true, apart := false, narrowed := true }
def CodeWideUptoSaid : Prop := codeWideUptoRow.holds Try.pinned (OpenSpec.upto codeWideSpec)

/-- 'seizinlaw15.CodeUnlike', WHERE WHAT IT READS IS OF BULK AT MOST 1048576: true; the input reads as it did. -/
def codeUnlikeUptoRow : OpenClaim := { program := "ytdfjpmihjfnebaa", sum := "6453ffc5b31a9fcb3599a134bfa27416a832b3d7a50c37410dbbb7798f942732", func := "seizin/seizinlaw15.CodeUnlike", spec := "codeUnlike", unfollowed := true, recurses := true, apart := false, narrowed := true }
def CodeUnlikeUptoSaid : Prop := codeUnlikeUptoRow.holds Try.pinned (OpenSpec.upto codeUnlikeSpec)

end Rows
end Go.Proofs.Ytdfjpmihjfnebaa

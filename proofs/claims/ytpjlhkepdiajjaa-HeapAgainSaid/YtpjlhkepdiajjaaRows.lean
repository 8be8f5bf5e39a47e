/-
  No cell of these rows narrows 'for every input' (looked for: loops, veiled, ifaces, maps, wideKeys, modest, calm, conditions, laid).
  DERIVED. THE GIVEN ROWS OF THIS SEAT. 5 by the template 'for every input the law returns true; each argument reads behind the call as it read before'; 0 by the template 'total and deterministic' (their statements: YtpjlhkepdiajjaaTotals.lean).
  GIVEN WITH THE SEED: the statements are not yours to turn. If you find one false, say at which input.
  Laid BY PROGRAM, IN A SANDBOX (cutbox-rows.mjs): the forced cells as the released guide's own fill.sh prints them over the translation 8b6796eb43ba9127… (all of the seat's roots in one cut). By AI agents, Wed Nov 11 2026. No macro, syntax, notation, axiom, sorry.
-/
import Derived.Test.YtpjlhkepdiajjaaChecked
import GoSem.Claim
import GoSem.ClaimJoined
import GoSem.ClaimMapViews
import Derived.JoinedTies
import Derived.KernelRfl
namespace Go.Proofs.Ytpjlhkepdiajjaa
/- THE CELL 'sum', in the pinned program and in every row, IS THE sha256 OF THE DUMP (.gsa) THAT YtpjlhkepdiajjaaProg.lean LOADS. Nothing in Lean hashes anything: it is a label: what it is worth is what the hold of that sum in a sandbox is worth. -/
noncomputable def Try.pinned : Pinned := { name := "ytpjlhkepdiajjaa", sum := "8b6796eb43ba9127f650751ed4ac1f8d42fcdb88c664cff49ee69125fe830b9f", checked := Try.checked }
namespace Rows
def none {H : Type} : Left H := { results := [], args := [] }

/-- 'seizinlaw14.HeapApart': WHATEVER THE INPUT: true; the input reads as it did. -/
def heapApartSpec : ChangeSpec := { name := "heapApart", fn := fun _ => fun
  | [d1, d2] => { results := [.lit (.bool true)], args := [d1, d2] }
  | _ => none }
def heapApartRow : OpenClaim := { program := "ytpjlhkepdiajjaa", sum := "8b6796eb43ba9127f650751ed4ac1f8d42fcdb88c664cff49ee69125fe830b9f", func := "seizin/seizinlaw14.HeapApart", spec := "heapApart", inPlace := ["slices.overlaps[seizin/extent.run]"], unfollowed := true, recurses := true, apart := false }
def HeapApartSaid : Prop := heapApartRow.holds Try.pinned (OpenSpec.ofChange heapApartSpec)

/-- ITS FALSE NEIGHBOUR: 'it returns false'. Refute it at one input. -/
def heapApartWrong : ChangeSpec := { name := "heapApart", fn := fun _ => fun
  | [d1, d2] => { results := [.lit (.bool false)], args := [d1, d2] }
  | _ => none }
def HeapApartWrongFalsely : Prop := heapApartRow.holds Try.pinned (OpenSpec.ofChange heapApartWrong)

/-- 'seizinlaw14.HeapOnce': WHATEVER THE INPUT: true; the input reads as it did. -/
def heapOnceSpec : ChangeSpec := { name := "heapOnce", fn := fun _ => fun
  | [d1, d2, d3, d4] => { results := [.lit (.bool true)], args := [d1, d2, d3, d4] }
  | _ => none }
def heapOnceRow : OpenClaim := { program := "ytpjlhkepdiajjaa", sum := "8b6796eb43ba9127f650751ed4ac1f8d42fcdb88c664cff49ee69125fe830b9f", func := "seizin/seizinlaw14.HeapOnce", spec := "heapOnce", inPlace := ["slices.overlaps[seizin/extent.run]"], unfollowed := true, recurses := true, apart := false }
def HeapOnceSaid : Prop := heapOnceRow.holds Try.pinned (OpenSpec.ofChange heapOnceSpec)

/-- ITS FALSE NEIGHBOUR: 'it returns false'. Refute it at one input. -/
def heapOnceWrong : ChangeSpec := { name := "heapOnce", fn := fun _ => fun
  | [d1, d2, d3, d4] => { results := [.lit (.bool false)], args := [d1, d2, d3, d4] }
  | _ => none }
def HeapOnceWrongFalsely : Prop := heapOnceRow.holds Try.pinned (OpenSpec.ofChange heapOnceWrong)

/-- 'seizinlaw14.HeapAgain': WHATEVER THE INPUT: true; the input reads as it did. -/
def heapAgainSpec : ChangeSpec := { name := "heapAgain", fn := fun _ => fun
  | [d1, d2, d3] => { results := [.lit (.bool true)], args := [d1, d2, d3] }
  | _ => none }
def heapAgainRow : OpenClaim := { program := "ytpjlhkepdiajjaa", sum := "8b6796eb43ba9127f650751ed4ac1f8d42fcdb88c664cff49ee69125fe830b9f", func := "seizin/seizinlaw14.HeapAgain", spec := "heapAgain", inPlace := ["slices.overlaps[seizin/extent.run]"], unfollowed := true, recurses := true, apart := false }
def HeapAgainSaid : Prop := heapAgainRow.holds Try.pinned (OpenSpec.ofChange heapAgainSpec)

/-- ITS FALSE NEIGHBOUR: 'it returns false'. Refute it at one input. -/
def heapAgainWrong : ChangeSpec := { name := "heapAgain", fn := fun _ => fun
  | [d1, d2, d3] => { results := [.lit (.bool false)], args := [d1, d2, d3] }
  | _ => none }
def HeapAgainWrongFalsely : Prop := heapAgainRow.holds Try.pinned (OpenSpec.ofChange heapAgainWrong)

/-- 'seizinlaw14.HeapSums': WHATEVER THE INPUT: true; the input reads as it did. -/
def heapSumsSpec : ChangeSpec := { name := "heapSums", fn := fun _ => fun
  | [d1, d2] => { results := [.lit (.bool true)], args := [d1, d2] }
  | _ => none }
def heapSumsRow : OpenClaim := { program := "ytpjlhkepdiajjaa", sum := "8b6796eb43ba9127f650751ed4ac1f8d42fcdb88c664cff49ee69125fe830b9f", func := "seizin/seizinlaw14.HeapSums", spec := "heapSums", inPlace := ["slices.overlaps[seizin/extent.run]"], unfollowed := true, recurses := true, apart := false }
def HeapSumsSaid : Prop := heapSumsRow.holds Try.pinned (OpenSpec.ofChange heapSumsSpec)

/-- ITS FALSE NEIGHBOUR: 'it returns false'. Refute it at one input. -/
def heapSumsWrong : ChangeSpec := { name := "heapSums", fn := fun _ => fun
  | [d1, d2] => { results := [.lit (.bool false)], args := [d1, d2] }
  | _ => none }
def HeapSumsWrongFalsely : Prop := heapSumsRow.holds Try.pinned (OpenSpec.ofChange heapSumsWrong)

/-- 'seizinlaw14.HeapSizes': WHATEVER THE INPUT: true; the input reads as it did. -/
def heapSizesSpec : ChangeSpec := { name := "heapSizes", fn := fun _ => fun
  | [d] => { results := [.lit (.bool true)], args := [d] }
  | _ => none }
def heapSizesRow : OpenClaim := { program := "ytpjlhkepdiajjaa", sum := "8b6796eb43ba9127f650751ed4ac1f8d42fcdb88c664cff49ee69125fe830b9f", func := "seizin/seizinlaw14.HeapSizes", spec := "heapSizes", inPlace := ["slices.overlaps[seizin/extent.run]"], unfollowed := true, recurses := true, apart := false }
def HeapSizesSaid : Prop := heapSizesRow.holds Try.pinned (OpenSpec.ofChange heapSizesSpec)

/-- ITS FALSE NEIGHBOUR: 'it returns false'. Refute it at one input. -/
def heapSizesWrong : ChangeSpec := { name := "heapSizes", fn := fun _ => fun
  | [d] => { results := [.lit (.bool false)], args := [d] }
  | _ => none }
def HeapSizesWrongFalsely : Prop := heapSizesRow.holds Try.pinned (OpenSpec.ofChange heapSizesWrong)

/- THE SECOND FORM. 'bulk': how many values and letters a reading holds, each counted each time it is reached (what is shared counts as often as it is met; a slice's spare places count too). A statement '..UptoSaid' is the law's where the arguments, and the package variables that the reading takes, are together of bulk at most 1048576: NARROWER than '..Said'. Prove '..Said' where nothing that the law and all that it calls make is longer than what came in: it says more and counts as full. Else prove '..UptoSaid'. A law counts once. -/
mutual
def uptoBulk {H : Type} : DataW H → Nat
  | .lit (.string bytes) => bytes.length + 1
  | .lit _ => 1
  | .nil => 1
  | .ptr d => uptoBulk d + 1
  | .slice elems spare => uptoBulkAll elems + uptoBulkAll spare + 1
  | .agg parts => uptoBulkAll parts + 1
  | .iface _ d => uptoBulk d + 1
  | .map entries => uptoBulkEntries entries + 1
  | .held _ => 1
def uptoBulkAll {H : Type} : List (DataW H) → Nat
  | [] => 0
  | d :: r => uptoBulk d + uptoBulkAll r
def uptoBulkEntries {H : Type} : List (Lit × DataW H) → Nat
  | [] => 0
  | x :: r => uptoBulkEntry x + uptoBulkEntries r
def uptoBulkEntry {H : Type} : Lit × DataW H → Nat
  | (.string bytes, d) => bytes.length + uptoBulk d + 1
  | (_, d) => uptoBulk d + 1
 end
def uptoSmall : (H : Type) → List (DataW H) → Bool := fun _ ds => decide (uptoBulkAll ds ≤ 1048576)
def OpenSpec.upto (s : _root_.Go.ChangeSpec) : _root_.Go.OpenSpec := { _root_.Go.OpenSpec.ofChange s with cond := some uptoSmall }

/-- 'seizinlaw14.HeapApart', WHERE WHAT IT READS IS OF BULK AT MOST 1048576: true; the input reads as it did. -/
def heapApartUptoRow : OpenClaim := { program := "ytpjlhkepdiajjaa", sum := "8b6796eb43ba9127f650751ed4ac1f8d42fcdb88c664cff49ee69125fe830b9f", func := "seizin/seizinlaw14.HeapApart", spec := "heapApart", inPlace := ["slices.overlaps[seizin/extent.run]"], unfollowed := true, recurses := true, apart := false, narrowed := true }
def HeapApartUptoSaid : Prop := heapApartUptoRow.holds Try.pinned (OpenSpec.upto heapApartSpec)

/-- 'seizinlaw14.HeapOnce', WHERE WHAT IT READS IS OF BULK AT MOST 1048576: true; the input reads as it did. -/
def heapOnceUptoRow : OpenClaim := { program := "ytpjlhkepdiajjaa", sum := "8b6796eb43ba9127f650751ed4ac1f8d42fcdb88c664cff49ee69125fe830b9f", func := "seizin/seizinlaw14.HeapOnce", spec := "heapOnce", inPlace := ["slices.overlaps[seizin/extent.run]"], unfollowed := true, recurses := true, apart := false, narrowed := true }
def HeapOnceUptoSaid : Prop := heapOnceUptoRow.holds Try.pinned (OpenSpec.upto heapOnceSpec)

/-- 'seizinlaw14.HeapAgain', WHERE WHAT IT READS IS OF BULK AT MOST 1048576: true; the input reads as it did. -/
def heapAgainUptoRow : OpenClaim := { program := "ytpjlhkepdiajjaa", sum := "8b6796eb43ba9127f650751ed4ac1f8d42fcdb88c664cff49ee69125fe830b9f", func := "seizin/seizinlaw14.HeapAgain", spec := "heapAgain", inPlace := ["slices.overlaps[seizin/extent.run]"], unfollowed := true, recurses := true, apart := false, narrowed := true }
def HeapAgainUptoSaid : Prop := heapAgainUptoRow.holds Try.pinned (OpenSpec.upto heapAgainSpec)

/-- 'seizinlaw14.HeapSums', WHERE WHAT IT READS IS OF BULK AT MOST 1048576: true; the input reads as it did. -/
def heapSumsUptoRow : OpenClaim := { program := "ytpjlhkepdiajjaa", sum := "8b6796eb43ba9127f650751ed4ac1f8d42fcdb88c664cff49ee69125fe830b9f", func := "seizin/seizinlaw14.HeapSums", spec := "heapSums", inPlace := ["slices.overlaps[seizin/extent.run]"], unfollowed := true, recurses := true, apart := false, narrowed := true }
def HeapSumsUptoSaid : Prop := heapSumsUptoRow.holds Try.pinned (OpenSpec.upto heapSumsSpec)

/-- 'seizinlaw14.HeapSizes', WHERE WHAT IT READS IS OF BULK AT MOST 1048576: true; the input reads as it did. -/
def heapSizesUptoRow : OpenClaim := { program := "ytpjlhkepdiajjaa", sum := "8b6796eb43ba9127f650751ed4ac1f8d42fcdb88c664cff49ee69125fe830b9f", func := "seizin/seizinlaw14.HeapSizes", spec := "heapSizes", inPlace := ["slices.overlaps[seizin/extent.run]"], unfollowed := true, recurses := true, apart := false, narrowed := true }
def HeapSizesUptoSaid : Prop := heapSizesUptoRow.holds Try.pinned (OpenSpec.upto heapSizesSpec)

end Rows
end Go.Proofs.Ytpjlhkepdiajjaa

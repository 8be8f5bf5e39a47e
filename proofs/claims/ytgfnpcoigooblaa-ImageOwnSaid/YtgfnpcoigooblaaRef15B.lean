
/- The reference of layer 15: bytes. -/
import Derived.Test.YtgfnpcoigooblaaRef15
set_option linter.all false
namespace Go.Proofs.Ytgfnpcoigooblaa
open Go.RowKit

theorem right_wide {op a b c : Int} (h : rightB op a b c = true) (hw : wideB op = true) : -32768 ≤ b ∧ b ≤ 32767 := by
  unfold rightB at h
  unfold wideB at hw
  rw [beq_iff_eq] at hw
  rw [hw] at h
  simp [fineB, bnd] at h
  omega
theorem kinds_wide {op : Int} (o0 : 0 ≤ op) (o1 : op ≤ 29) : ∃ c0 c1 c2 : UInt8, kindsS op = str3 c0 c1 c2 ∧ wideB op = (((c1.toNat : Nat) : Int) == 119) := by
  obtain ⟨c0, c1, c2, hk, -, -, -, -, k1, -⟩ := kinds_form op o0 o1
  exact ⟨c0, c1, c2, hk, by unfold wideB; rw [k1]⟩
theorem right_op {op a b c : Int} (h : rightB op a b c = true) : 0 ≤ op ∧ op ≤ 29 := by
  unfold rightB at h
  simp at h
  omega

end Go.Proofs.Ytgfnpcoigooblaa

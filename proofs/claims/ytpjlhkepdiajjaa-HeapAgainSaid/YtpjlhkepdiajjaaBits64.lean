
/- Bits of numbers of 64 bits that are not below nothing. -/
import Derived.WalkKit
set_option linter.all false
namespace Go.Proofs.Ytpjlhkepdiajjaa

theorem ofInt_i64 (a : Nat) (h : a < 9223372036854775808) : (BitVec.ofInt 64 (a : Int)).toNat = a := by
  simp [BitVec.toNat_ofInt]
  omega
theorem wrap_i64 (n : Nat) (h : n < 9223372036854775808) : IntKind.i64.wrap (n : Int) = n := by
  unfold IntKind.wrap
  simp [IntKind.bits, IntKind.signed]
  omega
theorem i64_or (a b : Int) (h1 : 0 ≤ a) (h2 : a < 9223372036854775808) (h3 : 0 ≤ b) (h4 : b < 9223372036854775808) : bits .or .i64 a b = ((a.toNat ||| b.toNat : Nat) : Int) := by
  obtain ⟨A, rfl⟩ := Int.eq_ofNat_of_zero_le h1
  obtain ⟨B, rfl⟩ := Int.eq_ofNat_of_zero_le h3
  have hx : A ||| B < 2 ^ 63 := Nat.or_lt_two_pow (by omega) (by omega)
  show IntKind.i64.wrap ((BitVec.ofInt 64 (A : Int) ||| BitVec.ofInt 64 (B : Int)).toNat : Int) = _
  rw [BitVec.toNat_or, ofInt_i64 A (by omega), ofInt_i64 B (by omega), wrap_i64 _ (by omega)]
  simp
theorem i64_and (a b : Int) (h1 : 0 ≤ a) (h2 : a < 9223372036854775808) (h3 : 0 ≤ b) (h4 : b < 9223372036854775808) : bits .and .i64 a b = ((a.toNat &&& b.toNat : Nat) : Int) := by
  obtain ⟨A, rfl⟩ := Int.eq_ofNat_of_zero_le h1
  obtain ⟨B, rfl⟩ := Int.eq_ofNat_of_zero_le h3
  have hx : A &&& B < 2 ^ 63 := Nat.and_lt_two_pow _ (by omega)
  show IntKind.i64.wrap ((BitVec.ofInt 64 (A : Int) &&& BitVec.ofInt 64 (B : Int)).toNat : Int) = _
  rw [BitVec.toNat_and, ofInt_i64 A (by omega), ofInt_i64 B (by omega), wrap_i64 _ (by omega)]
  simp
theorem and_one (n : Int) (h1 : 0 ≤ n) (h2 : n < 9223372036854775808) : bits .and .i64 n 1 = n % 2 := by
  rw [i64_and _ _ h1 h2 (by omega) (by omega)]
  simp [Nat.and_one_is_mod]
  omega
theorem or256' (b c : Int) (b0 : 0 ≤ b) (b1 : b < 256) (c0 : 0 ≤ c) (c1 : c < 256) : bits .or .i64 (b * 256) c = b * 256 + c := by
  rw [i64_or _ _ (by omega) (by omega) (by omega) (by omega)]
  have h := Nat.shiftLeft_add_eq_or_of_lt (b := c.toNat) (i := 8) (by omega) b.toNat
  rw [Nat.shiftLeft_eq] at h
  rw [show (b * 256).toNat = b.toNat * 2 ^ 8 by omega, ← h]
  omega
end Go.Proofs.Ytpjlhkepdiajjaa


/- Capabilities: what is right, what one spans, what is under what (plain). -/
import Derived.Test.YtpjlhkepdiajjaaCap
import Derived.Test.YtpjlhkepdiajjaaBits64
set_option linter.all false
namespace Go.Proofs.Ytpjlhkepdiajjaa

def addrB (n : Int) : Bool := decide (0 ≤ n) && decide (n ≤ 4294967295)
def permB (n : Int) : Bool := decide (0 ≤ n) && decide (n ≤ 127)
/-- B1: is a capability right? -/
def rightC (c : Cap) : Bool := (addrB c.base && addrB c.top && addrB c.at' && permB c.perms && decide (0 ≤ c.ty) && decide (c.ty ≤ 255)) && (!c.tag || (decide (c.base ≤ c.top) && decide (c.top ≤ 16777216)))
/-- B2: does it span these? -/
def inC (c : Cap) (a n : Int) : Bool := decide (0 ≤ a) && decide (0 ≤ n) && decide (c.base ≤ a) && decide (a ≤ c.top) && decide (n ≤ c.top - a)
/-- All of q's bits are p's. -/
def subP (q p : Int) : Bool := bits .andNot .i64 q p == 0
def hasP (p q : Int) : Bool := permB p && permB q && subP q p
def underC (c d : Cap) : Bool := (decide (d.base ≤ c.base) && decide (c.base ≤ c.top) && decide (c.top ≤ d.top)) && hasP d.perms c.perms
theorem andNot_zero {x y : BitVec 64} (h : x &&& ~~~y = 0#64) : x &&& y = x := by
  ext i hi
  have h9 := congrArg (fun z : BitVec 64 => z.getLsbD i) h
  simp [hi] at h9
  simp only [BitVec.getElem_and, ← BitVec.getLsbD_eq_getElem]
  cases hu : x[i] <;> cases hv : y[i] <;> simp_all [← BitVec.getLsbD_eq_getElem]
theorem zero_andNot {x y : BitVec 64} (h : x &&& y = x) : x &&& ~~~y = 0#64 := by
  ext i hi
  have h9 := congrArg (fun z : BitVec 64 => z.getLsbD i) h
  simp [hi] at h9
  simp only [BitVec.getElem_and, BitVec.getElem_not, ← BitVec.getLsbD_eq_getElem]
  cases hu : x[i] <;> cases hv : y[i] <;> simp_all [← BitVec.getLsbD_eq_getElem]
theorem wrap_zero {x : BitVec 64} : IntKind.i64.wrap (x.toNat : Int) = 0 ↔ x = 0#64 := by
  have hlt := x.isLt
  constructor
  · intro h
    apply BitVec.eq_of_toNat_eq
    unfold IntKind.wrap at h
    simp only [IntKind.bits, IntKind.signed, Bool.true_and, decide_eq_true_eq] at h
    simp
    split at h <;> omega
  · rintro rfl
    rfl
theorem andNot_iff (a b : Int) : bits .andNot .i64 a b = 0 ↔ BitVec.ofInt 64 a &&& BitVec.ofInt 64 b = BitVec.ofInt 64 a := by
  show IntKind.i64.wrap ((BitVec.ofInt 64 a &&& ~~~(BitVec.ofInt 64 b)).toNat : Int) = 0 ↔ _
  rw [wrap_zero]
  exact ⟨andNot_zero, zero_andNot⟩
/-- What has no bit but the seven lowest ones. -/
theorem perm_bits {n : Int} (h1 : -9223372036854775808 ≤ n) (h2 : n ≤ 9223372036854775807) : (bits .andNot .i64 n 127 == 0) = permB n := by
  unfold permB
  rw [Bool.eq_iff_iff, beq_iff_eq, andNot_iff, Bool.and_eq_true, decide_eq_true_eq, decide_eq_true_eq]
  have hn : (BitVec.ofInt 64 n).toNat = (n % 18446744073709551616).toNat := by simp [BitVec.toNat_ofInt]
  have h7 : (BitVec.ofInt 64 127).toNat = 127 := by decide
  constructor
  · intro h
    have h := congrArg BitVec.toNat h
    rw [BitVec.toNat_and, h7, hn] at h
    have := Nat.and_le_right (n := (n % 18446744073709551616).toNat) (m := 127)
    omega
  · intro h
    apply BitVec.eq_of_toNat_eq
    rw [BitVec.toNat_and, h7, hn]
    have : (n % 18446744073709551616).toNat < 2 ^ 7 := by omega
    exact Nat.and_two_pow_sub_one_of_lt_two_pow this
/-- Bits of small numbers. -/
theorem subP_iff {q p : Int} (hq : permB q = true) (hp : permB p = true) : subP q p = true ↔ ∀ i, q.toNat.testBit i = true → p.toNat.testBit i = true := by
  unfold permB at hq hp
  rw [Bool.and_eq_true, decide_eq_true_eq, decide_eq_true_eq] at hq hp
  unfold subP
  rw [beq_iff_eq, andNot_iff]
  have e : ∀ {a : Int}, 0 ≤ a → a ≤ 127 → (BitVec.ofInt 64 a).toNat = a.toNat := fun h1 h2 => by simp [BitVec.toNat_ofInt]; omega
  constructor
  · intro h i hi
    have h := congrArg BitVec.toNat h
    rw [BitVec.toNat_and, e hq.1 hq.2, e hp.1 hp.2] at h
    have h3 := congrArg (fun n : Nat => n.testBit i) h
    simp only [Nat.testBit_and, hi, Bool.true_and] at h3
    exact h3
  · intro h
    apply BitVec.eq_of_toNat_eq
    rw [BitVec.toNat_and, e hq.1 hq.2, e hp.1 hp.2]
    apply Nat.eq_of_testBit_eq
    intro i
    rw [Nat.testBit_and]
    cases hb : q.toNat.testBit i with
    | false => rfl
    | true => rw [h i hb]; rfl
theorem hasP_iff {p q : Int} : hasP p q = true ↔ permB p = true ∧ permB q = true ∧ ∀ i, q.toNat.testBit i = true → p.toNat.testBit i = true := by
  unfold hasP
  rw [Bool.and_eq_true, Bool.and_eq_true]
  constructor
  · rintro ⟨⟨h1, h2⟩, h3⟩
    exact ⟨h1, h2, (subP_iff h2 h1).1 h3⟩
  · rintro ⟨h1, h2, h3⟩
    exact ⟨⟨h1, h2⟩, (subP_iff h2 h1).2 h3⟩
theorem hasP_refl {p : Int} (h : permB p = true) : hasP p p = true := hasP_iff.2 ⟨h, h, fun _ h => h⟩
theorem hasP_trans {p q r : Int} (h1 : hasP p q = true) (h2 : hasP q r = true) : hasP p r = true := by
  obtain ⟨a1, a2, a3⟩ := hasP_iff.1 h1
  obtain ⟨b1, b2, b3⟩ := hasP_iff.1 h2
  exact hasP_iff.2 ⟨a1, b2, fun i h => a3 i (b3 i h)⟩
theorem hasP_antisymm {p q : Int} (h1 : hasP p q = true) (h2 : hasP q p = true) : p = q := by
  obtain ⟨a1, a2, a3⟩ := hasP_iff.1 h1
  obtain ⟨b1, b2, b3⟩ := hasP_iff.1 h2
  have : p.toNat = q.toNat := Nat.eq_of_testBit_eq fun i => Bool.eq_iff_iff.2 ⟨b3 i, a3 i⟩
  unfold permB at a1 a2
  rw [Bool.and_eq_true, decide_eq_true_eq, decide_eq_true_eq] at a1 a2
  omega
theorem underC_iff {c d : Cap} : underC c d = true ↔ d.base ≤ c.base ∧ c.base ≤ c.top ∧ c.top ≤ d.top ∧ hasP d.perms c.perms = true := by
  unfold underC
  simp only [Bool.and_eq_true, decide_eq_true_eq]
  exact ⟨fun ⟨⟨⟨a, b⟩, c⟩, d⟩ => ⟨a, b, c, d⟩, fun ⟨a, b, c, d⟩ => ⟨⟨⟨a, b⟩, c⟩, d⟩⟩
theorem underC_trans {a b c : Cap} (h1 : underC a b = true) (h2 : underC b c = true) : underC a c = true := by
  obtain ⟨a1, a2, a3, a4⟩ := underC_iff.1 h1
  obtain ⟨b1, b2, b3, b4⟩ := underC_iff.1 h2
  exact underC_iff.2 ⟨by omega, a2, by omega, hasP_trans b4 a4⟩
theorem inC_iff {c : Cap} {a n : Int} : inC c a n = true ↔ 0 ≤ a ∧ 0 ≤ n ∧ c.base ≤ a ∧ a ≤ c.top ∧ n ≤ c.top - a := by
  unfold inC
  simp only [Bool.and_eq_true, decide_eq_true_eq]
  exact ⟨fun ⟨⟨⟨⟨a, b⟩, c⟩, d⟩, e⟩ => ⟨a, b, c, d, e⟩, fun ⟨a, b, c, d, e⟩ => ⟨⟨⟨⟨a, b⟩, c⟩, d⟩, e⟩⟩
theorem rightC_iff {c : Cap} : rightC c = true ↔ (0 ≤ c.base ∧ c.base ≤ 4294967295) ∧ (0 ≤ c.top ∧ c.top ≤ 4294967295) ∧ (0 ≤ c.at' ∧ c.at' ≤ 4294967295) ∧ permB c.perms = true ∧ 0 ≤ c.ty ∧ c.ty ≤ 255 ∧ (c.tag = true → c.base ≤ c.top ∧ c.top ≤ 16777216) := by
  unfold rightC addrB
  simp only [Bool.and_eq_true, Bool.or_eq_true, decide_eq_true_eq, Bool.not_eq_true']
  cases c.tag <;> simp <;> constructor <;> intro h <;> (try omega) <;> simp_all
end Go.Proofs.Ytpjlhkepdiajjaa

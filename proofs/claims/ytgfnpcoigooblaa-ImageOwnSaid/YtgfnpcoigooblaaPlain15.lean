
/- Plain laws on instructions and their bytes: no program in sight. -/
import Derived.Test.YtgfnpcoigooblaaCodeC
import Derived.Test.YtgfnpcoigooblaaEq
set_option linter.all false
namespace Go.Proofs.Ytgfnpcoigooblaa
open Go.RowKit

theorem ops_facts {op : Int} (h0 : 0 ≤ op) (h1 : op ≤ 29) : kch op 0 ≠ 119 ∧ kch op 2 ≠ 119 ∧ (kch op 1 = 119 → kch op 2 = 118) := by
  have h : ∀ k : Fin 30, kch (k.val : Int) 0 ≠ 119 ∧ kch (k.val : Int) 2 ≠ 119 ∧ (kch (k.val : Int) 1 = 119 → kch (k.val : Int) 2 = 118) := by decide +kernel
  have := h ⟨op.toNat, by omega⟩
  simp only at this
  rwa [show ((op.toNat : Nat) : Int) = op by omega] at this
theorem fine_byte {k n : Int} (hk : k ≠ 119) (h : fineB k n = true) : 0 ≤ n ∧ n < 256 := by
  unfold fineB bnd at h
  simp only [Bool.and_eq_true, decide_eq_true_eq] at h
  obtain ⟨h1, h2⟩ := h
  have hb : (k == 119) = false := by simpa using hk
  rw [hb] at h1 h2
  split at h1 <;> split at h2 <;> simp_all <;> first | omega | (split at h1 <;> split at h2 <;> simp_all <;> omega)
theorem fine_none {n : Int} (h : fineB 118 n = true) : n = 0 := by
  have : (bnd 118) = (0, 0) := by decide
  unfold fineB at h
  rw [this] at h
  simp at h
  omega
theorem fine_wide {n : Int} (h : fineB 119 n = true) : -32768 ≤ n ∧ n ≤ 32767 := by
  have : (bnd 119) = (-32768, 32767) := by decide
  unfold fineB at h
  rw [this] at h
  simpa using h
theorem right_parts {x : Ins} (h : rightI x = true) : 0 ≤ x.op ∧ x.op ≤ 29 ∧ fineB (kch x.op 0) x.a = true ∧ fineB (kch x.op 1) x.b = true ∧ fineB (kch x.op 2) x.c = true := by
  unfold rightI rightB at h
  simpa [and_assoc] using h
theorem i16_back {b : Int} (h0 : -32768 ≤ b) (h1 : b ≤ 32767) : i16 (256 * (b / 256 % 256) + b % 256) = b := by
  unfold i16
  split <;> omega
theorem put_length (x : Ins) : (putI x).length = if rightI x then 4 else 0 := by
  unfold putI putL rightI
  cases h : rightB x.op x.a x.b x.c
  · rfl
  · simp only [if_true]
    split <;> rfl
theorem put_bytes (x : Ins) : ∀ y ∈ putI x, 0 ≤ y ∧ y < 256 := by
  unfold putI putL
  split
  · split <;> (intro y hy; simp at hy; rcases hy with rfl | rfl | rfl | rfl <;> omega)
  · intro y hy; simp at hy
theorem put_four {x : Ins} (h : rightI x = true) : ∃ b c, putI x = [x.op, x.a, b, c] ∧ 0 ≤ x.op ∧ x.op ≤ 29 ∧ (if wideB x.op then b = x.b / 256 % 256 ∧ c = x.b % 256 ∧ x.c = 0 ∧ -32768 ≤ x.b ∧ x.b ≤ 32767 else b = x.b ∧ c = x.c) := by
  obtain ⟨h0, h1, h2, h3, h4⟩ := right_parts h
  obtain ⟨k0, k2, k12⟩ := ops_facts h0 h1
  obtain ⟨a0, a1⟩ := fine_byte k0 h2
  obtain ⟨c0, c1⟩ := fine_byte k2 h4
  have ho : x.op % 256 = x.op := by omega
  have ha : x.a % 256 = x.a := by omega
  have hc : x.c % 256 = x.c := by omega
  unfold rightI at h
  unfold putI putL
  rw [if_pos h, ho, ha, hc]
  by_cases hw : wideB x.op = true
  · have h119 : kch x.op 1 = 119 := by simpa [wideB] using hw
    rw [h119] at h3
    rw [k12 h119] at h4
    have := fine_wide h3
    rw [if_pos hw]
    refine ⟨_, _, rfl, h0, h1, ?_⟩
    rw [if_pos hw]
    exact ⟨rfl, rfl, fine_none h4, this.1, this.2⟩
  · have h119 : kch x.op 1 ≠ 119 := by simpa [wideB] using hw
    obtain ⟨b0, b1⟩ := fine_byte h119 h3
    have hb : x.b % 256 = x.b := by omega
    rw [if_neg hw, hb]
    refine ⟨_, _, rfl, h0, h1, ?_⟩
    rw [if_neg hw]
    exact ⟨rfl, rfl⟩
/-- A right one is got of its bytes as it was. -/
theorem get_put {x : Ins} (h : rightI x = true) : getI (putI x) = (x, 0) := by
  obtain ⟨b, c, e, h0, h1, hbc⟩ := put_four h
  rw [e]
  refine get_ok ?_ h
  by_cases hw : wideB x.op = true
  · rw [if_pos hw] at hbc ⊢
    obtain ⟨rfl, rfl, hc, l, u⟩ := hbc
    rw [i16_back l u]
    cases x
    simp_all
  · rw [if_neg hw] at hbc ⊢
    obtain ⟨rfl, rfl⟩ := hbc
    rfl
/-- What is got of four bytes is right, and has them; or nothing is got. -/
theorem get_back {p a b c : Int} (hp : ∀ y ∈ [p, a, b, c], 0 ≤ y ∧ y < 256) : ((getI [p, a, b, c]).2 = 0 ∧ rightI (getI [p, a, b, c]).1 = true ∧ putI (getI [p, a, b, c]).1 = [p, a, b, c]) ∨ getI [p, a, b, c] = (.zero, 151) := by
  simp only [List.mem_cons, List.not_mem_nil, or_false, forall_eq_or_imp, forall_eq] at hp
  obtain ⟨⟨p0, p1⟩, ⟨a0, a1⟩, ⟨b0, b1⟩, c0, c1⟩ := hp
  generalize hx : (if wideB p then (⟨p, a, i16 (256 * b + c), 0⟩ : Ins) else ⟨p, a, b, c⟩) = x
  cases hr : rightI x with
  | false => exact .inr (get_no hx hr)
  | true =>
    refine .inl ?_
    rw [get_ok hx hr]
    refine ⟨rfl, hr, ?_⟩
    obtain ⟨b', c', e, h0, h1, hbc⟩ := put_four hr
    simp only
    rw [e]
    by_cases hw : wideB p = true
    · rw [if_pos hw] at hx
      subst hx
      simp only at hbc ⊢
      rw [if_pos hw] at hbc
      obtain ⟨rfl, rfl, -, -, -⟩ := hbc
      unfold i16
      simp only [List.cons.injEq, and_true, true_and]
      constructor <;> split <;> omega
    · rw [if_neg hw] at hx
      subst hx
      simp only at hbc ⊢
      rw [if_neg hw] at hbc
      obtain ⟨rfl, rfl⟩ := hbc
      rfl
theorem put_inj {x y : Ins} (hx : rightI x = true) (hy : rightI y = true) (h : putI x = putI y) : x = y := by
  have h1 := get_put hx
  rw [h, get_put hy] at h1
  exact (Prod.mk.inj h1).1.symm
theorem eqI (x y : Ins) (q : Bool) (hq : decide (x = y) = q) (d : Nat) (w : World) : (Op.equalIn (d + 2) 79 (.agg #[.int .i64 x.op, .int .i64 x.a, .int .i64 x.b, .int .i64 x.c]) (.agg #[.int .i64 y.op, .int .i64 y.a, .int .i64 y.b, .int .i64 y.c])).run Try.prog w = .ok q w := by
  rw [eqIns]
  congr 1
  rw [← hq]
  cases x; cases y
  rw [Bool.eq_iff_iff]
  simp
theorem strOf_back {a : List Int} (ha : ∀ y ∈ a, 0 ≤ y ∧ y < 256) : (strOfNums a).data.toList.map (fun u => (u.toNat : Int)) = a := by
  rw [strOfNums_data, List.map_map]
  conv => rhs; rw [← List.map_id a]
  refine List.map_congr_left fun y hy => ?_
  have := ha y hy
  simp
  omega
theorem strOf_eq {a b : List Int} (ha : ∀ y ∈ a, 0 ≤ y ∧ y < 256) (hb : ∀ y ∈ b, 0 ≤ y ∧ y < 256) (h : (strOfNums a).toList = (strOfNums b).toList) : a = b := by
  rw [ByteArray.toList_eq, ByteArray.toList_eq] at h
  rw [← strOf_back ha, ← strOf_back hb, h]
end Go.Proofs.Ytgfnpcoigooblaa


/- Package shadow: which granules are painted. -/
import Derived.Test.YtpjlhkepdiajjaaEpoch09
import Derived.Test.YtpjlhkepdiajjaaBits64
import Derived.Test.YtpjlhkepdiajjaaExtE
set_option linter.all false
namespace Go.Proofs.Ytpjlhkepdiajjaa
open Go.RowKit Go.Shelf
attribute [local go_sem] seen dstOf boolOf

/-- Words of 64 granules each: is one painted? -/
def bitW (ws : List Nat) (i : Nat) : Bool := (ws.getD (i / 64) 0).testBit (i % 64)
/-- One is painted, or is so no more. -/
def putW (ws : List Nat) (i : Nat) (is : Bool) : List Nat :=
  let x := ws.getD (i / 64) 0 ||| 2 ^ (i % 64)
  ws.set (i / 64) (if is then x else x ^^^ 2 ^ (i % 64))
theorem putW_len (ws : List Nat) (i : Nat) (is : Bool) : (putW ws i is).length = ws.length := by simp [putW]
theorem bitW_put {ws : List Nat} {i : Nat} (hi : i / 64 < ws.length) (is : Bool) (j : Nat) : bitW (putW ws i is) j = if j = i then is else bitW ws j := by
  unfold bitW putW
  by_cases hq : j / 64 = i / 64
  · have e : ∀ y, (ws.set (i / 64) y).getD (j / 64) 0 = y := fun y => by rw [hq]; simp [List.getD, hi]
    rw [e, hq]
    by_cases h : j % 64 = i % 64
    · have hji : j = i := by omega
      rw [if_pos hji, h]
      cases is <;> simp [Nat.testBit_or, Nat.testBit_xor, Nat.testBit_two_pow]
    · have hji : ¬ j = i := fun e => h (by rw [e])
      have h' : ¬ i % 64 = j % 64 := fun e => h e.symm
      rw [if_neg hji]
      cases is <;> simp [Nat.testBit_or, Nat.testBit_xor, Nat.testBit_two_pow, h']
  · have e : ∀ y, (ws.set (i / 64) y).getD (j / 64) 0 = ws.getD (j / 64) 0 := fun y => by simp [List.getD, List.getElem?_set, Ne.symm hq]
    have hji : ¬ j = i := fun h => hq (by rw [h])
    rw [e, if_neg hji]
theorem word_lt {ws : List Nat} (h : ∀ x ∈ ws, x < 2 ^ 64) (k : Nat) : ws.getD k 0 < 2 ^ 64 := by
  by_cases hk : k < ws.length
  · have : ws.getD k 0 = ws[k] := by simp [List.getD, hk]
    rw [this]
    exact h _ (List.getElem_mem hk)
  · have : ws.getD k 0 = 0 := by simp [List.getD, Nat.le_of_not_lt hk]
    rw [this]
    decide
theorem putW_lt {ws : List Nat} (h : ∀ x ∈ ws, x < 2 ^ 64) (i : Nat) (is : Bool) : ∀ x ∈ putW ws i is, x < 2 ^ 64 := by
  have hb : (2 : Nat) ^ (i % 64) < 2 ^ 64 := Nat.pow_lt_pow_right (by decide) (by omega)
  have h1 := Nat.or_lt_two_pow (word_lt h (i / 64)) hb
  intro x hx
  unfold putW at hx
  rcases List.mem_or_eq_of_mem_set hx with hx | rfl
  · exact h x hx
  · cases is
    · exact Nat.xor_lt_two_pow h1 hb
    · exact h1
/-- Granules from one up to another one. -/
def paintW (ws : List Nat) (i : Nat) (is : Bool) : Nat → List Nat
  | 0 => ws
  | n + 1 => putW (paintW ws i is n) (i + n) is
theorem paintW_len (ws : List Nat) (i : Nat) (is : Bool) (n : Nat) : (paintW ws i is n).length = ws.length := by
  induction n with
  | zero => rfl
  | succ n ih => simp [paintW, putW_len, ih]
theorem paintW_lt {ws : List Nat} (h : ∀ x ∈ ws, x < 2 ^ 64) (i : Nat) (is : Bool) (n : Nat) : ∀ x ∈ paintW ws i is n, x < 2 ^ 64 := by
  induction n with
  | zero => exact h
  | succ n ih => exact putW_lt ih _ _
theorem bitW_paint {ws : List Nat} {i : Nat} (is : Bool) : ∀ (n : Nat), i + n ≤ ws.length * 64 → ∀ j, bitW (paintW ws i is n) j = if i ≤ j ∧ j < i + n then is else bitW ws j
  | 0, _, j => by
    have : ¬ (i ≤ j ∧ j < i + 0) := by omega
    simp only [paintW, this, if_false]
  | n + 1, h, j => by
    rw [paintW, bitW_put (by rw [paintW_len]; omega), bitW_paint is n (by omega) j]
    by_cases h1 : j = i + n
    · rw [if_pos h1, if_pos (by omega)]
    · rw [if_neg h1]
      by_cases h2 : i ≤ j ∧ j < i + n
      · rw [if_pos h2, if_pos (by omega)]
      · rw [if_neg h2, if_neg (by omega)]
/-- How many of the first ones are painted. -/
def manyW (ws : List Nat) : Nat → Nat
  | 0 => 0
  | n + 1 => manyW ws n + if bitW ws n then 1 else 0
theorem manyW_le (ws : List Nat) (n : Nat) : manyW ws n ≤ n := by
  induction n with
  | zero => exact Nat.le_refl _
  | succ n ih =>
    unfold manyW
    split <;> omega

abbrev wordC (ws : List Nat) : List Value := ws.map fun (x : Nat) => Value.int .u64 (x : Int)
/-- A map as it lies. -/
structure ShadAt (W : World) (s b : Nat) (G : Nat) (ws : List Nat) : Prop where
  blk : W.heap[s]? = some (.cells #[.slice (some ⟨b, 0, none⟩) ws.length ws.length, .int .i64 (G : Int)] 67)
  row : W.heap[b]? = some (.cells (wordC ws).toArray 106 (0, 0))
  len : ws.length = (G + 63) / 64
  lt : ∀ x ∈ ws, x < 2 ^ 64
  big : G ≤ 1048576
theorem ShadAt.ext {W W' : World} {s b G : Nat} {ws : List Nat} (h : ShadAt W s b G ws) (e : Ext W W') : ShadAt W' s b G ws :=
  ⟨(e.block _ (Array.getElem?_eq_some_iff.1 h.blk).1).trans h.blk, (e.block _ (Array.getElem?_eq_some_iff.1 h.row).1).trans h.row, h.len, h.lt, h.big⟩
theorem ShadAt.ne {W : World} {s b G : Nat} {ws : List Nat} (h : ShadAt W s b G ws) : s ≠ b := fun e => by
  have h1 := h.blk
  rw [e, h.row] at h1
  simp at h1
theorem ofInt_u64 (a : Nat) (h : a < 18446744073709551616) : (BitVec.ofInt 64 (a : Int)).toNat = a := by
  simp [BitVec.toNat_ofInt]
  omega
theorem wrap_u64 (n : Nat) (h : n < 18446744073709551616) : IntKind.u64.wrap (n : Int) = n := by
  unfold IntKind.wrap
  simp [IntKind.bits, IntKind.signed]
  omega
theorem u64_or (a b : Nat) (h1 : a < 18446744073709551616) (h2 : b < 18446744073709551616) : bits .or .u64 (a : Int) (b : Int) = ((a ||| b : Nat) : Int) := by
  have hx : a ||| b < 2 ^ 64 := Nat.or_lt_two_pow (by omega) (by omega)
  show IntKind.u64.wrap ((BitVec.ofInt 64 (a : Int) ||| BitVec.ofInt 64 (b : Int)).toNat : Int) = _
  rw [BitVec.toNat_or, ofInt_u64 a h1, ofInt_u64 b h2, wrap_u64 _ (by omega)]
theorem u64_xor (a b : Nat) (h1 : a < 18446744073709551616) (h2 : b < 18446744073709551616) : bits .xor .u64 (a : Int) (b : Int) = ((a ^^^ b : Nat) : Int) := by
  have hx : a ^^^ b < 2 ^ 64 := Nat.xor_lt_two_pow (by omega) (by omega)
  show IntKind.u64.wrap ((BitVec.ofInt 64 (a : Int) ^^^ BitVec.ofInt 64 (b : Int)).toNat : Int) = _
  rw [BitVec.toNat_xor, ofInt_u64 a h1, ofInt_u64 b h2, wrap_u64 _ (by omega)]
theorem u64_and (a b : Nat) (h1 : a < 18446744073709551616) (h2 : b < 18446744073709551616) : bits .and .u64 (a : Int) (b : Int) = ((a &&& b : Nat) : Int) := by
  have hx : a &&& b < 2 ^ 64 := Nat.and_lt_two_pow _ (by omega)
  show IntKind.u64.wrap ((BitVec.ofInt 64 (a : Int) &&& BitVec.ofInt 64 (b : Int)).toNat : Int) = _
  rw [BitVec.toNat_and, ofInt_u64 a h1, ofInt_u64 b h2, wrap_u64 _ (by omega)]
theorem bit_of (x n : Nat) (hx : x < 18446744073709551616) : (bits .and .u64 ((x : Int) / 2 ^ n) 1 == 1) = x.testBit n := by
  have e : ((x : Int) / 2 ^ n) = ((x / 2 ^ n : Nat) : Int) := by push_cast; rfl
  have hl : x / 2 ^ n < 18446744073709551616 := Nat.lt_of_le_of_lt (Nat.div_le_self _ _) hx
  have h1 : bits .and .u64 ((x / 2 ^ n : Nat) : Int) ((1 : Nat) : Int) = ((x / 2 ^ n % 2 : Nat) : Int) := by rw [u64_and _ _ hl (by decide), Nat.and_one_is_mod]
  rw [e, Nat.testBit_eq_decide_div_mod_eq]
  simp only [Int.natCast_one] at h1
  rw [show ((1 : Int)) = ((1 : Nat) : Int) from rfl] 
  rw [show bits .and .u64 ((x / 2 ^ n : Nat) : Int) ((1 : Nat) : Int) = ((x / 2 ^ n % 2 : Nat) : Int) by rw [u64_and _ _ hl (by decide), Nat.and_one_is_mod]]
  rw [Bool.eq_iff_iff, beq_iff_eq, decide_eq_true_iff]
  omega
theorem infoWord : (Try.prog.info? 106).map (fun i => (i.zero, i.size, i.bytes)) = some (some (.int .u64 0), 1, 8) := by kernel_rfl
theorem madeW (n : Nat) : madeCells #[.int .u64 0] n = (wordC (List.replicate n 0)).toArray := by
  apply Array.ext'
  rw [toList_madeCells_one]
  simp [wordC]
def NewS (G : Int) (w : World) (e : Ending) (w' : World) : Prop := ((G < 1 ∨ 1048576 < G) ∧ e = .returned (.pointer none) ∧ Ext w w') ∨ (¬ (G < 1 ∨ 1048576 < G) ∧ e = .returned (.pointer (some ⟨w.heap.size + 1, 0, none⟩)) ∧ ShadAt w' (w.heap.size + 1) w.heap.size G.toNat (List.replicate ((G.toNat + 63) / 64) 0) ∧ Ext w w')
set_option maxRecDepth 20000 in
theorem newS_any (G : Int) (w : World) : Calls Try.prog 9 #[.int .i64 G] w (NewS G w) := by
  obtain ⟨i0, hi, hz0, hz1, hz2⟩ := info_parts infoWord
  by_cases h1 : G < 1
  · go_enter Try.func9, Try.ntmps9
    go_wp2_with fail
    go_ret
    exact .inl ⟨.inl h1, rfl, (by repeat first | (with_reducible exact Below.refl _ _) | (with_reducible apply Ext.alloc) | (with_reducible apply Ext.drew) | (with_reducible apply Ext.drewN) | (with_reducible refine Ext.set ?_ (by simp)))⟩
  · by_cases h2 : 1048576 < G
    · go_enter Try.func9, Try.ntmps9
      go_wp2_with fail
      go_ret
      exact .inl ⟨.inr h2, rfl, (by repeat first | (with_reducible exact Below.refl _ _) | (with_reducible apply Ext.alloc) | (with_reducible apply Ext.drew) | (with_reducible apply Ext.drewN) | (with_reducible refine Ext.set ?_ (by simp)))⟩
    · obtain ⟨g, rfl⟩ := Int.eq_ofNat_of_zero_le (show 0 ≤ G by omega)
      obtain ⟨n, hn⟩ : ∃ n, n = (g + 63) / 64 := ⟨_, rfl⟩
      have hw1 : IntKind.i64.wrap ((g : Int) + 64) = (g : Int) + 64 := IntWalk.i64_in _ (by omega)
      have hw2 : IntKind.i64.wrap ((g : Int) + 64 - 1) = (g : Int) + 63 := by rw [IntWalk.i64_in _ (by omega)]; omega
      have hnn : ((g : Int) + 63) / 64 = (n : Int) := by omega
      have hmk := run_makeSlice (P := Try.prog) w 65 106 i0 (.int .u64 0) Try.underlying65 hi hz0 .i64 .i64 n n (by omega) (Int.le_refl _) (by rw [hz1]; simp; omega) (by rw [hz2]; omega) (by omega)
      simp only [Int.toNat_natCast, hz1, Nat.mul_one, Value.cells] at hmk
      rw [show madeCells #[.int .u64 0] n = (wordC (List.replicate n 0)).toArray from madeW n] at hmk
      obtain ⟨C, hC⟩ : ∃ C, C = (wordC (List.replicate n 0)).toArray := ⟨_, rfl⟩
      rw [← hC] at hmk
      have HC := Lib.hid hC
      clear hC
      have HN := Lib.hid hn
      clear hn
      go_enter Try.func9, Try.ntmps9
      go_wp2_with fail
      go_ret
      refine .inr ⟨by omega, rfl, ⟨?_, ?_, by simp, ?_, by omega⟩, (by repeat first | (with_reducible exact Below.refl _ _) | (with_reducible apply Ext.alloc) | (with_reducible apply Ext.drew) | (with_reducible apply Ext.drewN) | (with_reducible refine Ext.set ?_ (by simp)))⟩
      · rw [Int.toNat_natCast, List.length_replicate, ← HN.out]
        exact new_at (w := w.alloc _) (by simp) (Below.refl _ _)
      · rw [Int.toNat_natCast, ← HN.out, ← HC.out]
        exact new_at (w := w) rfl (by repeat first | (with_reducible exact Below.refl _ _) | (with_reducible apply Ext.alloc) | (with_reducible apply Ext.drew) | (with_reducible apply Ext.drewN) | (with_reducible refine Ext.set ?_ (by simp)))
      · intro x hx
        rw [(List.mem_replicate.1 hx).2]
        decide
theorem painted_any (s b G : Nat) (ws : List Nat) (k : Nat) (w : World) (h : ShadAt w s b G ws) (hk : k ≤ 1048576) : Calls Try.prog 46 #[.pointer (some ⟨s, 0, none⟩), .int .i64 (k : Int)] w fun e w' => e = .returned (.bool (decide (k < G) && bitW ws k)) ∧ Ext w w' := by
  obtain ⟨x0, x1⟩ := lie2 h.blk (Below.refl _ w)
  have HH := Lib.hid h
  by_cases h1 : k < G
  · have hd : k / 64 < ws.length := by rw [h.len]; omega
    have xk := cellAt h.row (k / 64) (.int .u64 ((ws[k / 64] : Nat) : Int)) (by simp [wordC, hd])
    have hlt := h.lt ws[k / 64] (List.getElem_mem hd)
    have hbit : (bits .and .u64 ((ws[k / 64] : Int) / 2 ^ (k % 64)) 1 == 1) = bitW ws k := by
      rw [bit_of _ _ hlt]
      unfold bitW
      simp [List.getD, hd]
    have HB := Lib.hid hbit
    clear h hbit
    go_enter Try.func46, Try.ntmps46
    go_wp2_with fail
    go_ret
    refine ⟨?_, (by repeat first | (with_reducible exact Below.refl _ _) | (with_reducible apply Ext.alloc) | (with_reducible apply Ext.drew) | (with_reducible apply Ext.drewN) | (with_reducible refine Ext.set ?_ (by simp)))⟩
    rw [decide_eq_true h1, Bool.true_and, ← HB.out]
    rfl
  · have e : (decide (k < G) && bitW ws k) = false := by rw [decide_eq_false h1]; rfl
    rw [e]
    have h2 : ¬ ((k : Int) < (G : Int)) := by omega
    clear h e
    go_enter Try.func46, Try.ntmps46
    go_wp2_with fail
    go_ret
    exact ⟨rfl, (by repeat first | (with_reducible exact Below.refl _ _) | (with_reducible apply Ext.alloc) | (with_reducible apply Ext.drew) | (with_reducible apply Ext.drewN) | (with_reducible refine Ext.set ?_ (by simp)))⟩
theorem many_any (s b G : Nat) (ws : List Nat) (w : World) (h : ShadAt w s b G ws) : Calls Try.prog 25 #[.pointer (some ⟨s, 0, none⟩)] w fun e w' => e = .returned (.int .i64 (manyW ws G : Nat)) ∧ Ext w w' := by
  obtain ⟨x0, x1⟩ := lie2 h.blk (Below.refl _ w)
  have HH := Lib.hid h
  have hG := h.big
  clear h
  go_enter Try.func25, Try.ntmps25
  go_wp2_with fail
  go_loopw [3, 9] (fun n i wr => ∃ k : Nat, k ≤ G ∧ i = .int .i64 (k : Int) ∧ n = .int .i64 (manyW ws k : Nat) ∧ Ext w wr) (fun _ i _ => G - (intOf i).toNat)
  case atStart => exact ⟨0, Nat.zero_le _, rfl, rfl, (by repeat first | (with_reducible exact Below.refl _ _) | (with_reducible apply Ext.alloc) | (with_reducible apply Ext.drew) | (with_reducible apply Ext.drewN) | (with_reducible refine Ext.set ?_ (by simp)))⟩
  case round =>
    obtain ⟨k, hk, rfl, rfl, hE⟩ := hrel
    have hm := manyW_le ws k
    have HE := Lib.hid hE
    clear hE
    by_cases hlt : k < G
    · have hs : manyW ws (k + 1) = manyW ws k + if bitW ws k then 1 else 0 := rfl
      have HS := Lib.hid hs
      clear hs
      obtain ⟨m, hm'⟩ : ∃ m, m = manyW ws k := ⟨_, rfl⟩
      rw [← hm'] at hm HS ⊢
      have hw : IntKind.i64.wrap ((m : Int) + 1) = ((m + 1 : Nat) : Int) := by rw [IntWalk.i64_in _ (by omega)]; rfl
      clear hm'
      go_wp2_with fail
      refine (painted_any s b G ws k _ (HH.out.ext HE.out) (by omega)).mono ?_
      rw [decide_eq_true hlt, Bool.true_and]
      rintro e w1 ⟨rfl, hE1⟩
      have HE1 := Lib.hid hE1
      clear hE1
      cases hb : bitW ws k
      all_goals
        go_wp2_with fail
        exact ⟨⟨k + 1, by omega, by go_num, by rw [HS.out, hb]; simp, HE.out.then HE1.out⟩, by simp [intOf]; omega⟩
    · obtain rfl : k = G := by omega
      go_wp2_with fail
      go_ret
      exact ⟨rfl, HE.out⟩
theorem wordC_set (ws : List Nat) (o y : Nat) : (wordC ws).toArray.setIfInBounds o (.int .u64 (y : Int)) = (wordC (ws.set o y)).toArray := by
  simp [wordC, List.map_set]
def Paints (s b G : Nat) (ws : List Nat) (w : World) (e : Ending) (w' : World) : Prop := e = .returned (.bool true) ∧ ShadAt w' s b G ws ∧ w.grownBy w' (some b)
set_option maxRecDepth 20000 in
theorem paint_yes (s b G : Nat) (ws : List Nat) (i n : Nat) (is : Bool) (F T : Int) (w : World) (h : ShadAt w s b G ws) (hF : F = 16 * (i : Int)) (hT : T = 16 * ((i + n : Nat) : Int)) (hn : i + n ≤ G) : Calls Try.prog 35 #[.pointer (some ⟨s, 0, none⟩), .int .i64 F, .int .i64 T, .bool is] w (Paints s b G (paintW ws i is n) w) := by
  obtain ⟨x0, x1⟩ := lie2 h.blk (Below.refl _ w)
  have HH := Lib.hid h
  have hsb := h.ne
  have hbs : b ≠ s := fun e => hsb e.symm
  have hG := h.big
  have hlen := h.len
  have f1 : F.tmod 16 = 0 := by rw [Int.tmod_eq_emod_of_nonneg (by omega)]; omega
  have f2 : T.tmod 16 = 0 := by rw [Int.tmod_eq_emod_of_nonneg (by omega)]; omega
  have f3 : F.tdiv 16 = (i : Int) := by rw [Int.tdiv_eq_ediv_of_nonneg (by omega)]; omega
  have f4 : T.tdiv 16 = ((i + n : Nat) : Int) := by rw [Int.tdiv_eq_ediv_of_nonneg (by omega)]; omega
  have f5 : IntKind.i64.wrap ((G : Int) * 16) = (G : Int) * 16 := IntWalk.i64_in _ (by omega)
  have f6 : 0 ≤ F := by omega
  have f7 : F ≤ T := by omega
  have f8 : T ≤ (G : Int) * 16 := by omega
  obtain ⟨m, hm⟩ : ∃ m, m = i + n := ⟨_, rfl⟩
  rw [← hm] at f4 hn
  have HM := Lib.hid (And.intro hm (And.intro hF hT))
  have fi : i ≤ 1048576 := by omega
  have fm : m ≤ 1048576 := by omega
  have fwi : IntKind.i64.wrap (i : Int) = (i : Int) := IntWalk.i64_in _ (by omega)
  have fwm : IntKind.i64.wrap (m : Int) = (m : Int) := IntWalk.i64_in _ (by omega)
  clear h hm hF hT
  go_enter Try.func35, Try.ntmps35
  go_wp2_with fail
  go_loopw [9] (fun j wr => ∃ d : Nat, i + d ≤ m ∧ j = .int .i64 ((i + d : Nat) : Int) ∧ ShadAt wr s b G (paintW ws i is d) ∧ w.grownBy wr (some b)) (fun j _ => m - (intOf j).toNat)
  case atStart => exact ⟨0, by have := HM.out.1; omega, by go_num, HH.out.ext (by repeat first | (with_reducible exact Below.refl _ _) | (with_reducible apply Ext.alloc) | (with_reducible apply Ext.drew) | (with_reducible apply Ext.drewN) | (with_reducible refine Ext.set ?_ (by simp))), ext_gr (by repeat first | (with_reducible exact Below.refl _ _) | (with_reducible apply Ext.alloc) | (with_reducible apply Ext.drew) | (with_reducible apply Ext.drewN) | (with_reducible refine Ext.set ?_ (by simp)))⟩
  case round =>
    obtain ⟨d, hd, rfl, hS, hE⟩ := hrel
    obtain ⟨k, hk⟩ : ∃ k, k = i + d := ⟨_, rfl⟩
    rw [← hk] at hd ⊢
    obtain ⟨x0, x1⟩ := lie2 hS.blk (Below.refl _ wr)
    rw [paintW_len] at x0
    by_cases hlt : k < m
    · have hwk : k / 64 < (paintW ws i is d).length := by rw [paintW_len, hlen]; omega
      have hxl := word_lt hS.lt (k / 64)
      have hrow := hS.row
      obtain ⟨x, hx⟩ : ∃ x, x = (paintW ws i is d).getD (k / 64) 0 := ⟨_, rfl⟩
      have xk := cellAt hrow (k / 64) (.int .u64 (x : Int)) (by rw [hx]; simp [wordC, hwk, List.getD])
      have fz := frozen_row' hrow
      rw [paintW_len] at hwk
      rw [← hx] at hxl
      have hp : (2 : Nat) ^ (k % 64) < 18446744073709551616 := Nat.pow_lt_pow_right (by decide) (by omega : k % 64 < 64)
      have ep : ((2 ^ (k % 64) : Nat) : Int) = 2 ^ (k % 64) := by push_cast; rfl
      have hor := u64_or x (2 ^ (k % 64)) hxl hp
      have hol : x ||| 2 ^ (k % 64) < 18446744073709551616 := Nat.or_lt_two_pow (n := 64) hxl hp
      have hxor := u64_xor (x ||| 2 ^ (k % 64)) (2 ^ (k % 64)) hol hp
      rw [ep] at hor hxor
      obtain ⟨y, hy⟩ : ∃ y, y = x ||| 2 ^ (k % 64) := ⟨_, rfl⟩
      rw [← hy] at hor hxor
      obtain ⟨z, hz⟩ : ∃ z, z = y ^^^ 2 ^ (k % 64) := ⟨_, rfl⟩
      rw [← hz] at hxor
      have hsh : IntKind.u64.wrap (2 ^ (k % 64)) = 2 ^ (k % 64) := by
        have := wrap_u64 _ hp
        rw [ep] at this
        exact this
      have HS := Lib.hid (And.intro hS (And.intro hE (And.intro hk (And.intro hx (And.intro hrow (And.intro hy hz))))))
      clear hS hE hk hx hrow hy hz ep hol
      cases is with
      | true =>
        go_wp2_with fail
        have e1 : i + (d + 1) = k + 1 := by have := HS.out.2.2.1; omega
        have e2 : paintW ws i true (d + 1) = (paintW ws i true d).set (k / 64) y := by
          show putW (paintW ws i true d) (i + d) true = _
          rw [← HS.out.2.2.1, HS.out.2.2.2.2.2.1, HS.out.2.2.2.1]
          rfl
        refine ⟨⟨d + 1, by omega, by rw [e1]; go_num, ?_, ?_⟩, by simp [intOf]; omega⟩
        · refine ⟨(Below.heap_setCell wr ⟨b, k / 64, none⟩ _ s HS.out.1.ne).trans ?_, ?_, by rw [paintW_len]; exact hlen, paintW_lt HH.out.lt _ _ _, hG⟩
          · rw [paintW_len, ← paintW_len ws i true d]; exact HS.out.1.blk
          · rw [e2, ← wordC_set]
            exact set_row HS.out.2.2.2.2.1 _
        · exact World.grownBy.trans HS.out.2.1 set_gr
      | false =>
        go_wp2_with fail
        have e1 : i + (d + 1) = k + 1 := by have := HS.out.2.2.1; omega
        have e2 : paintW ws i false (d + 1) = ((paintW ws i false d).set (k / 64) y).set (k / 64) z := by
          show putW (paintW ws i false d) (i + d) false = _
          rw [List.set_set, ← HS.out.2.2.1, HS.out.2.2.2.2.2.2, HS.out.2.2.2.2.2.1, HS.out.2.2.2.1]
          rfl
        refine ⟨⟨d + 1, by omega, by rw [e1]; go_num, ?_, ?_⟩, by simp [intOf]; omega⟩
        · refine ⟨(Below.heap_setCell _ ⟨b, k / 64, none⟩ _ s HS.out.1.ne).trans ((Below.heap_setCell wr ⟨b, k / 64, none⟩ _ s HS.out.1.ne).trans ?_), ?_, by rw [paintW_len]; exact hlen, paintW_lt HH.out.lt _ _ _, hG⟩
          · rw [paintW_len, ← paintW_len ws i false d]; exact HS.out.1.blk
          · rw [e2, ← wordC_set, ← wordC_set]
            exact set_row (set_row HS.out.2.2.2.2.1 _) _
        · exact World.grownBy.trans (World.grownBy.trans HS.out.2.1 set_gr) set_gr
    · obtain rfl : k = m := by omega
      have HS := Lib.hid (And.intro hS (And.intro hE hk))
      clear hS hE hk
      go_wp2_with fail
      go_ret
      have e : d = n := by have := HM.out.1; have := HS.out.2.2; omega
      rw [e] at HS
      exact ⟨rfl, HS.out.1, HS.out.2.1⟩
end Go.Proofs.Ytpjlhkepdiajjaa

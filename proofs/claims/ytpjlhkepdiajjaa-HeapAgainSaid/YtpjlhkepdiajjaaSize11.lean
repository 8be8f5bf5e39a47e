
/- Package size: Round. -/
import Derived.Test.YtpjlhkepdiajjaaCapA
import Derived.Shelf.SlicesG.SearchI
import Derived.Ground.SlgnProg
set_option linter.all false
namespace Go.Proofs.Ytpjlhkepdiajjaa
open Go.RowKit Go.Shelf
attribute [local go_sem] seen dstOf boolOf

def bsInt_ren : Go.Shelf.Ren := ⟨fun | 49 => 72 | 59 => 74 | 60 => 75 | 68 => 77 | n => n, fun | 22 => 87 | 23 => 3 | 3 => 3 | 4 => 4 | 51 => 124 | 0 => 0 | n => n, fun | n => n⟩
theorem bsInt : Go.Proofs.SlLaysN.n49 Try.prog bsInt_ren := {
  mixed := by kernel_rfl
  f49 := ⟨Try.f72.name, by decide, Try.func72.trans (congrArg some (by kernel_rfl))⟩
  f59 := ⟨Try.f74.name, by decide, Try.func74.trans (congrArg some (by kernel_rfl))⟩
  f60 := ⟨Try.f75.name, by decide, Try.func75.trans (congrArg some (by kernel_rfl))⟩
  f68 := ⟨Try.f77.name, by decide, Try.func77.trans (congrArg some (by kernel_rfl))⟩
  t0 := Try.underlying0
  a0 := Try.isAgg0
  z0 := Try.sizeOf0
  v0 := Try.zeroValue0
  t3 := Try.underlying3
  a3 := Try.isAgg3
  z3 := Try.sizeOf3
  v3 := Try.zeroValue3
  t4 := Try.underlying4
  a4 := Try.isAgg4
  z4 := Try.sizeOf4
  v4 := Try.zeroValue4
  t22 := Try.underlying87
  a22 := Try.isAgg87
  z22 := Try.sizeOf87
  v22 := Try.zeroValue87
  t23 := Try.underlying3
  a23 := Try.isAgg3
  z23 := Try.sizeOf3
  v23 := Try.zeroValue3
  t51 := Try.underlying124
  a51 := Try.isAgg124
  z51 := Try.sizeOf124
  v51 := Try.zeroValue124 }

def sizesL : List Int := [16, 32, 48, 64, 80, 96, 112, 128, 192, 256, 384, 512, 768, 1024]
/-- How many of them are less. -/
def classN (n : Int) : Nat := sizesL.countP fun x => decide (x < n)
def roundD (n : Int) : Int × Bool := if n < 0 ∨ 65536 < n then (0, false) else if classN n < 14 then (sizesL.getD (classN n) 0, true) else ((n + 256 - 1) / 256 * 256, true)
abbrev sizesV : Array Value := #[.int .i64 16, .int .i64 32, .int .i64 48, .int .i64 64, .int .i64 80, .int .i64 96, .int .i64 112, .int .i64 128, .int .i64 192, .int .i64 256, .int .i64 384, .int .i64 512, .int .i64 768, .int .i64 1024]
theorem sizes_any (w : World) : Calls Try.prog 59 #[] w fun e w' => e = .returned (.agg sizesV) ∧ Ext w w' := by
  go_enter Try.func59, Try.ntmps59
  go_wp2_with fail
  exact bodyPost_ret (v := .agg sizesV) (by simp [results, Try.results59, go_sem]) rfl ⟨rfl, (by repeat first | (with_reducible exact Below.refl _ _) | (with_reducible apply Ext.alloc) | (with_reducible apply Ext.drew) | (with_reducible apply Ext.drewN) | (with_reducible refine Ext.set ?_ (by simp)))⟩
theorem sizes_rise : (sizesL.take 14).Pairwise (· ≤ ·) := by decide
theorem class_le (n : Int) : classN n ≤ 14 := by
  unfold classN
  exact List.countP_le_length
theorem bin_any (b : Nat) (n : Int) (w : World) {t : TypeId} (h : w.heap[b]? = some (.cells sizesV t)) : Calls Try.prog 72 #[.slice (some ⟨b, 0, none⟩) 14 14, .int .i64 n] w fun e w' => e = .returned (.tuple #[.int .i64 (classN n : Nat), .bool (sizesL.contains n)]) ∧ Ext w w' := by
  have hcon := AnyG.slices_BinarySearch_int bsInt b 0 14 14 sizesL n w (by decide) (by decide) (fun j hj => by
    have hj' : j < 14 := hj
    simp only [World.cell?, h, Option.isSome_none, Bool.false_eq_true, if_false, Nat.zero_add]
    match j, hj' with
    | 0, _ => rfl
    | 1, _ => rfl
    | 2, _ => rfl
    | 3, _ => rfl
    | 4, _ => rfl
    | 5, _ => rfl
    | 6, _ => rfl
    | 7, _ => rfl
    | 8, _ => rfl
    | 9, _ => rfl
    | 10, _ => rfl
    | 11, _ => rfl
    | 12, _ => rfl
    | 13, _ => rfl) sizes_rise
  refine Calls.mono (f := 72) hcon ?_
  rintro _ w' ⟨rfl, q, rfl⟩
  exact ⟨rfl, Ext.drewN (Below.refl _ _) q⟩
set_option maxHeartbeats 1000000 in
set_option maxRecDepth 20000 in
theorem class_any (n : Int) (w : World) : Calls Try.prog 60 #[.int .i64 n] w fun e w' => e = .returned (.int .i64 (if n < 0 ∨ 65536 < n then -1 else (classN n : Nat))) ∧ Ext w w' := by
  by_cases h : n < 0 ∨ 65536 < n
  · rw [if_pos h]
    by_cases h1 : n < 0
    · clear h
      go_enter Try.func60, Try.ntmps60
      go_wp2_with fail
      go_ret
      exact ⟨rfl, (by repeat first | (with_reducible exact Below.refl _ _) | (with_reducible apply Ext.alloc) | (with_reducible apply Ext.drew) | (with_reducible apply Ext.drewN) | (with_reducible refine Ext.set ?_ (by simp)))⟩
    · have h2 : 65536 < n := by omega
      clear h
      go_enter Try.func60, Try.ntmps60
      go_wp2_with fail
      go_ret
      exact ⟨rfl, (by repeat first | (with_reducible exact Below.refl _ _) | (with_reducible apply Ext.alloc) | (with_reducible apply Ext.drew) | (with_reducible apply Ext.drewN) | (with_reducible refine Ext.set ?_ (by simp)))⟩
  · rw [if_neg h]
    have h1 : ¬ n < 0 := by omega
    have h2 : ¬ 65536 < n := by omega
    have HB := Lib.hid (fun b w (t : TypeId) h => bin_any b n w (t := t) h)
    obtain ⟨k, hk⟩ : ∃ k, k = classN n := ⟨_, rfl⟩
    rw [← hk] at HB ⊢
    clear h hk
    go_enter Try.func60, Try.ntmps60
    go_wp2_with fail
    refine (sizes_any _).mono ?_
    rintro _ w1 ⟨rfl, hE⟩
    go_wp2_with fail
    refine (HB.out w1.heap.size _ _ (heap_alloc_new w1 _)).mono ?_
    rintro _ w2 ⟨rfl, hE2⟩
    go_wp2_with fail
    go_ret
    exact ⟨rfl, hE.then ((by repeat first | (with_reducible exact Below.refl _ _) | (with_reducible apply Ext.alloc) | (with_reducible apply Ext.drew) | (with_reducible apply Ext.drewN) | (with_reducible refine Ext.set ?_ (by simp)) | (with_reducible refine Ext.then ?_ hE2)))⟩
set_option maxHeartbeats 1000000 in
set_option maxRecDepth 20000 in
theorem round_any (n : Int) (w : World) (hn : i64ok' n) : Calls Try.prog 39 #[.int .i64 n] w fun e w' => e = .returned (.tuple #[.int .i64 (roundD n).1, .bool (roundD n).2]) ∧ Ext w w' := by
  by_cases h : n < 0 ∨ 65536 < n
  · have hr : roundD n = (0, false) := by unfold roundD; rw [if_pos h]
    rw [hr]
    by_cases h1 : n < 0
    · clear h hr
      go_enter Try.func39, Try.ntmps39
      go_wp2_with fail
      go_ret2
      exact ⟨rfl, (by repeat first | (with_reducible exact Below.refl _ _) | (with_reducible apply Ext.alloc) | (with_reducible apply Ext.drew) | (with_reducible apply Ext.drewN) | (with_reducible refine Ext.set ?_ (by simp)))⟩
    · have h2 : 65536 < n := by omega
      clear h hr
      go_enter Try.func39, Try.ntmps39
      go_wp2_with fail
      go_ret2
      exact ⟨rfl, (by repeat first | (with_reducible exact Below.refl _ _) | (with_reducible apply Ext.alloc) | (with_reducible apply Ext.drew) | (with_reducible apply Ext.drewN) | (with_reducible refine Ext.set ?_ (by simp)))⟩
  · have h1 : ¬ n < 0 := by omega
    have h2 : ¬ 65536 < n := by omega
    have hcl := class_le n
    have HC := Lib.hid (fun w => class_any n w)
    rw [if_neg h] at HC
    obtain ⟨k, hk⟩ : ∃ k, k = classN n := ⟨_, rfl⟩
    rw [← hk] at HC hcl
    by_cases h3 : k < 14
    · have HR : Hid (roundD n = (sizesL.getD k 0, true)) := Lib.hid (by unfold roundD; rw [if_neg h, ← hk, if_pos h3])
      obtain ⟨x, hx⟩ : ∃ x, x = sizesL.getD k 0 := ⟨_, rfl⟩
      have HX := Lib.hid hx
      clear h hk hx
      go_enter Try.func39, Try.ntmps39
      go_wp2_with fail
      refine (sizes_any _).mono ?_
      rintro _ w1 ⟨rfl, hE⟩
      go_wp2_with fail
      refine (HC.out _).mono ?_
      rintro _ w2 ⟨rfl, hE2⟩
      have hb := (hE2.block _ (by simp)).trans (heap_alloc_new w1 _)
      have hc : w2.cell? ⟨w1.heap.size, k, none⟩ = some (.int .i64 x) := by
        refine cellAt hb k _ ?_
        rw [HX.out]
        match k, h3 with
        | 0, _ => rfl
        | 1, _ => rfl
        | 2, _ => rfl
        | 3, _ => rfl
        | 4, _ => rfl
        | 5, _ => rfl
        | 6, _ => rfl
        | 7, _ => rfl
        | 8, _ => rfl
        | 9, _ => rfl
        | 10, _ => rfl
        | 11, _ => rfl
        | 12, _ => rfl
        | 13, _ => rfl
      have hlt := cell_lt hc
      have E2 := Lib.hid (hE.then ((Ext.alloc (Below.refl _ w1) _).then hE2))
      simp only at hlt
      clear hb hE2 hE
      go_wp2_with fail
      go_ret2
      exact ⟨by rw [HR.out, HX.out]; rfl, E2.out⟩
    · obtain rfl : k = 14 := by omega
      have HR : Hid (roundD n = ((n + 256 - 1) / 256 * 256, true)) := Lib.hid (by unfold roundD; rw [if_neg h, ← hk, if_neg h3])
      clear h hk
      go_enter Try.func39, Try.ntmps39
      go_wp2_with fail
      refine (sizes_any _).mono ?_
      rintro _ w1 ⟨rfl, hE⟩
      go_wp2_with fail
      refine (HC.out _).mono ?_
      rintro _ w2 ⟨rfl, hE2⟩
      have E2 := Lib.hid (hE.then ((Ext.alloc (Below.refl _ w1) _).then hE2))
      clear hE2 hE
      go_wp2_with fail
      go_ret2
      exact ⟨by rw [HR.out]; rfl, E2.out⟩
end Go.Proofs.Ytpjlhkepdiajjaa


/- Calls that came in; pick. -/
import Derived.Test.YtpjlhkepdiajjaaRun14
set_option linter.all false
namespace Go.Proofs.Ytpjlhkepdiajjaa
open Go.RowKit Go.Shelf
attribute [local go_sem] seen dstOf boolOf

/-- A call. -/
structure OpD where
  what : Int
  n : Int
  c : Cap
deriving Inhabited
abbrev OpD.cells (o : OpD) : List Value := [.int .i64 o.what, .int .i64 o.n, .bool o.c.tag, .int .i64 o.c.base, .int .i64 o.c.top, .int .i64 o.c.at', .int .i64 o.c.perms, .int .i64 o.c.ty]
abbrev opCells (l : List OpD) : List Value := l.flatMap OpD.cells
structure OpWf (o : OpD) : Prop where
  what : i64ok' o.what
  n : i64ok' o.n
  c : CapWf o.c
theorem op_row {w : World} {A : Option Addr} {l : List OpD} (h : Arr w A (opCells l)) {k : Nat} (hk : k < l.length) :
    ∃ b o, A = some ⟨b, o, none⟩ ∧ b < w.heap.size ∧ w.cell? ⟨b, o + k * 8, none⟩ = some (.int .i64 l[k].what) ∧ w.cell? ⟨b, o + k * 8 + 1, none⟩ = some (.int .i64 l[k].n) ∧ w.cell? ⟨b, o + k * 8 + 2, none⟩ = some (.bool l[k].c.tag) ∧ w.cell? ⟨b, o + k * 8 + 3, none⟩ = some (.int .i64 l[k].c.base) ∧
      w.cell? ⟨b, o + k * 8 + 4, none⟩ = some (.int .i64 l[k].c.top) ∧ w.cell? ⟨b, o + k * 8 + 5, none⟩ = some (.int .i64 l[k].c.at') ∧ w.cell? ⟨b, o + k * 8 + 6, none⟩ = some (.int .i64 l[k].c.perms) ∧ w.cell? ⟨b, o + k * 8 + 7, none⟩ = some (.int .i64 l[k].c.ty) := by
  obtain ⟨b, o, e, hb, q⟩ := h.flat (s := 8) (f := OpD.cells) (fun _ => rfl) (by decide) hk
  exact ⟨b, o, e, hb, q 0 _ rfl, q 1 _ rfl, q 2 _ rfl, q 3 _ rfl, q 4 _ rfl, q 5 _ rfl, q 6 _ rfl, q 7 _ rfl⟩
theorem lie8 {w W : World} {b : Nat} {v0 v1 v2 v3 v4 v5 v6 v7 : Value} {t : TypeId} (hB : w.heap[b]? = some (.cells #[v0, v1, v2, v3, v4, v5, v6, v7] t)) (hE : Ext w W) :
    W.cell? ⟨b, 0, none⟩ = some v0 ∧ W.cell? ⟨b, 1, none⟩ = some v1 ∧ W.cell? ⟨b, 2, none⟩ = some v2 ∧ W.cell? ⟨b, 3, none⟩ = some v3 ∧ W.cell? ⟨b, 4, none⟩ = some v4 ∧ W.cell? ⟨b, 5, none⟩ = some v5 ∧ W.cell? ⟨b, 6, none⟩ = some v6 ∧ W.cell? ⟨b, 7, none⟩ = some v7 := by
  have h := (hE.block b (Array.getElem?_eq_some_iff.1 hB).1).trans hB
  exact ⟨by simp [World.cell?, h], by simp [World.cell?, h], by simp [World.cell?, h], by simp [World.cell?, h], by simp [World.cell?, h], by simp [World.cell?, h], by simp [World.cell?, h], by simp [World.cell?, h]⟩
theorem and_4095 (n : Int) : ∃ k : Nat, k ≤ 4095 ∧ bits .and .i64 n 4095 = (k : Int) := by
  refine ⟨(BitVec.ofInt 64 n &&& BitVec.ofInt 64 4095).toNat, ?_, ?_⟩
  · rw [BitVec.toNat_and]
    exact Nat.le_trans Nat.and_le_right (by decide)
  · show IntKind.i64.wrap ((BitVec.ofInt 64 n &&& BitVec.ofInt 64 4095).toNat : Int) = _
    have h : (BitVec.ofInt 64 n &&& BitVec.ofInt 64 4095).toNat ≤ 4095 := by
      rw [BitVec.toNat_and]
      exact Nat.le_trans Nat.and_le_right (by decide)
    exact wrap_i64 _ (by omega)
/-- The N-th of some. -/
def pickD (l : List Cap) (n : Int) : Cap := if l.length = 0 then Cap.zero else l.getD ((bits .and .i64 n 4095).toNat % l.length) Cap.zero
theorem pick_mem {l : List Cap} {n : Int} (h : ∀ c ∈ l, CapWf c) : CapWf (pickD l n) := by
  unfold pickD
  split
  · exact ⟨by unfold i64ok' Cap.zero; simp, by unfold i64ok' Cap.zero; simp, by unfold i64ok' Cap.zero; simp, by unfold i64ok' Cap.zero; simp, by unfold i64ok' Cap.zero; simp⟩
  · rename_i h0
    have hi := Nat.mod_lt (bits .and .i64 n 4095).toNat (Nat.pos_of_ne_zero h0)
    rw [List.getD, List.getElem?_eq_getElem hi]
    exact h _ (List.getElem_mem hi)
set_option maxHeartbeats 1000000 in
set_option maxRecDepth 20000 in
theorem pick_any (A : Option Addr) (c : Nat) (l : List Cap) (n : Int) (w : World) (hA : Arr w A (capCells l)) (hl : l.length ≤ 100000) (hn : i64ok' n) : Calls Try.prog 19 #[.slice A l.length c, .int .i64 n] w fun e w' => e = .returned (pickD l n).val ∧ Ext w w' := by
  by_cases h0 : l.length = 0
  · have e : pickD l n = Cap.zero := by unfold pickD; rw [if_pos h0]
    rw [e]
    have h0' : ((l.length : Int) == 0) = true := by simp [h0]
    go_enter Try.func19, Try.ntmps19
    go_wp2_with fail
    refine bodyPost_ret (v := Cap.zero.val) (by simp [results, Try.results19, go_sem, Cap.zero]) rfl ⟨rfl, (by repeat first | (with_reducible exact Below.refl _ _) | (with_reducible apply Ext.alloc) | (with_reducible apply Ext.drew) | (with_reducible apply Ext.drewN) | (with_reducible refine Ext.set ?_ (by simp)))⟩
  · obtain ⟨q, hq, hqe⟩ := and_4095 n
    have hi := Nat.mod_lt q (Nat.pos_of_ne_zero h0)
    have e : pickD l n = l[q % l.length] := by
      unfold pickD
      rw [if_neg h0, hqe, Int.toNat_natCast, List.getD, List.getElem?_eq_getElem hi]
      rfl
    rw [e]
    obtain ⟨b, o, rfl, hb, x0, x1, x2, x3, x4, x5⟩ := cap_row hA hi
    have h0' : ((l.length : Int) == 0) = false := by simpa using h0
    obtain ⟨j, hj⟩ : ∃ j, j = q % l.length := ⟨_, rfl⟩
    have hj1 : ((q : Int) % (l.length : Int)) = (j : Int) := by rw [hj]; rfl
    have hj2 : ((q : Int).tmod (l.length : Int)) = (j : Int) := by rw [Int.tmod_eq_emod_of_nonneg (by omega)]; exact hj1
    have hne : (l.length : Int) ≠ 0 := by omega
    rw [← hj] at hi
    have hjl : (j : Int) < (l.length : Int) := by omega
    simp only [← hj] at x0 x1 x2 x3 x4 x5 ⊢
    generalize l[j] = x at x0 x1 x2 x3 x4 x5 ⊢
    clear hA e hj
    go_enter Try.func19, Try.ntmps19
    go_wp2_with fail
    refine bodyPost_ret (v := x.val) (by simp [results, Try.results19, go_sem]) rfl ⟨rfl, (by repeat first | (with_reducible exact Below.refl _ _) | (with_reducible apply Ext.alloc) | (with_reducible apply Ext.drew) | (with_reducible apply Ext.drewN) | (with_reducible refine Ext.set ?_ (by simp)))⟩
end Go.Proofs.Ytpjlhkepdiajjaa

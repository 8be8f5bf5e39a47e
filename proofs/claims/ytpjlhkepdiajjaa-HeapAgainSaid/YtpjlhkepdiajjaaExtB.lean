
/- Package extent: slices.IndexFunc and slices.Delete of runs. -/
import Derived.Test.YtpjlhkepdiajjaaExtA
import Derived.Deep.RegionLaw
set_option linter.all false
namespace Go.Proofs.Ytpjlhkepdiajjaa
open Go.RowKit

theorem infoRun : (Try.prog.info? 91).map (fun i => (i.zero, i.size, i.bytes)) = some (some (.agg #[.int .i64 0, .int .i64 0]), 2, 16) := by kernel_rfl

/-- What is asked of a test that a function value makes. -/
def Tests (g : Nat) (q : Value) (p : Run → Bool) (R : List Run) (w : World) : Prop :=
  ∀ (W : World) (r : Run), r ∈ R → Ext w W → Calls Try.prog g #[.agg #[.int .i64 r.1, .int .i64 r.2], q] W fun e w' => e = .returned (.bool (p r)) ∧ Ext W w'

theorem idx_hit {p : Run → Bool} {R : List Run} {k : Nat} (hk : k < R.length) (h : p R[k] = true) (hn : ∀ j (hj : j < R.length), j < k → p R[j] = false) : idxI p R = (k : Int) := by
  have : R.findIdx? p = some k := by
    rw [List.findIdx?_eq_some_iff_getElem]
    exact ⟨hk, h, fun j hj => by simp [hn j (by omega) hj]⟩
  simp [idxI, this]
theorem idx_miss {p : Run → Bool} {R : List Run} (hn : ∀ j (hj : j < R.length), p R[j] = false) : idxI p R = -1 := by
  have : R.findIdx? p = none := by
    rw [List.findIdx?_eq_none_iff]
    intro x hx
    obtain ⟨j, hj, rfl⟩ := List.getElem_of_mem hx
    exact hn j hj
  simp [idxI, this]

set_option maxHeartbeats 4000000 in
theorem index_any (A : Option Addr) (c : Nat) (R : List Run) (g : Nat) (q : Value) (p : Run → Bool) (w : World) (hA : Arr w A (rowC R)) (hR : R.length ≤ 140737488351232) (eg : ∀ args w, (callFunc g args).run Try.prog w = .ok (.enter g args) w) (hp : Tests g q p R w) :
    Calls Try.prog 56 #[.slice A R.length c, .func (.func g) #[] #[q]] w fun e w' => e = .returned (.int .i64 (idxI p R)) ∧ Ext w w' := by
  have HP := Lib.hid hp
  clear hp
  go_enter Try.func56, Try.ntmps56
  go_wp2_with fail
  go_loopw [5, 8] (fun _ i wr => ∃ k : Nat, k ≤ R.length ∧ i = .int .i64 (k : Int) ∧ Ext w wr ∧ Hid (∀ j (hj : j < R.length), j < k → p R[j] = false)) (fun _ i _ => R.length - (intOf i).toNat)
  case atStart => exact ⟨0, Nat.zero_le _, rfl, Below.refl _ _, fun j _ hj => by omega⟩
  case round =>
    obtain ⟨k, hk, rfl, hE, hs⟩ := hrel
    by_cases hlt : k < R.length
    · obtain ⟨b1, o1, rfl, -, q1⟩ := (hA.ext hE).flat (s := 2) (fun _ => rfl) (by decide) hlt
      have x0 : wr.cell? ⟨b1, o1 + k * 2, none⟩ = some (.int .i64 R[k].1) := by simpa using q1 0 _ rfl
      have x1 := q1 1 _ rfl
      clear q1
      have hc := HP.out wr R[k] (List.getElem_mem hlt) hE
      have HC := Lib.hid hc
      clear hc
      cases hx : p R[k]
      · go_wp2_with fail
        refine HC.out.mono ?_
        rw [hx]
        rintro e w2 ⟨rfl, hb2⟩
        go_wp2_with fail
        exact ⟨⟨k + 1, by omega, by simp, hE.then hb2, fun j h hj => by rcases Nat.lt_succ_iff_lt_or_eq.1 hj with hj | rfl; exact hs.out j h hj; exact hx⟩, by simp [intOf]; omega⟩
      · go_wp2_with fail
        refine HC.out.mono ?_
        rw [hx]
        rintro e w2 ⟨rfl, hb2⟩
        go_wp2_with fail
        go_ret
        exact ⟨ret_int (idx_hit hlt hx fun j hj h => hs.out j hj h).symm, hE.then hb2⟩
    · go_wp2_with fail
      go_ret
      exact ⟨ret_int (idx_miss fun j hj => hs.out j hj (by omega)).symm, hE⟩

/-- The cells of a row, from its k-th on. -/
theorem row_cells {w : World} {g : Nat} {cur : List Value} {e : TypeId} {R : List Run} (hg : w.heap[g]? = some (.cells cur.toArray e (0, 0))) (hc : cur.take (R.length * 2) = rowC R) (k : Nat) :
    ∀ j u, (rowC (R.drop k))[j]? = some u → w.cell? ((⟨g, k * 2, none⟩ : Addr).add j) = some u := by
  intro j u hj
  rw [add_none, cell_of_row w g _ _ _ _ hg]
  rw [← rowC_drop, ← hc, List.getElem?_drop] at hj
  have h2 := (List.getElem?_eq_some_iff.1 hj).1
  rw [List.getElem?_take] at hj
  split at hj
  · simpa using hj
  · simp at hj

/-- A row of runs. -/
abbrev OwnR (w : World) (base : Nat) (v : Value) (R : List Run) : Prop := w.ownsRow base 91 2 v R.length (rowC R)

theorem take_splice {α : Type} (L : List α) (off : Nat) (cs : List α) (h : off ≤ L.length) : (splice L off cs).take off = L.take off := by
  rw [splice_eq, List.append_assoc, List.take_append_of_le_length (by rw [List.length_take]; omega), List.take_take, Nat.min_self]
theorem take_splice' {α : Type} (L : List α) (off k : Nat) (cs : List α) (h : off ≤ L.length) (hk : k = off + cs.length) : (splice L off cs).take k = L.take off ++ cs := by
  subst hk
  rw [splice_eq, List.take_append_of_le_length (by rw [List.length_append, List.length_take]; omega), List.take_of_length_le (by rw [List.length_append, List.length_take]; omega)]
theorem grown_drew {w w' : World} {r : Option Nat} (h : w.drew.grownBy w' r) : w.grownBy w' r := ⟨h.os, h.tape, h.output, h.size, h.block⟩
theorem erase_rows (R : List Run) (i : Nat) : rowC (R.eraseIdx i) = rowC (R.take i) ++ rowC (R.drop (i + 1)) := by rw [← rowC_append, List.eraseIdx_eq_take_drop_succ]
set_option maxHeartbeats 4000000 in
set_option maxRecDepth 100000 in
theorem delete_any (base : Nat) (v : Value) (R : List Run) (i : Nat) (w : World) (hi : i < R.length) (h : OwnR w base v R) (hR : R.length ≤ 16777216) :
    Calls Try.prog 63 #[v, .int .i64 i, .int .i64 ((i : Int) + 1)] w fun e w' => ∃ v', e = .returned v' ∧ OwnR w' base v' (R.eraseIdx i) ∧ w.grownBy w' v.ownBlock ∧ v'.ownBlock = v.ownBlock := by
  obtain ⟨i0, hi0, hz0, hz1, hz2⟩ := info_parts infoRun
  obtain ⟨hl, ⟨rfl, h0⟩ | ⟨g, cap, cur, rfl, hb, hg, hn, hm, hs, ht⟩⟩ := h
  · omega
  have hg' : w.heap[g]? = some (.cells cur.toList.toArray 91 (0, 0)) := by simpa using hg
  have hnews := row_cells (k := i + 1) hg' ht
  generalize hcur : cur.toList = C at hg' ht hnews
  have hC : C.length = cap * 2 := by rw [← hcur]; simpa using hs
  have hnl : (rowC (R.drop (i + 1))).length = (R.length - (i + 1)) * 2 := by rw [rowC_len, List.length_drop]
  clear hg hcur hs cur
  have HN := Lib.hid hnews
  clear hnews
  obtain ⟨m, hm1⟩ : ∃ m, m = R.length - (i + 1) := ⟨_, rfl⟩
  rw [← hm1] at hnl
  have hsl : (splice C (i * 2) (rowC (R.drop (i + 1)))).length = cap * 2 := by rw [length_splice _ _ _ (by rw [hnl, hC]; omega), hC]
  have HM := Lib.hid hm1
  have HI := Lib.hid hi
  have HL := Lib.hid (And.intro hl (And.intro ht (And.intro hC (And.intro hnl hsl))))
  clear hm1 hi hl ht hC hnl hsl
  have hki : (i : Int) + 1 ≤ (cap : Int) := by have := HI.out; omega
  have hic : i ≤ cap := by omega
  have h0i : (0 : Int) ≤ (i : Int) + 1 := by omega
  have hic1 : i + 1 ≤ cap := by omega
  have hir1 : i + 1 ≤ R.length := by have := HI.out; omega
  have hkr : (i : Int) + 1 ≤ (R.length : Int) := by omega
  have him : i + m ≤ R.length := by have := HM.out; omega
  have himz : (i : Int) + (m : Int) ≤ (R.length : Int) := by omega
  have hmz : R.length - (i + 1) = m := by have := HM.out; omega
  go_enter Try.func63, Try.ntmps63
  go_wp2_with fail
  go_region_law (refine step_append_fit _ rfl (.tmp 22) (.tmp 25) 92 rfl 91 i0 2 Try.underlying92 hi0 hz1 g i cap (by simp [Act.eval, Act.put]) C hg' (if cap = i + 1 then some ⟨g, 0, none⟩ else some ⟨g, (i + 1) * 2, none⟩) m (cap - (i + 1)) (rowC (R.drop (i + 1))) (by simp [Act.eval, Act.put]) HL.out.2.2.2.1 (fun h => by split at h <;> simp at h) (fun ad had j u hj => by split at had; (rename_i hq; rw [List.drop_eq_nil_of_le (by omega)] at hj; simp [rowC] at hj); (cases had; exact HN.out j u hj)) (rowC_one _) (by omega) (by rw [HL.out.2.2.2.1, HL.out.2.2.1]; omega) ?_; intro w1 hg1 hG1)
  go_wp2_with (first | ((with_reducible refine at_clear ?_); (refine wpList_clear_row _ rfl (.tmp 31) 92 rfl 91 i0 (.agg #[.int .i64 0, .int .i64 0]) 2 Try.underlying92 hi0 hz0 rfl (by decide) (by decide) _ _ _ rfl g ((i + m) * 2) (fun _ => rfl) _ hg1 (by rw [HL.out.2.2.2.2]; omega) ?_); intro w2 hg2 hG2))
  all_goals
    go_ret
    obtain ⟨k1, k2, k3, k4, k5⟩ := HL.out
    have hN : R.length = i + 1 + m := by have := HM.out; omega
    have e1 : (rowC (R.take i)) = C.take (i * 2) := by rw [← rowC_take, ← k2, List.take_take, Nat.min_eq_left (by omega)]
    have e2 : (splice (splice C (i * 2) (rowC (R.drop (i + 1)))) ((i + m) * 2) (zeros (.agg #[.int .i64 0, .int .i64 0]) (R.length - (i + m)))).take ((i + m) * 2) = rowC (R.eraseIdx i) := by
      rw [take_splice _ _ _ (by rw [k5]; omega), take_splice' _ _ _ _ (by rw [k3]; omega) (by rw [k4]; omega), erase_rows, e1]
    have hE : (R.eraseIdx i).length = i + m := by rw [List.length_eraseIdx]; split <;> omega
    refine ⟨_, rfl, ⟨by rw [rowC_len], .inr ⟨g, _, _, by rw [hE]; rfl, hb, hg2, by rw [hE]; omega, by omega, ?_, ?_⟩⟩, World.grownBy.trans (grown_drew hG1) hG2, rfl⟩
    · rw [List.size_toArray, length_splice _ _ _ (by rw [k5, zeros_len]; show (i + m) * 2 + (R.length - (i + m)) * 2 ≤ _; omega)]
      omega
    · rw [hE]; exact e2
end Go.Proofs.Ytpjlhkepdiajjaa

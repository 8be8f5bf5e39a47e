
/- Package extent: slices.Replace of some runs by one. -/
import Derived.Test.YtpjlhkepdiajjaaExtC
set_option linter.all false
namespace Go.Proofs.Ytpjlhkepdiajjaa
open Go.RowKit
section
variable (base : Nat) (v : Value) (R : List Run) (i j : Nat) (x : Run) (w : World) (bx : Nat)
/-- What a replacement leaves. -/
def Replaced (e : Ending) (w' : World) : Prop := ∃ v', e = .returned v' ∧ OwnR w' base v' (R.take i ++ [x] ++ R.drop j) ∧ w.grownBy w' v.ownBlock ∧ (v'.ownBlock = v.ownBlock ∨ v'.ownBlock = some w.heap.size)

set_option maxHeartbeats 4000000 in
set_option maxRecDepth 20000 in
theorem replace_none (h : OwnR w base v R) (hi : i ≤ R.length) (hR : R.length ≤ 16777215) (hx : w.heap[bx]? = some (.cells #[.int .i64 x.1, .int .i64 x.2] 91)) (hbase : base ≤ w.heap.size) (hne : v.ownBlock ≠ some bx) :
    Calls Try.prog 58 #[v, .int .i64 i, .int .i64 i, .slice (some ⟨bx, 0, none⟩) 1 1] w (Replaced base v R i i x w) := by
  have hc := insert_any base v R i x w bx h hi hR hx hbase hne
  obtain ⟨A, c, rfl, hc0, -⟩ := Arr.own h
  have HC := Lib.hid hc
  clear hc
  have hd : i = c ∨ ¬ (c = i) := by omega
  have hq1 : (i : Int) ≤ (c : Int) := by omega
  have hq2 : (i : Int) ≤ (R.length : Int) := by omega
  have hq3 : i ≤ c := by omega
  clear hx h
  rcases hd with rfl | hcf
  all_goals
   go_enter Try.func58, Try.ntmps58
   go_wp2_with fail
   refine HC.out.mono ?_
   rintro e w1 ⟨v1, rfl, ho1, hg1, ha1⟩
   go_wp2_with fail
   go_ret
   exact ⟨v1, rfl, ho1, hg1, ha1⟩

set_option maxHeartbeats 4000000 in
set_option maxRecDepth 20000 in
theorem replace_end (g cap : Nat) (C : List Value) (hb : base ≤ g) (hg : w.heap[g]? = some (.cells C.toArray 91 (0, 0))) (hn : R.length ≤ cap) (hm : cap ≤ maxLen) (hC : C.length = cap * 2) (ht : C.take (R.length * 2) = rowC R)
    (hi : i < R.length) (hR : R.length ≤ 16777215) (hx : w.heap[bx]? = some (.cells #[.int .i64 x.1, .int .i64 x.2] 91)) (hne : bx ≠ g) :
    Calls Try.prog 58 #[.slice (some ⟨g, 0, none⟩) R.length cap, .int .i64 i, .int .i64 R.length, .slice (some ⟨bx, 0, none⟩) 1 1] w (Replaced base (.slice (some ⟨g, 0, none⟩) R.length cap) R i R.length x w) := by
  obtain ⟨i0, hi0, hz0, hz1, hz2⟩ := info_parts infoRun
  have HX := Lib.hid (cell_x hx)
  have HI := Lib.hid hi
  have hq1 : i ≤ cap := by omega
  have hq2 : ((i : Int) == (R.length : Int)) = false := by simp; omega
  have hq4 : ¬ (cap = i) := by omega
  have hq6 : (R.length : Int) ≤ (cap : Int) := by omega
  have hq8 : (i : Int) ≤ (R.length : Int) := by omega
  have hq9 : (i : Int) + 1 ≤ (R.length : Int) := by omega
  have hq10 : i ≤ R.length := by omega
  have hs1 : (splice C (i * 2) (cell2 x)).length = cap * 2 := by rw [length_splice _ _ _ (by rw [len_cell2, hC]; omega), hC]
  have eT : C.take (i * 2) = rowC (R.take i) := by rw [← rowC_take, ← ht, List.take_take, Nat.min_eq_left (by omega)]
  have e1 : (splice C (i * 2) (cell2 x)).take ((i + 1) * 2) = rowC (R.take i ++ [x] ++ R.drop R.length) := by
    rw [take_splice' _ _ _ _ (by rw [hC]; omega) (by rw [len_cell2]; omega), eT, rowC_append, rowC_append]
    simp [rowC]
  have hN : (R.take i ++ [x] ++ R.drop R.length).length = i + 1 := by simp; omega
  have HL := Lib.hid (And.intro hC (And.intro hs1 (And.intro e1 hN)))
  have hfit : i * 2 + (cell2 x).length ≤ C.length := by rw [len_cell2, hC]; omega
  have HF := Lib.hid hfit
  clear hC ht hx hi hs1 eT e1 hN hfit
  have hlt : i + 1 < R.length ∨ i + 1 = R.length := by have := HI.out; omega
  rcases hlt with hlt | hlt
  · have hq11 : decide ((i : Int) + 1 < (R.length : Int)) = true := decide_eq_true (by omega)
    have hq12 : ¬ (cap = i + 1) := by omega
    have HLT := Lib.hid hlt
    clear hlt
    go_enter Try.func58, Try.ntmps58
    go_wp2_with (first
      | (at_builtin; refine wpList_append_fit _ rfl (.tmp 32) (.tmp 33) 92 rfl 91 i0 2 Try.underlying92 hi0 hz1 g i cap rfl C hg _ 1 1 (cell2 x) rfl (by simp) (fun h => by simp at h) (fun ad had j u hj => by cases had; exact HX.out j u hj) (by simp [Value.oneCell']) (by have := HI.out; omega) HF.out ?_; intro w1 hg1 hG1)
      | ((with_reducible refine at_clear ?_); refine wpList_clear_row _ rfl (.tmp 43) 92 rfl 91 i0 (.agg #[.int .i64 0, .int .i64 0]) 2 Try.underlying92 hi0 hz0 rfl (by decide) (by decide) _ (R.length - (i + 1)) _ rfl g ((i + 1) * 2) (fun _ => rfl) _ hg1 (by rw [HL.out.2.1]; have := HLT.out; omega) ?_; intro w2 hg2 hG2))
    go_ret
    obtain ⟨k1, k2, k3, k4⟩ := HL.out
    have hlt := HLT.out
    refine ⟨_, rfl, ⟨by rw [rowC_len], .inr ⟨g, cap, _, by rw [k4]; rfl, hb, hg2, by rw [k4]; omega, hm, ?_, ?_⟩⟩, hG1.trans hG2, .inl rfl⟩
    · rw [List.size_toArray, length_splice _ _ _ (by rw [k2, zeros_len]; show (i + 1) * 2 + (R.length - (i + 1)) * 2 ≤ _; omega), k2]
    · rw [k4]
      exact (take_splice _ _ _ (by rw [k2]; omega)).trans k3
  · have hq11 : decide ((i : Int) + 1 < (R.length : Int)) = false := decide_eq_false (by omega)
    clear hlt
    go_enter Try.func58, Try.ntmps58
    go_wp2_with (first
      | (at_builtin; refine wpList_append_fit _ rfl (.tmp 32) (.tmp 33) 92 rfl 91 i0 2 Try.underlying92 hi0 hz1 g i cap rfl C hg _ 1 1 (cell2 x) rfl (by simp) (fun h => by simp at h) (fun ad had j u hj => by cases had; exact HX.out j u hj) (by simp [Value.oneCell']) (by have := HI.out; omega) HF.out ?_; intro w1 hg1 hG1))
    go_ret
    obtain ⟨k1, k2, k3, k4⟩ := HL.out
    exact ⟨_, rfl, ⟨by rw [rowC_len], .inr ⟨g, cap, _, by rw [k4]; rfl, hb, hg1, by rw [k4]; omega, hm, by rw [List.size_toArray, k2], by rw [k4]; exact k3⟩⟩, hG1, .inl rfl⟩

set_option maxHeartbeats 4000000 in
set_option maxRecDepth 20000 in
theorem replace_mid (g cap : Nat) (C : List Value) (hb : base ≤ g) (hg : w.heap[g]? = some (.cells C.toArray 91 (0, 0))) (hn : R.length ≤ cap) (hm : cap ≤ maxLen) (hC : C.length = cap * 2) (ht : C.take (R.length * 2) = rowC R)
    (hij : i < j) (hj : j < R.length) (hR : R.length ≤ 16777215) (hx : w.heap[bx]? = some (.cells #[.int .i64 x.1, .int .i64 x.2] 91)) (hne : bx ≠ g) :
    Calls Try.prog 58 #[.slice (some ⟨g, 0, none⟩) R.length cap, .int .i64 i, .int .i64 j, .slice (some ⟨bx, 0, none⟩) 1 1] w (Replaced base (.slice (some ⟨g, 0, none⟩) R.length cap) R i j x w) := by
  obtain ⟨i0, hi0, hz0, hz1, hz2⟩ := info_parts infoRun
  have HX := Lib.hid (cell_x hx)
  obtain ⟨m, hm1⟩ : ∃ m, j + m = R.length := ⟨R.length - j, by omega⟩
  have hD : (rowC (R.drop j)).length = m * 2 := by rw [rowC_len, List.length_drop]; omega
  have hs1 : (splice C (i * 2) (cell2 x)).length = cap * 2 := by rw [length_splice _ _ _ (by rw [len_cell2, hC]; omega), hC]
  have hs2 : (splice (splice C (i * 2) (cell2 x)) ((i + 1) * 2) (rowC (R.drop j))).length = cap * 2 := by rw [length_splice _ _ _ (by rw [hD, hs1]; omega), hs1]
  have eT : C.take (i * 2) = rowC (R.take i) := by rw [← rowC_take, ← ht, List.take_take, Nat.min_eq_left (by omega)]
  have e1 : (splice (splice C (i * 2) (cell2 x)) ((i + 1) * 2) (rowC (R.drop j))).take ((i + 1 + m) * 2) = rowC (R.take i ++ [x] ++ R.drop j) := by
    rw [take_splice' _ _ _ _ (by rw [hs1]; omega) (by rw [hD]; omega), take_splice' _ _ _ _ (by rw [hC]; omega) (by rw [len_cell2]; omega), eT, rowC_append, rowC_append]
    simp [rowC]
  have hN : (R.take i ++ [x] ++ R.drop j).length = i + 1 + m := by simp; omega
  have hcD := row_cells hg ht j
  have HL := Lib.hid (And.intro hC (And.intro hD (And.intro hs1 (And.intro hs2 (And.intro e1 (And.intro hN hcD))))))
  have HIJ := Lib.hid hij
  have HJ := Lib.hid hj
  have HM := Lib.hid hm1
  have hq1 : i ≤ cap := by omega
  have hq2 : ((i : Int) == (j : Int)) = false := by simp; omega
  have hq3 : ((j : Int) == (R.length : Int)) = false := by simp; omega
  have hq4 : ¬ (cap = i) := by omega
  have hq5 : ¬ (cap = j) := by omega
  have hq6 : (j : Int) ≤ (cap : Int) := by omega
  have hq7 : (j : Int) ≤ (R.length : Int) := by omega
  have hq8 : (i : Int) ≤ (j : Int) := by omega
  have hq9 : (i : Int) ≤ (cap : Int) := by omega
  have hqa : (i : Int) ≤ (R.length : Int) := by omega
  have hqb : R.length - j = m := by omega
  have hqc : decide ((i : Int) + 1 + (m : Int) > (cap : Int)) = false := decide_eq_false (by omega)
  have hqd : (i : Int) + 1 + (m : Int) ≤ (cap : Int) := by omega
  have hqe : decide ((i : Int) + 1 ≤ (j : Int)) = true := decide_eq_true (by omega)
  have hqf : (i : Int) + 1 + (m : Int) ≤ (R.length : Int) := by omega
  have hqh : (i : Int) ≤ (i : Int) + 1 + (m : Int) := by omega
  have hqi : (i : Int) + 1 ≤ (i : Int) + 1 + (m : Int) := by omega
  have hqj : ¬ (cap = i + 1) := by omega
  have hwi : IntKind.i64.wrap ((i : Int) + 1) = (i : Int) + 1 := IntWalk.i64_in _ (by omega)
  have hwj : IntKind.i64.wrap ((i : Int) + 1 + (m : Int)) = (i : Int) + 1 + (m : Int) := IntWalk.i64_in _ (by omega)
  have hqk : (0 : Int) ≤ (i : Int) + 1 := by omega
  have hi16 : i ≤ 16777215 := by omega
  have hm16 : m ≤ 16777215 := by omega
  clear hC ht hx hij hj hm1 hD hs1 hs2 eT e1 hN hcD
  go_enter Try.func58, Try.ntmps58
  go_wp2_with fail
  have hgd : w.drew.heap[g]? = some (.cells C.toArray 91 (0, 0)) := hg
  go_region
  go_wp2_with (first
    | ((with_reducible refine at_copy ?_); refine wpList_copy_rows _ rfl (.tmp 95) (.tmp 96) 92 92 rfl 91 2 Try.underlying92 sizeRun (by decide) _ _ _ _ 1 1 rfl rfl g (i * 2) C 91 hgd (cell2 x) (by rw [nmin (by omega)]; simp) (fun _ => ⟨rfl, _, rfl, HX.out⟩) (by rw [len_cell2, HL.out.1]; omega) (by simp [Value.oneCell']) ?_; intro w3 hg3 hG3))
  have hcD : ∀ q u, (rowC (R.drop j))[q]? = some u → w3.cell? ((⟨g, j * 2, none⟩ : Addr).add q) = some u := fun q u hq => by
    have h1 := HL.out.2.2.2.2.2.2 q u hq
    rw [add_none, cell_of_row w g _ _ _ _ hg] at h1
    rw [add_none, cell_of_row w3 g _ _ _ _ hg3]
    have hlt := (List.getElem?_eq_some_iff.1 hq).1
    rw [HL.out.2.1] at hlt
    have := HL.out.1
    rw [splice_eq, len_cell2]
    simp only [List.getElem?_toArray] at h1 ⊢
    have := HIJ.out
    rw [List.append_assoc, List.getElem?_append_right (by rw [List.length_take]; omega), List.getElem?_append_right (by rw [List.length_take, len_cell2]; omega), List.getElem?_drop, List.length_take, len_cell2, Nat.min_eq_left (by omega), show i * 2 + 2 + (j * 2 + q - i * 2 - 2) = j * 2 + q by omega]
    exact h1
  have HCD := Lib.hid hcD
  clear hcD
  go_region_law (refine step_copy_rows _ rfl (.tmp 103) (.tmp 106) 92 92 rfl 91 2 Try.underlying92 sizeRun (by decide) (some ⟨g, (i + 1) * 2, none⟩) (some ⟨g, j * 2, none⟩) m (cap - (i + 1)) m (cap - j) (by simp [Act.eval, Act.put]) (by simp [Act.eval, Act.put]) g ((i + 1) * 2) _ 91 hg3 (rowC (R.drop j)) (by rw [HL.out.2.1, nmin (Nat.le_refl _)]) (fun _ => ⟨rfl, _, rfl, HCD.out⟩) (by rw [HL.out.2.1, HL.out.2.2.1]; have := HIJ.out; have := HM.out; omega) (rowC_one _) ?_; intro w4 hg4 hG4)
  go_wp2_with (first
    | ((with_reducible refine at_clear ?_); refine wpList_clear_row _ rfl (.tmp 110) 92 rfl 91 i0 (.agg #[.int .i64 0, .int .i64 0]) 2 Try.underlying92 hi0 hz0 rfl (by decide) (by decide) _ (R.length - (i + 1 + m)) _ rfl g ((i + 1 + m) * 2) (fun h => by first | rfl | (exfalso; omega) | exact if_neg (by omega)) _ hg4 (by rw [HL.out.2.2.2.1]; omega) ?_; intro w5 hg5 hG5))
  all_goals
    go_ret
    obtain ⟨k1, k2, k3, k4, k5, k6, -⟩ := HL.out
    have hij := HIJ.out
    have hjm := HM.out
    refine ⟨_, rfl, ⟨by rw [rowC_len], .inr ⟨g, _, _, by rw [k6]; rfl, hb, hg5, by rw [k6]; omega, by omega, ?_, ?_⟩⟩, (grown_drew hG3).trans ((grown_drew hG4).trans hG5), .inl rfl⟩
    · rw [List.size_toArray, length_splice _ _ _ (by rw [k4, zeros_len]; show (i + 1 + m) * 2 + (R.length - (i + 1 + m)) * 2 ≤ _; omega)]
      omega
    · rw [k6]
      exact (take_splice _ _ _ (by rw [k4]; omega)).trans k5

theorem replace_any (h : OwnR w base v R) (hij : i ≤ j) (hj : j ≤ R.length) (hR : R.length ≤ 16777215) (hx : w.heap[bx]? = some (.cells #[.int .i64 x.1, .int .i64 x.2] 91)) (hbase : base ≤ w.heap.size) (hne : v.ownBlock ≠ some bx) :
    Calls Try.prog 58 #[v, .int .i64 i, .int .i64 j, .slice (some ⟨bx, 0, none⟩) 1 1] w (Replaced base v R i j x w) := by
  by_cases he : i = j
  · subst he
    exact replace_none base v R i x w bx h hj hR hx hbase hne
  · obtain ⟨-, ⟨rfl, h0⟩ | ⟨g, cap, cur, rfl, hb, hg, hn, hm, hs, ht⟩⟩ := h
    · omega
    · have hg' : w.heap[g]? = some (.cells cur.toList.toArray 91 (0, 0)) := by simpa using hg
      have hbg : bx ≠ g := fun e => hne (by rw [e]; rfl)
      by_cases hl : j = R.length
      · subst hl
        exact replace_end base R i x w bx g cap cur.toList hb hg' hn hm (by simpa using hs) ht (by omega) hR hx hbg
      · exact replace_mid base R i j x w bx g cap cur.toList hb hg' hn hm (by simpa using hs) ht (by omega) (by omega) hR hx hbg
end
end Go.Proofs.Ytpjlhkepdiajjaa

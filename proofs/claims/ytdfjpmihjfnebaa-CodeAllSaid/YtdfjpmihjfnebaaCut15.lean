/- CodeCut: its walk. -/
import Derived.Test.YtdfjpmihjfnebaaHead15
import Derived.Test.YtdfjpmihjfnebaaPhi
import Derived.Test.YtdfjpmihjfnebaaAllP15
set_option linter.all false
namespace Go.Proofs.Ytdfjpmihjfnebaa
open Go.RowKit

theorem infoByte : (Try.prog.info? 5).map (fun i => (i.zero, i.size, i.bytes)) = some (some (.int .u8 0), 1, 1) := by kernel_rfl
theorem bs_len (l : List Int) : (bs l).length = l.length := by simp [bs]
theorem bs_one (l : List Int) : ∀ u ∈ bs l, u.oneCell' = true := by
  intro u hu
  simp only [bs, List.mem_map] at hu
  obtain ⟨x, -, rfl⟩ := hu
  rfl
set_option maxHeartbeats 4000000 in
theorem cut_long (A : Option Addr) (c : Nat) (l : List Ins) (n : Int) (w : World) (hl : 200 < l.length) (hm : l.length ≤ c) (hc : c ≤ maxLen) :
    Calls Try.prog 6 #[.slice A l.length c, .int .u8 n] w fun e w' => e = .returned (.bool true) ∧ Ext w w' := by
  go_enter Try.func6, Try.ntmps6
  go_wp2_with fail
  refine (head_any _).mono ?_
  rintro e w1 ⟨rfl, hb1⟩
  have hg : decide ((l.length : Int) > 200) = true := decide_eq_true (by omega)
  go_wp2_with fail
  go_ret
  exact ⟨rfl, hb1⟩
set_option maxHeartbeats 4000000 in
theorem cut_short (A : Option Addr) (c : Nat) (l : List Ins) (n : Int) (w : World) (h : Arr w A (insCells l)) (n0 : 0 ≤ n) (n1 : n < 256) (hl : l.length ≤ 200) (hm : l.length ≤ c) (hc : c ≤ maxLen) :
    Calls Try.prog 6 #[.slice A l.length c, .int .u8 n] w fun e w' => e = .returned (.bool true) ∧ Ext w w' := by
  obtain ⟨i0, hi, hz0, hz1, hz2⟩ := info_parts infoByte
  go_enter Try.func6, Try.ntmps6
  go_wp2_with fail
  refine (head_any _).mono ?_
  rintro e w1 ⟨rfl, hb1⟩
  have hg : decide ((l.length : Int) > 200) = false := decide_eq_false (by omega)
  go_wp2_with fail
  have E1 := Lib.hid hb1
  clear hb1
  go_loopw [6, 7] (fun v i wr => ∃ j : Nat, j ≤ l.length ∧ i = .int .i64 (j : Int) ∧ wr.ownsRow w.heap.size 5 1 v (putAll (l.take j)).length (bs (putAll (l.take j))) ∧ Ext w wr) (fun _ i _ => l.length - (intOf i).toNat)
  case atStart => exact ⟨0, by omega, rfl, World.ownsRow_nil _ _ _ _, E1.out⟩
  case round =>
    obtain ⟨j, hj, rfl, hrow, hE⟩ := hrel
    by_cases hlt : j < l.length
    · obtain ⟨b1, o1, rfl, -, q1⟩ := (h.ext hE).flat (s := 4) (fun _ => rfl) (by decide) hlt
      have x0 : wr.cell? ⟨b1, o1 + j * 4, none⟩ = some (.int .i64 l[j].op) := by simpa using q1 0 _ rfl
      have x1 := q1 1 _ rfl
      have x2 := q1 2 _ rfl
      have x3 := q1 3 _ rfl
      clear q1
      have P := put_any l[j].op l[j].a l[j].b l[j].c wr
      have HP := Lib.hid P
      clear P
      have hl4 : (putL l[j].op l[j].a l[j].b l[j].c).length ≤ 4 := by have := put_length l[j]; unfold putI at this; rw [this]; split <;> omega
      have hsm : (putAll (l.take j)).length ≤ 800 := by have := putAll_le (l.take j); simp at this; omega
      go_wp2_with (first
        | (go_at_call 19; refine HP.out.mono ?_; rintro e w2 ⟨v2, rfl, ho2, hb2⟩; rename_i hK1; refine hK1 _ _ ?_)
        | (at_builtin; refine wpList_append_src _ rfl _ _ 24 rfl w.heap.size 5 i0 (.int .u8 0) 1 1 Try.underlying24 hi hz0 hz1 hz2 rfl (by decide) _ _ _ rfl (own_ext hrow hb2) _ _ _ rfl (Lies.own ho2) (by simp [bs]) (bs_one _) (by unfold maxLen; omega) (by omega) (by have := hE.size; have := hb2.size; omega) ?_; intro v' w3 hown' hgrow hnil))
      have E3 : Ext w w3 := Below.grown (hE.then hb2) hgrow (hE.then hb2).size (fun r hr => (hrow.lt r hr).1)
      have e := putAll_succ hlt
      have e1 : bs (putAll (l.take (j + 1))) = bs (putAll (l.take j)) ++ bs (putL l[j].op l[j].a l[j].b l[j].c) := by rw [e]; exact List.map_append ..
      have e2 : (putAll (l.take (j + 1))).length = (putAll (l.take j)).length + (putL l[j].op l[j].a l[j].b l[j].c).length := by rw [e]; exact List.length_append ..
      exact ⟨⟨j + 1, by omega, by simp, by rw [e1, e2]; exact hown', E3⟩, by simp [intOf]; omega⟩
    · have ej : j = l.length := by omega
      subst ej
      rw [List.take_length] at hrow
      have hsm : (putAll l).length ≤ 800 := by have := putAll_le l; omega
      obtain ⟨A0, c0, rfl, hc0, -⟩ := Arr.own hrow
      have ho0 := own_lit wr wr.heap.size 5 1 0 [] (Nat.le_refl _) rfl (by simp [maxLen])
      have hk : (1 + n % 3 : Int) = ((1 + n.toNat % 3 : Nat) : Int) := by omega
      have hk3 : n.toNat % 3 < 3 := Nat.mod_lt _ (by decide)
      generalize hkk : 1 + n.toNat % 3 = k at hk
      have hmem : (getI ((List.replicate k 0 : List Int).take 4)).2 = 1 := by
        have : k = 1 ∨ k = 2 ∨ k = 3 := by omega
        rcases this with rfl | rfl | rfl <;> rfl
      have hz : zeros (.int .u8 0) k = bs (List.replicate k 0) := by rw [zeros_one _ _ rfl]; simp [bs]
      have eL : [] ++ bs (putAll l) ++ zeros (.int .u8 0) k = bs (putAll l ++ List.replicate k 0) := by rw [hz, List.nil_append]; exact List.map_append.symm
      have eN : 0 + (putAll l).length + k = (putAll l ++ List.replicate k 0).length := by simp
      have eS : allS (putAll l ++ List.replicate k 0) = ([], ((putAll l).length : Int), 1) := by
        have h1 := putAll_len (rights_mem (l := l))
        have h2 := allS_bad (l := rights l) rights_mem (m := List.replicate k 0) (by simp; omega) (by rw [hmem]; decide)
        rw [← putAll_rights, hmem, ← h1, ← putAll_rights] at h2
        exact h2
      have hLb : ∀ y ∈ putAll l ++ List.replicate k 0, 0 ≤ y ∧ y < 256 := by
        intro y hy
        rcases List.mem_append.1 hy with hy | hy
        · exact putAll_bytes l y hy
        · rw [List.mem_replicate] at hy; omega
      have hLm : (putAll l ++ List.replicate k 0).length ≤ 16777216 := by simp; omega
      generalize putAll l ++ List.replicate k 0 = L at eL eN eS hLb hLm
      clear hmem hz
      have HL := Lib.hid (And.intro eL (And.intro eN (And.intro eS (And.intro hLb hLm))))
      clear eL eN eS hLb hLm
      go_wp2_with (first
        | (at_builtin; refine wpList_append_src _ rfl (.tmp 35) (.tmp 36) 24 rfl wr.heap.size 5 i0 (.int .u8 0) 1 1 Try.underlying24 hi hz0 hz1 hz2 rfl (by decide) _ _ _ rfl ho0 _ _ _ rfl ((Lies.own hrow).keep (Ext.alloc (Below.refl _ _) _)) (by simp [bs]) (bs_one _) (by unfold maxLen; omega) (by omega) (by simp) ?_; intro v' w3 hown' hgrow hnil)
        | (at_builtin; refine wpList_append_zeros _ rfl (.tmp 37) (.tmp 38) 24 3 rfl wr.heap.size 5 .i64 i0 (.int .u8 0) 1 1 Try.underlying24 Try.underlying3 hi hz0 hz1 hz2 rfl (by decide) (by decide) _ _ _ rfl hown' .i64 k rfl (by omega) (by unfold maxLen; omega) (by omega) (by have := hgrow.size; simp at this; omega) ?_; intro v2 w4 hown2 hgrow2; rw [HL.out.1, HL.out.2.1] at hown2; obtain ⟨A2, c2, rfl, hc2, ha2⟩ := Arr.own hown2; have HA := Lib.hid (all_any A2 c2 L w4 ha2 HL.out.2.2.2.1 hc2 HL.out.2.2.2.2))
        | (go_at_call 13; refine HA.out.mono ?_; intro e w5 h5; unfold AllPost at h5; rw [HL.out.2.2.1] at h5; obtain ⟨v5, rfl, ho5, hb5⟩ := h5; obtain ⟨A5, c5, rfl, -, -⟩ := Arr.own ho5))
      go_ret
      have E2 : Ext w (wr.alloc (.cells #[] 5)) := hE.alloc _
      have E3 := Below.grown E2 hgrow E2.size fun r hr => Nat.le_trans hE.size (ho0.lt r hr).1
      have E4 := Below.grown E3 hgrow2 E3.size fun r hr => Nat.le_trans hE.size (hown'.lt r hr).1
      exact ⟨rfl, Ext.then E4 hb5⟩
theorem cut_any (A : Option Addr) (c : Nat) (l : List Ins) (n : Int) (w : World) (h : Arr w A (insCells l)) (n0 : 0 ≤ n) (n1 : n < 256) (hm : l.length ≤ c) (hc : c ≤ maxLen) :
    Calls Try.prog 6 #[.slice A l.length c, .int .u8 n] w fun e w' => e = .returned (.bool true) ∧ Ext w w' := by
  by_cases hl : l.length ≤ 200
  · exact cut_short A c l n w h n0 n1 hl hm hc
  · exact cut_long A c l n w (by omega) hm hc
end Go.Proofs.Ytdfjpmihjfnebaa

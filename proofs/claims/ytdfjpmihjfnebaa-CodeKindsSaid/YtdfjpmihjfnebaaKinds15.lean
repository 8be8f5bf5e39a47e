/- CodeKinds: its walk. -/
import Derived.Test.YtdfjpmihjfnebaaHead15
import Derived.Test.YtdfjpmihjfnebaaPhi
import Derived.Test.YtdfjpmihjfnebaaWide15
set_option linter.all false
namespace Go.Proofs.Ytdfjpmihjfnebaa
open Go.RowKit

set_option maxHeartbeats 4000000 in
theorem kindsl_none (k a b c : Int) (w : World) (k0 : 0 ≤ k) (k1 : k < 256) (a0 : -32768 ≤ a) (a1 : a < 32768) (b0 : -2147483648 ≤ b) (b1 : b < 2147483648) (c0 : -32768 ≤ c) (c1 : c < 32768) (hk : 29 < k % 32) :
    Calls Try.prog 7 #[.int .u8 k, .int .i16 a, .int .i32 b, .int .i16 c] w fun e w' => e = .returned (.bool true) ∧ Ext w w' := by
  have HK := Lib.hid (kinds_out (k % 32) (.inr hk))
  have hr : rightB (k % 32) a b c = false := right_out (by omega)
  go_enter Try.func7, Try.ntmps7
  go_wp2_with fail
  refine (head_any _).mono ?_
  rintro e w1 ⟨rfl, hb1⟩
  go_wp2_with fail
  refine (kinds_any _ _).mono ?_
  rw [HK.out]
  rintro e w2 ⟨rfl, hb2⟩
  obtain ⟨hc2, hf2, hz2⟩ := bcellN hb2 (w1.heap.size + 1) (by simp)
  go_wp2_with fail
  refine (right_any _ _ _ _ _).mono ?_
  rintro e w3 ⟨rfl, hb3⟩
  rw [hr]
  go_wp2_with fail
  go_ret
  exact ⟨rfl, hb1.then ((Ext.alloc (Below.refl _ _) _).then (hb2.then hb3))⟩

theorem fine114 (n : Int) : fineB 114 n = (decide (0 ≤ n) && decide (n ≤ 7)) := by unfold fineB; rw [show bnd 114 = (0, 7) by decide]
theorem fine105 (n : Int) : fineB 105 n = (decide (0 ≤ n) && decide (n ≤ 255)) := by unfold fineB; rw [show bnd 105 = (0, 255) by decide]
theorem fine119 (n : Int) : fineB 119 n = (decide (-32768 ≤ n) && decide (n ≤ 32767)) := by unfold fineB; rw [show bnd 119 = (-32768, 32767) by decide]
theorem fineE {k : Int} (h1 : (k == 114) = false) (h2 : (k == 105) = false) (h3 : (k == 119) = false) (n : Int) : fineB k n = (decide (0 ≤ n) && decide (n ≤ 0)) := by unfold fineB bnd; rw [h1, h2, h3]; rfl
/-- What the law has found of the first j fields. -/
def okJ (op a b c : Int) (j : Nat) : Bool := (List.range j).all fun i => fineB (kch op i) ([a, b, c].getD i 0)
set_option maxHeartbeats 4000000 in
set_option maxRecDepth 100000 in
theorem kindsl_some (k a b c : Int) (w : World) (k0 : 0 ≤ k) (k1 : k < 256) (a0 : -32768 ≤ a) (a1 : a < 32768) (b0 : -2147483648 ≤ b) (b1 : b < 2147483648) (c0 : -32768 ≤ c) (c1 : c < 32768) (hk : k % 32 ≤ 29) :
    Calls Try.prog 7 #[.int .u8 k, .int .i16 a, .int .i32 b, .int .i16 c] w fun e w' => e = .returned (.bool true) ∧ Ext w w' := by
  obtain ⟨x0, x1, x2, hs, y0, y1, y2, z0, z1, z2⟩ := kinds_form (k % 32) (by omega) hk
  have HK := Lib.hid hs
  have hsz := str3_size x0 x1 x2
  clear hs
  go_enter Try.func7, Try.ntmps7
  go_wp2_with fail
  refine (head_any _).mono ?_
  rintro e w1 ⟨rfl, hb1⟩
  go_wp2_with fail
  refine (kinds_any _ _).mono ?_
  rw [HK.out]
  rintro e w2 ⟨rfl, hb2⟩
  obtain ⟨hc2, hf2, hz2⟩ := bcellN hb2 (w1.heap.size + 1) (by simp)
  go_wp2_with fail
  have hcell : ∀ j v, [Value.int .i64 a, .int .i64 b, .int .i64 c][j]? = some v → (w2.alloc (.cells #[.int .i64 a, .int .i64 b, .int .i64 c] 3)).cell? ⟨w2.heap.size, j, none⟩ = some v := fun j v hv => by
    rw [cell_of_row _ _ j _ _ _ (heap_alloc_new w2 _)]
    simpa using hv
  have HR := Lib.hid (lie4 (hb2.block _ (by simp) |>.trans (heap_alloc_new _ _)) (Ext.alloc (Below.refl _ w2) (.cells #[.int .i64 a, .int .i64 b, .int .i64 c] 3)))
  have HE := Lib.hid (Ext.alloc (hb1.then ((Ext.alloc (Below.refl _ _) _).then hb2)) (.cells #[.int .i64 a, .int .i64 b, .int .i64 c] 3))
  generalize hW : w2.alloc (.cells #[.int .i64 a, .int .i64 b, .int .i64 c] 3) = W at hcell HR HE ⊢
  go_loopw [13, 14] (fun want i wr => ∃ j : Nat, j ≤ 3 ∧ i = .int .i64 (j : Int) ∧ want = .bool (okJ (k % 32) a b c j) ∧ wr = W) (fun _ i _ => 3 - (intOf i).toNat)
  case atStart => exact ⟨0, by omega, rfl, rfl, rfl⟩
  case round =>
    obtain ⟨j, hj, rfl, rfl, rfl⟩ := hrel
    by_cases hlt : j < 3
    · have hload : wr.cell? ⟨w2.heap.size, j, none⟩ = some (.int .i64 ([a, b, c].getD j 0)) := by
        refine hcell j _ ?_
        rcases j with _ | _ | _ | j
        · rfl
        · rfl
        · rfl
        · omega
      have hch : ((((str3 x0 x1 x2)[j]'(by rw [hsz]; exact hlt)).toNat : Nat) : Int) = kch (k % 32) j := by
        rcases j with _ | _ | _ | j
        · rw [z0]; rfl
        · rw [z1]; rfl
        · rw [z2]; rfl
        · omega
      have hok : okJ (k % 32) a b c (j + 1) = (okJ (k % 32) a b c j && fineB (kch (k % 32) j) ([a, b, c].getD j 0)) := by
        simp [okJ, List.range_succ]
      generalize okJ (k % 32) a b c j = q at hok ⊢
      generalize [a, b, c].getD j 0 = n at hload hok
      generalize kch (k % 32) j = ch at hch hok
      have HO := Lib.hid hok
      clear hok hcell HK HR y0 y1 y2 z0 z1 z2 hW
      have t114 : ((((str3 x0 x1 x2)[j]'(by rw [hsz]; exact hlt)).toNat : Int) == 114) = (ch == 114) := by rw [hch]
      have t105 : ((((str3 x0 x1 x2)[j]'(by rw [hsz]; exact hlt)).toNat : Int) == 105) = (ch == 105) := by rw [hch]
      have t119 : ((((str3 x0 x1 x2)[j]'(by rw [hsz]; exact hlt)).toNat : Int) == 119) = (ch == 119) := by rw [hch]
      clear hch
      cases h114 : (ch == 114)
      · rw [h114] at t114
        cases h105 : (ch == 105)
        · rw [h105] at t105
          cases h119 : (ch == 119)
          · rw [h119] at t119
            have he := Lib.hid (fineE h114 h105 h119 n)
            clear h114 h105 h119
            cases q
            · go_wp2_with fail
              exact ⟨⟨j + 1, by omega, by simp, by rw [HO.out]; rfl, trivial⟩, by simp [intOf]; omega⟩
            · go_wp2_with fail
              all_goals exact ⟨⟨j + 1, by omega, by simp, by rw [HO.out, he.out]; congr 1; rw [Bool.eq_iff_iff]; (simp <;> omega), trivial⟩, by simp [intOf]; omega⟩
          · rw [h119] at t119
            have e : ch = 119 := by simpa using h119
            subst e
            clear h114 h105 h119
            cases q
            · go_wp2_with fail
              exact ⟨⟨j + 1, by omega, by simp, by rw [HO.out]; rfl, trivial⟩, by simp [intOf]; omega⟩
            · go_wp2_with fail
              all_goals exact ⟨⟨j + 1, by omega, by simp, by rw [HO.out, fine119]; congr 1; rw [Bool.eq_iff_iff]; (simp <;> omega), trivial⟩, by simp [intOf]; omega⟩
        · rw [h105] at t105
          have e : ch = 105 := by simpa using h105
          subst e
          clear h114 h105 t119
          cases q
          · go_wp2_with fail
            exact ⟨⟨j + 1, by omega, by simp, by rw [HO.out]; rfl, trivial⟩, by simp [intOf]; omega⟩
          · go_wp2_with fail
            all_goals exact ⟨⟨j + 1, by omega, by simp, by rw [HO.out, fine105]; congr 1; rw [Bool.eq_iff_iff]; (simp <;> omega), trivial⟩, by simp [intOf]; omega⟩
      · rw [h114] at t114
        have e : ch = 114 := by simpa using h114
        subst e
        clear h114 t105 t119
        cases q
        · go_wp2_with fail
          exact ⟨⟨j + 1, by omega, by simp, by rw [HO.out]; rfl, trivial⟩, by simp [intOf]; omega⟩
        · go_wp2_with fail
          all_goals exact ⟨⟨j + 1, by omega, by simp, by rw [HO.out, fine114]; congr 1; rw [Bool.eq_iff_iff]; (simp <;> omega), trivial⟩, by simp [intOf]; omega⟩
    · have e3 : j = 3 := by omega
      subst e3
      have hO : okJ (k % 32) a b c 3 = rightB (k % 32) a b c := by
        have o0 : decide (0 ≤ k % 32) = true := decide_eq_true (by omega)
        have o1 : decide (k % 32 ≤ 29) = true := decide_eq_true hk
        unfold okJ rightB
        rw [o0, o1]
        simp [List.range_succ, Bool.and_assoc]
      rw [hO]
      obtain ⟨r0, r1, r2, r3⟩ := HR.out
      clear hO hcell y0 y1 y2 z0 z1 z2 hW HK
      go_wp2_with fail
      refine (right_any _ _ _ _ _).mono ?_
      rintro e w3 ⟨rfl, hb3⟩
      generalize rightB (k % 32) a b c = q
      cases q
      all_goals
        go_wp2_with fail
        go_ret
        exact ⟨rfl, HE.out.then hb3⟩
end Go.Proofs.Ytdfjpmihjfnebaa

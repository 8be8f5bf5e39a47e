/- CodeAll: its walk. -/
import Derived.Test.YtdfjpmihjfnebaaCut15
import Derived.Test.YtdfjpmihjfnebaaUnlike15
import Derived.Test.YtdfjpmihjfnebaaMem
set_option linter.all false
namespace Go.Proofs.Ytdfjpmihjfnebaa
open Go.RowKit

theorem rights_all (l : List Ins) : allS (putAll l) = (rights l, ((putAll l).length : Int), 0) := by
  have h := allS_put (l := rights l) rights_mem
  rwa [← putAll_rights] at h
theorem rights_bad (l : List Ins) (q : Nat) (hq : q ≤ (rights l).length) (b : List Int) (hb : b.length = 4) (hx : (getI b).2 = 151) :
    allS ((putAll l).take (4 * q) ++ b ++ (putAll l).drop (4 * q)) = ([], ((4 * q : Nat) : Int), 151) := by
  have h1 := putAll_take (l := rights l) rights_mem q
  rw [← putAll_rights] at h1
  have hL : (putAll l).length = 4 * (rights l).length := by rw [putAll_rights, putAll_len rights_mem]
  have h2 := allS_bad (l := (rights l).take q) (fun x hx => rights_mem x (List.mem_of_mem_take hx)) (m := b ++ (putAll l).drop (4 * q)) (by intro h; simp at h; rw [h.1] at hb; simp at hb) (by rw [List.take_append_of_le_length (by omega), List.take_of_length_le (by omega), hx]; decide)
  rw [← h1, ← List.append_assoc, List.take_append_of_le_length (by omega : 4 ≤ b.length), List.take_of_length_le (by omega : b.length ≤ 4), hx, List.length_take, Nat.min_eq_left hq] at h2
  exact h2
theorem own_lit0 (w : World) (base : Nat) (e : TypeId) (sz k : Nat) (hk : k = w.heap.size) (hb : base ≤ k) : (w.alloc (.cells #[] e)).ownsRow base e sz (.slice (some ⟨k, 0, none⟩) 0 0) 0 [] := by
  subst hk
  exact own_lit w base e sz 0 [] hb (by simp) (by simp [maxLen])
theorem wrap64_id {x : Int} (h : -9223372036854775808 ≤ x ∧ x ≤ 9223372036854775807) : wrap64 x = x := by unfold wrap64; omega
theorem insCells_one (l : List Ins) : ∀ u ∈ insCells l, u.oneCell' = true := by
  intro u hu
  obtain ⟨x, -, hx⟩ := List.mem_flatMap.1 hu
  simp at hx
  rcases hx with rfl | rfl | rfl | rfl <;> rfl
set_option maxHeartbeats 4000000 in
theorem all_long (A : Option Addr) (c : Nat) (l : List Ins) (n at' : Int) (w : World) (hl : 200 < l.length) (hm : l.length ≤ c) (hc : c ≤ maxLen) :
    Calls Try.prog 5 #[.slice A l.length c, .int .u32 n, .int .u8 at'] w fun e w' => e = .returned (.bool true) ∧ Ext w w' := by
  go_enter Try.func5, Try.ntmps5
  go_wp2_with fail
  refine (head_any _).mono ?_
  rintro e w1 ⟨rfl, hb1⟩
  have hg : decide ((l.length : Int) > 200) = true := decide_eq_true (by omega)
  go_wp2_with fail
  go_ret
  exact ⟨rfl, hb1⟩
set_option maxHeartbeats 4000000 in
theorem all_short (A : Option Addr) (c : Nat) (l : List Ins) (n at' : Int) (w : World) (h : Arr w A (insCells l)) (n0 : 0 ≤ n) (n1 : n < 4294967296) (a0 : 0 ≤ at') (a1 : at' < 256) (hl : l.length ≤ 200) (hm : l.length ≤ c) (hc : c ≤ maxLen) :
    Calls Try.prog 5 #[.slice A l.length c, .int .u32 n, .int .u8 at'] w fun e w' => e = .returned (.bool true) ∧ Ext w w' := by
  obtain ⟨i0, hi, hz0, hz1, hz2⟩ := info_parts infoByte
  obtain ⟨j0, gi, gz0, gz1, gz2⟩ := info_parts infoIns
  go_enter Try.func5, Try.ntmps5
  go_wp2_with fail
  refine (head_any _).mono ?_
  rintro e w1 ⟨rfl, hb1⟩
  have hg : decide ((l.length : Int) > 200) = false := decide_eq_false (by omega)
  go_wp2_with fail
  have E1 := Lib.hid hb1
  clear hb1
  go_loopw [8, 9, 10] (fun v u i wr => ∃ j : Nat, j ≤ l.length ∧ i = .int .i64 (j : Int) ∧ wr.ownsRow w.heap.size 5 1 v (putAll (l.take j)).length (bs (putAll (l.take j))) ∧ wr.ownsRow w.heap.size 23 4 u (rights (l.take j)).length (insCells (rights (l.take j))) ∧ Ext w wr) (fun _ _ i _ => l.length - (intOf i).toNat)
  case atStart => exact ⟨0, by omega, rfl, World.ownsRow_nil _ _ _ _, World.ownsRow_nil _ _ _ _, E1.out⟩
  case round =>
    obtain ⟨j, hj, rfl, hrow, hwant, hE⟩ := hrel
    by_cases hlt : j < l.length
    · obtain ⟨b1, o1, rfl, -, q1⟩ := h.flat (s := 4) (fun _ => rfl) (by decide) hlt
      have r0 : w.cell? ⟨b1, o1 + j * 4, none⟩ = some (.int .i64 l[j].op) := by simpa using q1 0 _ rfl
      have hR := Lib.hid (And.intro r0 (And.intro (q1 1 _ rfl) (And.intro (q1 2 _ rfl) (q1 3 _ rfl))))
      have x0 := ext_cell hE _ _ r0
      have x1 := ext_cell hE _ _ (q1 1 _ rfl)
      have x2 := ext_cell hE _ _ (q1 2 _ rfl)
      have x3 := ext_cell hE _ _ (q1 3 _ rfl)
      clear q1 r0
      have P := put_any l[j].op l[j].a l[j].b l[j].c wr
      have hl4 := put_length l[j]
      have hr := rights_succ hlt
      have hp := putAll_succ hlt
      have hsm : (putAll (l.take j)).length ≤ 800 := by have := putAll_le (l.take j); simp at this; omega
      have hsr : (rights (l.take j)).length ≤ 200 := by have := rights_len (l.take j); simp at this; omega
      cases hx : rightI l[j]
      · rw [hx] at hl4 hr
        have hl0 : (putL l[j].op l[j].a l[j].b l[j].c).length = 0 := hl4
        have he : putI l[j] = [] := List.eq_nil_of_length_eq_zero hl0
        rw [he, List.append_nil] at hp
        simp only [Bool.false_eq_true, if_false, List.append_nil] at hr
        rw [hl0] at P
        have HP := Lib.hid P
        have HR := Lib.hid (And.intro hr hp)
        clear P hr hp
        go_wp2_with (first
          | (go_at_call 19; refine HP.out.mono ?_; rintro e w2 ⟨v2, rfl, ho2, hb2⟩; obtain ⟨A2, c2, rfl, -, -⟩ := Arr.own ho2))
        exact ⟨⟨j + 1, by omega, by simp, by rw [HR.out.2]; exact own_ext hrow hb2, by rw [HR.out.1]; exact own_ext hwant hb2, hE.then hb2⟩, by simp [intOf]; omega⟩
      · rw [hx] at hl4 hr
        have hl0 : (putL l[j].op l[j].a l[j].b l[j].c).length = 4 := hl4
        simp only [if_true] at hr
        have hbl : (bs (putL l[j].op l[j].a l[j].b l[j].c)).length = 4 := by rw [bs_len]; exact hl0
        rw [hl0] at P
        have HP := Lib.hid P
        have HR := Lib.hid (And.intro hr hp)
        clear P hr hp
        go_wp2_with (first
          | (go_at_call 19; refine HP.out.mono ?_; rintro e w2 ⟨v2, rfl, ho2, hb2⟩; obtain ⟨A2, c2, rfl, -, -⟩ := Arr.own ho2)
          | (at_builtin; refine wpList_append_src _ rfl (.tmp 42) (.tmp 43) 24 rfl w.heap.size 5 i0 (.int .u8 0) 1 1 Try.underlying24 hi hz0 hz1 hz2 rfl (by decide) _ _ _ rfl (own_ext hrow hb2) _ _ _ rfl (Lies.own ho2) hbl (bs_one _) (by unfold maxLen; omega) (by omega) (by have := hE.size; have := hb2.size; omega) ?_; intro v' w3 hown' hgrow hnil; have E3 : Ext w w3 := Below.grown (hE.then hb2) hgrow (hE.then hb2).size (fun r hr => (hrow.lt r hr).1); have hw3 := own_other (own_ext hwant hb2) (own_ext hrow hb2) (by decide) hgrow; have y0 := ext_cell E3 _ _ hR.out.1; have y1 := ext_cell E3 _ _ hR.out.2.1; have y2 := ext_cell E3 _ _ hR.out.2.2.1; have y3 := ext_cell E3 _ _ hR.out.2.2.2)
          | (at_builtin; (refine wpList_append_own _ rfl (.tmp 45) (.tmp 50) 29 rfl w.heap.size 23 j0 (.agg #[.int .i64 0, .int .i64 0, .int .i64 0, .int .i64 0]) 4 32 Try.underlying29 gi gz0 gz1 gz2 rfl (by decide) _ _ _ rfl (hw3.alloc _) ⟨w3.heap.size, 0, none⟩ 1 1 (l[j]).cells rfl rfl (cells_new _ _ _ _ (by simp)) (by simp [Value.oneCell']) (by unfold maxLen; omega) (by omega) (by have := E3.size; simp; omega) ?_); intro v4 w4 hown4 hgrow4 _))
        have E4 : Ext w w4 := Below.grown (E3.alloc _) hgrow4 (E3.alloc _).size (fun r hr => (hw3.lt r hr).1)
        have hb4 := own_other (hown'.alloc _) (hw3.alloc _) (by decide) hgrow4
        have e1 : bs (putAll (l.take (j + 1))) = bs (putAll (l.take j)) ++ bs (putL l[j].op l[j].a l[j].b l[j].c) := by rw [HR.out.2]; exact List.map_append ..
        have e2 : (putAll (l.take (j + 1))).length = (putAll (l.take j)).length + 4 := by rw [HR.out.2, List.length_append]; exact congrArg _ hl0
        have e3 : insCells (rights (l.take (j + 1))) = insCells (rights (l.take j)) ++ (l[j]).cells := by rw [HR.out.1]; simp [insCells]
        have e4 : (rights (l.take (j + 1))).length = (rights (l.take j)).length + 1 := by rw [HR.out.1]; simp
        exact ⟨⟨j + 1, by omega, by simp, by rw [e1, e2]; exact hb4, by rw [e3, e4]; exact hown4, E4⟩, by simp [intOf]; omega⟩
    · have ej : j = l.length := by omega
      subst ej
      rw [List.take_length] at hrow hwant
      have hS := rights_all l
      have hB := rights_bad l
      have hLb := putAll_bytes l
      have hLm : (putAll l).length ≤ 800 := by have := putAll_le l; omega
      have hL4 : (putAll l).length = 4 * (rights l).length := by rw [putAll_rights, putAll_len rights_mem]
      have hN : (rights l).length ≤ 200 := by have := rights_len l; omega
      generalize putAll l = L at hrow hS hB hLb hLm hL4
      generalize rights l = N at hwant hS hB hL4 hN
      have HL4 := Lib.hid hL4
      clear hL4
      have hform : (u8 = .slice none 0 0 ∧ L = []) ∨ ∃ g cap, u8 = .slice (some ⟨g, 0, none⟩) L.length cap := by
        rcases hrow.2 with ⟨e1, e2⟩ | ⟨g, cap, _, e1, _⟩
        · exact .inl ⟨e1, List.eq_nil_of_length_eq_zero e2⟩
        · exact .inr ⟨g, cap, e1⟩
      obtain ⟨A9, c9, rfl, hc9, ha9⟩ := Arr.own hwant
      obtain ⟨A8, c8, rfl, hc8, ha8⟩ := Arr.own hrow
      go_wp2_with fail
      refine (all_any A8 c8 L wr ha8 hLb hc8 (by omega)).mono ?_
      intro e w2 h2
      unfold AllPost at h2
      rw [hS] at h2
      obtain ⟨v2, rfl, ho2, hb2⟩ := h2
      obtain ⟨A2, c2, rfl, hc2, ha2⟩ := Arr.own ho2
      go_wp2_with fail
      refine (rsame_any A2 A9 c2 c9 N N w2 ha2 (ha9.ext hb2) (by omega) (by omega)).mono ?_
      rintro e w3 ⟨rfl, hb3⟩
      rw [decide_eq_true rfl]
      go_wp2_with fail
      have hp : ∀ y ∈ [n / 16777216, n / 65536 % 256, n / 256 % 256, n % 256], 0 ≤ y ∧ y < 256 := by
        simp only [List.mem_cons, List.not_mem_nil, or_false, forall_eq_or_imp, forall_eq]
        omega
      refine (get_lit _ _ _ _ _ _ (by simp) hp _ rfl).mono ?_
      rintro e w5 ⟨rfl, hb5⟩
      have E5 : Ext wr w5 := ((hb2.then hb3).alloc _).then hb5
      have hlit := own_ext (own_lit w3 wr.heap.size 5 1 4 (bs [n / 16777216, n / 65536 % 256, n / 256 % 256, n % 256]) (hb2.then hb3).size (by simp [bs]) (by simp [maxLen])) hb5
      generalize hbad : [n / 16777216, n / 65536 % 256, n / 256 % 256, n % 256] = bad at hlit hp
      have hE := Lib.hid hE
      have hgb := get_back (p := n / 16777216) (a := n / 65536 % 256) (b := n / 256 % 256) (c := n % 256) (by rw [hbad]; exact hp)
      have hbn : bad.length = 4 := by rw [← hbad]; rfl
      rw [hbad] at hgb
      clear hbad
      rcases hgb with ⟨q0, q1, q2⟩ | q
      · generalize getI bad = r at q0 q1 q2 ⊢
        obtain ⟨z, ez⟩ := r
        simp only at q0 q1 q2 ⊢
        subst q0
        clear hp q1 q2 hB hS hLb
        have E5 := Lib.hid E5
        go_wp2_with fail
        go_ret
        exact ⟨rfl, (hE.out.then E5.out).alloc _⟩
      · have hbx : (getI bad).2 = 151 := by rw [q]
        rw [q]
        obtain ⟨k, hk, hkn⟩ : ∃ k : Nat, at' % ((N.length : Int) + 1) = (k : Int) ∧ k ≤ N.length := ⟨(at' % ((N.length : Int) + 1)).toNat, by have := Int.emod_nonneg at' (show ((N.length : Int) + 1) ≠ 0 by omega); omega, by have := Int.emod_lt_of_pos at' (show 0 < ((N.length : Int) + 1) by omega); omega⟩
        have hX := hB k hkn bad hbn hbx
        have h4k : 4 * k ≤ L.length := by have := HL4.out; omega
        have hw : 4 * (k : Int) = ((4 * k : Nat) : Int) := by omega
        generalize hkk : 4 * k = kk at hX h4k hw
        have hXb : ∀ y ∈ L.take kk ++ bad ++ L.drop kk, 0 ≤ y ∧ y < 256 := by
          intro y hy
          rcases List.mem_append.1 hy with hy | hy
          · rcases List.mem_append.1 hy with hy | hy
            · exact hLb y (List.mem_of_mem_take hy)
            · exact hp y hy
          · exact hLb y (List.mem_of_mem_drop hy)
        have hXl : (L.take kk ++ bad ++ L.drop kk).length = L.length + 4 := by simp; omega
        have hXc : [] ++ (bs L).take kk ++ bs bad ++ (bs L).drop kk = bs (L.take kk ++ bad ++ L.drop kk) := by rw [List.nil_append]; unfold bs; rw [List.map_append, List.map_append, List.map_take, List.map_drop]
        generalize L.take kk ++ bad ++ L.drop kk = X at hX hXb hXl hXc
        have hb8 := ((Lies.own hrow).ext E5).mono E5.size
        have hbd := Lies.own hlit
        clear q hB hS hbx hp
        have HX := Lib.hid (And.intro hX (And.intro hXb (And.intro hXl hXc)))
        clear hX hXb hXl hXc
        rcases hform with ⟨hf, rfl⟩ | ⟨g, cap, hf⟩
        · simp at hf
          obtain ⟨rfl, rfl⟩ := hf
          have hkk0 : kk = 0 := by simpa using h4k
          subst hkk0
          obtain rfl : k = 0 := by omega
          go_wp2_with fail
          go_region_law (first
            | (refine step_append_src _ rfl (.tmp 103) (.tmp 104) 24 rfl w5.heap.size 5 i0 (.int .u8 0) 1 1 Try.underlying24 hi hz0 hz1 hz2 rfl (by decide) _ _ _ rfl (own_lit0 (w5.alloc _) w5.heap.size 5 1 (w5.heap.size + 1) (by simp) (by omega)) _ 4 (bs bad) rfl (hbd.keep (by repeat first | (with_reducible exact Below.refl _ _) | (with_reducible apply Ext.alloc) | (with_reducible apply Ext.drew) | (with_reducible apply Ext.drewN) | (with_reducible refine Ext.set ?_ (by simp)))) (by rw [bs_len, hbn]) (bs_one _) (by simp [maxLen]) (by omega) (by simp <;> omega) ?_; intro v7 w7 ho7 hg7 _; have B7 : Ext w5 w7 := Below.grown (by repeat first | (with_reducible exact Below.refl _ _) | (with_reducible apply Ext.alloc) | (with_reducible apply Ext.drew) | (with_reducible apply Ext.drewN) | (with_reducible refine Ext.set ?_ (by simp))) hg7 (by simp <;> omega) (fun r hr => ((own_lit0 (w5.alloc (.cells #[] 5)) w5.heap.size 5 1 (w5.heap.size + 1) (by simp) (by omega)).lt r hr).1))
            | (refine step_append_src _ rfl (.tmp 105) (.tmp 108) 24 rfl w5.heap.size 5 i0 (.int .u8 0) 1 1 Try.underlying24 hi hz0 hz1 hz2 rfl (by decide) _ _ _ rfl ho7 _ 0 (List.drop 0 (bs [])) rfl (.inl ⟨rfl, rfl, rfl⟩ : Lies w5.heap.size _ _ _ _) (by simp [bs]) (by simp [bs]) (by simp [maxLen]) (by omega) (by have := B7.size; simp <;> omega) ?_; intro v8 w8 ho8 hg8 _; have B8 : Ext w5 w8 := Below.grown (by first | exact B7 | exact Ext.drew B7) hg8 (by have := B7.size; simp <;> omega) (fun r hr => (ho7.lt r hr).1)))
          have e8 : [] ++ bs bad ++ List.drop 0 (bs []) = bs X := by rw [← HX.out.2.2.2]; rfl
          rw [e8, show 0 + 4 + 0 = X.length by have := HX.out.2.2.1; (try simp at this); omega] at ho8
          obtain ⟨A1, c1, rfl, hc1, ha1⟩ := Arr.own ho8
          go_wp2_with fail
          refine (all_any A1 c1 X _ ha1 HX.out.2.1 hc1 (by have := HX.out.2.2.1; (try simp at this); omega)).mono ?_
          intro e w9 h9
          unfold AllPost at h9
          rw [HX.out.1] at h9
          obtain ⟨v9, rfl, ho9, hb9⟩ := h9
          obtain ⟨A3, c3, rfl, -, -⟩ := Arr.own ho9
          go_wp2_with fail
          go_ret
          exact ⟨rfl, (hE.out.then E5).then (B8.then hb9)⟩
        · simp at hf
          obtain ⟨rfl, rfl⟩ := hf
          go_wp2_with fail
          have hkc : (kk : Int) ≤ (c8 : Int) := by omega
          have hkl : (kk : Int) ≤ (L.length : Int) := by omega
          have ht1 : ((bs L).take kk).length = kk * 1 := by rw [List.length_take, bs_len, Nat.min_eq_left h4k]; omega
          have ht3 : ((bs L).drop kk).length = (L.length - kk) * 1 := by rw [List.length_drop, bs_len]; omega
          go_region_law (first
            | (refine step_append_src _ rfl (.tmp 99) (.tmp 102) 24 rfl w5.heap.size 5 i0 (.int .u8 0) 1 1 Try.underlying24 hi hz0 hz1 hz2 rfl (by decide) _ _ _ rfl (own_lit0 (w5.alloc _) w5.heap.size 5 1 (w5.heap.size + 1) (by simp) (by omega)) _ kk ((bs L).take kk) rfl ((hb8.keep (by repeat first | (with_reducible exact Below.refl _ _) | (with_reducible apply Ext.alloc) | (with_reducible apply Ext.drew) | (with_reducible apply Ext.drewN) | (with_reducible refine Ext.set ?_ (by simp)))).take) ht1 (fun u hu => bs_one L u (List.mem_of_mem_take hu)) (by unfold maxLen; omega) (by omega) (by simp <;> omega) ?_; intro v6 w6 ho6 hg6 _; have B6 : Ext w5 w6 := Below.grown (by repeat first | (with_reducible exact Below.refl _ _) | (with_reducible apply Ext.alloc) | (with_reducible apply Ext.drew) | (with_reducible apply Ext.drewN) | (with_reducible refine Ext.set ?_ (by simp))) hg6 (by simp <;> omega) (fun r hr => ((own_lit0 (w5.alloc (.cells #[] 5)) w5.heap.size 5 1 (w5.heap.size + 1) (by simp) (by omega)).lt r hr).1))
            | ((refine step_append_src _ rfl (.tmp 103) (.tmp 104) 24 rfl w5.heap.size 5 i0 (.int .u8 0) 1 1 Try.underlying24 hi hz0 hz1 hz2 rfl (by decide) _ _ _ rfl ho6 _ 4 (bs bad) rfl (hbd.keep (by first | exact B6 | exact Ext.drew B6)) (by rw [bs_len, hbn]) (bs_one _) (by unfold maxLen; omega) (by omega) (by have := B6.size; simp <;> omega) ?_); intro v7 w7 ho7 hg7 _; have B7 : Ext w5 w7 := Below.grown (by first | exact B6 | exact Ext.drew B6) hg7 (by have := B6.size; simp <;> omega) (fun r hr => (ho6.lt r hr).1))
            | ((refine step_append_src _ rfl (.tmp 105) (.tmp 108) 24 rfl w5.heap.size 5 i0 (.int .u8 0) 1 1 Try.underlying24 hi hz0 hz1 hz2 rfl (by decide) _ _ _ rfl ho7 _ (L.length - kk) ((bs L).drop kk) rfl ((hb8.keep (by first | exact B7 | exact Ext.drew B7)).drop (fun hlt => if_neg (by rw [bs_len] at hlt; omega)) (by split <;> simp)) ht3 (fun u hu => bs_one L u (List.mem_of_mem_drop hu)) (by unfold maxLen; omega) (by omega) (by have := B7.size; simp <;> omega) ?_); intro v8 w8 ho8 hg8 _; have B8 : Ext w5 w8 := Below.grown (by first | exact B7 | exact Ext.drew B7) hg8 (by have := B7.size; simp <;> omega) (fun r hr => (ho7.lt r hr).1)))
          rw [HX.out.2.2.2, show 0 + kk + 4 + (L.length - kk) = X.length by have := HX.out.2.2.1; (try simp at this); omega] at ho8
          obtain ⟨A1, c1, rfl, hc1, ha1⟩ := Arr.own ho8
          go_wp2_with fail
          all_goals
            refine (all_any A1 c1 X _ ha1 HX.out.2.1 hc1 (by have := HX.out.2.2.1; (try simp at this); omega)).mono ?_
            intro e w9 h9
            unfold AllPost at h9
            rw [HX.out.1] at h9
            obtain ⟨v9, rfl, ho9, hb9⟩ := h9
            obtain ⟨A3, c3, rfl, -, -⟩ := Arr.own ho9
            go_wp2_with fail
            go_ret
            exact ⟨rfl, (hE.out.then E5).then (B8.then hb9)⟩
theorem allc_any (A : Option Addr) (c : Nat) (l : List Ins) (n at' : Int) (w : World) (h : Arr w A (insCells l)) (n0 : 0 ≤ n) (n1 : n < 4294967296) (a0 : 0 ≤ at') (a1 : at' < 256) (hm : l.length ≤ c) (hc : c ≤ maxLen) :
    Calls Try.prog 5 #[.slice A l.length c, .int .u32 n, .int .u8 at'] w fun e w' => e = .returned (.bool true) ∧ Ext w w' := by
  by_cases hl : l.length ≤ 200
  · exact all_short A c l n at' w h n0 n1 a0 a1 hl hm hc
  · exact all_long A c l n at' w (by omega) hm hc
end Go.Proofs.Ytdfjpmihjfnebaa

/- ExtentApart: its walk. -/
import Derived.Test.YtipnkjegiiphnaaOne12
import Derived.Test.YtipnkjegiiphnaaOpenOps
import Derived.Test.YtipnkjegiiphnaaPhi3
import Derived.Deep.DeepCutAuto
set_option linter.all false
namespace Go.Proofs.Ytipnkjegiiphnaa
open Go.RowKit

attribute [local go_sem] seen dstOf boolOf
set_option maxHeartbeats 4000000 in
set_option maxRecDepth 20000 in
theorem apart_short (n : Int) (A : Option Addr) (c : Nat) (l : List Op12) (w : World) (h : Arr w A (opCells l)) (n0 : 0 ≤ n) (n1 : n < 256) (hwf : ∀ x ∈ l, OpWf x) (hl : l.length ≤ 200) :
    Calls Try.prog 4 #[.int .u8 n, .slice A l.length c] w fun e w' => e = .returned (.bool true) ∧ Ext w w' := by
  obtain ⟨z, hz⟩ : ∃ z, z = 32 + 16 * n := ⟨_, rfl⟩
  have hmb : mayBe 32 z := ⟨by omega, by omega, by omega, by omega, by omega⟩
  have hz1 : 32 ≤ z := by omega
  have hz2 : z ≤ 4112 := by omega
  have HZ := Lib.hid hz
  clear hz
  obtain ⟨i0, hi, hz0, hz1', hz2'⟩ := info_parts infoPair
  go_enter Try.func4, Try.ntmps4
  go_wp2_with fail
  refine (head_any _).mono ?_
  rintro e w1 ⟨rfl, b1⟩
  go_wp2_with fail
  rw [show (32 + 16 * n : Int) = z from HZ.out.symm]
  refine (new_yes 32 z _ hmb).mono ?_
  rintro e w2 ⟨b2, p, v, rfl, hF⟩
  have P2 : Mem1 w w2 p 32 z v w1.heap.size (startR 32 z) (.slice none 0 0) 0 [] := ⟨hF, World.ownsRow_nil _ _ _ _, b1.then b2, b1.size⟩
  have hg : decide ((l.length : Int) > 200) = false := decide_eq_false (by omega)
  have HWF := wf_start hmb
  have hs0 : sumR (startR 32 z) + sumH [] = z - 32 := by unfold startR; split <;> simp [sumR, sumH] <;> omega
  clear b1 b2 hF
  go_wp2_with fail
  go_loopw [7, 8] (fun hv i wr => ∃ (j : Nat) (v : Value) (R H : List Run), j ≤ l.length ∧ i = .int .i64 (j : Int) ∧ Mem1 w wr p 32 z v w1.heap.size R hv H.length (H.map upH) ∧ H.length ≤ j ∧ Held 32 z R H ∧ sumR R + sumH H = z - 32) (fun _ i _ => l.length - (intOf i).toNat)
  case atStart => exact ⟨0, v, _, [], Nat.zero_le _, rfl, P2, Nat.le_refl _, held_nil HWF, hs0⟩
  case round =>
    clear P2 hs0 HWF
    obtain ⟨j, v, R, H, hj, rfl, hP, hHj, hH, hS⟩ := hrel
    by_cases hlt : j < l.length
    · obtain ⟨b1, o1, rfl, -, q1⟩ := h.flat (s := 3) (fun _ => rfl) (by decide) hlt
      have x0 : wr.cell? ⟨b1, o1 + j * 3, none⟩ = some (.int .i64 l[j].what) := by simpa using ext_cell hP.e _ _ (q1 0 _ rfl)
      have x1 := ext_cell hP.e _ _ (q1 1 _ rfl)
      have x2 := ext_cell hP.e _ _ (q1 2 _ rfl)
      have X2 := q1 2 _ rfl
      clear q1
      obtain ⟨N, hN⟩ : ∃ N, N = l[j].n := ⟨_, rfl⟩
      obtain ⟨T, hT⟩ : ∃ T, T = l[j].at' := ⟨_, rfl⟩
      rw [← hN] at x2 X2
      rw [← hT] at x1
      replace X2 := Lib.hid X2
      clear hN hT
      have HS := Lib.hid hS
      have HH := Lib.hid hH
      clear hS hH
      go_upto_if 46 with fail
      go_cut [7] (fun hv wx => ∃ (v : Value) (R H : List Run), Mem1 w wx p 32 z v w1.heap.size R hv H.length (H.map upH) ∧ H.length ≤ j + 1 ∧ Held 32 z R H ∧ Hid (sumR R + sumH H = z - 32))
      case first =>
        by_cases hd : l[j].what < 3
        · have hd' : decide (l[j].what < 3) = true := decide_eq_true hd
          have T1 := Lib.hid (take_one hP N)
          go_wp2_with fail
          refine T1.out.mono ?_
          rintro e w4 ⟨rfl, v4, P4⟩
          have HT := Lib.hid (fun ht => held_take (n := N) HH.out ht)
          have HA := Lib.hid (fun ht => sum_take (n := N) HS.out ht)
          have HM := Lib.hid (fun ht => take_may (n := N) HH.out.wf ht)
          have HN := Lib.hid (fun ht => take_same (R := R) (n := N) ht)
          have x2' := ext_cell P4.e _ _ X2.out
          have hsz := P4.e.size
          have hns : H.length + 1 ≤ 140737488351232 := by omega
          clear T1
          generalize takeR R N = X at *
          obtain ⟨R', at', is⟩ := X
          simp only at *
          cases is with
          | false =>
            obtain rfl := HN.out rfl
            clear HT HA HM
            go_wp2_with fail
            go_meet
            exact ⟨v4, R', H, P4, by omega, HH.out, HS⟩
          | true =>
            obtain ⟨-, -, m3, m4, m5, m6⟩ := HM.out rfl
            have m7 : 0 ≤ at' + N := by omega
            have m8 : at' + N ≤ 5000 := by omega
            clear HN HM
            go_wp2_with (first
              | (at_builtin; refine wpList_append_own _ rfl (.tmp 58) (.tmp 68) 35 rfl w.heap.size 38 i0 (.agg #[.int .i64 0, .int .i64 0]) 2 16 Try.underlying35 hi hz0 hz1' hz2' rfl (by decide) _ _ _ rfl (P4.row.alloc _) ⟨w4.heap.size, 0, none⟩ 1 1 (cell2 (at', at' + N)) rfl rfl (cells_new _ _ _ _ rfl) (by simp [Value.oneCell']) (by unfold maxLen; omega) (by omega) (by simp; omega) ?_; intro v' w6 hown' hgrow hnil))
            go_meet
            exact ⟨v4, R', H ++ [(at', N)], by rw [List.length_append, List.map_append]; exact P4.grown hgrow hown', by simp; omega, HT.out (by trivial), Lib.hid (HA.out (by trivial))⟩
        · have hd' : decide (l[j].what < 3) = false := decide_eq_false hd
          obtain ⟨A8, c8, rfl, hc8, -⟩ := Arr.own hP.row
          by_cases hh : 0 < H.length
          · have hgt : decide ((H.length : Int) > 0) = true := decide_eq_true (by omega)
            obtain ⟨a0, a1⟩ := and_small T 4095 (by omega) (by omega)
            have htm : (bits .and .i64 T 4095).tmod (H.length : Int) = (bits .and .i64 T 4095) % (H.length : Int) := Int.tmod_eq_emod_of_nonneg a0
            have hr0 := Int.emod_nonneg (bits .and .i64 T 4095) (b := (H.length : Int)) (by omega)
            have hr1 := Int.emod_lt_of_pos (bits .and .i64 T 4095) (b := (H.length : Int)) (by omega)
            obtain ⟨r, hr⟩ : ∃ r : Nat, (bits .and .i64 T 4095).tmod (H.length : Int) = (r : Int) := ⟨((bits .and .i64 T 4095).tmod (H.length : Int)).toNat, by rw [Int.toNat_of_nonneg (by omega)]⟩
            have hrl : r < H.length := by omega
            have HR := Lib.hid hr
            clear a0 a1 htm hr0 hr1 hr
            have hrU : r < (H.map upH).length := by simpa using hrl
            have hUl : (H.map upH).length = H.length := by simp
            obtain ⟨g, cap, C, hA8, hbg, hgb, hnc, hcm, hCs, hCt⟩ : ∃ g cap C, A8 = some ⟨g, 0, none⟩ ∧ w.heap.size ≤ g ∧ wr.heap[g]? = some (.cells C 38 (0, 0)) ∧ H.length ≤ cap ∧ cap ≤ maxLen ∧ C.size = cap * 2 ∧ C.toList.take (H.length * 2) = rowC (H.map upH) := by
              rcases hP.row.2 with ⟨hv, h0⟩ | ⟨g, cap, C, hv, h1, h2, h3, h4, h5, h6⟩
              · simp only [Value.slice.injEq] at hv; omega
              · cases hv
                exact ⟨g, _, C, rfl, h1, h2, h3, h4, h5, h6⟩
            subst hA8
            clear hgb hCs hCt C hcm hnc cap
            obtain ⟨y0, y1⟩ := own_cells (own_arr hP.row) hrU
            obtain ⟨t1, t2⟩ := held_give HH.out hrl
            have t3 := sum_give HH.out HS.out hrl
            have C1 := Lib.hid fun W (hw : Ext wr W) => (give_one (hP.ext hw) HH.out.wf H[r].1 H[r].2).mono fun e w' he => (⟨he.1.trans (by rw [t1]), he.2⟩ : e = .returned (.bool true) ∧ _)
            obtain ⟨Y, hY⟩ : ∃ Y, Y = H[r] := ⟨_, rfl⟩
            rw [List.getElem_map, ← hY] at y0 y1
            rw [← hY] at t1 t2 t3 C1
            have hYm := HH.out.may H[r] (List.getElem_mem hrl)
            rw [← hY] at hYm
            obtain ⟨-, -, m3, m4, m5, m6⟩ := hYm
            have y0' : wr.cell? ⟨g, r * 2, none⟩ = some (.int .i64 Y.1) := by simpa [upH] using y0
            have y1' : wr.cell? ⟨g, r * 2 + 1, none⟩ = some (.int .i64 (Y.1 + Y.2)) := by simpa [upH] using y1
            have hsub : IntKind.i64.wrap (Y.1 + Y.2 - Y.1) = Y.2 := by rw [IntWalk.i64_in _ (by omega)]; omega
            have HT := Lib.hid (And.intro t1 (And.intro t2 t3))
            have hrc : r ≤ c8 := by omega
            have hrc' : r + 1 ≤ H.length := hrl
            have hcr : r + 1 < H.length → ¬ c8 = r + 1 := fun h e => by omega
            replace hcr := Lib.hid hcr
            have h0r : (0 : Int) ≤ (r : Int) + 1 := by omega
            have h1r : (r : Int) + 1 ≤ (H.length : Int) := by omega
            have hw1 : IntKind.i64.wrap ((r : Int) + 1) = ((r + 1 : Nat) : Int) := by rw [IntWalk.i64_in _ (by omega)]; rfl
            clear y0 y1 t1 t2 t3 hY hUl hrU m3 m4 m5 m6
            go_wp2_with fail
            rw [HR.out]
            refine wp_region_stage (fun _ _ : World => True) [17] [(fun (_ : Nat → Value) (W : World) => Ext wr W), (fun (_ : Nat → Value) (W : World) => ∃ v4, Mem1 w W p 32 z v4 w1.heap.size (giveR 32 z R Y.1 Y.2).1 (.slice (some ⟨g, 0, none⟩) H.length c8) H.length (H.map upH))] [82, 83, 84, 85, 86, 87, 88, 89, 90, 91, 92, 93, 94, 95, 96, 97, 98, 99, 100] (by kernel_rfl) (fun _ => trivial) (fun _ _ _ _ _ => trivial) (by kernel_rfl) (by kernel_rfl) (by kernel_rfl) ?start ?_
            case start => show Ext wr wr.drew; exact (by repeat first | (with_reducible exact Below.refl _ _) | (with_reducible apply Ext.alloc) | (with_reducible apply Ext.drew) | (with_reducible apply Ext.drewN) | (with_reducible refine Ext.set ?_ (by simp)))
            apply ex_is; apply Exists.intro
            apply ex_is; apply Exists.intro
            apply ex_is; apply Exists.intro
            apply ex_is; apply Exists.intro
            apply ex_is; apply Exists.intro
            apply ex_is; apply Exists.intro
            apply ex_is; apply Exists.intro
            apply ex_is; apply Exists.intro
            apply ex_is; apply Exists.intro
            apply ex_is; apply Exists.intro
            apply ex_is; apply Exists.intro
            apply ex_is; apply Exists.intro
            apply ex_is; apply Exists.intro
            apply ex_is; apply Exists.intro
            apply ex_is; apply Exists.intro
            apply ex_is; apply Exists.intro
            apply ex_is; apply Exists.intro
            apply ex_is; apply Exists.intro
            apply ex_is; apply Exists.intro
            refine ⟨[], ⟨?steps, ?stab, ?ends⟩⟩
            case steps =>
              refine And.intro (stepC_pure (fun _ => trivial) (by kernel_rfl) ?_) ?_
              · intro a W hR hf ho K hK
                have G : a.tmps[6]?.getD undef = _ ∧ True := ho
                obtain ⟨g6, -⟩ := G
                clear ho hf
                go_simp
                exact hK _ (Eq.refl _)
              refine And.intro (stepC_pure (fun _ => trivial) (by kernel_rfl) ?_) ?_
              · intro a W hR hf ho K hK
                have G : a.tmps[7]?.getD undef = _ ∧ True := ho
                obtain ⟨g7, -⟩ := G
                clear ho hf
                go_simp
                exact hK _ (Eq.refl _)
              refine And.intro (stepC_pure (fun _ => trivial) (by kernel_rfl) ?_) ?_
              · intro a W hR hf ho K hK
                have G : a.tmps[11]?.getD undef = _ ∧ True := ho
                obtain ⟨g11, -⟩ := G
                clear ho hf
                go_simp
                exact hK _ (Eq.refl _)
              refine And.intro (stepC_pure (fun _ => trivial) (by kernel_rfl) ?_) ?_
              · intro a W hR hf ho K hK
                have F : a.tmps[83]?.getD undef = _ ∧ a.tmps[84]?.getD undef = _ ∧ True := hf
                obtain ⟨f1, f2, -⟩ := F
                clear ho hf
                go_simp
                exact hK _ (Eq.refl _)
              refine And.intro (stepC_pure (fun _ => trivial) (by kernel_rfl) ?_) ?_
              · intro a W hR hf ho K hK
                have F : a.tmps[85]?.getD undef = _ ∧ True := hf
                obtain ⟨f3, -⟩ := F
                clear ho hf
                go_simp
                exact hK _ (Eq.refl _)
              refine And.intro (stepC_stay (pss := []) (by kernel_rfl) rfl 0 [] [5] (by kernel_rfl) (by kernel_rfl) ?_) ?_
              · intro a W uu hu hR hS hf ho K hK
                replace hS : (fun (_ : Nat → Value) (W : World) => Ext wr W) uu W := hS
                replace hK := fun (v : Value) (w' : World) (h1 : (fun _ _ : World => True) W w') h2 (h3 : (fun (_ : Nat → Value) (W : World) => Ext wr W) uu w') => hK v w' h1 h2 h3
                have F : a.tmps[86]?.getD undef = _ ∧ True := hf
                obtain ⟨f4, -⟩ := F
                clear hu
                clear ho hf
                have c0 := ext_cell hS _ _ y0'; have c1 := ext_cell hS _ _ y1'
                go_simp
                exact hK _ _ (trivial) (Eq.refl _) hS
              refine And.intro (stepC_pure (fun _ => trivial) (by kernel_rfl) ?_) ?_
              · intro a W hR hf ho K hK
                have G : a.tmps[7]?.getD undef = _ ∧ True := ho
                obtain ⟨g7, -⟩ := G
                clear ho hf
                go_simp
                exact hK _ (Eq.refl _)
              refine And.intro (stepC_pure (fun _ => trivial) (by kernel_rfl) ?_) ?_
              · intro a W hR hf ho K hK
                have G : a.tmps[11]?.getD undef = _ ∧ True := ho
                obtain ⟨g11, -⟩ := G
                clear ho hf
                go_simp
                exact hK _ (Eq.refl _)
              refine And.intro (stepC_pure (fun _ => trivial) (by kernel_rfl) ?_) ?_
              · intro a W hR hf ho K hK
                have F : a.tmps[88]?.getD undef = _ ∧ a.tmps[89]?.getD undef = _ ∧ True := hf
                obtain ⟨f6, f7, -⟩ := F
                clear ho hf
                go_simp
                exact hK _ (Eq.refl _)
              refine And.intro (stepC_pure (fun _ => trivial) (by kernel_rfl) ?_) ?_
              · intro a W hR hf ho K hK
                have F : a.tmps[90]?.getD undef = _ ∧ True := hf
                obtain ⟨f8, -⟩ := F
                clear ho hf
                go_simp
                exact hK _ (Eq.refl _)
              refine And.intro (stepC_stay (pss := []) (by kernel_rfl) rfl 0 [] [16, 10] (by kernel_rfl) (by kernel_rfl) ?_) ?_
              · intro a W uu hu hR hS hf ho K hK
                replace hS : (fun (_ : Nat → Value) (W : World) => Ext wr W) uu W := hS
                replace hK := fun (v : Value) (w' : World) (h1 : (fun _ _ : World => True) W w') h2 (h3 : (fun (_ : Nat → Value) (W : World) => Ext wr W) uu w') => hK v w' h1 h2 h3
                have F : a.tmps[91]?.getD undef = _ ∧ True := hf
                obtain ⟨f9, -⟩ := F
                clear hu
                clear ho hf
                have c0 := ext_cell hS _ _ y0'; have c1 := ext_cell hS _ _ y1'
                go_simp
                exact hK _ _ (trivial) (Eq.refl _) hS
              refine And.intro (stepC_pure (fun _ => trivial) (by kernel_rfl) ?_) ?_
              · intro a W hR hf ho K hK
                have G : a.tmps[7]?.getD undef = _ ∧ True := ho
                obtain ⟨g7, -⟩ := G
                clear ho hf
                go_simp
                exact hK _ (Eq.refl _)
              refine And.intro (stepC_pure (fun _ => trivial) (by kernel_rfl) ?_) ?_
              · intro a W hR hf ho K hK
                have G : a.tmps[11]?.getD undef = _ ∧ True := ho
                obtain ⟨g11, -⟩ := G
                clear ho hf
                go_simp
                exact hK _ (Eq.refl _)
              refine And.intro (stepC_pure (fun _ => trivial) (by kernel_rfl) ?_) ?_
              · intro a W hR hf ho K hK
                have F : a.tmps[93]?.getD undef = _ ∧ a.tmps[94]?.getD undef = _ ∧ True := hf
                obtain ⟨f11, f12, -⟩ := F
                clear ho hf
                go_simp
                exact hK _ (Eq.refl _)
              refine And.intro (stepC_pure (fun _ => trivial) (by kernel_rfl) ?_) ?_
              · intro a W hR hf ho K hK
                have F : a.tmps[95]?.getD undef = _ ∧ True := hf
                obtain ⟨f13, -⟩ := F
                clear ho hf
                go_simp
                exact hK _ (Eq.refl _)
              refine And.intro (stepC_stay (pss := []) (by kernel_rfl) rfl 0 [] [16, 15] (by kernel_rfl) (by kernel_rfl) ?_) ?_
              · intro a W uu hu hR hS hf ho K hK
                replace hS : (fun (_ : Nat → Value) (W : World) => Ext wr W) uu W := hS
                replace hK := fun (v : Value) (w' : World) (h1 : (fun _ _ : World => True) W w') h2 (h3 : (fun (_ : Nat → Value) (W : World) => Ext wr W) uu w') => hK v w' h1 h2 h3
                have F : a.tmps[96]?.getD undef = _ ∧ True := hf
                obtain ⟨f14, -⟩ := F
                clear hu
                clear ho hf
                have c0 := ext_cell hS _ _ y0'; have c1 := ext_cell hS _ _ y1'
                go_simp
                exact hK _ _ (trivial) (Eq.refl _) hS
              refine And.intro (stepC_pure (fun _ => trivial) (by kernel_rfl) ?_) ?_
              · intro a W hR hf ho K hK
                have F : a.tmps[92]?.getD undef = _ ∧ a.tmps[97]?.getD undef = _ ∧ True := hf
                obtain ⟨f10, f15, -⟩ := F
                clear ho hf
                go_simp
                exact hK _ (Eq.refl _)
              refine And.intro (stepC_mark (pss := []) (by kernel_rfl) (by decide) rfl 0 [] (by kernel_rfl) rfl ?_) ?_
              · intro a W uu hu hR hS hf ho K hK
                replace hS : (fun (_ : Nat → Value) (W : World) => Ext wr W) uu W := hS
                replace hK := fun (v : Value) (w' : World) (h1 : (fun _ _ : World => True) W w') h2 (h3 : (fun (_ : Nat → Value) (W : World) => ∃ v4, Mem1 w W p 32 z v4 w1.heap.size (giveR 32 z R Y.1 Y.2).1 (.slice (some ⟨g, 0, none⟩) H.length c8) H.length (H.map upH)) (upd uu 17 v) w') => hK v w' h1 h2 h3
                have F : a.tmps[82]?.getD undef = _ ∧ a.tmps[87]?.getD undef = _ ∧ a.tmps[98]?.getD undef = _ ∧ True := hf
                obtain ⟨f0, f5, f16, -⟩ := F
                clear hu
                clear ho hf
                go_simp
                refine (C1.out W hS).mono ?_; rintro e W1 ⟨rfl, v4, P4⟩; exact hK _ _ trivial (Eq.refl _) ⟨v4, P4⟩
              refine And.intro (stepC_pure (fun _ => trivial) (by kernel_rfl) ?_) ?_
              · intro a W hR hf ho K hK
                have F : a.tmps[99]?.getD undef = _ ∧ True := hf
                obtain ⟨f17, -⟩ := F
                clear ho hf
                go_simp
                exact hK _ (Eq.refl _)
              exact trivial
            case stab =>
              refine And.intro is_stable ?_
              refine And.intro is_stable ?_
              refine And.intro is_stable ?_
              refine And.intro is_stable ?_
              refine And.intro is_stable ?_
              refine And.intro is_stable ?_
              refine And.intro is_stable ?_
              refine And.intro is_stable ?_
              refine And.intro is_stable ?_
              refine And.intro is_stable ?_
              refine And.intro is_stable ?_
              refine And.intro is_stable ?_
              refine And.intro is_stable ?_
              refine And.intro is_stable ?_
              refine And.intro is_stable ?_
              refine And.intro is_stable ?_
              refine And.intro is_stable ?_
              refine And.intro is_stable ?_
              refine And.intro is_stable ?_
              exact trivial
            case ends =>
              intro vals W uu hu hR hS hall
              replace hS : (fun (_ : Nat → Value) (W : World) => ∃ v4, Mem1 w W p 32 z v4 w1.heap.size (giveR 32 z R Y.1 Y.2).1 (.slice (some ⟨g, 0, none⟩) H.length c8) H.length (H.map upH)) uu W := hS
              clear hu
              have e100 : vals 100 = _ := hall 18 (by decide)
              clear hall
              simp only [fill, List.setIfInBounds_toArray, List.set_cons_succ, List.set_cons_zero, e100]
              obtain ⟨v4, P4⟩ := hS
              obtain ⟨wg, rfl⟩ : ∃ wg, wg = W := ⟨_, rfl⟩
              have hA4 := own_arr P4.row
              have hU : (H.map upH).length = H.length := by simp
              clear C1 y0' y1' hP
              go_wp2_with fail
              refine wp_region_stage (fun _ _ : World => True) [0, 4, 9, 10] [(fun (_ : Nat → Value) (W : World) => W = wg.drew), (fun (_ : Nat → Value) (W : World) => W = (wg.alloc (.cells #[] 38)).drew), (fun (uu : Nat → Value) (W : World) => W.ownsRow wg.heap.size 38 2 (uu 4) r (rowC ((H.map upH).take r)) ∧ Ext wg W), (fun (uu : Nat → Value) (W : World) => W.ownsRow wg.heap.size 38 2 (uu 9) (r + (H.length - (r + 1))) (rowC ((H.map upH).take r) ++ rowC ((H.map upH).drop (r + 1))) ∧ Ext wg W), (fun (uu : Nat → Value) (W : World) => W.ownsRow wg.heap.size 38 2 (uu 10) (r + (H.length - (r + 1))) (rowC ((H.map upH).take r) ++ rowC ((H.map upH).drop (r + 1))) ∧ Ext wg W)] [101, 102, 103, 104, 105, 106, 107, 108, 109, 110, 7] (by kernel_rfl) (fun _ => trivial) (fun _ _ _ _ _ => trivial) (by kernel_rfl) (by kernel_rfl) (by kernel_rfl) ?start ?_
              case start => rfl
              apply ex_is; apply Exists.intro
              apply ex_is; apply Exists.intro
              apply ex_is; apply Exists.intro
              apply ex_is; apply Exists.intro
              refine ex_phi (fun _ _ => True) ?_
              apply ex_is; apply Exists.intro
              apply ex_is; apply Exists.intro
              apply ex_is; apply Exists.intro
              apply ex_is; apply Exists.intro
              refine ex_phi (fun _ _ => True) ?_
              refine ex_phi (fun _ _ => True) ?_
              refine ⟨[], ⟨?steps, ?stab, ?ends⟩⟩
              case steps =>
                refine And.intro (stepC_mark (pss := [[0], [4], [9]]) (by kernel_rfl) (by decide) rfl 0 [] (by kernel_rfl) rfl ?_) ?_
                · intro a W uu hu hR hS hf ho K hK
                  replace hS : (fun (_ : Nat → Value) (W : World) => W = wg.drew) uu W := hS
                  replace hK := fun (v : Value) (w' : World) (h1 : (fun _ _ : World => True) W w') h2 (h3 : (fun (_ : Nat → Value) (W : World) => W = (wg.alloc (.cells #[] 38)).drew) (upd uu 0 v) w') => hK v w' h1 h2 h3
                  clear hu
                  clear ho hf
                  go_simp
                  subst hS; exact hK _ _ trivial (Eq.refl _) rfl
                refine And.intro (stepC_pure (fun _ => trivial) (by kernel_rfl) ?_) ?_
                · intro a W hR hf ho K hK
                  have G : a.tmps[7]?.getD undef = _ ∧ True := ho
                  obtain ⟨g7, -⟩ := G
                  clear ho hf
                  go_simp
                  exact hK _ (Eq.refl _)
                refine And.intro (stepC_pure (fun _ => trivial) (by kernel_rfl) ?_) ?_
                · intro a W hR hf ho K hK
                  have G : a.tmps[11]?.getD undef = _ ∧ True := ho
                  obtain ⟨g11, -⟩ := G
                  clear ho hf
                  go_simp
                  exact hK _ (Eq.refl _)
                refine And.intro (stepC_pure (fun _ => trivial) (by kernel_rfl) ?_) ?_
                · intro a W hR hf ho K hK
                  have F : a.tmps[102]?.getD undef = _ ∧ a.tmps[103]?.getD undef = _ ∧ True := hf
                  obtain ⟨f1, f2, -⟩ := F
                  clear ho hf
                  go_simp
                  exact hK _ (Eq.refl _)
                refine And.intro (stepC_mark (pss := [[0], [4], [9]]) (by kernel_rfl) (by decide) rfl 1 [0] (by kernel_rfl) rfl ?_) ?_
                · intro a W uu hu hR hS hf ho K hK
                  replace hS : (fun (_ : Nat → Value) (W : World) => W = (wg.alloc (.cells #[] 38)).drew) uu W := hS
                  replace hK := fun (v : Value) (w' : World) (h1 : (fun _ _ : World => True) W w') h2 (h3 : (fun (uu : Nat → Value) (W : World) => W.ownsRow wg.heap.size 38 2 (uu 4) r (rowC ((H.map upH).take r)) ∧ Ext wg W) (upd uu 4 v) w') => hK v w' h1 h2 h3
                  have F : a.tmps[101]?.getD undef = _ ∧ a.tmps[104]?.getD undef = _ ∧ True := hf
                  obtain ⟨f0, f3, -⟩ := F
                  clear hu
                  clear ho hf
                  dsimp only [Option.elim] at f0
                  dsimp only [Option.elim] at f3
                  subst hS; rw [← seen_eq]; refine step_append_src _ rfl (.tmp 101) (.tmp 104) 35 rfl wg.heap.size 38 i0 (.agg #[.int .i64 0, .int .i64 0]) 2 16 Try.underlying35 hi hz0 hz1' hz2' rfl (by decide) _ _ _ (eval_get f0) (own_ext (lit0_own wg wg.heap.size _ rfl (Nat.le_refl _)) (by repeat first | (with_reducible exact Below.refl _ _) | (with_reducible apply Ext.alloc) | (with_reducible apply Ext.drew) | (with_reducible apply Ext.drewN) | (with_reducible refine Ext.set ?_ (by simp)))) _ r (rowC ((H.map upH).take r)) (eval_get f3) ((lies_take2 hA4).ext (by repeat first | (with_reducible exact Below.refl _ _) | (with_reducible apply Ext.alloc) | (with_reducible apply Ext.drew) | (with_reducible apply Ext.drewN) | (with_reducible refine Ext.set ?_ (by simp)))) (by rw [rowC_len]; simp; omega) (rowC_one _) (by unfold maxLen; omega) (by omega) (by simp) ?_; intro v' w' ho hg _; exact hK _ _ trivial trivial ⟨by simpa [upd] using ho, Below.grown (by repeat first | (with_reducible exact Below.refl _ _) | (with_reducible apply Ext.alloc) | (with_reducible apply Ext.drew) | (with_reducible apply Ext.drewN) | (with_reducible refine Ext.set ?_ (by simp))) hg (by simp) (fun q hq => (row_lt (lit0_own wg wg.heap.size _ rfl (Nat.le_refl _)) hq).1)⟩
                refine And.intro (stepC_pure (fun _ => trivial) (by kernel_rfl) ?_) ?_
                · intro a W hR hf ho K hK
                  have G : a.tmps[7]?.getD undef = _ ∧ True := ho
                  obtain ⟨g7, -⟩ := G
                  clear ho hf
                  go_simp
                  exact hK _ (Eq.refl _)
                refine And.intro (stepC_pure (fun _ => trivial) (by kernel_rfl) ?_) ?_
                · intro a W hR hf ho K hK
                  have G : a.tmps[11]?.getD undef = _ ∧ True := ho
                  obtain ⟨g11, -⟩ := G
                  clear ho hf
                  go_simp
                  exact hK _ (Eq.refl _)
                refine And.intro (stepC_pure (fun _ => trivial) (by kernel_rfl) ?_) ?_
                · intro a W hR hf ho K hK
                  have F : a.tmps[107]?.getD undef = _ ∧ True := hf
                  obtain ⟨f6, -⟩ := F
                  clear ho hf
                  go_simp
                  exact hK _ (Eq.refl _)
                refine And.intro (stepC_pure (fun _ => trivial) (by kernel_rfl) ?_) ?_
                · intro a W hR hf ho K hK
                  have F : a.tmps[106]?.getD undef = _ ∧ a.tmps[108]?.getD undef = _ ∧ True := hf
                  obtain ⟨f5, f7, -⟩ := F
                  clear ho hf
                  go_simp
                  exact hK _ (Eq.refl _)
                refine And.intro (stepC_mark (pss := [[0], [4], [9]]) (by kernel_rfl) (by decide) rfl 2 [4] (by kernel_rfl) rfl ?_) ?_
                · intro a W uu hu hR hS hf ho K hK
                  replace hS : (fun (uu : Nat → Value) (W : World) => W.ownsRow wg.heap.size 38 2 (uu 4) r (rowC ((H.map upH).take r)) ∧ Ext wg W) uu W := hS
                  replace hK := fun (v : Value) (w' : World) (h1 : (fun _ _ : World => True) W w') h2 (h3 : (fun (uu : Nat → Value) (W : World) => W.ownsRow wg.heap.size 38 2 (uu 9) (r + (H.length - (r + 1))) (rowC ((H.map upH).take r) ++ rowC ((H.map upH).drop (r + 1))) ∧ Ext wg W) (upd uu 9 v) w') => hK v w' h1 h2 h3
                  have F : (fun _ _ => True) (a.tmps[105]?.getD undef) W ∧ a.tmps[109]?.getD undef = _ ∧ (fun _ _ => True) (a.tmps[105]?.getD undef) W ∧ True := hf
                  obtain ⟨f4, f8, -, -⟩ := F
                  have f4 : a.tmps[105]?.getD undef = uu 4 := by rw [hu]; rfl
                  clear hu
                  clear ho hf
                  dsimp only [Option.elim] at f8
                  obtain ⟨ho2, hE2⟩ := hS; rw [← seen_eq]; refine step_append_src _ rfl (.tmp 105) (.tmp 109) 35 rfl wg.heap.size 38 i0 (.agg #[.int .i64 0, .int .i64 0]) 2 16 Try.underlying35 hi hz0 hz1' hz2' rfl (by decide) _ _ _ (eval_get f4) ho2 _ (H.length - (r + 1)) (rowC ((H.map upH).drop (r + 1))) (eval_get f8) ((lies_drop2 hA4 (fun h => by rw [hU] at h; simp only [hcr.out h, if_false]) (by split <;> simp)).ext hE2) (by rw [rowC_len]; simp) (rowC_one _) (by unfold maxLen; omega) (by omega) (by have := hE2.size; omega) ?_; intro v' w' ho hg _; exact hK _ _ trivial trivial ⟨by simpa [upd] using ho, Below.grown hE2 hg hE2.size (fun q hq => (row_lt ho2 hq).1)⟩
                refine And.intro (stepC_mark (pss := [[0], [4], [9]]) (by kernel_rfl) (by decide) rfl 3 [9] (by kernel_rfl) rfl ?_) ?_
                · intro a W uu hu hR hS hf ho K hK
                  replace hS : (fun (uu : Nat → Value) (W : World) => W.ownsRow wg.heap.size 38 2 (uu 9) (r + (H.length - (r + 1))) (rowC ((H.map upH).take r) ++ rowC ((H.map upH).drop (r + 1))) ∧ Ext wg W) uu W := hS
                  replace hK := fun (v : Value) (w' : World) (h1 : (fun _ _ : World => True) W w') h2 (h3 : (fun (uu : Nat → Value) (W : World) => W.ownsRow wg.heap.size 38 2 (uu 10) (r + (H.length - (r + 1))) (rowC ((H.map upH).take r) ++ rowC ((H.map upH).drop (r + 1))) ∧ Ext wg W) (upd uu 10 v) w') => hK v w' h1 h2 h3
                  have F : (fun _ _ => True) (a.tmps[110]?.getD undef) W ∧ (fun _ _ => True) (a.tmps[110]?.getD undef) W ∧ a.tmps[101]?.getD undef = _ ∧ a.tmps[102]?.getD undef = _ ∧ a.tmps[103]?.getD undef = _ ∧ a.tmps[104]?.getD undef = _ ∧ (fun _ _ => True) (a.tmps[105]?.getD undef) W ∧ a.tmps[106]?.getD undef = _ ∧ a.tmps[107]?.getD undef = _ ∧ a.tmps[108]?.getD undef = _ ∧ a.tmps[109]?.getD undef = _ ∧ (fun _ _ => True) (a.tmps[110]?.getD undef) W ∧ True := hf
                  obtain ⟨f9, -, f0, f1, f2, f3, f4, f5, f6, f7, f8, -, -⟩ := F
                  have f4 : a.tmps[105]?.getD undef = uu 4 := by rw [hu]; rfl
                  have f9 : a.tmps[110]?.getD undef = uu 9 := by rw [hu]; rfl
                  clear hu
                  clear ho hf
                  go_simp
                  exact hK _ _ trivial trivial hS
                exact trivial
              case stab =>
                refine And.intro is_stable ?_
                refine And.intro is_stable ?_
                refine And.intro is_stable ?_
                refine And.intro is_stable ?_
                refine And.intro (fun _ _ _ h _ => h) ?_
                refine And.intro is_stable ?_
                refine And.intro is_stable ?_
                refine And.intro is_stable ?_
                refine And.intro is_stable ?_
                refine And.intro (fun _ _ _ h _ => h) ?_
                refine And.intro (fun _ _ _ h _ => h) ?_
                exact trivial
              case ends =>
                intro vals W uu hu hR hS hall
                replace hS : (fun (uu : Nat → Value) (W : World) => W.ownsRow wg.heap.size 38 2 (uu 10) (r + (H.length - (r + 1))) (rowC ((H.map upH).take r) ++ rowC ((H.map upH).drop (r + 1))) ∧ Ext wg W) uu W := hS
                have e105 : vals 105 = uu 4 := by rw [hu]; rfl
                have e110 : vals 110 = uu 9 := by rw [hu]; rfl
                have e7 : vals 7 = uu 10 := by rw [hu]; rfl
                clear hu
                clear hall
                simp only [fill, List.setIfInBounds_toArray, List.set_cons_succ, List.set_cons_zero, e105, e110, e7]
                obtain ⟨ho3, hE3⟩ := hS
                go_wp2_with fail
                go_meet
                exact ⟨v4, _, H.take r ++ H.drop (r + 1), ⟨P4.f.ext hE3, by rw [List.map_append, List.map_take, List.map_drop, rowC_append, show (H.take r ++ H.drop (r + 1)).length = r + (H.length - (r + 1)) by simp; omega]; exact own_low ho3 P4.e.size, P4.e.then hE3, P4.b1⟩, by simp; omega, HT.out.2.1, Lib.hid HT.out.2.2⟩
          · have hgt : decide ((H.length : Int) > 0) = false := decide_eq_false (by omega)
            go_wp2_with fail
            go_meet
            exact ⟨v, R, H, hP, by omega, HH.out, HS⟩
      case rest =>
        clear x0 x1 x2 X2 hP HS HH hHj v R H
        obtain ⟨v, R, H, hP, hHj, hH, HS⟩ := hcut
        have hfar := all_far hH
        have hwin := all_within hH
        have hsum := sum_up H
        have hwfs := wf_sum hH.wf hz1
        have HH := Lib.hid hH
        obtain ⟨A8, c8, rfl, hc8, -⟩ := Arr.own hP.row
        have hHl : H.length ≤ 200 := by omega
        have hRl := hP.f.len
        have hU : (H.map upH).length = H.length := by simp
        obtain ⟨U, hUe⟩ : ∃ U, U = H.map upH := ⟨_, rfl⟩
        rw [← hUe] at hP hfar hwin hsum hU
        have HUE := Lib.hid hUe
        clear hUe hH
        have HFW := Lib.hid (And.intro hfar hwin)
        clear hfar hwin
        go_wp2_with fail
        refine (all_free _ _ _ _ _ _ _ hP.f).mono ?_
        rintro e w5 ⟨rfl, e5⟩
        have P5 := hP.ext e5
        have s5 := P5.e.size
        clear hP e5
        go_wp2_with (first
          | (at_builtin; refine wpList_append_src _ rfl (.tmp 113) (.tmp 114) 35 rfl w5.heap.size 38 i0 (.agg #[.int .i64 0, .int .i64 0]) 2 16 Try.underlying35 hi hz0 hz1' hz2' rfl (by decide) _ _ _ rfl (lit0_own w5 w5.heap.size _ rfl (Nat.le_refl _)) _ H.length (rowC U) rfl ((Lies.own P5.row).ext (by repeat first | (with_reducible exact Below.refl _ _) | (with_reducible apply Ext.alloc) | (with_reducible apply Ext.drew) | (with_reducible apply Ext.drewN) | (with_reducible refine Ext.set ?_ (by simp)))) (by rw [rowC_len, hU]) (rowC_one _) (by unfold maxLen; omega) (by omega) (by simp) ?_; intro v6 w6 ho6 hg6 _))
        have e6 : Ext w5 w6 := Below.grown (by repeat first | (with_reducible exact Below.refl _ _) | (with_reducible apply Ext.alloc) | (with_reducible apply Ext.drew) | (with_reducible apply Ext.drewN) | (with_reducible refine Ext.set ?_ (by simp))) hg6 (by simp) (fun q hq => (row_lt (lit0_own w5 w5.heap.size _ rfl (Nat.le_refl _)) hq).1)
        have P6 := P5.ext e6
        have e6' := e6
        replace ho6 : w6.ownsRow w5.heap.size 38 2 v6 H.length (rowC U) := by simpa using ho6
        clear hg6
        go_wp2_with fail
        refine (runs_free _ _ _ _ _ _ _ P6.f).mono ?_
        rintro e w7 ⟨v7, rfl, ho7, e7⟩
        have P7 := P6.ext e7
        have ho67 := own_ext ho6 e7
        have s7 := (e6.then e7).size
        clear P6 e6 ho6
        go_wp2_with (first
          | (at_builtin; refine wpList_append_src _ rfl (.tmp 115) (.tmp 117) 35 rfl w5.heap.size 38 i0 (.agg #[.int .i64 0, .int .i64 0]) 2 16 Try.underlying35 hi hz0 hz1' hz2' rfl (by decide) _ _ _ rfl ho67 _ R.length (rowC R) rfl (Lies.own ho7) (by rw [rowC_len]) (rowC_one _) (by unfold maxLen; omega) (by omega) (by omega) ?_; intro v8 w8 ho8 hg8 _))
        have e8 : Ext w5 w8 := Below.trans (e6'.then e7) (Below.grown (Below.refl _ w7) hg8 s7 (fun q hq => (row_lt ho67 hq).1))
        have P8 := P5.ext e8
        clear P5 P7 hg8 e8 ho67 ho7 e7 e6' s7
        obtain ⟨L, hL⟩ : ∃ L, L = U ++ R := ⟨_, rfl⟩
        have hLl : L.length = H.length + R.length := by rw [hL, List.length_append, hU]
        rw [← rowC_append, ← hL] at ho8
        rw [← hL] at HFW
        have hUf : AllFine U := fun r hr => by
          have := HFW.out.2 r (by rw [hL]; exact List.mem_append_left _ hr)
          exact ⟨by omega, by omega, by omega, by omega⟩
        have HUF := Lib.hid hUf
        clear hL hUf
        have hm2 : H.length + R.length ≤ 2000200 := by omega
        generalize H.length + R.length = m at *
        obtain ⟨A9, c9, rfl, -, -⟩ := Arr.own ho8
        have hA9 := own_arr ho8
        have hA8 := own_arr P8.row
        have hzn := HZ.out
        have hn0 : IntKind.i64.wrap n = n := IntWalk.i64_in _ (by omega)
        have hn1 : IntKind.i64.wrap (16 * n) = 16 * n := IntWalk.i64_in _ (by omega)
        have hn2 : IntKind.i64.wrap (32 + 16 * n) = 32 + 16 * n := IntWalk.i64_in _ (by omega)
        clear ho8 hzn
        go_loopw [14] (fun i wr => ∃ x q : Nat, x ≤ m ∧ i = .int .i64 (x : Int) ∧ wr = w8.drewN q) (fun i _ => m - (intOf i).toNat)
        case atStart => exact ⟨0, 0, Nat.zero_le _, rfl, rfl⟩
        case round =>
          obtain ⟨x, q, hx, rfl, rfl⟩ := hrel
          by_cases hxm : x < m
          · obtain ⟨b9, o9, rfl, -, x0, x1⟩ := own_at hA9 (show x < L.length by omega)
            obtain ⟨g1, g2, g3⟩ := HFW.out.2 L[x] (List.getElem_mem (by omega))
            have d1 : decide (L[x].1 < 32) = false := decide_eq_false (by omega)
            have d2 : decide (L[x].2 > 32 + 16 * n) = false := decide_eq_false (by have := HZ.out; omega)
            have d2' : L[x].2 ≤ 32 + 16 * n := by have := HZ.out; omega
            have d3 : decide (L[x].1 ≥ L[x].2) = false := decide_eq_false (by omega)
            clear g1 g2 g3
            go_wp2_with fail
            go_loopw [15] (fun i wr => ∃ y q : Nat, x < y ∧ y ≤ m ∧ i = .int .i64 (y : Int) ∧ wr = w8.drewN q) (fun i _ => m - (intOf i).toNat)
            case atStart => exact ⟨x + 1, q, by omega, by omega, by simp, rfl⟩
            case round =>
              obtain ⟨y, q, hxy, hy, rfl, rfl⟩ := hrel
              by_cases hym : y < m
              · obtain ⟨y0, y1⟩ := own_cells hA9 (show y < L.length by omega)
                have hf := List.pairwise_iff_getElem.1 HFW.out.1 x y (by omega) (by omega) hxy
                by_cases hc : L[x].1 < L[y].2
                · have hc' : decide (L[x].1 < L[y].2) = true := decide_eq_true hc
                  have hd : decide (L[y].1 < L[x].2) = false := decide_eq_false (by unfold far2 at hf; omega)
                  clear hc hf
                  go_wp2_with fail
                  refine wp_region_obl Eq [133, 134, 135, 136, 137, 138, 139, 140, 141, 142, 143, 144, 145, 146, 147, 148, 149, 150, 151, 152, 153, 154, 155, 156] (by kernel_rfl) (fun _ => rfl) (fun _ _ _ => Eq.trans) (by kernel_rfl) (by kernel_rfl) ?_
                  apply ex_is; apply Exists.intro
                  apply ex_is; apply Exists.intro
                  apply ex_is; apply Exists.intro
                  apply ex_is; apply Exists.intro
                  apply ex_is; apply Exists.intro
                  apply ex_is; apply Exists.intro
                  apply ex_is; apply Exists.intro
                  apply ex_is; apply Exists.intro
                  apply ex_is; apply Exists.intro
                  apply ex_is; apply Exists.intro
                  apply ex_is; apply Exists.intro
                  apply ex_is; apply Exists.intro
                  apply ex_is; apply Exists.intro
                  apply ex_is; apply Exists.intro
                  apply ex_is; apply Exists.intro
                  apply ex_is; apply Exists.intro
                  apply ex_is; apply Exists.intro
                  apply ex_is; apply Exists.intro
                  apply ex_is; apply Exists.intro
                  apply ex_is; apply Exists.intro
                  apply ex_is; apply Exists.intro
                  apply ex_is; apply Exists.intro
                  apply ex_is; apply Exists.intro
                  apply ex_is; apply Exists.intro
                  refine ⟨[], ⟨?steps, ?stab, ?ends⟩⟩
                  case steps =>
                    refine And.intro ?_ ?_
                    · intro a W hR hf ho K hK
                      subst hR
                      have G : a.tmps[13]?.getD undef = _ ∧ True := ho
                      obtain ⟨g13, -⟩ := G
                      clear ho hf
                      go_simp
                      exact hK _ _ (rfl) (Eq.refl _)
                    refine And.intro ?_ ?_
                    · intro a W hR hf ho K hK
                      subst hR
                      have G : a.tmps[14]?.getD undef = _ ∧ True := ho
                      obtain ⟨g14, -⟩ := G
                      clear ho hf
                      go_simp
                      exact hK _ _ (rfl) (Eq.refl _)
                    refine And.intro ?_ ?_
                    · intro a W hR hf ho K hK
                      subst hR
                      have F : a.tmps[133]?.getD undef = _ ∧ a.tmps[134]?.getD undef = _ ∧ True := hf
                      obtain ⟨f0, f1, -⟩ := F
                      clear ho hf
                      go_simp
                      exact hK _ _ (rfl) (Eq.refl _)
                    refine And.intro ?_ ?_
                    · intro a W hR hf ho K hK
                      subst hR
                      have F : a.tmps[135]?.getD undef = _ ∧ True := hf
                      obtain ⟨f2, -⟩ := F
                      clear ho hf
                      go_simp
                      exact hK _ _ (rfl) (Eq.refl _)
                    refine And.intro ?_ ?_
                    · intro a W hR hf ho K hK
                      subst hR
                      have F : a.tmps[136]?.getD undef = _ ∧ True := hf
                      obtain ⟨f3, -⟩ := F
                      clear ho hf
                      go_simp
                      exact hK _ _ (rfl) (Eq.refl _)
                    refine And.intro ?_ ?_
                    · intro a W hR hf ho K hK
                      subst hR
                      have G : a.tmps[13]?.getD undef = _ ∧ True := ho
                      obtain ⟨g13, -⟩ := G
                      clear ho hf
                      go_simp
                      exact hK _ _ (rfl) (Eq.refl _)
                    refine And.intro ?_ ?_
                    · intro a W hR hf ho K hK
                      subst hR
                      have G : a.tmps[15]?.getD undef = _ ∧ True := ho
                      obtain ⟨g15, -⟩ := G
                      clear ho hf
                      go_simp
                      exact hK _ _ (rfl) (Eq.refl _)
                    refine And.intro ?_ ?_
                    · intro a W hR hf ho K hK
                      subst hR
                      have F : a.tmps[138]?.getD undef = _ ∧ a.tmps[139]?.getD undef = _ ∧ True := hf
                      obtain ⟨f5, f6, -⟩ := F
                      clear ho hf
                      go_simp
                      exact hK _ _ (rfl) (Eq.refl _)
                    refine And.intro ?_ ?_
                    · intro a W hR hf ho K hK
                      subst hR
                      have F : a.tmps[140]?.getD undef = _ ∧ True := hf
                      obtain ⟨f7, -⟩ := F
                      clear ho hf
                      go_simp
                      exact hK _ _ (rfl) (Eq.refl _)
                    refine And.intro ?_ ?_
                    · intro a W hR hf ho K hK
                      subst hR
                      have F : a.tmps[141]?.getD undef = _ ∧ True := hf
                      obtain ⟨f8, -⟩ := F
                      clear ho hf
                      go_simp
                      exact hK _ _ (rfl) (Eq.refl _)
                    refine And.intro ?_ ?_
                    · intro a W hR hf ho K hK
                      subst hR
                      have F : a.tmps[137]?.getD undef = _ ∧ a.tmps[142]?.getD undef = _ ∧ True := hf
                      obtain ⟨f4, f9, -⟩ := F
                      clear ho hf
                      go_simp
                      exact hK _ _ (rfl) (Eq.refl _)
                    refine And.intro ?_ ?_
                    · intro a W hR hf ho K hK
                      subst hR
                      have F : a.tmps[143]?.getD undef = _ ∧ True := hf
                      obtain ⟨f10, -⟩ := F
                      clear ho hf
                      go_simp
                      exact hK _ _ (rfl) (Eq.refl _)
                    refine And.intro ?_ ?_
                    · intro a W hR hf ho K hK
                      subst hR
                      have G : a.tmps[13]?.getD undef = _ ∧ True := ho
                      obtain ⟨g13, -⟩ := G
                      have F : a.tmps[144]?.getD undef = _ ∧ True := hf
                      obtain ⟨f11, -⟩ := F
                      clear ho hf
                      go_simp
                      exact hK _ _ (rfl) (Eq.refl _)
                    refine And.intro ?_ ?_
                    · intro a W hR hf ho K hK
                      subst hR
                      have G : a.tmps[15]?.getD undef = _ ∧ True := ho
                      obtain ⟨g15, -⟩ := G
                      have F : a.tmps[144]?.getD undef = _ ∧ True := hf
                      obtain ⟨f11, -⟩ := F
                      clear ho hf
                      go_simp
                      exact hK _ _ (rfl) (Eq.refl _)
                    refine And.intro ?_ ?_
                    · intro a W hR hf ho K hK
                      subst hR
                      have F : a.tmps[145]?.getD undef = _ ∧ a.tmps[146]?.getD undef = _ ∧ a.tmps[144]?.getD undef = _ ∧ True := hf
                      obtain ⟨f12, f13, f11, -⟩ := F
                      clear ho hf
                      go_simp
                      exact hK _ _ (rfl) (Eq.refl _)
                    refine And.intro ?_ ?_
                    · intro a W hR hf ho K hK
                      subst hR
                      have F : a.tmps[147]?.getD undef = _ ∧ a.tmps[144]?.getD undef = _ ∧ True := hf
                      obtain ⟨f14, f11, -⟩ := F
                      clear ho hf
                      go_simp
                      exact hK _ _ (rfl) (Eq.refl _)
                    refine And.intro ?_ ?_
                    · intro a W hR hf ho K hK
                      subst hR
                      have F : a.tmps[148]?.getD undef = _ ∧ a.tmps[144]?.getD undef = _ ∧ True := hf
                      obtain ⟨f15, f11, -⟩ := F
                      clear ho hf
                      go_simp
                      exact hK _ _ (rfl) (Eq.refl _)
                    refine And.intro ?_ ?_
                    · intro a W hR hf ho K hK
                      subst hR
                      have G : a.tmps[13]?.getD undef = _ ∧ True := ho
                      obtain ⟨g13, -⟩ := G
                      have F : a.tmps[144]?.getD undef = _ ∧ True := hf
                      obtain ⟨f11, -⟩ := F
                      clear ho hf
                      go_simp
                      exact hK _ _ (rfl) (Eq.refl _)
                    refine And.intro ?_ ?_
                    · intro a W hR hf ho K hK
                      subst hR
                      have G : a.tmps[14]?.getD undef = _ ∧ True := ho
                      obtain ⟨g14, -⟩ := G
                      have F : a.tmps[144]?.getD undef = _ ∧ True := hf
                      obtain ⟨f11, -⟩ := F
                      clear ho hf
                      go_simp
                      exact hK _ _ (rfl) (Eq.refl _)
                    refine And.intro ?_ ?_
                    · intro a W hR hf ho K hK
                      subst hR
                      have F : a.tmps[150]?.getD undef = _ ∧ a.tmps[151]?.getD undef = _ ∧ a.tmps[144]?.getD undef = _ ∧ True := hf
                      obtain ⟨f17, f18, f11, -⟩ := F
                      clear ho hf
                      go_simp
                      exact hK _ _ (rfl) (Eq.refl _)
                    refine And.intro ?_ ?_
                    · intro a W hR hf ho K hK
                      subst hR
                      have F : a.tmps[152]?.getD undef = _ ∧ a.tmps[144]?.getD undef = _ ∧ True := hf
                      obtain ⟨f19, f11, -⟩ := F
                      clear ho hf
                      go_simp
                      exact hK _ _ (rfl) (Eq.refl _)
                    refine And.intro ?_ ?_
                    · intro a W hR hf ho K hK
                      subst hR
                      have F : a.tmps[153]?.getD undef = _ ∧ a.tmps[144]?.getD undef = _ ∧ True := hf
                      obtain ⟨f20, f11, -⟩ := F
                      clear ho hf
                      go_simp
                      exact hK _ _ (rfl) (Eq.refl _)
                    refine And.intro ?_ ?_
                    · intro a W hR hf ho K hK
                      subst hR
                      have F : a.tmps[149]?.getD undef = _ ∧ a.tmps[154]?.getD undef = _ ∧ a.tmps[144]?.getD undef = _ ∧ True := hf
                      obtain ⟨f16, f21, f11, -⟩ := F
                      clear ho hf
                      go_simp
                      exact hK _ _ (rfl) (Eq.refl _)
                    refine And.intro ?_ ?_
                    · intro a W hR hf ho K hK
                      subst hR
                      have F : a.tmps[144]?.getD undef = _ ∧ a.tmps[155]?.getD undef = _ ∧ True := hf
                      obtain ⟨f11, f22, -⟩ := F
                      clear ho hf
                      go_simp
                      exact hK _ _ (rfl) (Eq.refl _)
                    exact trivial
                  case stab =>
                    refine And.intro is_stable ?_
                    refine And.intro is_stable ?_
                    refine And.intro is_stable ?_
                    refine And.intro is_stable ?_
                    refine And.intro is_stable ?_
                    refine And.intro is_stable ?_
                    refine And.intro is_stable ?_
                    refine And.intro is_stable ?_
                    refine And.intro is_stable ?_
                    refine And.intro is_stable ?_
                    refine And.intro is_stable ?_
                    refine And.intro is_stable ?_
                    refine And.intro is_stable ?_
                    refine And.intro is_stable ?_
                    refine And.intro is_stable ?_
                    refine And.intro is_stable ?_
                    refine And.intro is_stable ?_
                    refine And.intro is_stable ?_
                    refine And.intro is_stable ?_
                    refine And.intro is_stable ?_
                    refine And.intro is_stable ?_
                    refine And.intro is_stable ?_
                    refine And.intro is_stable ?_
                    refine And.intro is_stable ?_
                    exact trivial
                  case ends =>
                    intro vals W hR hall
                    subst hR
                    have e156 : vals 156 = _ := hall 23 (by decide)
                    clear hall
                    simp only [fill, List.setIfInBounds_toArray, List.set_cons_succ, List.set_cons_zero, e156]
                    go_wp2_with fail
                    exact ⟨⟨y + 1, _, by omega, by omega, by simp, rfl⟩, by simp [intOf]; omega⟩
                · have hc' : decide (L[x].1 < L[y].2) = false := decide_eq_false hc
                  clear hc hf
                  go_wp2_with fail
                  refine wp_region_obl Eq [133, 134, 135, 136, 137, 138, 139, 140, 141, 142, 143, 144, 145, 146, 147, 148, 149, 150, 151, 152, 153, 154, 155, 156] (by kernel_rfl) (fun _ => rfl) (fun _ _ _ => Eq.trans) (by kernel_rfl) (by kernel_rfl) ?_
                  apply ex_is; apply Exists.intro
                  apply ex_is; apply Exists.intro
                  apply ex_is; apply Exists.intro
                  apply ex_is; apply Exists.intro
                  apply ex_is; apply Exists.intro
                  apply ex_is; apply Exists.intro
                  apply ex_is; apply Exists.intro
                  apply ex_is; apply Exists.intro
                  apply ex_is; apply Exists.intro
                  apply ex_is; apply Exists.intro
                  apply ex_is; apply Exists.intro
                  apply ex_is; apply Exists.intro
                  apply ex_is; apply Exists.intro
                  apply ex_is; apply Exists.intro
                  apply ex_is; apply Exists.intro
                  apply ex_is; apply Exists.intro
                  apply ex_is; apply Exists.intro
                  apply ex_is; apply Exists.intro
                  apply ex_is; apply Exists.intro
                  apply ex_is; apply Exists.intro
                  apply ex_is; apply Exists.intro
                  apply ex_is; apply Exists.intro
                  apply ex_is; apply Exists.intro
                  apply ex_is; apply Exists.intro
                  refine ⟨[], ⟨?steps, ?stab, ?ends⟩⟩
                  case steps =>
                    refine And.intro ?_ ?_
                    · intro a W hR hf ho K hK
                      subst hR
                      have G : a.tmps[13]?.getD undef = _ ∧ True := ho
                      obtain ⟨g13, -⟩ := G
                      clear ho hf
                      go_simp
                      exact hK _ _ (rfl) (Eq.refl _)
                    refine And.intro ?_ ?_
                    · intro a W hR hf ho K hK
                      subst hR
                      have G : a.tmps[14]?.getD undef = _ ∧ True := ho
                      obtain ⟨g14, -⟩ := G
                      clear ho hf
                      go_simp
                      exact hK _ _ (rfl) (Eq.refl _)
                    refine And.intro ?_ ?_
                    · intro a W hR hf ho K hK
                      subst hR
                      have F : a.tmps[133]?.getD undef = _ ∧ a.tmps[134]?.getD undef = _ ∧ True := hf
                      obtain ⟨f0, f1, -⟩ := F
                      clear ho hf
                      go_simp
                      exact hK _ _ (rfl) (Eq.refl _)
                    refine And.intro ?_ ?_
                    · intro a W hR hf ho K hK
                      subst hR
                      have F : a.tmps[135]?.getD undef = _ ∧ True := hf
                      obtain ⟨f2, -⟩ := F
                      clear ho hf
                      go_simp
                      exact hK _ _ (rfl) (Eq.refl _)
                    refine And.intro ?_ ?_
                    · intro a W hR hf ho K hK
                      subst hR
                      have F : a.tmps[136]?.getD undef = _ ∧ True := hf
                      obtain ⟨f3, -⟩ := F
                      clear ho hf
                      go_simp
                      exact hK _ _ (rfl) (Eq.refl _)
                    refine And.intro ?_ ?_
                    · intro a W hR hf ho K hK
                      subst hR
                      have G : a.tmps[13]?.getD undef = _ ∧ True := ho
                      obtain ⟨g13, -⟩ := G
                      clear ho hf
                      go_simp
                      exact hK _ _ (rfl) (Eq.refl _)
                    refine And.intro ?_ ?_
                    · intro a W hR hf ho K hK
                      subst hR
                      have G : a.tmps[15]?.getD undef = _ ∧ True := ho
                      obtain ⟨g15, -⟩ := G
                      clear ho hf
                      go_simp
                      exact hK _ _ (rfl) (Eq.refl _)
                    refine And.intro ?_ ?_
                    · intro a W hR hf ho K hK
                      subst hR
                      have F : a.tmps[138]?.getD undef = _ ∧ a.tmps[139]?.getD undef = _ ∧ True := hf
                      obtain ⟨f5, f6, -⟩ := F
                      clear ho hf
                      go_simp
                      exact hK _ _ (rfl) (Eq.refl _)
                    refine And.intro ?_ ?_
                    · intro a W hR hf ho K hK
                      subst hR
                      have F : a.tmps[140]?.getD undef = _ ∧ True := hf
                      obtain ⟨f7, -⟩ := F
                      clear ho hf
                      go_simp
                      exact hK _ _ (rfl) (Eq.refl _)
                    refine And.intro ?_ ?_
                    · intro a W hR hf ho K hK
                      subst hR
                      have F : a.tmps[141]?.getD undef = _ ∧ True := hf
                      obtain ⟨f8, -⟩ := F
                      clear ho hf
                      go_simp
                      exact hK _ _ (rfl) (Eq.refl _)
                    refine And.intro ?_ ?_
                    · intro a W hR hf ho K hK
                      subst hR
                      have F : a.tmps[137]?.getD undef = _ ∧ a.tmps[142]?.getD undef = _ ∧ True := hf
                      obtain ⟨f4, f9, -⟩ := F
                      clear ho hf
                      go_simp
                      exact hK _ _ (rfl) (Eq.refl _)
                    refine And.intro ?_ ?_
                    · intro a W hR hf ho K hK
                      subst hR
                      have F : a.tmps[143]?.getD undef = _ ∧ True := hf
                      obtain ⟨f10, -⟩ := F
                      clear ho hf
                      go_simp
                      exact hK _ _ (rfl) (Eq.refl _)
                    refine And.intro ?_ ?_
                    · intro a W hR hf ho K hK
                      subst hR
                      have G : a.tmps[13]?.getD undef = _ ∧ True := ho
                      obtain ⟨g13, -⟩ := G
                      have F : a.tmps[144]?.getD undef = _ ∧ True := hf
                      obtain ⟨f11, -⟩ := F
                      clear ho hf
                      go_simp
                      exact hK _ _ (rfl) (Eq.refl _)
                    refine And.intro ?_ ?_
                    · intro a W hR hf ho K hK
                      subst hR
                      have G : a.tmps[15]?.getD undef = _ ∧ True := ho
                      obtain ⟨g15, -⟩ := G
                      have F : a.tmps[144]?.getD undef = _ ∧ True := hf
                      obtain ⟨f11, -⟩ := F
                      clear ho hf
                      go_simp
                      exact hK _ _ (rfl) (Eq.refl _)
                    refine And.intro ?_ ?_
                    · intro a W hR hf ho K hK
                      subst hR
                      have F : a.tmps[145]?.getD undef = _ ∧ a.tmps[146]?.getD undef = _ ∧ a.tmps[144]?.getD undef = _ ∧ True := hf
                      obtain ⟨f12, f13, f11, -⟩ := F
                      clear ho hf
                      go_simp
                      exact hK _ _ (rfl) (Eq.refl _)
                    refine And.intro ?_ ?_
                    · intro a W hR hf ho K hK
                      subst hR
                      have F : a.tmps[147]?.getD undef = _ ∧ a.tmps[144]?.getD undef = _ ∧ True := hf
                      obtain ⟨f14, f11, -⟩ := F
                      clear ho hf
                      go_simp
                      exact hK _ _ (rfl) (Eq.refl _)
                    refine And.intro ?_ ?_
                    · intro a W hR hf ho K hK
                      subst hR
                      have F : a.tmps[148]?.getD undef = _ ∧ a.tmps[144]?.getD undef = _ ∧ True := hf
                      obtain ⟨f15, f11, -⟩ := F
                      clear ho hf
                      go_simp
                      exact hK _ _ (rfl) (Eq.refl _)
                    refine And.intro ?_ ?_
                    · intro a W hR hf ho K hK
                      subst hR
                      have G : a.tmps[13]?.getD undef = _ ∧ True := ho
                      obtain ⟨g13, -⟩ := G
                      have F : a.tmps[144]?.getD undef = _ ∧ True := hf
                      obtain ⟨f11, -⟩ := F
                      clear ho hf
                      go_simp
                      exact hK _ _ (rfl) (Eq.refl _)
                    refine And.intro ?_ ?_
                    · intro a W hR hf ho K hK
                      subst hR
                      have G : a.tmps[14]?.getD undef = _ ∧ True := ho
                      obtain ⟨g14, -⟩ := G
                      have F : a.tmps[144]?.getD undef = _ ∧ True := hf
                      obtain ⟨f11, -⟩ := F
                      clear ho hf
                      go_simp
                      exact hK _ _ (rfl) (Eq.refl _)
                    refine And.intro ?_ ?_
                    · intro a W hR hf ho K hK
                      subst hR
                      have F : a.tmps[150]?.getD undef = _ ∧ a.tmps[151]?.getD undef = _ ∧ a.tmps[144]?.getD undef = _ ∧ True := hf
                      obtain ⟨f17, f18, f11, -⟩ := F
                      clear ho hf
                      go_simp
                      exact hK _ _ (rfl) (Eq.refl _)
                    refine And.intro ?_ ?_
                    · intro a W hR hf ho K hK
                      subst hR
                      have F : a.tmps[152]?.getD undef = _ ∧ a.tmps[144]?.getD undef = _ ∧ True := hf
                      obtain ⟨f19, f11, -⟩ := F
                      clear ho hf
                      go_simp
                      exact hK _ _ (rfl) (Eq.refl _)
                    refine And.intro ?_ ?_
                    · intro a W hR hf ho K hK
                      subst hR
                      have F : a.tmps[153]?.getD undef = _ ∧ a.tmps[144]?.getD undef = _ ∧ True := hf
                      obtain ⟨f20, f11, -⟩ := F
                      clear ho hf
                      go_simp
                      exact hK _ _ (rfl) (Eq.refl _)
                    refine And.intro ?_ ?_
                    · intro a W hR hf ho K hK
                      subst hR
                      have F : a.tmps[149]?.getD undef = _ ∧ a.tmps[154]?.getD undef = _ ∧ a.tmps[144]?.getD undef = _ ∧ True := hf
                      obtain ⟨f16, f21, f11, -⟩ := F
                      clear ho hf
                      go_simp
                      exact hK _ _ (rfl) (Eq.refl _)
                    refine And.intro ?_ ?_
                    · intro a W hR hf ho K hK
                      subst hR
                      have F : a.tmps[144]?.getD undef = _ ∧ a.tmps[155]?.getD undef = _ ∧ True := hf
                      obtain ⟨f11, f22, -⟩ := F
                      clear ho hf
                      go_simp
                      exact hK _ _ (rfl) (Eq.refl _)
                    exact trivial
                  case stab =>
                    refine And.intro is_stable ?_
                    refine And.intro is_stable ?_
                    refine And.intro is_stable ?_
                    refine And.intro is_stable ?_
                    refine And.intro is_stable ?_
                    refine And.intro is_stable ?_
                    refine And.intro is_stable ?_
                    refine And.intro is_stable ?_
                    refine And.intro is_stable ?_
                    refine And.intro is_stable ?_
                    refine And.intro is_stable ?_
                    refine And.intro is_stable ?_
                    refine And.intro is_stable ?_
                    refine And.intro is_stable ?_
                    refine And.intro is_stable ?_
                    refine And.intro is_stable ?_
                    refine And.intro is_stable ?_
                    refine And.intro is_stable ?_
                    refine And.intro is_stable ?_
                    refine And.intro is_stable ?_
                    refine And.intro is_stable ?_
                    refine And.intro is_stable ?_
                    refine And.intro is_stable ?_
                    refine And.intro is_stable ?_
                    exact trivial
                  case ends =>
                    intro vals W hR hall
                    subst hR
                    have e156 : vals 156 = _ := hall 23 (by decide)
                    clear hall
                    simp only [fill, List.setIfInBounds_toArray, List.set_cons_succ, List.set_cons_zero, e156]
                    go_wp2_with fail
                    exact ⟨⟨y + 1, _, by omega, by omega, by simp, rfl⟩, by simp [intOf]; omega⟩
              · go_wp2_with fail
                refine wp_region_obl Eq [157, 158, 159, 160, 161, 162, 163, 164, 165, 166, 167, 168, 169, 170, 171, 172, 173, 174, 175, 176, 177, 178, 179, 180, 181, 182, 183, 184, 185, 186, 187] (by kernel_rfl) (fun _ => rfl) (fun _ _ _ => Eq.trans) (by kernel_rfl) (by kernel_rfl) ?_
                apply ex_is; apply Exists.intro
                apply ex_is; apply Exists.intro
                apply ex_is; apply Exists.intro
                apply ex_is; apply Exists.intro
                apply ex_is; apply Exists.intro
                apply ex_is; apply Exists.intro
                apply ex_is; apply Exists.intro
                apply ex_is; apply Exists.intro
                apply ex_is; apply Exists.intro
                apply ex_is; apply Exists.intro
                apply ex_is; apply Exists.intro
                apply ex_is; apply Exists.intro
                apply ex_is; apply Exists.intro
                apply ex_is; apply Exists.intro
                apply ex_is; apply Exists.intro
                apply ex_is; apply Exists.intro
                apply ex_is; apply Exists.intro
                apply ex_is; apply Exists.intro
                apply ex_is; apply Exists.intro
                apply ex_is; apply Exists.intro
                apply ex_is; apply Exists.intro
                apply ex_is; apply Exists.intro
                apply ex_is; apply Exists.intro
                apply ex_is; apply Exists.intro
                apply ex_is; apply Exists.intro
                apply ex_is; apply Exists.intro
                apply ex_is; apply Exists.intro
                apply ex_is; apply Exists.intro
                apply ex_is; apply Exists.intro
                apply ex_is; apply Exists.intro
                apply ex_is; apply Exists.intro
                refine ⟨[], ⟨?steps, ?stab, ?ends⟩⟩
                case steps =>
                  refine And.intro ?_ ?_
                  · intro a W hR hf ho K hK
                    subst hR
                    have G : a.tmps[13]?.getD undef = _ ∧ True := ho
                    obtain ⟨g13, -⟩ := G
                    clear ho hf
                    go_simp
                    exact hK _ _ (rfl) (Eq.refl _)
                  refine And.intro ?_ ?_
                  · intro a W hR hf ho K hK
                    subst hR
                    have G : a.tmps[14]?.getD undef = _ ∧ True := ho
                    obtain ⟨g14, -⟩ := G
                    clear ho hf
                    go_simp
                    exact hK _ _ (rfl) (Eq.refl _)
                  refine And.intro ?_ ?_
                  · intro a W hR hf ho K hK
                    subst hR
                    have F : a.tmps[157]?.getD undef = _ ∧ a.tmps[158]?.getD undef = _ ∧ True := hf
                    obtain ⟨f0, f1, -⟩ := F
                    clear ho hf
                    go_simp
                    exact hK _ _ (rfl) (Eq.refl _)
                  refine And.intro ?_ ?_
                  · intro a W hR hf ho K hK
                    subst hR
                    have F : a.tmps[159]?.getD undef = _ ∧ True := hf
                    obtain ⟨f2, -⟩ := F
                    clear ho hf
                    go_simp
                    exact hK _ _ (rfl) (Eq.refl _)
                  refine And.intro ?_ ?_
                  · intro a W hR hf ho K hK
                    subst hR
                    have F : a.tmps[160]?.getD undef = _ ∧ True := hf
                    obtain ⟨f3, -⟩ := F
                    clear ho hf
                    go_simp
                    exact hK _ _ (rfl) (Eq.refl _)
                  refine And.intro ?_ ?_
                  · intro a W hR hf ho K hK
                    subst hR
                    have F : a.tmps[161]?.getD undef = _ ∧ True := hf
                    obtain ⟨f4, -⟩ := F
                    clear ho hf
                    go_simp
                    exact hK _ _ (rfl) (Eq.refl _)
                  refine And.intro ?_ ?_
                  · intro a W hR hf ho K hK
                    subst hR
                    have F : a.tmps[162]?.getD undef = _ ∧ True := hf
                    obtain ⟨f5, -⟩ := F
                    clear ho hf
                    go_simp
                    exact hK _ _ (rfl) (Eq.refl _)
                  refine And.intro ?_ ?_
                  · intro a W hR hf ho K hK
                    subst hR
                    have G : a.tmps[13]?.getD undef = _ ∧ True := ho
                    obtain ⟨g13, -⟩ := G
                    have F : a.tmps[163]?.getD undef = _ ∧ True := hf
                    obtain ⟨f6, -⟩ := F
                    clear ho hf
                    go_simp
                    exact hK _ _ (rfl) (Eq.refl _)
                  refine And.intro ?_ ?_
                  · intro a W hR hf ho K hK
                    subst hR
                    have G : a.tmps[14]?.getD undef = _ ∧ True := ho
                    obtain ⟨g14, -⟩ := G
                    have F : a.tmps[163]?.getD undef = _ ∧ True := hf
                    obtain ⟨f6, -⟩ := F
                    clear ho hf
                    go_simp
                    exact hK _ _ (rfl) (Eq.refl _)
                  refine And.intro ?_ ?_
                  · intro a W hR hf ho K hK
                    subst hR
                    have F : a.tmps[164]?.getD undef = _ ∧ a.tmps[165]?.getD undef = _ ∧ a.tmps[163]?.getD undef = _ ∧ True := hf
                    obtain ⟨f7, f8, f6, -⟩ := F
                    clear ho hf
                    go_simp
                    exact hK _ _ (rfl) (Eq.refl _)
                  refine And.intro ?_ ?_
                  · intro a W hR hf ho K hK
                    subst hR
                    have F : a.tmps[166]?.getD undef = _ ∧ a.tmps[163]?.getD undef = _ ∧ True := hf
                    obtain ⟨f9, f6, -⟩ := F
                    clear ho hf
                    go_simp
                    exact hK _ _ (rfl) (Eq.refl _)
                  refine And.intro ?_ ?_
                  · intro a W hR hf ho K hK
                    subst hR
                    have F : a.tmps[167]?.getD undef = _ ∧ a.tmps[163]?.getD undef = _ ∧ True := hf
                    obtain ⟨f10, f6, -⟩ := F
                    clear ho hf
                    go_simp
                    exact hK _ _ (rfl) (Eq.refl _)
                  refine And.intro ?_ ?_
                  · intro a W hR hf ho K hK
                    subst hR
                    have G : a.tmps[0]?.getD undef = _ ∧ True := ho
                    obtain ⟨g0, -⟩ := G
                    have F : a.tmps[163]?.getD undef = _ ∧ True := hf
                    obtain ⟨f6, -⟩ := F
                    clear ho hf
                    go_simp
                    exact hK _ _ (rfl) (Eq.refl _)
                  refine And.intro ?_ ?_
                  · intro a W hR hf ho K hK
                    subst hR
                    have F : a.tmps[169]?.getD undef = _ ∧ a.tmps[163]?.getD undef = _ ∧ True := hf
                    obtain ⟨f12, f6, -⟩ := F
                    clear ho hf
                    go_simp
                    exact hK _ _ (rfl) (Eq.refl _)
                  refine And.intro ?_ ?_
                  · intro a W hR hf ho K hK
                    subst hR
                    have F : a.tmps[170]?.getD undef = _ ∧ a.tmps[163]?.getD undef = _ ∧ True := hf
                    obtain ⟨f13, f6, -⟩ := F
                    clear ho hf
                    go_simp
                    exact hK _ _ (rfl) (Eq.refl _)
                  refine And.intro ?_ ?_
                  · intro a W hR hf ho K hK
                    subst hR
                    have F : a.tmps[171]?.getD undef = _ ∧ a.tmps[163]?.getD undef = _ ∧ True := hf
                    obtain ⟨f14, f6, -⟩ := F
                    clear ho hf
                    go_simp
                    exact hK _ _ (rfl) (Eq.refl _)
                  refine And.intro ?_ ?_
                  · intro a W hR hf ho K hK
                    subst hR
                    have F : a.tmps[168]?.getD undef = _ ∧ a.tmps[172]?.getD undef = _ ∧ a.tmps[163]?.getD undef = _ ∧ True := hf
                    obtain ⟨f11, f15, f6, -⟩ := F
                    clear ho hf
                    go_simp
                    exact hK _ _ (rfl) (Eq.refl _)
                  refine And.intro ?_ ?_
                  · intro a W hR hf ho K hK
                    subst hR
                    have F : a.tmps[163]?.getD undef = _ ∧ a.tmps[173]?.getD undef = _ ∧ True := hf
                    obtain ⟨f6, f16, -⟩ := F
                    clear ho hf
                    go_simp
                    exact hK _ _ (rfl) (Eq.refl _)
                  refine And.intro ?_ ?_
                  · intro a W hR hf ho K hK
                    subst hR
                    have F : a.tmps[174]?.getD undef = _ ∧ a.tmps[163]?.getD undef = _ ∧ True := hf
                    obtain ⟨f17, f6, -⟩ := F
                    clear ho hf
                    go_simp
                    exact hK _ _ (rfl) (Eq.refl _)
                  refine And.intro ?_ ?_
                  · intro a W hR hf ho K hK
                    subst hR
                    have G : a.tmps[13]?.getD undef = _ ∧ True := ho
                    obtain ⟨g13, -⟩ := G
                    have F : a.tmps[175]?.getD undef = _ ∧ True := hf
                    obtain ⟨f18, -⟩ := F
                    clear ho hf
                    go_simp
                    exact hK _ _ (rfl) (Eq.refl _)
                  refine And.intro ?_ ?_
                  · intro a W hR hf ho K hK
                    subst hR
                    have G : a.tmps[14]?.getD undef = _ ∧ True := ho
                    obtain ⟨g14, -⟩ := G
                    have F : a.tmps[175]?.getD undef = _ ∧ True := hf
                    obtain ⟨f18, -⟩ := F
                    clear ho hf
                    go_simp
                    exact hK _ _ (rfl) (Eq.refl _)
                  refine And.intro ?_ ?_
                  · intro a W hR hf ho K hK
                    subst hR
                    have F : a.tmps[176]?.getD undef = _ ∧ a.tmps[177]?.getD undef = _ ∧ a.tmps[175]?.getD undef = _ ∧ True := hf
                    obtain ⟨f19, f20, f18, -⟩ := F
                    clear ho hf
                    go_simp
                    exact hK _ _ (rfl) (Eq.refl _)
                  refine And.intro ?_ ?_
                  · intro a W hR hf ho K hK
                    subst hR
                    have F : a.tmps[178]?.getD undef = _ ∧ a.tmps[175]?.getD undef = _ ∧ True := hf
                    obtain ⟨f21, f18, -⟩ := F
                    clear ho hf
                    go_simp
                    exact hK _ _ (rfl) (Eq.refl _)
                  refine And.intro ?_ ?_
                  · intro a W hR hf ho K hK
                    subst hR
                    have F : a.tmps[179]?.getD undef = _ ∧ a.tmps[175]?.getD undef = _ ∧ True := hf
                    obtain ⟨f22, f18, -⟩ := F
                    clear ho hf
                    go_simp
                    exact hK _ _ (rfl) (Eq.refl _)
                  refine And.intro ?_ ?_
                  · intro a W hR hf ho K hK
                    subst hR
                    have G : a.tmps[13]?.getD undef = _ ∧ True := ho
                    obtain ⟨g13, -⟩ := G
                    have F : a.tmps[175]?.getD undef = _ ∧ True := hf
                    obtain ⟨f18, -⟩ := F
                    clear ho hf
                    go_simp
                    exact hK _ _ (rfl) (Eq.refl _)
                  refine And.intro ?_ ?_
                  · intro a W hR hf ho K hK
                    subst hR
                    have G : a.tmps[14]?.getD undef = _ ∧ True := ho
                    obtain ⟨g14, -⟩ := G
                    have F : a.tmps[175]?.getD undef = _ ∧ True := hf
                    obtain ⟨f18, -⟩ := F
                    clear ho hf
                    go_simp
                    exact hK _ _ (rfl) (Eq.refl _)
                  refine And.intro ?_ ?_
                  · intro a W hR hf ho K hK
                    subst hR
                    have F : a.tmps[181]?.getD undef = _ ∧ a.tmps[182]?.getD undef = _ ∧ a.tmps[175]?.getD undef = _ ∧ True := hf
                    obtain ⟨f24, f25, f18, -⟩ := F
                    clear ho hf
                    go_simp
                    exact hK _ _ (rfl) (Eq.refl _)
                  refine And.intro ?_ ?_
                  · intro a W hR hf ho K hK
                    subst hR
                    have F : a.tmps[183]?.getD undef = _ ∧ a.tmps[175]?.getD undef = _ ∧ True := hf
                    obtain ⟨f26, f18, -⟩ := F
                    clear ho hf
                    go_simp
                    exact hK _ _ (rfl) (Eq.refl _)
                  refine And.intro ?_ ?_
                  · intro a W hR hf ho K hK
                    subst hR
                    have F : a.tmps[184]?.getD undef = _ ∧ a.tmps[175]?.getD undef = _ ∧ True := hf
                    obtain ⟨f27, f18, -⟩ := F
                    clear ho hf
                    go_simp
                    exact hK _ _ (rfl) (Eq.refl _)
                  refine And.intro ?_ ?_
                  · intro a W hR hf ho K hK
                    subst hR
                    have F : a.tmps[180]?.getD undef = _ ∧ a.tmps[185]?.getD undef = _ ∧ a.tmps[175]?.getD undef = _ ∧ True := hf
                    obtain ⟨f23, f28, f18, -⟩ := F
                    clear ho hf
                    go_simp
                    exact hK _ _ (rfl) (Eq.refl _)
                  refine And.intro ?_ ?_
                  · intro a W hR hf ho K hK
                    subst hR
                    have F : a.tmps[175]?.getD undef = _ ∧ a.tmps[186]?.getD undef = _ ∧ True := hf
                    obtain ⟨f18, f29, -⟩ := F
                    clear ho hf
                    go_simp
                    exact hK _ _ (rfl) (Eq.refl _)
                  exact trivial
                case stab =>
                  refine And.intro is_stable ?_
                  refine And.intro is_stable ?_
                  refine And.intro is_stable ?_
                  refine And.intro is_stable ?_
                  refine And.intro is_stable ?_
                  refine And.intro is_stable ?_
                  refine And.intro is_stable ?_
                  refine And.intro is_stable ?_
                  refine And.intro is_stable ?_
                  refine And.intro is_stable ?_
                  refine And.intro is_stable ?_
                  refine And.intro is_stable ?_
                  refine And.intro is_stable ?_
                  refine And.intro is_stable ?_
                  refine And.intro is_stable ?_
                  refine And.intro is_stable ?_
                  refine And.intro is_stable ?_
                  refine And.intro is_stable ?_
                  refine And.intro is_stable ?_
                  refine And.intro is_stable ?_
                  refine And.intro is_stable ?_
                  refine And.intro is_stable ?_
                  refine And.intro is_stable ?_
                  refine And.intro is_stable ?_
                  refine And.intro is_stable ?_
                  refine And.intro is_stable ?_
                  refine And.intro is_stable ?_
                  refine And.intro is_stable ?_
                  refine And.intro is_stable ?_
                  refine And.intro is_stable ?_
                  refine And.intro is_stable ?_
                  exact trivial
                case ends =>
                  intro vals W hR hall
                  subst hR
                  have e187 : vals 187 = _ := hall 30 (by decide)
                  clear hall
                  simp only [fill, List.setIfInBounds_toArray, List.set_cons_succ, List.set_cons_zero, e187]
                  go_wp2_with fail
                  exact ⟨⟨x + 1, _, by omega, by simp, rfl⟩, by simp [intOf]; omega⟩
          · go_wp2_with fail
            go_loopw [12, 16] (fun s i wr => ∃ y q : Nat, y ≤ H.length ∧ i = .int .i64 (y : Int) ∧ s = .int .i64 (sumR R + sumR (U.take y)) ∧ wr = w8.drewN q) (fun _ i _ => H.length - (intOf i).toNat)
            case atStart => exact ⟨0, q, Nat.zero_le _, rfl, i64_num (by simp [sumR]), rfl⟩
            case round =>
              obtain ⟨y, q, hy, rfl, rfl, rfl⟩ := hrel
              by_cases hyl : y < H.length
              · have hyU : y < U.length := by omega
                obtain ⟨b8, o8, rfl, -, y0, y1⟩ := own_at hA8 hyU
                have hb := sumR_small (HUF.out.take y)
                have hff := HUF.out U[y] (List.getElem_mem hyU)
                have hl16 : ((U.take y).length : Int) ≤ 200 := by simp; omega
                have hw1 : IntKind.i64.wrap (sumR R + sumR (U.take y) + U[y].2) = sumR R + sumR (U.take y) + U[y].2 := IntWalk.i64_in _ (by obtain ⟨f0, f1, f2, f3⟩ := hff; omega)
                have hw2 : IntKind.i64.wrap (sumR R + sumR (U.take y) + U[y].2 - U[y].1) = sumR R + sumR (U.take (y + 1)) := by
                  rw [sumR_take hyU, IntWalk.i64_in _ (by obtain ⟨f0, f1, f2, f3⟩ := hff; omega)]
                  omega
                clear hb hff hl16
                go_wp2_with fail
                refine wp_region_stage (fun _ _ : World => True) [] [(fun (_ : Nat → Value) (W : World) => W = w8.drewN (q + 1))] [194, 195, 196, 197, 198, 199, 200, 201, 202, 203, 204, 205, 206, 12] (by kernel_rfl) (fun _ => trivial) (fun _ _ _ _ _ => trivial) (by kernel_rfl) (by kernel_rfl) (by kernel_rfl) ?start ?_
                case start => show _ = _; simp
                apply ex_is; apply Exists.intro
                apply ex_is; apply Exists.intro
                apply ex_is; apply Exists.intro
                apply ex_is; apply Exists.intro
                apply ex_is; apply Exists.intro
                apply ex_is; apply Exists.intro
                apply ex_is; apply Exists.intro
                apply ex_is; apply Exists.intro
                apply ex_is; apply Exists.intro
                apply ex_is; apply Exists.intro
                apply ex_is; apply Exists.intro
                apply ex_is; apply Exists.intro
                apply ex_is; apply Exists.intro
                apply ex_is; apply Exists.intro
                refine ⟨[], ⟨?steps, ?stab, ?ends⟩⟩
                case steps =>
                  refine And.intro (stepC_pure (fun _ => trivial) (by kernel_rfl) ?_) ?_
                  · intro a W hR hf ho K hK
                    have G : a.tmps[12]?.getD undef = _ ∧ True := ho
                    obtain ⟨g12, -⟩ := G
                    clear ho hf
                    go_simp
                    exact hK _ (Eq.refl _)
                  refine And.intro (stepC_pure (fun _ => trivial) (by kernel_rfl) ?_) ?_
                  · intro a W hR hf ho K hK
                    have G : a.tmps[7]?.getD undef = _ ∧ True := ho
                    obtain ⟨g7, -⟩ := G
                    clear ho hf
                    go_simp
                    exact hK _ (Eq.refl _)
                  refine And.intro (stepC_pure (fun _ => trivial) (by kernel_rfl) ?_) ?_
                  · intro a W hR hf ho K hK
                    have G : a.tmps[16]?.getD undef = _ ∧ True := ho
                    obtain ⟨g16, -⟩ := G
                    clear ho hf
                    go_simp
                    exact hK _ (Eq.refl _)
                  refine And.intro (stepC_pure (fun _ => trivial) (by kernel_rfl) ?_) ?_
                  · intro a W hR hf ho K hK
                    have F : a.tmps[195]?.getD undef = _ ∧ a.tmps[196]?.getD undef = _ ∧ True := hf
                    obtain ⟨f1, f2, -⟩ := F
                    clear ho hf
                    go_simp
                    exact hK _ (Eq.refl _)
                  refine And.intro (stepC_pure (fun _ => trivial) (by kernel_rfl) ?_) ?_
                  · intro a W hR hf ho K hK
                    have F : a.tmps[197]?.getD undef = _ ∧ True := hf
                    obtain ⟨f3, -⟩ := F
                    clear ho hf
                    go_simp
                    exact hK _ (Eq.refl _)
                  refine And.intro (stepC_stay (pss := []) (by kernel_rfl) rfl 0 [] [] (by kernel_rfl) (by kernel_rfl) ?_) ?_
                  · intro a W uu hu hR hS hf ho K hK
                    replace hS : (fun (_ : Nat → Value) (W : World) => W = w8.drewN (q + 1)) uu W := hS
                    replace hK := fun (v : Value) (w' : World) (h1 : (fun _ _ : World => True) W w') h2 (h3 : (fun (_ : Nat → Value) (W : World) => W = w8.drewN (q + 1)) uu w') => hK v w' h1 h2 h3
                    have F : a.tmps[198]?.getD undef = _ ∧ True := hf
                    obtain ⟨f4, -⟩ := F
                    clear hu
                    clear ho hf
                    obtain rfl := hS
                    go_simp
                    exact hK _ _ trivial (Eq.refl _) rfl
                  refine And.intro (stepC_pure (fun _ => trivial) (by kernel_rfl) ?_) ?_
                  · intro a W hR hf ho K hK
                    have F : a.tmps[194]?.getD undef = _ ∧ a.tmps[199]?.getD undef = _ ∧ True := hf
                    obtain ⟨f0, f5, -⟩ := F
                    clear ho hf
                    go_simp
                    exact hK _ (Eq.refl _)
                  refine And.intro (stepC_pure (fun _ => trivial) (by kernel_rfl) ?_) ?_
                  · intro a W hR hf ho K hK
                    have G : a.tmps[7]?.getD undef = _ ∧ True := ho
                    obtain ⟨g7, -⟩ := G
                    clear ho hf
                    go_simp
                    exact hK _ (Eq.refl _)
                  refine And.intro (stepC_pure (fun _ => trivial) (by kernel_rfl) ?_) ?_
                  · intro a W hR hf ho K hK
                    have G : a.tmps[16]?.getD undef = _ ∧ True := ho
                    obtain ⟨g16, -⟩ := G
                    clear ho hf
                    go_simp
                    exact hK _ (Eq.refl _)
                  refine And.intro (stepC_pure (fun _ => trivial) (by kernel_rfl) ?_) ?_
                  · intro a W hR hf ho K hK
                    have F : a.tmps[201]?.getD undef = _ ∧ a.tmps[202]?.getD undef = _ ∧ True := hf
                    obtain ⟨f7, f8, -⟩ := F
                    clear ho hf
                    go_simp
                    exact hK _ (Eq.refl _)
                  refine And.intro (stepC_pure (fun _ => trivial) (by kernel_rfl) ?_) ?_
                  · intro a W hR hf ho K hK
                    have F : a.tmps[203]?.getD undef = _ ∧ True := hf
                    obtain ⟨f9, -⟩ := F
                    clear ho hf
                    go_simp
                    exact hK _ (Eq.refl _)
                  refine And.intro (stepC_stay (pss := []) (by kernel_rfl) rfl 0 [] [] (by kernel_rfl) (by kernel_rfl) ?_) ?_
                  · intro a W uu hu hR hS hf ho K hK
                    replace hS : (fun (_ : Nat → Value) (W : World) => W = w8.drewN (q + 1)) uu W := hS
                    replace hK := fun (v : Value) (w' : World) (h1 : (fun _ _ : World => True) W w') h2 (h3 : (fun (_ : Nat → Value) (W : World) => W = w8.drewN (q + 1)) uu w') => hK v w' h1 h2 h3
                    have F : a.tmps[204]?.getD undef = _ ∧ True := hf
                    obtain ⟨f10, -⟩ := F
                    clear hu
                    clear ho hf
                    obtain rfl := hS
                    go_simp
                    exact hK _ _ trivial (Eq.refl _) rfl
                  refine And.intro (stepC_pure (fun _ => trivial) (by kernel_rfl) ?_) ?_
                  · intro a W hR hf ho K hK
                    have F : a.tmps[200]?.getD undef = _ ∧ a.tmps[205]?.getD undef = _ ∧ True := hf
                    obtain ⟨f6, f11, -⟩ := F
                    clear ho hf
                    go_simp
                    exact hK _ (Eq.refl _)
                  refine And.intro (stepC_pure (fun _ => trivial) (by kernel_rfl) ?_) ?_
                  · intro a W hR hf ho K hK
                    have F : a.tmps[206]?.getD undef = _ ∧ a.tmps[194]?.getD undef = _ ∧ a.tmps[195]?.getD undef = _ ∧ a.tmps[196]?.getD undef = _ ∧ a.tmps[197]?.getD undef = _ ∧ a.tmps[198]?.getD undef = _ ∧ a.tmps[199]?.getD undef = _ ∧ a.tmps[200]?.getD undef = _ ∧ a.tmps[201]?.getD undef = _ ∧ a.tmps[202]?.getD undef = _ ∧ a.tmps[203]?.getD undef = _ ∧ a.tmps[204]?.getD undef = _ ∧ a.tmps[205]?.getD undef = _ ∧ a.tmps[206]?.getD undef = _ ∧ True := hf
                    obtain ⟨f12, f0, f1, f2, f3, f4, f5, f6, f7, f8, f9, f10, f11, -, -⟩ := F
                    clear ho hf
                    go_simp
                    exact hK _ (Eq.refl _)
                  exact trivial
                case stab =>
                  refine And.intro is_stable ?_
                  refine And.intro is_stable ?_
                  refine And.intro is_stable ?_
                  refine And.intro is_stable ?_
                  refine And.intro is_stable ?_
                  refine And.intro is_stable ?_
                  refine And.intro is_stable ?_
                  refine And.intro is_stable ?_
                  refine And.intro is_stable ?_
                  refine And.intro is_stable ?_
                  refine And.intro is_stable ?_
                  refine And.intro is_stable ?_
                  refine And.intro is_stable ?_
                  refine And.intro is_stable ?_
                  exact trivial
                case ends =>
                  intro vals W uu hu hR hS hall
                  replace hS : (fun (_ : Nat → Value) (W : World) => W = w8.drewN (q + 1)) uu W := hS
                  clear hu
                  have e12 : vals 12 = _ := hall 13 (by decide)
                  clear hall
                  simp only [fill, List.setIfInBounds_toArray, List.set_cons_succ, List.set_cons_zero, e12]
                  obtain rfl := hS
                  go_wp2_with fail
                  exact ⟨⟨y + 1, _, hyl, by simp, by first | rfl | exact i64_num ((congrArg (fun y => IntKind.i64.wrap (y - _)) hw1).trans hw2), rfl⟩, by simp [intOf]; omega⟩
              · obtain rfl : y = H.length := by omega
                have hfin : sumR R + sumR (U.take H.length) = 16 * n := by
                  rw [List.take_of_length_le (by omega), hsum]
                  have := HS.out
                  have := HZ.out
                  omega
                go_wp2_with fail
                have P9 := P8.ext (Ext.drewN (Below.refl _ _) q)
                rw [HUE.out] at P9
                exact ⟨⟨j + 1, v, R, H, by omega, by simp, P9, by omega, HH.out, HS.out⟩, by simp [intOf]; omega⟩
    · obtain rfl : j = l.length := by omega
      go_wp2_with fail
      go_ret
      exact ⟨rfl, hP.e⟩
set_option maxHeartbeats 4000000 in
set_option maxRecDepth 20000 in
theorem apart_long (n : Int) (A : Option Addr) (c : Nat) (l : List Op12) (w : World) (n0 : 0 ≤ n) (n1 : n < 256) (hl : 200 < l.length) :
    Calls Try.prog 4 #[.int .u8 n, .slice A l.length c] w fun e w' => e = .returned (.bool true) ∧ Ext w w' := by
  have hmb : mayBe 32 (32 + 16 * n) := ⟨by omega, by omega, by omega, by omega, by omega⟩
  go_enter Try.func4, Try.ntmps4
  go_wp2_with fail
  refine (head_any _).mono ?_
  rintro e w1 ⟨rfl, b1⟩
  go_wp2_with fail
  refine (new_yes 32 (32 + 16 * n) _ hmb).mono ?_
  rintro e w2 ⟨b2, p, v, rfl, hF⟩
  have E2 : Ext w w2 := b1.then b2
  have hg : decide ((l.length : Int) > 200) = true := decide_eq_true (by omega)
  clear b1 b2 hF
  go_wp2_with fail
  go_ret
  exact ⟨rfl, E2⟩
theorem apart_any12 (n : Int) (A : Option Addr) (c : Nat) (l : List Op12) (w : World) (h : Arr w A (opCells l)) (n0 : 0 ≤ n) (n1 : n < 256) (hwf : ∀ x ∈ l, OpWf x) :
    Calls Try.prog 4 #[.int .u8 n, .slice A l.length c] w fun e w' => e = .returned (.bool true) ∧ Ext w w' := by
  by_cases hl : l.length ≤ 200
  · exact apart_short n A c l w h n0 n1 hwf hl
  · exact apart_long n A c l w n0 n1 (by omega)
end Go.Proofs.Ytipnkjegiiphnaa

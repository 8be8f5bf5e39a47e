/- ExtentRuns: its walk. -/
import Derived.Test.YtipnkjegiiphnaaOne12
import Derived.Test.YtipnkjegiiphnaaPhi3
set_option linter.all false
namespace Go.Proofs.Ytipnkjegiiphnaa
open Go.RowKit

attribute [local go_sem] seen dstOf boolOf
set_option maxHeartbeats 4000000 in
set_option maxRecDepth 20000 in
theorem runs_short (n t : Int) (A : Option Addr) (c : Nat) (l : List Int) (w : World) (h : Arr w A (l.map (.int .u8 ·))) (n0 : 0 ≤ n) (n1 : n < 256) (t0 : 0 ≤ t) (t1 : t < 256) (hwf : ∀ x ∈ l, 0 ≤ x ∧ x < 256) (hl : l.length ≤ 200) :
    Calls Try.prog 5 #[.int .u8 n, .slice A l.length c, .int .u8 t] w fun e w' => e = .returned (.bool true) ∧ Ext w w' := by
  obtain ⟨z, hz⟩ : ∃ z, z = 16 * (1 + n) := ⟨_, rfl⟩
  have hmb : mayBe 0 z := ⟨by omega, by omega, by omega, by omega, by omega⟩
  have z0 : 0 < z := by omega
  have HZ := Lib.hid hz
  clear hz
  obtain ⟨i0, hi, hz0, hz1, hz2⟩ := info_parts infoPair
  go_enter Try.func5, Try.ntmps5
  go_wp2_with fail
  refine (head_any _).mono ?_
  rintro e w1 ⟨rfl, b1⟩
  go_wp2_with fail
  rw [show (16 * (1 + n) : Int) = z from HZ.out.symm]
  refine (new_yes 0 z _ hmb).mono ?_
  rintro e w2 ⟨b2, p, v, rfl, hF⟩
  have hbp : w.heap.size ≤ w1.heap.size := b1.size
  have P2 : Mem1 w w2 p 0 z v w1.heap.size (startR 0 z) (.slice none 0 0) 0 [] := ⟨hF, World.ownsRow_nil _ _ _ _, b1.then b2, hbp⟩
  have hg : decide ((l.length : Int) > 200) = false := decide_eq_false (by omega)
  have HWF := wf_start hmb
  clear b1 b2 hF hbp
  go_wp2_with fail
  go_loopw [10, 11] (fun hv i wr => ∃ (j : Nat) (v : Value) (R H : List Run), j ≤ l.length ∧ i = .int .i64 (j : Int) ∧ Mem1 w wr p 0 z v w1.heap.size R hv H.length H ∧ H.length ≤ j ∧ Held 0 z R H ∧ AllIn 0 z R H) (fun _ i _ => l.length - (intOf i).toNat)
  case atStart => exact ⟨0, v, _, [], Nat.zero_le _, rfl, P2, Nat.le_refl _, held_nil HWF, all_start z0⟩
  case round =>
    clear P2
    obtain ⟨j, v, R, H, hj, rfl, hP, hHj, hH, hA⟩ := hrel
    by_cases hlt : j < l.length
    · obtain ⟨y, hy⟩ : ∃ y, y = l[j] := ⟨_, rfl⟩
      obtain ⟨b1, o1, rfl, -, q1⟩ := (h.ext hP.e).open (by simp; omega)
      have x0 : wr.cell? ⟨b1, o1 + j, none⟩ = some (.int .u8 y) := by have := q1 j (by simpa using hlt); rw [List.getElem_map] at this; rw [hy]; exact this
      clear q1
      have hyw := hwf l[j] (List.getElem_mem hlt)
      rw [← hy] at hyw
      clear hy
      obtain ⟨y0, y1⟩ := hyw
      obtain ⟨S, hS⟩ : ∃ S, S = 16 * (1 + y % 8) := ⟨_, rfl⟩
      have s1 : 16 ≤ S := by omega
      have s2 : S ≤ 128 := by omega
      have HSS := Lib.hid hS
      clear hS
      have T1 := Lib.hid (take_one hP S)
      have HT := Lib.hid (fun ht => held_take (n := S) hH ht)
      have HA := Lib.hid (fun ht => all_take (n := S) hH.wf hA ht)
      have HS := Lib.hid (fun ht => take_same (R := R) (n := S) ht)
      have HM := Lib.hid (fun ht => take_may (n := S) hH.wf ht)
      have HH := Lib.hid hH
      have HHA := Lib.hid hA
      clear hP hH hA
      go_wp2_with fail
      rw [show (16 * (1 + y % 8) : Int) = S from HSS.out.symm]
      refine T1.out.mono ?_
      rintro e w4 ⟨rfl, v4, P4⟩
      clear T1
      have hsz := P4.e.size
      have hns : H.length + 1 ≤ 140737488351232 := by omega
      generalize takeR R S = X at *
      obtain ⟨R', at', is⟩ := X
      simp only at *
      cases is with
      | false =>
        have hR := HS.out rfl
        subst hR
        clear HT HA HS HM
        go_wp2_with fail
        all_goals exact ⟨⟨j + 1, v4, R', H, by omega, by simp, P4, by omega, HH.out, HHA.out⟩, by simp [intOf]; omega⟩
      | true =>
        obtain ⟨-, -, m3, m4, m5, m6⟩ := HM.out rfl
        have hle : decide (at' + S ≤ z) = true := decide_eq_true (by omega)
        have hsum : at' + S ≤ 4096 := by have := HZ.out; omega
        clear HS HM
        go_wp2_with (first
          | (at_builtin; refine wpList_append_own _ rfl (.tmp 71) (.tmp 75) 35 rfl w.heap.size 38 i0 (.agg #[.int .i64 0, .int .i64 0]) 2 16 Try.underlying35 hi hz0 hz1 hz2 rfl (by decide) _ _ _ rfl (P4.row.alloc _) ⟨w4.heap.size, 0, none⟩ 1 1 (cell2 (at', S)) rfl rfl (cells_new _ _ _ _ rfl) (by simp [Value.oneCell']) (by unfold maxLen; omega) (by omega) (by simp; omega) ?_; intro v' w6 hown' hgrow hnil))
        exact ⟨⟨j + 1, v4, R', H ++ [(at', S)], by omega, by simp, by rw [List.length_append]; exact P4.grown hgrow hown', by simp; omega, HT.out rfl, HA.out rfl⟩, by simp [intOf]; omega⟩
    · obtain rfl : j = l.length := by omega
      have hHl : H.length ≤ 200 := by omega
      have hM := mixed_of hH hA
      obtain ⟨A8, c8, rfl, hc8, -⟩ := Arr.own hP.row
      clear hH hA
      go_wp2_with fail
      go_loopw [15] (fun i wr => ∃ (k : Nat) (v : Value) (Q : List Run), k ≤ H.length ∧ i = .int .i64 (k : Int) ∧ Mem1 w wr p 0 z v w1.heap.size Q (.slice A8 H.length c8) H.length H ∧ Mixed 0 z Q H) (fun i _ => H.length - (intOf i).toNat)
      case atStart => exact ⟨0, v, R, Nat.zero_le _, rfl, hP, hM⟩
      case round =>
        clear hP hM
        obtain ⟨k, v, Q, hk, rfl, hP, hM⟩ := hrel
        by_cases hlt : k < H.length
        · obtain ⟨r, hr⟩ : ∃ r : Nat, ((k : Int) * 7 + t) % (H.length : Int) = (r : Int) := ⟨(((k : Int) * 7 + t) % (H.length : Int)).toNat, by rw [Int.toNat_of_nonneg (Int.emod_nonneg _ (by omega))]⟩
          have hrl : r < H.length := by have := Int.emod_lt_of_pos ((k : Int) * 7 + t) (b := (H.length : Int)) (by omega); omega
          obtain ⟨b1, o1, rfl, -, x0, x1⟩ := own_at (own_arr hP.row) hrl
          obtain ⟨m1, -, -⟩ := mixed_give hM hrl
          have C1 := Lib.hid fun W (hw : Ext wr W) => give_one (hP.ext hw) hM.wf H[r].1 H[r].2
          have hkk : (k : Int) ≤ 200 := by omega
          have hne : (H.length : Int) ≠ 0 := by omega
          clear hM hP
          go_wp2_with fail
          refine (C1.out _ (by repeat first | (with_reducible exact Below.refl _ _) | (with_reducible apply Ext.alloc) | (with_reducible apply Ext.drew) | (with_reducible apply Ext.drewN) | (with_reducible refine Ext.set ?_ (by simp)))).mono ?_
          rintro e w4 ⟨rfl, v4, P4⟩
          clear C1 x0 x1 hr
          generalize giveR 0 z Q H[r].1 H[r].2 = G at *
          obtain ⟨Q', gb⟩ := G
          simp only at *
          go_wp2_with fail
          refine (runs_free _ _ _ _ _ _ _ P4.f).mono ?_
          rintro e w5 ⟨v5, rfl, ho5, e5⟩
          have P5 := P4.ext e5
          obtain ⟨A5, c5, rfl, hc5, -⟩ := Arr.own ho5
          have a5 := own_arr ho5
          have hQl := P5.f.len
          have HF := Lib.hid P5.f.fine
          have HM := Lib.hid m1
          clear P4 e5 ho5 m1
          go_wp2_with fail
          go_loopw [18, 19] (fun s i wr => ∃ x m : Nat, x ≤ Q'.length ∧ i = .int .i64 (x : Int) ∧ s = .int .i64 (sumR (Q'.take x)) ∧ wr = w5.drewN m) (fun _ i _ => Q'.length - (intOf i).toNat)
          case atStart => exact ⟨0, 0, Nat.zero_le _, rfl, rfl, rfl⟩
          case round =>
            obtain ⟨x, m, hx, rfl, rfl, rfl⟩ := hrel
            by_cases hxl : x < Q'.length
            · obtain ⟨b5, o5, rfl, -, x0, x1⟩ := own_at a5 hxl
              have hw := wf_each HM.out.wf hxl
              have hge : decide (Q'[x].1 ≥ Q'[x].2) = false := decide_eq_false (by omega)
              have hb := sumR_small (HF.out.take x)
              have hff := HF.out Q'[x] (List.getElem_mem hxl)
              have hl16 : ((Q'.take x).length : Int) ≤ 2000000 := by simp; omega
              have hw1 : IntKind.i64.wrap (sumR (Q'.take x) + Q'[x].2) = sumR (Q'.take x) + Q'[x].2 := IntWalk.i64_in _ (by obtain ⟨f0, f1, f2, f3⟩ := hff; omega)
              have hw2 : IntKind.i64.wrap (sumR (Q'.take x) + Q'[x].2 - Q'[x].1) = sumR (Q'.take (x + 1)) := by
                rw [sumR_take hxl, IntWalk.i64_in _ (by obtain ⟨f0, f1, f2, f3⟩ := hff; omega)]
                omega
              clear hw hb hff hl16
              cases x with
              | zero =>
                have hgt : decide (((0 : Nat) : Int) > 0) = false := rfl
                simp only [Nat.zero_mul, Nat.add_zero] at x0 x1
                go_wp2_with fail
                refine wp_region_obl Eq [108, 109, 110, 111, 112, 113, 114, 115, 116, 117, 118, 119, 120, 121, 122, 123, 124, 125, 126, 127, 128, 129, 130, 131, 132, 133, 134, 135, 136] (by kernel_rfl) (fun _ => rfl) (fun _ _ _ => Eq.trans) (by kernel_rfl) (by kernel_rfl) ?_
                apply ex_is; apply Exists.intro
                apply ex_is; apply Exists.intro
                apply ex_is; apply Exists.intro
                apply ex_is; apply Exists.intro
                apply ex_is; apply Exists.intro
                apply ex_is; apply Exists.intro
                apply ex_is; apply Exists.intro
                apply ex_is; apply Exists.intro
                apply ex_is; apply Exists.intro
                apply ex_is; apply Exists.intro
                apply ex_is; apply Exists.intro
                apply ex_is; apply Exists.intro
                apply ex_is; apply Exists.intro
                apply ex_is; apply Exists.intro
                apply ex_is; apply Exists.intro
                apply ex_is; apply Exists.intro
                apply ex_is; apply Exists.intro
                apply ex_is; apply Exists.intro
                apply ex_is; apply Exists.intro
                apply ex_is; apply Exists.intro
                apply ex_is; apply Exists.intro
                apply ex_is; apply Exists.intro
                apply ex_is; apply Exists.intro
                apply ex_is; apply Exists.intro
                apply ex_is; apply Exists.intro
                apply ex_is; apply Exists.intro
                apply ex_is; apply Exists.intro
                apply ex_is; apply Exists.intro
                apply ex_is; apply Exists.intro
                refine ⟨[], ⟨?steps, ?stab, ?ends⟩⟩
                case steps =>
                  refine And.intro ?_ ?_
                  · intro a W hR hf ho K hK
                    subst hR
                    have G : a.tmps[19]?.getD undef = _ ∧ True := ho
                    obtain ⟨g19, -⟩ := G
                    clear ho hf
                    go_simp
                    exact hK _ _ (rfl) (Eq.refl _)
                  refine And.intro ?_ ?_
                  · intro a W hR hf ho K hK
                    subst hR
                    have F : a.tmps[108]?.getD undef = _ ∧ True := hf
                    obtain ⟨f0, -⟩ := F
                    clear ho hf
                    go_simp
                    exact hK _ _ (rfl) (Eq.refl _)
                  refine And.intro ?_ ?_
                  · intro a W hR hf ho K hK
                    subst hR
                    have F : a.tmps[109]?.getD undef = _ ∧ True := hf
                    obtain ⟨f1, -⟩ := F
                    clear ho hf
                    go_simp
                    exact hK _ _ (rfl) (Eq.refl _)
                  refine And.intro ?_ ?_
                  · intro a W hR hf ho K hK
                    subst hR
                    have G : a.tmps[17]?.getD undef = _ ∧ True := ho
                    obtain ⟨g17, -⟩ := G
                    have F : a.tmps[110]?.getD undef = _ ∧ True := hf
                    obtain ⟨f2, -⟩ := F
                    clear ho hf
                    go_simp
                    exact hK _ _ (rfl) (Eq.refl _)
                  refine And.intro ?_ ?_
                  · intro a W hR hf ho K hK
                    subst hR
                    have G : a.tmps[19]?.getD undef = _ ∧ True := ho
                    obtain ⟨g19, -⟩ := G
                    have F : a.tmps[110]?.getD undef = _ ∧ True := hf
                    obtain ⟨f2, -⟩ := F
                    clear ho hf
                    go_simp
                    exact hK _ _ (rfl) (Eq.refl _)
                  refine And.intro ?_ ?_
                  · intro a W hR hf ho K hK
                    subst hR
                    have F : a.tmps[111]?.getD undef = _ ∧ a.tmps[112]?.getD undef = _ ∧ a.tmps[110]?.getD undef = _ ∧ True := hf
                    obtain ⟨f3, f4, f2, -⟩ := F
                    clear ho hf
                    go_simp
                    exact hK _ _ (rfl) (Eq.refl _)
                  refine And.intro ?_ ?_
                  · intro a W hR hf ho K hK
                    subst hR
                    have F : a.tmps[113]?.getD undef = _ ∧ a.tmps[110]?.getD undef = _ ∧ True := hf
                    obtain ⟨f5, f2, -⟩ := F
                    clear ho hf
                    go_simp
                    exact hK _ _ (rfl) (Eq.refl _)
                  refine And.intro ?_ ?_
                  · intro a W hR hf ho K hK
                    subst hR
                    have F : a.tmps[114]?.getD undef = _ ∧ a.tmps[110]?.getD undef = _ ∧ True := hf
                    obtain ⟨f6, f2, -⟩ := F
                    clear ho hf
                    go_simp
                    exact hK _ _ (rfl) (Eq.refl _)
                  refine And.intro ?_ ?_
                  · intro a W hR hf ho K hK
                    subst hR
                    have G : a.tmps[17]?.getD undef = _ ∧ True := ho
                    obtain ⟨g17, -⟩ := G
                    have F : a.tmps[110]?.getD undef = _ ∧ True := hf
                    obtain ⟨f2, -⟩ := F
                    clear ho hf
                    go_simp
                    exact hK _ _ (rfl) (Eq.refl _)
                  refine And.intro ?_ ?_
                  · intro a W hR hf ho K hK
                    subst hR
                    have G : a.tmps[19]?.getD undef = _ ∧ True := ho
                    obtain ⟨g19, -⟩ := G
                    have F : a.tmps[110]?.getD undef = _ ∧ True := hf
                    obtain ⟨f2, -⟩ := F
                    clear ho hf
                    go_simp
                    exact hK _ _ (rfl) (Eq.refl _)
                  refine And.intro ?_ ?_
                  · intro a W hR hf ho K hK
                    subst hR
                    have F : a.tmps[117]?.getD undef = _ ∧ a.tmps[110]?.getD undef = _ ∧ True := hf
                    obtain ⟨f9, f2, -⟩ := F
                    clear ho hf
                    go_simp
                    exact hK _ _ (rfl) (Eq.refl _)
                  refine And.intro ?_ ?_
                  · intro a W hR hf ho K hK
                    subst hR
                    have F : a.tmps[116]?.getD undef = _ ∧ a.tmps[118]?.getD undef = _ ∧ a.tmps[110]?.getD undef = _ ∧ True := hf
                    obtain ⟨f8, f10, f2, -⟩ := F
                    clear ho hf
                    go_simp
                    exact hK _ _ (rfl) (Eq.refl _)
                  refine And.intro ?_ ?_
                  · intro a W hR hf ho K hK
                    subst hR
                    have F : a.tmps[119]?.getD undef = _ ∧ a.tmps[110]?.getD undef = _ ∧ True := hf
                    obtain ⟨f11, f2, -⟩ := F
                    clear ho hf
                    go_simp
                    exact hK _ _ (rfl) (Eq.refl _)
                  refine And.intro ?_ ?_
                  · intro a W hR hf ho K hK
                    subst hR
                    have F : a.tmps[120]?.getD undef = _ ∧ a.tmps[110]?.getD undef = _ ∧ True := hf
                    obtain ⟨f12, f2, -⟩ := F
                    clear ho hf
                    go_simp
                    exact hK _ _ (rfl) (Eq.refl _)
                  refine And.intro ?_ ?_
                  · intro a W hR hf ho K hK
                    subst hR
                    have F : a.tmps[115]?.getD undef = _ ∧ a.tmps[121]?.getD undef = _ ∧ a.tmps[110]?.getD undef = _ ∧ True := hf
                    obtain ⟨f7, f13, f2, -⟩ := F
                    clear ho hf
                    go_simp
                    exact hK _ _ (rfl) (Eq.refl _)
                  refine And.intro ?_ ?_
                  · intro a W hR hf ho K hK
                    subst hR
                    have F : a.tmps[110]?.getD undef = _ ∧ a.tmps[122]?.getD undef = _ ∧ True := hf
                    obtain ⟨f2, f14, -⟩ := F
                    clear ho hf
                    go_simp
                    exact hK _ _ (rfl) (Eq.refl _)
                  refine And.intro ?_ ?_
                  · intro a W hR hf ho K hK
                    subst hR
                    have F : a.tmps[123]?.getD undef = _ ∧ a.tmps[110]?.getD undef = _ ∧ True := hf
                    obtain ⟨f15, f2, -⟩ := F
                    clear ho hf
                    go_simp
                    exact hK _ _ (rfl) (Eq.refl _)
                  refine And.intro ?_ ?_
                  · intro a W hR hf ho K hK
                    subst hR
                    have G : a.tmps[17]?.getD undef = _ ∧ True := ho
                    obtain ⟨g17, -⟩ := G
                    have F : a.tmps[124]?.getD undef = _ ∧ True := hf
                    obtain ⟨f16, -⟩ := F
                    clear ho hf
                    go_simp
                    exact hK _ _ (rfl) (Eq.refl _)
                  refine And.intro ?_ ?_
                  · intro a W hR hf ho K hK
                    subst hR
                    have G : a.tmps[19]?.getD undef = _ ∧ True := ho
                    obtain ⟨g19, -⟩ := G
                    have F : a.tmps[124]?.getD undef = _ ∧ True := hf
                    obtain ⟨f16, -⟩ := F
                    clear ho hf
                    go_simp
                    exact hK _ _ (rfl) (Eq.refl _)
                  refine And.intro ?_ ?_
                  · intro a W hR hf ho K hK
                    subst hR
                    have F : a.tmps[125]?.getD undef = _ ∧ a.tmps[126]?.getD undef = _ ∧ a.tmps[124]?.getD undef = _ ∧ True := hf
                    obtain ⟨f17, f18, f16, -⟩ := F
                    clear ho hf
                    go_simp
                    exact hK _ _ (rfl) (Eq.refl _)
                  refine And.intro ?_ ?_
                  · intro a W hR hf ho K hK
                    subst hR
                    have F : a.tmps[127]?.getD undef = _ ∧ a.tmps[124]?.getD undef = _ ∧ True := hf
                    obtain ⟨f19, f16, -⟩ := F
                    clear ho hf
                    go_simp
                    exact hK _ _ (rfl) (Eq.refl _)
                  refine And.intro ?_ ?_
                  · intro a W hR hf ho K hK
                    subst hR
                    have F : a.tmps[128]?.getD undef = _ ∧ a.tmps[124]?.getD undef = _ ∧ True := hf
                    obtain ⟨f20, f16, -⟩ := F
                    clear ho hf
                    go_simp
                    exact hK _ _ (rfl) (Eq.refl _)
                  refine And.intro ?_ ?_
                  · intro a W hR hf ho K hK
                    subst hR
                    have G : a.tmps[17]?.getD undef = _ ∧ True := ho
                    obtain ⟨g17, -⟩ := G
                    have F : a.tmps[124]?.getD undef = _ ∧ True := hf
                    obtain ⟨f16, -⟩ := F
                    clear ho hf
                    go_simp
                    exact hK _ _ (rfl) (Eq.refl _)
                  refine And.intro ?_ ?_
                  · intro a W hR hf ho K hK
                    subst hR
                    have G : a.tmps[19]?.getD undef = _ ∧ True := ho
                    obtain ⟨g19, -⟩ := G
                    have F : a.tmps[124]?.getD undef = _ ∧ True := hf
                    obtain ⟨f16, -⟩ := F
                    clear ho hf
                    go_simp
                    exact hK _ _ (rfl) (Eq.refl _)
                  refine And.intro ?_ ?_
                  · intro a W hR hf ho K hK
                    subst hR
                    have F : a.tmps[130]?.getD undef = _ ∧ a.tmps[131]?.getD undef = _ ∧ a.tmps[124]?.getD undef = _ ∧ True := hf
                    obtain ⟨f22, f23, f16, -⟩ := F
                    clear ho hf
                    go_simp
                    exact hK _ _ (rfl) (Eq.refl _)
                  refine And.intro ?_ ?_
                  · intro a W hR hf ho K hK
                    subst hR
                    have F : a.tmps[132]?.getD undef = _ ∧ a.tmps[124]?.getD undef = _ ∧ True := hf
                    obtain ⟨f24, f16, -⟩ := F
                    clear ho hf
                    go_simp
                    exact hK _ _ (rfl) (Eq.refl _)
                  refine And.intro ?_ ?_
                  · intro a W hR hf ho K hK
                    subst hR
                    have F : a.tmps[133]?.getD undef = _ ∧ a.tmps[124]?.getD undef = _ ∧ True := hf
                    obtain ⟨f25, f16, -⟩ := F
                    clear ho hf
                    go_simp
                    exact hK _ _ (rfl) (Eq.refl _)
                  refine And.intro ?_ ?_
                  · intro a W hR hf ho K hK
                    subst hR
                    have F : a.tmps[129]?.getD undef = _ ∧ a.tmps[134]?.getD undef = _ ∧ a.tmps[124]?.getD undef = _ ∧ True := hf
                    obtain ⟨f21, f26, f16, -⟩ := F
                    clear ho hf
                    go_simp
                    exact hK _ _ (rfl) (Eq.refl _)
                  refine And.intro ?_ ?_
                  · intro a W hR hf ho K hK
                    subst hR
                    have F : a.tmps[124]?.getD undef = _ ∧ a.tmps[135]?.getD undef = _ ∧ True := hf
                    obtain ⟨f16, f27, -⟩ := F
                    clear ho hf
                    go_simp
                    exact hK _ _ (rfl) (Eq.refl _)
                  exact trivial
                case stab =>
                  refine And.intro is_stable ?_
                  refine And.intro is_stable ?_
                  refine And.intro is_stable ?_
                  refine And.intro is_stable ?_
                  refine And.intro is_stable ?_
                  refine And.intro is_stable ?_
                  refine And.intro is_stable ?_
                  refine And.intro is_stable ?_
                  refine And.intro is_stable ?_
                  refine And.intro is_stable ?_
                  refine And.intro is_stable ?_
                  refine And.intro is_stable ?_
                  refine And.intro is_stable ?_
                  refine And.intro is_stable ?_
                  refine And.intro is_stable ?_
                  refine And.intro is_stable ?_
                  refine And.intro is_stable ?_
                  refine And.intro is_stable ?_
                  refine And.intro is_stable ?_
                  refine And.intro is_stable ?_
                  refine And.intro is_stable ?_
                  refine And.intro is_stable ?_
                  refine And.intro is_stable ?_
                  refine And.intro is_stable ?_
                  refine And.intro is_stable ?_
                  refine And.intro is_stable ?_
                  refine And.intro is_stable ?_
                  refine And.intro is_stable ?_
                  refine And.intro is_stable ?_
                  exact trivial
                case ends =>
                  intro vals W hR hall
                  subst hR
                  have e136 : vals 136 = _ := hall 28 (by decide)
                  clear hall
                  simp only [fill, List.setIfInBounds_toArray, List.set_cons_succ, List.set_cons_zero, e136]
                  go_wp2_with fail
                  refine wp_region_stage (fun _ _ : World => True) [] [(fun W => W = w5.drewN (m + 1 + 1))] [137, 138, 139, 140, 141, 142, 143, 144, 145, 146, 147, 148, 149, 18] (by kernel_rfl) (fun _ => trivial) (fun _ _ _ _ _ => trivial) (by kernel_rfl) (by kernel_rfl) (by kernel_rfl) ?start ?_
                  case start => show _ = _; simp
                  apply ex_is; apply Exists.intro
                  apply ex_is; apply Exists.intro
                  apply ex_is; apply Exists.intro
                  apply ex_is; apply Exists.intro
                  apply ex_is; apply Exists.intro
                  apply ex_is; apply Exists.intro
                  apply ex_is; apply Exists.intro
                  apply ex_is; apply Exists.intro
                  apply ex_is; apply Exists.intro
                  apply ex_is; apply Exists.intro
                  apply ex_is; apply Exists.intro
                  apply ex_is; apply Exists.intro
                  apply ex_is; apply Exists.intro
                  apply ex_is; apply Exists.intro
                  refine ⟨[], ⟨?steps, ?stab, ?ends⟩⟩
                  case steps =>
                    refine And.intro (stepC_pure (fun _ => trivial) (by kernel_rfl) ?_) ?_
                    · intro a W hR hf ho K hK
                      have G : a.tmps[18]?.getD undef = _ ∧ True := ho
                      obtain ⟨g18, -⟩ := G
                      clear ho hf
                      go_simp
                      exact hK _ (Eq.refl _)
                    refine And.intro (stepC_pure (fun _ => trivial) (by kernel_rfl) ?_) ?_
                    · intro a W hR hf ho K hK
                      have G : a.tmps[17]?.getD undef = _ ∧ True := ho
                      obtain ⟨g17, -⟩ := G
                      clear ho hf
                      go_simp
                      exact hK _ (Eq.refl _)
                    refine And.intro (stepC_pure (fun _ => trivial) (by kernel_rfl) ?_) ?_
                    · intro a W hR hf ho K hK
                      have G : a.tmps[19]?.getD undef = _ ∧ True := ho
                      obtain ⟨g19, -⟩ := G
                      clear ho hf
                      go_simp
                      exact hK _ (Eq.refl _)
                    refine And.intro (stepC_pure (fun _ => trivial) (by kernel_rfl) ?_) ?_
                    · intro a W hR hf ho K hK
                      have F : a.tmps[138]?.getD undef = _ ∧ a.tmps[139]?.getD undef = _ ∧ True := hf
                      obtain ⟨f1, f2, -⟩ := F
                      clear ho hf
                      go_simp
                      exact hK _ (Eq.refl _)
                    refine And.intro (stepC_pure (fun _ => trivial) (by kernel_rfl) ?_) ?_
                    · intro a W hR hf ho K hK
                      have F : a.tmps[140]?.getD undef = _ ∧ True := hf
                      obtain ⟨f3, -⟩ := F
                      clear ho hf
                      go_simp
                      exact hK _ (Eq.refl _)
                    refine And.intro (stepC_at (pss := []) (by kernel_rfl) (by decide) rfl 0 [] [] (by kernel_rfl) 0 rfl (Or.inr (by kernel_rfl)) ?_) ?_
                    · intro a W hR hS hf ho K hK
                      replace hS : (fun W => W = w5.drewN (m + 1 + 1)) W := hS
                      replace hK := fun (v : Value) (w' : World) (h1 : (fun _ _ : World => True) W w') h2 (h3 : (fun W => W = w5.drewN (m + 1 + 1)) w') => hK v w' h1 h2 h3
                      have F : a.tmps[141]?.getD undef = _ ∧ True := hf
                      obtain ⟨f4, -⟩ := F
                      clear ho hf
                      obtain rfl := hS
                      go_simp
                      exact hK _ _ trivial (Eq.refl _) rfl
                    refine And.intro (stepC_pure (fun _ => trivial) (by kernel_rfl) ?_) ?_
                    · intro a W hR hf ho K hK
                      have F : a.tmps[137]?.getD undef = _ ∧ a.tmps[142]?.getD undef = _ ∧ True := hf
                      obtain ⟨f0, f5, -⟩ := F
                      clear ho hf
                      go_simp
                      exact hK _ (Eq.refl _)
                    refine And.intro (stepC_pure (fun _ => trivial) (by kernel_rfl) ?_) ?_
                    · intro a W hR hf ho K hK
                      have G : a.tmps[17]?.getD undef = _ ∧ True := ho
                      obtain ⟨g17, -⟩ := G
                      clear ho hf
                      go_simp
                      exact hK _ (Eq.refl _)
                    refine And.intro (stepC_pure (fun _ => trivial) (by kernel_rfl) ?_) ?_
                    · intro a W hR hf ho K hK
                      have G : a.tmps[19]?.getD undef = _ ∧ True := ho
                      obtain ⟨g19, -⟩ := G
                      clear ho hf
                      go_simp
                      exact hK _ (Eq.refl _)
                    refine And.intro (stepC_pure (fun _ => trivial) (by kernel_rfl) ?_) ?_
                    · intro a W hR hf ho K hK
                      have F : a.tmps[144]?.getD undef = _ ∧ a.tmps[145]?.getD undef = _ ∧ True := hf
                      obtain ⟨f7, f8, -⟩ := F
                      clear ho hf
                      go_simp
                      exact hK _ (Eq.refl _)
                    refine And.intro (stepC_pure (fun _ => trivial) (by kernel_rfl) ?_) ?_
                    · intro a W hR hf ho K hK
                      have F : a.tmps[146]?.getD undef = _ ∧ True := hf
                      obtain ⟨f9, -⟩ := F
                      clear ho hf
                      go_simp
                      exact hK _ (Eq.refl _)
                    refine And.intro (stepC_at (pss := []) (by kernel_rfl) (by decide) rfl 0 [] [] (by kernel_rfl) 0 rfl (Or.inr (by kernel_rfl)) ?_) ?_
                    · intro a W hR hS hf ho K hK
                      replace hS : (fun W => W = w5.drewN (m + 1 + 1)) W := hS
                      replace hK := fun (v : Value) (w' : World) (h1 : (fun _ _ : World => True) W w') h2 (h3 : (fun W => W = w5.drewN (m + 1 + 1)) w') => hK v w' h1 h2 h3
                      have F : a.tmps[147]?.getD undef = _ ∧ True := hf
                      obtain ⟨f10, -⟩ := F
                      clear ho hf
                      obtain rfl := hS
                      go_simp
                      exact hK _ _ trivial (Eq.refl _) rfl
                    refine And.intro (stepC_pure (fun _ => trivial) (by kernel_rfl) ?_) ?_
                    · intro a W hR hf ho K hK
                      have F : a.tmps[143]?.getD undef = _ ∧ a.tmps[148]?.getD undef = _ ∧ True := hf
                      obtain ⟨f6, f11, -⟩ := F
                      clear ho hf
                      go_simp
                      exact hK _ (Eq.refl _)
                    refine And.intro (stepC_pure (fun _ => trivial) (by kernel_rfl) ?_) ?_
                    · intro a W hR hf ho K hK
                      have F : a.tmps[149]?.getD undef = _ ∧ a.tmps[137]?.getD undef = _ ∧ a.tmps[138]?.getD undef = _ ∧ a.tmps[139]?.getD undef = _ ∧ a.tmps[140]?.getD undef = _ ∧ a.tmps[141]?.getD undef = _ ∧ a.tmps[142]?.getD undef = _ ∧ a.tmps[143]?.getD undef = _ ∧ a.tmps[144]?.getD undef = _ ∧ a.tmps[145]?.getD undef = _ ∧ a.tmps[146]?.getD undef = _ ∧ a.tmps[147]?.getD undef = _ ∧ a.tmps[148]?.getD undef = _ ∧ a.tmps[149]?.getD undef = _ ∧ True := hf
                      obtain ⟨f12, f0, f1, f2, f3, f4, f5, f6, f7, f8, f9, f10, f11, -, -⟩ := F
                      clear ho hf
                      go_simp
                      exact hK _ (Eq.refl _)
                    exact trivial
                  case stab =>
                    refine And.intro is_stable ?_
                    refine And.intro is_stable ?_
                    refine And.intro is_stable ?_
                    refine And.intro is_stable ?_
                    refine And.intro is_stable ?_
                    refine And.intro is_stable ?_
                    refine And.intro is_stable ?_
                    refine And.intro is_stable ?_
                    refine And.intro is_stable ?_
                    refine And.intro is_stable ?_
                    refine And.intro is_stable ?_
                    refine And.intro is_stable ?_
                    refine And.intro is_stable ?_
                    refine And.intro is_stable ?_
                    exact trivial
                  case ends =>
                    intro vals W hR hS hall
                    replace hS : (fun W => W = w5.drewN (m + 1 + 1)) W := hS
                    have e18 : vals 18 = _ := hall 13 (by decide)
                    clear hall
                    simp only [fill, List.setIfInBounds_toArray, List.set_cons_succ, List.set_cons_zero, e18]
                    obtain rfl := hS
                    go_wp2_with fail
                    exact ⟨⟨_ + 1, _, hxl, by simp, by first | rfl | exact i64_num ((congrArg (fun y => IntKind.i64.wrap (y - _)) hw1).trans hw2), rfl⟩, by simp [intOf]; omega⟩
              | succ x =>
                have hgt : decide (((x + 1 : Nat) : Int) > 0) = true := decide_eq_true (by omega)
                have hxs : x < Q'.length := by omega
                have hwx : IntKind.i64.wrap (x : Int) = x := IntWalk.i64_in _ (by omega)
                have hle : decide (Q'[x + 1].1 ≤ Q'[x].2) = false := decide_eq_false (wf_beside HM.out.wf hxl)
                obtain ⟨-, y1⟩ := own_cells a5 (k := x) (by omega)
                go_wp2_with fail
                refine wp_region_obl Eq [108, 109, 110, 111, 112, 113, 114, 115, 116, 117, 118, 119, 120, 121, 122, 123, 124, 125, 126, 127, 128, 129, 130, 131, 132, 133, 134, 135, 136] (by kernel_rfl) (fun _ => rfl) (fun _ _ _ => Eq.trans) (by kernel_rfl) (by kernel_rfl) ?_
                apply ex_is; apply Exists.intro
                apply ex_is; apply Exists.intro
                apply ex_is; apply Exists.intro
                apply ex_is; apply Exists.intro
                apply ex_is; apply Exists.intro
                apply ex_is; apply Exists.intro
                apply ex_is; apply Exists.intro
                apply ex_is; apply Exists.intro
                apply ex_is; apply Exists.intro
                apply ex_is; apply Exists.intro
                apply ex_is; apply Exists.intro
                apply ex_is; apply Exists.intro
                apply ex_is; apply Exists.intro
                apply ex_is; apply Exists.intro
                apply ex_is; apply Exists.intro
                apply ex_is; apply Exists.intro
                apply ex_is; apply Exists.intro
                apply ex_is; apply Exists.intro
                apply ex_is; apply Exists.intro
                apply ex_is; apply Exists.intro
                apply ex_is; apply Exists.intro
                apply ex_is; apply Exists.intro
                apply ex_is; apply Exists.intro
                apply ex_is; apply Exists.intro
                apply ex_is; apply Exists.intro
                apply ex_is; apply Exists.intro
                apply ex_is; apply Exists.intro
                apply ex_is; apply Exists.intro
                apply ex_is; apply Exists.intro
                refine ⟨[], ⟨?steps, ?stab, ?ends⟩⟩
                case steps =>
                  refine And.intro ?_ ?_
                  · intro a W hR hf ho K hK
                    subst hR
                    have G : a.tmps[19]?.getD undef = _ ∧ True := ho
                    obtain ⟨g19, -⟩ := G
                    clear ho hf
                    go_simp
                    exact hK _ _ (rfl) (Eq.refl _)
                  refine And.intro ?_ ?_
                  · intro a W hR hf ho K hK
                    subst hR
                    have F : a.tmps[108]?.getD undef = _ ∧ True := hf
                    obtain ⟨f0, -⟩ := F
                    clear ho hf
                    go_simp
                    exact hK _ _ (rfl) (Eq.refl _)
                  refine And.intro ?_ ?_
                  · intro a W hR hf ho K hK
                    subst hR
                    have F : a.tmps[109]?.getD undef = _ ∧ True := hf
                    obtain ⟨f1, -⟩ := F
                    clear ho hf
                    go_simp
                    exact hK _ _ (rfl) (Eq.refl _)
                  refine And.intro ?_ ?_
                  · intro a W hR hf ho K hK
                    subst hR
                    have G : a.tmps[17]?.getD undef = _ ∧ True := ho
                    obtain ⟨g17, -⟩ := G
                    have F : a.tmps[110]?.getD undef = _ ∧ True := hf
                    obtain ⟨f2, -⟩ := F
                    clear ho hf
                    go_simp
                    exact hK _ _ (rfl) (Eq.refl _)
                  refine And.intro ?_ ?_
                  · intro a W hR hf ho K hK
                    subst hR
                    have G : a.tmps[19]?.getD undef = _ ∧ True := ho
                    obtain ⟨g19, -⟩ := G
                    have F : a.tmps[110]?.getD undef = _ ∧ True := hf
                    obtain ⟨f2, -⟩ := F
                    clear ho hf
                    go_simp
                    exact hK _ _ (rfl) (Eq.refl _)
                  refine And.intro ?_ ?_
                  · intro a W hR hf ho K hK
                    subst hR
                    have F : a.tmps[111]?.getD undef = _ ∧ a.tmps[112]?.getD undef = _ ∧ a.tmps[110]?.getD undef = _ ∧ True := hf
                    obtain ⟨f3, f4, f2, -⟩ := F
                    clear ho hf
                    go_simp
                    exact hK _ _ (rfl) (Eq.refl _)
                  refine And.intro ?_ ?_
                  · intro a W hR hf ho K hK
                    subst hR
                    have F : a.tmps[113]?.getD undef = _ ∧ a.tmps[110]?.getD undef = _ ∧ True := hf
                    obtain ⟨f5, f2, -⟩ := F
                    clear ho hf
                    go_simp
                    exact hK _ _ (rfl) (Eq.refl _)
                  refine And.intro ?_ ?_
                  · intro a W hR hf ho K hK
                    subst hR
                    have F : a.tmps[114]?.getD undef = _ ∧ a.tmps[110]?.getD undef = _ ∧ True := hf
                    obtain ⟨f6, f2, -⟩ := F
                    clear ho hf
                    go_simp
                    exact hK _ _ (rfl) (Eq.refl _)
                  refine And.intro ?_ ?_
                  · intro a W hR hf ho K hK
                    subst hR
                    have G : a.tmps[17]?.getD undef = _ ∧ True := ho
                    obtain ⟨g17, -⟩ := G
                    have F : a.tmps[110]?.getD undef = _ ∧ True := hf
                    obtain ⟨f2, -⟩ := F
                    clear ho hf
                    go_simp
                    exact hK _ _ (rfl) (Eq.refl _)
                  refine And.intro ?_ ?_
                  · intro a W hR hf ho K hK
                    subst hR
                    have G : a.tmps[19]?.getD undef = _ ∧ True := ho
                    obtain ⟨g19, -⟩ := G
                    have F : a.tmps[110]?.getD undef = _ ∧ True := hf
                    obtain ⟨f2, -⟩ := F
                    clear ho hf
                    go_simp
                    exact hK _ _ (rfl) (Eq.refl _)
                  refine And.intro ?_ ?_
                  · intro a W hR hf ho K hK
                    subst hR
                    have F : a.tmps[117]?.getD undef = _ ∧ a.tmps[110]?.getD undef = _ ∧ True := hf
                    obtain ⟨f9, f2, -⟩ := F
                    clear ho hf
                    go_simp
                    exact hK _ _ (rfl) (Eq.refl _)
                  refine And.intro ?_ ?_
                  · intro a W hR hf ho K hK
                    subst hR
                    have F : a.tmps[116]?.getD undef = _ ∧ a.tmps[118]?.getD undef = _ ∧ a.tmps[110]?.getD undef = _ ∧ True := hf
                    obtain ⟨f8, f10, f2, -⟩ := F
                    clear ho hf
                    go_simp
                    exact hK _ _ (rfl) (Eq.refl _)
                  refine And.intro ?_ ?_
                  · intro a W hR hf ho K hK
                    subst hR
                    have F : a.tmps[119]?.getD undef = _ ∧ a.tmps[110]?.getD undef = _ ∧ True := hf
                    obtain ⟨f11, f2, -⟩ := F
                    clear ho hf
                    go_simp
                    exact hK _ _ (rfl) (Eq.refl _)
                  refine And.intro ?_ ?_
                  · intro a W hR hf ho K hK
                    subst hR
                    have F : a.tmps[120]?.getD undef = _ ∧ a.tmps[110]?.getD undef = _ ∧ True := hf
                    obtain ⟨f12, f2, -⟩ := F
                    clear ho hf
                    go_simp
                    exact hK _ _ (rfl) (Eq.refl _)
                  refine And.intro ?_ ?_
                  · intro a W hR hf ho K hK
                    subst hR
                    have F : a.tmps[115]?.getD undef = _ ∧ a.tmps[121]?.getD undef = _ ∧ a.tmps[110]?.getD undef = _ ∧ True := hf
                    obtain ⟨f7, f13, f2, -⟩ := F
                    clear ho hf
                    go_simp
                    exact hK _ _ (rfl) (Eq.refl _)
                  refine And.intro ?_ ?_
                  · intro a W hR hf ho K hK
                    subst hR
                    have F : a.tmps[110]?.getD undef = _ ∧ a.tmps[122]?.getD undef = _ ∧ True := hf
                    obtain ⟨f2, f14, -⟩ := F
                    clear ho hf
                    go_simp
                    exact hK _ _ (rfl) (Eq.refl _)
                  refine And.intro ?_ ?_
                  · intro a W hR hf ho K hK
                    subst hR
                    have F : a.tmps[123]?.getD undef = _ ∧ a.tmps[110]?.getD undef = _ ∧ True := hf
                    obtain ⟨f15, f2, -⟩ := F
                    clear ho hf
                    go_simp
                    exact hK _ _ (rfl) (Eq.refl _)
                  refine And.intro ?_ ?_
                  · intro a W hR hf ho K hK
                    subst hR
                    have G : a.tmps[17]?.getD undef = _ ∧ True := ho
                    obtain ⟨g17, -⟩ := G
                    have F : a.tmps[124]?.getD undef = _ ∧ True := hf
                    obtain ⟨f16, -⟩ := F
                    clear ho hf
                    go_simp
                    exact hK _ _ (rfl) (Eq.refl _)
                  refine And.intro ?_ ?_
                  · intro a W hR hf ho K hK
                    subst hR
                    have G : a.tmps[19]?.getD undef = _ ∧ True := ho
                    obtain ⟨g19, -⟩ := G
                    have F : a.tmps[124]?.getD undef = _ ∧ True := hf
                    obtain ⟨f16, -⟩ := F
                    clear ho hf
                    go_simp
                    exact hK _ _ (rfl) (Eq.refl _)
                  refine And.intro ?_ ?_
                  · intro a W hR hf ho K hK
                    subst hR
                    have F : a.tmps[125]?.getD undef = _ ∧ a.tmps[126]?.getD undef = _ ∧ a.tmps[124]?.getD undef = _ ∧ True := hf
                    obtain ⟨f17, f18, f16, -⟩ := F
                    clear ho hf
                    go_simp
                    exact hK _ _ (rfl) (Eq.refl _)
                  refine And.intro ?_ ?_
                  · intro a W hR hf ho K hK
                    subst hR
                    have F : a.tmps[127]?.getD undef = _ ∧ a.tmps[124]?.getD undef = _ ∧ True := hf
                    obtain ⟨f19, f16, -⟩ := F
                    clear ho hf
                    go_simp
                    exact hK _ _ (rfl) (Eq.refl _)
                  refine And.intro ?_ ?_
                  · intro a W hR hf ho K hK
                    subst hR
                    have F : a.tmps[128]?.getD undef = _ ∧ a.tmps[124]?.getD undef = _ ∧ True := hf
                    obtain ⟨f20, f16, -⟩ := F
                    clear ho hf
                    go_simp
                    exact hK _ _ (rfl) (Eq.refl _)
                  refine And.intro ?_ ?_
                  · intro a W hR hf ho K hK
                    subst hR
                    have G : a.tmps[17]?.getD undef = _ ∧ True := ho
                    obtain ⟨g17, -⟩ := G
                    have F : a.tmps[124]?.getD undef = _ ∧ True := hf
                    obtain ⟨f16, -⟩ := F
                    clear ho hf
                    go_simp
                    exact hK _ _ (rfl) (Eq.refl _)
                  refine And.intro ?_ ?_
                  · intro a W hR hf ho K hK
                    subst hR
                    have G : a.tmps[19]?.getD undef = _ ∧ True := ho
                    obtain ⟨g19, -⟩ := G
                    have F : a.tmps[124]?.getD undef = _ ∧ True := hf
                    obtain ⟨f16, -⟩ := F
                    clear ho hf
                    go_simp
                    exact hK _ _ (rfl) (Eq.refl _)
                  refine And.intro ?_ ?_
                  · intro a W hR hf ho K hK
                    subst hR
                    have F : a.tmps[130]?.getD undef = _ ∧ a.tmps[131]?.getD undef = _ ∧ a.tmps[124]?.getD undef = _ ∧ True := hf
                    obtain ⟨f22, f23, f16, -⟩ := F
                    clear ho hf
                    go_simp
                    exact hK _ _ (rfl) (Eq.refl _)
                  refine And.intro ?_ ?_
                  · intro a W hR hf ho K hK
                    subst hR
                    have F : a.tmps[132]?.getD undef = _ ∧ a.tmps[124]?.getD undef = _ ∧ True := hf
                    obtain ⟨f24, f16, -⟩ := F
                    clear ho hf
                    go_simp
                    exact hK _ _ (rfl) (Eq.refl _)
                  refine And.intro ?_ ?_
                  · intro a W hR hf ho K hK
                    subst hR
                    have F : a.tmps[133]?.getD undef = _ ∧ a.tmps[124]?.getD undef = _ ∧ True := hf
                    obtain ⟨f25, f16, -⟩ := F
                    clear ho hf
                    go_simp
                    exact hK _ _ (rfl) (Eq.refl _)
                  refine And.intro ?_ ?_
                  · intro a W hR hf ho K hK
                    subst hR
                    have F : a.tmps[129]?.getD undef = _ ∧ a.tmps[134]?.getD undef = _ ∧ a.tmps[124]?.getD undef = _ ∧ True := hf
                    obtain ⟨f21, f26, f16, -⟩ := F
                    clear ho hf
                    go_simp
                    exact hK _ _ (rfl) (Eq.refl _)
                  refine And.intro ?_ ?_
                  · intro a W hR hf ho K hK
                    subst hR
                    have F : a.tmps[124]?.getD undef = _ ∧ a.tmps[135]?.getD undef = _ ∧ True := hf
                    obtain ⟨f16, f27, -⟩ := F
                    clear ho hf
                    go_simp
                    exact hK _ _ (rfl) (Eq.refl _)
                  exact trivial
                case stab =>
                  refine And.intro is_stable ?_
                  refine And.intro is_stable ?_
                  refine And.intro is_stable ?_
                  refine And.intro is_stable ?_
                  refine And.intro is_stable ?_
                  refine And.intro is_stable ?_
                  refine And.intro is_stable ?_
                  refine And.intro is_stable ?_
                  refine And.intro is_stable ?_
                  refine And.intro is_stable ?_
                  refine And.intro is_stable ?_
                  refine And.intro is_stable ?_
                  refine And.intro is_stable ?_
                  refine And.intro is_stable ?_
                  refine And.intro is_stable ?_
                  refine And.intro is_stable ?_
                  refine And.intro is_stable ?_
                  refine And.intro is_stable ?_
                  refine And.intro is_stable ?_
                  refine And.intro is_stable ?_
                  refine And.intro is_stable ?_
                  refine And.intro is_stable ?_
                  refine And.intro is_stable ?_
                  refine And.intro is_stable ?_
                  refine And.intro is_stable ?_
                  refine And.intro is_stable ?_
                  refine And.intro is_stable ?_
                  refine And.intro is_stable ?_
                  refine And.intro is_stable ?_
                  exact trivial
                case ends =>
                  intro vals W hR hall
                  subst hR
                  have e136 : vals 136 = _ := hall 28 (by decide)
                  clear hall
                  simp only [fill, List.setIfInBounds_toArray, List.set_cons_succ, List.set_cons_zero, e136]
                  go_wp2_with fail
                  refine wp_region_stage (fun _ _ : World => True) [] [(fun W => W = w5.drewN (m + 1 + 1))] [137, 138, 139, 140, 141, 142, 143, 144, 145, 146, 147, 148, 149, 18] (by kernel_rfl) (fun _ => trivial) (fun _ _ _ _ _ => trivial) (by kernel_rfl) (by kernel_rfl) (by kernel_rfl) ?start ?_
                  case start => show _ = _; simp
                  apply ex_is; apply Exists.intro
                  apply ex_is; apply Exists.intro
                  apply ex_is; apply Exists.intro
                  apply ex_is; apply Exists.intro
                  apply ex_is; apply Exists.intro
                  apply ex_is; apply Exists.intro
                  apply ex_is; apply Exists.intro
                  apply ex_is; apply Exists.intro
                  apply ex_is; apply Exists.intro
                  apply ex_is; apply Exists.intro
                  apply ex_is; apply Exists.intro
                  apply ex_is; apply Exists.intro
                  apply ex_is; apply Exists.intro
                  apply ex_is; apply Exists.intro
                  refine ⟨[], ⟨?steps, ?stab, ?ends⟩⟩
                  case steps =>
                    refine And.intro (stepC_pure (fun _ => trivial) (by kernel_rfl) ?_) ?_
                    · intro a W hR hf ho K hK
                      have G : a.tmps[18]?.getD undef = _ ∧ True := ho
                      obtain ⟨g18, -⟩ := G
                      clear ho hf
                      go_simp
                      exact hK _ (Eq.refl _)
                    refine And.intro (stepC_pure (fun _ => trivial) (by kernel_rfl) ?_) ?_
                    · intro a W hR hf ho K hK
                      have G : a.tmps[17]?.getD undef = _ ∧ True := ho
                      obtain ⟨g17, -⟩ := G
                      clear ho hf
                      go_simp
                      exact hK _ (Eq.refl _)
                    refine And.intro (stepC_pure (fun _ => trivial) (by kernel_rfl) ?_) ?_
                    · intro a W hR hf ho K hK
                      have G : a.tmps[19]?.getD undef = _ ∧ True := ho
                      obtain ⟨g19, -⟩ := G
                      clear ho hf
                      go_simp
                      exact hK _ (Eq.refl _)
                    refine And.intro (stepC_pure (fun _ => trivial) (by kernel_rfl) ?_) ?_
                    · intro a W hR hf ho K hK
                      have F : a.tmps[138]?.getD undef = _ ∧ a.tmps[139]?.getD undef = _ ∧ True := hf
                      obtain ⟨f1, f2, -⟩ := F
                      clear ho hf
                      go_simp
                      exact hK _ (Eq.refl _)
                    refine And.intro (stepC_pure (fun _ => trivial) (by kernel_rfl) ?_) ?_
                    · intro a W hR hf ho K hK
                      have F : a.tmps[140]?.getD undef = _ ∧ True := hf
                      obtain ⟨f3, -⟩ := F
                      clear ho hf
                      go_simp
                      exact hK _ (Eq.refl _)
                    refine And.intro (stepC_at (pss := []) (by kernel_rfl) (by decide) rfl 0 [] [] (by kernel_rfl) 0 rfl (Or.inr (by kernel_rfl)) ?_) ?_
                    · intro a W hR hS hf ho K hK
                      replace hS : (fun W => W = w5.drewN (m + 1 + 1)) W := hS
                      replace hK := fun (v : Value) (w' : World) (h1 : (fun _ _ : World => True) W w') h2 (h3 : (fun W => W = w5.drewN (m + 1 + 1)) w') => hK v w' h1 h2 h3
                      have F : a.tmps[141]?.getD undef = _ ∧ True := hf
                      obtain ⟨f4, -⟩ := F
                      clear ho hf
                      obtain rfl := hS
                      go_simp
                      exact hK _ _ trivial (Eq.refl _) rfl
                    refine And.intro (stepC_pure (fun _ => trivial) (by kernel_rfl) ?_) ?_
                    · intro a W hR hf ho K hK
                      have F : a.tmps[137]?.getD undef = _ ∧ a.tmps[142]?.getD undef = _ ∧ True := hf
                      obtain ⟨f0, f5, -⟩ := F
                      clear ho hf
                      go_simp
                      exact hK _ (Eq.refl _)
                    refine And.intro (stepC_pure (fun _ => trivial) (by kernel_rfl) ?_) ?_
                    · intro a W hR hf ho K hK
                      have G : a.tmps[17]?.getD undef = _ ∧ True := ho
                      obtain ⟨g17, -⟩ := G
                      clear ho hf
                      go_simp
                      exact hK _ (Eq.refl _)
                    refine And.intro (stepC_pure (fun _ => trivial) (by kernel_rfl) ?_) ?_
                    · intro a W hR hf ho K hK
                      have G : a.tmps[19]?.getD undef = _ ∧ True := ho
                      obtain ⟨g19, -⟩ := G
                      clear ho hf
                      go_simp
                      exact hK _ (Eq.refl _)
                    refine And.intro (stepC_pure (fun _ => trivial) (by kernel_rfl) ?_) ?_
                    · intro a W hR hf ho K hK
                      have F : a.tmps[144]?.getD undef = _ ∧ a.tmps[145]?.getD undef = _ ∧ True := hf
                      obtain ⟨f7, f8, -⟩ := F
                      clear ho hf
                      go_simp
                      exact hK _ (Eq.refl _)
                    refine And.intro (stepC_pure (fun _ => trivial) (by kernel_rfl) ?_) ?_
                    · intro a W hR hf ho K hK
                      have F : a.tmps[146]?.getD undef = _ ∧ True := hf
                      obtain ⟨f9, -⟩ := F
                      clear ho hf
                      go_simp
                      exact hK _ (Eq.refl _)
                    refine And.intro (stepC_at (pss := []) (by kernel_rfl) (by decide) rfl 0 [] [] (by kernel_rfl) 0 rfl (Or.inr (by kernel_rfl)) ?_) ?_
                    · intro a W hR hS hf ho K hK
                      replace hS : (fun W => W = w5.drewN (m + 1 + 1)) W := hS
                      replace hK := fun (v : Value) (w' : World) (h1 : (fun _ _ : World => True) W w') h2 (h3 : (fun W => W = w5.drewN (m + 1 + 1)) w') => hK v w' h1 h2 h3
                      have F : a.tmps[147]?.getD undef = _ ∧ True := hf
                      obtain ⟨f10, -⟩ := F
                      clear ho hf
                      obtain rfl := hS
                      go_simp
                      exact hK _ _ trivial (Eq.refl _) rfl
                    refine And.intro (stepC_pure (fun _ => trivial) (by kernel_rfl) ?_) ?_
                    · intro a W hR hf ho K hK
                      have F : a.tmps[143]?.getD undef = _ ∧ a.tmps[148]?.getD undef = _ ∧ True := hf
                      obtain ⟨f6, f11, -⟩ := F
                      clear ho hf
                      go_simp
                      exact hK _ (Eq.refl _)
                    refine And.intro (stepC_pure (fun _ => trivial) (by kernel_rfl) ?_) ?_
                    · intro a W hR hf ho K hK
                      have F : a.tmps[149]?.getD undef = _ ∧ a.tmps[137]?.getD undef = _ ∧ a.tmps[138]?.getD undef = _ ∧ a.tmps[139]?.getD undef = _ ∧ a.tmps[140]?.getD undef = _ ∧ a.tmps[141]?.getD undef = _ ∧ a.tmps[142]?.getD undef = _ ∧ a.tmps[143]?.getD undef = _ ∧ a.tmps[144]?.getD undef = _ ∧ a.tmps[145]?.getD undef = _ ∧ a.tmps[146]?.getD undef = _ ∧ a.tmps[147]?.getD undef = _ ∧ a.tmps[148]?.getD undef = _ ∧ a.tmps[149]?.getD undef = _ ∧ True := hf
                      obtain ⟨f12, f0, f1, f2, f3, f4, f5, f6, f7, f8, f9, f10, f11, -, -⟩ := F
                      clear ho hf
                      go_simp
                      exact hK _ (Eq.refl _)
                    exact trivial
                  case stab =>
                    refine And.intro is_stable ?_
                    refine And.intro is_stable ?_
                    refine And.intro is_stable ?_
                    refine And.intro is_stable ?_
                    refine And.intro is_stable ?_
                    refine And.intro is_stable ?_
                    refine And.intro is_stable ?_
                    refine And.intro is_stable ?_
                    refine And.intro is_stable ?_
                    refine And.intro is_stable ?_
                    refine And.intro is_stable ?_
                    refine And.intro is_stable ?_
                    refine And.intro is_stable ?_
                    refine And.intro is_stable ?_
                    exact trivial
                  case ends =>
                    intro vals W hR hS hall
                    replace hS : (fun W => W = w5.drewN (m + 1 + 1)) W := hS
                    have e18 : vals 18 = _ := hall 13 (by decide)
                    clear hall
                    simp only [fill, List.setIfInBounds_toArray, List.set_cons_succ, List.set_cons_zero, e18]
                    obtain rfl := hS
                    go_wp2_with fail
                    exact ⟨⟨_ + 1, _, hxl, by simp, by first | rfl | exact i64_num ((congrArg (fun y => IntKind.i64.wrap (y - _)) hw1).trans hw2), rfl⟩, by simp [intOf]; omega⟩
            · obtain rfl : x = Q'.length := by omega
              rw [List.take_length]
              go_wp2_with fail
              refine (all_free _ _ _ _ _ _ _ (P5.f.ext (Ext.drewN (Below.refl _ _) _))).mono ?_
              rintro e w6 ⟨rfl, e6⟩
              have P6 := P5.ext ((Ext.drewN (Below.refl _ _) _).then e6)
              clear P5 e6 a5
              go_wp2_with fail
              exact ⟨⟨k + 1, v4, Q', by omega, by simp, P6, HM.out⟩, by simp [intOf]; omega⟩
        · obtain rfl : k = H.length := by omega
          have G0 := Lib.hid (fun (j : Nat) (hj : j < H.length) (h : j < 0) (y : Int) (hy : inH H[j] y) => (absurd h (Nat.not_lt_zero j) : inR Q y))
          go_wp2_with fail
          go_loopw [20] (fun i wr => ∃ (k : Nat) (v : Value) (Q : List Run), k ≤ H.length ∧ i = .int .i64 (k : Int) ∧ Mem1 w wr p 0 z v w1.heap.size Q (.slice A8 H.length c8) H.length H ∧ Mixed 0 z Q H ∧ Hid (∀ (j : Nat) (hj : j < H.length), j < k → ∀ y, inH H[j] y → inR Q y)) (fun i _ => H.length - (intOf i).toNat)
          case atStart => exact ⟨0, v, Q, Nat.zero_le _, rfl, hP, hM, G0⟩
          case round =>
            clear hP hM G0 hk hlt
            obtain ⟨k, v, Q, hk, rfl, hP, hM, hG⟩ := hrel
            by_cases hlt : k < H.length
            · obtain ⟨b1, o1, rfl, -, x0, x1⟩ := own_at (own_arr hP.row) hlt
              obtain ⟨m1, m2, m3⟩ := mixed_give hM hlt
              have C1 := Lib.hid fun W (hw : Ext wr W) => give_one (hP.ext hw) hM.wf H[k].1 H[k].2
              have HM := Lib.hid (And.intro m1 (And.intro m2 m3))
              clear hM hP m1 m2 m3
              go_wp2_with fail
              refine wp_region_stage (fun _ _ : World => True) [11] [(fun W => Ext wr W), (fun W => ∃ v4, Mem1 w W p 0 z v4 w1.heap.size (giveR 0 z Q H[k].1 H[k].2).1 (.slice (some ⟨b1, o1, none⟩) H.length c8) H.length H)] [160, 161, 162, 163, 164, 165, 166, 167, 168, 169, 170, 171] (by kernel_rfl) (fun _ => trivial) (fun _ _ _ _ _ => trivial) (by kernel_rfl) (by kernel_rfl) (by kernel_rfl) ?start ?_
              case start => show Ext wr wr.drew; exact (by repeat first | (with_reducible exact Below.refl _ _) | (with_reducible apply Ext.alloc) | (with_reducible apply Ext.drew) | (with_reducible apply Ext.drewN) | (with_reducible refine Ext.set ?_ (by simp)))
              apply ex_is; apply Exists.intro
              apply ex_is; apply Exists.intro
              apply ex_is; apply Exists.intro
              apply ex_is; apply Exists.intro
              apply ex_is; apply Exists.intro
              apply ex_is; apply Exists.intro
              apply ex_is; apply Exists.intro
              apply ex_is; apply Exists.intro
              apply ex_is; apply Exists.intro
              apply ex_is; apply Exists.intro
              apply ex_is; apply Exists.intro
              apply ex_is; apply Exists.intro
              refine ⟨[], ⟨?steps, ?stab, ?ends⟩⟩
              case steps =>
                refine And.intro (stepC_pure (fun _ => trivial) (by kernel_rfl) ?_) ?_
                · intro a W hR hf ho K hK
                  have G : a.tmps[9]?.getD undef = _ ∧ True := ho
                  obtain ⟨g9, -⟩ := G
                  clear ho hf
                  go_simp
                  exact hK _ (Eq.refl _)
                refine And.intro (stepC_pure (fun _ => trivial) (by kernel_rfl) ?_) ?_
                · intro a W hR hf ho K hK
                  have G : a.tmps[10]?.getD undef = _ ∧ True := ho
                  obtain ⟨g10, -⟩ := G
                  clear ho hf
                  go_simp
                  exact hK _ (Eq.refl _)
                refine And.intro (stepC_pure (fun _ => trivial) (by kernel_rfl) ?_) ?_
                · intro a W hR hf ho K hK
                  have G : a.tmps[20]?.getD undef = _ ∧ True := ho
                  obtain ⟨g20, -⟩ := G
                  clear ho hf
                  go_simp
                  exact hK _ (Eq.refl _)
                refine And.intro (stepC_pure (fun _ => trivial) (by kernel_rfl) ?_) ?_
                · intro a W hR hf ho K hK
                  have F : a.tmps[161]?.getD undef = _ ∧ a.tmps[162]?.getD undef = _ ∧ True := hf
                  obtain ⟨f1, f2, -⟩ := F
                  clear ho hf
                  go_simp
                  exact hK _ (Eq.refl _)
                refine And.intro (stepC_pure (fun _ => trivial) (by kernel_rfl) ?_) ?_
                · intro a W hR hf ho K hK
                  have F : a.tmps[163]?.getD undef = _ ∧ True := hf
                  obtain ⟨f3, -⟩ := F
                  clear ho hf
                  go_simp
                  exact hK _ (Eq.refl _)
                refine And.intro (stepC_at (pss := []) (by kernel_rfl) (by decide) rfl 0 [] [5] (by kernel_rfl) 0 rfl (Or.inr (by kernel_rfl)) ?_) ?_
                · intro a W hR hS hf ho K hK
                  replace hS : (fun W => Ext wr W) W := hS
                  replace hK := fun (v : Value) (w' : World) (h1 : (fun _ _ : World => True) W w') h2 (h3 : (fun W => Ext wr W) w') => hK v w' h1 h2 h3
                  have F : a.tmps[164]?.getD undef = _ ∧ True := hf
                  obtain ⟨f4, -⟩ := F
                  clear ho hf
                  have c0 := ext_cell hS _ _ x0; have c1 := ext_cell hS _ _ x1
                  go_simp
                  exact hK _ _ (trivial) (Eq.refl _) hS
                refine And.intro (stepC_pure (fun _ => trivial) (by kernel_rfl) ?_) ?_
                · intro a W hR hf ho K hK
                  have G : a.tmps[10]?.getD undef = _ ∧ True := ho
                  obtain ⟨g10, -⟩ := G
                  clear ho hf
                  go_simp
                  exact hK _ (Eq.refl _)
                refine And.intro (stepC_pure (fun _ => trivial) (by kernel_rfl) ?_) ?_
                · intro a W hR hf ho K hK
                  have G : a.tmps[20]?.getD undef = _ ∧ True := ho
                  obtain ⟨g20, -⟩ := G
                  clear ho hf
                  go_simp
                  exact hK _ (Eq.refl _)
                refine And.intro (stepC_pure (fun _ => trivial) (by kernel_rfl) ?_) ?_
                · intro a W hR hf ho K hK
                  have F : a.tmps[166]?.getD undef = _ ∧ a.tmps[167]?.getD undef = _ ∧ True := hf
                  obtain ⟨f6, f7, -⟩ := F
                  clear ho hf
                  go_simp
                  exact hK _ (Eq.refl _)
                refine And.intro (stepC_pure (fun _ => trivial) (by kernel_rfl) ?_) ?_
                · intro a W hR hf ho K hK
                  have F : a.tmps[168]?.getD undef = _ ∧ True := hf
                  obtain ⟨f8, -⟩ := F
                  clear ho hf
                  go_simp
                  exact hK _ (Eq.refl _)
                refine And.intro (stepC_at (pss := []) (by kernel_rfl) (by decide) rfl 0 [] [10] (by kernel_rfl) 0 rfl (Or.inr (by kernel_rfl)) ?_) ?_
                · intro a W hR hS hf ho K hK
                  replace hS : (fun W => Ext wr W) W := hS
                  replace hK := fun (v : Value) (w' : World) (h1 : (fun _ _ : World => True) W w') h2 (h3 : (fun W => Ext wr W) w') => hK v w' h1 h2 h3
                  have F : a.tmps[169]?.getD undef = _ ∧ True := hf
                  obtain ⟨f9, -⟩ := F
                  clear ho hf
                  have c0 := ext_cell hS _ _ x0; have c1 := ext_cell hS _ _ x1
                  go_simp
                  exact hK _ _ (trivial) (Eq.refl _) hS
                refine And.intro (stepC_at (pss := []) (by kernel_rfl) (by decide) rfl 0 [] [] (by kernel_rfl) 1 rfl (Or.inl rfl) ?_) ?_
                · intro a W hR hS hf ho K hK
                  replace hS : (fun W => Ext wr W) W := hS
                  replace hK := fun (v : Value) (w' : World) (h1 : (fun _ _ : World => True) W w') h2 (h3 : (fun W => ∃ v4, Mem1 w W p 0 z v4 w1.heap.size (giveR 0 z Q H[k].1 H[k].2).1 (.slice (some ⟨b1, o1, none⟩) H.length c8) H.length H) w') => hK v w' h1 h2 h3
                  have F : a.tmps[160]?.getD undef = _ ∧ a.tmps[165]?.getD undef = _ ∧ a.tmps[170]?.getD undef = _ ∧ True := hf
                  obtain ⟨f0, f5, f10, -⟩ := F
                  clear ho hf
                  go_simp
                  refine (C1.out W hS).mono ?_; rintro e W1 ⟨rfl, v4, P4⟩; exact hK _ _ trivial (Eq.refl _) ⟨v4, P4⟩
                exact trivial
              case stab =>
                refine And.intro is_stable ?_
                refine And.intro is_stable ?_
                refine And.intro is_stable ?_
                refine And.intro is_stable ?_
                refine And.intro is_stable ?_
                refine And.intro is_stable ?_
                refine And.intro is_stable ?_
                refine And.intro is_stable ?_
                refine And.intro is_stable ?_
                refine And.intro is_stable ?_
                refine And.intro is_stable ?_
                refine And.intro is_stable ?_
                exact trivial
              case ends =>
                intro vals W hR hS hall
                replace hS : (fun W => ∃ v4, Mem1 w W p 0 z v4 w1.heap.size (giveR 0 z Q H[k].1 H[k].2).1 (.slice (some ⟨b1, o1, none⟩) H.length c8) H.length H) W := hS
                clear hall
                simp only [fill, List.setIfInBounds_toArray, List.set_cons_succ, List.set_cons_zero]
                obtain ⟨v4, P4⟩ := hS
                go_wp2_with fail
                exact ⟨⟨k + 1, v4, _, by omega, by simp, P4, HM.out.1, fun j hj hjk y hy => by rcases Nat.lt_succ_iff_lt_or_eq.1 hjk with hjk | rfl; exact HM.out.2.2 y (hG.out j hj hjk y hy); exact HM.out.2.1 y hy⟩, by simp [intOf]; omega⟩
            · obtain rfl : k = H.length := by omega
              obtain rfl : Q = [(0, z)] := mixed_all hM z0 (by omega) hmb.2.1 fun j hj y hy => hG.out j hj hj y hy
              clear hM hG
              go_wp2_with fail
              refine (runs_free _ _ _ _ _ _ _ hP.f).mono ?_
              rintro e w4 ⟨v4, rfl, ho4, e4⟩
              have P4 := hP.ext e4
              obtain ⟨A4, c4, rfl, hc4, -⟩ := Arr.own ho4
              have a4 := own_arr ho4
              clear hP e4 ho4
              go_wp2_with fail
              refine (same_any A4 (some ⟨w4.heap.size, 0, none⟩) c4 1 [(0, z)] [(0, z)] _ (a4.ext (by repeat first | (with_reducible exact Below.refl _ _) | (with_reducible apply Ext.alloc) | (with_reducible apply Ext.drew) | (with_reducible apply Ext.drewN) | (with_reducible refine Ext.set ?_ (by simp)))) (lit_arr w4 [(0, z)] _ rfl) (by simp) (by simp)).mono ?_
              rintro e w5 ⟨rfl, e5⟩
              rw [decide_eq_true rfl]
              have P5 := P4.ext ((Ext.alloc (Below.refl _ w4) _).then e5)
              clear P4 e5 a4
              go_wp2_with fail
              refine (most_free _ _ _ _ _ _ _ P5.f).mono ?_
              rintro e w6 ⟨rfl, e6⟩
              rw [mostR_one z (by omega)]
              have P6 := P5.ext e6
              clear P5 e6
              go_wp2_with fail
              go_ret
              exact ⟨rfl, P6.e⟩
set_option maxHeartbeats 4000000 in
set_option maxRecDepth 20000 in
theorem runs_long (n t : Int) (A : Option Addr) (c : Nat) (l : List Int) (w : World) (n0 : 0 ≤ n) (n1 : n < 256) (hl : 200 < l.length) :
    Calls Try.prog 5 #[.int .u8 n, .slice A l.length c, .int .u8 t] w fun e w' => e = .returned (.bool true) ∧ Ext w w' := by
  have hmb : mayBe 0 (16 * (1 + n)) := ⟨by omega, by omega, by omega, by omega, by omega⟩
  go_enter Try.func5, Try.ntmps5
  go_wp2_with fail
  refine (head_any _).mono ?_
  rintro e w1 ⟨rfl, b1⟩
  go_wp2_with fail
  refine (new_yes 0 (16 * (1 + n)) _ hmb).mono ?_
  rintro e w2 ⟨b2, p, v, rfl, hF⟩
  have E2 : Ext w w2 := b1.then b2
  have hg : decide ((l.length : Int) > 200) = true := decide_eq_true (by omega)
  clear b1 b2 hF
  go_wp2_with fail
  go_ret
  exact ⟨rfl, E2⟩
theorem runs_any12 (n t : Int) (A : Option Addr) (c : Nat) (l : List Int) (w : World) (h : Arr w A (l.map (.int .u8 ·))) (n0 : 0 ≤ n) (n1 : n < 256) (t0 : 0 ≤ t) (t1 : t < 256) (hwf : ∀ x ∈ l, 0 ≤ x ∧ x < 256) :
    Calls Try.prog 5 #[.int .u8 n, .slice A l.length c, .int .u8 t] w fun e w' => e = .returned (.bool true) ∧ Ext w w' := by
  by_cases hl : l.length ≤ 200
  · exact runs_short n t A c l w h n0 n1 t0 t1 hwf hl
  · exact runs_long n t A c l w n0 n1 (by omega)
end Go.Proofs.Ytipnkjegiiphnaa

/- ExtentOrder: its walk. -/
import Derived.Test.YtipnkjegiiphnaaTwo12
import Derived.Test.YtipnkjegiiphnaaPhi3
set_option linter.all false
namespace Go.Proofs.Ytipnkjegiiphnaa
open Go.RowKit

attribute [local go_sem] seen dstOf boolOf
set_option maxHeartbeats 4000000 in
set_option maxRecDepth 20000 in
theorem order_short (A B : Option Addr) (c d : Nat) (l : List Int) (m : List Bool) (w : World) (h : Arr w A (l.map (.int .u8 ·))) (hm : Arr w B (m.flatMap cell1b)) (hlc : l.length ≤ c) (hmc : m.length ≤ d) (hdm : d ≤ maxLen) (hwf : ∀ x ∈ l, 0 ≤ x ∧ x < 256) (hl : l.length ≤ 30) :
    Calls Try.prog 7 #[.slice A l.length c, .slice B m.length d] w fun e w' => e = .returned (.bool true) ∧ Ext w w' := by
  have hmb : mayBe 0 4096 := by decide
  obtain ⟨i0, hi, hz0, hz1, hz2⟩ := info_parts infoPair
  unfold maxLen at hdm
  go_enter Try.func7, Try.ntmps7
  go_wp2_with fail
  refine (head_any _).mono ?_
  rintro e w1 ⟨rfl, b1⟩
  go_wp2_with fail
  refine (new_yes 0 4096 _ hmb).mono ?_
  rintro e w2 ⟨b2, p, v, rfl, hF⟩
  have hbp : w.heap.size ≤ w1.heap.size := b1.size
  have E2 : Ext w w2 := b1.then b2
  clear b1 b2
  go_wp2_with fail
  refine (new_yes 0 4096 _ hmb).mono ?_
  rintro e w3 ⟨b3, q, u, rfl, hG⟩
  have hFG := free_ne hF (Nat.le_refl _) hG
  have P3 : Pair2 w w3 p q 0 4096 v u w1.heap.size w2.heap.size (startR 0 4096) (startR 0 4096) (.slice none 0 0) [] := ⟨hF.ext b3, hG, hFG.1, hFG.2, World.ownsRow_nil _ _ _ _, E2.then b3, hbp, E2.size⟩
  have hg : decide ((l.length : Int) > 30) = false := decide_eq_false (by omega)
  have HWF := wf_start hmb
  clear b3 E2 hF hbp hG
  go_wp2_with fail
  go_loopw [8, 9] (fun hv i wr => ∃ (j : Nat) (v u : Value) (R H : List Run), j ≤ l.length ∧ i = .int .i64 (j : Int) ∧ Pair2 w wr p q 0 4096 v u w1.heap.size w2.heap.size R R hv H ∧ H.length ≤ j ∧ Held 0 4096 R H) (fun _ i _ => l.length - (intOf i).toNat)
  case atStart => exact ⟨0, v, u, _, [], Nat.zero_le _, rfl, P3, Nat.le_refl _, held_nil HWF⟩
  case round =>
    obtain ⟨j, v, u, R, H, hj, rfl, hP, hHj, hH⟩ := hrel
    by_cases hlt : j < l.length
    · obtain ⟨z, hz⟩ : ∃ z, z = l[j] := ⟨_, rfl⟩
      obtain ⟨b1, o1, rfl, -, q1⟩ := (h.ext hP.e).open (by simp; omega)
      have x0 : wr.cell? ⟨b1, o1 + j, none⟩ = some (.int .u8 z) := by have := q1 j (by simpa using hlt); rw [List.getElem_map] at this; rw [hz]; exact this
      clear q1
      have hzw := hwf l[j] (List.getElem_mem hlt)
      rw [← hz] at hzw
      clear hz
      obtain ⟨z0, z1⟩ := hzw
      obtain ⟨S, hS⟩ : ∃ S, S = 16 * (1 + z % 8) := ⟨_, rfl⟩
      have HSS := Lib.hid hS
      clear hS
      have T1 := Lib.hid (take_two hP S)
      clear hP
      have HT := Lib.hid (fun ht => held_take (n := S) hH ht)
      have HN := Lib.hid (held_skip hH S)
      clear hH
      go_wp2_with fail
      rw [show (16 * (1 + z % 8) : Int) = S from HSS.out.symm]
      refine T1.out.mono ?_
      rintro e w4 ⟨rfl, v4, P4⟩
      have T2 := Lib.hid (take_two P4.swap S)
      clear T1 P4
      go_wp2_with fail
      refine T2.out.mono ?_
      rintro e w5 ⟨rfl, u5, P5⟩
      replace P5 := P5.swap
      have hsz := P5.e.size
      clear T2
      generalize takeR R S = X at *
      obtain ⟨R', at', is⟩ := X
      simp only at *
      have hns : H.length + 1 ≤ 140737488351232 := by omega
      cases is with
      | false =>
        clear HT
        go_wp2_with fail
        exact ⟨⟨j + 1, v4, u5, R', H, by omega, by simp, P5, by omega, HN.out⟩, by simp [intOf]; omega⟩
      | true =>
        by_cases hm1 : j < m.length
        · obtain ⟨b2, o2, rfl, -, q2⟩ := (hm.ext P5.e).flat (s := 1) (fun _ => rfl) (by decide) hm1
          have y0 : w5.cell? ⟨b2, o2 + j, none⟩ = some (.bool m[j]) := by simpa using q2 0 _ rfl
          clear q2
          have hge : decide ((j : Int) ≥ m.length) = false := decide_eq_false (by omega)
          obtain ⟨mb, hmb'⟩ : ∃ mb, mb = m[j] := ⟨_, rfl⟩
          rw [← hmb'] at y0
          clear hmb'
          cases mb with
          | true =>
            clear HT
            go_wp2_with fail
            exact ⟨⟨j + 1, v4, u5, R', H, by omega, by simp, P5, by omega, HN.out⟩, by simp [intOf]; omega⟩
          | false =>
            go_wp2_with (first
              | (at_builtin; refine wpList_append_own _ rfl (.tmp 88) (.tmp 92) 35 rfl w.heap.size 38 i0 (.agg #[.int .i64 0, .int .i64 0]) 2 16 Try.underlying35 hi hz0 hz1 hz2 rfl (by decide) _ _ _ rfl (P5.row.alloc _) ⟨w5.heap.size, 0, none⟩ 1 1 (cell2 (at', S)) rfl rfl (cells_new _ _ _ _ rfl) (by simp [Value.oneCell']) (by unfold maxLen; omega) (by omega) (by simp; omega) ?_; intro v' w6 hown' hgrow hnil))
            exact ⟨⟨j + 1, v4, u5, R', H ++ [(at', S)], by omega, by simp, P5.grown hgrow hown', by simp; omega, HT.out rfl⟩, by simp [intOf]; omega⟩
        · have hge : decide ((j : Int) ≥ m.length) = true := decide_eq_true (by omega)
          go_wp2_with (first
            | (at_builtin; refine wpList_append_own _ rfl (.tmp 88) (.tmp 92) 35 rfl w.heap.size 38 i0 (.agg #[.int .i64 0, .int .i64 0]) 2 16 Try.underlying35 hi hz0 hz1 hz2 rfl (by decide) _ _ _ rfl (P5.row.alloc _) ⟨w5.heap.size, 0, none⟩ 1 1 (cell2 (at', S)) rfl rfl (cells_new _ _ _ _ rfl) (by simp [Value.oneCell']) (by unfold maxLen; omega) (by omega) (by simp; omega) ?_; intro v' w6 hown' hgrow hnil))
          exact ⟨⟨j + 1, v4, u5, R', H ++ [(at', S)], by omega, by simp, P5.grown hgrow hown', by simp; omega, HT.out rfl⟩, by simp [intOf]; omega⟩
    · have : j = l.length := by omega
      subst this
      have HH := Lib.hid hH
      have hHl : H.length ≤ 30 := by omega
      obtain ⟨A8, c8, rfl, hc8, -⟩ := Arr.own hP.row
      have G0 := gave_start (H := H) hH.wf (S := (· < 0)) (fun j _ => Nat.not_lt_zero j)
      have G1 := gave_start (H := H) hH.wf (S := fun j => H.length ≤ j + 0) (fun j hj => by omega)
      clear hH
      go_wp2_with fail
      go_loopw [15] (fun i wr => ∃ (k : Nat) (v u : Value) (Q Q' : List Run), k ≤ H.length ∧ i = .int .i64 (k : Int) ∧ Pair2 w wr p q 0 4096 v u w1.heap.size w2.heap.size Q Q' (.slice A8 H.length c8) H ∧ Gave 0 4096 R H (· < k) Q ∧ Gave 0 4096 R H (fun j => H.length ≤ j + k) Q') (fun i _ => H.length - (intOf i).toNat)
      case atStart => exact ⟨0, v, u, R, R, Nat.zero_le _, rfl, hP, G0, G1⟩
      case round =>
        clear hP G0 G1
        obtain ⟨k, v, u, Q, Q', hk, rfl, hP, hQ, hQ'⟩ := hrel
        by_cases hlt : k < H.length
        · have hA := own_arr hP.row
          obtain ⟨r, hr⟩ : ∃ r : Nat, r = H.length - 1 - k := ⟨_, rfl⟩
          have hKl : r < H.length := by omega
          have hKi : (H.length : Int) - 1 - k = (r : Int) := by omega
          obtain ⟨b1, o1, rfl, -, x0, x1⟩ := own_at hA hlt
          clear hA hr
          obtain ⟨t1, g1⟩ := gave_step HH.out hQ hlt (Nat.lt_irrefl k) (S' := (· < k + 1)) (fun j hj => by omega)
          obtain ⟨t2, g2⟩ := gave_step HH.out hQ' hKl (by omega) (S' := fun j => H.length ≤ j + (k + 1)) (fun j hj => by omega)
          have C1 := Lib.hid fun W (hw : Ext wr W) => give_two (hP.ext hw) hQ.1 t1
          have C2 := Lib.hid fun w4 v4 (P4 : Pair2 w w4 p q 0 4096 v4 u w1.heap.size w2.heap.size (giveR 0 4096 Q H[k].1 H[k].2).1 Q' (.slice (some ⟨b1, o1, none⟩) H.length c8) H) W (hw : Ext w4 W) => give_two (P4.ext hw).swap hQ'.1 t2
          have HT := Lib.hid (And.intro g1 g2)
          have HKI := Lib.hid hKi
          clear t1 t2 g1 g2 hQ hQ' hKi hP
          go_wp2_with fail
          rw [HKI.out]
          refine wp_region_stage (fun _ _ : World => True) [11, 25] [(fun W => Ext wr W), (fun W => ∃ v4, Pair2 w W p q 0 4096 v4 u w1.heap.size w2.heap.size (giveR 0 4096 Q H[k].1 H[k].2).1 Q' (.slice (some ⟨b1, o1, none⟩) H.length c8) H), (fun W => ∃ v4 u4, Pair2 w W q p 0 4096 u4 v4 w2.heap.size w1.heap.size (giveR 0 4096 Q' H[r].1 H[r].2).1 (giveR 0 4096 Q H[k].1 H[k].2).1 (.slice (some ⟨b1, o1, none⟩) H.length c8) H)] [105, 106, 107, 108, 109, 110, 111, 112, 113, 114, 115, 116, 117, 118, 119, 120, 121, 122, 123, 124, 125, 126, 127, 128, 129, 130, 131, 132] (by kernel_rfl) (fun _ => trivial) (fun _ _ _ _ _ => trivial) (by kernel_rfl) (by kernel_rfl) (by kernel_rfl) ?start ?_
          case start => show Ext wr wr.drew; exact (by repeat first | (with_reducible exact Below.refl _ _) | (with_reducible apply Ext.alloc) | (with_reducible apply Ext.drew) | (with_reducible apply Ext.drewN) | (with_reducible refine Ext.set ?_ (by simp)))
          apply ex_is; apply Exists.intro
          apply ex_is; apply Exists.intro
          apply ex_is; apply Exists.intro
          apply ex_is; apply Exists.intro
          apply ex_is; apply Exists.intro
          apply ex_is; apply Exists.intro
          apply ex_is; apply Exists.intro
          apply ex_is; apply Exists.intro
          apply ex_is; apply Exists.intro
          apply ex_is; apply Exists.intro
          apply ex_is; apply Exists.intro
          apply ex_is; apply Exists.intro
          apply ex_is; apply Exists.intro
          apply ex_is; apply Exists.intro
          apply ex_is; apply Exists.intro
          apply ex_is; apply Exists.intro
          apply ex_is; apply Exists.intro
          apply ex_is; apply Exists.intro
          apply ex_is; apply Exists.intro
          apply ex_is; apply Exists.intro
          apply ex_is; apply Exists.intro
          apply ex_is; apply Exists.intro
          apply ex_is; apply Exists.intro
          apply ex_is; apply Exists.intro
          apply ex_is; apply Exists.intro
          apply ex_is; apply Exists.intro
          apply ex_is; apply Exists.intro
          apply ex_is; apply Exists.intro
          refine ⟨[], ⟨?steps, ?stab, ?ends⟩⟩
          case steps =>
            refine And.intro (stepC_pure (fun _ => trivial) (by kernel_rfl) ?_) ?_
            · intro a W hR hf ho K hK
              have G : a.tmps[6]?.getD undef = _ ∧ True := ho
              obtain ⟨g6, -⟩ := G
              clear ho hf
              go_simp
              exact hK _ (Eq.refl _)
            refine And.intro (stepC_pure (fun _ => trivial) (by kernel_rfl) ?_) ?_
            · intro a W hR hf ho K hK
              have G : a.tmps[8]?.getD undef = _ ∧ True := ho
              obtain ⟨g8, -⟩ := G
              clear ho hf
              go_simp
              exact hK _ (Eq.refl _)
            refine And.intro (stepC_pure (fun _ => trivial) (by kernel_rfl) ?_) ?_
            · intro a W hR hf ho K hK
              have G : a.tmps[15]?.getD undef = _ ∧ True := ho
              obtain ⟨g15, -⟩ := G
              clear ho hf
              go_simp
              exact hK _ (Eq.refl _)
            refine And.intro (stepC_pure (fun _ => trivial) (by kernel_rfl) ?_) ?_
            · intro a W hR hf ho K hK
              have F : a.tmps[106]?.getD undef = _ ∧ a.tmps[107]?.getD undef = _ ∧ True := hf
              obtain ⟨f1, f2, -⟩ := F
              clear ho hf
              go_simp
              exact hK _ (Eq.refl _)
            refine And.intro (stepC_pure (fun _ => trivial) (by kernel_rfl) ?_) ?_
            · intro a W hR hf ho K hK
              have F : a.tmps[108]?.getD undef = _ ∧ True := hf
              obtain ⟨f3, -⟩ := F
              clear ho hf
              go_simp
              exact hK _ (Eq.refl _)
            refine And.intro (stepC_at (pss := [[13, 11]]) (by kernel_rfl) (by decide) rfl 0 [] [5] (by kernel_rfl) 0 rfl (Or.inr (by kernel_rfl)) ?_) ?_
            · intro a W hR hS hf ho K hK
              replace hS : (fun W => Ext wr W) W := hS
              replace hK := fun (v : Value) (w' : World) (h1 : (fun _ _ : World => True) W w') h2 (h3 : (fun W => Ext wr W) w') => hK v w' h1 h2 h3
              have F : a.tmps[109]?.getD undef = _ ∧ True := hf
              obtain ⟨f4, -⟩ := F
              clear ho hf
              have c0 := ext_cell hS _ _ x0; have c1 := ext_cell hS _ _ x1
              go_simp
              exact hK _ _ (trivial) (Eq.refl _) hS
            refine And.intro (stepC_pure (fun _ => trivial) (by kernel_rfl) ?_) ?_
            · intro a W hR hf ho K hK
              have G : a.tmps[8]?.getD undef = _ ∧ True := ho
              obtain ⟨g8, -⟩ := G
              clear ho hf
              go_simp
              exact hK _ (Eq.refl _)
            refine And.intro (stepC_pure (fun _ => trivial) (by kernel_rfl) ?_) ?_
            · intro a W hR hf ho K hK
              have G : a.tmps[15]?.getD undef = _ ∧ True := ho
              obtain ⟨g15, -⟩ := G
              clear ho hf
              go_simp
              exact hK _ (Eq.refl _)
            refine And.intro (stepC_pure (fun _ => trivial) (by kernel_rfl) ?_) ?_
            · intro a W hR hf ho K hK
              have F : a.tmps[111]?.getD undef = _ ∧ a.tmps[112]?.getD undef = _ ∧ True := hf
              obtain ⟨f6, f7, -⟩ := F
              clear ho hf
              go_simp
              exact hK _ (Eq.refl _)
            refine And.intro (stepC_pure (fun _ => trivial) (by kernel_rfl) ?_) ?_
            · intro a W hR hf ho K hK
              have F : a.tmps[113]?.getD undef = _ ∧ True := hf
              obtain ⟨f8, -⟩ := F
              clear ho hf
              go_simp
              exact hK _ (Eq.refl _)
            refine And.intro (stepC_at (pss := [[13, 11]]) (by kernel_rfl) (by decide) rfl 0 [] [10] (by kernel_rfl) 0 rfl (Or.inr (by kernel_rfl)) ?_) ?_
            · intro a W hR hS hf ho K hK
              replace hS : (fun W => Ext wr W) W := hS
              replace hK := fun (v : Value) (w' : World) (h1 : (fun _ _ : World => True) W w') h2 (h3 : (fun W => Ext wr W) w') => hK v w' h1 h2 h3
              have F : a.tmps[114]?.getD undef = _ ∧ True := hf
              obtain ⟨f9, -⟩ := F
              clear ho hf
              have c0 := ext_cell hS _ _ x0; have c1 := ext_cell hS _ _ x1
              go_simp
              exact hK _ _ (trivial) (Eq.refl _) hS
            refine And.intro (stepC_at (pss := [[13, 11]]) (by kernel_rfl) (by decide) rfl 0 [] [] (by kernel_rfl) 1 rfl (Or.inl rfl) ?_) ?_
            · intro a W hR hS hf ho K hK
              replace hS : (fun W => Ext wr W) W := hS
              replace hK := fun (v : Value) (w' : World) (h1 : (fun _ _ : World => True) W w') h2 (h3 : (fun W => ∃ v4, Pair2 w W p q 0 4096 v4 u w1.heap.size w2.heap.size (giveR 0 4096 Q H[k].1 H[k].2).1 Q' (.slice (some ⟨b1, o1, none⟩) H.length c8) H) w') => hK v w' h1 h2 h3
              have F : a.tmps[105]?.getD undef = _ ∧ a.tmps[110]?.getD undef = _ ∧ a.tmps[115]?.getD undef = _ ∧ True := hf
              obtain ⟨f0, f5, f10, -⟩ := F
              clear ho hf
              go_simp
              refine (C1.out W hS).mono ?_; rintro e W1 ⟨rfl, v4, P4⟩; exact hK _ _ trivial (Eq.refl _) ⟨v4, P4⟩
            refine And.intro (stepC_pure (fun _ => trivial) (by kernel_rfl) ?_) ?_
            · intro a W hR hf ho K hK
              have F : a.tmps[116]?.getD undef = _ ∧ True := hf
              obtain ⟨f11, -⟩ := F
              clear ho hf
              go_simp
              exact hK _ (Eq.refl _)
            refine And.intro (stepC_pure (fun _ => trivial) (by kernel_rfl) ?_) ?_
            · intro a W hR hf ho K hK
              have F : a.tmps[117]?.getD undef = _ ∧ a.tmps[116]?.getD undef = _ ∧ True := hf
              obtain ⟨f12, f11, -⟩ := F
              clear ho hf
              go_simp
              exact hK _ (Eq.refl _)
            refine And.intro (stepC_pure (fun _ => trivial) (by kernel_rfl) ?_) ?_
            · intro a W hR hf ho K hK
              have G : a.tmps[7]?.getD undef = _ ∧ True := ho
              obtain ⟨g7, -⟩ := G
              have F : a.tmps[118]?.getD undef = _ ∧ True := hf
              obtain ⟨f13, -⟩ := F
              clear ho hf
              go_simp
              exact hK _ (Eq.refl _)
            refine And.intro (stepC_pure (fun _ => trivial) (by kernel_rfl) ?_) ?_
            · intro a W hR hf ho K hK
              have G : a.tmps[8]?.getD undef = _ ∧ True := ho
              obtain ⟨g8, -⟩ := G
              have F : a.tmps[118]?.getD undef = _ ∧ True := hf
              obtain ⟨f13, -⟩ := F
              clear ho hf
              go_simp
              exact hK _ (Eq.refl _)
            refine And.intro (stepC_pure (fun _ => trivial) (by kernel_rfl) ?_) ?_
            · intro a W hR hf ho K hK
              have G : a.tmps[16]?.getD undef = _ ∧ True := ho
              obtain ⟨g16, -⟩ := G
              have F : a.tmps[118]?.getD undef = _ ∧ True := hf
              obtain ⟨f13, -⟩ := F
              clear ho hf
              go_simp
              exact hK _ (Eq.refl _)
            refine And.intro (stepC_pure (fun _ => trivial) (by kernel_rfl) ?_) ?_
            · intro a W hR hf ho K hK
              have F : a.tmps[120]?.getD undef = _ ∧ a.tmps[121]?.getD undef = _ ∧ a.tmps[118]?.getD undef = _ ∧ True := hf
              obtain ⟨f15, f16, f13, -⟩ := F
              clear ho hf
              go_simp
              exact hK _ (Eq.refl _)
            refine And.intro (stepC_pure (fun _ => trivial) (by kernel_rfl) ?_) ?_
            · intro a W hR hf ho K hK
              have F : a.tmps[122]?.getD undef = _ ∧ a.tmps[118]?.getD undef = _ ∧ True := hf
              obtain ⟨f17, f13, -⟩ := F
              clear ho hf
              go_simp
              exact hK _ (Eq.refl _)
            refine And.intro (stepC_at (pss := [[13, 11]]) (by kernel_rfl) (by decide) rfl 1 [13, 11] [19] (by kernel_rfl) 1 rfl (Or.inr (by kernel_rfl)) ?_) ?_
            · intro a W hR hS hf ho K hK
              replace hS : (fun W => ∃ v4, Pair2 w W p q 0 4096 v4 u w1.heap.size w2.heap.size (giveR 0 4096 Q H[k].1 H[k].2).1 Q' (.slice (some ⟨b1, o1, none⟩) H.length c8) H) W := hS
              replace hK := fun (v : Value) (w' : World) (h1 : (fun _ _ : World => True) W w') h2 (h3 : (fun W => ∃ v4, Pair2 w W p q 0 4096 v4 u w1.heap.size w2.heap.size (giveR 0 4096 Q H[k].1 H[k].2).1 Q' (.slice (some ⟨b1, o1, none⟩) H.length c8) H) w') => hK v w' h1 h2 h3
              have F : a.tmps[123]?.getD undef = _ ∧ a.tmps[118]?.getD undef = _ ∧ True := hf
              obtain ⟨f18, f13, -⟩ := F
              clear ho hf
              obtain ⟨v4, P4⟩ := hS; obtain ⟨y0, y1⟩ := own_cells (own_arr P4.row) hKl
              go_simp
              exact hK _ _ trivial (Eq.refl _) ⟨v4, P4⟩
            refine And.intro (stepC_pure (fun _ => trivial) (by kernel_rfl) ?_) ?_
            · intro a W hR hf ho K hK
              have G : a.tmps[8]?.getD undef = _ ∧ True := ho
              obtain ⟨g8, -⟩ := G
              have F : a.tmps[118]?.getD undef = _ ∧ True := hf
              obtain ⟨f13, -⟩ := F
              clear ho hf
              go_simp
              exact hK _ (Eq.refl _)
            refine And.intro (stepC_pure (fun _ => trivial) (by kernel_rfl) ?_) ?_
            · intro a W hR hf ho K hK
              have G : a.tmps[16]?.getD undef = _ ∧ True := ho
              obtain ⟨g16, -⟩ := G
              have F : a.tmps[118]?.getD undef = _ ∧ True := hf
              obtain ⟨f13, -⟩ := F
              clear ho hf
              go_simp
              exact hK _ (Eq.refl _)
            refine And.intro (stepC_pure (fun _ => trivial) (by kernel_rfl) ?_) ?_
            · intro a W hR hf ho K hK
              have F : a.tmps[125]?.getD undef = _ ∧ a.tmps[126]?.getD undef = _ ∧ a.tmps[118]?.getD undef = _ ∧ True := hf
              obtain ⟨f20, f21, f13, -⟩ := F
              clear ho hf
              go_simp
              exact hK _ (Eq.refl _)
            refine And.intro (stepC_pure (fun _ => trivial) (by kernel_rfl) ?_) ?_
            · intro a W hR hf ho K hK
              have F : a.tmps[127]?.getD undef = _ ∧ a.tmps[118]?.getD undef = _ ∧ True := hf
              obtain ⟨f22, f13, -⟩ := F
              clear ho hf
              go_simp
              exact hK _ (Eq.refl _)
            refine And.intro (stepC_at (pss := [[13, 11]]) (by kernel_rfl) (by decide) rfl 1 [13, 11] [24] (by kernel_rfl) 1 rfl (Or.inr (by kernel_rfl)) ?_) ?_
            · intro a W hR hS hf ho K hK
              replace hS : (fun W => ∃ v4, Pair2 w W p q 0 4096 v4 u w1.heap.size w2.heap.size (giveR 0 4096 Q H[k].1 H[k].2).1 Q' (.slice (some ⟨b1, o1, none⟩) H.length c8) H) W := hS
              replace hK := fun (v : Value) (w' : World) (h1 : (fun _ _ : World => True) W w') h2 (h3 : (fun W => ∃ v4, Pair2 w W p q 0 4096 v4 u w1.heap.size w2.heap.size (giveR 0 4096 Q H[k].1 H[k].2).1 Q' (.slice (some ⟨b1, o1, none⟩) H.length c8) H) w') => hK v w' h1 h2 h3
              have F : a.tmps[128]?.getD undef = _ ∧ a.tmps[118]?.getD undef = _ ∧ True := hf
              obtain ⟨f23, f13, -⟩ := F
              clear ho hf
              obtain ⟨v4, P4⟩ := hS; obtain ⟨y0, y1⟩ := own_cells (own_arr P4.row) hKl
              go_simp
              exact hK _ _ trivial (Eq.refl _) ⟨v4, P4⟩
            refine And.intro (stepC_at (pss := [[13, 11]]) (by kernel_rfl) (by decide) rfl 1 [13, 11] [] (by kernel_rfl) 2 rfl (Or.inl rfl) ?_) ?_
            · intro a W hR hS hf ho K hK
              replace hS : (fun W => ∃ v4, Pair2 w W p q 0 4096 v4 u w1.heap.size w2.heap.size (giveR 0 4096 Q H[k].1 H[k].2).1 Q' (.slice (some ⟨b1, o1, none⟩) H.length c8) H) W := hS
              replace hK := fun (v : Value) (w' : World) (h1 : (fun _ _ : World => True) W w') h2 (h3 : (fun W => ∃ v4 u4, Pair2 w W q p 0 4096 u4 v4 w2.heap.size w1.heap.size (giveR 0 4096 Q' H[r].1 H[r].2).1 (giveR 0 4096 Q H[k].1 H[k].2).1 (.slice (some ⟨b1, o1, none⟩) H.length c8) H) w') => hK v w' h1 h2 h3
              have F : a.tmps[119]?.getD undef = _ ∧ a.tmps[124]?.getD undef = _ ∧ a.tmps[129]?.getD undef = _ ∧ a.tmps[118]?.getD undef = _ ∧ a.tmps[118]?.getD undef = _ ∧ True := hf
              obtain ⟨f14, f19, f24, f13, -, -⟩ := F
              clear ho hf
              go_simp
              obtain ⟨v4, P4⟩ := hS; refine (C2.out _ _ P4 W (Below.refl _ _)).mono ?_; rintro e W1 ⟨rfl, u4, P5⟩; exact hK _ _ trivial (Eq.refl _) ⟨v4, u4, P5⟩
            refine And.intro (stepC_pure (fun _ => trivial) (by kernel_rfl) ?_) ?_
            · intro a W hR hf ho K hK
              have F : a.tmps[130]?.getD undef = _ ∧ a.tmps[118]?.getD undef = _ ∧ True := hf
              obtain ⟨f25, f13, -⟩ := F
              clear ho hf
              go_simp
              exact hK _ (Eq.refl _)
            refine And.intro (stepC_pure (fun _ => trivial) (by kernel_rfl) ?_) ?_
            · intro a W hR hf ho K hK
              have F : a.tmps[118]?.getD undef = _ ∧ a.tmps[131]?.getD undef = _ ∧ True := hf
              obtain ⟨f13, f26, -⟩ := F
              clear ho hf
              go_simp
              exact hK _ (Eq.refl _)
            exact trivial
          case stab =>
            refine And.intro is_stable ?_
            refine And.intro is_stable ?_
            refine And.intro is_stable ?_
            refine And.intro is_stable ?_
            refine And.intro is_stable ?_
            refine And.intro is_stable ?_
            refine And.intro is_stable ?_
            refine And.intro is_stable ?_
            refine And.intro is_stable ?_
            refine And.intro is_stable ?_
            refine And.intro is_stable ?_
            refine And.intro is_stable ?_
            refine And.intro is_stable ?_
            refine And.intro is_stable ?_
            refine And.intro is_stable ?_
            refine And.intro is_stable ?_
            refine And.intro is_stable ?_
            refine And.intro is_stable ?_
            refine And.intro is_stable ?_
            refine And.intro is_stable ?_
            refine And.intro is_stable ?_
            refine And.intro is_stable ?_
            refine And.intro is_stable ?_
            refine And.intro is_stable ?_
            refine And.intro is_stable ?_
            refine And.intro is_stable ?_
            refine And.intro is_stable ?_
            refine And.intro is_stable ?_
            exact trivial
          case ends =>
            intro vals W hR hS hall
            replace hS : (fun W => ∃ v4 u4, Pair2 w W q p 0 4096 u4 v4 w2.heap.size w1.heap.size (giveR 0 4096 Q' H[r].1 H[r].2).1 (giveR 0 4096 Q H[k].1 H[k].2).1 (.slice (some ⟨b1, o1, none⟩) H.length c8) H) W := hS
            have e132 : vals 132 = _ := hall 27 (by decide)
            clear hall
            simp only [fill, List.setIfInBounds_toArray, List.set_cons_succ, List.set_cons_zero, e132]
            obtain ⟨v4, u4, P5⟩ := hS
            go_wp2_with fail
            exact ⟨⟨k + 1, v4, u4, _, _, by omega, by simp, P5.swap, HT.out.1, HT.out.2⟩, by simp [intOf]; omega⟩
        · obtain rfl : k = H.length := by omega
          obtain rfl : Q = Q' := gave_same hQ hQ' fun j hj => by omega
          clear hQ hQ'
          go_wp2_with fail
          refine (runs_free _ _ _ _ _ _ _ hP.f).mono ?_
          rintro e w4 ⟨v4, rfl, ho4, e4⟩
          have P4 := hP.ext e4
          obtain ⟨A4, c4, rfl, hc4, -⟩ := Arr.own ho4
          clear hP e4
          go_wp2_with fail
          refine (runs_free _ _ _ _ _ _ _ P4.g).mono ?_
          rintro e w5 ⟨v5, rfl, ho5, e5⟩
          have P5 := P4.ext e5
          have a4 := own_arr (own_ext ho4 e5)
          obtain ⟨A5, c5, rfl, hc5, -⟩ := Arr.own ho5
          have a5 := own_arr ho5
          have hQl := P5.f.len
          clear P4 e5 ho4 ho5
          go_wp2_with fail
          refine (same_any A4 A5 c4 c5 Q Q _ a4 a5 (by omega) (by omega)).mono ?_
          rintro e w6 ⟨rfl, e6⟩
          rw [decide_eq_true rfl]
          have P6 := P5.ext e6
          clear P5 e6 a4 a5
          go_wp2_with fail
          refine (all_free _ _ _ _ _ _ _ P6.f).mono ?_
          rintro e w7 ⟨rfl, e7⟩
          have P7 := P6.ext e7
          clear P6 e7
          go_wp2_with fail
          refine (all_free _ _ _ _ _ _ _ P7.g).mono ?_
          rintro e w8 ⟨rfl, e8⟩
          have P8 := P7.ext e8
          clear P7 e8
          go_wp2_with fail
          go_ret
          exact ⟨rfl, P8.e⟩
set_option maxHeartbeats 4000000 in
set_option maxRecDepth 20000 in
theorem order_long (A B : Option Addr) (c d : Nat) (l : List Int) (m : Nat) (w : World) (hl : 30 < l.length) :
    Calls Try.prog 7 #[.slice A l.length c, .slice B m d] w fun e w' => e = .returned (.bool true) ∧ Ext w w' := by
  have hmb : mayBe 0 4096 := by decide
  go_enter Try.func7, Try.ntmps7
  go_wp2_with fail
  refine (head_any _).mono ?_
  rintro e w1 ⟨rfl, b1⟩
  go_wp2_with fail
  refine (new_yes 0 4096 _ hmb).mono ?_
  rintro e w2 ⟨b2, p, v, rfl, hF⟩
  have E2 : Ext w w2 := b1.then b2
  clear b1 b2 hF
  go_wp2_with fail
  refine (new_yes 0 4096 _ hmb).mono ?_
  rintro e w3 ⟨b3, q, u, rfl, hG⟩
  have E3 : Ext w w3 := E2.then b3
  have hg : decide ((l.length : Int) > 30) = true := decide_eq_true (by omega)
  clear b3 E2 hG
  go_wp2_with fail
  go_ret
  exact ⟨rfl, E3⟩
theorem order_any (A B : Option Addr) (c d : Nat) (l : List Int) (m : List Bool) (w : World) (h : Arr w A (l.map (.int .u8 ·))) (hm : Arr w B (m.flatMap cell1b)) (hlc : l.length ≤ c) (hmc : m.length ≤ d) (hdm : d ≤ maxLen) (hwf : ∀ x ∈ l, 0 ≤ x ∧ x < 256) :
    Calls Try.prog 7 #[.slice A l.length c, .slice B m.length d] w fun e w' => e = .returned (.bool true) ∧ Ext w w' := by
  by_cases hl : l.length ≤ 30
  · exact order_short A B c d l m w h hm hlc hmc hdm hwf hl
  · exact order_long A B c d l m.length w (by omega)
end Go.Proofs.Ytipnkjegiiphnaa

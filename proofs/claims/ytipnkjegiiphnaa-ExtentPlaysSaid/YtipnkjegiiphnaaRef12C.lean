/- Package seizinref12: Most, Take. -/
import Derived.Test.YtipnkjegiiphnaaRef12B
set_option linter.all false
namespace Go.Proofs.Ytipnkjegiiphnaa
open Go.RowKit

attribute [local go_sem] seen dstOf boolOf
theorem all_fine {a b : Int} {R : List Run} (h : WF a b R) (ha : 0 ≤ a) (hb : b ≤ 16777216) : AllFine R := fun r hr => by
  obtain ⟨h1, h2, h3, -⟩ := h.2 r hr
  exact ⟨by omega, by omega, by omega, by omega⟩
set_option maxHeartbeats 4000000 in
theorem ref_most (q : Nat) (a : Int) (g : Nat) (F : List Bool) (R : List Run) (w : World) (h : RefAt w q a g F) (hR : Rep a F R) (ha : 0 ≤ a) (hb : a + 16 * F.length ≤ 16777216) :
    Calls Try.prog 18 #[.pointer (some ⟨q, 0, none⟩)] w fun e w' => e = .returned (.int .i64 (mostR R)) ∧ Ext w w' := by
  have hRl := wf_len hR.wf (by omega)
  have HF := Lib.hid (all_fine hR.wf ha hb)
  go_enter Try.func18, Try.ntmps18
  go_wp2_with fail
  refine (ref_runs q a g F R _ h hR ha hb).mono ?_
  rintro e w4 ⟨v4, rfl, ho4, e4⟩
  obtain ⟨A4, c4, rfl, hc4, -⟩ := Arr.own ho4
  have a4 := own_arr ho4
  clear h hR ho4
  go_wp2_with fail
  go_loopw [3, 5] (fun s i wr => ∃ k n : Nat, k ≤ R.length ∧ i = .int .i64 (k : Int) ∧ s = .int .i64 (mostR (R.take k)) ∧ wr = w4.drewN n) (fun _ i _ => R.length - (intOf i).toNat)
  case atStart => exact ⟨0, 0, Nat.zero_le _, rfl, rfl, rfl⟩
  case round =>
    obtain ⟨k, n, hk, rfl, rfl, rfl⟩ := hrel
    by_cases hlt : k < R.length
    · obtain ⟨b8, o8, rfl, -, y0, y1⟩ := own_at a4 hlt
      have hff := HF.out R[k] (List.getElem_mem hlt)
      have hw1 : IntKind.i64.wrap (R[k].2 - R[k].1) = R[k].2 - R[k].1 := IntWalk.i64_in _ (by obtain ⟨f0, f1, f2, f3⟩ := hff; omega)
      have HM := Lib.hid (mostR_take hlt)
      clear hff
      go_wp2_with fail
      refine wp_region_stage (fun _ _ : World => True) [] [(fun (_ : Nat → Value) (W : World) => W = w4.drewN (n + 1))] [14, 15, 16, 17, 18, 19, 20, 21, 22, 23, 24, 25, 26, 3] (by kernel_rfl) (fun _ => trivial) (fun _ _ _ _ _ => trivial) (by kernel_rfl) (by kernel_rfl) (by kernel_rfl) ?start ?_
      case start => show _ = _; simp
      apply ex_is; apply Exists.intro
      apply ex_is; apply Exists.intro
      apply ex_is; apply Exists.intro
      apply ex_is; apply Exists.intro
      apply ex_is; apply Exists.intro
      apply ex_is; apply Exists.intro
      apply ex_is; apply Exists.intro
      apply ex_is; apply Exists.intro
      apply ex_is; apply Exists.intro
      apply ex_is; apply Exists.intro
      apply ex_is; apply Exists.intro
      apply ex_is; apply Exists.intro
      apply ex_is; apply Exists.intro
      apply ex_is; apply Exists.intro
      refine ⟨[], ⟨?steps, ?stab, ?ends⟩⟩
      case steps =>
        refine And.intro (stepC_pure (fun _ => trivial) (by kernel_rfl) ?_) ?_
        · intro act W hR hf ho K hK
          have G : act.tmps[3]?.getD undef = _ ∧ True := ho
          obtain ⟨g3, -⟩ := G
          clear ho hf
          go_simp
          exact hK _ (Eq.refl _)
        refine And.intro (stepC_pure (fun _ => trivial) (by kernel_rfl) ?_) ?_
        · intro act W hR hf ho K hK
          have G : act.tmps[4]?.getD undef = _ ∧ True := ho
          obtain ⟨g4, -⟩ := G
          clear ho hf
          go_simp
          exact hK _ (Eq.refl _)
        refine And.intro (stepC_pure (fun _ => trivial) (by kernel_rfl) ?_) ?_
        · intro act W hR hf ho K hK
          have G : act.tmps[5]?.getD undef = _ ∧ True := ho
          obtain ⟨g5, -⟩ := G
          clear ho hf
          go_simp
          exact hK _ (Eq.refl _)
        refine And.intro (stepC_pure (fun _ => trivial) (by kernel_rfl) ?_) ?_
        · intro act W hR hf ho K hK
          have F : act.tmps[15]?.getD undef = _ ∧ act.tmps[16]?.getD undef = _ ∧ True := hf
          obtain ⟨f1, f2, -⟩ := F
          clear ho hf
          go_simp
          exact hK _ (Eq.refl _)
        refine And.intro (stepC_pure (fun _ => trivial) (by kernel_rfl) ?_) ?_
        · intro act W hR hf ho K hK
          have F : act.tmps[17]?.getD undef = _ ∧ True := hf
          obtain ⟨f3, -⟩ := F
          clear ho hf
          go_simp
          exact hK _ (Eq.refl _)
        refine And.intro (stepC_stay (pss := []) (by kernel_rfl) rfl 0 [] [] (by kernel_rfl) (by kernel_rfl) ?_) ?_
        · intro act W uu hu hR hS hf ho K hK
          replace hS : (fun (_ : Nat → Value) (W : World) => W = w4.drewN (n + 1)) uu W := hS
          replace hK := fun (v : Value) (w' : World) (h1 : (fun _ _ : World => True) W w') h2 (h3 : (fun (_ : Nat → Value) (W : World) => W = w4.drewN (n + 1)) uu w') => hK v w' h1 h2 h3
          have F : act.tmps[18]?.getD undef = _ ∧ True := hf
          obtain ⟨f4, -⟩ := F
          clear hu
          clear ho hf
          obtain rfl := hS
          go_simp
          exact hK _ _ trivial (Eq.refl _) (by first | rfl | exact hS)
        refine And.intro (stepC_pure (fun _ => trivial) (by kernel_rfl) ?_) ?_
        · intro act W hR hf ho K hK
          have G : act.tmps[4]?.getD undef = _ ∧ True := ho
          obtain ⟨g4, -⟩ := G
          clear ho hf
          go_simp
          exact hK _ (Eq.refl _)
        refine And.intro (stepC_pure (fun _ => trivial) (by kernel_rfl) ?_) ?_
        · intro act W hR hf ho K hK
          have G : act.tmps[5]?.getD undef = _ ∧ True := ho
          obtain ⟨g5, -⟩ := G
          clear ho hf
          go_simp
          exact hK _ (Eq.refl _)
        refine And.intro (stepC_pure (fun _ => trivial) (by kernel_rfl) ?_) ?_
        · intro act W hR hf ho K hK
          have F : act.tmps[20]?.getD undef = _ ∧ act.tmps[21]?.getD undef = _ ∧ True := hf
          obtain ⟨f6, f7, -⟩ := F
          clear ho hf
          go_simp
          exact hK _ (Eq.refl _)
        refine And.intro (stepC_pure (fun _ => trivial) (by kernel_rfl) ?_) ?_
        · intro act W hR hf ho K hK
          have F : act.tmps[22]?.getD undef = _ ∧ True := hf
          obtain ⟨f8, -⟩ := F
          clear ho hf
          go_simp
          exact hK _ (Eq.refl _)
        refine And.intro (stepC_stay (pss := []) (by kernel_rfl) rfl 0 [] [] (by kernel_rfl) (by kernel_rfl) ?_) ?_
        · intro act W uu hu hR hS hf ho K hK
          replace hS : (fun (_ : Nat → Value) (W : World) => W = w4.drewN (n + 1)) uu W := hS
          replace hK := fun (v : Value) (w' : World) (h1 : (fun _ _ : World => True) W w') h2 (h3 : (fun (_ : Nat → Value) (W : World) => W = w4.drewN (n + 1)) uu w') => hK v w' h1 h2 h3
          have F : act.tmps[23]?.getD undef = _ ∧ True := hf
          obtain ⟨f9, -⟩ := F
          clear hu
          clear ho hf
          obtain rfl := hS
          go_simp
          exact hK _ _ trivial (Eq.refl _) (by first | rfl | exact hS)
        refine And.intro (stepC_pure (fun _ => trivial) (by kernel_rfl) ?_) ?_
        · intro act W hR hf ho K hK
          have F : act.tmps[19]?.getD undef = _ ∧ act.tmps[24]?.getD undef = _ ∧ True := hf
          obtain ⟨f5, f10, -⟩ := F
          clear ho hf
          go_simp
          exact hK _ (Eq.refl _)
        refine And.intro (stepC_stay (pss := []) (by kernel_rfl) rfl 0 [] [] (by kernel_rfl) (by kernel_rfl) ?_) ?_
        · intro act W uu hu hR hS hf ho K hK
          replace hS : (fun (_ : Nat → Value) (W : World) => W = w4.drewN (n + 1)) uu W := hS
          replace hK := fun (v : Value) (w' : World) (h1 : (fun _ _ : World => True) W w') h2 (h3 : (fun (_ : Nat → Value) (W : World) => W = w4.drewN (n + 1)) uu w') => hK v w' h1 h2 h3
          have F : act.tmps[14]?.getD undef = _ ∧ act.tmps[25]?.getD undef = _ ∧ True := hf
          obtain ⟨f0, f11, -⟩ := F
          clear hu
          clear ho hf
          go_simp
          exact hK _ _ trivial (Eq.refl _) (by first | rfl | exact hS)
        refine And.intro (stepC_pure (fun _ => trivial) (by kernel_rfl) ?_) ?_
        · intro act W hR hf ho K hK
          have F : act.tmps[26]?.getD undef = _ ∧ act.tmps[14]?.getD undef = _ ∧ act.tmps[15]?.getD undef = _ ∧ act.tmps[16]?.getD undef = _ ∧ act.tmps[17]?.getD undef = _ ∧ act.tmps[18]?.getD undef = _ ∧ act.tmps[19]?.getD undef = _ ∧ act.tmps[20]?.getD undef = _ ∧ act.tmps[21]?.getD undef = _ ∧ act.tmps[22]?.getD undef = _ ∧ act.tmps[23]?.getD undef = _ ∧ act.tmps[24]?.getD undef = _ ∧ act.tmps[25]?.getD undef = _ ∧ act.tmps[26]?.getD undef = _ ∧ True := hf
          obtain ⟨f12, f0, f1, f2, f3, f4, f5, f6, f7, f8, f9, f10, f11, -, -⟩ := F
          clear ho hf
          go_simp
          exact hK _ (Eq.refl _)
        exact trivial
      case stab =>
        refine And.intro is_stable ?_
        refine And.intro is_stable ?_
        refine And.intro is_stable ?_
        refine And.intro is_stable ?_
        refine And.intro is_stable ?_
        refine And.intro is_stable ?_
        refine And.intro is_stable ?_
        refine And.intro is_stable ?_
        refine And.intro is_stable ?_
        refine And.intro is_stable ?_
        refine And.intro is_stable ?_
        refine And.intro is_stable ?_
        refine And.intro is_stable ?_
        refine And.intro is_stable ?_
        exact trivial
      case ends =>
        intro vals W uu hu hR hS hall
        replace hS : (fun (_ : Nat → Value) (W : World) => W = w4.drewN (n + 1)) uu W := hS
        clear hu
        have e3 : vals 3 = _ := hall 13 (by decide)
        clear hall
        simp only [fill, List.setIfInBounds_toArray, List.set_cons_succ, List.set_cons_zero, e3]
        obtain rfl := hS
        go_wp2_with fail
        exact ⟨⟨k + 1, _, hlt, by simp, by show Value.int .i64 _ = _; rw [HM.out, Int.max_def]; congr 1; split <;> split <;> omega, rfl⟩, by simp [intOf]; omega⟩
    · obtain rfl : k = R.length := by omega
      rw [List.take_length]
      go_wp2_with fail
      go_ret
      exact ⟨rfl, Ext.drewN e4 _⟩
theorem Kept.drewN {p : Nat} {r : Option Nat} {w w' : World} (h : Kept p r w w') (n : Nat) : Kept p r w (w'.drewN n) := ⟨h.os, h.tape, h.output, h.size, h.block⟩
def RefTake (q : Nat) (a : Int) (g : Nat) (F : List Bool) (R : List Run) (n : Int) (w : World) (e : Ending) (w' : World) : Prop :=
  e = .returned (.tuple #[.int .i64 (takeR R n).2.1, .bool (takeR R n).2.2]) ∧ ∃ F', RefAt w' q a g F' ∧ Rep a F' (takeR R n).1 ∧ F'.length = F.length ∧ Kept g none w w'
set_option maxHeartbeats 4000000 in
theorem ref_take (q : Nat) (a : Int) (g : Nat) (F : List Bool) (R : List Run) (n : Int) (w : World) (h : RefAt w q a g F) (hR : Rep a F R) (ha : 0 ≤ a) (hb : a + 16 * F.length ≤ 16777216) (hn : -9223372036854775808 ≤ n ∧ n ≤ 9223372036854775807) :
    Calls Try.prog 12 #[.pointer (some ⟨q, 0, none⟩), .int .i64 n] w (RefTake q a g F R n w) := by
  by_cases hbad : n < 1 ∨ n % 16 ≠ 0
  · have ht : takeR R n = (R, 0, false) := by unfold takeR; rw [if_pos hbad]
    have HT := Lib.hid ht
    clear ht
    by_cases hl : n < 1
    · have hd : decide (n < 1) = true := decide_eq_true hl
      go_enter Try.func12, Try.ntmps12
      go_wp2_with fail
      go_ret2
      exact ⟨by rw [HT.out]; rfl, F, h, by rw [HT.out]; exact hR, rfl, Kept.of_ext (Below.refl _ _)⟩
    · have hl' : 1 ≤ n := by omega
      have hd : decide (n < 1) = false := decide_eq_false hl
      have hne : (n % 16 != 0) = true := by rw [bne_iff_ne]; omega
      go_enter Try.func12, Try.ntmps12
      go_wp2_with fail
      go_ret2
      exact ⟨by rw [HT.out]; rfl, F, h, by rw [HT.out]; exact hR, rfl, Kept.of_ext (Below.refl _ _)⟩
  · obtain ⟨n1, n16⟩ : 1 ≤ n ∧ n % 16 = 0 := by omega
    have htm : n.tmod 16 = 0 := tmod_zero.2 n16
    have hl1 : decide (n < 1) = false := decide_eq_false (by omega)
    have hRl := wf_len hR.wf (by omega)
    have HF := Lib.hid (all_fine hR.wf ha hb)
    have hTF := fun (i : Nat) (hi : i < R.length) hf hnn => take_first (R := R) n1 n16 hi hf hnn
    have hTN : (∀ j (hj : j < R.length), ¬ n ≤ R[j].2 - R[j].1) → (takeR R n) = (R, 0, false) := fun hall => by
      unfold takeR
      rw [if_neg (by omega)]
      have : R.findIdx? (fitsR n) = none := by
        rw [List.findIdx?_eq_none_iff]
        intro r hr
        obtain ⟨j, hj, rfl⟩ := List.getElem_of_mem hr
        simp [fitsR]
        have := hall j hj
        omega
      rw [this]
    have HTF := Lib.hid (And.intro hTF hTN)
    have HN16 := Lib.hid n16
    clear hTF hTN n16
    go_enter Try.func12, Try.ntmps12
    go_wp2_with fail
    refine (ref_runs q a g F R _ h hR ha hb).mono ?_
    rintro e w4 ⟨v4, rfl, ho4, e4⟩
    obtain ⟨A4, c4, rfl, hc4, -⟩ := Arr.own ho4
    have a4 := own_arr ho4
    have H4 := Lib.hid (h.ext e4)
    have HR := Lib.hid hR
    clear h hR ho4
    go_wp2_with fail
    go_loopw [7] (fun i wr => ∃ k m : Nat, k ≤ R.length ∧ i = .int .i64 (k : Int) ∧ wr = w4.drewN m ∧ Hid (∀ j (hj : j < R.length), j < k → ¬ n ≤ R[j].2 - R[j].1)) (fun i _ => R.length - (intOf i).toNat)
    case atStart => exact ⟨0, 0, Nat.zero_le _, rfl, rfl, Lib.hid fun j _ hj => by omega⟩
    case round =>
      obtain ⟨k, m, hk, rfl, rfl, hall⟩ := hrel
      by_cases hlt : k < R.length
      · obtain ⟨b8, o8, rfl, -, y0, y1⟩ := own_at a4 hlt
        have hff := HF.out R[k] (List.getElem_mem hlt)
        have hw1 : IntKind.i64.wrap (R[k].2 - R[k].1) = R[k].2 - R[k].1 := IntWalk.i64_in _ (by obtain ⟨f0, f1, f2, f3⟩ := hff; omega)
        by_cases hfit : n ≤ R[k].2 - R[k].1
        · have hge : decide (R[k].2 - R[k].1 ≥ n) = true := decide_eq_true hfit
          obtain ⟨t1, t2⟩ := HTF.out.1 k hlt hfit (fun j hj hjk => by have := hall.out j hj hjk; omega)
          obtain ⟨v1, v2, v3, v4', v5⟩ := HR.out.wf.2 R[k] (List.getElem_mem hlt)
          have ha16 := HR.out.a16
          obtain ⟨s, hs⟩ : ∃ s : Nat, a + 16 * (s : Int) = R[k].1 := ⟨((R[k].1 - a) / 16).toNat, by omega⟩
          obtain ⟨N, hN⟩ : ∃ N : Nat, 16 * (N : Int) = n := ⟨(n / 16).toNat, by have := HN16.out; omega⟩
          obtain ⟨hsk, hrep⟩ := rep_take HR.out t2 (s := s) (k := N) (by rw [t1]; exact hs) hN
          have hq : n / 16 = (N : Int) := by omega
          have hd1 : (R[k].1 - a) / 16 = (s : Int) := by omega
          have hd2 : (R[k].1 - a).tdiv 16 = (s : Int) := by rw [Int.tdiv_eq_ediv_of_nonneg (by omega)]; exact hd1
          have hw0 : IntKind.i64.wrap (R[k].1 - a) = R[k].1 - a := IntWalk.i64_in _ (by omega)
          have hwd : IntKind.i64.wrap (s : Int) = s := IntWalk.i64_in _ (by omega)
          have HREP := Lib.hid (And.intro t1 (And.intro t2 (And.intro hrep hs)))
          have hNF : N ≤ F.length := by omega
          clear t1 t2 v1 v2 v3 v4' v5 ha16 hrep hs hN
          go_wp2_with fail
          refine wp_region_stage (fun _ _ : World => True) [] [(fun (_ : Nat → Value) (W : World) => W = w4.drewN (m + 1))] [25, 26, 27, 28, 29, 30, 31, 32, 33, 34, 35, 36, 37] (by kernel_rfl) (fun _ => trivial) (fun _ _ _ _ _ => trivial) (by kernel_rfl) (by kernel_rfl) (by kernel_rfl) ?start ?_
          case start => show _ = _; simp
          apply ex_is; apply Exists.intro
          apply ex_is; apply Exists.intro
          apply ex_is; apply Exists.intro
          apply ex_is; apply Exists.intro
          apply ex_is; apply Exists.intro
          apply ex_is; apply Exists.intro
          apply ex_is; apply Exists.intro
          apply ex_is; apply Exists.intro
          apply ex_is; apply Exists.intro
          apply ex_is; apply Exists.intro
          apply ex_is; apply Exists.intro
          apply ex_is; apply Exists.intro
          apply ex_is; apply Exists.intro
          refine ⟨[], ⟨?steps, ?stab, ?ends⟩⟩
          case steps =>
            refine And.intro (stepC_pure (fun _ => trivial) (by kernel_rfl) ?_) ?_
            · intro act W hR hf ho K hK
              have G : act.tmps[6]?.getD undef = _ ∧ True := ho
              obtain ⟨g6, -⟩ := G
              clear ho hf
              go_simp
              exact hK _ (Eq.refl _)
            refine And.intro (stepC_pure (fun _ => trivial) (by kernel_rfl) ?_) ?_
            · intro act W hR hf ho K hK
              have G : act.tmps[7]?.getD undef = _ ∧ True := ho
              obtain ⟨g7, -⟩ := G
              clear ho hf
              go_simp
              exact hK _ (Eq.refl _)
            refine And.intro (stepC_pure (fun _ => trivial) (by kernel_rfl) ?_) ?_
            · intro act W hR hf ho K hK
              have F : act.tmps[25]?.getD undef = _ ∧ act.tmps[26]?.getD undef = _ ∧ True := hf
              obtain ⟨f0, f1, -⟩ := F
              clear ho hf
              go_simp
              exact hK _ (Eq.refl _)
            refine And.intro (stepC_pure (fun _ => trivial) (by kernel_rfl) ?_) ?_
            · intro act W hR hf ho K hK
              have F : act.tmps[27]?.getD undef = _ ∧ True := hf
              obtain ⟨f2, -⟩ := F
              clear ho hf
              go_simp
              exact hK _ (Eq.refl _)
            refine And.intro (stepC_stay (pss := []) (by kernel_rfl) rfl 0 [] [] (by kernel_rfl) (by kernel_rfl) ?_) ?_
            · intro act W uu hu hR hS hf ho K hK
              replace hS : (fun (_ : Nat → Value) (W : World) => W = w4.drewN (m + 1)) uu W := hS
              replace hK := fun (v : Value) (w' : World) (h1 : (fun _ _ : World => True) W w') h2 (h3 : (fun (_ : Nat → Value) (W : World) => W = w4.drewN (m + 1)) uu w') => hK v w' h1 h2 h3
              have F : act.tmps[28]?.getD undef = _ ∧ True := hf
              obtain ⟨f3, -⟩ := F
              clear hu
              clear ho hf
              obtain rfl := hS
              go_simp
              exact hK _ _ trivial (Eq.refl _) rfl
            refine And.intro (stepC_pure (fun _ => trivial) (by kernel_rfl) ?_) ?_
            · intro act W hR hf ho K hK
              have G : act.tmps[6]?.getD undef = _ ∧ True := ho
              obtain ⟨g6, -⟩ := G
              clear ho hf
              go_simp
              exact hK _ (Eq.refl _)
            refine And.intro (stepC_pure (fun _ => trivial) (by kernel_rfl) ?_) ?_
            · intro act W hR hf ho K hK
              have G : act.tmps[7]?.getD undef = _ ∧ True := ho
              obtain ⟨g7, -⟩ := G
              clear ho hf
              go_simp
              exact hK _ (Eq.refl _)
            refine And.intro (stepC_pure (fun _ => trivial) (by kernel_rfl) ?_) ?_
            · intro act W hR hf ho K hK
              have F : act.tmps[30]?.getD undef = _ ∧ act.tmps[31]?.getD undef = _ ∧ True := hf
              obtain ⟨f5, f6, -⟩ := F
              clear ho hf
              go_simp
              exact hK _ (Eq.refl _)
            refine And.intro (stepC_pure (fun _ => trivial) (by kernel_rfl) ?_) ?_
            · intro act W hR hf ho K hK
              have F : act.tmps[32]?.getD undef = _ ∧ True := hf
              obtain ⟨f7, -⟩ := F
              clear ho hf
              go_simp
              exact hK _ (Eq.refl _)
            refine And.intro (stepC_stay (pss := []) (by kernel_rfl) rfl 0 [] [] (by kernel_rfl) (by kernel_rfl) ?_) ?_
            · intro act W uu hu hR hS hf ho K hK
              replace hS : (fun (_ : Nat → Value) (W : World) => W = w4.drewN (m + 1)) uu W := hS
              replace hK := fun (v : Value) (w' : World) (h1 : (fun _ _ : World => True) W w') h2 (h3 : (fun (_ : Nat → Value) (W : World) => W = w4.drewN (m + 1)) uu w') => hK v w' h1 h2 h3
              have F : act.tmps[33]?.getD undef = _ ∧ True := hf
              obtain ⟨f8, -⟩ := F
              clear hu
              clear ho hf
              obtain rfl := hS
              go_simp
              exact hK _ _ trivial (Eq.refl _) rfl
            refine And.intro (stepC_pure (fun _ => trivial) (by kernel_rfl) ?_) ?_
            · intro act W hR hf ho K hK
              have F : act.tmps[29]?.getD undef = _ ∧ act.tmps[34]?.getD undef = _ ∧ True := hf
              obtain ⟨f4, f9, -⟩ := F
              clear ho hf
              go_simp
              exact hK _ (Eq.refl _)
            refine And.intro (stepC_pure (fun _ => trivial) (by kernel_rfl) ?_) ?_
            · intro act W hR hf ho K hK
              have G : act.tmps[1]?.getD undef = _ ∧ True := ho
              obtain ⟨g1, -⟩ := G
              clear ho hf
              go_simp
              exact hK _ (Eq.refl _)
            refine And.intro (stepC_pure (fun _ => trivial) (by kernel_rfl) ?_) ?_
            · intro act W hR hf ho K hK
              have F : act.tmps[35]?.getD undef = _ ∧ act.tmps[36]?.getD undef = _ ∧ True := hf
              obtain ⟨f10, f11, -⟩ := F
              clear ho hf
              go_simp
              exact hK _ (Eq.refl _)
            exact trivial
          case stab =>
            refine And.intro is_stable ?_
            refine And.intro is_stable ?_
            refine And.intro is_stable ?_
            refine And.intro is_stable ?_
            refine And.intro is_stable ?_
            refine And.intro is_stable ?_
            refine And.intro is_stable ?_
            refine And.intro is_stable ?_
            refine And.intro is_stable ?_
            refine And.intro is_stable ?_
            refine And.intro is_stable ?_
            refine And.intro is_stable ?_
            refine And.intro is_stable ?_
            exact trivial
          case ends =>
            intro vals W uu hu hR hS hall
            replace hS : (fun (_ : Nat → Value) (W : World) => W = w4.drewN (m + 1)) uu W := hS
            clear hu
            have e37 : vals 37 = _ := hall 12 (by decide)
            clear hall
            simp only [fill, List.setIfInBounds_toArray, List.set_cons_succ, List.set_cons_zero, e37]
            obtain rfl := hS
            go_wp2_with fail
            go_loopw [9] (fun i wr => ∃ x : Nat, x ≤ N ∧ i = .int .i64 (x : Int) ∧ RefAt wr q a g (setR F s false x) ∧ Kept g none w wr) (fun i _ => N - (intOf i).toNat)
            case atStart => exact ⟨0, Nat.zero_le _, rfl, H4.out.drew _, (Kept.of_ext e4).drewN _⟩
            case round =>
              obtain ⟨x, hx, rfl, hA, hE⟩ := hrel
              have c0 := hA.c0
              have c1 := hA.c1
              rw [setR_len] at c1
              by_cases hxl : x < N
              · have hsx : s + x < (setR F s false x).length := by rw [setR_len]; omega
                have x0 := hA.at hsx
                have xf := hA.free (i := s + x)
                have HS := Lib.hid (hA.set hsx false)
                have hlx : s + x < F.length := by omega
                have hw3 : IntKind.i64.wrap ((s : Int) + (x : Int)) = ((s + x : Nat) : Int) := by rw [IntWalk.i64_in _ (by omega)]; rfl
                have HE := Lib.hid hE
                have hp0 : (0 : Int) ≤ (s : Int) + (x : Int) := by omega
                have hp1 : (s : Int) + (x : Int) < (F.length : Int) := by omega
                have hp2 : ((s : Int) + (x : Int)).toNat = s + x := by omega
                clear hA hE
                go_wp2_with fail
                refine wp_region_stage (fun _ _ : World => True) [14] [(fun (_ : Nat → Value) (W : World) => W = wr.drew), (fun (_ : Nat → Value) (W : World) => W = (wr.setCell ⟨g, s + x, none⟩ (.bool false)).drew)] [49, 50, 51, 52, 53, 54, 55, 56, 57, 58, 59, 60, 61, 62] (by kernel_rfl) (fun _ => trivial) (fun _ _ _ _ _ => trivial) (by kernel_rfl) (by kernel_rfl) (by kernel_rfl) ?start ?_
                case start => rfl
                apply ex_is; apply Exists.intro
                apply ex_is; apply Exists.intro
                apply ex_is; apply Exists.intro
                apply ex_is; apply Exists.intro
                apply ex_is; apply Exists.intro
                apply ex_is; apply Exists.intro
                apply ex_is; apply Exists.intro
                apply ex_is; apply Exists.intro
                apply ex_is; apply Exists.intro
                apply ex_is; apply Exists.intro
                apply ex_is; apply Exists.intro
                apply ex_is; apply Exists.intro
                apply ex_is; apply Exists.intro
                apply ex_is; apply Exists.intro
                apply ex_is; apply Exists.intro
                refine ⟨[], ⟨?steps, ?stab, ?ends⟩⟩
                case steps =>
                  refine And.intro (stepC_pure (fun _ => trivial) (by kernel_rfl) ?_) ?_
                  · intro act W hR hf ho K hK
                    have G : act.tmps[0]?.getD undef = _ ∧ True := ho
                    obtain ⟨g0, -⟩ := G
                    clear ho hf
                    go_simp
                    exact hK _ (Eq.refl _)
                  refine And.intro (stepC_pure (fun _ => trivial) (by kernel_rfl) ?_) ?_
                  · intro act W hR hf ho K hK
                    have F : act.tmps[49]?.getD undef = _ ∧ True := hf
                    obtain ⟨f0, -⟩ := F
                    clear ho hf
                    go_simp
                    exact hK _ (Eq.refl _)
                  refine And.intro (stepC_pure (fun _ => trivial) (by kernel_rfl) ?_) ?_
                  · intro act W hR hf ho K hK
                    have F : act.tmps[50]?.getD undef = _ ∧ True := hf
                    obtain ⟨f1, -⟩ := F
                    clear ho hf
                    go_simp
                    exact hK _ (Eq.refl _)
                  refine And.intro (stepC_stay (pss := []) (by kernel_rfl) rfl 0 [] [3] (by kernel_rfl) (by kernel_rfl) ?_) ?_
                  · intro act W uu hu hR hS hf ho K hK
                    replace hS : (fun (_ : Nat → Value) (W : World) => W = wr.drew) uu W := hS
                    replace hK := fun (v : Value) (w' : World) (h1 : (fun _ _ : World => True) W w') h2 (h3 : (fun (_ : Nat → Value) (W : World) => W = wr.drew) uu w') => hK v w' h1 h2 h3
                    have F : act.tmps[51]?.getD undef = _ ∧ True := hf
                    obtain ⟨f2, -⟩ := F
                    clear hu
                    clear ho hf
                    obtain rfl := hS
                    go_simp
                    exact hK _ _ trivial (Eq.refl _) rfl
                  refine And.intro (stepC_pure (fun _ => trivial) (by kernel_rfl) ?_) ?_
                  · intro act W hR hf ho K hK
                    have G : act.tmps[8]?.getD undef = _ ∧ True := ho
                    obtain ⟨g8, -⟩ := G
                    clear ho hf
                    go_simp
                    exact hK _ (Eq.refl _)
                  refine And.intro (stepC_pure (fun _ => trivial) (by kernel_rfl) ?_) ?_
                  · intro act W hR hf ho K hK
                    have G : act.tmps[0]?.getD undef = _ ∧ True := ho
                    obtain ⟨g0, -⟩ := G
                    clear ho hf
                    go_simp
                    exact hK _ (Eq.refl _)
                  refine And.intro (stepC_pure (fun _ => trivial) (by kernel_rfl) ?_) ?_
                  · intro act W hR hf ho K hK
                    have F : act.tmps[54]?.getD undef = _ ∧ True := hf
                    obtain ⟨f5, -⟩ := F
                    clear ho hf
                    go_simp
                    exact hK _ (Eq.refl _)
                  refine And.intro (stepC_pure (fun _ => trivial) (by kernel_rfl) ?_) ?_
                  · intro act W hR hf ho K hK
                    have F : act.tmps[55]?.getD undef = _ ∧ True := hf
                    obtain ⟨f6, -⟩ := F
                    clear ho hf
                    go_simp
                    exact hK _ (Eq.refl _)
                  refine And.intro (stepC_stay (pss := []) (by kernel_rfl) rfl 0 [] [8] (by kernel_rfl) (by kernel_rfl) ?_) ?_
                  · intro act W uu hu hR hS hf ho K hK
                    replace hS : (fun (_ : Nat → Value) (W : World) => W = wr.drew) uu W := hS
                    replace hK := fun (v : Value) (w' : World) (h1 : (fun _ _ : World => True) W w') h2 (h3 : (fun (_ : Nat → Value) (W : World) => W = wr.drew) uu w') => hK v w' h1 h2 h3
                    have F : act.tmps[56]?.getD undef = _ ∧ True := hf
                    obtain ⟨f7, -⟩ := F
                    clear hu
                    clear ho hf
                    obtain rfl := hS
                    go_simp
                    exact hK _ _ trivial (Eq.refl _) rfl
                  refine And.intro (stepC_pure (fun _ => trivial) (by kernel_rfl) ?_) ?_
                  · intro act W hR hf ho K hK
                    have F : act.tmps[53]?.getD undef = _ ∧ act.tmps[57]?.getD undef = _ ∧ True := hf
                    obtain ⟨f4, f8, -⟩ := F
                    clear ho hf
                    go_simp
                    exact hK _ (Eq.refl _)
                  refine And.intro (stepC_pure (fun _ => trivial) (by kernel_rfl) ?_) ?_
                  · intro act W hR hf ho K hK
                    have F : act.tmps[58]?.getD undef = _ ∧ True := hf
                    obtain ⟨f9, -⟩ := F
                    clear ho hf
                    go_simp
                    exact hK _ (Eq.refl _)
                  refine And.intro (stepC_pure (fun _ => trivial) (by kernel_rfl) ?_) ?_
                  · intro act W hR hf ho K hK
                    have G : act.tmps[9]?.getD undef = _ ∧ True := ho
                    obtain ⟨g9, -⟩ := G
                    clear ho hf
                    go_simp
                    exact hK _ (Eq.refl _)
                  refine And.intro (stepC_pure (fun _ => trivial) (by kernel_rfl) ?_) ?_
                  · intro act W hR hf ho K hK
                    have F : act.tmps[59]?.getD undef = _ ∧ act.tmps[60]?.getD undef = _ ∧ True := hf
                    obtain ⟨f10, f11, -⟩ := F
                    clear ho hf
                    go_simp
                    exact hK _ (Eq.refl _)
                  refine And.intro (stepC_pure (fun _ => trivial) (by kernel_rfl) ?_) ?_
                  · intro act W hR hf ho K hK
                    have F : act.tmps[52]?.getD undef = _ ∧ act.tmps[61]?.getD undef = _ ∧ act.tmps[49]?.getD undef = _ ∧ act.tmps[50]?.getD undef = _ ∧ act.tmps[51]?.getD undef = _ ∧ act.tmps[52]?.getD undef = _ ∧ act.tmps[53]?.getD undef = _ ∧ act.tmps[54]?.getD undef = _ ∧ act.tmps[55]?.getD undef = _ ∧ act.tmps[56]?.getD undef = _ ∧ act.tmps[57]?.getD undef = _ ∧ act.tmps[58]?.getD undef = _ ∧ act.tmps[59]?.getD undef = _ ∧ act.tmps[60]?.getD undef = _ ∧ act.tmps[61]?.getD undef = _ ∧ True := hf
                    obtain ⟨f3, f12, f0, f1, f2, -, f4, f5, f6, f7, f8, f9, f10, f11, -, -⟩ := F
                    clear ho hf
                    go_simp
                    exact hK _ (Eq.refl _)
                  refine And.intro (stepC_mark (pss := []) (by kernel_rfl) (by decide) rfl 0 [] (by kernel_rfl) rfl ?_) ?_
                  · intro act W uu hu hR hS hf ho K hK
                    replace hS : (fun (_ : Nat → Value) (W : World) => W = wr.drew) uu W := hS
                    replace hK := fun (v : Value) (w' : World) (h1 : (fun _ _ : World => True) W w') h2 (h3 : (fun (_ : Nat → Value) (W : World) => W = (wr.setCell ⟨g, s + x, none⟩ (.bool false)).drew) uu w') => hK v w' h1 h2 h3
                    have F : act.tmps[62]?.getD undef = _ ∧ act.tmps[49]?.getD undef = _ ∧ act.tmps[50]?.getD undef = _ ∧ act.tmps[51]?.getD undef = _ ∧ act.tmps[52]?.getD undef = _ ∧ act.tmps[53]?.getD undef = _ ∧ act.tmps[54]?.getD undef = _ ∧ act.tmps[55]?.getD undef = _ ∧ act.tmps[56]?.getD undef = _ ∧ act.tmps[57]?.getD undef = _ ∧ act.tmps[58]?.getD undef = _ ∧ act.tmps[59]?.getD undef = _ ∧ act.tmps[60]?.getD undef = _ ∧ act.tmps[61]?.getD undef = _ ∧ True := hf
                    obtain ⟨f13, f0, f1, f2, f3, f4, f5, f6, f7, f8, f9, f10, f11, f12, -⟩ := F
                    clear hu
                    clear ho hf
                    go_simp
                    subst hS; exact hK undef _ trivial (Eq.refl _) rfl
                  exact trivial
                case stab =>
                  refine And.intro is_stable ?_
                  refine And.intro is_stable ?_
                  refine And.intro is_stable ?_
                  refine And.intro is_stable ?_
                  refine And.intro is_stable ?_
                  refine And.intro is_stable ?_
                  refine And.intro is_stable ?_
                  refine And.intro is_stable ?_
                  refine And.intro is_stable ?_
                  refine And.intro is_stable ?_
                  refine And.intro is_stable ?_
                  refine And.intro is_stable ?_
                  refine And.intro is_stable ?_
                  refine And.intro is_stable ?_
                  refine And.intro is_stable ?_
                  exact trivial
                case ends =>
                  intro vals W uu hu hR hS hall
                  replace hS : (fun (_ : Nat → Value) (W : World) => W = (wr.setCell ⟨g, s + x, none⟩ (.bool false)).drew) uu W := hS
                  clear hu
                  have e62 : vals 62 = _ := hall 13 (by decide)
                  clear hall
                  simp only [fill, List.setIfInBounds_toArray, List.set_cons_succ, List.set_cons_zero, e62]
                  obtain rfl := hS
                  go_wp2_with fail
                  exact ⟨⟨x + 1, hxl, by simp, HS.out.drew 1, (HE.out.trans (Kept.set wr _ none _) (.inl rfl)).drewN 1⟩, by simp [intOf]; omega⟩
              · obtain rfl : x = N := by omega
                go_wp2_with fail
                go_ret2
                exact ⟨by rw [HREP.out.1, HREP.out.2.1]; rfl, _, hA, HREP.out.2.2.1, setR_len _ _ _ _, hE⟩
        · have hge : decide (R[k].2 - R[k].1 ≥ n) = false := decide_eq_false hfit
          go_wp2_with fail
          refine wp_region_stage (fun _ _ : World => True) [] [(fun (_ : Nat → Value) (W : World) => W = w4.drewN (m + 1))] [25, 26, 27, 28, 29, 30, 31, 32, 33, 34, 35, 36, 37] (by kernel_rfl) (fun _ => trivial) (fun _ _ _ _ _ => trivial) (by kernel_rfl) (by kernel_rfl) (by kernel_rfl) ?start ?_
          case start => show _ = _; simp
          apply ex_is; apply Exists.intro
          apply ex_is; apply Exists.intro
          apply ex_is; apply Exists.intro
          apply ex_is; apply Exists.intro
          apply ex_is; apply Exists.intro
          apply ex_is; apply Exists.intro
          apply ex_is; apply Exists.intro
          apply ex_is; apply Exists.intro
          apply ex_is; apply Exists.intro
          apply ex_is; apply Exists.intro
          apply ex_is; apply Exists.intro
          apply ex_is; apply Exists.intro
          apply ex_is; apply Exists.intro
          refine ⟨[], ⟨?steps, ?stab, ?ends⟩⟩
          case steps =>
            refine And.intro (stepC_pure (fun _ => trivial) (by kernel_rfl) ?_) ?_
            · intro act W hR hf ho K hK
              have G : act.tmps[6]?.getD undef = _ ∧ True := ho
              obtain ⟨g6, -⟩ := G
              clear ho hf
              go_simp
              exact hK _ (Eq.refl _)
            refine And.intro (stepC_pure (fun _ => trivial) (by kernel_rfl) ?_) ?_
            · intro act W hR hf ho K hK
              have G : act.tmps[7]?.getD undef = _ ∧ True := ho
              obtain ⟨g7, -⟩ := G
              clear ho hf
              go_simp
              exact hK _ (Eq.refl _)
            refine And.intro (stepC_pure (fun _ => trivial) (by kernel_rfl) ?_) ?_
            · intro act W hR hf ho K hK
              have F : act.tmps[25]?.getD undef = _ ∧ act.tmps[26]?.getD undef = _ ∧ True := hf
              obtain ⟨f0, f1, -⟩ := F
              clear ho hf
              go_simp
              exact hK _ (Eq.refl _)
            refine And.intro (stepC_pure (fun _ => trivial) (by kernel_rfl) ?_) ?_
            · intro act W hR hf ho K hK
              have F : act.tmps[27]?.getD undef = _ ∧ True := hf
              obtain ⟨f2, -⟩ := F
              clear ho hf
              go_simp
              exact hK _ (Eq.refl _)
            refine And.intro (stepC_stay (pss := []) (by kernel_rfl) rfl 0 [] [] (by kernel_rfl) (by kernel_rfl) ?_) ?_
            · intro act W uu hu hR hS hf ho K hK
              replace hS : (fun (_ : Nat → Value) (W : World) => W = w4.drewN (m + 1)) uu W := hS
              replace hK := fun (v : Value) (w' : World) (h1 : (fun _ _ : World => True) W w') h2 (h3 : (fun (_ : Nat → Value) (W : World) => W = w4.drewN (m + 1)) uu w') => hK v w' h1 h2 h3
              have F : act.tmps[28]?.getD undef = _ ∧ True := hf
              obtain ⟨f3, -⟩ := F
              clear hu
              clear ho hf
              obtain rfl := hS
              go_simp
              exact hK _ _ trivial (Eq.refl _) rfl
            refine And.intro (stepC_pure (fun _ => trivial) (by kernel_rfl) ?_) ?_
            · intro act W hR hf ho K hK
              have G : act.tmps[6]?.getD undef = _ ∧ True := ho
              obtain ⟨g6, -⟩ := G
              clear ho hf
              go_simp
              exact hK _ (Eq.refl _)
            refine And.intro (stepC_pure (fun _ => trivial) (by kernel_rfl) ?_) ?_
            · intro act W hR hf ho K hK
              have G : act.tmps[7]?.getD undef = _ ∧ True := ho
              obtain ⟨g7, -⟩ := G
              clear ho hf
              go_simp
              exact hK _ (Eq.refl _)
            refine And.intro (stepC_pure (fun _ => trivial) (by kernel_rfl) ?_) ?_
            · intro act W hR hf ho K hK
              have F : act.tmps[30]?.getD undef = _ ∧ act.tmps[31]?.getD undef = _ ∧ True := hf
              obtain ⟨f5, f6, -⟩ := F
              clear ho hf
              go_simp
              exact hK _ (Eq.refl _)
            refine And.intro (stepC_pure (fun _ => trivial) (by kernel_rfl) ?_) ?_
            · intro act W hR hf ho K hK
              have F : act.tmps[32]?.getD undef = _ ∧ True := hf
              obtain ⟨f7, -⟩ := F
              clear ho hf
              go_simp
              exact hK _ (Eq.refl _)
            refine And.intro (stepC_stay (pss := []) (by kernel_rfl) rfl 0 [] [] (by kernel_rfl) (by kernel_rfl) ?_) ?_
            · intro act W uu hu hR hS hf ho K hK
              replace hS : (fun (_ : Nat → Value) (W : World) => W = w4.drewN (m + 1)) uu W := hS
              replace hK := fun (v : Value) (w' : World) (h1 : (fun _ _ : World => True) W w') h2 (h3 : (fun (_ : Nat → Value) (W : World) => W = w4.drewN (m + 1)) uu w') => hK v w' h1 h2 h3
              have F : act.tmps[33]?.getD undef = _ ∧ True := hf
              obtain ⟨f8, -⟩ := F
              clear hu
              clear ho hf
              obtain rfl := hS
              go_simp
              exact hK _ _ trivial (Eq.refl _) rfl
            refine And.intro (stepC_pure (fun _ => trivial) (by kernel_rfl) ?_) ?_
            · intro act W hR hf ho K hK
              have F : act.tmps[29]?.getD undef = _ ∧ act.tmps[34]?.getD undef = _ ∧ True := hf
              obtain ⟨f4, f9, -⟩ := F
              clear ho hf
              go_simp
              exact hK _ (Eq.refl _)
            refine And.intro (stepC_pure (fun _ => trivial) (by kernel_rfl) ?_) ?_
            · intro act W hR hf ho K hK
              have G : act.tmps[1]?.getD undef = _ ∧ True := ho
              obtain ⟨g1, -⟩ := G
              clear ho hf
              go_simp
              exact hK _ (Eq.refl _)
            refine And.intro (stepC_pure (fun _ => trivial) (by kernel_rfl) ?_) ?_
            · intro act W hR hf ho K hK
              have F : act.tmps[35]?.getD undef = _ ∧ act.tmps[36]?.getD undef = _ ∧ True := hf
              obtain ⟨f10, f11, -⟩ := F
              clear ho hf
              go_simp
              exact hK _ (Eq.refl _)
            exact trivial
          case stab =>
            refine And.intro is_stable ?_
            refine And.intro is_stable ?_
            refine And.intro is_stable ?_
            refine And.intro is_stable ?_
            refine And.intro is_stable ?_
            refine And.intro is_stable ?_
            refine And.intro is_stable ?_
            refine And.intro is_stable ?_
            refine And.intro is_stable ?_
            refine And.intro is_stable ?_
            refine And.intro is_stable ?_
            refine And.intro is_stable ?_
            refine And.intro is_stable ?_
            exact trivial
          case ends =>
            intro vals W uu hu hR hS hall
            replace hS : (fun (_ : Nat → Value) (W : World) => W = w4.drewN (m + 1)) uu W := hS
            clear hu
            have e37 : vals 37 = _ := hall 12 (by decide)
            clear hall
            simp only [fill, List.setIfInBounds_toArray, List.set_cons_succ, List.set_cons_zero, e37]
            obtain rfl := hS
            go_wp2_with fail
            exact ⟨⟨k + 1, _, by omega, by simp, rfl, Lib.hid fun j hj hjk => by rcases Nat.lt_succ_iff_lt_or_eq.1 hjk with hjk | rfl; (have := hall.out j hj hjk; omega); omega⟩, by simp [intOf]; omega⟩
      · have hT := HTF.out.2 fun j hj => by have := hall.out j hj (by omega); omega
        have HT := Lib.hid hT
        clear hT
        go_wp2_with fail
        go_ret2
        exact ⟨by rw [HT.out]; rfl, F, H4.out.drew _, by rw [HT.out]; exact HR.out, rfl, (Kept.of_ext e4).drewN _⟩
end Go.Proofs.Ytipnkjegiiphnaa

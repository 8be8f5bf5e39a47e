
/- Package extent: Give, walked. -/
import Derived.Test.YtpjlhkepdiajjaaExtH1
set_option linter.all false
namespace Go.Proofs.Ytpjlhkepdiajjaa
open Go.RowKit

set_option maxHeartbeats 4000000 in
set_option maxRecDepth 20000 in
theorem give_ok (p : Nat) (a b : Int) (v : Value) (base : Nat) (R : List Run) (z n : Int) (w : World) (h : FreeAt w p a b v base R) (hn : mayGive a b z n) (hlg : (giveR a b R z n).1.length ≤ 2000000) :
    Calls Try.prog 38 #[.pointer (some ⟨p, 0, none⟩), .int .i64 z, .int .i64 n] w (GivePost p a b v base R z n w) := by
  have HM := Lib.hid hn
  have HLG := Lib.hid hlg
  clear hlg
  obtain ⟨n1, n2, n3, n4, n5, n6⟩ := hn
  have c0 := h.c0
  have c1 := h.c1
  have c2 := h.c2
  obtain ⟨e0, e1, e2⟩ := h.ends
  have hp := h.lt
  have H := Lib.hid h
  have hR := h.len
  have hO := h.row
  obtain ⟨A, c, rfl, hc, hA⟩ := Arr.own h.row
  have t1 : z.tmod 16 = 0 := tmod_zero.2 n1
  have t2 : n.tmod 16 = 0 := tmod_zero.2 n2
  have d1 : ¬ (n < 1) := by omega
  have d2 : ¬ (z < a) := by omega
  have d3 : ¬ (b < z) := by omega
  have d4 : IntKind.i64.wrap (b - z) = b - z := IntWalk.i64_in _ (by omega)
  have d5 : ¬ (b - z < n) := by omega
  have d6 : IntKind.i64.wrap (z + n) = z + n := IntWalk.i64_in _ (by omega)
  have hcall := index_any A c R 57 (.pointer (some ⟨w.heap.size, 0, none⟩)) (upTo z) (w.alloc (.cells #[.int .i64 z, .int .i64 (z + n)] 91)) (hA.ext (by repeat first | (with_reducible exact Below.refl _ _) | (with_reducible apply Ext.alloc) | (with_reducible apply Ext.drew) | (with_reducible apply Ext.drewN) | (with_reducible refine Ext.set ?_ (by simp)))) (by omega) (fun args w => by kernel_rfl)
    (fun W r hr hE => upto_any r.1 r.2 z (z + n) w.heap.size W (by
      have := ext_cell hE ⟨w.heap.size, 0, none⟩ (.int .i64 z) (by simp)
      exact this))
  have HC := Lib.hid hcall
  have hX := upI_le R z
  have hidx : (idxI (upTo z) R = ((upI R z : Nat) : Int) ∧ upI R z < R.length) ∨ (idxI (upTo z) R = -1 ∧ upI R z = R.length) := by
    unfold idxI upI
    cases hq : R.findIdx? (upTo z) with
    | none => exact .inr ⟨rfl, rfl⟩
    | some i => exact .inl ⟨rfl, (List.findIdx?_eq_some_iff_getElem.1 hq).1⟩
  clear h hcall n1 n2 hA hO
  generalize hq : upI R z = i0 at hX hidx
  have HQ := Lib.hid hq
  clear hq
  go_enter Try.func38, Try.ntmps38
  go_wp2_with fail
  refine HC.out.mono ?_
  rintro e w1 ⟨rfl, hb1⟩
  rcases hidx with ⟨hx, hx1⟩ | ⟨hx, hx1⟩
  ·
    have hE1 : Ext w w1 := (Ext.alloc (Below.refl _ w) _).then hb1
    have y0 : w1.cell? ⟨w.heap.size, 0, none⟩ = some (.int .i64 z) := ext_cell hb1 _ _ (by simp)
    have y1 : w1.cell? ⟨w.heap.size, 1, none⟩ = some (.int .i64 (z + n)) := ext_cell hb1 _ _ (by simp)
    have y2 := ext_cell hE1 _ _ c2
    have hbx : w1.heap[w.heap.size]? = some (.cells #[.int .i64 z, .int .i64 (z + n)] 91) := new_lies hb1
    have g0 : w1.frozen? ⟨w.heap.size, 0, none⟩ = false := by simp [World.frozen?, hbx]
    have g1 : w1.frozen? ⟨w.heap.size, 1, none⟩ = false := by simp [World.frozen?, hbx]
    have HBX := Lib.hid hbx
    clear hbx
    have hA1 : Arr w1 A (rowC R) := by have := (H.out.ext hE1).row; obtain ⟨A', c', e, -, hA⟩ := Arr.own this; simp at e; rw [e.1]; exact hA
    obtain ⟨b1, o1, rfl, -, -⟩ := hA1.flat (s := 2) (fun _ => rfl) (by decide) hx1
    have hcell : ∀ j (hj : j < R.length), w1.cell? ⟨b1, o1 + j * 2, none⟩ = some (.int .i64 R[j].1) ∧ w1.cell? ⟨b1, o1 + j * 2 + 1, none⟩ = some (.int .i64 R[j].2) := fun j hj => by
      obtain ⟨b2, o2, e, -, q1⟩ := hA1.flat (s := 2) (fun _ => rfl) (by decide) hj
      cases e
      exact ⟨by simpa using q1 0 _ rfl, q1 1 _ rfl⟩
    have HCE := Lib.hid hcell
    clear hcell
    rw [hx]
    go_wp2_with fail
    go_loopw [9] (fun s wr => ∃ k m : Nat, i0 ≤ k ∧ k ≤ R.length ∧ s = .int .i64 (k : Int) ∧ wr = w1.drewN m ∧ Hid (∀ j (hj : j < R.length), i0 ≤ j → j < k → R[j].1 ≤ z + n ∧ ¬ (R[j].1 < z + n ∧ z < R[j].2))) (fun s _ => R.length - (intOf s).toNat)
    case atStart => exact ⟨i0, 0, Nat.le_refl _, hX, rfl, rfl, fun j _ h1 h2 => by omega⟩
    case round =>
      obtain ⟨k, m, hik, hk, rfl, rfl, hall⟩ := hrel
      by_cases hlt : k < R.length
      · obtain ⟨x0, x1⟩ := HCE.out k hlt
        have hlk : decide ((k : Int) < (R.length : Int)) = true := decide_eq_true (by omega)
        by_cases hle : R[k].1 ≤ z + n
        · have hle' : decide (R[k].1 ≤ z + n) = true := decide_eq_true hle
          go_wp2_with fail
          go_quiet (fail)
          by_cases hh : R[k].1 < z + n ∧ z < R[k].2
          · have hh1 : decide (R[k].1 < z + n) = true := decide_eq_true hh.1
            have hh2 : decide (z < R[k].2) = true := decide_eq_true hh.2
            go_wp2_with fail
            go_quiet (fail)
            go_wp2_with fail
            go_ret
            exact give_no HM.out H.out (by rw [HQ.out]; exact hik) hlt (fun j hj h1 h2 => by rw [HQ.out] at h1; rcases Nat.eq_or_lt_of_le h2 with e | h2; (subst e; exact hle); exact (hall.out j hj h1 h2).1) hh (Ext.drewN (Ext.drewN (Ext.drewN hE1 _) _) _)
          · by_cases hh1 : R[k].1 < z + n
            · have hh1' : decide (R[k].1 < z + n) = true := decide_eq_true hh1
              have hh2 : decide (z < R[k].2) = false := decide_eq_false (fun h => hh ⟨hh1, h⟩)
              go_wp2_with fail
              go_quiet (fail)
              go_wp2_with fail
              exact ⟨⟨k + 1, _, by omega, by omega, by simp, rfl, fun j hj h1 h2 => by rcases Nat.lt_succ_iff_lt_or_eq.1 h2 with h2 | rfl; exact hall.out j hj h1 h2; exact ⟨hle, hh⟩⟩, by simp [intOf]; omega⟩
            · have hh1' : decide (R[k].1 < z + n) = false := decide_eq_false hh1
              go_wp2_with fail
              go_quiet (fail)
              go_wp2_with fail
              exact ⟨⟨k + 1, _, by omega, by omega, by simp, rfl, fun j hj h1 h2 => by rcases Nat.lt_succ_iff_lt_or_eq.1 h2 with h2 | rfl; exact hall.out j hj h1 h2; exact ⟨hle, hh⟩⟩, by simp [intOf]; omega⟩
        · have hle' : decide (R[k].1 ≤ z + n) = false := decide_eq_false hle
          rcases Nat.eq_or_lt_of_le hik with hik' | hik'
          · subst hik'
            have hkk : decide ((i0 : Int) < (i0 : Int)) = false := decide_eq_false (by omega)
            go_wp2_with fail
            go_quiet (fail)
            go_wp2_with fail
            generalize hWm : w1.drewN (m + nq) = W
            have hEW : Ext w W := by rw [← hWm]; exact Ext.drewN hE1 _
            have HW := H.out.ext hEW
            have w0 : W.cell? ⟨w.heap.size, 0, none⟩ = some (.int .i64 z) := by rw [← hWm]; exact y0
            have w1' : W.cell? ⟨w.heap.size, 1, none⟩ = some (.int .i64 (z + n)) := by rw [← hWm]; exact y1
            have w2' := HW.c2
            have KW := Kept.of_ext (p := p) (r := (Value.slice (some ⟨b1, o1, none⟩) R.length c).ownBlock) hEW
            have hsz : w.heap.size < W.heap.size := cell_lt w0
            clear hWm y0 y1 y2
            obtain ⟨L, hL⟩ : ∃ L, R.take i0 ++ [(z, z + n)] ++ R.drop i0 = L := ⟨_, rfl⟩
            have hgv : giveR a b R z n = (L, true) := by have e := giveR_yes HM.out (R := R) (z := z) (n := n) (k := i0) (by rw [HQ.out]; exact Nat.le_refl _) hk (fun j hj h1 h2 => hall.out j hj (by rw [HQ.out] at h1; exact h1) h2) (fun _ h => by omega); rw [HQ.out, Nat.sub_self] at e; rw [e]; simp only [joinX, if_true]; rw [hL]
            have hFX' : Fine (z, z + n) := ⟨by simp only; omega, by simp only; omega, by simp only; omega, by simp only; omega⟩
            refine give_tail _ (by kernel_rfl) p w.heap.size (i0) (i0) a b z n (z) (z + n) _ c base R L w W HW KW w0 w1' (by omega) (by omega) hFX' hL HLG.out hgv _ _ _ _ _ _ _ _ _ _ _ _ _ _ _ _ _ _ _ _ _ _ _ _ _ _ _ _ _ _ _ _ _ _ _ _ _ _ _ _ _ _ _ _ _ _ _ _ _ _ _ _ _ _ _ _ _ _ _ _ _ _ _ _ _ _ _ _ _ _ _ _ _ _ _ _ _ _ _ _ _ _ _ _ _ _ _ _ _ _ _ _ _ _ _ _ _ _ _ _ _ _ _ _ _ _ _ _ _ _ _ _ _ _ _ _ _ _ _ _ _ _ _ _ _ _ _ _ _ _ _ _ _ _ _ _ _ _ _ _ _ _ _ _ _ _ _ _ _ _ _ _ _ ?_
            intro t143 t144 t145 t146 t147 t148 t149 t150 t151 t152 t153 t154 w' hgp
            go_wp2_with fail
            go_ret
            exact hgp
          · have hlk' : decide (((k : Nat) : Int) < (R.length : Int)) = true := hlk
            obtain ⟨k', hk'⟩ : ∃ k' : Nat, (k : Int) - 1 = (k' : Int) := ⟨k - 1, by omega⟩
            have hk1 : k' < R.length := by omega
            have hkk : decide ((i0 : Int) < (k : Int)) = true := decide_eq_true (by omega)
            obtain ⟨a0, -⟩ := HCE.out i0 hx1
            obtain ⟨-, a1⟩ := HCE.out k' hk1
            have hk2 : (k' : Int) < (R.length : Int) := by omega
            have hk3 : IntKind.i64.wrap (k' : Int) = (k' : Int) := IntWalk.i64_in _ (by omega)
            go_wp2_with fail
            go_quiet (fail)
            go_wp2_with fail
            go_region
            generalize hX1 : (if R[i0].1 < z then R[i0].1 else z) = X1
            generalize hX2 : (if z + n < R[k'].2 then R[k'].2 else z + n) = X2
            generalize hWm : ((w1.drewN (m + nq + 1)).setCell ⟨w.heap.size, 0, none⟩ (.int .i64 X1)).setCell ⟨w.heap.size, 1, none⟩ (.int .i64 X2) = W
            have hEW : Ext w W := by rw [← hWm]; exact Ext.set (Ext.set (Ext.drewN hE1 _) (Nat.le_refl _)) (Nat.le_refl _)
            have HW := H.out.ext hEW
            obtain ⟨w0, w1'⟩ : W.cell? ⟨w.heap.size, 0, none⟩ = some (.int .i64 X1) ∧ W.cell? ⟨w.heap.size, 1, none⟩ = some (.int .i64 X2) := by rw [← hWm]; exact box_two (w1.drewN _) HBX.out _ _
            have w2' := HW.c2
            have KW := Kept.of_ext (p := p) (r := (Value.slice (some ⟨b1, o1, none⟩) R.length c).ownBlock) hEW
            have hsz : w.heap.size < W.heap.size := cell_lt w0
            have hF0 := H.out.fine R[i0] (List.getElem_mem hx1)
            have hF1 := H.out.fine R[k'] (List.getElem_mem hk1)
            have hFX : Fine (X1, X2) := by
              obtain ⟨f0, f1, f2, f3⟩ := hF0
              obtain ⟨j0, j1, j2, j3⟩ := hF1
              rw [← hX1, ← hX2]
              exact ⟨by simp only; split <;> omega, by simp only; split <;> omega, by simp only; split <;> omega, by simp only; split <;> omega⟩
            have hjoin : joinX R z (z + n) i0 (k - i0) = (X1, X2) := by rw [← hX1, ← hX2]; exact joinX_eq (by omega) hk1 (by omega) (by omega)
            have HJ := Lib.hid hjoin
            clear hWm y0 y1 y2 g0 g1 hX1 hX2 hF0 hF1 hjoin a0 a1
            go_wp2_with fail
            obtain ⟨L, hL⟩ : ∃ L, R.take i0 ++ [(X1, X2)] ++ R.drop k = L := ⟨_, rfl⟩
            have hgv : giveR a b R z n = (L, true) := by have e := giveR_yes HM.out (R := R) (z := z) (n := n) (k := k) (by rw [HQ.out]; omega) hk (fun j hj h1 h2 => hall.out j hj (by rw [HQ.out] at h1; exact h1) h2) (fun hk9 h9 => by omega); rw [HQ.out, HJ.out, hL] at e; exact e
            have hFX' : Fine (X1, X2) := hFX
            refine give_tail _ (by kernel_rfl) p w.heap.size (i0) (k) a b z n (X1) (X2) _ c base R L w W HW KW w0 w1' (by omega) (by omega) hFX' hL HLG.out hgv _ _ _ _ _ _ _ _ _ _ _ _ _ _ _ _ _ _ _ _ _ _ _ _ _ _ _ _ _ _ _ _ _ _ _ _ _ _ _ _ _ _ _ _ _ _ _ _ _ _ _ _ _ _ _ _ _ _ _ _ _ _ _ _ _ _ _ _ _ _ _ _ _ _ _ _ _ _ _ _ _ _ _ _ _ _ _ _ _ _ _ _ _ _ _ _ _ _ _ _ _ _ _ _ _ _ _ _ _ _ _ _ _ _ _ _ _ _ _ _ _ _ _ _ _ _ _ _ _ _ _ _ _ _ _ _ _ _ _ _ _ _ _ _ _ _ _ _ _ _ _ _ _ ?_
            intro t143 t144 t145 t146 t147 t148 t149 t150 t151 t152 t153 t154 w' hgp
            go_wp2_with fail
            go_ret
            exact hgp
      · have hlk : decide ((k : Int) < (R.length : Int)) = false := decide_eq_false (by omega)
        have hik' : i0 < k := by omega
        obtain ⟨k', hk'⟩ : ∃ k' : Nat, (k : Int) - 1 = (k' : Int) := ⟨k - 1, by omega⟩
        have hk1 : k' < R.length := by omega
        have hkk : decide ((i0 : Int) < (k : Int)) = true := decide_eq_true (by omega)
        obtain ⟨a0, -⟩ := HCE.out i0 hx1
        obtain ⟨-, a1⟩ := HCE.out k' hk1
        have hk2 : (k' : Int) < (R.length : Int) := by omega
        have hk3 : IntKind.i64.wrap (k' : Int) = (k' : Int) := IntWalk.i64_in _ (by omega)
        go_wp2_with fail
        go_quiet (fail)
        go_wp2_with fail
        go_region
        generalize hX1 : (if R[i0].1 < z then R[i0].1 else z) = X1
        generalize hX2 : (if z + n < R[k'].2 then R[k'].2 else z + n) = X2
        generalize hWm : ((w1.drewN (m + nq + 1)).setCell ⟨w.heap.size, 0, none⟩ (.int .i64 X1)).setCell ⟨w.heap.size, 1, none⟩ (.int .i64 X2) = W
        have hEW : Ext w W := by rw [← hWm]; exact Ext.set (Ext.set (Ext.drewN hE1 _) (Nat.le_refl _)) (Nat.le_refl _)
        have HW := H.out.ext hEW
        obtain ⟨w0, w1'⟩ : W.cell? ⟨w.heap.size, 0, none⟩ = some (.int .i64 X1) ∧ W.cell? ⟨w.heap.size, 1, none⟩ = some (.int .i64 X2) := by rw [← hWm]; exact box_two (w1.drewN _) HBX.out _ _
        have w2' := HW.c2
        have KW := Kept.of_ext (p := p) (r := (Value.slice (some ⟨b1, o1, none⟩) R.length c).ownBlock) hEW
        have hsz : w.heap.size < W.heap.size := cell_lt w0
        have hF0 := H.out.fine R[i0] (List.getElem_mem hx1)
        have hF1 := H.out.fine R[k'] (List.getElem_mem hk1)
        have hFX : Fine (X1, X2) := by
          obtain ⟨f0, f1, f2, f3⟩ := hF0
          obtain ⟨j0, j1, j2, j3⟩ := hF1
          rw [← hX1, ← hX2]
          exact ⟨by simp only; split <;> omega, by simp only; split <;> omega, by simp only; split <;> omega, by simp only; split <;> omega⟩
        have hjoin : joinX R z (z + n) i0 (k - i0) = (X1, X2) := by rw [← hX1, ← hX2]; exact joinX_eq (by omega) hk1 (by omega) (by omega)
        have HJ := Lib.hid hjoin
        clear hWm y0 y1 y2 g0 g1 hX1 hX2 hF0 hF1 hjoin a0 a1
        go_wp2_with fail
        obtain ⟨L, hL⟩ : ∃ L, R.take i0 ++ [(X1, X2)] ++ R.drop k = L := ⟨_, rfl⟩
        have hgv : giveR a b R z n = (L, true) := by have e := giveR_yes HM.out (R := R) (z := z) (n := n) (k := k) (by rw [HQ.out]; omega) hk (fun j hj h1 h2 => hall.out j hj (by rw [HQ.out] at h1; exact h1) h2) (fun hk9 h9 => by omega); rw [HQ.out, HJ.out, hL] at e; exact e
        have hFX' : Fine (X1, X2) := hFX
        refine give_tail _ (by kernel_rfl) p w.heap.size (i0) (k) a b z n (X1) (X2) _ c base R L w W HW KW w0 w1' (by omega) (by omega) hFX' hL HLG.out hgv _ _ _ _ _ _ _ _ _ _ _ _ _ _ _ _ _ _ _ _ _ _ _ _ _ _ _ _ _ _ _ _ _ _ _ _ _ _ _ _ _ _ _ _ _ _ _ _ _ _ _ _ _ _ _ _ _ _ _ _ _ _ _ _ _ _ _ _ _ _ _ _ _ _ _ _ _ _ _ _ _ _ _ _ _ _ _ _ _ _ _ _ _ _ _ _ _ _ _ _ _ _ _ _ _ _ _ _ _ _ _ _ _ _ _ _ _ _ _ _ _ _ _ _ _ _ _ _ _ _ _ _ _ _ _ _ _ _ _ _ _ _ _ _ _ _ _ _ _ _ _ _ _ ?_
        intro t143 t144 t145 t146 t147 t148 t149 t150 t151 t152 t153 t154 w' hgp
        go_wp2_with fail
        go_ret
        exact hgp
  · have hE1 : Ext w w1 := (Ext.alloc (Below.refl _ w) _).then hb1
    have y0 : w1.cell? ⟨w.heap.size, 0, none⟩ = some (.int .i64 z) := ext_cell hb1 _ _ (by simp)
    have y1 : w1.cell? ⟨w.heap.size, 1, none⟩ = some (.int .i64 (z + n)) := ext_cell hb1 _ _ (by simp)
    have y2 := ext_cell hE1 _ _ c2
    rw [hx]
    go_wp2_with fail
    go_loopw [9] (fun s wr => s = .int .i64 (R.length : Int) ∧ wr = w1) (fun s _ => R.length - (intOf s).toNat)
    case atStart => exact ⟨rfl, rfl⟩
    case round =>
      obtain ⟨rfl, rfl⟩ := hrel
      have hlk : decide ((R.length : Int) < (R.length : Int)) = false := decide_eq_false (by omega)
      go_wp2_with fail
      go_quiet (fail)
      go_wp2_with fail
      generalize hWm : wr.drewN nq = W
      have hEW : Ext w W := by rw [← hWm]; exact Ext.drewN hE1 _
      have HW := H.out.ext hEW
      have w0 : W.cell? ⟨w.heap.size, 0, none⟩ = some (.int .i64 z) := by rw [← hWm]; exact y0
      have w1' : W.cell? ⟨w.heap.size, 1, none⟩ = some (.int .i64 (z + n)) := by rw [← hWm]; exact y1
      have w2' := HW.c2
      have KW := Kept.of_ext (p := p) (r := (Value.slice A R.length c).ownBlock) hEW
      have hsz : w.heap.size < W.heap.size := cell_lt w0
      clear hWm y0 y1 y2
      obtain ⟨L, hL⟩ : ∃ L, R.take R.length ++ [(z, z + n)] ++ R.drop R.length = L := ⟨_, rfl⟩
      have hgv : giveR a b R z n = (L, true) := by have e := giveR_yes HM.out (R := R) (z := z) (n := n) (k := R.length) (by rw [HQ.out]; omega) (Nat.le_refl _) (fun j hj h1 h2 => by rw [HQ.out] at h1; omega) (fun hk9 h9 => by omega); rw [HQ.out, hx1, Nat.sub_self] at e; rw [e]; simp only [joinX, if_true]; rw [hL]
      have hFX' : Fine (z, z + n) := ⟨by simp only; omega, by simp only; omega, by simp only; omega, by simp only; omega⟩
      refine give_tail _ (by kernel_rfl) p w.heap.size (R.length) (R.length) a b z n (z) (z + n) _ c base R L w W HW KW w0 w1' (by omega) (by omega) hFX' hL HLG.out hgv _ _ _ _ _ _ _ _ _ _ _ _ _ _ _ _ _ _ _ _ _ _ _ _ _ _ _ _ _ _ _ _ _ _ _ _ _ _ _ _ _ _ _ _ _ _ _ _ _ _ _ _ _ _ _ _ _ _ _ _ _ _ _ _ _ _ _ _ _ _ _ _ _ _ _ _ _ _ _ _ _ _ _ _ _ _ _ _ _ _ _ _ _ _ _ _ _ _ _ _ _ _ _ _ _ _ _ _ _ _ _ _ _ _ _ _ _ _ _ _ _ _ _ _ _ _ _ _ _ _ _ _ _ _ _ _ _ _ _ _ _ _ _ _ _ _ _ _ _ _ _ _ _ ?_
      intro t143 t144 t145 t146 t147 t148 t149 t150 t151 t152 t153 t154 w' hgp
      go_wp2_with fail
      go_ret
      exact hgp
theorem give_any (p : Nat) (a b : Int) (v : Value) (base : Nat) (R : List Run) (z n : Int) (w : World) (h : FreeAt w p a b v base R) (hlg : (giveR a b R z n).1.length ≤ 2000000) :
    Calls Try.prog 38 #[.pointer (some ⟨p, 0, none⟩), .int .i64 z, .int .i64 n] w (GivePost p a b v base R z n w) := by
  by_cases hn : mayGive a b z n
  · exact give_ok p a b v base R z n w h hn hlg
  · exact give_bad p a b v base R z n w h hn
end Go.Proofs.Ytpjlhkepdiajjaa

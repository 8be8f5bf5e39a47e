/- head() of seizinlaw12: the live question is answered as it must be. -/
import Derived.Test.YtipnkjegiiphnaaExtH
import Derived.Test.YtipnkjegiiphnaaSame08
set_option linter.all false
namespace Go.Proofs.Ytipnkjegiiphnaa
open Go.RowKit

theorem free_below {w w' : World} {p : Nat} {a b : Int} {v : Value} {base B : Nat} {R : List Run} (h : FreeAt w p a b v base R) (K : Kept p v.ownBlock w w') (hB : B ≤ base) : Below B w w' :=
  K.below (Nat.le_trans hB h.low) (fun g hg => by have := (h.row.lt g hg).1; omega) (by have := h.low; have := h.lt; omega)
/-- A row of pairs is as it was. -/
theorem pair_kept {w w' : World} {p : Nat} {a b : Int} {v : Value} {base : Nat} {R : List Run} (hF : FreeAt w p a b v base R) (K : Kept p v.ownBlock w w') {B n : Nat} {u : Value} {xs : List Value} (h : w.ownsRow B 38 2 u n xs) : w'.ownsRow B 38 2 u n xs := by
  rcases h with ⟨hl, ⟨rfl, h0⟩ | ⟨g, cap, C, rfl, hb, hg, h1, h2, h3, h4⟩⟩
  · exact ⟨hl, .inl ⟨rfl, h0⟩⟩
  · have hgl : g < w.heap.size := (Array.getElem?_eq_some_iff.1 hg).1
    refine ⟨hl, .inr ⟨g, cap, C, rfl, hb, (K.block g hgl ?_ ?_).trans hg, h1, h2, h3, h4⟩⟩
    · rintro rfl
      have := hF.blk
      rw [hg] at this
      simp at this
    · intro e
      rcases hF.row.2 with ⟨rfl, -⟩ | ⟨g', cap', C', rfl, -, hg', -⟩
      · simp [Value.ownBlock] at e
      · simp only [Value.ownBlock, Option.some.injEq] at e
        subst e
        rw [hg] at hg'
        simp at hg'
theorem lit_arr (W : World) (l : List Run) (k : Nat) (hk : k = W.heap.size) : Arr (W.alloc (.cells (rowC l).toArray 38)) (some ⟨k, 0, none⟩) (rowC l) := by
  subst hk
  exact .inr ⟨_, 0, rfl, fun j hj => by rw [cell_of_row _ _ _ _ _ _ (heap_alloc_new W _)]; simp⟩
set_option maxHeartbeats 4000000 in
set_option maxRecDepth 20000 in
theorem head_any (w : World) : Calls Try.prog 8 #[] w fun e w' => e = .returned (.bool true) ∧ Ext w w' := by
  have t1 : takeR [(64, 160)] 16 = ([(80, 160)], 64, true) := by decide
  have t2 : takeR [(80, 160)] 48 = ([(128, 160)], 80, true) := by decide
  have t3 : takeR [(128, 160)] 48 = ([(128, 160)], 0, false) := by decide
  have g1 : giveR 64 160 [(128, 160)] 64 16 = ([(64, 80), (128, 160)], true) := by decide
  have g2 : giveR 64 160 [(64, 80), (128, 160)] 64 16 = ([(64, 80), (128, 160)], false) := by decide
  have g3 : giveR 64 160 [(64, 80), (128, 160)] 80 48 = ([(64, 160)], true) := by decide
  have T := Lib.hid (And.intro t1 (And.intro t2 (And.intro t3 (And.intro g1 (And.intro g2 g3)))))
  clear t1 t2 t3 g1 g2 g3
  go_enter Try.func8, Try.ntmps8
  go_wp2_with fail
  refine (new_yes 64 160 _ (by decide)).mono ?_
  rintro e w1 ⟨b1, p, v, rfl, hF⟩
  rw [show startR 64 160 = [(64, 160)] by decide] at hF
  go_wp2_with fail
  refine (new_no 8 16 _ (by decide)).mono ?_
  rintro e w2 ⟨rfl, b2⟩
  go_wp2_with fail
  refine (new_no 32 16 _ (by decide)).mono ?_
  rintro e w3 ⟨rfl, b3⟩
  have F3 := hF.ext (b2.then b3)
  have E3 : Ext w w3 := b1.then (b2.then b3)
  clear hF b1 b2 b3
  go_wp2_with fail
  refine (take_any _ _ _ _ _ _ _ _ F3).mono ?_
  intro e w4 h4
  unfold TakePost at h4
  rw [T.out.1] at h4
  obtain ⟨rfl, v4, F4, K4, -⟩ := h4
  have E4 : Ext w w4 := Below.trans E3 (free_below F3 K4 (Nat.le_refl _))
  clear E3 F3 K4
  go_wp2_with fail
  refine (take_any _ _ _ _ _ _ _ _ F4).mono ?_
  intro e w5 h5
  unfold TakePost at h5
  rw [T.out.2.1] at h5
  obtain ⟨rfl, v5, F5, K5, -⟩ := h5
  have E5 : Ext w w5 := Below.trans E4 (free_below F4 K5 (Nat.le_refl _))
  clear E4 F4 K5
  go_wp2_with fail
  refine (take_any _ _ _ _ _ _ _ _ F5).mono ?_
  intro e w6 h6
  unfold TakePost at h6
  rw [T.out.2.2.1] at h6
  obtain ⟨rfl, v6, F6, K6, -⟩ := h6
  have E6 : Ext w w6 := Below.trans E5 (free_below F5 K6 (Nat.le_refl _))
  clear E5 F5 K6
  go_wp2_with fail
  refine (give_any _ _ _ _ _ _ _ _ _ F6 (by rw [T.out.2.2.2.1]; decide)).mono ?_
  intro e w7 h7
  unfold GivePost at h7
  rw [T.out.2.2.2.1] at h7
  obtain ⟨rfl, v7, F7, K7, -⟩ := h7
  have E7 : Ext w w7 := Below.trans E6 (free_below F6 K7 (Nat.le_refl _))
  clear E6 F6 K7
  go_wp2_with fail
  refine (give_any _ _ _ _ _ _ _ _ _ F7 (by rw [T.out.2.2.2.2.1]; decide)).mono ?_
  intro e w8 h8
  unfold GivePost at h8
  rw [T.out.2.2.2.2.1] at h8
  obtain ⟨rfl, v8, F8, K8, -⟩ := h8
  have E8 : Ext w w8 := Below.trans E7 (free_below F7 K8 (Nat.le_refl _))
  clear E7 F7 K8
  go_wp2_with fail
  refine (runs_free _ _ _ _ _ _ _ F8).mono ?_
  rintro e w9 ⟨v9, rfl, ho9, b9⟩
  have F9 := F8.ext b9
  have E9 : Ext w w9 := E8.then b9
  clear F8 E8 b9
  go_wp2_with fail
  refine (give_any _ _ _ _ _ _ _ _ _ F9 (by rw [T.out.2.2.2.2.2]; decide)).mono ?_
  intro e wa ha
  unfold GivePost at ha
  rw [T.out.2.2.2.2.2] at ha
  obtain ⟨rfl, va, Fa, Ka, -⟩ := ha
  have Ea : Ext w wa := Below.trans E9 (free_below F9 Ka (Nat.le_refl _))
  have hoa := pair_kept F9 Ka ho9
  obtain ⟨A9, c9, rfl, hc9, ha9⟩ := Arr.own hoa
  clear E9 F9 Ka ho9
  go_wp2_with fail
  refine (same_any A9 (some ⟨wa.heap.size, 0, none⟩) c9 2 [(64, 80), (128, 160)] [(64, 80), (128, 160)] _ (ha9.ext (by repeat first | (with_reducible exact Below.refl _ _) | (with_reducible apply Ext.alloc) | (with_reducible apply Ext.drew) | (with_reducible apply Ext.drewN) | (with_reducible refine Ext.set ?_ (by simp)))) (lit_arr wa [(64, 80), (128, 160)] _ rfl) (by simp) (by simp)).mono ?_
  rintro e wb ⟨rfl, bb⟩
  rw [decide_eq_true rfl]
  have Eb : Ext w wb := (Ea.alloc _).then bb
  have Fb := Fa.ext ((Ext.alloc (Below.refl _ wa) _).then bb)
  clear bb hoa ha9 Fa Ea
  go_wp2_with fail
  refine (runs_free _ _ _ _ _ _ _ Fb).mono ?_
  rintro e wc ⟨vc, rfl, hoc, bc⟩
  have Fc := Fb.ext bc
  have Ec := Eb.then bc
  obtain ⟨Ac, cc, rfl, hcc, hac⟩ := Arr.own hoc
  clear Fb Eb bc
  go_wp2_with fail
  refine (same_any Ac (some ⟨wc.heap.size, 0, none⟩) cc 1 [(64, 160)] [(64, 160)] _ (hac.ext (by repeat first | (with_reducible exact Below.refl _ _) | (with_reducible apply Ext.alloc) | (with_reducible apply Ext.drew) | (with_reducible apply Ext.drewN) | (with_reducible refine Ext.set ?_ (by simp)))) (lit_arr wc [(64, 160)] _ rfl) (by simp) (by simp)).mono ?_
  rintro e wd ⟨rfl, bd⟩
  rw [decide_eq_true rfl]
  have Ed : Ext w wd := (Ec.alloc _).then bd
  have Fd := Fc.ext ((Ext.alloc (Below.refl _ wc) _).then bd)
  clear bd hoc hac Fc Ec
  go_wp2_with fail
  refine (all_free _ _ _ _ _ _ _ Fd).mono ?_
  rintro e we ⟨rfl, be⟩
  have Fe := Fd.ext be
  have Ee := Ed.then be
  rw [show sumR [(64, 160)] = 96 by decide]
  clear Fd Ed be
  go_wp2_with fail
  refine (most_free _ _ _ _ _ _ _ Fe).mono ?_
  rintro e wf ⟨rfl, bf⟩
  have Ef := Ee.then bf
  rw [show mostR [(64, 160)] = 96 by decide]
  clear Fe Ee bf
  go_wp2_with fail
  go_ret
  exact ⟨rfl, Ef⟩
end Go.Proofs.Ytipnkjegiiphnaa

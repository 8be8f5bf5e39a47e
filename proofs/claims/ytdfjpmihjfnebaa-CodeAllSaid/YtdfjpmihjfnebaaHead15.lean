/- The live question of layer 15. -/
import Derived.Test.YtdfjpmihjfnebaaCodeD
import Derived.Test.YtdfjpmihjfnebaaRef15D
import Derived.Laws.BytesArg
set_option linter.all false
namespace Go.Proofs.Ytdfjpmihjfnebaa
open Go.RowKit

/-- A row of bytes of the call's own, as a string. -/
theorem conv_own {W : World} {base n : Nat} {v : Value} {xs : List Int} (h : W.ownsRow base 5 1 v n (bs xs)) : (convert 24 9 v).run Try.prog W = .ok (.string (strOfNums xs)) W := by
  obtain ⟨hl, h⟩ := h
  rcases h with ⟨rfl, rfl⟩ | ⟨g, cap, cur, rfl, hg, hb, hn, hm, hs, ht⟩
  · have : xs = [] := by simpa [bs] using hl
    subst this
    rw [run_convert_bytes_nil W 24 5 Try.underlying24 Try.underlying5 0 0 9 Try.underlying9]
    rfl
  · rw [bs_length, Nat.mul_one] at hl
    refine run_convert_bytes_arg W 24 5 Try.underlying24 Try.underlying5 g 0 n cap xs hl (fun i hi => ?_) 9 Try.underlying9
    rw [Nat.zero_add, cell_of_row W g i cur 5 (0, 0) hb]
    have : (bs xs)[i]? = some (.int .u8 (xs.getD i 0)) := by simp [bs, List.getElem?_eq_getElem (show i < xs.length by omega)]
    rw [← ht, List.getElem?_take] at this
    simp at this
    simpa using this.2

theorem AllPost.open {w w' : World} {l : List Int} {e : Ending} (h : AllPost w l e w') : ∃ A c, e = .returned (.tuple #[.slice A (allS l).1.length c, .int .i64 (allS l).2.1, .int .i64 (allS l).2.2]) ∧ Arr w' A (insCells (allS l).1) ∧ Ext w w' := by
  obtain ⟨v, rfl, ho, he⟩ := h
  obtain ⟨A, c, rfl, -, hA⟩ := Arr.own ho
  exact ⟨A, c, rfl, hA, he⟩

theorem Arr.lit' (w : World) (xs : List Value) (e : TypeId) (b : Nat) (hb : b = w.heap.size) : Arr (w.alloc (.cells xs.toArray e)) (some ⟨b, 0, none⟩) xs := hb ▸ Arr.lit w xs e
theorem get_lit (p a b c : Int) (W : World) (k : Nat) (hk : k = W.heap.size) (hp : ∀ x ∈ [p, a, b, c], 0 ≤ x ∧ x < 256) (r : Ins × Int) (hr : getI [p, a, b, c] = r) : Calls Try.prog 11 #[.slice (some ⟨k, 0, none⟩) 4 4] (W.alloc (.cells #[.int .u8 p, .int .u8 a, .int .u8 b, .int .u8 c] 5)) (Gave (W.alloc (.cells #[.int .u8 p, .int .u8 a, .int .u8 b, .int .u8 c] 5)) r) := by
  subst hr
  exact get_any (some ⟨k, 0, none⟩) 4 [p, a, b, c] _ (Arr.lit' W (bs [p, a, b, c]) _ k hk) hp
theorem all_lit (p a b c q d e f : Int) (W : World) (k : Nat) (hk : k = W.heap.size) (hp : ∀ x ∈ [p, a, b, c, q, d, e, f], 0 ≤ x ∧ x < 256) : Calls Try.prog 13 #[.slice (some ⟨k, 0, none⟩) 8 8] (W.alloc (.cells #[.int .u8 p, .int .u8 a, .int .u8 b, .int .u8 c, .int .u8 q, .int .u8 d, .int .u8 e, .int .u8 f] 5)) (AllPost (W.alloc (.cells #[.int .u8 p, .int .u8 a, .int .u8 b, .int .u8 c, .int .u8 q, .int .u8 d, .int .u8 e, .int .u8 f] 5)) [p, a, b, c, q, d, e, f]) :=
  all_any (some ⟨k, 0, none⟩) 8 [p, a, b, c, q, d, e, f] _ (Arr.lit' W (bs [p, a, b, c, q, d, e, f]) _ k hk) hp (by simp) (by simp)

theorem head_all1 : allS [0, 0, 0, 0, 9, 0, 255, 254] = ([⟨0, 0, 0, 0⟩, ⟨9, 0, -2, 0⟩], 8, 0) := by decide +kernel
theorem head_all2 : allS [0, 0, 0, 0, 9, 1, 255, 254] = ([], 4, 151) := by decide +kernel

attribute [local go_sem high] eqIns
set_option maxHeartbeats 4000000 in
set_option maxRecDepth 100000 in
theorem head_any (w : World) : Calls Try.prog 10 #[] w fun e w' => e = .returned (.bool true) ∧ Ext w w' := by
  have p1 := fun w => put_any 1 1 (-1) 0 w
  rw [show putL 1 1 (-1) 0 = [1, 1, 255, 255] by decide +kernel] at p1
  have P1 := Lib.hid p1
  have G1 := Lib.hid (fun W k hk => get_lit 11 2 3 200 W k hk (by simp) (⟨11, 2, 3, 200⟩, 0) (by decide +kernel))
  have G2 := Lib.hid (fun W k hk => get_lit 11 8 3 200 W k hk (by simp) (.zero, 151) (by decide +kernel))
  have G3 := Lib.hid (fun W k hk => get_lit 30 0 0 0 W k hk (by simp) (.zero, 151) (by decide +kernel))
  clear p1
  go_enter Try.func10, Try.ntmps10
  go_wp2_with fail
  refine (P1.out _).mono ?_
  rintro e w1 ⟨v1, rfl, ho1, hb1⟩
  go_wp2_with fail
  refine (G1.out _ _ (by simp)).mono ?_
  rintro e w2 ⟨rfl, hb2⟩
  go_wp2_with fail
  refine (G2.out _ _ (by simp)).mono ?_
  rintro e w3 ⟨rfl, hb3⟩
  go_wp2_with fail
  refine (G3.out _ _ (by simp)).mono ?_
  rintro e w4 ⟨rfl, hb4⟩
  go_wp2_with fail
  refine (get_bad _ 3 _ _ (by decide)).mono ?_
  rintro e w5 ⟨rfl, hb5⟩
  go_wp2_with fail
  refine (all_lit _ _ _ _ _ _ _ _ _ _ (by simp) (by simp)).mono ?_
  intro e w6 h6
  obtain ⟨A6, c6, rfl, ha6, hb6⟩ := h6.open
  rw [head_all1] at ha6 ⊢
  go_wp2_with fail
  refine (all_lit _ _ _ _ _ _ _ _ _ _ (by simp) (by simp)).mono ?_
  intro e w7 h7
  obtain ⟨A7, c7, rfl, ha7, hb7⟩ := h7.open
  rw [head_all2] at ha7 ⊢
  have E6 : Ext w6 w7 := (Ext.alloc (Below.refl _ w6) _).then hb7
  have E5 : Ext w5 w7 := ((Ext.alloc (Ext.alloc (Below.refl _ w5) _) _).then hb6).then E6
  have E4 : Ext w4 w7 := ((Ext.alloc (Ext.alloc (Below.refl _ w4) _) _).then hb5).then E5
  have E3 : Ext w3 w7 := ((Ext.alloc (Ext.alloc (Below.refl _ w3) _) _).then hb4).then E4
  have E2 : Ext (w2.alloc _) w7 := ((Ext.alloc (Below.refl _ (w2.alloc _)) _).then hb3).then E3
  have E1 : Ext w1 w7 := ((Ext.alloc (Below.refl _ w1) _).then hb2).then ((Ext.alloc (Below.refl _ w2) _).then E2)
  have EW : Ext w w7 := hb1.then E1
  have hx := (E2.block w2.heap.size (by simp)).trans (heap_alloc_new w2 _)
  have x0 := cell_of_row _ _ 0 _ _ _ hx
  have x1 := cell_of_row _ _ 1 _ _ _ hx
  have x2 := cell_of_row _ _ 2 _ _ _ hx
  have x3 := cell_of_row _ _ 3 _ _ _ hx
  have hcv := conv_own (own_ext ho1 E1)
  rw [show strOfNums [1, 1, 255, 255] = ⟨#[1, 1, 255, 255]⟩ by decide +kernel] at hcv
  have HE := Lib.hid EW
  have HA := Lib.hid (ha6.ext E6)
  clear h6 h7 hb1 hb2 hb3 hb4 hb5 hb6 hb7 E1 E2 E3 E4 E5 E6 EW hx ho1 ha6 ha7
  go_wp2_with fail
  refine (rsame_any _ _ _ _ [⟨0, 0, 0, 0⟩, ⟨9, 0, -2, 0⟩] [⟨0, 0, 0, 0⟩, ⟨9, 0, -2, 0⟩] _ (HA.out.ext (Ext.alloc (Below.refl _ _) _)) (Arr.lit' w7 (insCells [⟨0, 0, 0, 0⟩, ⟨9, 0, -2, 0⟩]) _ _ rfl) (by simp) (by simp)).mono ?_
  rintro e w8 ⟨rfl, hb8⟩
  go_wp2_with fail
  refine (kinds_any _ _).mono ?_
  rw [show kindsS 29 = ⟨#[105, 45, 45]⟩ by decide +kernel]
  rintro e w9 ⟨rfl, hb9⟩
  go_wp2_with fail
  refine (kinds_any _ _).mono ?_
  rw [show kindsS 30 = ⟨#[]⟩ by decide +kernel]
  rintro e w10 ⟨rfl, hb10⟩
  go_wp2_with fail
  go_ret
  exact ⟨rfl, HE.out.then ((Ext.alloc (Below.refl _ _) _).then (hb8.then (hb9.then hb10)))⟩
end Go.Proofs.Ytdfjpmihjfnebaa

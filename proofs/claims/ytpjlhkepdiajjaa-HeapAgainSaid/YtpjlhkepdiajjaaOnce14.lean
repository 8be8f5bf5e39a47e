
/- HeapOnce: the walk. -/
import Derived.Test.YtpjlhkepdiajjaaHead14
set_option linter.all false
namespace Go.Proofs.Ytpjlhkepdiajjaa
open Go.RowKit Go.Shelf
attribute [local go_sem] seen dstOf boolOf

theorem round_small : ((List.range 256).all fun k => (roundD (k : Int)).2 && decide ((roundD (k : Int)).1 ≤ 256)) = true := by kernel_rfl
theorem round_byte {n : Int} (h0 : 0 ≤ n) (h1 : n ≤ 255) : (roundD n).2 = true ∧ (roundD n).1 ≤ 256 := by
  obtain ⟨k, rfl⟩ := Int.eq_ofNat_of_zero_le h0
  have := List.all_eq_true.1 round_small k (List.mem_range.2 (by omega))
  simpa using this
theorem newOk_root {f g full : Int} (hf : 0 ≤ f ∧ f % 16 = 0) (hg : 0 ≤ g) (ht : f + 16 * g ≤ 16777216) (h1 : 1 ≤ full) (h2 : full ≤ 16777216) : newOk (rootC f g) full := by
  refine ⟨by unfold mayBe rootC; simp only; omega, h1, h2, ?_, rfl, rfl⟩
  unfold rightC rootC addrB permB
  simp only [Bool.not_true, Bool.false_or]
  simp
  omega
theorem wf_rootC {f g : Int} (hf : 0 ≤ f) (hg : 0 ≤ g) (ht : f + 16 * g ≤ 16777216) : CapWf (rootC f g) := ⟨by unfold i64ok' rootC; simp only; omega, by unfold i64ok' rootC; simp only; omega, by unfold i64ok' rootC; simp only; omega, by unfold i64ok' rootC; simp only; omega, by unfold i64ok' rootC; simp only; omega⟩
/-- The first that is given out. -/
theorem alloc_first {f g full n : Int} {G : Nat} {ws : List Nat} (hr : (roundD n).2 = true) (hg : (roundD n).1 ≤ 16 * g) (hg0 : 0 < g) : allocD (startD (rootC f g) full G ws) n = ({ startD (rootC f g) full G ws with R := (takeR (startR f (f + 16 * g)) (roundD n).1).1, L := [⟨f, max n 1, (roundD n).1⟩] }, ⟨true, f, f + max n 1, f, 31, 0⟩, 0) := by
  have hf := round_fits hr
  have hs : startR f (f + 16 * g) = [(f, f + 16 * g)] := by unfold startR; rw [if_pos (by omega)]
  have ht := take_first (R := startR f (f + 16 * g)) (n := (roundD n).1) (i := 0) (by omega) hf.2.2.1 (by rw [hs]; simp) (by simp only [hs, List.getElem_cons_zero]; omega) (fun j hj h0 => by omega)
  have h1 : (takeR (startR f (f + 16 * g)) (roundD n).1).2.1 = f := by rw [ht.1]; simp only [hs, List.getElem_cons_zero]
  rw [alloc_fits hr (show (takeR (startD (rootC f g) full G ws).R (roundD n).1).2.2 = true from ht.2)]
  show (_, _, _) = _
  simp only [startD, rootC, List.nil_append] at *
  rw [h1]
theorem ofD_nil (c : Cap) (h : c.tag = true) (h2 : c.ty = 0) : (ofD [] c).1 = 3 := by
  simp [ofD, h, h2]
theorem ofD_one (l : LiveD) (c : Cap) : (ofD [l] c).1 = if c.tag = false then 41 else if c.ty ≠ 0 then 42 else if l.at' ≠ c.base then 3 else if c.top ≠ c.base + l.asked then 43 else 0 := by
  unfold ofD
  split
  · rfl
  · split
    · rfl
    · by_cases h : l.at' = c.base
      · simp only [List.find?_cons, h, decide_true, ne_eq, not_true_eq_false, if_false]
        split <;> rfl
      · simp [h]
theorem freeD_id {X : HeapD} {c : Cap} (h : (ofD X.L c).1 ≠ 0) : freeD X c = X := by
  unfold freeD
  cases ho : (ofD X.L c).2 with
  | none => rfl
  | some l => exact absurd (ofD_zero.2 ⟨l, ho⟩) h
theorem freeD_L {X : HeapD} {c : Cap} {l : LiveD} (hL : X.L = [l]) (h : (ofD X.L c).1 = 0) : (freeD X c).L = [] := by
  unfold freeD
  obtain ⟨m, ho⟩ := ofD_zero.1 h
  rw [ho]
  obtain ⟨h1, -⟩ := ofD_some ho
  rw [hL] at h1
  rw [List.mem_singleton] at h1
  subst h1
  simp [hL]
/-- Is it the one that was given out? -/
def ownB (c : Cap) (m : Int) : Bool := c.tag && (c.ty == 0) && (c.base == 512) && (c.top == 512 + m)
theorem own_code (c : Cap) (m t : Int) : ((ofD [⟨512, m, t⟩] c).1 == 0) = ownB c m := by
  rw [ofD_one]
  unfold ownB
  cases c.tag
  · simp
  · by_cases h1 : c.ty = 0
    · by_cases h2 : c.base = 512
      · by_cases h3 : c.top = 512 + m
        · simp [h1, h2, h3]
        · simp [h1, h2, h3]
      · simp [h1, h2, Ne.symm h2]
    · simp [h1]
set_option maxHeartbeats 4000000 in
set_option maxRecDepth 40000 in
theorem once_any (g n less : Int) (c : Cap) (w : World) (hg : 0 ≤ g ∧ g ≤ 255) (hn : 0 ≤ n ∧ n ≤ 255) (hl : 0 ≤ less ∧ less ≤ 255) (hc : CapWf c) : Calls Try.prog 4 #[.int .u8 g, .int .u8 n, c.val, .int .u8 less] w fun e w' => e = .returned (.bool true) ∧ Ext w w' := by
  obtain ⟨G, rfl⟩ := Int.eq_ofNat_of_zero_le hg.1
  have hn64 : i64ok' n := by unfold i64ok'; omega
  have hr := round_byte hn.1 hn.2
  have hrf := round_fits hr.1
  obtain ⟨m, hm⟩ : ∃ m, m = max n 1 := ⟨_, rfl⟩
  have hm1 : 1 ≤ m ∧ m ≤ 255 := by omega
  obtain ⟨tk, htk⟩ : ∃ tk, tk = (roundD n).1 := ⟨_, rfl⟩
  obtain ⟨tg, bs, tp, at', pe, ty⟩ := c
  have HC := Lib.hid hc
  have HI := Lib.hid (And.intro hr (And.intro hrf (And.intro hm htk)))
  have hw1 : IntKind.i64.wrap (20 + (G : Int)) = 20 + (G : Int) := IntWalk.i64_in _ (by omega)
  have hw0 : IntKind.i64.wrap (G : Int) = (G : Int) := IntWalk.i64_in _ (by omega)
  clear hc hr hrf hm htk
  go_enter Try.func4, Try.ntmps4
  go_wp2_with fail
  refine (head14 _).mono ?_
  rintro _ w1 ⟨rfl, hE⟩
  have H1 := Lib.hid (And.intro ((Ext.alloc (Below.refl _ _) _).then hE) ((hE.block w.heap.size (by simp)).trans (heap_alloc_new w _)))
  clear hE
  go_wp2_with fail
  refine (newS_any 400 w1).mono ?_
  rintro _ w2 (⟨hb, -⟩ | ⟨-, rfl, hS, hE⟩)
  · omega
  obtain ⟨ws0, hS⟩ : ∃ ws0, ShadAt w2 (w1.heap.size + 1) w1.heap.size 400 ws0 := ⟨_, hS⟩
  have H2 := Lib.hid (And.intro (H1.out.1.then hE) (And.intro hS ((hE.block _ (Array.getElem?_eq_some_iff.1 H1.out.2).1).trans H1.out.2)))
  clear hE hS
  go_wp2_with fail
  refine (root_any 512 (20 + (G : Int)) _ (by omega) (by omega)).mono ?_
  rintro _ w3 ⟨rfl, hE⟩
  have H3 := Lib.hid (And.intro (H2.out.1.then hE) (And.intro (H2.out.2.1.ext hE) ((hE.block _ (Array.getElem?_eq_some_iff.1 H2.out.2.2).1).trans H2.out.2.2)))
  clear hE
  go_wp2_with fail
  refine (new_run (w0 := w) (rootC 512 (20 + (G : Int))) (w1.heap.size + 1) w1.heap.size 400 ws0 64 H3.out.1 H1.out.1.size H3.out.2.1 (wf_rootC (by omega) (by omega) (by omega)) (newOk_root (by omega) (by omega) (by omega) (by omega) (by omega))).mono ?_
  rintro _ w4 ⟨hE, hp, rfl, hR⟩
  have ok0 : HeapOk (startD (rootC 512 (20 + (G : Int))) 64 400 ws0) := heap_start (wf_rootC (by omega) (by omega) (by omega)) (newOk_root (by omega) (by omega) (by omega) (by omega) (by omega)) (by unfold rootC; simp only; omega) (by unfold rootC; simp only; omega)
  have ha := alloc_first (f := 512) (g := 20 + (G : Int)) (full := 64) (n := n) (G := 400) (ws := ws0) HI.out.1.1 (by have := HI.out.1.2; omega) (by omega)
  rw [← HI.out.2.2.1, ← HI.out.2.2.2] at ha
  have ok1 := heap_alloc ok0 n
  obtain ⟨X0, hX0⟩ : ∃ X0, X0 = startD (rootC 512 (20 + (G : Int))) 64 400 ws0 := ⟨_, rfl⟩
  rw [← hX0] at hR ok0 ok1 ha
  obtain ⟨X1, hX1⟩ : ∃ X1, X1 = (allocD X0 n).1 := ⟨_, rfl⟩
  have hL1 : X1.L = [⟨512, m, tk⟩] := by rw [hX1, ha]
  have ha2 : (allocD X0 n).2 = (⟨true, 512, 512 + m, 512, 31, 0⟩, 0) := by rw [ha]
  rw [← hX1] at ok1
  have H4 := Lib.hid (And.intro hR (And.intro ok0 (And.intro ((hE.block _ (Array.getElem?_eq_some_iff.1 H3.out.2.2).1).trans H3.out.2.2) (And.intro ok1 (And.intro hL1 (And.intro ha2 hX1))))))
  clear hE hR ok0 ha ok1 hX0 hX1 hL1 ha2
  go_wp2_with fail
  have A1 := alloc_run H4.out.1 H4.out.2.1 n hn64
  rw [H4.out.2.2.2.2.2.1, ← H4.out.2.2.2.2.2.2] at A1
  refine A1.mono ?_
  rintro _ w5 ⟨rfl, hR, hc⟩
  have hc6 := hc.row _ _ _ _ H4.out.2.2.1 (by decide)
  have H5 := Lib.hid (And.intro hR hc6)
  clear A1 hR hc hc6
  have hm2 : IntKind.i64.wrap (512 + m - 1) = 512 + m - 1 := IntWalk.i64_in _ (by omega)
  have hm3 : IntKind.i64.wrap (512 + m - 1 - less) = 512 + m - 1 - less := IntWalk.i64_in _ (by omega)
  have hwl : IntKind.i64.wrap less = less := IntWalk.i64_in _ (by omega)
  go_wp2_with fail
  have hwx : ∀ b t a p y : Int, i64ok' b → i64ok' t → i64ok' a → i64ok' p → i64ok' y → ∀ tg : Bool, CapWf ⟨tg, b, t, a, p, y⟩ := fun b t a p y h1 h2 h3 h4 h5 tg => ⟨h1, h2, h3, h4, h5⟩
  have HWX := Lib.hid hwx
  clear hwx
  have e6 : Ext w5 ((w5.alloc (.cells #[.bool true, .int .i64 512, .int .i64 (512 + m), .int .i64 512, .int .i64 31, .int .i64 0] 27)).alloc (.cells #[.bool true, .int .i64 512, .int .i64 (512 + m - 1 - less), .int .i64 512, .int .i64 31, .int .i64 0] 27)) := (by repeat first | (with_reducible exact Below.refl _ _) | (with_reducible apply Ext.alloc) | (with_reducible apply Ext.drew) | (with_reducible apply Ext.drewN) | (with_reducible refine Ext.set ?_ (by simp)))
  have A2 := free_run (X := X1) (H5.out.1.ext e6) H4.out.2.2.2.1 ⟨true, 512, 512 + m - 1 - less, 512, 31, 0⟩ (HWX.out _ _ _ _ _ (by unfold i64ok'; omega) (by unfold i64ok'; omega) (by unfold i64ok'; omega) (by unfold i64ok'; omega) (by unfold i64ok'; omega) _)
  have o2 : (ofD X1.L ⟨true, 512, 512 + m - 1 - less, 512, 31, 0⟩).1 = 43 := by
    rw [H4.out.2.2.2.2.1, ofD_one]
    have : ¬ 512 + m - 1 - less = 512 + m := by omega
    simp [this]
  rw [freeD_id (by rw [o2]; decide), o2] at A2
  refine A2.mono ?_
  rintro _ w6 ⟨rfl, hR, hc⟩
  have hc6 := hc.row _ _ _ _ ((e6.block _ (Array.getElem?_eq_some_iff.1 H5.out.2).1).trans H5.out.2) (by decide)
  have hx6 := hc.row _ _ _ _ (show _ = some (Obj.cells #[.bool true, .int .i64 512, .int .i64 (512 + m), .int .i64 512, .int .i64 31, .int .i64 0] 27) from new_at (w := w5) rfl (by repeat first | (with_reducible exact Below.refl _ _) | (with_reducible apply Ext.alloc) | (with_reducible apply Ext.drew) | (with_reducible apply Ext.drewN) | (with_reducible refine Ext.set ?_ (by simp)))) (by decide)
  obtain ⟨y0, y1, y2, y3, y4, y5⟩ := lie6' hx6 (Below.refl _ w6)
  have hl6 := cell_lt y0
  simp only at hl6
  have H6 := Lib.hid (And.intro hR (And.intro hc6 hx6))
  clear A2 o2 hR hc hc6 hx6 e6
  go_wp2_with fail
  have e7 : Ext w6 (w6.alloc (.cells #[.bool true, .int .i64 528, .int .i64 (512 + m), .int .i64 512, .int .i64 31, .int .i64 0] 27)) := (by repeat first | (with_reducible exact Below.refl _ _) | (with_reducible apply Ext.alloc) | (with_reducible apply Ext.drew) | (with_reducible apply Ext.drewN) | (with_reducible refine Ext.set ?_ (by simp)))
  have A3 := free_run (X := X1) (H6.out.1.ext e7) H4.out.2.2.2.1 ⟨true, 528, 512 + m, 512, 31, 0⟩ (HWX.out _ _ _ _ _ (by unfold i64ok'; omega) (by unfold i64ok'; omega) (by unfold i64ok'; omega) (by unfold i64ok'; omega) (by unfold i64ok'; omega) _)
  have o3 : (ofD X1.L ⟨true, 528, 512 + m, 512, 31, 0⟩).1 = 3 := by
    rw [H4.out.2.2.2.2.1, ofD_one]
    simp
  rw [freeD_id (by rw [o3]; decide), o3] at A3
  refine A3.mono ?_
  rintro _ w7 ⟨rfl, hR, hc⟩
  have hc7 := hc.row _ _ _ _ ((e7.block _ (Array.getElem?_eq_some_iff.1 H6.out.2.1).1).trans H6.out.2.1) (by decide)
  have hx7 := hc.row _ _ _ _ ((e7.block _ (Array.getElem?_eq_some_iff.1 H6.out.2.2).1).trans H6.out.2.2) (by decide)
  have hz7 := hc.row _ _ _ _ (show _ = some (Obj.cells #[.bool true, .int .i64 528, .int .i64 (512 + m), .int .i64 512, .int .i64 31, .int .i64 0] 27) from new_at (w := w6) rfl (by repeat first | (with_reducible exact Below.refl _ _) | (with_reducible apply Ext.alloc) | (with_reducible apply Ext.drew) | (with_reducible apply Ext.drewN) | (with_reducible refine Ext.set ?_ (by simp)))) (by decide)
  obtain ⟨y0, y1, y2, y3, y4, y5⟩ := lie6' hx7 (Below.refl _ w7)
  obtain ⟨z0, z1, z2, z3, z4, z5⟩ := lie6' hz7 (Below.refl _ w7)
  have fz := frozen_row' hz7
  have hl7 := cell_lt y0
  have hl8 := cell_lt z0
  simp only at hl7 hl8
  have hs56 : w5.heap.size < w6.heap.size := hl6
  have H7 := Lib.hid (And.intro hR (And.intro hc7 (And.intro hx7 hz7)))
  clear A3 o3 hR hc hc7 hx7 hz7 e7
  go_wp2_with fail
  obtain ⟨U, hU⟩ : ∃ U, U = (put6 w7 w6.heap.size (.bool true) (.int .i64 512) (.int .i64 (512 + m)) (.int .i64 512) (.int .i64 31) (.int .i64 0)).setCell ⟨w6.heap.size, 0, none⟩ (.bool false) := ⟨_, rfl⟩
  have gU : w7.grownBy U (some w6.heap.size) := by rw [hU]; exact World.grownBy.trans put6_gr set_gr
  have hU' := hU
  unfold put6 at hU'
  rw [← hU']
  clear hU hU'
  have hwq : w.heap.size ≤ w6.heap.size := H6.out.1.from.size
  have hRU := H7.out.1.only (only_gr H7.out.2.2.2 hwq gU) (Nat.le_refl _) (by decide)
  have hcU := (gU.block w.heap.size (Array.getElem?_eq_some_iff.1 H7.out.2.1).1 (by
    have := (Array.getElem?_eq_some_iff.1 H6.out.2.1).1
    simp only [ne_eq, Option.some.injEq]
    omega)).trans H7.out.2.1
  have hxU := (gU.block w5.heap.size (Array.getElem?_eq_some_iff.1 H7.out.2.2.1).1 (by
    simp only [ne_eq, Option.some.injEq]
    omega)).trans H7.out.2.2.1
  have A4 := free_run (X := X1) hRU H4.out.2.2.2.1 ⟨false, 512, 512 + m, 512, 31, 0⟩ (HWX.out _ _ _ _ _ (by unfold i64ok'; omega) (by unfold i64ok'; omega) (by unfold i64ok'; omega) (by unfold i64ok'; omega) (by unfold i64ok'; omega) _)
  have o4 : (ofD X1.L ⟨false, 512, 512 + m, 512, 31, 0⟩).1 = 41 := by
    rw [H4.out.2.2.2.2.1, ofD_one]
    simp
  rw [freeD_id (by rw [o4]; decide), o4] at A4
  refine A4.mono ?_
  rintro _ w8 ⟨rfl, hR, hc⟩
  have hc8 := hc.row _ _ _ _ hcU (by decide)
  have hx8 := hc.row _ _ _ _ hxU (by decide)
  obtain ⟨y0, y1, y2, y3, y4, y5⟩ := lie6' hx8 (Below.refl _ w8)
  obtain ⟨z0, z1, z2, z3, z4, z5⟩ := lie6' hc8 (Below.refl _ w8)
  have hl9 := cell_lt y0
  have hl10 := cell_lt z0
  simp only at hl9 hl10
  have H8 := Lib.hid (And.intro hR (And.intro hc8 hx8))
  clear A4 o4 hR hc hc8 hx8 gU hRU hcU hxU fz hl7 hl8
  cases tg with
  | false =>
    go_wp2_with fail
    have A5 := free_run (X := X1) H8.out.1 H4.out.2.2.2.1 ⟨false, bs, tp, at', pe, ty⟩ HC.out
    obtain ⟨z, hz⟩ : ∃ z, z = (ofD X1.L ⟨false, bs, tp, at', pe, ty⟩).1 := ⟨_, rfl⟩
    have hz0 : z ≠ 0 := by
      rw [hz, H4.out.2.2.2.2.1, ofD_one]
      simp
    rw [freeD_id (by rw [← hz]; exact hz0), ← hz] at A5
    refine A5.mono ?_
    rintro _ w9 ⟨rfl, hR, hc⟩
    have hx9 := hc.row _ _ _ _ H8.out.2.2 (by decide)
    obtain ⟨y0, y1, y2, y3, y4, y5⟩ := lie6' hx9 (Below.refl _ w9)
    have hl11 := cell_lt y0
    simp only at hl11
    have H9 := Lib.hid (And.intro hR hx9)
    have hz1 : (z == 0) = false := by simpa using hz0
    clear A5 hz hR hc hx9
    go_wp2_with fail
    have A6 := free_run (X := X1) H9.out.1 H4.out.2.2.2.1 ⟨true, 512, 512 + m, 512, 31, 0⟩ (HWX.out _ _ _ _ _ (by unfold i64ok'; omega) (by unfold i64ok'; omega) (by unfold i64ok'; omega) (by unfold i64ok'; omega) (by unfold i64ok'; omega) _)
    have o6 : (ofD X1.L ⟨true, 512, 512 + m, 512, 31, 0⟩).1 = 0 := by
      rw [H4.out.2.2.2.2.1, ofD_one]
      simp
    rw [o6] at A6
    refine A6.mono ?_
    rintro _ w10 ⟨rfl, hR, hc⟩
    have hx10 := hc.row _ _ _ _ H9.out.2 (by decide)
    have ok2 := heap_free H4.out.2.2.2.1 ⟨true, 512, 512 + m, 512, 31, 0⟩
    have hL2 := freeD_L H4.out.2.2.2.2.1 o6
    obtain ⟨y0, y1, y2, y3, y4, y5⟩ := lie6' hx10 (Below.refl _ w10)
    have hl12 := cell_lt y0
    simp only at hl12
    have H10 := Lib.hid (And.intro hR (And.intro ok2 hL2))
    clear A6 o6 hR hc hx10 ok2 hL2
    go_wp2_with fail
    have A7 := free_run H10.out.1 H10.out.2.1 ⟨true, 512, 512 + m, 512, 31, 0⟩ (HWX.out _ _ _ _ _ (by unfold i64ok'; omega) (by unfold i64ok'; omega) (by unfold i64ok'; omega) (by unfold i64ok'; omega) (by unfold i64ok'; omega) _)
    have o7 : (ofD (freeD X1 ⟨true, 512, 512 + m, 512, 31, 0⟩).L ⟨true, 512, 512 + m, 512, 31, 0⟩).1 = 3 := by
      rw [H10.out.2.2]
      exact ofD_nil _ rfl rfl
    have f7 := freeD_id (X := freeD X1 ⟨true, 512, 512 + m, 512, 31, 0⟩) (c := ⟨true, 512, 512 + m, 512, 31, 0⟩) (by rw [o7]; decide)
    rw [f7, o7] at A7
    refine A7.mono ?_
    rintro _ w11 ⟨rfl, hR, hc⟩
    have H11 := Lib.hid hR.from
    clear A7 o7 hR hc f7
    go_wp2_with fail
    go_ret
    exact ⟨rfl, H11.out⟩
  | true =>
    by_cases hty : ty = 0
    · subst hty
      by_cases hbs : bs = 512
      · subst hbs
        by_cases htp : tp = 512 + m
        · subst htp
          go_wp2_with fail
          have A5 := free_run (X := X1) H8.out.1 H4.out.2.2.2.1 ⟨true, 512, 512 + m, at', pe, 0⟩ HC.out
          have o5 : (ofD X1.L ⟨true, 512, 512 + m, at', pe, 0⟩).1 = 0 := by
            rw [H4.out.2.2.2.2.1, ofD_one]
            simp
          rw [o5] at A5
          refine A5.mono ?_
          rintro _ w9 ⟨rfl, hR, hc⟩
          have ok2 := heap_free H4.out.2.2.2.1 ⟨true, 512, 512 + m, at', pe, 0⟩
          have hL2 := freeD_L H4.out.2.2.2.2.1 o5
          have hx9 := hc.row _ _ _ _ H8.out.2.2 (by decide)
          obtain ⟨y0, y1, y2, y3, y4, y5⟩ := lie6' hx9 (Below.refl _ w9)
          have hl11 := cell_lt y0
          simp only at hl11
          have H9 := Lib.hid (And.intro hR (And.intro hx9 (And.intro ok2 hL2)))
          clear A5 o5 hR hc hx9 ok2 hL2
          go_wp2_with fail
          have A6 := free_run H9.out.1 H9.out.2.2.1 ⟨true, 512, 512 + m, 512, 31, 0⟩ (HWX.out _ _ _ _ _ (by unfold i64ok'; omega) (by unfold i64ok'; omega) (by unfold i64ok'; omega) (by unfold i64ok'; omega) (by unfold i64ok'; omega) _)
          have o6 : (ofD (freeD X1 ⟨true, 512, 512 + m, at', pe, 0⟩).L ⟨true, 512, 512 + m, 512, 31, 0⟩).1 = 3 := by
            rw [H9.out.2.2.2]
            exact ofD_nil _ rfl rfl
          have f6 := freeD_id (X := freeD X1 ⟨true, 512, 512 + m, at', pe, 0⟩) (c := ⟨true, 512, 512 + m, 512, 31, 0⟩) (by rw [o6]; decide)
          rw [f6, o6] at A6
          refine A6.mono ?_
          rintro _ w10 ⟨rfl, hR, hc⟩
          have hx10 := hc.row _ _ _ _ H9.out.2.1 (by decide)
          obtain ⟨y0, y1, y2, y3, y4, y5⟩ := lie6' hx10 (Below.refl _ w10)
          have hl12 := cell_lt y0
          simp only at hl12
          have H10 := Lib.hid hR
          clear A6 hR hc hx10
          go_wp2_with fail
          have A7 := free_run H10.out H9.out.2.2.1 ⟨true, 512, 512 + m, 512, 31, 0⟩ (HWX.out _ _ _ _ _ (by unfold i64ok'; omega) (by unfold i64ok'; omega) (by unfold i64ok'; omega) (by unfold i64ok'; omega) (by unfold i64ok'; omega) _)
          rw [f6, o6] at A7
          refine A7.mono ?_
          rintro _ w11 ⟨rfl, hR, hc⟩
          have H11 := Lib.hid hR.from
          clear A7 hR hc o6 f6
          go_wp2_with fail
          go_ret
          exact ⟨rfl, H11.out⟩
        · have htp' : (tp == 512 + m) = false := by simpa using htp
          go_wp2_with fail
          have A5 := free_run (X := X1) H8.out.1 H4.out.2.2.2.1 ⟨true, 512, tp, at', pe, 0⟩ HC.out
          obtain ⟨z, hz⟩ : ∃ z, z = (ofD X1.L ⟨true, 512, tp, at', pe, 0⟩).1 := ⟨_, rfl⟩
          have hz0 : z ≠ 0 := by
            rw [hz, H4.out.2.2.2.2.1, ofD_one]
            simp [htp]
          rw [freeD_id (by rw [← hz]; exact hz0), ← hz] at A5
          refine A5.mono ?_
          rintro _ w9 ⟨rfl, hR, hc⟩
          have hx9 := hc.row _ _ _ _ H8.out.2.2 (by decide)
          obtain ⟨y0, y1, y2, y3, y4, y5⟩ := lie6' hx9 (Below.refl _ w9)
          have hl11 := cell_lt y0
          simp only at hl11
          have H9 := Lib.hid (And.intro hR hx9)
          have hz1 : (z == 0) = false := by simpa using hz0
          clear A5 hz hR hc hx9
          go_wp2_with fail
          have A6 := free_run (X := X1) H9.out.1 H4.out.2.2.2.1 ⟨true, 512, 512 + m, 512, 31, 0⟩ (HWX.out _ _ _ _ _ (by unfold i64ok'; omega) (by unfold i64ok'; omega) (by unfold i64ok'; omega) (by unfold i64ok'; omega) (by unfold i64ok'; omega) _)
          have o6 : (ofD X1.L ⟨true, 512, 512 + m, 512, 31, 0⟩).1 = 0 := by
            rw [H4.out.2.2.2.2.1, ofD_one]
            simp
          rw [o6] at A6
          refine A6.mono ?_
          rintro _ w10 ⟨rfl, hR, hc⟩
          have hx10 := hc.row _ _ _ _ H9.out.2 (by decide)
          have ok2 := heap_free H4.out.2.2.2.1 ⟨true, 512, 512 + m, 512, 31, 0⟩
          have hL2 := freeD_L H4.out.2.2.2.2.1 o6
          obtain ⟨y0, y1, y2, y3, y4, y5⟩ := lie6' hx10 (Below.refl _ w10)
          have hl12 := cell_lt y0
          simp only at hl12
          have H10 := Lib.hid (And.intro hR (And.intro ok2 hL2))
          clear A6 o6 hR hc hx10 ok2 hL2
          go_wp2_with fail
          have A7 := free_run H10.out.1 H10.out.2.1 ⟨true, 512, 512 + m, 512, 31, 0⟩ (HWX.out _ _ _ _ _ (by unfold i64ok'; omega) (by unfold i64ok'; omega) (by unfold i64ok'; omega) (by unfold i64ok'; omega) (by unfold i64ok'; omega) _)
          have o7 : (ofD (freeD X1 ⟨true, 512, 512 + m, 512, 31, 0⟩).L ⟨true, 512, 512 + m, 512, 31, 0⟩).1 = 3 := by
            rw [H10.out.2.2]
            exact ofD_nil _ rfl rfl
          have f7 := freeD_id (X := freeD X1 ⟨true, 512, 512 + m, 512, 31, 0⟩) (c := ⟨true, 512, 512 + m, 512, 31, 0⟩) (by rw [o7]; decide)
          rw [f7, o7] at A7
          refine A7.mono ?_
          rintro _ w11 ⟨rfl, hR, hc⟩
          have H11 := Lib.hid hR.from
          clear A7 o7 hR hc f7
          go_wp2_with fail
          go_ret
          exact ⟨rfl, H11.out⟩
      · go_wp2_with fail
        have A5 := free_run (X := X1) H8.out.1 H4.out.2.2.2.1 ⟨true, bs, tp, at', pe, 0⟩ HC.out
        obtain ⟨z, hz⟩ : ∃ z, z = (ofD X1.L ⟨true, bs, tp, at', pe, 0⟩).1 := ⟨_, rfl⟩
        have hz0 : z ≠ 0 := by
          rw [hz, H4.out.2.2.2.2.1, ofD_one]
          simp [Ne.symm hbs]
        rw [freeD_id (by rw [← hz]; exact hz0), ← hz] at A5
        refine A5.mono ?_
        rintro _ w9 ⟨rfl, hR, hc⟩
        have hx9 := hc.row _ _ _ _ H8.out.2.2 (by decide)
        obtain ⟨y0, y1, y2, y3, y4, y5⟩ := lie6' hx9 (Below.refl _ w9)
        have hl11 := cell_lt y0
        simp only at hl11
        have H9 := Lib.hid (And.intro hR hx9)
        have hz1 : (z == 0) = false := by simpa using hz0
        clear A5 hz hR hc hx9
        go_wp2_with fail
        have A6 := free_run (X := X1) H9.out.1 H4.out.2.2.2.1 ⟨true, 512, 512 + m, 512, 31, 0⟩ (HWX.out _ _ _ _ _ (by unfold i64ok'; omega) (by unfold i64ok'; omega) (by unfold i64ok'; omega) (by unfold i64ok'; omega) (by unfold i64ok'; omega) _)
        have o6 : (ofD X1.L ⟨true, 512, 512 + m, 512, 31, 0⟩).1 = 0 := by
          rw [H4.out.2.2.2.2.1, ofD_one]
          simp
        rw [o6] at A6
        refine A6.mono ?_
        rintro _ w10 ⟨rfl, hR, hc⟩
        have hx10 := hc.row _ _ _ _ H9.out.2 (by decide)
        have ok2 := heap_free H4.out.2.2.2.1 ⟨true, 512, 512 + m, 512, 31, 0⟩
        have hL2 := freeD_L H4.out.2.2.2.2.1 o6
        obtain ⟨y0, y1, y2, y3, y4, y5⟩ := lie6' hx10 (Below.refl _ w10)
        have hl12 := cell_lt y0
        simp only at hl12
        have H10 := Lib.hid (And.intro hR (And.intro ok2 hL2))
        clear A6 o6 hR hc hx10 ok2 hL2
        go_wp2_with fail
        have A7 := free_run H10.out.1 H10.out.2.1 ⟨true, 512, 512 + m, 512, 31, 0⟩ (HWX.out _ _ _ _ _ (by unfold i64ok'; omega) (by unfold i64ok'; omega) (by unfold i64ok'; omega) (by unfold i64ok'; omega) (by unfold i64ok'; omega) _)
        have o7 : (ofD (freeD X1 ⟨true, 512, 512 + m, 512, 31, 0⟩).L ⟨true, 512, 512 + m, 512, 31, 0⟩).1 = 3 := by
          rw [H10.out.2.2]
          exact ofD_nil _ rfl rfl
        have f7 := freeD_id (X := freeD X1 ⟨true, 512, 512 + m, 512, 31, 0⟩) (c := ⟨true, 512, 512 + m, 512, 31, 0⟩) (by rw [o7]; decide)
        rw [f7, o7] at A7
        refine A7.mono ?_
        rintro _ w11 ⟨rfl, hR, hc⟩
        have H11 := Lib.hid hR.from
        clear A7 o7 hR hc f7
        go_wp2_with fail
        go_ret
        exact ⟨rfl, H11.out⟩
    · go_wp2_with fail
      have A5 := free_run (X := X1) H8.out.1 H4.out.2.2.2.1 ⟨true, bs, tp, at', pe, ty⟩ HC.out
      obtain ⟨z, hz⟩ : ∃ z, z = (ofD X1.L ⟨true, bs, tp, at', pe, ty⟩).1 := ⟨_, rfl⟩
      have hz0 : z ≠ 0 := by
        rw [hz, H4.out.2.2.2.2.1, ofD_one]
        simp [hty]
      rw [freeD_id (by rw [← hz]; exact hz0), ← hz] at A5
      refine A5.mono ?_
      rintro _ w9 ⟨rfl, hR, hc⟩
      have hx9 := hc.row _ _ _ _ H8.out.2.2 (by decide)
      obtain ⟨y0, y1, y2, y3, y4, y5⟩ := lie6' hx9 (Below.refl _ w9)
      have hl11 := cell_lt y0
      simp only at hl11
      have H9 := Lib.hid (And.intro hR hx9)
      have hz1 : (z == 0) = false := by simpa using hz0
      clear A5 hz hR hc hx9
      go_wp2_with fail
      have A6 := free_run (X := X1) H9.out.1 H4.out.2.2.2.1 ⟨true, 512, 512 + m, 512, 31, 0⟩ (HWX.out _ _ _ _ _ (by unfold i64ok'; omega) (by unfold i64ok'; omega) (by unfold i64ok'; omega) (by unfold i64ok'; omega) (by unfold i64ok'; omega) _)
      have o6 : (ofD X1.L ⟨true, 512, 512 + m, 512, 31, 0⟩).1 = 0 := by
        rw [H4.out.2.2.2.2.1, ofD_one]
        simp
      rw [o6] at A6
      refine A6.mono ?_
      rintro _ w10 ⟨rfl, hR, hc⟩
      have hx10 := hc.row _ _ _ _ H9.out.2 (by decide)
      have ok2 := heap_free H4.out.2.2.2.1 ⟨true, 512, 512 + m, 512, 31, 0⟩
      have hL2 := freeD_L H4.out.2.2.2.2.1 o6
      obtain ⟨y0, y1, y2, y3, y4, y5⟩ := lie6' hx10 (Below.refl _ w10)
      have hl12 := cell_lt y0
      simp only at hl12
      have H10 := Lib.hid (And.intro hR (And.intro ok2 hL2))
      clear A6 o6 hR hc hx10 ok2 hL2
      go_wp2_with fail
      have A7 := free_run H10.out.1 H10.out.2.1 ⟨true, 512, 512 + m, 512, 31, 0⟩ (HWX.out _ _ _ _ _ (by unfold i64ok'; omega) (by unfold i64ok'; omega) (by unfold i64ok'; omega) (by unfold i64ok'; omega) (by unfold i64ok'; omega) _)
      have o7 : (ofD (freeD X1 ⟨true, 512, 512 + m, 512, 31, 0⟩).L ⟨true, 512, 512 + m, 512, 31, 0⟩).1 = 3 := by
        rw [H10.out.2.2]
        exact ofD_nil _ rfl rfl
      have f7 := freeD_id (X := freeD X1 ⟨true, 512, 512 + m, 512, 31, 0⟩) (c := ⟨true, 512, 512 + m, 512, 31, 0⟩) (by rw [o7]; decide)
      rw [f7, o7] at A7
      refine A7.mono ?_
      rintro _ w11 ⟨rfl, hR, hc⟩
      have H11 := Lib.hid hR.from
      clear A7 o7 hR hc f7
      go_wp2_with fail
      go_ret
      exact ⟨rfl, H11.out⟩
end Go.Proofs.Ytpjlhkepdiajjaa

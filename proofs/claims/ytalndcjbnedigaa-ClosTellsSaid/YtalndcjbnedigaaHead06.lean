
/- The live question of layer 6. -/
import Derived.Test.YtalndcjbnedigaaClosOp
import Derived.Test.YtalndcjbnedigaaClosD
import Derived.Test.YtalndcjbnedigaaClosH
set_option linter.all false
namespace Go.Proofs.Ytalndcjbnedigaa
open Go.RowKit Go.Shelf
attribute [local go_sem] seen dstOf boolOf

theorem SetOk.wf {l G O : List Cap} (h : SetOk l G O) (hw : ∀ x ∈ l, CapWf x) : (∀ g ∈ G, CapWf g) ∧ ∀ o ∈ O, CapWf o := by
  have h1 : ∀ g ∈ G, CapWf g := fun g hg => by
    rw [h.grants] at hg
    exact hw g (mem_grantsL.1 hg).1
  refine ⟨h1, fun o ho => ?_⟩
  obtain ⟨g, hg, rfl⟩ := ((h.opens o).1 ho).grant
  exact bare_wf (h1 g hg)
theorem setOk_calc (l : List Cap) (k : Nat) (h : (roundL (grantsL l) (roundsL (grantsL l) k)).length = (roundsL (grantsL l) k).length) : SetOk l (grantsL l) (roundsL (grantsL l) k) :=
  ⟨rfl, round_all (sound_rounds _ k) h, (sound_rounds _ k).once⟩
/-- A set that lies, and is that of these grants. -/
def IsSet (B : Nat) (W : World) (sp : Nat) (l G O : List Cap) : Prop := ∃ vg vo, SetAt B W sp vg vo G O ∧ SetOk l G O
theorem IsSet.ext {B : Nat} {W W' : World} {sp : Nat} {l G O : List Cap} (h : IsSet B W sp l G O) (e : Ext W W') : IsSet B W' sp l G O := by
  obtain ⟨vg, vo, h1, h2⟩ := h
  exact ⟨vg, vo, h1.ext e, h2⟩
theorem IsSet.lt {B : Nat} {W : World} {sp : Nat} {l G O : List Cap} (h : IsSet B W sp l G O) : sp < W.heap.size := by
  obtain ⟨vg, vo, h1, h2⟩ := h
  exact (Array.getElem?_eq_some_iff.1 h1.row).1
theorem IsSet.ok {B : Nat} {W : World} {sp : Nat} {l G O : List Cap} (h : IsSet B W sp l G O) : SetOk l G O := h.choose_spec.choose_spec.2
theorem has_set {B sp : Nat} {l G O : List Cap} (c : Cap) {w : World} (h : IsSet B w sp l G O) (hl : l.length ≤ 1000) (hw : ∀ x ∈ l, CapWf x) (hc : CapWf c) : Calls Try.prog 13 #[.pointer (some ⟨sp, 0, none⟩), c.val] w (Tell w (hasS G O c)) := by
  obtain ⟨vg, vo, h1, h2⟩ := h
  have hn := h2.len
  exact has_any B sp vg vo G O c w h1 (by omega) (by omega) (h2.wf hw).1 (h2.wf hw).2 hc
theorem open_set {B sp : Nat} {l G O : List Cap} {w : World} (h : IsSet B w sp l G O) (hl : l.length ≤ 1000) (hw : ∀ x ∈ l, CapWf x) : Calls Try.prog 16 #[.pointer (some ⟨sp, 0, none⟩)] w (GivesC w (openS O)) := by
  obtain ⟨vg, vo, h1, h2⟩ := h
  have hn := h2.len
  exact open_any B sp vg vo G O w h1 (by omega) (h2.wf hw).2 fun o ho => h2.open ho
def TypesPost (w : World) (l : List Int) (e : Ending) (w' : World) : Prop := ∃ v, e = .returned v ∧ w'.ownsRow w.heap.size 3 1 v l.length (l.map (Value.int .i64 ·)) ∧ Ext w w'
theorem types_set {B sp : Nat} {l G O : List Cap} (p : Int) {w : World} (h : IsSet B w sp l G O) (hl : l.length ≤ 1000) (hw : ∀ x ∈ l, CapWf x) (hp : i64ok' p) : Calls Try.prog 19 #[.pointer (some ⟨sp, 0, none⟩), .int .i64 p] w (TypesPost w (typesS O p)) := by
  obtain ⟨vg, vo, h1, h2⟩ := h
  have hn := h2.len
  exact types_any B sp vg vo G O p w h1 (by omega) (h2.wf hw).2 hp
def NewSet (w : World) (l : List Cap) (e : Ending) (w' : World) : Prop := ∃ sp G O, e = .returned (.pointer (some ⟨sp, 0, none⟩)) ∧ IsSet w.heap.size w' sp l G O ∧ w.heap.size ≤ sp ∧ Ext w w'
theorem new_is (A : Option Addr) (c : Nat) (l : List Cap) (w : World) (hA : Arr w A (capCells l)) (hwf : ∀ x ∈ l, CapWf x) (hl : l.length ≤ 1000) : Calls Try.prog 11 #[.slice A l.length c] w (NewSet w l) :=
  (new_set A c l w hA hwf hl).mono fun _ _ ⟨sp, vg, vo, G, O, h1, h2, h3, h4, h5⟩ => ⟨sp, G, O, h1, ⟨vg, vo, h2, h3⟩, h4, h5⟩

def hData : Cap := ⟨true, 64, 128, 64, 3, 0⟩
def hSeal : Cap := ⟨true, 256, 512, 300, 1, 9⟩
def hKey : Cap := ⟨true, 9, 10, 9, 64, 0⟩
def hInner : Cap := ⟨true, 256, 257, 0, 1, 0⟩
def hFar : Cap := ⟨true, 60, 70, 0, 1, 0⟩
def hBare : Cap := ⟨false, 60, 70, 0, 1, 0⟩
def hBad : Cap := ⟨false, 0, 0, -1, 0, 0⟩
def hs2 : List Cap := [hData, hSeal]
def hs3 : List Cap := [hData, hSeal, hKey]
theorem hs2_wf : ∀ x ∈ hs2, CapWf x := by
  intro x hx
  simp only [hs2, List.mem_cons, List.not_mem_nil, or_false] at hx
  rcases hx with rfl | rfl <;> exact ⟨by unfold i64ok'; decide, by unfold i64ok'; decide, by unfold i64ok'; decide, by unfold i64ok'; decide, by unfold i64ok'; decide⟩
theorem hs3_wf : ∀ x ∈ hs3, CapWf x := by
  intro x hx
  simp only [hs3, List.mem_cons, List.not_mem_nil, or_false] at hx
  rcases hx with rfl | rfl | rfl <;> exact ⟨by unfold i64ok'; decide, by unfold i64ok'; decide, by unfold i64ok'; decide, by unfold i64ok'; decide, by unfold i64ok'; decide⟩
theorem h2_ok : SetOk hs2 (grantsL hs2) (roundsL (grantsL hs2) 1) := setOk_calc hs2 1 (by decide +kernel)
theorem h3_ok : SetOk hs3 (grantsL hs3) (roundsL (grantsL hs3) 2) := setOk_calc hs3 2 (by decide +kernel)
/-- What is told of the first set. -/
theorem h2_tells {G O : List Cap} (h : SetOk hs2 G O) : hasS G O hSeal = true ∧ hasS G O hInner = false ∧ (openS O).length = 1 := by
  obtain ⟨h1, h2, -, -⟩ := set_same h h2_ok fun _ => Iff.rfl
  rw [h1, h1, h2, openS_len]
  decide +kernel
theorem h3_tells {G O : List Cap} (h : SetOk hs3 G O) : hasS G O hInner = true ∧ hasS G O hFar = false ∧ hasS G O hBare = true ∧ hasS G O hBad = false ∧ typesS O 64 = [9] ∧ typesS O 32 = [] ∧ (openS O).length = 3 := by
  obtain ⟨h1, h2, h3, -⟩ := set_same h h3_ok fun _ => Iff.rfl
  rw [h1, h1, h1, h1, h2, h3, h3, openS_len]
  decide +kernel
set_option maxHeartbeats 1000000 in
set_option maxRecDepth 20000 in
theorem head06 (w : World) : Calls Try.prog 10 #[] w fun e w' => e = .returned (.bool true) ∧ Ext w w' := by
  go_enter Try.func10, Try.ntmps10
  go_wp2_with fail
  refine (new_is (some ⟨w.heap.size + 1 + 1 + 1, 0, none⟩) 2 hs2 _ (arrNew (new_at (w := ((w.alloc _).alloc _).alloc _) (by simp) (Below.refl _ _))) hs2_wf (by decide)).mono ?_
  rintro _ w1 ⟨s, G, O, rfl, hs, hp, hE⟩
  have E1 : Hid (Ext w w1) := Lib.hid (Ext.then (by repeat first | (with_reducible exact Below.refl _ _) | (with_reducible apply Ext.alloc) | (with_reducible apply Ext.drew) | (with_reducible apply Ext.drewN) | (with_reducible refine Ext.set ?_ (by simp))) hE)
  have S1 := Lib.hid hs
  obtain ⟨y0, y1, y2, y3, y4, y5⟩ := lie6' (new_at (w := w) (b := w.heap.size) (o := .cells #[.bool true, .int .i64 64, .int .i64 128, .int .i64 64, .int .i64 3, .int .i64 0] 24) rfl (Ext.alloc (Ext.alloc (Ext.alloc (Below.refl _ _) _) _) _)) hE
  obtain ⟨z0, z1, z2, z3, z4, z5⟩ := lie6' (new_at (w := w.alloc _) (b := w.heap.size + 1) (o := .cells #[.bool true, .int .i64 256, .int .i64 512, .int .i64 300, .int .i64 1, .int .i64 9] 24) (by simp) (Ext.alloc (Ext.alloc (Below.refl _ _) _) _)) hE
  obtain ⟨x0, x1, x2, x3, x4, x5⟩ := lie6' (new_at (w := (w.alloc _).alloc _) (b := w.heap.size + 1 + 1) (o := .cells #[.bool true, .int .i64 9, .int .i64 10, .int .i64 9, .int .i64 64, .int .i64 0] 24) (by simp) (Ext.alloc (Below.refl _ _) _)) hE
  have hlt := cell_lt x0
  simp only at hlt
  have T1 := Lib.hid (h2_tells hs.ok)
  clear hs hE
  go_wp2_with fail
  refine (new_is (some ⟨w1.heap.size, 0, none⟩) 3 hs3 _ (arrNew (heap_alloc_new w1 _)) hs3_wf (by decide)).mono ?_
  rintro _ w2 ⟨t, G', O', rfl, hs, hp', hE⟩
  have E2 : Hid (Ext w1 w2) := Lib.hid (Ext.then (by repeat first | (with_reducible exact Below.refl _ _) | (with_reducible apply Ext.alloc) | (with_reducible apply Ext.drew) | (with_reducible apply Ext.drewN) | (with_reducible refine Ext.set ?_ (by simp))) hE)
  have S2 := Lib.hid hs
  have T2 := Lib.hid (h3_tells hs.ok)
  have W1 : Hid (IsSet _ w2 s hs2 G O) := Lib.hid (S1.out.ext E2.out)
  replace z0 := ext_cell E2.out _ _ z0
  replace z1 := ext_cell E2.out _ _ z1
  replace z2 := ext_cell E2.out _ _ z2
  replace z3 := ext_cell E2.out _ _ z3
  replace z4 := ext_cell E2.out _ _ z4
  replace z5 := ext_cell E2.out _ _ z5
  have hlt2 : w.heap.size + 1 + 1 < w2.heap.size := Nat.lt_of_lt_of_le hlt E2.out.size
  clear hs hE x0 x1 x2 x3 x4 x5 y0 y1 y2 y3 y4 y5 S1
  go_wp2_with fail
  refine (types_set 64 (S2.out.ext (Ext.alloc (Below.refl _ _) _)) (by decide) hs3_wf (by unfold i64ok'; omega)).mono ?_
  rintro _ w3 ⟨v7, rfl, ho, hE⟩
  rw [T2.out.2.2.2.2.1] at ho
  obtain ⟨A7, c7, rfl, -, ha7⟩ := Arr.own ho
  obtain ⟨b7, o7, rfl, hb7, ca⟩ := ha7.open (by decide)
  have u0 : w3.cell? ⟨b7, o7, none⟩ = some (.int .i64 9) := by simpa using ca 0 (by decide)
  have E3 : Hid (Ext w2 w3) := Lib.hid (Ext.then (by repeat first | (with_reducible exact Below.refl _ _) | (with_reducible apply Ext.alloc) | (with_reducible apply Ext.drew) | (with_reducible apply Ext.drewN) | (with_reducible refine Ext.set ?_ (by simp))) hE)
  replace z0 := ext_cell E3.out _ _ z0
  replace z1 := ext_cell E3.out _ _ z1
  replace z2 := ext_cell E3.out _ _ z2
  replace z3 := ext_cell E3.out _ _ z3
  replace z4 := ext_cell E3.out _ _ z4
  replace z5 := ext_cell E3.out _ _ z5
  obtain ⟨x0, x1, x2, x3, x4, x5⟩ := lie6' (new_at (w := w2) (b := w2.heap.size) (o := .cells #[.bool true, .int .i64 256, .int .i64 257, .int .i64 0, .int .i64 1, .int .i64 0] 24) rfl (Below.refl _ _)) hE
  have hltx := cell_lt x0
  simp only at hltx
  rw [show ([9] : List Int).length = 1 from rfl]
  clear hE ho ha7 ca
  go_wp2_with fail
  refine (has_set hSeal (W1.out.ext E3.out) (by decide) hs2_wf ⟨by unfold i64ok'; decide, by unfold i64ok'; decide, by unfold i64ok'; decide, by unfold i64ok'; decide, by unfold i64ok'; decide⟩).mono ?_
  rintro e w4 ⟨rfl, hE⟩
  rw [T1.out.1]
  have E4 : Hid (Ext w2 w4) := Lib.hid (E3.out.then hE)
  replace x0 := ext_cell hE _ _ x0
  replace x1 := ext_cell hE _ _ x1
  replace x2 := ext_cell hE _ _ x2
  replace x3 := ext_cell hE _ _ x3
  replace x4 := ext_cell hE _ _ x4
  replace x5 := ext_cell hE _ _ x5
  replace u0 := ext_cell hE _ _ u0
  clear hE
  go_wp2_with fail
  refine (has_set hInner (W1.out.ext E4.out) (by decide) hs2_wf ⟨by unfold i64ok'; decide, by unfold i64ok'; decide, by unfold i64ok'; decide, by unfold i64ok'; decide, by unfold i64ok'; decide⟩).mono ?_
  rintro e w5 ⟨rfl, hE⟩
  rw [T1.out.2.1]
  have E5 : Hid (Ext w2 w5) := Lib.hid (E4.out.then hE)
  replace x0 := ext_cell hE _ _ x0
  replace x1 := ext_cell hE _ _ x1
  replace x2 := ext_cell hE _ _ x2
  replace x3 := ext_cell hE _ _ x3
  replace x4 := ext_cell hE _ _ x4
  replace x5 := ext_cell hE _ _ x5
  replace u0 := ext_cell hE _ _ u0
  clear hE
  go_wp2_with fail
  refine (has_set hInner (S2.out.ext E5.out) (by decide) hs3_wf ⟨by unfold i64ok'; decide, by unfold i64ok'; decide, by unfold i64ok'; decide, by unfold i64ok'; decide, by unfold i64ok'; decide⟩).mono ?_
  rintro e w6 ⟨rfl, hE⟩
  rw [T2.out.1]
  have E6 : Hid (Ext w2 w6) := Lib.hid (E5.out.then hE)
  replace u0 := ext_cell hE _ _ u0
  clear hE
  go_wp2_with fail
  refine (has_set hFar (S2.out.ext E6.out) (by decide) hs3_wf ⟨by unfold i64ok'; decide, by unfold i64ok'; decide, by unfold i64ok'; decide, by unfold i64ok'; decide, by unfold i64ok'; decide⟩).mono ?_
  rintro e w7 ⟨rfl, hE⟩
  rw [T2.out.2.1]
  have E7 : Hid (Ext w2 w7) := Lib.hid (E6.out.then hE)
  replace u0 := ext_cell hE _ _ u0
  clear hE
  go_wp2_with fail
  refine (has_set hBare (S2.out.ext E7.out) (by decide) hs3_wf ⟨by unfold i64ok'; decide, by unfold i64ok'; decide, by unfold i64ok'; decide, by unfold i64ok'; decide, by unfold i64ok'; decide⟩).mono ?_
  rintro e w8 ⟨rfl, hE⟩
  rw [T2.out.2.2.1]
  have E8 : Hid (Ext w2 w8) := Lib.hid (E7.out.then hE)
  replace u0 := ext_cell hE _ _ u0
  clear hE
  go_wp2_with fail
  refine (has_set hBad (S2.out.ext E8.out) (by decide) hs3_wf ⟨by unfold i64ok'; decide, by unfold i64ok'; decide, by unfold i64ok'; decide, by unfold i64ok'; decide, by unfold i64ok'; decide⟩).mono ?_
  rintro e w9 ⟨rfl, hE⟩
  rw [T2.out.2.2.2.1]
  have E9 : Hid (Ext w2 w9) := Lib.hid (E8.out.then hE)
  replace u0 := ext_cell hE _ _ u0
  clear hE
  go_wp2_with fail
  refine (types_set 32 (S2.out.ext E9.out) (by decide) hs3_wf (by unfold i64ok'; omega)).mono ?_
  rintro _ w10 ⟨v10, rfl, ho, hE⟩
  rw [T2.out.2.2.2.2.2.1] at ho
  obtain ⟨A10, c10, rfl, -, -⟩ := Arr.own ho
  have E10 : Hid (Ext w2 w10) := Lib.hid (E9.out.then hE)
  rw [show ([] : List Int).length = 0 from rfl]
  clear ho hE
  go_wp2_with fail
  refine (open_set (S2.out.ext E10.out) (by decide) hs3_wf).mono ?_
  rintro _ w11 ⟨v11, rfl, ho, hE⟩
  rw [T2.out.2.2.2.2.2.2] at ho
  obtain ⟨A11, c11, rfl, -, -⟩ := Arr.own ho
  have E11 : Hid (Ext w2 w11) := Lib.hid (E10.out.then hE)
  clear ho hE
  go_wp2_with fail
  refine (open_set (W1.out.ext E11.out) (by decide) hs2_wf).mono ?_
  rintro _ w12 ⟨v12, rfl, ho, hE⟩
  rw [T1.out.2.2] at ho
  obtain ⟨A12, c12, rfl, -, -⟩ := Arr.own ho
  have E12 : Hid (Ext w2 w12) := Lib.hid (E11.out.then hE)
  clear ho hE
  go_wp2_with fail
  go_ret
  exact ⟨rfl, (E1.out.then E2.out).then E12.out⟩
end Go.Proofs.Ytalndcjbnedigaa


/- head of the layer's statements. -/
import Derived.Test.YtpjlhkepdiajjaaRun14
import Derived.Test.YtpjlhkepdiajjaaEqCap
set_option linter.all false
namespace Go.Proofs.Ytpjlhkepdiajjaa
open Go.RowKit Go.Shelf
attribute [local go_sem] seen dstOf boolOf
attribute [local go_sem high] eqCap

def hX0 : HeapD := startD (rootC 256 8) 32 64 (List.replicate 1 0)
def hX1 : HeapD := (allocD hX0 20).1
def hX2 : HeapD := (allocD hX1 64).1
def hX3 : HeapD := (allocD hX2 48).1
def hA : Cap := ⟨true, 256, 276, 256, 31, 0⟩
def hB : Cap := ⟨true, 288, 352, 288, 31, 0⟩
def hC : Cap := ⟨true, 256, 257, 256, 31, 0⟩
def hX4 : HeapD := freeD hX3 hA
def hX5 : HeapD := freeD hX4 hA
def hX6 : HeapD := beginD hX5
def hX7 : HeapD := endD hX6
def hX8 : HeapD := (allocD hX7 1).1
theorem he1 : (allocD hX0 20).2 = (hA, 0) := by kernel_rfl
theorem he2 : (allocD hX1 64).2 = (hB, 0) := by kernel_rfl
theorem he3 : (allocD hX2 48).2 = (Cap.zero, 5) := by kernel_rfl
theorem hes : sizeD hX3.L hA = (32, 0) := by kernel_rfl
theorem he4 : (ofD hX3.L hA).1 = 0 := by kernel_rfl
theorem he5 : (ofD hX4.L hA).1 = 3 := by kernel_rfl
theorem hew : wantsD hX5 = true := by kernel_rfl
theorem he6 : beginB hX5.time = true := by kernel_rfl
theorem hem : manyW hX6.ws hX6.G = 2 := by kernel_rfl
theorem he7 : runsB hX6.time = true := by kernel_rfl
theorem he8 : (allocD hX7 1).2 = (hC, 0) := by kernel_rfl
theorem hen : manyW hX8.ws hX8.G = 0 := by kernel_rfl
theorem hel : sumR hX8.R = 48 := by kernel_rfl
theorem het : hX8.time = 2 := by kernel_rfl
theorem newOk_head : newOk (rootC 256 8) 32 := by
  refine ⟨by unfold mayBe rootC; simp, by decide, by decide, by decide, rfl, rfl⟩
theorem wf_root : CapWf (rootC 256 8) := ⟨by unfold i64ok' rootC; simp, by unfold i64ok' rootC; simp, by unfold i64ok' rootC; simp, by unfold i64ok' rootC; simp, by unfold i64ok' rootC; simp⟩
theorem wf_hA : CapWf hA := ⟨by unfold i64ok' hA; simp, by unfold i64ok' hA; simp, by unfold i64ok' hA; simp, by unfold i64ok' hA; simp, by unfold i64ok' hA; simp⟩
theorem wf_zero : CapWf Cap.zero := ⟨by unfold i64ok' Cap.zero; simp, by unfold i64ok' Cap.zero; simp, by unfold i64ok' Cap.zero; simp, by unfold i64ok' Cap.zero; simp, by unfold i64ok' Cap.zero; simp⟩
theorem not_zero : ¬ newOk Cap.zero 32 := fun h => by have := h.2.2.2.2.1; cases this
theorem ho0 : HeapOk hX0 := heap_start wf_root newOk_head (by decide) (by decide)
theorem ho1 : HeapOk hX1 := heap_alloc ho0 20
theorem ho2 : HeapOk hX2 := heap_alloc ho1 64
theorem ho3 : HeapOk hX3 := heap_alloc ho2 48
theorem ho4 : HeapOk hX4 := heap_free ho3 hA
theorem ho5 : HeapOk hX5 := heap_free ho4 hA
theorem ho6 : HeapOk hX6 := heap_begin ho5
theorem ho7 : HeapOk hX7 := heap_end ho6
set_option maxHeartbeats 4000000 in
set_option maxRecDepth 40000 in
theorem head14 (w : World) : Calls Try.prog 8 #[] w fun e w' => e = .returned (.bool true) ∧ Ext w w' := by
  have hi20 : i64ok' 20 := by unfold i64ok'; omega
  have hi64 : i64ok' 64 := by unfold i64ok'; omega
  have hi48 : i64ok' 48 := by unfold i64ok'; omega
  have hi1 : i64ok' 1 := by unfold i64ok'; omega
  go_enter Try.func8, Try.ntmps8
  go_wp2_with fail
  refine (newS_any 64 w).mono ?_
  rintro _ w1 (⟨hb, -⟩ | ⟨-, rfl, hS, hE⟩)
  · omega
  have H1 := Lib.hid (And.intro hE hS)
  clear hE hS
  go_wp2_with fail
  refine (root_any 256 8 _ (by omega) (by omega)).mono ?_
  rintro _ w2 ⟨rfl, hE⟩
  have H2 := Lib.hid (And.intro (H1.out.1.then hE) (H1.out.2.ext hE))
  clear hE
  go_wp2_with fail
  refine (new_run (w0 := w) (rootC 256 8) (w.heap.size + 1) w.heap.size 64 (List.replicate 1 0) 32 H2.out.1 (Nat.le_refl _) H2.out.2 wf_root newOk_head).mono ?_
  rintro _ w3 ⟨hE, hp, rfl, hR⟩
  have H3 := Lib.hid hR
  clear hE hR
  go_wp2_with fail
  refine (newH_no Cap.zero (w.heap.size + 1) 32 _ wf_zero not_zero).mono ?_
  rintro _ w4 ⟨rfl, hE⟩
  have H4 := Lib.hid (H3.out.ext hE)
  clear hE
  go_wp2_with fail
  have A1 := alloc_run (X := hX0) H4.out ho0 20 hi20
  rw [he1] at A1
  refine A1.mono ?_
  rintro _ w5 ⟨rfl, hR, -⟩
  have H5 := Lib.hid hR
  clear A1 hR
  simp only [hA]
  go_wp2_with fail
  have A2 := alloc_run (X := hX1) (H5.out.ext (Ext.alloc (Below.refl _ _) (.cells hA.cells.toArray 27))) ho1 64 hi64
  rw [he2] at A2
  refine A2.mono ?_
  rintro _ w6 ⟨rfl, hR, hc⟩
  have ha6 := hc.row _ _ _ _ (heap_alloc_new w5 (.cells hA.cells.toArray 27)) (by decide)
  have H6 := Lib.hid (And.intro hR ha6)
  clear A2 hR hc ha6
  simp only [hB]
  go_wp2_with fail
  have A3 := alloc_run (X := hX2) (H6.out.1.ext (Ext.alloc (Below.refl _ _) (.cells hB.cells.toArray 27))) ho2 48 hi48
  rw [he3] at A3
  refine A3.mono ?_
  rintro _ w7 ⟨rfl, hR, hc⟩
  have ha7 := hc.row _ _ _ _ ((Below.heap_alloc w6 (.cells hB.cells.toArray 27) _ (Array.getElem?_eq_some_iff.1 H6.out.2).1).trans H6.out.2) (by decide)
  have hb7 := hc.row _ _ _ _ (heap_alloc_new w6 (.cells hB.cells.toArray 27)) (by decide)
  obtain ⟨y0, y1, y2, y3, y4, y5⟩ := lie6' ha7 (Below.refl _ w7)
  have hl7 := cell_lt y0
  simp only at hl7
  have H7 := Lib.hid (And.intro hR (And.intro ha7 hb7))
  clear A3 hR hc ha7 hb7
  simp only [Cap.zero]
  go_wp2_with fail
  have A4 := size_run (X := hX3) (H7.out.1.ext (Ext.alloc (Below.refl _ _) (.cells Cap.zero.cells.toArray 27))) ho3 hA wf_hA
  rw [hes] at A4
  refine A4.mono ?_
  rintro _ w8 ⟨rfl, hE⟩
  have e8 : Ext w7 w8 := (Ext.alloc (Below.refl _ _) _).then hE
  obtain ⟨y0, y1, y2, y3, y4, y5⟩ := lie6' H7.out.2.1 e8
  have hl8 := cell_lt y0
  simp only at hl8
  have H8 := Lib.hid (And.intro (H7.out.1.ext e8) (And.intro ((e8.block _ (Array.getElem?_eq_some_iff.1 H7.out.2.1).1).trans H7.out.2.1) ((e8.block _ (Array.getElem?_eq_some_iff.1 H7.out.2.2).1).trans H7.out.2.2)))
  clear A4 hE e8
  go_wp2_with fail
  have A5 := free_run (X := hX3) H8.out.1 ho3 hA wf_hA
  rw [he4] at A5
  refine A5.mono ?_
  rintro _ w9 ⟨rfl, hR, hc⟩
  have ha9 := hc.row _ _ _ _ H8.out.2.1 (by decide)
  have hb9 := hc.row _ _ _ _ H8.out.2.2 (by decide)
  obtain ⟨y0, y1, y2, y3, y4, y5⟩ := lie6' ha9 (Below.refl _ w9)
  have hl9 := cell_lt y0
  simp only at hl9
  have H9 := Lib.hid (And.intro hR (And.intro ha9 hb9))
  clear A5 hR hc ha9 hb9
  go_wp2_with fail
  have A6 := free_run (X := hX4) H9.out.1 ho4 hA wf_hA
  rw [he5] at A6
  refine A6.mono ?_
  rintro _ w10 ⟨rfl, hR, hc⟩
  have ha9 := hc.row _ _ _ _ H9.out.2.1 (by decide)
  have hb9 := hc.row _ _ _ _ H9.out.2.2 (by decide)
  have H10 := Lib.hid (And.intro hR (And.intro ha9 hb9))
  clear A6 hR hc ha9 hb9
  go_wp2_with fail
  have A7 := wants_run (X := hX5) H10.out.1 ho5
  rw [hew] at A7
  refine A7.mono ?_
  rintro _ w11 ⟨rfl, e8⟩
  have H11 := Lib.hid (And.intro (H10.out.1.ext e8) (And.intro ((e8.block _ (Array.getElem?_eq_some_iff.1 H10.out.2.1).1).trans H10.out.2.1) ((e8.block _ (Array.getElem?_eq_some_iff.1 H10.out.2.2).1).trans H10.out.2.2)))
  clear A7 e8
  go_wp2_with fail
  have A8 := begin_run (X := hX5) H11.out.1 ho5
  rw [he6] at A8
  refine A8.mono ?_
  rintro _ w12 ⟨rfl, hR, hc⟩
  have ha9 := hc.row _ _ _ _ H11.out.2.1 (by decide)
  have hb9 := hc.row _ _ _ _ H11.out.2.2 (by decide)
  have H12 := Lib.hid (And.intro hR (And.intro ha9 hb9))
  clear A8 hR hc ha9 hb9
  go_wp2_with fail
  have A9 := many_run (X := hX6) H12.out.1
  rw [hem] at A9
  refine A9.mono ?_
  rintro _ w13 ⟨rfl, e8⟩
  have H13 := Lib.hid (And.intro (H12.out.1.ext e8) (And.intro ((e8.block _ (Array.getElem?_eq_some_iff.1 H12.out.2.1).1).trans H12.out.2.1) ((e8.block _ (Array.getElem?_eq_some_iff.1 H12.out.2.2).1).trans H12.out.2.2)))
  clear A9 e8
  go_wp2_with fail
  have A10 := end_run (X := hX6) H13.out.1 ho6
  rw [he7] at A10
  refine A10.mono ?_
  rintro _ w14 ⟨rfl, hR, hc⟩
  have ha9 := hc.row _ _ _ _ H13.out.2.1 (by decide)
  have hb9 := hc.row _ _ _ _ H13.out.2.2 (by decide)
  have H14 := Lib.hid (And.intro hR (And.intro ha9 hb9))
  clear A10 hR hc ha9 hb9
  go_wp2_with fail
  have A11 := alloc_run (X := hX7) H14.out.1 ho7 1 hi1
  rw [he8] at A11
  refine A11.mono ?_
  rintro _ w15 ⟨rfl, hR, hc⟩
  have ha9 := hc.row _ _ _ _ H14.out.2.1 (by decide)
  have hb9 := hc.row _ _ _ _ H14.out.2.2 (by decide)
  obtain ⟨y0, y1, y2, y3, y4, y5⟩ := lie6' ha9 (Below.refl _ w15)
  obtain ⟨z0, z1, z2, z3, z4, z5⟩ := lie6' hb9 (Below.refl _ w15)
  have hl9 := cell_lt y0
  have hl10 := cell_lt z0
  simp only at hl9 hl10
  have H15 := Lib.hid (And.intro hR (And.intro ha9 hb9))
  clear A11 hR hc ha9 hb9
  simp only [hC]
  go_wp2_with fail
  have A12 := many_run (X := hX8) (H15.out.1.ext (Ext.alloc (Below.refl _ _) (.cells hC.cells.toArray 27)))
  rw [hen] at A12
  refine A12.mono ?_
  rintro _ w16 ⟨rfl, hE⟩
  have hc16 := (hE.block _ (by simp)).trans (heap_alloc_new w15 (.cells hC.cells.toArray 27))
  have q1 := cellAt hc16 1 (.int .i64 256) rfl
  have hl11 := cell_lt q1
  simp only at hl11
  have H16 := Lib.hid (H15.out.1.ext ((Ext.alloc (Below.refl _ _) (.cells hC.cells.toArray 27)).then hE))
  clear A12 hE hc16
  go_wp2_with fail
  have A13 := left_run (X := hX8) H16.out
  rw [hel] at A13
  refine A13.mono ?_
  rintro _ w17 ⟨rfl, hE⟩
  have H17 := Lib.hid (H16.out.ext hE)
  obtain ⟨c, c8, hck⟩ := (H16.out.ext hE).clock
  have hl12 := cell_lt c8
  simp only at hl12
  clear A13 hE
  go_wp2_with fail
  have A14 := now_any c hX8.time w17 hck
  rw [het] at A14
  refine A14.mono ?_
  rintro _ w18 ⟨rfl, hE⟩
  have HE := Lib.hid (H17.out.from.then hE)
  clear A14 hE
  go_wp2_with fail
  go_ret
  exact ⟨rfl, HE.out⟩
end Go.Proofs.Ytpjlhkepdiajjaa

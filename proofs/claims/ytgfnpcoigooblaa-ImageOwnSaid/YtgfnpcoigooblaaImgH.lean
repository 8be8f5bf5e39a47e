
/- Package image: form, runs, Right. -/
import Derived.Test.YtgfnpcoigooblaaImgG
set_option linter.all false
namespace Go.Proofs.Ytgfnpcoigooblaa
open Go.RowKit

theorem form_any (x : ImgM) (w : World) (h : ImgAt w x) : Calls Try.prog 34 #[x.val] w fun e w' => e = .returned (.bool (formD x.d)) ∧ Ext w w' := by
  rw [formD_eq]
  cases h0 : (inB x.heap 1 64 && inB x.full 1 4096 && inB x.comps.length 1 4 && decide ((x.links.length : Int) ≤ 16) && decide ((x.shares.length : Int) ≤ 4)) with
  | false => exact form0_any x w h h0
  | true =>
    have hn4 : x.comps.length = 0 ∨ x.comps.length = 1 ∨ x.comps.length = 2 ∨ x.comps.length = 3 ∨ x.comps.length = 4 := by
      simp only [Bool.and_eq_true] at h0
      have := h0.1.1.2
      unfold inB at this
      rw [decide_eq_true_iff] at this
      omega
    cases h1 : (x.comps.all fun c => compOk c.d) with
    | false => exact form1_any x w h h0 h1
    | true =>
      cases h2 : x.links.all (linkOk x.d.comps) with
      | false => exact form2_any x w h h0 h1 h2
      | true =>
        have hfr : ∀ l ∈ x.links, 0 ≤ l.fr ∧ l.fr < 4 := fun l hl => by
          have := List.all_eq_true.1 h2 l hl
          rw [linkOk_eq] at this
          simp only [Bool.and_eq_true] at this
          have h3 := this.1.1.1
          unfold inB at h3
          rw [decide_eq_true_iff] at h3
          have hcl : x.d.comps.length = x.comps.length := by simp [ImgM.d]
          rw [hcl] at h3
          omega
        cases h3 : manyOk x.links with
        | false => exact form3_any x w h h0 h1 h2 h3 hfr
        | true => exact form4_any x w h h0 h1 h2 h3 hfr hn4

/-- May a compartment's bytes be instructions? -/
def asksB (i : Ins) : Bool := i.op == 28
def runsD (strict : Bool) (code : List Int) : Bool := ((allS code).2.2 == 0) && (!strict || !((allS code).1.any asksB))
def rightD (x : ImgD) : Bool := formD x && x.comps.all fun c => runsD x.strict c.code
set_option maxHeartbeats 1000000 in
theorem asks_any (i : Ins) (w : World) : Calls Try.prog 63 #[.agg #[.int .i64 i.op, .int .i64 i.a, .int .i64 i.b, .int .i64 i.c]] w fun e w' => e = .returned (.bool (asksB i)) ∧ Ext w w' := by
  go_enter Try.func63, Try.ntmps63
  go_wp2_with fail
  go_ret
  exact ⟨rfl, (by repeat first | (with_reducible exact Below.refl _ _) | (with_reducible apply Ext.alloc) | (with_reducible apply Ext.drew) | (with_reducible apply Ext.drewN) | (with_reducible refine Ext.set ?_ (by simp)))⟩
theorem allS_len (l : List Int) : (allS l).1.length ≤ l.length := by
  unfold allS
  split
  · simp; omega
  · simp
set_option maxHeartbeats 4000000 in
theorem runs_img (c : CompM) (strict : Bool) (w : World) (hA : Arr w c.A (bs c.code)) (hb : ∀ b ∈ c.code, 0 ≤ b ∧ b < 256) (hc : c.code.length ≤ c.cap) (hl : c.code.length ≤ 4096) :
    Calls Try.prog 39 #[.agg #[.slice c.A c.code.length c.cap, .int .i64 c.data], .bool strict] w fun e w' => e = .returned (.bool (runsD strict c.code)) ∧ Ext w w' := by
  have HC := Lib.hid (all_any c.A c.cap c.code (w.alloc (.cells #[.slice c.A c.code.length c.cap, .int .i64 c.data] 53)) (hA.ext (by repeat first | (with_reducible exact Below.refl _ _) | (with_reducible apply Ext.alloc) | (with_reducible apply Ext.drew) | (with_reducible apply Ext.drewN) | (with_reducible refine Ext.set ?_ (by simp)))) hb hc (by omega))
  have HR : Hid (runsD strict c.code = (((allS c.code).2.2 == 0) && (!strict || !((allS c.code).1.any asksB)))) := rfl
  have hlen : (allS c.code).1.length ≤ 140737488351232 := by
    have := allS_len c.code
    omega
  rw [HR.out]
  clear hA hb hc
  go_enter Try.func39, Try.ntmps39
  go_wp2_with fail
  refine HC.out.mono ?_
  intro e w2 h2
  unfold AllPost at h2
  obtain ⟨v, rfl, ho, hb2⟩ := h2
  obtain ⟨A2, c2, rfl, hc2, -⟩ := Arr.own ho
  obtain ⟨A2', c2', he2, -, hA2⟩ := Arr.own ho
  cases he2
  obtain ⟨X, hX⟩ : ∃ X, X = allS c.code := ⟨_, rfl⟩
  rw [← hX] at ho hA2 hc2 hlen
  rw [← hX]
  obtain ⟨L, at', er⟩ := X
  have HX := Lib.hid hX
  clear hX HC
  simp only at ho hA2 hc2 hlen ⊢
  have hA2l : L.length ≤ 140737488351232 := hlen
  by_cases he : er = 0
  · subst he
    cases strict with
    | false =>
      go_wp2_with fail
      go_ret
      exact ⟨ret_bool (by rw [← HX.out]; rfl), (Ext.alloc (Below.refl _ w) _).then hb2⟩
    | true =>
      have HI := Lib.hid (containsIns A2 c2 L 63 asksB w2 hA2 hA2l (fun args w => by kernel_rfl) (fun W i _ _ => asks_any i W))
      go_wp2_with fail
      refine HI.out.mono ?_
      rintro e w3 ⟨rfl, hb3⟩
      go_wp2_with fail
      go_ret
      exact ⟨ret_bool (by rw [← HX.out]; simp), (Ext.alloc (Below.refl _ w) _).then (hb2.then hb3)⟩
  · have he' : (er == 0) = false := by simpa using he
    go_wp2_with fail
    go_ret
    exact ⟨ret_bool (by rw [← HX.out]; simp [he]), (Ext.alloc (Below.refl _ w) _).then hb2⟩
set_option maxHeartbeats 4000000 in
theorem rightC_any (b : Nat) (x : ImgM) (c : CompM) (W : World) (hA : Arr W c.A (bs c.code)) (hy : ∀ b ∈ c.code, 0 ≤ b ∧ b < 256) (hc : c.code.length ≤ c.cap) (hl : c.code.length ≤ 4096) (hb : W.heap[b]? = some (.cells #[.bool x.strict, .int .i64 x.heap, .int .i64 x.full, .slice x.Ac x.comps.length x.cc, .slice x.Al x.links.length x.cl, .slice x.As x.shares.length x.cs] 26)) :
    Calls Try.prog 38 #[.agg #[.slice c.A c.code.length c.cap, .int .i64 c.data], .pointer (some ⟨b, 0, none⟩)] W fun e w' => e = .returned (.bool (runsD x.strict c.code)) ∧ Ext W w' := by
  obtain ⟨z0, z1, z2, z3, z4, z5⟩ := lie6 hb (Below.refl _ W)
  have hlt := (Array.getElem?_eq_some_iff.1 hb).1
  have HC := Lib.hid (runs_img c x.strict (W.alloc (.cells #[.slice c.A c.code.length c.cap, .int .i64 c.data] 53)) (hA.ext (by repeat first | (with_reducible exact Below.refl _ _) | (with_reducible apply Ext.alloc) | (with_reducible apply Ext.drew) | (with_reducible apply Ext.drewN) | (with_reducible refine Ext.set ?_ (by simp)))) hy hc hl)
  clear hb hA hy hc hl
  go_enter Try.func38, Try.ntmps38
  go_wp2_with fail
  refine HC.out.mono ?_
  rintro e w2 ⟨rfl, hb2⟩
  go_wp2_with fail
  go_ret
  exact ⟨rfl, (Ext.alloc (Below.refl _ W) _).then hb2⟩
theorem form_codes {x : ImgM} (h : formD x.d = true) : ∀ c ∈ x.comps, 4 ≤ c.code.length ∧ c.code.length ≤ 4096 ∧ c.code.length % 4 = 0 := fun c hc => by
  rw [formD_eq] at h
  simp only [Bool.and_eq_true] at h
  have h1 : (inB c.code.length 4 4096 && decide (c.code.length % 4 = 0) && inB c.data 1 8) = true := List.all_eq_true.1 h.2.1 c hc
  unfold inB at h1
  simp only [Bool.and_eq_true, decide_eq_true_iff] at h1
  omega
set_option maxHeartbeats 4000000 in
theorem imgRight_any (x : ImgM) (w : World) (h : ImgAt w x) : Calls Try.prog 14 #[x.val] w fun e w' => e = .returned (.bool (rightD x.d)) ∧ Ext w w' := by
  have hlc : x.comps.length ≤ 140737488351232 := h.lens.2.1
  have HF := Lib.hid (form_any x (w.alloc (.cells #[.bool x.strict, .int .i64 x.heap, .int .i64 x.full, .slice x.Ac x.comps.length x.cc, .slice x.Al x.links.length x.cl, .slice x.As x.shares.length x.cs] 26)) (h.ext (by repeat first | (with_reducible exact Below.refl _ _) | (with_reducible apply Ext.alloc) | (with_reducible apply Ext.drew) | (with_reducible apply Ext.drewN) | (with_reducible refine Ext.set ?_ (by simp)))))
  have HR : Hid (rightD x.d = (formD x.d && x.comps.all fun c => runsD x.strict c.code)) := by
    show rightD x.d = _
    unfold rightD
    congr 1
    simp [ImgM.d, List.all_map, Function.comp_def, CompM.d]
  have H := Lib.hid h
  have HCO := Lib.hid (fun hf => form_codes (x := x) hf)
  obtain ⟨fd, hfd⟩ : ∃ fd, fd = formD x.d := ⟨_, rfl⟩
  rw [← hfd] at HF HR HCO
  clear h hfd
  rw [HR.out]
  go_enter Try.func14, Try.ntmps14
  go_wp2_with fail
  refine HF.out.mono ?_
  rintro e w2 ⟨rfl, hb2⟩
  cases fd with
  | false =>
    go_wp2_with fail
    go_ret
    exact ⟨rfl, (Ext.alloc (Below.refl _ w) _).then hb2⟩
  | true =>
    obtain ⟨z0, z1, z2, z3, z4, z5⟩ := lie6 (heap_alloc_new w _) hb2
    have h2 := H.out.ext ((Ext.alloc (Below.refl _ w) _).then hb2)
    have HA := Lib.hid (allComp1 x.Ac x.cc x.comps 38 (.pointer (some ⟨w.heap.size, 0, none⟩)) (fun c => runsD x.strict c.code) w2 h2.comps hlc (fun args w => by kernel_rfl) (fun W c hc hW => rightC_any w.heap.size x c W ((h2.codes c hc).1.ext hW) (h2.codes c hc).2.1 (h2.codes c hc).2.2.1 (HCO.out rfl c hc).2.1 (new_at rfl (hb2.then hW))))
    have hlt : w.heap.size < w2.heap.size := by have := hb2.size; simp at this; omega
    clear h2
    go_wp2_with fail
    refine HA.out.mono ?_
    rintro e w3 ⟨rfl, hb3⟩
    go_wp2_with fail
    go_ret
    exact ⟨ret_bool (by simp), (Ext.alloc (Below.refl _ w) _).then (hb2.then hb3)⟩
end Go.Proofs.Ytgfnpcoigooblaa


/- Package heap: of, Size, Left, Apart, Wants. -/
import Derived.Test.YtpjlhkepdiajjaaHeapA
set_option linter.all false
namespace Go.Proofs.Ytpjlhkepdiajjaa
open Go.RowKit Go.Shelf
attribute [local go_sem] seen dstOf boolOf

/-- What is wrong with one that is to be taken back; or what it is. -/
def ofD (L : List LiveD) (c : Cap) : Int × Option LiveD :=
  if c.tag = false then (41, none) else if c.ty ≠ 0 then (42, none) else
  match L.find? fun l => decide (l.at' = c.base) with
  | none => (3, none)
  | some l => if c.top ≠ c.base + l.asked then (43, none) else (0, some l)
theorem find_hit {L : List LiveD} (ho : L.Pairwise fun l m => l.at' ≠ m.at') {l : LiveD} (hl : l ∈ L) : (L.find? fun m => decide (m.at' = l.at')) = some l := by
  induction L with
  | nil => cases hl
  | cons m L ih =>
    obtain ⟨h1, h2⟩ := List.pairwise_cons.1 ho
    rcases List.mem_cons.1 hl with rfl | hl
    · simp
    · rw [List.find?_cons_of_neg (by simpa using h1 l hl)]
      exact ih h2 hl
theorem find_miss {L : List LiveD} {x : Int} (h : hasL L x = false) : (L.find? fun m => decide (m.at' = x)) = none := by
  rw [List.find?_eq_none]
  intro m hm hx
  have : hasL L x = true := hasL_iff.2 ⟨m, hm, of_decide_eq_true hx⟩
  rw [h] at this
  cases this
def OfPost (L : List LiveD) (c : Cap) (w : World) (e : Ending) (w' : World) : Prop :=
  ∃ v, e = .returned (.tuple #[v, .int .i64 (ofD L c).1]) ∧ Ext w w' ∧ ∀ l, (ofD L c).2 = some l → l ∈ L ∧ l.at' = c.base ∧ ∃ (k : Nat) (f : Nat × Nat), v = .pointer (some ⟨k, 0, none⟩) ∧ w'.heap[k]? = some (.cells #[.int .i64 l.asked, .int .i64 l.takes] 77 f)
set_option maxHeartbeats 1000000 in
set_option maxRecDepth 20000 in
theorem of_any (hp : Nat) (B : HeapB) (X : HeapD) (c : Cap) (w : World) (h : HeapAt w hp B X) (hc : CapWf c) (hs : ∀ l ∈ X.L, 0 ≤ l.at' ∧ l.at' ≤ 16777216 ∧ 0 ≤ l.asked ∧ l.asked ≤ 16777216) : Calls Try.prog 31 #[.pointer (some ⟨hp, 0, none⟩), c.val] w (OfPost X.L c w) := by
  have x10 := cellAt h.blk 10 (.map (some B.m)) rfl
  have hlt := cell_lt x10
  simp only at hlt
  obtain ⟨tg, bs, tp, at', pe, ty⟩ := c
  have E1 : Ext w (w.alloc (.cells #[.bool tg, .int .i64 bs, .int .i64 tp, .int .i64 at', .int .i64 pe, .int .i64 ty] 27)).drew := Ext.drew (Ext.alloc (Below.refl _ _) _)
  obtain ⟨v, hrun, hv⟩ := (h.live.ext E1).look hc.base
  have HV := Lib.hid hv
  have HH := Lib.hid (And.intro h (And.intro hc hs))
  obtain ⟨hb, hhb⟩ : ∃ hb, hb = hasL X.L bs := ⟨_, rfl⟩
  rw [← hhb] at hrun HV
  have HB := Lib.hid hhb
  clear hhb
  clear h hc hs hv
  go_enter Try.func31, Try.ntmps31
  go_wp2_with fail
  go_region
  cases tg with
  | false =>
    go_wp2_with fail
    go_ret2
    exact ⟨_, rfl, (by repeat first | (with_reducible exact Below.refl _ _) | (with_reducible apply Ext.alloc) | (with_reducible apply Ext.drew) | (with_reducible apply Ext.drewN) | (with_reducible refine Ext.set ?_ (by simp))), fun l hl => by simp [ofD] at hl⟩
  | true =>
    by_cases hty : ty = 0
    · subst hty
      rcases HV.out with ⟨hb', hvn⟩ | ⟨l, hl, hat, hb', k, f, hvn, hk⟩
      · have e : ofD X.L ⟨true, bs, tp, at', pe, 0⟩ = (3, none) := by simp [ofD, find_miss (HB.out.symm.trans hb')]
        subst hb'
        go_wp2_with fail
        go_ret2
        exact ⟨_, by rw [e]; rfl, (by repeat first | (with_reducible exact Below.refl _ _) | (with_reducible apply Ext.alloc) | (with_reducible apply Ext.drew) | (with_reducible apply Ext.drewN) | (with_reducible refine Ext.set ?_ (by simp))), fun l hl => by simp [e] at hl⟩
      · have hfi : (X.L.find? fun m => decide (m.at' = bs)) = some l := by rw [← hat]; exact find_hit HH.out.1.live.once hl
        have hsm := HH.out.2.2 l hl
        rw [hat] at hsm
        have hw : IntKind.i64.wrap (bs + l.asked) = bs + l.asked := IntWalk.i64_in _ (by omega)
        have hk9 : (w.alloc (.cells #[.bool true, .int .i64 bs, .int .i64 tp, .int .i64 at', .int .i64 pe, .int .i64 0] 27)).heap[k]? = some (.cells #[.int .i64 l.asked, .int .i64 l.takes] 77 f) := hk
        have hk0 : k < w.heap.size := by
          have h1 := (Array.getElem?_eq_some_iff.1 hk9).1
          simp only [World.size_alloc] at h1
          by_cases e : k = w.heap.size
          · rw [e, heap_alloc_new w _] at hk9
            simp at hk9
          · omega
        have hkw := (Below.heap_alloc w (.cells #[.bool true, .int .i64 bs, .int .i64 tp, .int .i64 at', .int .i64 pe, .int .i64 0] 27) k hk0).symm.trans hk9
        have x0 := cellAt hkw 0 (.int .i64 l.asked) rfl
        clear hk9 hkw
        have HK := Lib.hid (And.intro hl (And.intro hat hk))
        clear hk
        subst hb' hvn
        by_cases htp : tp = bs + l.asked
        · have e : ofD X.L ⟨true, bs, tp, at', pe, 0⟩ = (0, some l) := by simp [ofD, hfi, htp]
          have HE := Lib.hid e
          clear e hfi hat
          go_wp2_with fail
          go_region
          go_wp2_with fail
          go_ret2
          refine ⟨_, by rw [HE.out]; rfl, (by repeat first | (with_reducible exact Below.refl _ _) | (with_reducible apply Ext.alloc) | (with_reducible apply Ext.drew) | (with_reducible apply Ext.drewN) | (with_reducible refine Ext.set ?_ (by simp))), fun l' hl' => ?_⟩
          rw [HE.out] at hl'
          cases hl'
          exact ⟨HK.out.1, HK.out.2.1, _, f, rfl, by rw [← htp]; exact HK.out.2.2⟩
        · have e : ofD X.L ⟨true, bs, tp, at', pe, 0⟩ = (43, none) := by simp [ofD, hfi, htp]
          have HE := Lib.hid e
          clear e hfi hat
          go_wp2_with fail
          go_region
          go_wp2_with fail
          go_ret2
          refine ⟨_, by rw [HE.out]; rfl, (by repeat first | (with_reducible exact Below.refl _ _) | (with_reducible apply Ext.alloc) | (with_reducible apply Ext.drew) | (with_reducible apply Ext.drewN) | (with_reducible refine Ext.set ?_ (by simp))), fun l' hl' => ?_⟩
          rw [HE.out] at hl'
          cases hl'
    · have e : ofD X.L ⟨true, bs, tp, at', pe, ty⟩ = (42, none) := by simp [ofD, hty]
      have HE := Lib.hid e
      clear e
      go_wp2_with fail
      go_ret2
      exact ⟨_, by rw [HE.out]; rfl, (by repeat first | (with_reducible exact Below.refl _ _) | (with_reducible apply Ext.alloc) | (with_reducible apply Ext.drew) | (with_reducible apply Ext.drewN) | (with_reducible refine Ext.set ?_ (by simp))), fun l hl => by rw [HE.out] at hl; cases hl⟩
def sizeD (L : List LiveD) (c : Cap) : Int × Int := match (ofD L c).2 with | some l => (l.takes, 0) | none => (0, (ofD L c).1)
theorem ofD_zero {L : List LiveD} {c : Cap} : (ofD L c).1 = 0 ↔ ∃ l, (ofD L c).2 = some l := by
  unfold ofD
  split
  · simp
  · split
    · simp
    · split
      · simp
      · split <;> simp
set_option maxRecDepth 20000 in
theorem hsize_any (hp : Nat) (B : HeapB) (X : HeapD) (c : Cap) (w : World) (h : HeapAt w hp B X) (hc : CapWf c) (hs : ∀ l ∈ X.L, 0 ≤ l.at' ∧ l.at' ≤ 16777216 ∧ 0 ≤ l.asked ∧ l.asked ≤ 16777216) : Calls Try.prog 16 #[.pointer (some ⟨hp, 0, none⟩), c.val] w fun e w' => e = .returned (.tuple #[.int .i64 (sizeD X.L c).1, .int .i64 (sizeD X.L c).2]) ∧ Ext w w' := by
  have HO := Lib.hid (of_any hp B X c (w.alloc (.cells c.cells.toArray 27)) (h.ext (by repeat first | (with_reducible exact Below.refl _ _) | (with_reducible apply Ext.alloc) | (with_reducible apply Ext.drew) | (with_reducible apply Ext.drewN) | (with_reducible refine Ext.set ?_ (by simp)))) hc hs)
  obtain ⟨tg, bs, tp, at', pe, ty⟩ := c
  clear h hc hs
  unfold sizeD
  cases hof : (ofD X.L ⟨tg, bs, tp, at', pe, ty⟩).2 with
  | none =>
    have hne : (ofD X.L ⟨tg, bs, tp, at', pe, ty⟩).1 ≠ 0 := fun e => by
      obtain ⟨l, hl⟩ := ofD_zero.1 e
      rw [hof] at hl
      cases hl
    clear hof
    obtain ⟨z, hz⟩ : ∃ z, z = (ofD X.L ⟨tg, bs, tp, at', pe, ty⟩).1 := ⟨_, rfl⟩
    rw [← hz] at hne ⊢
    have HZ := Lib.hid hz
    clear hz
    go_enter Try.func16, Try.ntmps16
    go_wp2_with fail
    refine HO.out.mono ?_
    rintro _ w1 ⟨v, rfl, h1, h2⟩
    rw [← HZ.out]
    have HE := Lib.hid h1
    clear h1 h2
    go_wp2_with fail
    go_ret2
    exact ⟨rfl, (Ext.alloc (Below.refl _ _) _).then HE.out⟩
  | some l =>
    have he : (ofD X.L ⟨tg, bs, tp, at', pe, ty⟩).1 = 0 := ofD_zero.2 ⟨l, hof⟩
    have HF := Lib.hid (And.intro hof he)
    clear hof he
    go_enter Try.func16, Try.ntmps16
    go_wp2_with fail
    refine HO.out.mono ?_
    rintro _ w1 ⟨v, rfl, h1, h2⟩
    have HE := Lib.hid h1
    obtain ⟨-, -, k, f, rfl, h3⟩ := h2 l HF.out.1
    have x1 := cellAt h3 1 (.int .i64 l.takes) rfl
    have hk1 := cell_lt x1
    simp only at hk1
    rw [HF.out.2]
    clear h1 h2 h3
    go_wp2_with fail
    go_ret2
    exact ⟨rfl, (Ext.alloc (Below.refl _ _) _).then HE.out⟩
theorem left_any (hp : Nat) (B : HeapB) (X : HeapD) (w : World) (h : HeapAt w hp B X) : Calls Try.prog 18 #[.pointer (some ⟨hp, 0, none⟩)] w fun e w' => e = .returned (.int .i64 (sumR X.R)) ∧ Ext w w' := by
  have x6 := cellAt h.blk 6 (.pointer (some ⟨B.f, 0, none⟩)) rfl
  have HO := Lib.hid (all_free _ _ _ _ _ _ w h.free)
  clear h
  go_enter Try.func18, Try.ntmps18
  go_wp2_with fail
  refine HO.out.mono ?_
  rintro _ w1 ⟨rfl, hE⟩
  have HE := Lib.hid hE
  clear hE
  go_wp2_with fail
  go_ret
  exact ⟨rfl, HE.out⟩
theorem apart_any (hp : Nat) (B : HeapB) (X : HeapD) (w : World) (h : HeapAt w hp B X) : Calls Try.prog 21 #[.pointer (some ⟨hp, 0, none⟩)] w fun e w' => e = .returned (.int .i64 (sumN X.Q)) ∧ Ext w w' := by
  have x9 := cellAt h.blk 9 (.pointer (some ⟨B.q, 0, none⟩)) rfl
  have HO := Lib.hid (bytes_any _ _ _ _ _ _ w h.quar)
  clear h
  go_enter Try.func21, Try.ntmps21
  go_wp2_with fail
  refine HO.out.mono ?_
  rintro _ w1 ⟨rfl, hE⟩
  have HE := Lib.hid hE
  clear hE
  go_wp2_with fail
  go_ret
  exact ⟨rfl, HE.out⟩
def wantsD (X : HeapD) : Bool := !runsB X.time && decide (X.full ≤ sumN X.Q)
theorem wants_any (hp : Nat) (B : HeapB) (X : HeapD) (w : World) (h : HeapAt w hp B X) (h0 : 0 ≤ X.time) (h1 : X.time ≤ 1099511627777) : Calls Try.prog 22 #[.pointer (some ⟨hp, 0, none⟩)] w fun e w' => e = .returned (.bool (wantsD X)) ∧ Ext w w' := by
  have x8 := cellAt h.blk 8 (.pointer (some ⟨B.c, 0, none⟩)) rfl
  have HO := Lib.hid (runs_any _ _ w h.clk h0 h1)
  have HH := Lib.hid h
  unfold wantsD
  clear h
  go_enter Try.func22, Try.ntmps22
  go_wp2_with fail
  refine HO.out.mono ?_
  rintro _ w1 ⟨rfl, hE⟩
  have HE := Lib.hid hE
  have hh := HH.out.ext hE
  have x9 := cellAt hh.blk 9 (.pointer (some ⟨B.q, 0, none⟩)) rfl
  have HF := Lib.hid (full_any _ _ _ _ _ _ w1 hh.quar)
  clear hE hh
  cases hr : runsB X.time
  · go_wp2_with fail
    refine HF.out.mono ?_
    rintro _ w2 ⟨rfl, hE2⟩
    have HE2 := Lib.hid hE2
    clear hE2
    go_wp2_with fail
    go_ret
    exact ⟨by rw [hr]; rfl, HE.out.then HE2.out⟩
  · go_wp2_with fail
    go_ret
    exact ⟨by rw [hr]; rfl, HE.out⟩
end Go.Proofs.Ytpjlhkepdiajjaa

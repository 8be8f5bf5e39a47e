
/- HeapAgain: the walk. -/
import Derived.Test.YtpjlhkepdiajjaaOnce14
set_option linter.all false
namespace Go.Proofs.Ytpjlhkepdiajjaa
open Go.RowKit Go.Shelf
attribute [local go_sem] seen dstOf boolOf
attribute [local go_sem high] eqCap

section
variable {X : HeapD}
theorem begin_eq (h : beginB X.time = true) : beginD X = { X with time := X.time + 1, ws := paintQ X.ws true X.Q } := by
  unfold beginD
  rw [if_pos h]
theorem end_eq (h : runsB X.time = true) : endD X = { X with time := X.time + 1, Q := X.Q.drop (dueL (X.time + 1) X.Q).length, ws := paintQ X.ws false (dueL (X.time + 1) X.Q), R := giveQ X.root.base X.root.top X.R (dueL (X.time + 1) X.Q) } := by
  unfold endD
  rw [if_pos h]
theorem runs_odd {t : Int} : runsB t = true ↔ t % 2 = 1 := by unfold runsB; rw [beq_iff_eq]
theorem begin_even {t : Int} (h : t % 2 = 0) (h2 : t < 1099511627776) : beginB t = true := by
  unfold beginB runsB
  have : ¬ t % 2 = 1 := by omega
  simp [this, h2]
theorem sum_zero {a b : Int} {R : List Run} (h : WF a b R) (h0 : sumR R = 0) : R = [] := by
  cases R with
  | nil => rfl
  | cons r R =>
    exfalso
    have h1 := h.2 r List.mem_cons_self
    have h2 := wf_sum (wf_tail h) (by omega)
    rw [sumR_cons] at h0
    omega
/-- Where something is free, 16 bytes are given out. -/
theorem small_fits {a b : Int} {R : List Run} (h : WF a b R) (h0 : 0 < sumR R) : (takeR R 16).2.2 = true := by
  rw [take_iff (by decide) (by decide), most_iff (by decide)]
  cases R with
  | nil => simp [sumR] at h0
  | cons r R =>
    have h1 := h.2 r List.mem_cons_self
    exact ⟨r, List.mem_cons_self, by omega⟩
theorem take_nil (n : Int) : (takeR [] n).2.2 = false := by
  unfold takeR
  split <;> rfl
theorem give_nil {a b z n : Int} (h : mayGive a b z n) : (giveR a b [] z n).1 = [(z, z + n)] := by
  unfold giveR
  rw [if_pos h]
  rfl
theorem take_whole {z n : Int} (h1 : 1 ≤ n) (h2 : n % 16 = 0) : (takeR [(z, z + n)] n).2.1 = z ∧ (takeR [(z, z + n)] n).2.2 = true :=
  take_first (R := [(z, z + n)]) (i := 0) h1 h2 (by simp) (by simp only [List.getElem_cons_zero]; omega) (fun j hj h0 => by omega)
end
theorem round_zero : roundD 0 = (16, true) := by kernel_rfl
theorem round_1024 : ((List.range 1025).all fun k => (roundD (k : Int)).2) = true := by kernel_rfl
theorem round_k {n : Int} (h0 : 0 ≤ n) (h1 : n ≤ 1024) : (roundD n).2 = true := by
  obtain ⟨k, rfl⟩ := Int.eq_ofNat_of_zero_le h0
  exact List.all_eq_true.1 round_1024 k (List.mem_range.2 (by omega))
/-- All but the time, and what is painted. -/
structure AgIn (w : World) (s hp bc : Nat) (g : Int) (c : Cap) (X : HeapD) (W : World) : Prop where
  run : RunAt w hp s X W
  ok : HeapOk X
  root : X.root = rootC 512 g
  box : W.heap[bc]? = some (.cells c.cells.toArray 27)
theorem AgIn.ext {w W W' : World} {s hp bc : Nat} {g : Int} {c : Cap} {X : HeapD} (h : AgIn w s hp bc g c X W) (e : Ext W W') : AgIn w s hp bc g c X W' :=
  ⟨h.run.ext e, h.ok, h.root, (e.block _ (Array.getElem?_eq_some_iff.1 h.box).1).trans h.box⟩
theorem AgIn.turn {w W W' : World} {s hp bc : Nat} {g : Int} {c : Cap} {X Y : HeapD} (h : AgIn w s hp bc g c X W) (r : RunAt w hp s Y W') (cl : Calm W W') (ok : HeapOk Y) (hr : Y.root = X.root) : AgIn w s hp bc g c Y W' :=
  ⟨r, ok, hr.trans h.root, cl.row _ _ _ _ h.box (by decide)⟩
theorem root_alloc (X : HeapD) (n : Int) : (allocD X n).1.root = X.root := by
  unfold allocD
  split
  · rfl
  · split <;> rfl
theorem root_free (X : HeapD) (c : Cap) : (freeD X c).root = X.root := by
  unfold freeD
  split <;> rfl
theorem root_begin (X : HeapD) : (beginD X).root = X.root := by
  unfold beginD
  split <;> rfl
theorem root_end (X : HeapD) : (endD X).root = X.root := by
  unfold endD
  split <;> rfl
section
variable {w W : World} {s hp bc : Nat} {g : Int} {c : Cap} {X : HeapD}
theorem AgIn.begin (h : AgIn w s hp bc g c X W) : Calls Try.prog 13 #[.pointer (some ⟨hp, 0, none⟩)] W fun e w' => e = .returned (.bool (beginB X.time)) ∧ AgIn w s hp bc g c (beginD X) w' :=
  (begin_run h.run h.ok).mono fun e w' k => ⟨k.1, h.turn k.2.1 k.2.2 (heap_begin h.ok) (root_begin X)⟩
theorem AgIn.end (h : AgIn w s hp bc g c X W) : Calls Try.prog 14 #[.pointer (some ⟨hp, 0, none⟩)] W fun e w' => e = .returned (.bool (runsB X.time)) ∧ AgIn w s hp bc g c (endD X) w' :=
  (end_run h.run h.ok).mono fun e w' k => ⟨k.1, h.turn k.2.1 k.2.2 (heap_end h.ok) (root_end X)⟩
theorem AgIn.alloc (h : AgIn w s hp bc g c X W) (n : Int) (hn : i64ok' n) : Calls Try.prog 15 #[.pointer (some ⟨hp, 0, none⟩), .int .i64 n] W fun e w' => e = .returned (.tuple #[(allocD X n).2.1.val, .int .i64 (allocD X n).2.2]) ∧ AgIn w s hp bc g c (allocD X n).1 w' :=
  (alloc_run h.run h.ok n hn).mono fun e w' k => ⟨k.1, h.turn k.2.1 k.2.2 (heap_alloc h.ok n) (root_alloc X n)⟩
theorem AgIn.free (h : AgIn w s hp bc g c X W) (d : Cap) (hd : CapWf d) : Calls Try.prog 12 #[.pointer (some ⟨hp, 0, none⟩), d.val] W fun e w' => e = .returned (.int .i64 (ofD X.L d).1) ∧ AgIn w s hp bc g c (freeD X d) w' :=
  (free_run h.run h.ok d hd).mono fun e w' k => ⟨k.1, h.turn k.2.1 k.2.2 (heap_free h.ok d) (root_free X d)⟩
end
-- WALK
section
variable {X : HeapD}
theorem turn_idle (hQ : X.Q = []) (h0 : X.time % 2 = 0) (h1 : X.time < 1099511627776) : (endD (beginD X)).L = X.L ∧ (endD (beginD X)).Q = [] ∧ (endD (beginD X)).R = X.R ∧ (endD (beginD X)).time = X.time + 2 := by
  rw [begin_eq (begin_even h0 h1)]
  rw [end_eq (show runsB (X.time + 1) = true from runs_odd.2 (by omega))]
  have e : ∀ t, dueL t X.Q = [] := fun t => by rw [hQ]; rfl
  refine ⟨rfl, ?_, ?_, ?_⟩
  · show X.Q.drop _ = []
    rw [hQ]
    simp
  · show giveQ X.root.base X.root.top X.R (dueL (X.time + 1 + 1) X.Q) = X.R
    rw [e]
    rfl
  · show X.time + 1 + 1 = X.time + 2
    omega
theorem begin_idle (h0 : X.time % 2 = 0) (h1 : X.time < 1099511627776) : (beginD X).L = X.L ∧ (beginD X).Q = X.Q ∧ (beginD X).R = X.R ∧ (beginD X).time = X.time + 1 := by
  rw [begin_eq (begin_even h0 h1)]
  exact ⟨rfl, rfl, rfl, rfl⟩
theorem end_idle (h0 : X.time % 2 = 1) (hd : dueL (X.time + 1) X.Q = []) : (endD X).L = X.L ∧ (endD X).Q = X.Q ∧ (endD X).R = X.R ∧ (endD X).time = X.time + 1 := by
  rw [end_eq (runs_odd.2 h0), hd]
  exact ⟨rfl, rfl, rfl, rfl⟩
theorem end_due (h0 : X.time % 2 = 1) (hd : dueL (X.time + 1) X.Q = X.Q) : (endD X).R = giveQ X.root.base X.root.top X.R X.Q := by
  rw [end_eq (runs_odd.2 h0), hd]
theorem freeD_all {c : Cap} {l : LiveD} (hL : X.L = [l]) (h : (ofD X.L c).1 = 0) : (freeD X c).Q = X.Q ++ [⟨l.at', l.takes, X.time⟩] ∧ (freeD X c).R = X.R ∧ (freeD X c).time = X.time := by
  unfold freeD
  obtain ⟨m, ho⟩ := ofD_zero.1 h
  rw [ho]
  obtain ⟨h1, -⟩ := ofD_some ho
  rw [hL, List.mem_singleton] at h1
  subst h1
  exact ⟨rfl, rfl, rfl⟩
theorem first_at {f b n : Int} (ht : (takeR (startR f b) n).2.2 = true) : (takeR (startR f b) n).2.1 = f ∧ f + n ≤ b ∧ f < b := by
  unfold startR at ht ⊢
  split at ht
  · rename_i h
    rw [if_pos h]
    have hwf : WF f b [(f, b)] ∨ True := .inr trivial
    have hn : ¬ (n < 1 ∨ n % 16 ≠ 0) := fun hn => by unfold takeR at ht; rw [if_pos hn] at ht; cases ht
    unfold takeR at ht ⊢
    rw [if_neg hn] at ht ⊢
    cases hf : [(f, b)].findIdx? (fitsR n) with
    | none => rw [hf] at ht; cases ht
    | some i =>
      have hi := List.findIdx?_eq_some_iff_getElem.1 hf
      obtain ⟨hi1, hi2, -⟩ := hi
      have : i = 0 := by simp only [List.length_cons, List.length_nil] at hi1; omega
      subst this
      refine ⟨rfl, ?_, h⟩
      simp only [List.getElem_cons_zero, fitsR, decide_eq_true_eq] at hi2
      omega
  · rw [take_nil] at ht
    cases ht
theorem alloc_five {n : Int} (h1 : (roundD n).2 = true) (h2 : (takeR X.R (roundD n).1).2.2 = false) : allocD X n = (X, Cap.zero, 5) := by
  unfold allocD
  rw [if_neg (by rw [h1]; simp), if_pos h2]
end
theorem when_odd {k : Nat} (h : k ≤ 255) : whenD (2 * (k : Int) + 1) = 2 * (k : Int) + 4 := by unfold whenD; omega
theorem when_even {k : Nat} (h : k ≤ 255) : whenD (2 * (k : Int)) = 2 * (k : Int) + 2 := by unfold whenD; omega
theorem due_one {now a n t : Int} : dueL now [⟨a, n, t⟩] = if whenD t ≤ now then [⟨a, n, t⟩] else [] := by
  unfold dueL
  by_cases h : whenD t ≤ now <;> simp [List.takeWhile_cons, h]
set_option maxHeartbeats 8000000 in
set_option maxRecDepth 40000 in
theorem again14_any (g n turns : Int) (w : World) (hg : 0 ≤ g ∧ g ≤ 255) (hn : 0 ≤ n ∧ n ≤ 65535) (ht : 0 ≤ turns ∧ turns ≤ 255) : Calls Try.prog 5 #[.int .u8 g, .int .u16 n, .int .u8 turns] w fun e w' => e = .returned (.bool true) ∧ Ext w w' := by
  obtain ⟨G, rfl⟩ := Int.eq_ofNat_of_zero_le hg.1
  obtain ⟨T, rfl⟩ := Int.eq_ofNat_of_zero_le ht.1
  have hn64 : i64ok' n := by unfold i64ok'; omega
  have hz64 : i64ok' 0 := by unfold i64ok'; omega
  have hw0 : IntKind.i64.wrap (G : Int) = (G : Int) := IntWalk.i64_in _ (by omega)
  have hw16 : IntKind.i64.wrap (16 * (G : Int)) = 16 * (G : Int) := IntWalk.i64_in _ (by omega)
  have hwn : IntKind.i64.wrap n = n := IntWalk.i64_in _ (by omega)
  have hwT : IntKind.i64.wrap (T : Int) = (T : Int) := IntWalk.i64_in _ (by omega)
  go_enter Try.func5, Try.ntmps5
  go_wp2_with fail
  refine (head14 _).mono ?_
  rintro _ w1 ⟨rfl, hE⟩
  have H1 := Lib.hid hE
  clear hE
  go_wp2_with fail
  refine (newS_any 4200 w1).mono ?_
  rintro _ w2 (⟨hb, -⟩ | ⟨-, rfl, hS, hE⟩)
  · omega
  obtain ⟨ws0, hS⟩ : ∃ ws0, ShadAt w2 (w1.heap.size + 1) w1.heap.size 4200 ws0 := ⟨_, hS⟩
  have H2 := Lib.hid (And.intro (H1.out.then hE) hS)
  clear hE hS
  by_cases hbig : 16 * (G : Int) < n
  · go_wp2_with fail
    go_ret
    exact ⟨rfl, H2.out.1⟩
  by_cases hbig2 : 1024 < n
  · go_wp2_with fail
    go_ret
    exact ⟨rfl, H2.out.1⟩
  have hr := round_k hn.1 (by omega : n ≤ 1024)
  have hrf := round_fits hr
  obtain ⟨tk, htk⟩ : ∃ tk, tk = (roundD n).1 := ⟨_, rfl⟩
  obtain ⟨m, hm⟩ : ∃ m, m = max n 1 := ⟨_, rfl⟩
  have hm1 : 1 ≤ m ∧ m ≤ 1024 := by omega
  rw [← htk] at hrf
  have HI := Lib.hid (And.intro hr (And.intro hrf (And.intro htk hm)))
  clear hr hrf htk hm
  go_wp2_with fail
  refine (root_any 512 (G : Int) _ (by omega) (by omega)).mono ?_
  rintro _ w3 ⟨rfl, hE⟩
  have H3 := Lib.hid (And.intro (H2.out.1.then hE) (H2.out.2.ext hE))
  clear hE
  go_wp2_with fail
  refine (new_run (w0 := w) (rootC 512 (G : Int)) (w1.heap.size + 1) w1.heap.size 4200 ws0 64 H3.out.1 H1.out.size H3.out.2 (wf_rootC (by omega) (by omega) (by omega)) (newOk_root (by omega) (by omega) (by omega) (by omega) (by omega))).mono ?_
  rintro _ w4 ⟨hE, hp, rfl, hR⟩
  have ok0 : HeapOk (startD (rootC 512 (G : Int)) 64 4200 ws0) := heap_start (wf_rootC (by omega) (by omega) (by omega)) (newOk_root (by omega) (by omega) (by omega) (by omega) (by omega)) (by unfold rootC; simp only; omega) (by unfold rootC; simp only; omega)
  obtain ⟨X0, hX0⟩ : ∃ X0, X0 = startD (rootC 512 (G : Int)) 64 4200 ws0 := ⟨_, rfl⟩
  rw [← hX0] at hR ok0
  have H4 := Lib.hid (And.intro hR (And.intro ok0 hX0))
  clear hE hR ok0 hX0
  go_wp2_with fail
  have A1 := alloc_run H4.out.1 H4.out.2.1 n hn64
  cases hta : (takeR X0.R tk).2.2 with
  | false =>
    rw [alloc_five HI.out.1 (by rw [← HI.out.2.2.1]; exact hta)] at A1
    refine A1.mono ?_
    rintro _ w5 ⟨rfl, hR, -⟩
    have H5 := Lib.hid hR.from
    clear A1 hR hta
    simp only [Cap.zero]
    go_wp2_with fail
    go_ret
    exact ⟨rfl, H5.out.then (by repeat first | (with_reducible exact Below.refl _ _) | (with_reducible apply Ext.alloc) | (with_reducible apply Ext.drew) | (with_reducible apply Ext.drewN) | (with_reducible refine Ext.set ?_ (by simp)))⟩
  | true =>
    have ha := alloc_fits (X := X0) HI.out.1 (by rw [← HI.out.2.2.1]; exact hta)
    rw [← HI.out.2.2.1, ← HI.out.2.2.2] at ha
    have hat : (takeR X0.R tk).2.1 = 512 ∧ 512 + tk ≤ 512 + 16 * (G : Int) := by
      have h1 : X0.R = startR 512 (512 + 16 * (G : Int)) := by rw [H4.out.2.2]; rfl
      rw [h1] at hta ⊢
      exact ⟨(first_at hta).1, (first_at hta).2.1⟩
    rw [hat.1] at ha
    have hroot : X0.root = rootC 512 (G : Int) := by rw [H4.out.2.2]; rfl
    have ha2 : (allocD X0 n).2 = (⟨true, 512, 512 + m, 512, 31, 0⟩, 0) := by rw [ha, hroot]; rfl
    have hX1L : (allocD X0 n).1.L = [⟨512, m, tk⟩] := by rw [ha, H4.out.2.2]; rfl
    have hX1Q : (allocD X0 n).1.Q = [] := by rw [ha, H4.out.2.2]; rfl
    have hX1t : (allocD X0 n).1.time = 0 := by rw [ha, H4.out.2.2]; rfl
    have hX1r : (allocD X0 n).1.root = rootC 512 (G : Int) := by rw [ha]; exact hroot
    rw [ha2] at A1
    refine A1.mono ?_
    rintro _ w5 ⟨rfl, hR, -⟩
    have h5 : AgIn w (w1.heap.size + 1) hp w5.heap.size (G : Int) ⟨true, 512, 512 + m, 512, 31, 0⟩ (allocD X0 n).1 (w5.alloc (.cells #[.bool true, .int .i64 512, .int .i64 (512 + m), .int .i64 512, .int .i64 31, .int .i64 0] 27)) := ⟨hR.ext (by repeat first | (with_reducible exact Below.refl _ _) | (with_reducible apply Ext.alloc) | (with_reducible apply Ext.drew) | (with_reducible apply Ext.drewN) | (with_reducible refine Ext.set ?_ (by simp))), heap_alloc H4.out.2.1 n, hX1r, heap_alloc_new w5 _⟩
    have H5 := Lib.hid (And.intro h5 (And.intro hX1L (And.intro hX1Q (And.intro hX1t hat.2))))
    clear A1 hR h5 hX1L hX1Q hX1t hX1r ha ha2 hat hroot hta
    have hcw : CapWf ⟨true, 512, 512 + m, 512, 31, 0⟩ := ⟨by unfold i64ok'; simp only; omega, by unfold i64ok'; simp only; omega, by unfold i64ok'; simp only; omega, by unfold i64ok'; simp only; omega, by unfold i64ok'; simp only; omega⟩
    have HCW := Lib.hid hcw
    clear hcw
    go_wp2_with fail
    go_loopw [13] (fun i wr => ∃ (k : Nat) (X : HeapD), k ≤ T ∧ i = .int .i64 (k : Int) ∧ AgIn w (w1.heap.size + 1) hp w5.heap.size (G : Int) ⟨true, 512, 512 + m, 512, 31, 0⟩ X wr ∧ X.L = [⟨512, m, tk⟩] ∧ X.Q = [] ∧ X.time = 2 * (k : Int)) (fun i _ => T - (intOf i).toNat)
    case atStart => exact ⟨0, _, Nat.zero_le _, rfl, H5.out.1, H5.out.2.1, H5.out.2.2.1, H5.out.2.2.2.1⟩
    case round =>
      obtain ⟨k, X, hk, rfl, hI, hL, hQ, hti⟩ := hrel
      by_cases hlt : k < T
      · have hid := turn_idle hQ (by omega) (by omega)
        have HX := Lib.hid (And.intro hI (And.intro hL (And.intro hti hid)))
        clear hI hL hQ hti hid
        go_wp2_with fail
        refine HX.out.1.begin.mono ?_
        rintro _ w6 ⟨rfl, h6⟩
        have H6 := Lib.hid h6
        clear h6
        go_wp2_with fail
        refine H6.out.end.mono ?_
        rintro _ w7 ⟨rfl, h7⟩
        have H7 := Lib.hid h7
        clear h7
        go_wp2_with fail
        refine ⟨⟨k + 1, _, by omega, by go_num, H7.out, HX.out.2.2.2.1.trans HX.out.2.1, HX.out.2.2.2.2.1, ?_⟩, by simp [intOf]; omega⟩
        rw [HX.out.2.2.2.2.2.2, HX.out.2.2.1]
        omega
      · obtain rfl : k = T := by omega
        by_cases hrun : (k : Int) % 2 = 1
        · have hrb : ((k : Int) % 2 == 1) = true := by simpa using hrun
          have hrb2 : ((k : Int).tmod 2 == 1) = true := by rw [Int.tmod_eq_emod_of_nonneg (by omega)]; exact hrb
          have hbi := begin_idle (X := X) (by omega) (by omega)
          have HX := Lib.hid (And.intro hI (And.intro hL (And.intro hQ (And.intro hti hbi))))
          clear hI hL hQ hti hbi
          go_wp2_with fail
          refine HX.out.1.begin.mono ?_
          rintro _ w6 ⟨rfl, h6⟩
          have h6L : (beginD X).L = [⟨512, m, tk⟩] := HX.out.2.2.2.2.1.trans HX.out.2.1
          have h6Q : (beginD X).Q = [] := HX.out.2.2.2.2.2.1.trans HX.out.2.2.1
          have h6t : (beginD X).time = 2 * (k : Int) + 1 := by rw [HX.out.2.2.2.2.2.2.2, HX.out.2.2.2.1]
          obtain ⟨Y, hY⟩ : ∃ Y, Y = beginD X := ⟨_, rfl⟩
          rw [← hY] at h6 h6L h6Q h6t
          have H6 := Lib.hid (And.intro h6 (And.intro h6L (And.intro h6Q h6t)))
          clear h6 h6L h6Q h6t hY
          obtain ⟨y0, y1, y2, y3, y4, y5⟩ := lie6' H6.out.1.box (Below.refl _ w6)
          have hl6 := cell_lt y0
          simp only at hl6
          go_wp2_with fail
          have A2 := H6.out.1.free ⟨true, 512, 512 + m, 512, 31, 0⟩ HCW.out
          have o2 : (ofD Y.L ⟨true, 512, 512 + m, 512, 31, 0⟩).1 = 0 := by
            rw [H6.out.2.1, ofD_one]
            simp
          have f2 := freeD_all H6.out.2.1 o2
          rw [H6.out.2.2.1, H6.out.2.2.2] at f2
          rw [o2] at A2
          refine A2.mono ?_
          rintro _ w8 ⟨rfl, h8⟩
          have H8 := Lib.hid (And.intro h8 (And.intro f2.1 (And.intro f2.2.2 h8.ok.big)))
          have hsr := h8.ok.total
          have hsb := h8.ok.bytes
          have hst0 : 0 ≤ sumT (freeD Y ⟨true, 512, 512 + m, 512, 31, 0⟩).L := Int.le_trans (leftT_le (fun l hl => by have := h8.ok.live hl; omega) (fun _ => true)).1 (leftT_le (fun l hl => by have := h8.ok.live hl; omega) (fun _ => true)).2
          have hbig8 := h8.ok.big
          have h16 : sumR (freeD Y ⟨true, 512, 512 + m, 512, 31, 0⟩).R ≤ 1600000 := by omega
          have H16 := Lib.hid h16
          clear A2 o2 f2 h8 y0 y1 y2 y3 y4 y5 hl6 hsr hsb hst0 hbig8 h16
          go_wp2_with fail
          go_loopw [16] (fun j wr => ∃ (q : Int) (X : HeapD), j = .int .i64 q ∧ 0 ≤ q ∧ 16 * q + sumR X.R ≤ 1600000 ∧ AgIn w (w1.heap.size + 1) hp w5.heap.size (G : Int) ⟨true, 512, 512 + m, 512, 31, 0⟩ X wr ∧ X.Q = [⟨512, tk, (2 * (k : Int) + 1)⟩] ∧ X.time = (2 * (k : Int) + 1)) (fun j _ => (200000 - intOf j).toNat)
          case atStart => exact ⟨0, _, rfl, by omega, by have := H16.out; omega, H8.out.1, by rw [H8.out.2.1]; rfl, H8.out.2.2.1⟩
          case round =>
            obtain ⟨q, Z, rfl, hq0, hq1, hZ, hZQ, hZt⟩ := hrel
            have hZ0 := hZ.ok.free0
            have HZ := Lib.hid (And.intro hZ (And.intro hZQ hZt))
            clear hZ hZQ hZt
            go_wp2_with fail
            refine (left_run HZ.out.1.run).mono ?_
            rintro _ w9 ⟨rfl, hE⟩
            have H9 := Lib.hid (HZ.out.1.ext hE)
            clear hE
            by_cases hpos : 0 < sumR Z.R
            · have hfit := small_fits HZ.out.1.ok.held.wf hpos
              have ha := alloc_fits (X := Z) (n := 0) (by rw [round_zero]) (by rw [round_zero]; exact hfit)
              rw [round_zero] at ha
              have hsum := take_sum hfit
              have A3 := H9.out.alloc 0 hz64
              have h3Q : (allocD Z 0).1.Q = Z.Q := by rw [ha]
              have h3t : (allocD Z 0).1.time = Z.time := by rw [ha]
              have h3R : (allocD Z 0).1.R = (takeR Z.R 16).1 := by rw [ha]
              have h3c : (allocD Z 0).2.2 = 0 := by rw [ha]
              rw [h3c] at A3
              have HA3 := Lib.hid (And.intro A3 (And.intro h3Q (And.intro h3t (h3R ▸ hsum))))
              have hwq : IntKind.i64.wrap (q + 1) = q + 1 := IntWalk.i64_in _ (by omega)
              clear hfit ha hsum A3 h3Q h3t h3R h3c
              go_wp2_with fail
              refine HA3.out.1.mono ?_
              rintro _ w10 ⟨rfl, h10⟩
              have H10 := Lib.hid h10
              clear h10
              obtain ⟨cp, hcp⟩ : ∃ cp, cp = (allocD Z 0).2.1 := ⟨_, rfl⟩
              rw [← hcp]
              clear hcp
              obtain ⟨qt, qb, qp, qa, qe, qy⟩ := cp
              go_wp2_with fail
              exact ⟨⟨q + 1, _, rfl, by omega, by rw [HA3.out.2.2.2]; omega, H10.out.ext (Ext.alloc (Below.refl _ _) (.cells (Cap.cells ⟨qt, qb, qp, qa, qe, qy⟩).toArray 27)), HA3.out.2.1.trans HZ.out.2.1, HA3.out.2.2.1.trans HZ.out.2.2⟩, by simp [intOf]; omega⟩
            · have hR0 := sum_zero HZ.out.1.ok.held.wf (by omega)
              have hf := alloc_five (X := Z) HI.out.1 (by rw [hR0]; exact take_nil _)
              have A4 := H9.out.alloc n hn64
              rw [hf] at A4
              have HA4 := Lib.hid (And.intro A4 hR0)
              clear A4 hR0 hf
              go_wp2_with fail
              refine HA4.out.1.mono ?_
              rintro _ w10 ⟨rfl, h10⟩
              have H10 := Lib.hid (h10.ext (Ext.alloc (Below.refl _ _) (.cells Cap.zero.cells.toArray 27)))
              clear h10
              simp only [Cap.zero]
              go_wp2_with fail
              have hwh : whenD (2 * (k : Int) + 1) = 2 * (k : Int) + 4 := when_odd (by omega)
              have hei := end_idle (X := Z) (by rw [HZ.out.2.2]; omega) (by rw [HZ.out.2.1, due_one, if_neg (by rw [HZ.out.2.2, hwh]; omega)])
              refine H10.out.end.mono ?_
              rintro _ w11 ⟨rfl, h11⟩
              have e11R : (endD Z).R = [] := hei.2.2.1.trans HA4.out.2
              have e11Q : (endD Z).Q = [⟨512, tk, 2 * (k : Int) + 1⟩] := hei.2.1.trans HZ.out.2.1
              have e11t : (endD Z).time = 2 * (k : Int) + 2 := by rw [hei.2.2.2, HZ.out.2.2]; omega
              obtain ⟨V, hV⟩ : ∃ V, V = endD Z := ⟨_, rfl⟩
              rw [← hV] at h11 e11R e11Q e11t
              clear hV hei
              have hbi := begin_idle (X := V) (by rw [e11t]; omega) (by rw [e11t]; omega)
              have hf5 := alloc_five (X := V) HI.out.1 (by rw [e11R]; exact take_nil _)
              have H11 := Lib.hid (And.intro h11 (And.intro e11R (And.intro e11Q (And.intro e11t (And.intro hbi (And.intro hf5 hwh))))))
              clear h11 e11R e11Q e11t hbi hf5 hwh
              go_wp2_with fail
              have A5 := H11.out.1.alloc n hn64
              rw [H11.out.2.2.2.2.2.1] at A5
              refine A5.mono ?_
              rintro _ w12 ⟨rfl, h12⟩
              have H12 := Lib.hid (h12.ext (Ext.alloc (Below.refl _ _) (.cells Cap.zero.cells.toArray 27)))
              clear A5 h12
              simp only [Cap.zero]
              go_wp2_with fail
              refine H12.out.begin.mono ?_
              rintro _ w13 ⟨rfl, h13⟩
              have H13 := Lib.hid h13
              clear h13
              go_wp2_with fail
              refine H13.out.end.mono ?_
              rintro _ w14 ⟨rfl, h14⟩
              have hd14 : dueL ((beginD V).time + 1) (beginD V).Q = (beginD V).Q := by
                rw [H11.out.2.2.2.2.1.2.1, H11.out.2.2.1, due_one, if_pos]
                rw [H11.out.2.2.2.2.1.2.2.2, H11.out.2.2.2.1, H11.out.2.2.2.2.2.2]
                omega
              have e14 := end_due (X := beginD V) (by rw [H11.out.2.2.2.2.1.2.2.2, H11.out.2.2.2.1]; omega) hd14
              rw [H11.out.2.2.2.2.1.2.2.1, H11.out.2.1, H11.out.2.2.2.2.1.2.1, H11.out.2.2.1, root_begin, H11.out.1.root] at e14
              have hmg : mayGive (rootC 512 (G : Int)).base (rootC 512 (G : Int)).top 512 tk := by
                have h1 := HI.out.2.1
                have h2 := H5.out.2.2.2.2
                unfold mayGive rootC
                simp only
                refine ⟨by omega, by omega, by omega, by omega, by omega, by omega⟩
              have e14' : (endD (beginD V)).R = [(512, 512 + tk)] := by
                rw [e14]
                exact give_nil hmg
              have htw := take_whole (z := 512) (n := tk) (by have := HI.out.2.1; omega) HI.out.2.1.2.2.1
              have hfi := alloc_fits (X := endD (beginD V)) (n := n) HI.out.1 (by rw [e14', ← HI.out.2.2.1]; exact htw.2)
              rw [e14', ← HI.out.2.2.1, ← HI.out.2.2.2, htw.1, root_end, root_begin, H11.out.1.root] at hfi
              have hfi2 : (allocD (endD (beginD V)) n).2 = (⟨true, 512, 512 + m, 512, 31, 0⟩, 0) := by rw [hfi]; rfl
              have A6 := h14.alloc n hn64
              rw [hfi2] at A6
              have HA6 := Lib.hid A6
              clear h14 hd14 e14 hmg e14' htw hfi hfi2 A6
              go_wp2_with fail
              refine HA6.out.mono ?_
              rintro _ w15 ⟨rfl, h15⟩
              have h16 := h15.ext (Ext.alloc (Below.refl _ _) (.cells #[.bool true, .int .i64 512, .int .i64 (512 + m), .int .i64 512, .int .i64 31, .int .i64 0] 27))
              obtain ⟨y0, y1, y2, y3, y4, y5⟩ := lie6' h15.box (Below.refl _ w15)
              have hl15 := cell_lt y0
              simp only at hl15
              have H16' := Lib.hid h16.run.from
              clear h15 h16
              go_wp2_with fail
              go_ret
              exact ⟨rfl, H16'.out⟩
        · have hrb : ((k : Int) % 2 == 1) = false := by simpa using hrun
          have hrb2 : ((k : Int).tmod 2 == 1) = false := by rw [Int.tmod_eq_emod_of_nonneg (by omega)]; exact hrb
          obtain ⟨Y, hY⟩ : ∃ Y, Y = X := ⟨_, rfl⟩
          rw [← hY] at hI hL hQ hti
          have H6 := Lib.hid (And.intro hI (And.intro hL (And.intro hQ hti)))
          clear hI hL hQ hti hY
          obtain ⟨y0, y1, y2, y3, y4, y5⟩ := lie6' H6.out.1.box (Below.refl _ wr)
          have hl6 := cell_lt y0
          simp only at hl6
          go_wp2_with fail
          have A2 := H6.out.1.free ⟨true, 512, 512 + m, 512, 31, 0⟩ HCW.out
          have o2 : (ofD Y.L ⟨true, 512, 512 + m, 512, 31, 0⟩).1 = 0 := by
            rw [H6.out.2.1, ofD_one]
            simp
          have f2 := freeD_all H6.out.2.1 o2
          rw [H6.out.2.2.1, H6.out.2.2.2] at f2
          rw [o2] at A2
          refine A2.mono ?_
          rintro _ w8 ⟨rfl, h8⟩
          have H8 := Lib.hid (And.intro h8 (And.intro f2.1 (And.intro f2.2.2 h8.ok.big)))
          have hsr := h8.ok.total
          have hsb := h8.ok.bytes
          have hst0 : 0 ≤ sumT (freeD Y ⟨true, 512, 512 + m, 512, 31, 0⟩).L := Int.le_trans (leftT_le (fun l hl => by have := h8.ok.live hl; omega) (fun _ => true)).1 (leftT_le (fun l hl => by have := h8.ok.live hl; omega) (fun _ => true)).2
          have hbig8 := h8.ok.big
          have h16 : sumR (freeD Y ⟨true, 512, 512 + m, 512, 31, 0⟩).R ≤ 1600000 := by omega
          have H16 := Lib.hid h16
          clear A2 o2 f2 h8 y0 y1 y2 y3 y4 y5 hl6 hsr hsb hst0 hbig8 h16
          go_wp2_with fail
          go_loopw [16] (fun j wr => ∃ (q : Int) (X : HeapD), j = .int .i64 q ∧ 0 ≤ q ∧ 16 * q + sumR X.R ≤ 1600000 ∧ AgIn w (w1.heap.size + 1) hp w5.heap.size (G : Int) ⟨true, 512, 512 + m, 512, 31, 0⟩ X wr ∧ X.Q = [⟨512, tk, (2 * (k : Int))⟩] ∧ X.time = (2 * (k : Int))) (fun j _ => (200000 - intOf j).toNat)
          case atStart => exact ⟨0, _, rfl, by omega, by have := H16.out; omega, H8.out.1, by rw [H8.out.2.1]; rfl, H8.out.2.2.1⟩
          case round =>
            obtain ⟨q, Z, rfl, hq0, hq1, hZ, hZQ, hZt⟩ := hrel
            have hZ0 := hZ.ok.free0
            have HZ := Lib.hid (And.intro hZ (And.intro hZQ hZt))
            clear hZ hZQ hZt
            go_wp2_with fail
            refine (left_run HZ.out.1.run).mono ?_
            rintro _ w9 ⟨rfl, hE⟩
            have H9 := Lib.hid (HZ.out.1.ext hE)
            clear hE
            by_cases hpos : 0 < sumR Z.R
            · have hfit := small_fits HZ.out.1.ok.held.wf hpos
              have ha := alloc_fits (X := Z) (n := 0) (by rw [round_zero]) (by rw [round_zero]; exact hfit)
              rw [round_zero] at ha
              have hsum := take_sum hfit
              have A3 := H9.out.alloc 0 hz64
              have h3Q : (allocD Z 0).1.Q = Z.Q := by rw [ha]
              have h3t : (allocD Z 0).1.time = Z.time := by rw [ha]
              have h3R : (allocD Z 0).1.R = (takeR Z.R 16).1 := by rw [ha]
              have h3c : (allocD Z 0).2.2 = 0 := by rw [ha]
              rw [h3c] at A3
              have HA3 := Lib.hid (And.intro A3 (And.intro h3Q (And.intro h3t (h3R ▸ hsum))))
              have hwq : IntKind.i64.wrap (q + 1) = q + 1 := IntWalk.i64_in _ (by omega)
              clear hfit ha hsum A3 h3Q h3t h3R h3c
              go_wp2_with fail
              refine HA3.out.1.mono ?_
              rintro _ w10 ⟨rfl, h10⟩
              have H10 := Lib.hid h10
              clear h10
              obtain ⟨cp, hcp⟩ : ∃ cp, cp = (allocD Z 0).2.1 := ⟨_, rfl⟩
              rw [← hcp]
              clear hcp
              obtain ⟨qt, qb, qp, qa, qe, qy⟩ := cp
              go_wp2_with fail
              exact ⟨⟨q + 1, _, rfl, by omega, by rw [HA3.out.2.2.2]; omega, H10.out.ext (Ext.alloc (Below.refl _ _) (.cells (Cap.cells ⟨qt, qb, qp, qa, qe, qy⟩).toArray 27)), HA3.out.2.1.trans HZ.out.2.1, HA3.out.2.2.1.trans HZ.out.2.2⟩, by simp [intOf]; omega⟩
            · have hR0 := sum_zero HZ.out.1.ok.held.wf (by omega)
              have hf := alloc_five (X := Z) HI.out.1 (by rw [hR0]; exact take_nil _)
              have A4 := H9.out.alloc n hn64
              rw [hf] at A4
              have HA4 := Lib.hid (And.intro A4 hR0)
              clear A4 hR0 hf
              go_wp2_with fail
              refine HA4.out.1.mono ?_
              rintro _ w10 ⟨rfl, h10⟩
              have H10 := Lib.hid (h10.ext (Ext.alloc (Below.refl _ _) (.cells Cap.zero.cells.toArray 27)))
              clear h10
              simp only [Cap.zero]
              go_wp2_with fail
              have hwh : whenD (2 * (k : Int)) = 2 * (k : Int) + 2 := when_even (by omega)
              obtain ⟨V, hV⟩ : ∃ V, V = Z := ⟨_, rfl⟩
              obtain ⟨w11, hw11⟩ : ∃ w11, w11 = w10.alloc (.cells #[.bool false, .int .i64 0, .int .i64 0, .int .i64 0, .int .i64 0, .int .i64 0] 27) := ⟨_, rfl⟩
              have h11 : AgIn w (w1.heap.size + 1) hp w5.heap.size (G : Int) ⟨true, 512, 512 + m, 512, 31, 0⟩ V w11 := by rw [hV, hw11]; exact H10.out
              have e11R : V.R = [] := by rw [hV]; exact HA4.out.2
              have e11Q : V.Q = [⟨512, tk, 2 * (k : Int)⟩] := by rw [hV]; exact HZ.out.2.1
              have e11t : V.time = 2 * (k : Int) := by rw [hV]; exact HZ.out.2.2
              rw [← hw11]
              clear hV hw11
              have hbi := begin_idle (X := V) (by rw [e11t]; omega) (by rw [e11t]; omega)
              have hf5 := alloc_five (X := V) HI.out.1 (by rw [e11R]; exact take_nil _)
              have H11 := Lib.hid (And.intro h11 (And.intro e11R (And.intro e11Q (And.intro e11t (And.intro hbi (And.intro hf5 hwh))))))
              clear h11 e11R e11Q e11t hbi hf5 hwh

              have A5 := H11.out.1.alloc n hn64
              rw [H11.out.2.2.2.2.2.1] at A5
              refine A5.mono ?_
              rintro _ w12 ⟨rfl, h12⟩
              have H12 := Lib.hid (h12.ext (Ext.alloc (Below.refl _ _) (.cells Cap.zero.cells.toArray 27)))
              clear A5 h12
              simp only [Cap.zero]
              go_wp2_with fail
              refine H12.out.begin.mono ?_
              rintro _ w13 ⟨rfl, h13⟩
              have H13 := Lib.hid h13
              clear h13
              go_wp2_with fail
              refine H13.out.end.mono ?_
              rintro _ w14 ⟨rfl, h14⟩
              have hd14 : dueL ((beginD V).time + 1) (beginD V).Q = (beginD V).Q := by
                rw [H11.out.2.2.2.2.1.2.1, H11.out.2.2.1, due_one, if_pos]
                rw [H11.out.2.2.2.2.1.2.2.2, H11.out.2.2.2.1, H11.out.2.2.2.2.2.2]
                omega
              have e14 := end_due (X := beginD V) (by rw [H11.out.2.2.2.2.1.2.2.2, H11.out.2.2.2.1]; omega) hd14
              rw [H11.out.2.2.2.2.1.2.2.1, H11.out.2.1, H11.out.2.2.2.2.1.2.1, H11.out.2.2.1, root_begin, H11.out.1.root] at e14
              have hmg : mayGive (rootC 512 (G : Int)).base (rootC 512 (G : Int)).top 512 tk := by
                have h1 := HI.out.2.1
                have h2 := H5.out.2.2.2.2
                unfold mayGive rootC
                simp only
                refine ⟨by omega, by omega, by omega, by omega, by omega, by omega⟩
              have e14' : (endD (beginD V)).R = [(512, 512 + tk)] := by
                rw [e14]
                exact give_nil hmg
              have htw := take_whole (z := 512) (n := tk) (by have := HI.out.2.1; omega) HI.out.2.1.2.2.1
              have hfi := alloc_fits (X := endD (beginD V)) (n := n) HI.out.1 (by rw [e14', ← HI.out.2.2.1]; exact htw.2)
              rw [e14', ← HI.out.2.2.1, ← HI.out.2.2.2, htw.1, root_end, root_begin, H11.out.1.root] at hfi
              have hfi2 : (allocD (endD (beginD V)) n).2 = (⟨true, 512, 512 + m, 512, 31, 0⟩, 0) := by rw [hfi]; rfl
              have A6 := h14.alloc n hn64
              rw [hfi2] at A6
              have HA6 := Lib.hid A6
              clear h14 hd14 e14 hmg e14' htw hfi hfi2 A6
              go_wp2_with fail
              refine HA6.out.mono ?_
              rintro _ w15 ⟨rfl, h15⟩
              have h16 := h15.ext (Ext.alloc (Below.refl _ _) (.cells #[.bool true, .int .i64 512, .int .i64 (512 + m), .int .i64 512, .int .i64 31, .int .i64 0] 27))
              obtain ⟨y0, y1, y2, y3, y4, y5⟩ := lie6' h15.box (Below.refl _ w15)
              have hl15 := cell_lt y0
              simp only at hl15
              have H16' := Lib.hid h16.run.from
              clear h15 h16
              go_wp2_with fail
              go_ret
              exact ⟨rfl, H16'.out⟩
end Go.Proofs.Ytpjlhkepdiajjaa


/- HeapSizes: the walk. -/
import Derived.Test.YtpjlhkepdiajjaaHead14
import Derived.Test.YtpjlhkepdiajjaaRef11
set_option linter.all false
namespace Go.Proofs.Ytpjlhkepdiajjaa
open Go.RowKit Go.Shelf
attribute [local go_sem] seen dstOf boolOf

theorem newOk_root' {f g full : Int} (hf : 0 ≤ f ∧ f % 16 = 0) (hg : 0 ≤ g) (ht : f + 16 * g ≤ 16777216) (h1 : 1 ≤ full) (h2 : full ≤ 16777216) : newOk (rootC f g) full := by
  refine ⟨by unfold mayBe rootC; simp only; omega, h1, h2, ?_, rfl, rfl⟩
  unfold rightC rootC addrB permB
  simp only [Bool.not_true, Bool.false_or]
  simp
  omega
theorem wf_rootC' {f g : Int} (hf : 0 ≤ f) (hg : 0 ≤ g) (ht : f + 16 * g ≤ 16777216) : CapWf (rootC f g) := ⟨by unfold i64ok' rootC; simp only; omega, by unfold i64ok' rootC; simp only; omega, by unfold i64ok' rootC; simp only; omega, by unfold i64ok' rootC; simp only; omega, by unfold i64ok' rootC; simp only; omega⟩
section
variable {X : HeapD} {n : Int}
/-- What was given out is found. -/
theorem size_new (ok : HeapOk X) (h1 : (roundD n).2 = true) (h2 : (takeR X.R (roundD n).1).2.2 = true) : sizeD (allocD X n).1.L (allocD X n).2.1 = ((roundD n).1, 0) := by
  have ok1 := heap_alloc ok n
  rw [alloc_fits h1 h2] at ok1 ⊢
  have ho := far_once ok1.held
  have hf := find_hit ho (l := ⟨(takeR X.R (roundD n).1).2.1, max n 1, (roundD n).1⟩) (by simp)
  simp only at hf
  unfold sizeD ofD
  simp only [ok.tag, ok.ty]
  rw [hf]
  simp
theorem cap_new (ok : HeapOk X) (h1 : (roundD n).2 = true) (h2 : (takeR X.R (roundD n).1).2.2 = true) : CapWf (allocD X n).2.1 := by
  have ht := take_new ok h2
  have hf := round_fits h1
  have he := ok.ends
  unfold mayBe at he
  rw [alloc_fits h1 h2]
  exact ⟨by unfold i64ok'; simp only; omega, by unfold i64ok'; simp only; omega, by unfold i64ok'; simp only; omega, ok.wf.perms, ok.wf.ty⟩
end
theorem alloc_codes {X : HeapD} {n : Int} (h1 : (roundD n).2 = true) : (allocD X n).2.2 = if (takeR X.R (roundD n).1).2.2 then 0 else 5 := by
  unfold allocD
  rw [if_neg (by rw [h1]; simp)]
  cases (takeR X.R (roundD n).1).2.2 <;> rfl
theorem round_16 {n : Int} (h0 : 0 ≤ n) (h1 : n ≤ 65536) : (roundD n).2 = true := by
  rw [round_ref h0 h1]
  split <;> rfl
theorem arr_one {w : World} {A : Option Addr} {k : IntKind} {l : List Int} (h : Arr w A (l.map (.int k ·))) {i : Nat} (hi : i < l.length) : ∃ b o, A = some ⟨b, o, none⟩ ∧ b < w.heap.size ∧ w.cell? ⟨b, o + i, none⟩ = some (.int k l[i]) := by
  obtain ⟨b, o, e, hb, hc⟩ := h.open (by simp; omega)
  exact ⟨b, o, e, hb, by have := hc i (by simpa using hi); simpa using this⟩
set_option maxHeartbeats 4000000 in
set_option maxRecDepth 40000 in
theorem sizes14_any (A : Option Addr) (c : Nat) (l : List Int) (w : World) (hA : Arr w A (l.map (.int .u16 ·))) (hlc : l.length ≤ c) (hcm : c ≤ maxLen) (hwf : ∀ x ∈ l, 0 ≤ x ∧ x ≤ 65535) : Calls Try.prog 7 #[.slice A l.length c] w fun e w' => e = .returned (.bool true) ∧ Ext w w' := by
  have hlm : l.length ≤ 9223372036854775807 := by unfold maxLen at hcm; omega
  have HA := Lib.hid (And.intro hA hwf)
  clear hA hwf hcm
  go_enter Try.func7, Try.ntmps7
  go_wp2_with fail
  refine (head14 _).mono ?_
  rintro _ w1 ⟨rfl, hE⟩
  have H1 := Lib.hid hE
  clear hE
  go_wp2_with fail
  refine (newS_any 4200 w1).mono ?_
  rintro _ w2 (⟨hb, -⟩ | ⟨-, rfl, hS, hE⟩)
  · omega
  obtain ⟨ws0, hS⟩ : ∃ ws0, ShadAt w2 (w1.heap.size + 1) w1.heap.size 4200 ws0 := ⟨_, hS⟩
  have H2 := Lib.hid (And.intro (H1.out.then hE) hS)
  clear hE hS
  by_cases hl : l.length ≤ 100
  · have hl' : ¬ (100 < (l.length : Int)) := by omega
    go_wp2_with fail
    refine (root_any 1024 4000 _ (by omega) (by omega)).mono ?_
    rintro _ w3 ⟨rfl, hE⟩
    have H3 := Lib.hid (And.intro (H2.out.1.then hE) (H2.out.2.ext hE))
    clear hE
    go_wp2_with fail
    refine (new_run (w0 := w) (rootC 1024 4000) (w1.heap.size + 1) w1.heap.size 4200 ws0 64 H3.out.1 H1.out.size H3.out.2 (wf_rootC' (by omega) (by omega) (by omega)) (newOk_root' (by omega) (by omega) (by omega) (by omega) (by omega))).mono ?_
    rintro _ w4 ⟨hE, hp, rfl, hR⟩
    have ok0 : HeapOk (startD (rootC 1024 4000) 64 4200 ws0) := heap_start (wf_rootC' (by omega) (by omega) (by omega)) (newOk_root' (by omega) (by omega) (by omega) (by omega) (by omega)) (by unfold rootC; simp only; omega) (by unfold rootC; simp only; omega)
    have H4 := Lib.hid (And.intro hR ok0)
    clear hE hR ok0
    go_wp2_with fail
    go_loopw [6] (fun i wr => ∃ (k : Nat) (X : HeapD), k ≤ l.length ∧ i = .int .i64 (k : Int) ∧ RunAt w hp (w1.heap.size + 1) X wr ∧ HeapOk X ∧ X.Q = []) (fun i _ => l.length - (intOf i).toNat)
    case atStart => exact ⟨0, _, Nat.zero_le _, rfl, H4.out.1, H4.out.2, rfl⟩
    case round =>
      obtain ⟨k, X, hk, rfl, hR, ok, hQ⟩ := hrel
      by_cases hlt : k < l.length
      · obtain ⟨b, o, rfl, hb, xk0⟩ := arr_one HA.out.1 hlt
        have xk := ext_cell hR.from _ _ xk0
        have hx := HA.out.2 l[k] (List.getElem_mem hlt)
        generalize l[k] = x at xk xk0 hx
        have hr := round_16 hx.1 (by omega : x ≤ 65536)
        have hcd := alloc_codes (X := X) hr
        have hx64 : i64ok' x := by unfold i64ok'; omega
        have hkl := cell_lt xk
        simp only at hkl
        have hwx : IntKind.i64.wrap x = x := IntWalk.i64_in _ (by omega)
        have HR := Lib.hid (And.intro hR (And.intro ok (And.intro hQ (And.intro hr hcd))))
        have HXK := Lib.hid xk0
        clear xk0
        clear hR ok hQ hr hcd
        go_wp2_with fail
        refine (left_run HR.out.1).mono ?_
        rintro _ w5 ⟨rfl, hE⟩
        have H5 := Lib.hid hE
        clear hE
        go_wp2_with fail
        refine (live_run (HR.out.1.ext H5.out) HR.out.2.1).mono ?_
        rintro _ w6 ⟨rfl, hE⟩
        have H6 := Lib.hid (H5.out.then hE)
        have xk6 := ext_cell (HR.out.1.from.then (H5.out.then hE)) _ _ HXK.out
        have hkl6 := cell_lt xk6
        simp only at hkl6
        clear hE xk hkl
        go_wp2_with fail
        refine (alloc_run (HR.out.1.ext H6.out) HR.out.2.1 x hx64).mono ?_
        rintro _ w7 ⟨rfl, hR7, hc7⟩
        rw [HR.out.2.2.2.2]
        have xk7 := ext_cell hR7.from _ _ HXK.out
        have hkl7 := cell_lt xk7
        simp only at hkl7
        obtain ⟨cp, hcp⟩ : ∃ cp, cp = (allocD X x).2.1 := ⟨_, rfl⟩
        rw [← hcp]
        have ok7 := heap_alloc HR.out.2.1 x
        have hst := (hR7.ext (Ext.alloc (Below.refl _ _) (.cells cp.cells.toArray 27))).from
        have H7 := Lib.hid (And.intro hR7 (And.intro hcp (And.intro ok7 hst)))
        have hbt := HR.out.2.1.total
        have hbb := HR.out.2.1.bytes
        have hbf := HR.out.2.1.free0
        have hbl := HR.out.2.1.big
        have hln := HR.out.2.1.lens.1
        have hq0 : sumN X.Q = 0 := by rw [HR.out.2.2.1]; rfl
        have ht0 : 0 ≤ sumT X.L := Int.le_trans (leftT_le (L := X.L) (fun l hl => by have := HR.out.2.1.live hl; omega) (fun _ => true)).1 (leftT_le (L := X.L) (fun l hl => by have := HR.out.2.1.live hl; omega) (fun _ => true)).2
        obtain ⟨tg, bs, tp, at', pe, ty⟩ := cp
        clear hR7 hc7 hcp ok7 hst xk6 hkl6
        cases ht : (takeR X.R (roundD x).1).2.2 with
        | false =>
          have hX : (allocD X x).1 = X := alloc_full x (.inr ht)
          simp only [Bool.false_eq_true, if_false]
          have H8 := Lib.hid (And.intro hX ht)
          clear hX ht
          go_wp2_with fail
          refine (refRound_any x _ (by omega) (by omega)).mono ?_
          rintro _ w8 ⟨rfl, hE⟩
          have hR8 := H7.out.1.ext ((Ext.alloc (Below.refl _ _) _).then hE)
          rw [H8.out.1] at hR8
          have H9 := Lib.hid hR8
          clear hE hR8
          go_wp2_with fail
          refine (left_run H9.out).mono ?_
          rintro _ w9 ⟨rfl, hE⟩
          have H10 := Lib.hid (H9.out.ext hE)
          clear hE
          go_wp2_with fail
          exact ⟨⟨k + 1, X, by omega, by go_num, H10.out, HR.out.2.1, HR.out.2.2.1⟩, by simp [intOf]; omega⟩
        | true =>
          have hsz := size_new HR.out.2.1 HR.out.2.2.2.1 ht
          have hcw := cap_new HR.out.2.1 HR.out.2.2.2.1 ht
          have hsum : sumR (allocD X x).1.R = sumR X.R - (roundD x).1 := by
            rw [alloc_fits HR.out.2.2.2.1 ht]
            exact take_sum ht
          have hLl : ((allocD X x).1.L.length : Int) = (X.L.length : Int) + 1 := by
            rw [alloc_fits HR.out.2.2.2.1 ht]
            simp
          have hLt : sumT (allocD X x).1.L = sumT X.L + (roundD x).1 := by
            rw [alloc_fits HR.out.2.2.2.1 ht]
            simp [sumT]
          have hQ7 : (allocD X x).1.Q = [] := by
            rw [alloc_fits HR.out.2.2.2.1 ht]
            exact HR.out.2.2.1
          have hrf := round_fits HR.out.2.2.2.1
          simp only [if_true]
          rw [← H7.out.2.1] at hsz hcw
          obtain ⟨tk, htk⟩ : ∃ tk, tk = (roundD x).1 := ⟨_, rfl⟩
          rw [← htk] at hsz hsum hLt hrf
          have HT := Lib.hid htk
          obtain ⟨X1, hX1⟩ : ∃ X1, X1 = (allocD X x).1 := ⟨_, rfl⟩
          have h7 := H7.out.1
          have h7ok := H7.out.2.2.1
          rw [← hX1] at hsz hsum hLl hLt hQ7 h7 h7ok
          have H8 := Lib.hid (And.intro h7 (And.intro h7ok (And.intro hsz (And.intro hcw (And.intro hsum (And.intro hLl (And.intro hLt hQ7)))))))
          have hw1 : IntKind.i64.wrap (sumR X.R - tk) = sumR X.R - tk := IntWalk.i64_in _ (by omega)
          have hw2 : IntKind.i64.wrap ((X.L.length : Int) + 1) = (X.L.length : Int) + 1 := IntWalk.i64_in _ (by omega)
          have hw3 : IntKind.i64.wrap (sumT X.L + tk) = sumT X.L + tk := IntWalk.i64_in _ (by omega)
          clear ht hsz hcw hsum hLl hLt hQ7 htk hX1 h7 h7ok hbt hbb hbf hbl hln hq0 ht0
          go_wp2_with fail
          refine (refRound_any x _ (by omega) (by omega)).mono ?_
          rintro _ w8 ⟨rfl, hE⟩
          have hbx := (hE.block w7.heap.size (by simp)).trans (heap_alloc_new w7 _)
          obtain ⟨y0, y1, y2, y3, y4, y5⟩ := lie6' hbx (Below.refl _ w8)
          have hl8 := cell_lt y0
          simp only at hl8
          rw [← HT.out]
          have H9 := Lib.hid (H8.out.1.ext ((Ext.alloc (Below.refl _ _) _).then hE))
          clear hE hbx xk7 hkl7
          go_wp2_with fail
          have A9 := size_run H9.out H8.out.2.1 ⟨tg, bs, tp, at', pe, ty⟩ H8.out.2.2.2.1
          rw [H8.out.2.2.1] at A9
          refine A9.mono ?_
          rintro _ w9 ⟨rfl, hE⟩
          have H10 := Lib.hid (H9.out.ext hE)
          clear hE A9
          go_wp2_with fail
          have A10 := live_run H10.out H8.out.2.1
          rw [H8.out.2.2.2.2.2.1, H8.out.2.2.2.2.2.2.1] at A10
          refine A10.mono ?_
          rintro _ w10 ⟨rfl, hE⟩
          have H11 := Lib.hid (H10.out.ext hE)
          clear hE A10
          go_wp2_with fail
          have A11 := left_run H11.out
          rw [H8.out.2.2.2.2.1] at A11
          refine A11.mono ?_
          rintro _ w11 ⟨rfl, hE⟩
          have H12 := Lib.hid (H11.out.ext hE)
          clear hE A11
          go_wp2_with fail
          exact ⟨⟨k + 1, X1, by omega, by go_num, H12.out, H8.out.2.1, H8.out.2.2.2.2.2.2.2⟩, by simp [intOf]; omega⟩
      · obtain rfl : k = l.length := by omega
        have hq0 : sumN X.Q = 0 := by rw [hQ]; rfl
        have HR := Lib.hid hR
        have A := apart_run hR
        rw [hq0] at A
        have HA2 := Lib.hid A
        clear hR A hq0
        go_wp2_with fail
        refine HA2.out.mono ?_
        rintro _ w5 ⟨rfl, hE⟩
        have H5 := Lib.hid (HR.out.from.then hE)
        clear hE
        go_wp2_with fail
        go_ret
        exact ⟨rfl, H5.out⟩
  · have hl' : (100 < (l.length : Int)) := by omega
    go_wp2_with fail
    go_ret
    exact ⟨rfl, H2.out.1⟩
end Go.Proofs.Ytpjlhkepdiajjaa

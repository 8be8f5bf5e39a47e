
/- The reference of layer 15: from bytes. -/
import Derived.Test.YtgfnpcoigooblaaRef15B
import Derived.Test.YtgfnpcoigooblaaCodeC
set_option linter.all false
namespace Go.Proofs.Ytgfnpcoigooblaa
open Go.RowKit

theorem get_out {p a b c : Int} (h : ¬ (0 ≤ p ∧ p ≤ 29)) : getI [p, a, b, c] = (.zero, 151) := by
  refine get_no rfl ?_
  split <;> exact right_out h

set_option maxHeartbeats 1000000 in
theorem rget_bad (A : Option Addr) (n c : Nat) (w : World) (hn : n ≠ 4) : Calls Try.prog 65 #[.slice A n c] w (Gave w (.zero, 1)) := by
  have h4 : ((n : Int) != 4) = true := by rw [bne_iff_ne]; omega
  go_enter Try.func65, Try.ntmps65
  go_wp2
  refine bodyPost_ret (v := .tuple #[.agg #[.int .i64 0, .int .i64 0, .int .i64 0, .int .i64 0], .int .i64 1]) (by simp [results, Try.results65, go_sem]) rfl ⟨rfl, Ext.alloc (Below.refl _ w) _⟩

section
variable (g o : Nat) (k : Nat) (p a b c : Int) (w : World) (h0 : w.cell? ⟨g, o, none⟩ = some (.int .u8 p)) (h1 : w.cell? ⟨g, o + 1, none⟩ = some (.int .u8 a)) (h2 : w.cell? ⟨g, o + 2, none⟩ = some (.int .u8 b)) (h3 : w.cell? ⟨g, o + 3, none⟩ = some (.int .u8 c))
    (hg : g < w.heap.size) (p0 : 0 ≤ p) (p1 : p < 256) (a0 : 0 ≤ a) (a1 : a < 256) (b0 : 0 ≤ b) (b1 : b < 256) (c0 : 0 ≤ c) (c1 : c < 256)
include h0 h1 h2 h3 hg p0 p1 a0 a1 b0 b1 c0 c1
set_option maxHeartbeats 1000000 in
theorem rget_out (hop : ¬ (0 ≤ p ∧ p ≤ 29)) : Calls Try.prog 65 #[.slice (some ⟨g, o, none⟩) 4 k] w (Gave w (.zero, 151)) := by
  have hk := kinds_out p (by omega)
  have HK := Lib.hid hk
  have HO := Lib.hid hop
  clear hk hop
  have hgn := lt_more hg
  go_enter Try.func65, Try.ntmps65
  go_wp2
  go_region
  go_wp2_with (go_at_call 77; refine (rkinds_any _ _).mono ?_; rw [HK.out]; rintro e w' ⟨rfl, rfl⟩)
  refine bodyPost_ret (v := .tuple #[.agg #[.int .i64 0, .int .i64 0, .int .i64 0, .int .i64 0], .int .i64 151]) (by simp [results, Try.results65, go_sem]) rfl ⟨rfl, (by repeat first | (with_reducible exact Below.refl _ _) | (with_reducible apply Ext.alloc) | (with_reducible apply Ext.drew) | (with_reducible apply Ext.drewN) | (with_reducible refine Ext.set ?_ (by simp)))⟩

set_option maxHeartbeats 2000000 in
theorem rget_thin (hop : 0 ≤ p ∧ p ≤ 29) (hw : wideB p = false) : Calls Try.prog 65 #[.slice (some ⟨g, o, none⟩) 4 k] w (Gave w (getI [p, a, b, c])) := by
  obtain ⟨d0, d1, d2, hk, hw1⟩ := kinds_wide hop.1 hop.2
  have HK := Lib.hid hk
  have hne := str3_ne d0 d1 d2
  have hsz := str3_size d0 d1 d2
  have i1 : ∀ h, (str3 d0 d1 d2)[1]'h = d1 := fun _ => rfl
  rw [hw] at hw1
  have hc : (((d1.toNat : Nat) : Int) == 119) = false := hw1.symm
  have hx : (if wideB p then (⟨p, a, i16 (256 * b + c), 0⟩ : Ins) else ⟨p, a, b, c⟩) = ⟨p, a, b, c⟩ := by rw [hw]; rfl
  have HX := Lib.hid hx
  clear hk hw1 hx hw
  have hgn := lt_more hg
  go_enter Try.func65, Try.ntmps65
  go_wp2
  go_region
  go_wp2_with (first
    | (go_at_call 77; refine (rkinds_any _ _).mono ?_; rw [HK.out]; rintro e w' ⟨rfl, rfl⟩)
    | (go_at_call 78; refine (rright_any _ _ _ _ _).mono ?_; rintro e w3 ⟨rfl, hb3⟩; obtain ⟨hc3, hf3, hz3⟩ := bcellN hb3 (w.heap.size + 2) (by simp)))
  · rw [get_no HX.out (bnot_t (by assumption))]
    refine bodyPost_ret (v := .tuple #[.agg #[.int .i64 0, .int .i64 0, .int .i64 0, .int .i64 0], .int .i64 151]) (by simp [results, Try.results65, go_sem, hc3]) rfl ⟨rfl, (by repeat first | (with_reducible exact Below.refl _ _) | (with_reducible apply Ext.alloc) | (with_reducible apply Ext.drew) | (with_reducible apply Ext.drewN) | (with_reducible refine Ext.set ?_ (by simp)) | (with_reducible refine Ext.then ?_ hb3))⟩
  · rw [get_ok HX.out (bnot_f (by assumption))]
    refine bodyPost_ret (v := .tuple #[.agg #[.int .i64 p, .int .i64 a, .int .i64 b, .int .i64 c], .int .i64 0]) (by simp [results, Try.results65, go_sem, hc3]) rfl ⟨rfl, (by repeat first | (with_reducible exact Below.refl _ _) | (with_reducible apply Ext.alloc) | (with_reducible apply Ext.drew) | (with_reducible apply Ext.drewN) | (with_reducible refine Ext.set ?_ (by simp)) | (with_reducible refine Ext.then ?_ hb3))⟩

set_option maxHeartbeats 2000000 in
theorem rget_wide (hop : 0 ≤ p ∧ p ≤ 29) (hw : wideB p = true) : Calls Try.prog 65 #[.slice (some ⟨g, o, none⟩) 4 k] w (Gave w (getI [p, a, b, c])) := by
  obtain ⟨d0, d1, d2, hk, hw1⟩ := kinds_wide hop.1 hop.2
  have HK := Lib.hid hk
  have hne := str3_ne d0 d1 d2
  have hsz := str3_size d0 d1 d2
  have i1 : ∀ h, (str3 d0 d1 d2)[1]'h = d1 := fun _ => rfl
  rw [hw] at hw1
  have hc : (((d1.toNat : Nat) : Int) == 119) = true := hw1.symm
  have hx : ∀ q, i16 (256 * b + c) = q → (if wideB p then (⟨p, a, i16 (256 * b + c), 0⟩ : Ins) else ⟨p, a, b, c⟩) = ⟨p, a, q, 0⟩ := by rintro q rfl; rw [hw]; rfl
  have HX := Lib.hid hx
  clear hk hw1 hx hw
  have hgn := lt_more hg
  by_cases hbig : 32768 ≤ 256 * b + c
  · have hq := HX.out (256 * b + c - 65536) (by unfold i16; rw [if_pos hbig])
    have HQ := Lib.hid hq
    clear hq
    go_enter Try.func65, Try.ntmps65
    go_wp2
    go_region
    go_wp2_with (first
      | (go_at_call 77; refine (rkinds_any _ _).mono ?_; rw [HK.out]; rintro e w' ⟨rfl, rfl⟩)
      | (go_at_call 78; refine (rright_any _ _ _ _ _).mono ?_; rintro e w3 ⟨rfl, hb3⟩; obtain ⟨hc3, hf3, hz3⟩ := bcellN hb3 (w.heap.size + 2) (by simp)))
    · rw [get_no HQ.out (bnot_t (by assumption))]
      refine bodyPost_ret (v := .tuple #[.agg #[.int .i64 0, .int .i64 0, .int .i64 0, .int .i64 0], .int .i64 151]) (by simp [results, Try.results65, go_sem, hc3]) rfl ⟨rfl, (by repeat first | (with_reducible exact Below.refl _ _) | (with_reducible apply Ext.alloc) | (with_reducible apply Ext.drew) | (with_reducible apply Ext.drewN) | (with_reducible refine Ext.set ?_ (by simp)) | (with_reducible refine Ext.then ?_ hb3))⟩
    · rw [get_ok HQ.out (bnot_f (by assumption))]
      refine bodyPost_ret (v := .tuple #[.agg #[.int .i64 p, .int .i64 a, .int .i64 (256 * b + c - 65536), .int .i64 0], .int .i64 0]) (by simp [results, Try.results65, go_sem, hc3]) rfl ⟨rfl, (by repeat first | (with_reducible exact Below.refl _ _) | (with_reducible apply Ext.alloc) | (with_reducible apply Ext.drew) | (with_reducible apply Ext.drewN) | (with_reducible refine Ext.set ?_ (by simp)) | (with_reducible refine Ext.then ?_ hb3))⟩
  · have hq := HX.out (256 * b + c) (by unfold i16; rw [if_neg (by omega)])
    have HQ := Lib.hid hq
    clear hq
    have hbig' : 256 * b + c < 32768 := by omega
    clear hbig
    go_enter Try.func65, Try.ntmps65
    go_wp2
    go_region
    go_wp2_with (first
      | (go_at_call 77; refine (rkinds_any _ _).mono ?_; rw [HK.out]; rintro e w' ⟨rfl, rfl⟩)
      | (go_at_call 78; refine (rright_any _ _ _ _ _).mono ?_; rintro e w3 ⟨rfl, hb3⟩; obtain ⟨hc3, hf3, hz3⟩ := bcellN hb3 (w.heap.size + 2) (by simp)))
    · rw [get_no HQ.out (bnot_t (by assumption))]
      refine bodyPost_ret (v := .tuple #[.agg #[.int .i64 0, .int .i64 0, .int .i64 0, .int .i64 0], .int .i64 151]) (by simp [results, Try.results65, go_sem, hc3]) rfl ⟨rfl, (by repeat first | (with_reducible exact Below.refl _ _) | (with_reducible apply Ext.alloc) | (with_reducible apply Ext.drew) | (with_reducible apply Ext.drewN) | (with_reducible refine Ext.set ?_ (by simp)) | (with_reducible refine Ext.then ?_ hb3))⟩
    · rw [get_ok HQ.out (bnot_f (by assumption))]
      refine bodyPost_ret (v := .tuple #[.agg #[.int .i64 p, .int .i64 a, .int .i64 (256 * b + c), .int .i64 0], .int .i64 0]) (by simp [results, Try.results65, go_sem, hc3]) rfl ⟨rfl, (by repeat first | (with_reducible exact Below.refl _ _) | (with_reducible apply Ext.alloc) | (with_reducible apply Ext.drew) | (with_reducible apply Ext.drewN) | (with_reducible refine Ext.set ?_ (by simp)) | (with_reducible refine Ext.then ?_ hb3))⟩

theorem rget_four : Calls Try.prog 65 #[.slice (some ⟨g, o, none⟩) 4 k] w (Gave w (getI [p, a, b, c])) := by
  by_cases hop : 0 ≤ p ∧ p ≤ 29
  · cases hw : wideB p
    · exact rget_thin g o k p a b c w h0 h1 h2 h3 hg p0 p1 a0 a1 b0 b1 c0 c1 hop hw
    · exact rget_wide g o k p a b c w h0 h1 h2 h3 hg p0 p1 a0 a1 b0 b1 c0 c1 hop hw
  · rw [get_out hop]
    exact rget_out g o k p a b c w h0 h1 h2 h3 hg p0 p1 a0 a1 b0 b1 c0 c1 hop
end

theorem rget_any (A : Option Addr) (c : Nat) (l : List Int) (w : World) (h : Arr w A (bs l)) (hl : ∀ x ∈ l, 0 ≤ x ∧ x < 256) : Calls Try.prog 65 #[.slice A l.length c] w (Gave w (getI l)) := by
  match l, h, hl with
  | [p, a, b, d], h, hl =>
    obtain ⟨g, o, rfl, hg, hc⟩ := h.open (by simp [bs])
    have e0 := hc 0 (by simp [bs])
    have e1 := hc 1 (by simp [bs])
    have e2 := hc 2 (by simp [bs])
    have e3 := hc 3 (by simp [bs])
    simp [bs] at e0 e1 e2 e3
    simp at hl
    exact rget_four g o c p a b d w e0 e1 e2 e3 hg hl.1.1 hl.1.2 hl.2.1.1 hl.2.1.2 hl.2.2.1.1 hl.2.2.1.2 hl.2.2.2.1 hl.2.2.2.2
  | [], _, _ => exact rget_bad A 0 c w (by simp)
  | [_], _, _ => exact rget_bad A 1 c w (by simp)
  | [_, _], _, _ => exact rget_bad A 2 c w (by simp)
  | [_, _, _], _, _ => exact rget_bad A 3 c w (by simp)
  | _ :: _ :: _ :: _ :: _ :: t, _, _ => exact rget_bad A (t.length + 5) c w (by omega)
end Go.Proofs.Ytgfnpcoigooblaa

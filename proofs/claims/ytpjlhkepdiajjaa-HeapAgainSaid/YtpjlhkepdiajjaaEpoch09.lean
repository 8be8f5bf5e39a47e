
/- Package epoch. -/
import Derived.Test.YtpjlhkepdiajjaaCapA
import Derived.Test.YtpjlhkepdiajjaaOnly
import Derived.Test.YtpjlhkepdiajjaaBits64
import Derived.Test.YtpjlhkepdiajjaaRngInv
set_option linter.all false
namespace Go.Proofs.Ytpjlhkepdiajjaa
open Go.RowKit Go.Shelf
attribute [local go_sem] seen dstOf boolOf

def ClockAt (W : World) (p : Nat) (t : Int) : Prop := W.heap[p]? = some (.cells #[.int .i64 t] 86)
def runsB (t : Int) : Bool := t % 2 == 1
def beginB (t : Int) : Bool := !runsB t && decide (t < 1099511627776)
def whenD (t : Int) : Int := (min (max t 0) 2199023255552 + 1) / 2 * 2 + 2
set_option maxRecDepth 20000 in
theorem runs_any (p : Nat) (t : Int) (w : World) (h : ClockAt w p t) (h0 : 0 ≤ t) (h1 : t ≤ 1099511627777) : Calls Try.prog 23 #[.pointer (some ⟨p, 0, none⟩)] w fun e w' => e = .returned (.bool (runsB t)) ∧ Ext w w' := by
  have x0 := cellAt h 0 (.int .i64 t) rfl
  have hb : bits .and .i64 t 1 = t % 2 := and_one t h0 (by omega)
  unfold runsB
  go_enter Try.func23, Try.ntmps23
  go_wp2_with fail
  go_ret
  exact ⟨rfl, (by repeat first | (with_reducible exact Below.refl _ _) | (with_reducible apply Ext.alloc) | (with_reducible apply Ext.drew) | (with_reducible apply Ext.drewN) | (with_reducible refine Ext.set ?_ (by simp)))⟩
theorem now_any (p : Nat) (t : Int) (w : World) (h : ClockAt w p t) : Calls Try.prog 26 #[.pointer (some ⟨p, 0, none⟩)] w fun e w' => e = .returned (.int .i64 t) ∧ Ext w w' := by
  have x0 := cellAt h 0 (.int .i64 t) rfl
  go_enter Try.func26, Try.ntmps26
  go_wp2_with fail
  go_ret
  exact ⟨rfl, (by repeat first | (with_reducible exact Below.refl _ _) | (with_reducible apply Ext.alloc) | (with_reducible apply Ext.drew) | (with_reducible apply Ext.drewN) | (with_reducible refine Ext.set ?_ (by simp)))⟩
theorem newC_any (w : World) : Calls Try.prog 30 #[] w fun e w' => e = .returned (.pointer (some ⟨w.heap.size, 0, none⟩)) ∧ w' = w.alloc (.cells #[.int .i64 0] 86) := by
  go_enter Try.func30, Try.ntmps30
  go_wp2_with fail
  go_ret
  exact ⟨rfl, rfl⟩
theorem rests_any (p : Nat) (t : Int) (w : World) (h : ClockAt w p t) (h0 : 0 ≤ t) (h1 : t ≤ 1099511627777) : Calls Try.prog 53 #[.pointer (some ⟨p, 0, none⟩)] w fun e w' => e = .returned (.bool (beginB t)) ∧ Ext w w' := by
  have HR := Lib.hid (runs_any p t w h h0 h1)
  have HH := Lib.hid h
  unfold beginB
  go_enter Try.func53, Try.ntmps53
  go_wp2_with fail
  refine HR.out.mono ?_
  rintro _ w1 ⟨rfl, hE⟩
  have x0 := cellAt ((hE.block _ (Array.getElem?_eq_some_iff.1 HH.out).1).trans HH.out) 0 (.int .i64 t) rfl
  cases hr : runsB t
  all_goals
    go_wp2_with fail
    go_ret
    exact ⟨by simp [hr], (by repeat first | (with_reducible exact Below.refl _ _) | (with_reducible apply Ext.alloc) | (with_reducible apply Ext.drew) | (with_reducible apply Ext.drewN) | (with_reducible refine Ext.set ?_ (by simp)) | (with_reducible refine Ext.then ?_ hE))⟩
/-- What a turn of the clock leaves. -/
def Ticks (p : Nat) (t : Int) (b : Bool) (w : World) (e : Ending) (w' : World) : Prop := e = .returned (.bool b) ∧ ClockAt w' p (if b then t + 1 else t) ∧ w.grownBy w' (some p)
theorem ext_gr {w w' : World} {r : Option Nat} (e : Ext w w') : w.grownBy w' r := ⟨e.os, e.tape, e.output, e.size, fun k hk _ => e.block k hk⟩
theorem set_gr {w : World} {b o : Nat} {v : Value} : w.grownBy (w.setCell ⟨b, o, none⟩ v) (some b) := by
  refine ⟨rfl, rfl, rfl, by simp, fun k hk hn => ?_⟩
  have : b ≠ k := fun e => hn (by rw [e])
  simp [World.setCell, Array.getElem?_modify, this]
set_option maxRecDepth 20000 in
theorem on_any (p : Nat) (t : Int) (b : Bool) (g : Nat) (w : World) (h : ClockAt w p t) (h0 : 0 ≤ t) (h1 : t ≤ 1099511627777) (eg : ∀ args w, (callFunc g args).run Try.prog w = .ok (.enter g args) w)
    (hg : ∀ W, ClockAt W p t → Calls Try.prog g #[.pointer (some ⟨p, 0, none⟩)] W fun e w' => e = .returned (.bool b) ∧ Ext W w') :
    Calls Try.prog 52 #[.pointer (some ⟨p, 0, none⟩), .func (.func g) #[.pointer (some ⟨p, 0, none⟩)] #[]] w (Ticks p t b w) := by
  have HG := Lib.hid (hg w h)
  have HH := Lib.hid h
  have hw : IntKind.i64.wrap (t + 1) = t + 1 := IntWalk.i64_in _ (by omega)
  clear hg
  go_enter Try.func52, Try.ntmps52
  go_wp2_with fail
  refine HG.out.mono ?_
  rintro _ w1 ⟨rfl, hE⟩
  have hc := (hE.block _ (Array.getElem?_eq_some_iff.1 HH.out).1).trans HH.out
  have x0 := cellAt hc 0 (.int .i64 t) rfl
  have fz := frozen_row' hc
  have HC := Lib.hid hc
  have HE := Lib.hid hE
  clear hc hE
  cases b with
  | true =>
    go_wp2_with fail
    go_ret
    exact ⟨rfl, set_row (o := 0) HC.out _, World.grownBy.trans (ext_gr HE.out) set_gr⟩
  | false =>
    go_wp2_with fail
    go_ret
    exact ⟨rfl, HC.out, ext_gr HE.out⟩
theorem begin_any (p : Nat) (t : Int) (w : World) (h : ClockAt w p t) (h0 : 0 ≤ t) (h1 : t ≤ 1099511627777) : Calls Try.prog 33 #[.pointer (some ⟨p, 0, none⟩)] w (Ticks p t (beginB t) w) := by
  have HO := Lib.hid (on_any p t (beginB t) 53 w h h0 h1 (enters_of Try.func53 (by kernel_rfl) rfl) (fun W hW => rests_any p t W hW h0 h1))
  go_enter Try.func33, Try.ntmps33
  go_wp2_with fail
  refine HO.out.mono ?_
  rintro _ w1 ⟨rfl, h2, h3⟩
  have H2 := Lib.hid (And.intro h2 h3)
  clear h2 h3
  go_wp2_with fail
  go_ret
  exact ⟨rfl, H2.out.1, H2.out.2⟩
theorem end_any (p : Nat) (t : Int) (w : World) (h : ClockAt w p t) (h0 : 0 ≤ t) (h1 : t ≤ 1099511627777) : Calls Try.prog 36 #[.pointer (some ⟨p, 0, none⟩)] w (Ticks p t (runsB t) w) := by
  have HO := Lib.hid (on_any p t (runsB t) 23 w h h0 h1 (enters_of Try.func23 (by kernel_rfl) rfl) (fun W hW => runs_any p t W hW h0 h1))
  go_enter Try.func36, Try.ntmps36
  go_wp2_with fail
  refine HO.out.mono ?_
  rintro _ w1 ⟨rfl, h2, h3⟩
  have H2 := Lib.hid (And.intro h2 h3)
  clear h2 h3
  go_wp2_with fail
  go_ret
  exact ⟨rfl, H2.out.1, H2.out.2⟩
theorem andNot_one (n : Int) (h1 : 0 ≤ n) (h2 : n < 9223372036854775808) : bits .andNot .i64 n 1 = n / 2 * 2 := by
  obtain ⟨A, rfl⟩ := Int.eq_ofNat_of_zero_le h1
  show IntKind.i64.wrap ((BitVec.ofInt 64 (A : Int) &&& ~~~ BitVec.ofInt 64 1).toNat : Int) = _
  have h0 : (~~~ BitVec.ofInt 64 1).toNat = 2 * (2 ^ 63 - 1) := by decide
  have hx : A &&& 2 * (2 ^ 63 - 1) = A / 2 * 2 := by
    apply Nat.eq_of_testBit_eq
    intro i
    rw [Nat.testBit_and]
    cases i with
    | zero => simp
    | succ i =>
      rw [Nat.testBit_succ, Nat.testBit_succ, Nat.testBit_succ, Nat.mul_div_cancel_left _ (by decide : 0 < 2), Nat.mul_div_cancel _ (by decide : 0 < 2), Nat.testBit_two_pow_sub_one]
      by_cases hi : i < 63
      · simp [hi]
      · have hA : A / 2 < 2 ^ i := Nat.lt_of_lt_of_le (show A / 2 < 2 ^ 63 by omega) (Nat.pow_le_pow_right (by decide) (by omega))
        rw [Nat.testBit_lt_two_pow hA]
        simp
  rw [BitVec.toNat_and, ofInt_i64 A (by omega), h0, hx, wrap_i64 _ (by omega)]
  omega
set_option maxRecDepth 20000 in
theorem when_any (t : Int) (w : World) (ht : i64ok' t) : Calls Try.prog 67 #[.int .i64 t] w fun e w' => e = .returned (.int .i64 (whenD t)) ∧ Ext w w' := by
  by_cases h0 : t < 0
  · have hd : whenD t = 2 := by unfold whenD; omega
    have hb : bits .andNot .i64 1 1 = 0 := andNot_one _ (by omega) (by omega)
    rw [hd]
    go_enter Try.func67, Try.ntmps67
    go_wp2_with fail
    go_ret
    exact ⟨rfl, (by repeat first | (with_reducible exact Below.refl _ _) | (with_reducible apply Ext.alloc) | (with_reducible apply Ext.drew) | (with_reducible apply Ext.drewN) | (with_reducible refine Ext.set ?_ (by simp)))⟩
  · by_cases h1 : 2199023255552 < t
    · have hd : whenD t = 2199023255554 := by unfold whenD; omega
      have hb : bits .andNot .i64 2199023255553 1 = 2199023255552 := andNot_one _ (by omega) (by omega)
      rw [hd]
      go_enter Try.func67, Try.ntmps67
      go_wp2_with fail
      go_ret
      exact ⟨rfl, (by repeat first | (with_reducible exact Below.refl _ _) | (with_reducible apply Ext.alloc) | (with_reducible apply Ext.drew) | (with_reducible apply Ext.drewN) | (with_reducible refine Ext.set ?_ (by simp)))⟩
    · have hd : whenD t = (t + 1) / 2 * 2 + 2 := by unfold whenD; omega
      have hw : IntKind.i64.wrap (t + 1) = t + 1 := IntWalk.i64_in _ (by omega)
      have hb : bits .andNot .i64 (t + 1) 1 = (t + 1) / 2 * 2 := andNot_one _ (by omega) (by omega)
      have hw2 : IntKind.i64.wrap ((t + 1) / 2 * 2 + 2) = (t + 1) / 2 * 2 + 2 := IntWalk.i64_in _ (by omega)
      rw [hd]
      clear hd
      go_enter Try.func67, Try.ntmps67
      go_wp2_with fail
      go_ret
      exact ⟨rfl, (by repeat first | (with_reducible exact Below.refl _ _) | (with_reducible apply Ext.alloc) | (with_reducible apply Ext.drew) | (with_reducible apply Ext.drewN) | (with_reducible refine Ext.set ?_ (by simp)))⟩
end Go.Proofs.Ytpjlhkepdiajjaa


/- Package code: its bytes. -/
import Derived.Test.YtgfnpcoigooblaaCodeA
import Derived.StillTailTactics
import Derived.Deep.QuietTactic
import Derived.BigQuiet
import Derived.BigRegion
set_option linter.all false
namespace Go.Proofs.Ytgfnpcoigooblaa
open Go.RowKit

def wideB (op : Int) : Bool := kch op 1 == 119
set_option maxHeartbeats 1000000 in
theorem wide_any (op : Int) (w : World) :
    Calls Try.prog 83 #[.int .i64 op] w fun e w' => e = .returned (.bool (wideB op)) ∧ Ext w w' := by
  by_cases hop : 0 ≤ op ∧ op ≤ 29
  · obtain ⟨o0, o1⟩ := hop
    obtain ⟨c0, c1, c2, hk, h0, h1, h2, k0, k1, k2⟩ := kinds_form op o0 o1
    have hr : wideB op = (((c1.toNat : Nat) : Int) == 119) := by unfold wideB; rw [k1]
    have HR := Lib.hid hr
    have HK := Lib.hid hk
    have hne : (str3 c0 c1 c2).toList.isEmpty = false := by simp [ByteArray.toList, ByteArray.toList.loop, str3_size]
    have hsz := str3_size c0 c1 c2
    clear hr hk k0 k1 k2
    go_enter Try.func83, Try.ntmps83
    go_wp2_with (go_at_call 86; refine (kinds_any _ _).mono ?_; rw [HK.out]; rintro e w' ⟨rfl, hb⟩)
    go_ret
    exact ⟨ret_bool (by rw [HR.out]; rfl), hb⟩
  · have hk := kinds_out op (by omega)
    have hr : wideB op = false := by
      unfold wideB kch; rw [hk]; rfl
    have HR := Lib.hid hr
    have HK := Lib.hid hk
    clear hr hk
    go_enter Try.func83, Try.ntmps83
    go_wp2_with (go_at_call 86; refine (kinds_any _ _).mono ?_; rw [HK.out]; rintro e w' ⟨rfl, hb⟩)
    go_ret
    exact ⟨ret_bool (by rw [HR.out]), hb⟩

/-- Bytes, as they stand in cells. -/
def bs (xs : List Int) : List Value := xs.map fun x => .int .u8 x
theorem bs_length (xs : List Int) : (bs xs).length = xs.length := by simp [bs]
/-- An instruction's four bytes. -/
def putL (op a b c : Int) : List Int := if rightB op a b c then (if wideB op then [op % 256, a % 256, b / 256 % 256, b % 256] else [op % 256, a % 256, b % 256, c % 256]) else []
/-- An instruction. -/
structure Ins where
  op : Int
  a : Int
  b : Int
  c : Int
  deriving DecidableEq
abbrev Ins.cells (x : Ins) : List Value := [.int .i64 x.op, .int .i64 x.a, .int .i64 x.b, .int .i64 x.c]
def Ins.zero : Ins := ⟨0, 0, 0, 0⟩
def rightI (x : Ins) : Bool := rightB x.op x.a x.b x.c
def putI (x : Ins) : List Int := putL x.op x.a x.b x.c
def i16 (n : Int) : Int := if n ≥ 32768 then n - 65536 else n
/-- The instruction of bytes, and what is wrong. -/
def getI (l : List Int) : Ins × Int :=
  match l with
  | [p, a, b, c] =>
    let x : Ins := if wideB p then ⟨p, a, i16 (256 * b + c), 0⟩ else ⟨p, a, b, c⟩
    if rightI x then (x, 0) else (.zero, 151)
  | _ => (.zero, 1)

def Gave (w : World) (r : Ins × Int) (x : Ending) (w' : World) : Prop :=
  x = .returned (.tuple #[.agg #[.int .i64 r.1.op, .int .i64 r.1.a, .int .i64 r.1.b, .int .i64 r.1.c], .int .i64 r.2]) ∧ Ext w w'
set_option maxHeartbeats 1000000 in
theorem get_bad (A : Option Addr) (n c : Nat) (w : World) (hn : n ≠ 4) : Calls Try.prog 75 #[.slice A n c] w (Gave w (.zero, 1)) := by
  have h4 : ((n : Int) != 4) = true := by rw [bne_iff_ne]; omega
  go_enter Try.func75, Try.ntmps75
  go_wp2
  refine bodyPost_ret (v := .tuple #[.agg #[.int .i64 0, .int .i64 0, .int .i64 0, .int .i64 0], .int .i64 1]) (by simp [results, Try.results75, go_sem]) rfl ⟨rfl, Ext.alloc (Below.refl _ w) _⟩

theorem or256 (b c : Int) (b0 : 0 ≤ b) (b1 : b < 256) (c0 : 0 ≤ c) (c1 : c < 256) : bits .or .u16 (b * 256) c = 256 * b + c := by
  rw [u16_or _ _ (by omega) (by omega) (by omega) (by omega)]
  have h := Nat.shiftLeft_add_eq_or_of_lt (b := c.toNat) (i := 8) (by omega) b.toNat
  rw [Nat.shiftLeft_eq] at h
  rw [show (b * 256).toNat = b.toNat * 2 ^ 8 by omega, ← h]
  omega
theorem w16 (b c : Int) (b0 : 0 ≤ b) (b1 : b < 256) (c0 : 0 ≤ c) (c1 : c < 256) : wrap64 (IntKind.i16.wrap (256 * b + c)) = i16 (256 * b + c) := by
  unfold IntKind.wrap wrap64 i16
  simp [IntKind.bits, IntKind.signed]
  split <;> omega

theorem get_ok {p a b c : Int} {x : Ins} (hx : (if wideB p then (⟨p, a, i16 (256 * b + c), 0⟩ : Ins) else ⟨p, a, b, c⟩) = x) (hr : rightI x = true) : getI [p, a, b, c] = (x, 0) := by
  simp only [getI, hx, hr, if_true]
theorem get_no {p a b c : Int} {x : Ins} (hx : (if wideB p then (⟨p, a, i16 (256 * b + c), 0⟩ : Ins) else ⟨p, a, b, c⟩) = x) (hr : rightI x = false) : getI [p, a, b, c] = (.zero, 151) := by
  simp only [getI, hx, hr]; rfl

set_option maxHeartbeats 1000000 in
theorem get_four (g o : Nat) (k : Nat) (p a b c : Int) (w : World) (h0 : w.cell? ⟨g, o, none⟩ = some (.int .u8 p)) (h1 : w.cell? ⟨g, o + 1, none⟩ = some (.int .u8 a)) (h2 : w.cell? ⟨g, o + 2, none⟩ = some (.int .u8 b)) (h3 : w.cell? ⟨g, o + 3, none⟩ = some (.int .u8 c))
    (hg : g < w.heap.size) (p0 : 0 ≤ p) (p1 : p < 256) (a0 : 0 ≤ a) (a1 : a < 256) (b0 : 0 ≤ b) (b1 : b < 256) (c0 : 0 ≤ c) (c1 : c < 256) : Calls Try.prog 75 #[.slice (some ⟨g, o, none⟩) 4 k] w (Gave w (getI [p, a, b, c])) := by
  have hgn := lt_more hg
  have hor := or256 b c b0 b1 c0 c1
  have hw16 := w16 b c b0 b1 c0 c1
  go_enter Try.func75, Try.ntmps75
  go_wp2
  go_region
  go_wp2_with (go_at_call 83; refine (wide_any _ _).mono ?_; rintro e w2 ⟨rfl, hb2⟩; obtain ⟨hc2, hf2, hz2⟩ := bcellN hb2 (w.heap.size + 2) (by simpa using Nat.le_refl _))
  · have hw : wideB p = true := by assumption
    go_region
    have hx : (if wideB p then (⟨p, a, i16 (256 * b + c), 0⟩ : Ins) else ⟨p, a, b, c⟩) = ⟨p, a, i16 (256 * b + c), 0⟩ := by rw [hw]; rfl
    have HX := Lib.hid hx
    clear hx hor hw16
    go_wp2_with (go_at_call 84; refine (right_any _ _ _ _ _).mono ?_; rintro e w3 ⟨rfl, hb3⟩; obtain ⟨hc3, hf3, hz3⟩ := bcellN hb3 (w.heap.size + 2) (by simpa using hz2))
    · rw [get_no HX.out (bnot_t (by assumption))]
      refine bodyPost_ret (v := .tuple #[.agg #[.int .i64 0, .int .i64 0, .int .i64 0, .int .i64 0], .int .i64 151]) (by simp [results, Try.results75, go_sem, hc3, hc2]) rfl ⟨rfl, (by repeat first | (with_reducible exact Below.refl _ _) | (with_reducible apply Ext.alloc) | (with_reducible apply Ext.drew) | (with_reducible apply Ext.drewN) | (with_reducible refine Ext.set ?_ (by simp)) | (with_reducible refine Ext.then ?_ hb2) | (with_reducible refine Ext.then ?_ hb3))⟩
    · rw [get_ok HX.out (bnot_f (by assumption))]
      refine bodyPost_ret (v := .tuple #[.agg #[.int .i64 p, .int .i64 a, .int .i64 (i16 (256 * b + c)), .int .i64 0], .int .i64 0]) (by simp [results, Try.results75, go_sem, hc3, hc2]) rfl ⟨rfl, (by repeat first | (with_reducible exact Below.refl _ _) | (with_reducible apply Ext.alloc) | (with_reducible apply Ext.drew) | (with_reducible apply Ext.drewN) | (with_reducible refine Ext.set ?_ (by simp)) | (with_reducible refine Ext.then ?_ hb2) | (with_reducible refine Ext.then ?_ hb3))⟩
  · have hw : wideB p = false := by assumption
    have hx : (if wideB p then (⟨p, a, i16 (256 * b + c), 0⟩ : Ins) else ⟨p, a, b, c⟩) = ⟨p, a, b, c⟩ := by rw [hw]; rfl
    have HX := Lib.hid hx
    clear hx hor hw16
    go_wp2_with (go_at_call 84; refine (right_any _ _ _ _ _).mono ?_; rintro e w3 ⟨rfl, hb3⟩; obtain ⟨hc3, hf3, hz3⟩ := bcellN hb3 (w.heap.size + 2) (by simpa using hz2))
    · rw [get_no HX.out (bnot_t (by assumption))]
      refine bodyPost_ret (v := .tuple #[.agg #[.int .i64 0, .int .i64 0, .int .i64 0, .int .i64 0], .int .i64 151]) (by simp [results, Try.results75, go_sem, hc3, hc2]) rfl ⟨rfl, (by repeat first | (with_reducible exact Below.refl _ _) | (with_reducible apply Ext.alloc) | (with_reducible apply Ext.drew) | (with_reducible apply Ext.drewN) | (with_reducible refine Ext.set ?_ (by simp)) | (with_reducible refine Ext.then ?_ hb2) | (with_reducible refine Ext.then ?_ hb3))⟩
    · rw [get_ok HX.out (bnot_f (by assumption))]
      refine bodyPost_ret (v := .tuple #[.agg #[.int .i64 p, .int .i64 a, .int .i64 b, .int .i64 c], .int .i64 0]) (by simp [results, Try.results75, go_sem, hc3, hc2]) rfl ⟨rfl, (by repeat first | (with_reducible exact Below.refl _ _) | (with_reducible apply Ext.alloc) | (with_reducible apply Ext.drew) | (with_reducible apply Ext.drewN) | (with_reducible refine Ext.set ?_ (by simp)) | (with_reducible refine Ext.then ?_ hb2) | (with_reducible refine Ext.then ?_ hb3))⟩
end Go.Proofs.Ytgfnpcoigooblaa

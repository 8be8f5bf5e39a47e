
/- Package image: the reader. -/
import Derived.Test.YtgfnpcoigooblaaOnly
import Derived.Test.YtgfnpcoigooblaaPutA
import Derived.Test.YtgfnpcoigooblaaBits64
import Derived.Deep.QuietTactic
import Derived.BigQuiet
set_option linter.all false
namespace Go.Proofs.Ytgfnpcoigooblaa
open Go.RowKit
attribute [local go_sem] seen dstOf boolOf

def Low (A : Option Addr) (l : List Int) (p : Nat) : Prop := l = [] ∨ ∀ a, A = some a → a.block < p
theorem Low.take {A : Option Addr} {l : List Int} {p : Nat} (h : Low A l p) (n : Nat) : Low A (l.take n) p := h.elim (fun h => .inl (by simp [h])) .inr
theorem Low.map {A : Option Addr} {l : List Int} {p : Nat} (h : Low A l p) (n : Nat) : Low (A.map fun x => x.add n) (l.drop n) p := h.elim (fun h => .inl (by simp [h])) fun h => .inr fun a ha => by
  obtain ⟨x, rfl, rfl⟩ := Option.map_eq_some_iff.1 ha
  rw [add_block]
  exact h x rfl
/-- Bytes that are left to be read, at p. -/
def RdAt (W : World) (p : Nat) (l : List Int) (bad : Bool) : Prop := ∃ A c, W.heap[p]? = some (.cells #[.slice A l.length c, .bool bad] 62) ∧ Arr W A (bs l) ∧ l.length ≤ c ∧ c ≤ maxLen ∧ Low A l p
theorem only_low {p : Nat} {T : List TypeId} {w w' : World} {A : Option Addr} {l : List Int} (h : Only p T w w') (hA : Arr w A (bs l)) (hp : Low A l p) : Arr w' A (bs l) := by
  rcases hA with hA | ⟨b', o, rfl, hc⟩
  · exact .inl hA
  · rcases hp with rfl | hp
    · exact .inl rfl
    · exact .inr ⟨b', o, rfl, fun j hj => h.cell (hc j hj) (hp _ rfl)⟩
/-- Bytes that were read. -/
def Got (p : Nat) (l : List Int) : Pr := fun v W => ∃ A c, v = .slice A l.length c ∧ Arr W A (bs l) ∧ l.length ≤ c ∧ c ≤ maxLen ∧ (Low A l p ∨ ∃ g o C f, A = some ⟨g, o, none⟩ ∧ W.heap[g]? = some (.cells C 5 f))
theorem Got.only {p : Nat} {l : List Int} {T : List TypeId} {v : Value} {W W' : World} (h : Got p l v W) (hO : Only p T W W') (hT : 5 ∉ T) : Got p l v W' := by
  obtain ⟨A, c, rfl, hA, h1, h2, h3 | ⟨g, o, C, f, rfl, hg⟩⟩ := h
  · exact ⟨A, c, rfl, only_low hO hA h3, h1, h2, .inl h3⟩
  · exact ⟨_, c, rfl, hO.typedArr hg hT hA, h1, h2, .inr ⟨g, o, C, f, rfl, hO.row hg hT⟩⟩
abbrev StR := List Int × Bool
def someS (n : Nat) (s : StR) : List Int × StR := if n ≤ s.1.length then (s.1.take n, s.1.drop n, s.2) else (List.replicate n 0, s.1, true)
theorem someS_len (n : Nat) (s : StR) : (someS n s).1.length = n := by
  unfold someS
  split
  · simp; omega
  · simp
theorem arr_take {w : World} {A : Option Addr} {l : List Int} (h : Arr w A (bs l)) (n : Nat) : Arr w A (bs (l.take n)) := by
  rcases h with h | ⟨b, o, rfl, hc⟩
  · left; simp [bs] at h ⊢; simp [h]
  · refine .inr ⟨b, o, rfl, fun j hj => ?_⟩
    simp [bs] at hj
    rw [hc j (by simp [bs]; omega)]
    simp [bs]
theorem arr_drop {w : World} {b o : Nat} {l : List Int} (h : Arr w (some ⟨b, o, none⟩) (bs l)) (n : Nat) : Arr w (some ⟨b, o + n, none⟩) (bs (l.drop n)) := by
  rcases h with h | ⟨b', o', he, hc⟩
  · left; simp [bs] at h ⊢; simp [h]
  · cases he
    refine .inr ⟨_, _, rfl, fun j hj => ?_⟩
    simp [bs] at hj
    rw [Nat.add_assoc, hc (n + j) (by simp [bs]; omega)]
    simp [bs]
theorem arr_map {w : World} {A : Option Addr} {l : List Int} (h : Arr w A (bs l)) (n : Nat) : Arr w (A.map fun x => x.add n) (bs (l.drop n)) := by
  rcases h with h | ⟨b, o, rfl, hc⟩
  · left; simp [bs] at h ⊢; simp [h]
  · have := arr_drop (.inr ⟨b, o, rfl, hc⟩) n
    rw [Option.map_some, add_none]
    exact this
theorem RdAt.ext {W W' : World} {p : Nat} {l : List Int} {bad : Bool} (h : RdAt W p l bad) (e : Ext W W') : RdAt W' p l bad := by
  obtain ⟨A, c, h1, h2, h3⟩ := h
  exact ⟨A, c, (e.block p (Array.getElem?_eq_some_iff.1 h1).1).trans h1, h2.ext e, h3⟩
set_option maxHeartbeats 1000000 in
set_option maxRecDepth 100000 in
theorem some_no (p : Nat) (l : List Int) (bad : Bool) (n : Nat) (w : World) (h : RdAt w p l bad) (hn : l.length < n) (hm : n ≤ 65535) :
    Calls Try.prog 30 #[.pointer (some ⟨p, 0, none⟩), .int .i64 n] w fun e w' => ∃ v, e = .returned v ∧ Only p [62] w w' ∧ RdAt w' p l true ∧ Got p (List.replicate n 0) v w' := by
  obtain ⟨A, c, hp, hA, hc1, hc2, hpb⟩ := h
  have z0 : w.cell? ⟨p, 0, none⟩ = some (.slice A l.length c) := by simp [World.cell?, hp]
  have z1 : w.cell? ⟨p, 1, none⟩ = some (.bool bad) := by simp [World.cell?, hp]
  have hlt := (Array.getElem?_eq_some_iff.1 hp).1
  have hd : decide ((n : Int) > l.length) = true := decide_eq_true (by omega)
  have hfz : w.frozen? ⟨p, 1, none⟩ = false := by simp [World.frozen?, hp]
  obtain ⟨i0, hi, hz0, hz1, hz2⟩ := info_parts infoByte
  have HP := Lib.hid (And.intro hp hA)
  clear hp hA
  go_enter Try.func30, Try.ntmps30
  go_wp2_with (first
    | (at_make; refine wpList_make_full _ rfl (.tmp 16) (.tmp 16) 27 rfl p 5 i0 (.int .u8 0) 1 Try.underlying27 hi hz0 hz1 .i64 .i64 n n n rfl rfl rfl rfl (by rw [hz2]; omega) (by unfold maxLen; omega) (by simp; omega) ?_; intro w4 ho4 hg4))
  go_ret
  have h1 : Only p [62] w (w.setCell ⟨p, 1, none⟩ (.bool true)) := Only.set HP.out.1 (Nat.le_refl _) (by simp) _
  have h2 : Only p [62] w w4 := h1.then ⟨hg4.os, hg4.tape, hg4.output, hg4.size, fun k hk => hg4.block k hk (by simp)⟩
  refine ⟨_, rfl, h2, ⟨A, c, ?_, only_low h2 HP.out.2 hpb, hc1, hc2, hpb⟩, ?_⟩
  · rw [hg4.block p (by simpa using hlt) (by simp)]
    simp [World.setCell, HP.out.1, Array.getElem?_modify]
  · obtain ⟨A4, c4, he, hc4, ha4⟩ := Arr.own ho4
    have hz : (madeCells (Value.int .u8 0).cells (n * 1)).toList = bs (List.replicate n 0) := by
      simp [madeCells, bs, Value.cells, Nat.mod_one]
      exact List.eq_replicate_iff.2 ⟨by simp, by simp⟩
    rw [hz] at ha4
    simp only [Value.slice.injEq] at he
    have hln : (List.replicate n (0 : Int)).length = n := List.length_replicate
    suffices hs : Arr w4 (some ⟨w.heap.size, 0, none⟩) (bs (List.replicate n 0)) ∧ _ from ⟨some ⟨w.heap.size, 0, none⟩, n, by rw [hln]; simp, hs.1, Nat.le_of_eq hln, by unfold maxLen; omega, hs.2⟩
    have e0 := he.1
    simp at e0
    rw [← e0] at ha4
    obtain ⟨-, ⟨h0, -⟩ | ⟨g, cap, cur, h0, -, hg, -⟩⟩ := ho4
    · cases h0
    · cases h0
      exact ⟨ha4, .inr ⟨_, _, _, _, rfl, by simpa using hg⟩⟩
set_option maxHeartbeats 1000000 in
set_option maxRecDepth 100000 in
theorem some_yes (p : Nat) (l : List Int) (bad : Bool) (n : Nat) (w : World) (h : RdAt w p l bad) (hn : n ≤ l.length) (hm : n ≤ 65535) :
    Calls Try.prog 30 #[.pointer (some ⟨p, 0, none⟩), .int .i64 n] w fun e w' => ∃ v, e = .returned v ∧ Only p [62] w w' ∧ RdAt w' p (l.drop n) bad ∧ Got p (l.take n) v w' := by
  obtain ⟨A, c, hp, hA, hc1, hc2, hpb⟩ := h
  have z0 : w.cell? ⟨p, 0, none⟩ = some (.slice A l.length c) := by simp [World.cell?, hp]
  have z1 : w.cell? ⟨p, 1, none⟩ = some (.bool bad) := by simp [World.cell?, hp]
  have hlt := (Array.getElem?_eq_some_iff.1 hp).1
  have hd : decide ((n : Int) > l.length) = false := decide_eq_false (by omega)
  have hfz : w.frozen? ⟨p, 0, none⟩ = false := by simp [World.frozen?, hp]
  have HP := Lib.hid (And.intro hp hA)
  unfold maxLen at hc2
  clear hp hA
  have hd2 : decide ((n : Int) < 0) = false := decide_eq_false (by omega)
  have h1 := fun v : Value => Only.set (T := [62]) (o := 0) HP.out.1 (Nat.le_refl p) (by simp) v
  have g1 := arr_take HP.out.2 n
  have hw : ∀ v : Value, (w.setCell ⟨p, 0, none⟩ v).heap[p]? = some (.cells #[v, .bool bad] 62) := fun v => by simp [World.setCell, HP.out.1, Array.getElem?_modify]
  have HS := Lib.hid (And.intro h1 (And.intro g1 hw))
  clear h1 g1 hw
  by_cases hcap : n = c
  · obtain rfl : n = l.length := by omega
    obtain rfl := hcap
    go_enter Try.func30, Try.ntmps30
    go_wp2_with fail
    go_ret
    refine ⟨.slice A l.length l.length, rfl, HS.out.1 _, ⟨A, 0, ?_, .inl (by simp [bs]), by simp, Nat.zero_le _, .inl (by simp)⟩, ⟨A, l.length, by simp, only_low (HS.out.1 _) HS.out.2.1 (hpb.take _), by simp, hc2, .inl (hpb.take _)⟩⟩
    rw [HS.out.2.2]
    simp
  · go_enter Try.func30, Try.ntmps30
    go_wp2_with fail
    go_ret
    refine ⟨.slice A n c, rfl, HS.out.1 _, ⟨A.map fun x => x.add n, c - n, ?_, only_low (HS.out.1 _) (arr_map HP.out.2 n) (hpb.map n), ?_, Nat.le_trans (Nat.sub_le _ _) hc2, hpb.map n⟩, ⟨A, c, ?_, only_low (HS.out.1 _) HS.out.2.1 (hpb.take n), ?_, hc2, .inl (hpb.take n)⟩⟩
    · rw [HS.out.2.2]
      simp
    · simp; omega
    · simp; omega
    · simp; omega
theorem some_any (p : Nat) (l : List Int) (bad : Bool) (n : Nat) (w : World) (h : RdAt w p l bad) (hm : n ≤ 65535) :
    Calls Try.prog 30 #[.pointer (some ⟨p, 0, none⟩), .int .i64 n] w fun e w' => ∃ v, e = .returned v ∧ Only p [62] w w' ∧ RdAt w' p (someS n (l, bad)).2.1 (someS n (l, bad)).2.2 ∧ Got p (someS n (l, bad)).1 v w' := by
  unfold someS
  by_cases hn : n ≤ l.length
  · rw [if_pos hn]
    exact some_yes p l bad n w h hn hm
  · rw [if_neg hn]
    exact some_no p l bad n w h (by omega) hm
theorem two_of {l : List Int} (h : l.length = 2) : ∃ x y, l = [x, y] := by
  rcases l with _ | ⟨x, _ | ⟨y, _ | ⟨z, t⟩⟩⟩ <;> simp at h
  exact ⟨x, y, rfl⟩
def oneS (s : StR) : Int × StR := ((someS 1 s).1.headD 0, (someS 1 s).2)
def twoS (s : StR) : Int × StR := ((someS 2 s).1.headD 0 * 256 + (someS 2 s).1.getD 1 0, (someS 2 s).2)
def BytesIn (l : List Int) : Prop := ∀ x ∈ l, 0 ≤ x ∧ x < 256
theorem someS_in {n : Nat} {s : StR} (h : BytesIn s.1) : BytesIn (someS n s).1 ∧ BytesIn (someS n s).2.1 := by
  unfold someS
  split
  · exact ⟨fun x hx => h x (List.mem_of_mem_take hx), fun x hx => h x (List.mem_of_mem_drop hx)⟩
  · refine ⟨fun x hx => ?_, h⟩
    rw [List.mem_replicate] at hx
    omega
set_option maxHeartbeats 1000000 in
set_option maxRecDepth 100000 in
theorem one_any (p : Nat) (l : List Int) (bad : Bool) (w : World) (h : RdAt w p l bad) (hb : BytesIn l) :
    Calls Try.prog 31 #[.agg #[.pointer (some ⟨p, 0, none⟩)]] w fun e w' => e = .returned (.int .i64 (oneS (l, bad)).1) ∧ Only p [62] w w' ∧ RdAt w' p (oneS (l, bad)).2.1 (oneS (l, bad)).2.2 := by
  have hp : p < w.heap.size := (Array.getElem?_eq_some_iff.1 h.choose_spec.choose_spec.1).1
  have HC := Lib.hid (some_any p l bad 1 (w.alloc (.cells #[.pointer (some ⟨p, 0, none⟩)] 64)) (RdAt.ext h (by repeat first | (with_reducible exact Below.refl _ _) | (with_reducible apply Ext.alloc) | (with_reducible apply Ext.drew) | (with_reducible apply Ext.drewN) | (with_reducible refine Ext.set ?_ (by simp)))) (by omega))
  have hlen := someS_len 1 (l, bad)
  have hin := (someS_in (n := 1) (s := (l, bad)) hb).1
  unfold oneS
  generalize someS 1 (l, bad) = r at HC hlen hin ⊢
  obtain ⟨g, l', bad'⟩ := r
  obtain ⟨x, rfl⟩ := List.length_eq_one_iff.1 hlen
  have hx := hin x (by simp)
  clear hlen hin h hb
  go_enter Try.func31, Try.ntmps31
  go_wp2_with fail
  refine HC.out.mono ?_
  rintro e w2 ⟨v, rfl, hO, hR, A, c, rfl, hA, -⟩
  obtain ⟨b1, o1, rfl, hb1, q1⟩ := hA.open (by simp [bs])
  have x0 : w2.cell? ⟨b1, o1, none⟩ = some (.int .u8 x) := q1 0 (by simp [bs])
  clear q1 hA
  go_wp2_with fail
  go_ret
  exact ⟨by first | rfl | simp, (Only.ext (by repeat first | (with_reducible exact Below.refl _ _) | (with_reducible apply Ext.alloc) | (with_reducible apply Ext.drew) | (with_reducible apply Ext.drewN) | (with_reducible refine Ext.set ?_ (by simp)))).trans hO, hR⟩
set_option maxHeartbeats 1000000 in
set_option maxRecDepth 100000 in
theorem twoR_any (p : Nat) (l : List Int) (bad : Bool) (w : World) (h : RdAt w p l bad) (hb : BytesIn l) :
    Calls Try.prog 32 #[.agg #[.pointer (some ⟨p, 0, none⟩)]] w fun e w' => e = .returned (.int .i64 (twoS (l, bad)).1) ∧ Only p [62] w w' ∧ RdAt w' p (twoS (l, bad)).2.1 (twoS (l, bad)).2.2 := by
  have hp : p < w.heap.size := (Array.getElem?_eq_some_iff.1 h.choose_spec.choose_spec.1).1
  have HC := Lib.hid (some_any p l bad 2 (w.alloc (.cells #[.pointer (some ⟨p, 0, none⟩)] 64)) (RdAt.ext h (by repeat first | (with_reducible exact Below.refl _ _) | (with_reducible apply Ext.alloc) | (with_reducible apply Ext.drew) | (with_reducible apply Ext.drewN) | (with_reducible refine Ext.set ?_ (by simp)))) (by omega))
  have hlen := someS_len 2 (l, bad)
  have hin := (someS_in (n := 2) (s := (l, bad)) hb).1
  unfold twoS
  generalize someS 2 (l, bad) = r at HC hlen hin ⊢
  obtain ⟨g, l', bad'⟩ := r
  obtain ⟨x, y, rfl⟩ := two_of hlen
  have hx := hin x (by simp)
  have hy := hin y (by simp)
  clear hlen hin h hb
  go_enter Try.func32, Try.ntmps32
  go_wp2_with fail
  refine HC.out.mono ?_
  rintro e w2 ⟨v, rfl, hO, hR, A, c, rfl, hA, -⟩
  obtain ⟨b1, o1, rfl, hb1, q1⟩ := hA.open (by simp [bs])
  have x0 : w2.cell? ⟨b1, o1, none⟩ = some (.int .u8 x) := q1 0 (by simp [bs])
  have x1 : w2.cell? ⟨b1, o1 + 1, none⟩ = some (.int .u8 y) := q1 1 (by simp [bs])
  clear q1 hA
  go_wp2_with fail
  go_quiet (fail)
  go_wp2_with fail
  go_ret
  refine ⟨ret_int ?_, ((Only.ext (B := p) (T := [62]) (by repeat first | (with_reducible exact Below.refl _ _) | (with_reducible apply Ext.alloc) | (with_reducible apply Ext.drew) | (with_reducible apply Ext.drewN) | (with_reducible refine Ext.set ?_ (by simp)))).trans hO).drewN _, hR.ext (by repeat first | (with_reducible exact Below.refl _ _) | (with_reducible apply Ext.alloc) | (with_reducible apply Ext.drew) | (with_reducible apply Ext.drewN) | (with_reducible refine Ext.set ?_ (by simp)))⟩
  rw [or256' x y hx.1 hx.2 hy.1 hy.2]
  simp
end Go.Proofs.Ytgfnpcoigooblaa

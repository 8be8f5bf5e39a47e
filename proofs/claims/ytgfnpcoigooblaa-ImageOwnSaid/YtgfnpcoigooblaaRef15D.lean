
/- The reference of layer 15: all of some bytes; are two lists alike? -/
import Derived.Test.YtgfnpcoigooblaaRef15C
import Derived.Test.YtgfnpcoigooblaaEq
import Derived.Deep.QuietTactic
import Derived.BigQuiet
set_option linter.all false
namespace Go.Proofs.Ytgfnpcoigooblaa
open Go.RowKit

def insOf (l : List Int) (k : Nat) : List Value := (List.range k).flatMap fun x => (getI (chunkL l x)).1.cells
theorem insOf_succ (l : List Int) (k : Nat) : insOf l (k + 1) = insOf l k ++ (getI (chunkL l k)).1.cells := by simp [insOf, List.range_succ]
theorem allPost_ok {w w' : World} {l : List Int} {v : Value} {k : Nat} (hk : k = (l.length + 3) / 4) (hok : ∀ j, j < k → (getI (chunkL l j)).2 = 0) (h4 : l.length = 4 * k) (ho : w'.ownsRow w.heap.size 79 4 v k (insOf l k)) (he : Ext w w') :
    AllPost w l (.returned (.tuple #[v, .int .i64 l.length, .int .i64 0])) w' := by
  have hs := allS_ok (l := l) (fun x hx => hok x (by rw [hk]; simpa using hx))
  refine ⟨v, by rw [hs]; simp; omega, ?_, he⟩
  rw [hs, List.flatMap_map]
  simpa [hk, insOf] using ho
theorem chunk_short {l : List Int} {k : Nat} (h : (getI (chunkL l k)).2 = 0) : 4 * k + 4 ≤ l.length := by
  by_cases hl : (chunkL l k).length = 4
  · rw [chunkL_length] at hl; omega
  · exfalso
    revert h hl
    generalize chunkL l k = c
    match c with
    | [p, a, b, d] => intro _ hl; exact hl rfl
    | [] | [_] | [_, _] | [_, _, _] | _ :: _ :: _ :: _ :: _ :: _ => intro h; simp [getI] at h
theorem allPost_no {w w' : World} {l : List Int} {k : Nat} (hk : k < (l.length + 3) / 4) (hok : ∀ j, j < k → (getI (chunkL l j)).2 = 0) (hx : (getI (chunkL l k)).2 ≠ 0) (q : Int) (hq : q = ((4 * k : Nat) : Int)) (he : Ext w w') :
    AllPost w l (.returned (.tuple #[.slice none 0 0, .int .i64 q, .int .i64 (getI (chunkL l k)).2])) w' := by
  have hs := allS_no (l := l) (pre := List.range k) (x := k) (by rw [← List.range_succ]; exact range_prefix (by omega)) (fun x hx => hok x (by simpa using hx)) hx
  simp at hs
  refine ⟨.slice none 0 0, by rw [hs, hq]; simp, by rw [hs]; exact World.ownsRow_nil _ _ _ _, he⟩

set_option maxHeartbeats 2000000 in
set_option maxRecDepth 100000 in
theorem rall_any (A : Option Addr) (cap : Nat) (l : List Int) (w : World) (h : Arr w A (bs l)) (hl : ∀ x ∈ l, 0 ≤ x ∧ x < 256) (hc : l.length ≤ cap) (hm : l.length ≤ 16777216) :
    Calls Try.prog 40 #[.slice A l.length cap] w (AllPost w l) := by
  obtain ⟨g, o, hA⟩ : ∃ g o, 0 < l.length → A = some ⟨g, o, none⟩ := by
    rcases h with h | ⟨g, o, h, -⟩
    · exact ⟨0, 0, fun hn => by rw [bs, List.map_eq_nil_iff] at h; simp [h] at hn⟩
    · exact ⟨g, o, fun _ => h⟩
  have HA := Lib.hid hA
  clear hA
  obtain ⟨i0, hi, hz0, hz1, hz2⟩ := info_parts infoIns
  go_enter Try.func40, Try.ntmps40
  go_wp2
  go_loopw [5, 6] (fun v i wr => ∃ k : Nat, k ≤ (l.length + 3) / 4 ∧ i = .int .i64 ((4 * k : Nat) : Int) ∧ wr.ownsRow w.heap.size 79 4 v k (insOf l k) ∧ Hid (∀ j, j < k → (getI (chunkL l j)).2 = 0) ∧ Ext w wr) (fun _ i _ => l.length + 4 - (intOf i).toNat)
  case atStart => exact ⟨0, Nat.zero_le _, rfl, World.ownsRow_nil _ _ _ _, fun j hj => by omega, Below.refl _ _⟩
  case round =>
    obtain ⟨k, hk, rfl, hrow, hok, hE⟩ := hrel
    by_cases hlt : 4 * k < l.length
    · obtain rfl := HA.out (by omega)
      have hG : ∀ n c, n = (chunkL l k).length → Calls Try.prog 65 #[.slice (some ⟨g, o + 4 * k, none⟩) n c] wr (Gave wr (getI (chunkL l k))) := fun n c hn => by
        rw [hn]; exact rget_any _ c _ wr ((h.ext hE).chunk k) (chunkL_mem hl)
      have HG := Lib.hid hG
      clear hG
      go_wp2_with (first
        | (go_at_call 65; refine (HG.out _ _ (by rw [chunkL_length]; omega)).mono ?_; rintro e w2 ⟨rfl, hb2⟩)
        | (at_builtin; refine wpList_append_own _ rfl _ _ 75 rfl w.heap.size 79 i0 (.agg #[.int .i64 0, .int .i64 0, .int .i64 0, .int .i64 0]) 4 32 Try.underlying75 hi hz0 hz1 hz2 rfl (by decide) _ _ _ rfl (((own_ext hrow hb2).alloc _).alloc _) ⟨w2.heap.size + 1, 0, none⟩ 1 1 (getI (chunkL l k)).1.cells rfl rfl (cells_new _ _ _ _ (by simp)) (by simp [Value.oneCell']) (by unfold maxLen; omega) (by omega) (by have := hE.size; have := hb2.size; simp; omega) ?_; intro v' w1 hown' hgrow _))
      · go_ret3
        exact allPost_no (by omega) hok.out (by simpa using (show ((getI (chunkL l k)).2 != 0) = true by assumption)) _ (by push_cast; rfl) (hE.then (Ext.alloc hb2 _))
      · go_ret3
        exact allPost_no (by omega) hok.out (by simpa using (show ((getI (chunkL l k)).2 != 0) = true by assumption)) _ (by push_cast; rfl) (hE.then (Ext.alloc hb2 _))
      · have hx : (getI (chunkL l k)).2 = 0 := by simpa using (show ((getI (chunkL l k)).2 != 0) = false by assumption)
        have hs := chunk_short hx
        go_roundw
        case rel => exact ⟨k + 1, by omega, by go_num, by rw [insOf_succ]; exact hown', fun j hj => by rcases Nat.lt_succ_iff_lt_or_eq.1 hj with h | rfl; exact hok.out j h; exact hx, Below.grown (Ext.alloc (Ext.alloc (hE.then hb2) _) _) hgrow (Ext.alloc (Ext.alloc (hE.then hb2) _) _).size (fun r hr => (hrow.lt r hr).1)⟩
        case measure => simp [intOf]; omega
    · go_wp2_with fail
      go_ret3
      have h4 : l.length = 4 * k := by
        cases k with
        | zero => omega
        | succ j => have := chunk_short (hok.out j (by omega)); omega
      exact allPost_ok (by omega) hok.out h4 hrow hE

attribute [local go_sem high] eqIns
def insCells (l : List Ins) : List Value := l.flatMap Ins.cells
end Go.Proofs.Ytgfnpcoigooblaa

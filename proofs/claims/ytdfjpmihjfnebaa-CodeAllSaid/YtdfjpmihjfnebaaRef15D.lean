/- The reference of layer 15: all of some bytes; are two lists alike? -/
import Derived.Test.YtdfjpmihjfnebaaRef15C
import Derived.Test.YtdfjpmihjfnebaaEq
import Derived.Deep.QuietTactic
import Derived.BigQuiet
set_option linter.all false
namespace Go.Proofs.Ytdfjpmihjfnebaa
open Go.RowKit

def insOf (l : List Int) (k : Nat) : List Value := (List.range k).flatMap fun x => (getI (chunkL l x)).1.cells
theorem insOf_succ (l : List Int) (k : Nat) : insOf l (k + 1) = insOf l k ++ (getI (chunkL l k)).1.cells := by simp [insOf, List.range_succ]
theorem allPost_ok {w w' : World} {l : List Int} {v : Value} {k : Nat} (hk : k = (l.length + 3) / 4) (hok : ∀ j, j < k → (getI (chunkL l j)).2 = 0) (h4 : l.length = 4 * k) (ho : w'.ownsRow w.heap.size 23 4 v k (insOf l k)) (he : Ext w w') :
    AllPost w l (.returned (.tuple #[v, .int .i64 l.length, .int .i64 0])) w' := by
  have hs := allS_ok (l := l) (fun x hx => hok x (by rw [hk]; simpa using hx))
  refine ⟨v, by rw [hs]; simp; omega, ?_, he⟩
  rw [hs, List.flatMap_map]
  simpa [hk, insOf] using ho
theorem chunk_short {l : List Int} {k : Nat} (h : (getI (chunkL l k)).2 = 0) : 4 * k + 4 ≤ l.length := by
  by_cases hl : (chunkL l k).length = 4
  · rw [chunkL_length] at hl; omega
  · exfalso
    revert h hl
    generalize chunkL l k = c
    match c with
    | [p, a, b, d] => intro _ hl; exact hl rfl
    | [] | [_] | [_, _] | [_, _, _] | _ :: _ :: _ :: _ :: _ :: _ => intro h; simp [getI] at h
theorem allPost_no {w w' : World} {l : List Int} {k : Nat} (hk : k < (l.length + 3) / 4) (hok : ∀ j, j < k → (getI (chunkL l j)).2 = 0) (hx : (getI (chunkL l k)).2 ≠ 0) (q : Int) (hq : q = ((4 * k : Nat) : Int)) (he : Ext w w') :
    AllPost w l (.returned (.tuple #[.slice none 0 0, .int .i64 q, .int .i64 (getI (chunkL l k)).2])) w' := by
  have hs := allS_no (l := l) (pre := List.range k) (x := k) (by rw [← List.range_succ]; exact range_prefix (by omega)) (fun x hx => hok x (by simpa using hx)) hx
  simp at hs
  refine ⟨.slice none 0 0, by rw [hs, hq]; simp, by rw [hs]; exact World.ownsRow_nil _ _ _ _, he⟩

set_option maxHeartbeats 2000000 in
set_option maxRecDepth 100000 in
theorem rall_any (A : Option Addr) (cap : Nat) (l : List Int) (w : World) (h : Arr w A (bs l)) (hl : ∀ x ∈ l, 0 ≤ x ∧ x < 256) (hc : l.length ≤ cap) (hm : l.length ≤ 16777216) :
    Calls Try.prog 14 #[.slice A l.length cap] w (AllPost w l) := by
  obtain ⟨g, o, hA⟩ : ∃ g o, 0 < l.length → A = some ⟨g, o, none⟩ := by
    rcases h with h | ⟨g, o, h, -⟩
    · exact ⟨0, 0, fun hn => by rw [bs, List.map_eq_nil_iff] at h; simp [h] at hn⟩
    · exact ⟨g, o, fun _ => h⟩
  have HA := Lib.hid hA
  clear hA
  obtain ⟨i0, hi, hz0, hz1, hz2⟩ := info_parts infoIns
  go_enter Try.func14, Try.ntmps14
  go_wp2
  go_loopw [5, 6] (fun v i wr => ∃ k : Nat, k ≤ (l.length + 3) / 4 ∧ i = .int .i64 ((4 * k : Nat) : Int) ∧ wr.ownsRow w.heap.size 23 4 v k (insOf l k) ∧ Hid (∀ j, j < k → (getI (chunkL l j)).2 = 0) ∧ Ext w wr) (fun _ i _ => l.length + 4 - (intOf i).toNat)
  case atStart => exact ⟨0, Nat.zero_le _, rfl, World.ownsRow_nil _ _ _ _, fun j hj => by omega, Below.refl _ _⟩
  case round =>
    obtain ⟨k, hk, rfl, hrow, hok, hE⟩ := hrel
    by_cases hlt : 4 * k < l.length
    · obtain rfl := HA.out (by omega)
      have hG : ∀ n c, n = (chunkL l k).length → Calls Try.prog 12 #[.slice (some ⟨g, o + 4 * k, none⟩) n c] wr (Gave wr (getI (chunkL l k))) := fun n c hn => by
        rw [hn]; exact rget_any _ c _ wr ((h.ext hE).chunk k) (chunkL_mem hl)
      have HG := Lib.hid hG
      clear hG
      go_wp2_with (first
        | (go_at_call 12; refine (HG.out _ _ (by rw [chunkL_length]; omega)).mono ?_; rintro e w2 ⟨rfl, hb2⟩)
        | (at_builtin; refine wpList_append_own _ rfl _ _ 29 rfl w.heap.size 23 i0 (.agg #[.int .i64 0, .int .i64 0, .int .i64 0, .int .i64 0]) 4 32 Try.underlying29 hi hz0 hz1 hz2 rfl (by decide) _ _ _ rfl (((own_ext hrow hb2).alloc _).alloc _) ⟨w2.heap.size + 1, 0, none⟩ 1 1 (getI (chunkL l k)).1.cells rfl rfl (cells_new _ _ _ _ (by simp)) (by simp [Value.oneCell']) (by unfold maxLen; omega) (by omega) (by have := hE.size; have := hb2.size; simp; omega) ?_; intro v' w1 hown' hgrow _))
      · go_ret3
        exact allPost_no (by omega) hok.out (by simpa using (show ((getI (chunkL l k)).2 != 0) = true by assumption)) _ (by push_cast; rfl) (hE.then (Ext.alloc hb2 _))
      · go_ret3
        exact allPost_no (by omega) hok.out (by simpa using (show ((getI (chunkL l k)).2 != 0) = true by assumption)) _ (by push_cast; rfl) (hE.then (Ext.alloc hb2 _))
      · have hx : (getI (chunkL l k)).2 = 0 := by simpa using (show ((getI (chunkL l k)).2 != 0) = false by assumption)
        have hs := chunk_short hx
        go_roundw
        case rel => exact ⟨k + 1, by omega, by go_num, by rw [insOf_succ]; exact hown', fun j hj => by rcases Nat.lt_succ_iff_lt_or_eq.1 hj with h | rfl; exact hok.out j h; exact hx, Below.grown (Ext.alloc (Ext.alloc (hE.then hb2) _) _) hgrow (Ext.alloc (Ext.alloc (hE.then hb2) _) _).size (fun r hr => (hrow.lt r hr).1)⟩
        case measure => simp [intOf]; omega
    · go_wp2_with fail
      go_ret3
      have h4 : l.length = 4 * k := by
        cases k with
        | zero => omega
        | succ j => have := chunk_short (hok.out j (by omega)); omega
      exact allPost_ok (by omega) hok.out h4 hrow hE

attribute [local go_sem high] eqIns
def insCells (l : List Ins) : List Value := l.flatMap Ins.cells
set_option maxHeartbeats 400000 in
theorem rsame_any (A B : Option Addr) (c d : Nat) (l m : List Ins) (w : World) (hA : Arr w A (insCells l)) (hB : Arr w B (insCells m)) (hl : l.length ≤ 140737488351232) (hm : m.length ≤ 140737488351232) :
    Calls Try.prog 21 #[.slice A l.length c, .slice B m.length d] w fun e w' => e = .returned (.bool (decide (l = m))) ∧ Ext w w' := by
  by_cases hn : l.length = m.length
  · go_enter Try.func21, Try.ntmps21
    go_wp2_with fail
    go_loopw [5] (fun i wr => ∃ k n : Nat, k ≤ l.length ∧ i = .int .i64 (k : Int) ∧ wr = w.drewN n ∧ Hid (∀ j (h : j < l.length) (h' : j < m.length), j < k → l[j] = m[j])) (fun i _ => l.length - (intOf i).toNat)
    case atStart => exact ⟨0, 0, Nat.zero_le _, rfl, rfl, fun j _ _ hj => by omega⟩
    case round =>
      obtain ⟨k, n, hk, rfl, rfl, hs⟩ := hrel
      by_cases hlt : k < l.length
      · have hlt' : k < m.length := by omega
        obtain ⟨b1, o1, rfl, -, q1⟩ := hA.flat (s := 4) (fun _ => rfl) (by decide) hlt
        obtain ⟨b2, o2, rfl, -, q2⟩ := hB.flat (s := 4) (fun _ => rfl) (by decide) hlt'
        have x0 : w.cell? ⟨b1, o1 + k * 4, none⟩ = some (.int .i64 l[k].op) := by simpa using q1 0 _ rfl
        have x1 := q1 1 _ rfl
        have x2 := q1 2 _ rfl
        have x3 := q1 3 _ rfl
        have y0 : w.cell? ⟨b2, o2 + k * 4, none⟩ = some (.int .i64 m[k].op) := by simpa using q2 0 _ rfl
        have y1 := q2 1 _ rfl
        have y2 := q2 2 _ rfl
        have y3 := q2 3 _ rfl
        clear q1 q2
        cases he : (!l[k].op == m[k].op || (!l[k].a == m[k].a || (!l[k].b == m[k].b || !l[k].c == m[k].c)))
        · have e : l[k] = m[k] := by
            cases hx : l[k]; cases hy : m[k]
            rw [hx, hy] at he
            simpa [and_assoc] using he
          have E := Lib.hid e
          clear e
          go_wp2_with fail
          go_quiet (fail)
          go_wp2_with fail
          go_roundw
          case rel => exact ⟨k + 1, _, by omega, by go_num, rfl, fun j h h' hj => by rcases Nat.lt_succ_iff_lt_or_eq.1 hj with hj | rfl; exact hs.out j h h' hj; exact E.out⟩
          case measure => simp [intOf]; omega
        · have e : l ≠ m := by
            rintro rfl
            simp at he
          have E := Lib.hid e
          clear e
          go_wp2_with fail
          go_quiet (fail)
          go_wp2_with fail
          go_ret
          exact ⟨ret_bool (by rw [decide_eq_false E.out]), Ext.drewN (Ext.drewN (Below.refl _ _) _) _⟩
      · go_wp2_with fail
        go_ret
        exact ⟨ret_bool (by rw [decide_eq_true]; exact List.ext_getElem hn fun j h h' => hs.out j h h' (by omega)), Ext.drewN (Below.refl _ _) _⟩
  · have hne : ((l.length : Int) != m.length) = true := by rw [bne_iff_ne]; omega
    go_enter Try.func21, Try.ntmps21
    go_wp2_with fail
    go_ret
    exact ⟨ret_bool (by rw [decide_eq_false]; rintro rfl; exact hn rfl), Below.refl _ _⟩
end Go.Proofs.Ytdfjpmihjfnebaa

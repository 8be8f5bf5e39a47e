/- seizinref08.Same: are two lists of pairs alike? -/
import Derived.Test.YtipnkjegiiphnaaExtE
import Derived.BigQuiet
import Derived.ChangeKeysEq
set_option linter.all false
namespace Go.Proofs.Ytipnkjegiiphnaa
open Go.RowKit

theorem cellsInt : Try.prog.cellsOf 3 = 1 := by kernel_rfl
theorem infoInt : (Try.prog.info? 3).isSome = true := by kernel_rfl
theorem eqPair (d : Nat) (w : World) (x0 x1 y0 y1 : Int) :
    (Op.equalIn (d + 2) 38 (.agg #[.int .i64 x0, .int .i64 x1]) (.agg #[.int .i64 y0, .int .i64 y1])).run Try.prog w = .ok (x0 == y0 && x1 == y1) w := by
  obtain ⟨i, hi⟩ := Option.isSome_iff_exists.1 infoInt
  rw [run_equalIn_array w (d + 1) _ _ Try.underlying38 hi, cellsInt, show List.range 2 = [0, 1] from rfl]
  simp only [Op.eqItems]
  go_simp
  by_cases h0 : x0 = y0 <;> by_cases h1 : x1 = y1 <;> simp [h0, h1]
attribute [local go_sem high] eqPair
set_option maxHeartbeats 400000 in
theorem same_any (A B : Option Addr) (c d : Nat) (l m : List Run) (w : World) (hA : Arr w A (rowC l)) (hB : Arr w B (rowC m)) (hl : l.length ≤ 140737488351232) (hm : m.length ≤ 140737488351232) :
    Calls Try.prog 19 #[.slice A l.length c, .slice B m.length d] w fun e w' => e = .returned (.bool (decide (l = m))) ∧ Ext w w' := by
  by_cases hn : l.length = m.length
  · go_enter Try.func19, Try.ntmps19
    go_wp2_with fail
    go_loopw [5] (fun i wr => ∃ k n : Nat, k ≤ l.length ∧ i = .int .i64 (k : Int) ∧ wr = w.drewN n ∧ Hid (∀ j (h : j < l.length) (h' : j < m.length), j < k → l[j] = m[j])) (fun i _ => l.length - (intOf i).toNat)
    case atStart => exact ⟨0, 0, Nat.zero_le _, rfl, rfl, fun j _ _ hj => by omega⟩
    case round =>
      obtain ⟨k, n, hk, rfl, rfl, hs⟩ := hrel
      by_cases hlt : k < l.length
      · have hlt' : k < m.length := by omega
        obtain ⟨b1, o1, rfl, -, q1⟩ := hA.flat (s := 2) (fun _ => rfl) (by decide) hlt
        obtain ⟨b2, o2, rfl, -, q2⟩ := hB.flat (s := 2) (fun _ => rfl) (by decide) hlt'
        have x0 : w.cell? ⟨b1, o1 + k * 2, none⟩ = some (.int .i64 l[k].1) := by simpa using q1 0 _ rfl
        have x1 := q1 1 _ rfl
        have y0 : w.cell? ⟨b2, o2 + k * 2, none⟩ = some (.int .i64 m[k].1) := by simpa using q2 0 _ rfl
        have y1 := q2 1 _ rfl
        clear q1 q2
        cases he : (!l[k].1 == m[k].1 || !l[k].2 == m[k].2)
        · have e : l[k] = m[k] := by
            simp at he
            exact Prod.ext he.1 he.2
          have E := Lib.hid e
          clear e
          go_wp2_with fail
          go_quiet (fail)
          go_wp2_with fail
          go_roundw
          case rel => exact ⟨k + 1, _, by omega, by go_num, rfl, fun j h h' hj => by rcases Nat.lt_succ_iff_lt_or_eq.1 hj with hj | rfl; exact hs.out j h h' hj; exact E.out⟩
          case measure => simp [intOf]; omega
        · have e : l ≠ m := by
            rintro rfl
            simp at he
          have E := Lib.hid e
          clear e
          go_wp2_with fail
          go_quiet (fail)
          go_wp2_with fail
          go_ret
          exact ⟨ret_bool (by rw [decide_eq_false E.out]), Ext.drewN (Ext.drewN (Below.refl _ _) _) _⟩
      · go_wp2_with fail
        go_ret
        exact ⟨ret_bool (by rw [decide_eq_true]; exact List.ext_getElem hn fun j h h' => hs.out j h h' (by omega)), Ext.drewN (Below.refl _ _) _⟩
  · have hne : ((l.length : Int) != m.length) = true := by rw [bne_iff_ne]; omega
    go_enter Try.func19, Try.ntmps19
    go_wp2_with fail
    go_ret
    exact ⟨ret_bool (by rw [decide_eq_false]; rintro rfl; exact hn rfl), Below.refl _ _⟩
end Go.Proofs.Ytipnkjegiiphnaa


/- The live question of layer 15. -/
import Derived.Test.YtgfnpcoigooblaaCodeD
import Derived.Test.YtgfnpcoigooblaaRef15D
import Derived.Laws.BytesArg
set_option linter.all false
namespace Go.Proofs.Ytgfnpcoigooblaa
open Go.RowKit

/-- A row of bytes of the call's own, as a string. -/
theorem conv_own {W : World} {base n : Nat} {v : Value} {xs : List Int} (h : W.ownsRow base 5 1 v n (bs xs)) : (convert 27 9 v).run Try.prog W = .ok (.string (strOfNums xs)) W := by
  obtain ⟨hl, h⟩ := h
  rcases h with ⟨rfl, rfl⟩ | ⟨g, cap, cur, rfl, hg, hb, hn, hm, hs, ht⟩
  · have : xs = [] := by simpa [bs] using hl
    subst this
    rw [run_convert_bytes_nil W 27 5 Try.underlying27 Try.underlying5 0 0 9 Try.underlying9]
    rfl
  · rw [bs_length, Nat.mul_one] at hl
    refine run_convert_bytes_arg W 27 5 Try.underlying27 Try.underlying5 g 0 n cap xs hl (fun i hi => ?_) 9 Try.underlying9
    rw [Nat.zero_add, cell_of_row W g i cur 5 (0, 0) hb]
    have : (bs xs)[i]? = some (.int .u8 (xs.getD i 0)) := by simp [bs, List.getElem?_eq_getElem (show i < xs.length by omega)]
    rw [← ht, List.getElem?_take] at this
    simp at this
    simpa using this.2

theorem AllPost.open {w w' : World} {l : List Int} {e : Ending} (h : AllPost w l e w') : ∃ A c, e = .returned (.tuple #[.slice A (allS l).1.length c, .int .i64 (allS l).2.1, .int .i64 (allS l).2.2]) ∧ Arr w' A (insCells (allS l).1) ∧ Ext w w' := by
  obtain ⟨v, rfl, ho, he⟩ := h
  obtain ⟨A, c, rfl, -, hA⟩ := Arr.own ho
  exact ⟨A, c, rfl, hA, he⟩

theorem Arr.lit' (w : World) (xs : List Value) (e : TypeId) (b : Nat) (hb : b = w.heap.size) : Arr (w.alloc (.cells xs.toArray e)) (some ⟨b, 0, none⟩) xs := hb ▸ Arr.lit w xs e
theorem get_lit (p a b c : Int) (W : World) (k : Nat) (hk : k = W.heap.size) (hp : ∀ x ∈ [p, a, b, c], 0 ≤ x ∧ x < 256) (r : Ins × Int) (hr : getI [p, a, b, c] = r) : Calls Try.prog 75 #[.slice (some ⟨k, 0, none⟩) 4 4] (W.alloc (.cells #[.int .u8 p, .int .u8 a, .int .u8 b, .int .u8 c] 5)) (Gave (W.alloc (.cells #[.int .u8 p, .int .u8 a, .int .u8 b, .int .u8 c] 5)) r) := by
  subst hr
  exact get_any (some ⟨k, 0, none⟩) 4 [p, a, b, c] _ (Arr.lit' W (bs [p, a, b, c]) _ k hk) hp
theorem all_lit (p a b c q d e f : Int) (W : World) (k : Nat) (hk : k = W.heap.size) (hp : ∀ x ∈ [p, a, b, c, q, d, e, f], 0 ≤ x ∧ x < 256) : Calls Try.prog 62 #[.slice (some ⟨k, 0, none⟩) 8 8] (W.alloc (.cells #[.int .u8 p, .int .u8 a, .int .u8 b, .int .u8 c, .int .u8 q, .int .u8 d, .int .u8 e, .int .u8 f] 5)) (AllPost (W.alloc (.cells #[.int .u8 p, .int .u8 a, .int .u8 b, .int .u8 c, .int .u8 q, .int .u8 d, .int .u8 e, .int .u8 f] 5)) [p, a, b, c, q, d, e, f]) :=
  all_any (some ⟨k, 0, none⟩) 8 [p, a, b, c, q, d, e, f] _ (Arr.lit' W (bs [p, a, b, c, q, d, e, f]) _ k hk) hp (by simp) (by simp)

theorem head_all1 : allS [0, 0, 0, 0, 9, 0, 255, 254] = ([⟨0, 0, 0, 0⟩, ⟨9, 0, -2, 0⟩], 8, 0) := by decide +kernel
theorem head_all2 : allS [0, 0, 0, 0, 9, 1, 255, 254] = ([], 4, 151) := by decide +kernel

attribute [local go_sem high] eqIns
end Go.Proofs.Ytgfnpcoigooblaa

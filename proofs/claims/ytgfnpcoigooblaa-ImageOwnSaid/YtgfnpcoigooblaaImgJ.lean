
/- slices.Grow of nil, over bytes. -/
import Derived.Test.YtgfnpcoigooblaaImgI
set_option linter.all false
namespace Go.Proofs.Ytgfnpcoigooblaa
open Go.RowKit

theorem own_none {w : World} {base n c : Nat} {e : TypeId} {sz : Nat} {A : Option Addr} {xs : List Value} (h : w.ownsRow base e sz (.slice A n c) n xs) (hn : 0 < n) : w.ownsRow base e sz (.slice A 0 c) 0 [] := by
  rcases h with ⟨hl, ⟨hv, h0⟩ | ⟨g, cap, C, hv, hb, hg, h1, h2, h3, h4⟩⟩
  · simp only [Value.slice.injEq] at hv; omega
  · cases hv
    exact ⟨by simp, .inr ⟨g, _, C, rfl, hb, hg, Nat.zero_le _, h2, h3, by simp⟩⟩
theorem infoByte : (Try.prog.info? 5).map (fun i => (i.zero, i.size, i.bytes)) = some (some (.int .u8 0), 1, 1) := by kernel_rfl
set_option maxHeartbeats 1000000 in
theorem grow_nil (k : Nat) (hk : 0 < k) (hk2 : k ≤ 16777216) (w : World) : Calls Try.prog 66 #[.slice none 0 0, .int .i64 (k : Int)] w (Gives w 5 1 0 []) := by
  obtain ⟨i0, hi, hz0, hz1, hz2⟩ := info_parts infoByte
  have h1 : decide ((k : Int) < 0) = false := decide_eq_false (by omega)
  have h2 : decide ((k : Int) > 0) = true := decide_eq_true (by omega)
  go_enter Try.func66, Try.ntmps66
  go_wp2_with (first
    | (at_builtin; refine wpList_append_zeros _ rfl (.tmp 20) (.tmp 21) 27 3 rfl w.heap.size 5 .i64 i0 (.int .u8 0) 1 1 Try.underlying27 Try.underlying3 hi hz0 hz1 hz2 rfl (by decide) (by decide) _ _ _ rfl (World.ownsRow_nil _ _ _ _) .i64 k rfl hk (by unfold maxLen; omega) (by omega) (Nat.le_refl _) ?_; intro v2 w4 ho hg; obtain ⟨A2, c2, rfl, hc2, ha2⟩ := Arr.own ho))
  go_ret
  rw [Nat.zero_add] at ho
  exact ⟨_, rfl, own_none ho hk, Below.grown (Below.refl _ w) hg (Nat.le_refl _) (fun r hr => absurd (show (none : Option Nat) = some r from hr) (by simp))⟩
end Go.Proofs.Ytgfnpcoigooblaa


/- Package image: two; seizinref17: within. -/
import Derived.Test.YtgfnpcoigooblaaImgH
set_option linter.all false
namespace Go.Proofs.Ytgfnpcoigooblaa
open Go.RowKit

def twoB (n : Int) : List Int := [n / 256 % 256, n % 256]
set_option maxHeartbeats 400000 in
theorem two_any (n : Int) (w : World) (hn : i64ok n) : Calls Try.prog 42 #[.int .i64 n] w (Gives w 5 1 2 (bs (twoB n))) := by
  obtain ⟨n0, n1⟩ := hn
  go_enter Try.func42, Try.ntmps42
  go_wp2_with fail
  go_ret
  exact gives_lit (cs := bs (twoB n)) (Below.refl _ w) rfl (by simp [maxLen])
set_option maxHeartbeats 400000 in
theorem rwithin_any (n a b : Int) (w : World) : Calls Try.prog 59 #[.int .i64 n, .int .i64 a, .int .i64 b] w fun e w' => e = .returned (.bool (inB n a b)) ∧ w = w' := by
  unfold inB
  by_cases h1 : a ≤ n
  · by_cases h2 : n ≤ b
    · have f1 : decide (n ≥ a) = true := decide_eq_true h1
      have f2 : decide (n ≤ b) = true := decide_eq_true h2
      rw [decide_eq_true (show a ≤ n ∧ n ≤ b from ⟨h1, h2⟩)]
      go_enter Try.func59, Try.ntmps59
      go_wp2_with fail
      go_ret
      exact ⟨rfl, rfl⟩
    · have f1 : decide (n ≥ a) = true := decide_eq_true h1
      have f2 : decide (n ≤ b) = false := decide_eq_false h2
      rw [decide_eq_false (show ¬ (a ≤ n ∧ n ≤ b) from fun h => h2 h.2)]
      go_enter Try.func59, Try.ntmps59
      go_wp2_with fail
      go_ret
      exact ⟨rfl, rfl⟩
  · have f1 : decide (n ≥ a) = false := decide_eq_false h1
    rw [decide_eq_false (show ¬ (a ≤ n ∧ n ≤ b) from fun h => h1 h.1)]
    go_enter Try.func59, Try.ntmps59
    go_wp2_with fail
    go_ret
    exact ⟨rfl, rfl⟩
end Go.Proofs.Ytgfnpcoigooblaa

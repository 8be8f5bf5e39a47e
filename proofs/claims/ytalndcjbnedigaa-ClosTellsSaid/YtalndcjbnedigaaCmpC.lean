
/- The order of the open ones: what SortFunc is given. -/
import Derived.Test.YtalndcjbnedigaaDelC
import Derived.Shelf.SlSortCmp.NoneTotal
set_option linter.all false
namespace Go.Proofs.Ytalndcjbnedigaa
open Go.RowKit Go.Shelf Go.Sort
attribute [local go_sem] seen dstOf boolOf

def cmpT (x y : Tri) : Int := if x.1 = y.1 then if x.2.1 = y.2.1 then Lib.compareInt x.2.2 y.2.2 else Lib.compareInt x.2.1 y.2.1 else Lib.compareInt x.1 y.1
theorem compareInt_lt {a b : Int} : Lib.compareInt a b < 0 ↔ a < b := by
  unfold Lib.compareInt
  split
  · rename_i h; simp [h]
  · split <;> rename_i h _ <;> simp [h]
theorem compareInt_zero {a b : Int} : Lib.compareInt a b = 0 ↔ a = b := by
  unfold Lib.compareInt
  split
  · simp; omega
  · split
    · simp; omega
    · simp; omega
theorem ltOf_cmpT : ltOf cmpT = ltT := by
  funext x y
  unfold ltOf
  rw [Bool.eq_iff_iff, decide_eq_true_eq, ltT_iff]
  unfold cmpT
  split
  · rename_i h
    split
    · rename_i h2
      rw [compareInt_lt]; omega
    · rename_i h2
      rw [compareInt_lt]; omega
  · rename_i h
    rw [compareInt_lt]; omega
theorem swoT : SWO (ltOf cmpT) := by
  rw [ltOf_cmpT]
  refine ⟨fun x => ?_, fun x y z h1 h2 => ?_, fun x y z h1 h2 => ?_⟩
  · rw [← Bool.not_eq_true, ltT_iff]; omega
  · rw [ltT_iff] at *; omega
  · rw [← Bool.not_eq_true, ltT_iff] at *; omega
theorem partsT (x y : Tri) (h1 : ltOf cmpT x y = false) (h2 : ltOf cmpT y x = false) : x = y := by
  rw [ltOf_cmpT] at h1 h2
  exact leT_anti x y (by rw [h2]; rfl) (by rw [h1]; rfl)
def triL (x : Tri) : List Int := [x.1, x.2.1, x.2.2]
theorem cmpT_at {x y : Tri} {k : Nat} (h1 : k < (triL x).length) (h2 : k < (triL y).length) (hn : (triL x)[k] ≠ (triL y)[k]) (h : ∀ j (g1 : j < (triL x).length) (g2 : j < (triL y).length), j < k → (triL x)[j] = (triL y)[j]) : cmpT x y = Lib.compareInt (triL x)[k] (triL y)[k] := by
  unfold cmpT
  match k, h1, h2, hn, h with
  | 0, h1, h2, hn, h =>
    have e : ¬ x.1 = y.1 := hn
    rw [if_neg e]; rfl
  | 1, h1, h2, hn, h =>
    have e0 : x.1 = y.1 := h 0 (by simp [triL]) (by simp [triL]) (by omega)
    have e : ¬ x.2.1 = y.2.1 := hn
    rw [if_pos e0, if_neg e]; rfl
  | 2, h1, h2, hn, h =>
    have e0 : x.1 = y.1 := h 0 (by simp [triL]) (by simp [triL]) (by omega)
    have e1 : x.2.1 = y.2.1 := h 1 (by simp [triL]) (by simp [triL]) (by omega)
    rw [if_pos e0, if_pos e1]; rfl
  | n + 3, h1, _, _, _ => simp [triL] at h1; omega
theorem cmpT_eq {x y : Tri} (h : ∀ j (g1 : j < (triL x).length) (g2 : j < (triL y).length), (triL x)[j] = (triL y)[j]) : cmpT x y = 0 := by
  unfold cmpT
  have e0 : x.1 = y.1 := h 0 (by simp [triL]) (by simp [triL])
  have e1 : x.2.1 = y.2.1 := h 1 (by simp [triL]) (by simp [triL])
  rw [if_pos e0, if_pos e1, compareInt_zero]
  exact h 2 (by simp [triL]) (by simp [triL])
theorem isNaN_any (x : Int) (w : World) : Calls Try.prog 98 #[.int .i64 x] w fun e w' => e = .returned (.bool false) ∧ w' = w := by
  go_enter Try.func98, Try.ntmps98
  go_wp2
  go_ret
  exact ⟨by simp, rfl⟩
set_option maxHeartbeats 1000000 in
theorem cmpInt_any (x y : Int) (w : World) : Calls Try.prog 68 #[.int .i64 x, .int .i64 y] w fun e w' => e = .returned (.int .i64 (Lib.compareInt x y)) ∧ w' = w := by
  go_enter Try.func68, Try.ntmps68
  go_wp2_with ((go_at_call 98; refine (isNaN_any _ _).mono ?_; rintro e w' ⟨rfl, rfl⟩))
  all_goals (go_ret; refine ⟨?_, rfl⟩; unfold Lib.compareInt; (repeat' split) <;> first | rfl | (exfalso; omega))
set_option maxHeartbeats 1000000 in
theorem compare_any (b1 b2 : Nat) (x y : Tri) (w : World) (h1 : ∀ j (g : j < (triL x).length), w.cell? ⟨b1, 0 + j, none⟩ = some (.int .i64 (triL x)[j])) (h2 : ∀ j (g : j < (triL y).length), w.cell? ⟨b2, 0 + j, none⟩ = some (.int .i64 (triL y)[j])) :
    Calls Try.prog 42 #[.slice (some ⟨b1, 0, none⟩) 3 3, .slice (some ⟨b2, 0, none⟩) 3 3] w fun e w' => e = .returned (.int .i64 (cmpT x y)) ∧ w' = w := by
  obtain ⟨r, hr⟩ : ∃ r, r = cmpT x y := ⟨_, rfl⟩
  rw [← hr]
  have HR := Lib.hid hr
  have lx : (triL x).length = 3 := rfl
  have ly : (triL y).length = 3 := rfl
  have HX := Lib.hid h1
  have HY := Lib.hid h2
  have HA : Hid (∀ {k : Nat} (h1 : k < (triL x).length) (h2 : k < (triL y).length) (hn : (triL x)[k] ≠ (triL y)[k]) (h : ∀ j (g1 : j < (triL x).length) (g2 : j < (triL y).length), j < k → (triL x)[j] = (triL y)[j]), cmpT x y = Lib.compareInt (triL x)[k] (triL y)[k]) := Lib.hid fun h1 h2 hn h => cmpT_at h1 h2 hn h
  have HE := Lib.hid (@cmpT_eq x y)
  clear hr h1 h2
  go_enter Try.func42, Try.ntmps42
  go_wp2_with fail
  go_loopw [11, 5, 6, 7, 8] (fun i _ _ _ _ wr => ∃ k : Nat, k ≤ 3 ∧ i = .int .i64 (k : Int) ∧ wr = w ∧ Hid (∀ j (h1 : j < (triL x).length) (h2 : j < (triL y).length), j < k → (triL x)[j] = (triL y)[j])) (fun i _ _ _ _ _ => 3 - (intOf i).toNat)
  case atStart => exact ⟨0, Nat.zero_le _, rfl, rfl, Lib.hid fun j _ _ hj => by omega⟩
  case round =>
    obtain ⟨k, hk, rfl, rfl, hs⟩ := hrel
    by_cases hlt : k < 3
    · have g1 : k < (triL x).length := by omega
      have g2 : k < (triL y).length := by omega
      have x1 : wr.cell? ⟨b1, k, none⟩ = some (.int .i64 (triL x)[k]) := by have := HX.out k g1; rwa [Nat.zero_add] at this
      have y1 : wr.cell? ⟨b2, k, none⟩ = some (.int .i64 (triL y)[k]) := by have := HY.out k g2; rwa [Nat.zero_add] at this
      have HK : Hid ((triL x)[k] ≠ (triL y)[k] → cmpT x y = Lib.compareInt (triL x)[k] (triL y)[k]) := Lib.hid (fun hn => HA.out g1 g2 hn hs.out)
      have hz := @compareInt_zero (triL x)[k] (triL y)[k]
      obtain ⟨p, hp⟩ : ∃ p, p = (triL x)[k] := ⟨_, rfl⟩
      obtain ⟨q, hq⟩ : ∃ q, q = (triL y)[k] := ⟨_, rfl⟩
      rw [← hp] at x1
      rw [← hq] at y1
      have HC := Lib.hid (fun w => cmpInt_any p q w)
      have HZ := Lib.hid hz
      have HP := Lib.hid (And.intro hp hq)
      clear hz hp hq
      by_cases he : p = q
      · have hc0 : Lib.compareInt p q = 0 := compareInt_zero.2 he
        rw [hc0] at HC
        have HEQ := Lib.hid he
        clear hc0 he
        go_wp2_with fail
        refine (HC.out _).mono ?_
        rintro e w1 ⟨rfl, rfl⟩
        go_wp2_with fail
        exact ⟨⟨k + 1, by omega, by simp, trivial, Lib.hid fun j h3 h4 hj => by rcases Nat.lt_succ_iff_lt_or_eq.1 hj with hj | rfl; exact hs.out j h3 h4 hj; rw [← HP.out.1, ← HP.out.2]; exact HEQ.out⟩, by simp [intOf]; omega⟩
      · have hr : r = Lib.compareInt p q := by
          obtain ⟨e1, e2⟩ := HP.out
          rw [HR.out, e1, e2]
          refine HK.out ?_
          rw [← e1, ← e2]
          exact he
        have hne : (Lib.compareInt p q != 0) = true := by rw [bne_iff_ne]; exact fun h => he (compareInt_zero.1 h)
        rw [← hr] at HC hne
        clear he hr HR HK HZ HP
        go_wp2_with fail
        refine (HC.out _).mono ?_
        rintro e w1 ⟨rfl, rfl⟩
        go_wp2_with fail
        go_ret
        exact ⟨rfl, rfl⟩
    · obtain rfl : k = 3 := by omega
      have hr : r = 0 := by rw [HR.out]; exact HE.out fun j h3 h4 => hs.out j h3 h4 (by omega)
      subst hr
      go_wp2_with fail
      go_ret
      exact ⟨rfl, rfl⟩
end Go.Proofs.Ytalndcjbnedigaa


/- Package extent: Give: what is refused; what the rest wants. -/
import Derived.Test.YtpjlhkepdiajjaaExtG
set_option linter.all false
namespace Go.Proofs.Ytpjlhkepdiajjaa
open Go.RowKit

def GivePost (p : Nat) (a b : Int) (v : Value) (base : Nat) (R : List Run) (z n : Int) (w : World) (e : Ending) (w' : World) : Prop :=
  e = .returned (.bool (giveR a b R z n).2) ∧ ∃ v', FreeAt w' p a b v' base (giveR a b R z n).1 ∧ Kept p v.ownBlock w w' ∧ (v'.ownBlock = v.ownBlock ∨ ∃ g, v'.ownBlock = some g ∧ w.heap.size ≤ g)

set_option maxHeartbeats 4000000 in
set_option maxRecDepth 20000 in
theorem give_bad (p : Nat) (a b : Int) (v : Value) (base : Nat) (R : List Run) (z n : Int) (w : World) (h : FreeAt w p a b v base R) (hn : ¬ mayGive a b z n) :
    Calls Try.prog 38 #[.pointer (some ⟨p, 0, none⟩), .int .i64 z, .int .i64 n] w (GivePost p a b v base R z n w) := by
  have ht : giveR a b R z n = (R, false) := by unfold giveR; rw [if_neg hn]
  have c0 := h.c0
  have c1 := h.c1
  have he := h.ends
  have H := Lib.hid h
  clear h
  unfold GivePost
  rw [ht]
  unfold mayGive at hn
  obtain ⟨e0, e1, e2⟩ := he
  by_cases d1 : z.tmod 16 = 0
  · by_cases d2 : n.tmod 16 = 0
    · by_cases d3 : n < 1
      · go_enter Try.func38, Try.ntmps38
        go_wp2_with fail
        go_ret
        exact ⟨rfl, v, H.out, Kept.of_ext (Below.refl _ _), .inl rfl⟩
      · by_cases d4 : z < a
        · go_enter Try.func38, Try.ntmps38
          go_wp2_with fail
          go_ret
          exact ⟨rfl, v, H.out, Kept.of_ext (Below.refl _ _), .inl rfl⟩
        · by_cases d5 : b < z
          · have d5' : decide (z > b) = true := decide_eq_true d5
            go_enter Try.func38, Try.ntmps38
            go_wp2_with fail
            go_ret
            exact ⟨rfl, v, H.out, Kept.of_ext (Below.refl _ _), .inl rfl⟩
          · have d6 : b - z < n := by rw [tmod_zero] at d1 d2; omega
            have d7 : IntKind.i64.wrap (b - z) = b - z := IntWalk.i64_in _ (by omega)
            have d8 : decide (n > b - z) = true := decide_eq_true d6
            go_enter Try.func38, Try.ntmps38
            go_wp2_with fail
            go_ret
            exact ⟨rfl, v, H.out, Kept.of_ext (Below.refl _ _), .inl rfl⟩
    · go_enter Try.func38, Try.ntmps38
      go_wp2_with fail
      go_ret
      exact ⟨rfl, v, H.out, Kept.of_ext (Below.refl _ _), .inl rfl⟩
  · go_enter Try.func38, Try.ntmps38
    go_wp2_with fail
    go_ret
    exact ⟨rfl, v, H.out, Kept.of_ext (Below.refl _ _), .inl rfl⟩

theorem give_no {p : Nat} {a b : Int} {v : Value} {base : Nat} {R : List Run} {z n : Int} {w w' : World} {k : Nat} (hm : mayGive a b z n) (h : FreeAt w p a b v base R) (h1 : upI R z ≤ k) (h2 : k < R.length) (h3 : ∀ j (hj : j < R.length), upI R z ≤ j → j ≤ k → R[j].1 ≤ z + n) (hh : R[k].1 < z + n ∧ z < R[k].2) (he : Ext w w') :
    GivePost p a b v base R z n w (.returned (.bool false)) w' := by
  have ht : giveR a b R z n = (R, false) := by unfold giveR; rw [if_pos hm, if_pos (any_yes h1 h2 h3 hh)]
  unfold GivePost
  rw [ht]
  exact ⟨rfl, v, h.ext he, Kept.of_ext he, .inl rfl⟩
theorem giveR_yes {a b z n : Int} {R : List Run} {k : Nat} (hm : mayGive a b z n) (h1 : upI R z ≤ k) (h2 : k ≤ R.length) (h3 : ∀ j (hj : j < R.length), upI R z ≤ j → j < k → R[j].1 ≤ z + n ∧ ¬ (R[j].1 < z + n ∧ z < R[j].2)) (h4 : ∀ hk : k < R.length, ¬ R[k].1 ≤ z + n) :
    giveR a b R z n = (R.take (upI R z) ++ [joinX R z (z + n) (upI R z) (k - upI R z)] ++ R.drop k, true) := by
  have e := nextTo_eq (z' := z + n) h1 h2 (fun j hj x y => (h3 j hj x y).1) h4
  unfold giveR
  rw [if_pos hm, e, any_no h1 h2 fun j hj x y => (h3 j hj x y).2]
  simp only [Bool.false_eq_true, if_false]
  rw [show upI R z + (k - upI R z) = k by omega]
theorem fine_parts {R : List Run} {X : Run} {i k : Nat} (h : AllFine R) (hX : Fine X) : AllFine (R.take i ++ [X] ++ R.drop k) := by
  intro r hr
  rcases List.mem_append.1 hr with hr | hr
  · rcases List.mem_append.1 hr with hr | hr
    · exact h r (List.mem_of_mem_take hr)
    · simp only [List.mem_singleton] at hr; subst hr; exact hX
  · exact h r (List.mem_of_mem_drop hr)
theorem give_end {w W w2 : World} {p : Nat} {a b z n : Int} {v v2 : Value} {base : Nat} {R L : List Run} {X : Run} {i k : Nat} (hW : FreeAt W p a b v base R) (K : Kept p v.ownBlock w W) (hX : Fine X) (hL : R.take i ++ [X] ++ R.drop k = L) (hl : (giveR a b R z n).1.length ≤ 2000000) (hgv : giveR a b R z n = (L, true))
    (ho : OwnR w2 base v2 L) (hg : World.grownBy (W.alloc (.cells #[.int .i64 X.1, .int .i64 X.2] 91)).drew w2 v.ownBlock) (ha : v2.ownBlock = v.ownBlock ∨ v2.ownBlock = some (W.alloc (.cells #[.int .i64 X.1, .int .i64 X.2] 91)).drew.heap.size) (hb : w2.heap[p]? = some (.cells #[.int .i64 a, .int .i64 b, v] 94)) :
    GivePost p a b v base R z n w (.returned (.bool true)) (w2.setCell ⟨p, 2, none⟩ v2) := by
  unfold GivePost
  rw [hgv]
  have hsz : W.heap.size ≤ (W.alloc (.cells #[.int .i64 X.1, .int .i64 X.2] 91)).drew.heap.size := by show _ ≤ (W.alloc _).heap.size; simp
  refine ⟨rfl, v2, free_store hb ho hW.low (hL ▸ fine_parts hW.fine hX) (by rw [hgv] at hl; exact hl) hW.ends, ((K.trans (Kept.of_ext (r := v.ownBlock) (Ext.drew (Ext.alloc (Below.refl _ W) _))) (.inl rfl)).trans (Kept.of_grown hg) (.inl rfl)).trans (Kept.set w2 2 v.ownBlock _) (.inl rfl), ?_⟩
  rcases ha with ha | ha
  · exact .inl ha
  · exact .inr ⟨_, ha, Nat.le_trans K.size hsz⟩
theorem joinX_eq {R : List Run} {z z' : Int} {i k k' : Nat} (h1 : i < k) (hk : k' < R.length) (h2 : i < R.length) (h3 : (k : Int) - 1 = (k' : Int)) : joinX R z z' i (k - i) = (if R[i].1 < z then R[i].1 else z, if z' < R[k'].2 then R[k'].2 else z') := by
  unfold joinX
  rw [if_neg (by omega), show i + (k - i) - 1 = k' by omega]
  simp only [List.getD, List.getElem?_eq_getElem h2, List.getElem?_eq_getElem hk, Option.getD_some, Prod.mk.injEq]
  constructor
  · rw [Int.min_def]; split <;> split <;> omega
  · rw [Int.max_def]; split <;> split <;> omega
theorem box_two {w : World} {b : Nat} {x y : Value} {t : TypeId} (wd : World) (h : w.heap[b]? = some (.cells #[x, y] t)) (u v : Value) (hd : wd.heap = w.heap := by rfl) :
    ((wd.setCell ⟨b, 0, none⟩ u).setCell ⟨b, 1, none⟩ v).cell? ⟨b, 0, none⟩ = some u ∧ ((wd.setCell ⟨b, 0, none⟩ u).setCell ⟨b, 1, none⟩ v).cell? ⟨b, 1, none⟩ = some v := by
  have h0 : wd.heap[b]? = some (.cells #[x, y] t (0, 0)) := by rw [hd]; exact h
  have h1 : (wd.setCell ⟨b, 0, none⟩ u).heap[b]? = some (.cells #[u, y] t (0, 0)) := by rw [setCell_eq_setRow wd b 0 _ _ (0, 0) _ h0]; exact setRow_heap wd b _ _ _ _ h0
  have h2 : ((wd.setCell ⟨b, 0, none⟩ u).setCell ⟨b, 1, none⟩ v).heap[b]? = some (.cells #[u, v] t (0, 0)) := by rw [setCell_eq_setRow _ b 1 _ _ (0, 0) _ h1]; exact setRow_heap _ b _ _ _ _ h1
  exact ⟨by simp [World.cell?, h2], by simp [World.cell?, h2]⟩
theorem gave_blk {W w2 : World} {p : Nat} {a b : Int} {v : Value} {base : Nat} {R : List Run} {X : Run} (h : FreeAt W p a b v base R) (hg : World.grownBy (W.alloc (.cells #[.int .i64 X.1, .int .i64 X.2] 91)).drew w2 v.ownBlock) : w2.heap[p]? = some (.cells #[.int .i64 a, .int .i64 b, v] 94) := by
  have hp := h.lt
  refine (hg.block p (by show p < (W.alloc _).heap.size; simp; omega) ?_).trans ((Go.heap_alloc_old W _ hp).trans h.blk)
  intro e
  rcases h.row.2 with ⟨rfl, -⟩ | ⟨g, cap, C, rfl, -, hg', -⟩
  · simp [Value.ownBlock] at e
  · simp only [Value.ownBlock, Option.some.injEq] at e
    subst e
    have := h.blk
    rw [hg'] at this
    simp at this
theorem cell_at2 {w : World} {p : Nat} {x y v : Value} {t : TypeId} (h : w.heap[p]? = some (.cells #[x, y, v] t)) : w.cell? ⟨p, 2, none⟩ = some v := by simp [World.cell?, h]
theorem frozen_at2 {w : World} {p : Nat} {x y v : Value} {t : TypeId} (h : w.heap[p]? = some (.cells #[x, y, v] t)) : w.frozen? ⟨p, 2, none⟩ = false := by simp [World.frozen?, h]
end Go.Proofs.Ytpjlhkepdiajjaa

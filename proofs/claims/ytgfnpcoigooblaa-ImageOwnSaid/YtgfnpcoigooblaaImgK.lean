
/- slices.Concat over bytes. -/
import Derived.Test.YtgfnpcoigooblaaImgJ
set_option linter.all false
namespace Go.Proofs.Ytgfnpcoigooblaa
open Go.RowKit

structure PartM where
  A : Option Addr
  cap : Nat
  b : List Int
abbrev PartM.cells (x : PartM) : List Value := [.slice x.A x.b.length x.cap]
def allB (l : List PartM) : List Int := l.flatMap PartM.b
theorem allB_take {l : List PartM} {k : Nat} (hk : k < l.length) : allB (l.take (k + 1)) = allB (l.take k) ++ l[k].b := by
  unfold allB
  rw [List.take_add_one, List.getElem?_eq_getElem hk, List.flatMap_append]
  simp
theorem allB_le {l : List PartM} (k : Nat) : (allB (l.take k)).length ≤ (allB l).length := by
  have h : allB l = allB (l.take k) ++ allB (l.drop k) := by
    unfold allB
    rw [← List.flatMap_append, List.take_append_drop]
  rw [h, List.length_append]
  omega
theorem bs_app (a b : List Int) : bs (a ++ b) = bs a ++ bs b := by simp [bs]
theorem bs_one (l : List Int) : ∀ u ∈ bs l, u.oneCell' = true := by
  intro u hu
  obtain ⟨x, -, rfl⟩ := List.mem_map.1 hu
  rfl
set_option maxHeartbeats 4000000 in
theorem concat_any (A : Option Addr) (c : Nat) (l : List PartM) (w : World) (hA : Arr w A (l.flatMap PartM.cells)) (hl : l.length ≤ 1000000) (hp : ∀ x ∈ l, Lies w.heap.size w (.slice x.A x.b.length x.cap) x.b.length (bs x.b)) (h0 : 0 < (allB l).length) (hm : (allB l).length ≤ 16777216) :
    Calls Try.prog 41 #[.slice A l.length c] w (Gives w 5 1 (allB l).length (bs (allB l))) := by
  obtain ⟨i0, hi, hz0, hz1, hz2⟩ := info_parts infoByte
  have HP := Lib.hid hp
  clear hp
  go_enter Try.func41, Try.ntmps41
  go_wp2_with fail
  go_loopw [3, 11] (fun s i wr => ∃ k : Nat, k ≤ l.length ∧ i = .int .i64 (k : Int) ∧ s = .int .i64 ((allB (l.take k)).length : Int) ∧ wr = w) (fun _ i _ => l.length - (intOf i).toNat)
  case atStart => exact ⟨0, Nat.zero_le _, rfl, rfl, rfl⟩
  case round =>
    obtain ⟨k, hk, rfl, rfl, rfl⟩ := hrel
    by_cases hlt : k < l.length
    · obtain ⟨b1, o1, rfl, -, q1⟩ := hA.flat (s := 1) (fun _ => rfl) (by decide) hlt
      have x0 : wr.cell? ⟨b1, o1 + k, none⟩ = some (.slice l[k].A l[k].b.length l[k].cap) := by simpa using q1 0 _ rfl
      clear q1
      have hs := allB_take hlt
      have hle := allB_le (l := l) (k + 1)
      have hsum : ((allB (l.take k)).length : Int) + l[k].b.length = ((allB (l.take (k + 1))).length : Int) := by rw [hs, List.length_append]; omega
      have hneg : decide (((allB (l.take (k + 1))).length : Int) < 0) = false := decide_eq_false (by omega)
      have hw1 : IntKind.i64.wrap (((allB (l.take k)).length : Int) + l[k].b.length) = ((allB (l.take (k + 1))).length : Int) := by rw [hsum]; exact IntWalk.i64_in _ (by omega)
      have HS := Lib.hid hs
      clear hs
      go_wp2_with fail
      exact ⟨⟨k + 1, by omega, by simp, by first | rfl | exact congrArg (Value.int .i64) hsum, by trivial⟩, by simp [intOf]; omega⟩
    · obtain rfl : k = l.length := by omega
      obtain ⟨wo, rfl⟩ : ∃ wo : World, wo = wr := ⟨_, rfl⟩
      rw [List.take_length]
      go_wp2_with fail
      refine (grow_nil (allB l).length h0 hm _).mono ?_
      rintro e w2 ⟨v2, rfl, ho2, e2⟩
      go_wp2_with fail
      go_loopw [6, 27] (fun v i w3 => ∃ k : Nat, k ≤ l.length ∧ i = .int .i64 (k : Int) ∧ w3.ownsRow wo.heap.size 5 1 v (allB (l.take k)).length (bs (allB (l.take k))) ∧ Ext wo w3) (fun _ i _ => l.length - (intOf i).toNat)
      case atStart => exact ⟨0, Nat.zero_le _, rfl, ho2, e2⟩
      case round =>
        obtain ⟨k, hk, rfl, ho, hE⟩ := hrel
        by_cases hlt : k < l.length
        · obtain ⟨b1, o1, rfl, hb1, q1⟩ := hA.flat (s := 1) (fun _ => rfl) (by decide) hlt
          have x0 := ext_cell hE _ _ (show wo.cell? ⟨b1, o1 + k, none⟩ = some (.slice l[k].A l[k].b.length l[k].cap) by simpa using q1 0 _ rfl)
          clear q1
          have hs := allB_take hlt
          have hle := allB_le (l := l) (k + 1)
          rw [hs, List.length_append] at hle
          have HS := Lib.hid hs
          clear hs
          have hsz := hE.size
          go_wp2_with (first
            | (at_builtin; refine wpList_append_src _ rfl (.tmp 31) (.tmp 32) 27 rfl wo.heap.size 5 i0 (.int .u8 0) 1 1 Try.underlying27 hi hz0 hz1 hz2 rfl (by decide) _ _ _ rfl ho _ l[k].b.length (bs l[k].b) rfl ((HP.out l[k] (List.getElem_mem hlt)).ext hE) (by simp [bs]) (bs_one _) (by unfold maxLen; omega) (by omega) hsz ?_; intro v4 w4 ho4 hg4 _))
          exact ⟨⟨k + 1, by omega, by simp, by rw [HS.out, List.length_append, bs_app]; exact ho4, Below.grown hE hg4 hE.size (fun r hr => (ho.lt r hr).1)⟩, by simp [intOf]; omega⟩
        · obtain rfl : k = l.length := by omega
          rw [List.take_length] at ho
          go_wp2_with fail
          go_ret
          exact ⟨_, rfl, ho, hE⟩
end Go.Proofs.Ytgfnpcoigooblaa

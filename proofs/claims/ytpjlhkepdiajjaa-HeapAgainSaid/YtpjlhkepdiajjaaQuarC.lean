
/- Package quar: what is due. -/
import Derived.Test.YtpjlhkepdiajjaaQuarB
import Derived.Test.YtpjlhkepdiajjaaRngInv
import Derived.RangeFuncBound
import Derived.RangeFuncLeaves
import Derived.RangeFuncBox
import Derived.Shelf.RegionOpen
import Derived.TacticsInMore
import Derived.LoopNIn
import Derived.LoopIn
import Derived.RegionIn
import Derived.ControlIn
set_option linter.all false

namespace Go.Proofs.Ytpjlhkepdiajjaa
open Go.RowKit Go.Shelf
attribute [local go_sem] Oper.semAt_some

theorem abides_ext {β : Type} {B : Nat} {J : β → World → Prop} (hJ : AbidesFrom B J) {s : β} {W W' : World} (h : J s W) (e : Ext W W') : J s W' :=
  hJ s W W' none h ⟨e.os, e.tape, e.output, e.size, fun k hk _ => e.block k hk⟩ (fun r e => by cases e)
def dueL (now : Int) (L : List HeldD) : List HeldD := L.takeWhile fun h => decide (whenD h.time ≤ now)
theorem due_at {now : Int} {L : List HeldD} {k : Nat} (hk : k ≤ L.length) (h1 : ∀ h ∈ L.take k, whenD h.time ≤ now) (h2 : k = L.length ∨ ∃ h, L[k]? = some h ∧ now < whenD h.time) : L.take k = dueL now L := by
  unfold dueL
  induction L generalizing k with
  | nil => simp
  | cons x L ih =>
    cases k with
    | zero =>
      rcases h2 with h2 | ⟨h, h2, h3⟩
      · simp at h2
      · simp only [List.getElem?_cons_zero, Option.some.injEq] at h2
        subst h2
        have : ¬ whenD x.time ≤ now := by omega
        simp [List.takeWhile_cons, this]
    | succ k =>
      have hx : whenD x.time ≤ now := h1 x (by simp)
      rw [List.take_succ_cons]
      simp only [List.takeWhile_cons, hx, decide_true, if_true, List.cons.injEq, true_and]
      refine ih (by simpa using hk) (fun h hh => h1 h (by simp [hh])) ?_
      rcases h2 with h2 | ⟨h, h2, h3⟩
      · exact .inl (by simpa using h2)
      · exact .inr ⟨h, by simpa using h2, h3⟩
theorem due_take (now : Int) (L : List HeldD) : dueL now L = L.take (dueL now L).length := List.prefix_iff_eq_take.1 (List.takeWhile_prefix _)
theorem due_drop (now : Int) (L : List HeldD) : dueL now L ++ L.drop (dueL now L).length = L := by
  conv => lhs; lhs; rw [due_take]
  exact List.take_append_drop _ _
theorem due_time {now : Int} {L : List HeldD} {h : HeldD} (hh : h ∈ dueL now L) : whenD h.time ≤ now := of_decide_eq_true (List.all_eq_true.1 (List.all_takeWhile (p := fun h : HeldD => decide (whenD h.time ≤ now)) (l := L)) h hh)
set_option maxHeartbeats 4000000 in
set_option maxRecDepth 100000 in
theorem due_stops (n : Nat) (hn : 1 ≤ n) (bq bn p base N : Nat) (full now : Int) (v : Value) (L : List HeldD) (ht : ∀ h ∈ L, i64ok' h.time) (hL : L.length ≤ 100000) :
    SeqInv Fence.wide n Try.prog 66 #[.pointer (some ⟨bq, 0, none⟩), .pointer (some ⟨bn, 0, none⟩)] (fun h : HeldD => #[h.val])
      (fun _ W => W.cell? ⟨bq, 0, none⟩ = some (.pointer (some ⟨p, 0, none⟩)) ∧ W.cell? ⟨bn, 0, none⟩ = some (.int .i64 now) ∧ ∃ bytes, QuarAt W p full bytes base v L)
      (fun pre x => pre.length < L.length ∧ pre ++ [x] = L.take (pre.length + 1)) (fun xs => xs = dueL now L) N := by
  have hmix : Try.prog.follows .mixedOrders = true := by kernel_rfl
  intro l J W hW hJ hInv hY hJ0
  obtain ⟨hbq, hbn, by0, hq0⟩ := hInv _ _ hJ0
  obtain ⟨A, c, rfl, -, hcm, -⟩ := hq0.row.arr
  have HINV := Lib.hid hInv
  have HY := Lib.hid hY
  have HJ := Lib.hid hJ
  have hrow0 := hq0.blk
  clear hInv hY hJ
  refine callsIn_of_wp Try.func66 rfl trivial ?_ rfl
  simp only [Try.ntmps66, List.size_toArray, List.length_cons, List.length_nil, Nat.reduceAdd, Nat.reduceSub, Array.replicate_succ, Array.replicate_zero, List.push_toArray, List.append_toArray, List.nil_append, List.cons_append]
  have q0 := hbq
  have q1 : W.cell? ⟨p, 2, none⟩ = some (.slice A L.length c) := by simp [World.cell?, hrow0]
  have l0 := cell_lt q0
  have l1 := cell_lt q1
  simp only at l0 l1
  gi_wp2
  gi_loopw [11] (fun i wr => ∃ (k : Nat) (pre : List HeldD), k ≤ L.length ∧ i = .int .i64 (k : Int) ∧ J pre wr ∧ pre = L.take k ∧ ∀ h ∈ L.take k, whenD h.time ≤ now) (fun i _ => L.length - (intOf i).toNat)
  case atStart => exact ⟨0, [], Nat.zero_le _, rfl, hJ0, by simp, by simp⟩
  case round =>
    obtain ⟨k, pre, hk, rfl, hJk, hpre, hall⟩ := hrel
    obtain ⟨hb, hbn1, byk, hset⟩ := HINV.out _ _ hJk
    by_cases hlt : k < L.length
    · obtain ⟨A', c', e', -, -, hA⟩ := hset.row.arr
      cases e'
      obtain ⟨bg, og, rfl, hbg, x0, x1, x2⟩ := held_row hA hlt
      have hgt := ht L[k] (List.getElem_mem hlt)
      have hpl : pre.length = k := by rw [hpre, List.length_take]; omega
      have hnx : pre ++ [L[k]] = L.take (k + 1) := by rw [hpre, List.take_add_one, List.getElem?_eq_getElem hlt]; rfl
      have hkk : L[k]? = some L[k] := List.getElem?_eq_getElem hlt
      have l2 := cell_lt hb
      have l3 := cell_lt hbn1
      simp only at l2 l3
      have HS := Lib.hid (And.intro hJk (And.intro hpre (And.intro hall (And.intro hpl (And.intro hnx hkk)))))
      clear hJk hpre hall hpl hnx hkk hset hA hJ0 hq0 hrow0 q0 q1 l0 l1 hbq hbn
      generalize L[k] = g at x0 x1 x2 hgt HS
      obtain ⟨ga, gn, gt⟩ := g
      simp only at x0 x1 x2 hgt
      gi_wp2
      obtain ⟨U5, hU5⟩ : ∃ U5, U5 = wr.alloc (.cells #[.int .i64 ga, .int .i64 gn, .int .i64 gt] 79) := ⟨_, rfl⟩
      have H5 : Hid (Ext wr U5 ∧ U5.heap[wr.heap.size]? = some (.cells #[.int .i64 ga, .int .i64 gn, .int .i64 gt] 79)) := Lib.hid ⟨by rw [hU5]; exact Ext.alloc (Below.refl _ _) _, by rw [hU5]; exact heap_alloc_new wr _⟩
      rw [← hU5]
      clear hU5 x0 x1 x2
      obtain ⟨z0, z1, z2⟩ := lie3 H5.out.2 (Below.refl _ U5)
      have b5 := ext_cell H5.out.1 _ _ hbn1
      have l5 := cell_lt z0
      have l6 := cell_lt b5
      simp only at l5 l6
      by_cases hwn : whenD gt ≤ now
      · first | (gi_region_with_o (first | (refine ⟨trivial, ?_⟩; gi_at_call 67; refine (callsIn_wide.2 (when_any _ _ hgt)).mono ?_; rintro e w3 ⟨rfl, hE3⟩; obtain ⟨fn, tmps, assign, body, hy, hR⟩ := HY.out pre ⟨ga, gn, gt⟩ w3 (abides_ext HJ.out HS.out.1 ((Ext.drew H5.out.1).then hE3)) ⟨by rw [HS.out.2.2.2.1]; exact hlt, by rw [HS.out.2.2.2.1]; exact HS.out.2.2.2.2.1⟩; (try dsimp only at hy); obtain ⟨z0, z1, z2⟩ := lie3 H5.out.2 ((Ext.drew (Below.refl _ U5)).then hE3); have b5 := ext_cell ((Ext.drew H5.out.1).then hE3) _ _ hbn1; have hl9 := cell_lt z0; have hl8 := cell_lt b5; simp only at hl9 hl8) | (refine hR.mono ?_; rintro e w4 ⟨rfl, hJ4⟩))) | fail
        all_goals gi_wp2
        all_goals exact ⟨⟨k + 1, pre ++ [⟨ga, gn, gt⟩], by omega, by go_num, hJ4, HS.out.2.2.2.2.1, by
          rw [← HS.out.2.2.2.2.1]
          intro h hh
          rcases List.mem_append.1 hh with hh | hh
          · exact HS.out.2.2.1 h (by rw [← HS.out.2.1]; exact hh)
          · rw [List.mem_singleton.1 hh]; exact hwn⟩, by simp [intOf]; omega⟩
      · have hwn' : now < whenD gt := by omega
        first | (gi_region_with_o (first | (refine ⟨trivial, ?_⟩; gi_at_call 67; refine (callsIn_wide.2 (when_any _ _ hgt)).mono ?_; rintro e w3 ⟨rfl, hE3⟩; obtain ⟨z0, z1, z2⟩ := lie3 H5.out.2 ((Ext.drew (Below.refl _ U5)).then hE3); have b5 := ext_cell ((Ext.drew H5.out.1).then hE3) _ _ hbn1; have hl9 := cell_lt z0; have hl8 := cell_lt b5; simp only at hl9 hl8) | (refine ⟨fun _ h => (by cases h), ?_⟩))) | fail
        all_goals gi_wp2
        all_goals refine bodyPost_ret (results_none rfl _ _ _) rfl ?_
        all_goals exact ⟨⟨_, rfl⟩, pre, by rw [HS.out.2.1]; exact due_at hk HS.out.2.2.1 (.inr ⟨_, HS.out.2.2.2.2.2, hwn'⟩), abides_ext HJ.out HS.out.1 ((Ext.drew H5.out.1).then hE3)⟩
    · obtain rfl : k = L.length := by omega
      gi_wp2
      go_end0
      exact ⟨⟨_, rfl⟩, pre, by rw [hpre]; exact due_at (Nat.le_refl _) hall (.inl rfl), hJk⟩
end Go.Proofs.Ytpjlhkepdiajjaa


/- code.All. -/
import Derived.Test.YtgfnpcoigooblaaCodeC
set_option linter.all false
namespace Go.Proofs.Ytgfnpcoigooblaa
open Go.RowKit Go.Shelf
attribute [local go_sem] Oper.semAt_some

set_option maxHeartbeats 2000000 in
set_option maxRecDepth 100000 in
theorem all_any (A : Option Addr) (cap : Nat) (l : List Int) (w : World) (h : Arr w A (bs l)) (hl : ∀ x ∈ l, 0 ≤ x ∧ x < 256) (hc : l.length ≤ cap) (hm : l.length ≤ 16777216) :
    Calls Try.prog 62 #[.slice A l.length cap] w (AllPost w l) := by
  obtain ⟨g, o, hA⟩ : ∃ g o, 0 < l.length → A = some ⟨g, o, none⟩ := by
    rcases h with h | ⟨g, o, h, -⟩
    · exact ⟨0, 0, fun hn => by rw [bs, List.map_eq_nil_iff] at h; simp [h] at hn⟩
    · exact ⟨g, o, fun _ => h⟩
  have HA := Lib.hid hA
  clear hA
  obtain ⟨i0, hi, hz0, hz1, hz2⟩ := info_parts infoIns
  have hmix : Try.prog.follows .mixedOrders = true := by kernel_rfl
  refine (callsIn_wide (n := 4)).1 ?_
  refine callsIn_of_wp_marks Try.func62 rfl trivial ?_ rfl
  simp only [Try.ntmps62, List.size_toArray, List.length_cons, List.length_nil, Nat.reduceAdd, Nat.reduceSub, Array.replicate_succ, Array.replicate_zero, List.push_toArray, List.append_toArray, List.nil_append, List.cons_append]
  gi_wp2_with (refine ⟨trivial, ?_⟩; gi_at_call 74; refine (callsIn_wide.2 (chunk_any _ _ _ _ (by decide) _)).mono ?_; rintro e w1 ⟨rfl, rfl⟩)
  simp only [Nat.add_assoc, Nat.reduceAdd]
  obtain ⟨W0, hW0⟩ : ∃ W0, ((((((w.alloc (.cells #[.slice none 0 0] 75)).alloc (.cells #[.int .i64 0] 3)).alloc (.cells #[.int .i64 0] 30)).alloc (.cells #[.slice none 0 0] 75)).alloc (.cells #[.int .i64 0] 3)).alloc (.cells #[.slice A l.length cap] 27)).alloc (.cells #[.int .i64 4] 3) = W0 := ⟨_, rfl⟩
  have hE0 : Ext w W0 := by rw [← hW0]; exact (by repeat first | (with_reducible exact Below.refl _ _) | (with_reducible apply Ext.alloc) | (with_reducible apply Ext.drew) | (with_reducible apply Ext.drewN) | (with_reducible refine Ext.set ?_ (by simp)))
  have hs0 : W0.heap.size = w.heap.size + 7 := by rw [← hW0]; simp
  have k0 : Boxed W0 w.heap.size 75 (.slice none 0 0) := by rw [← hW0]; exact (by repeat first | (refine boxed_new' _ _ _ _ ?_; (simp; done)) | refine Boxed.alloc ?_ _)
  have k1 : Boxed W0 (w.heap.size + 1) 3 (.int .i64 0) := by rw [← hW0]; exact (by repeat first | (refine boxed_new' _ _ _ _ ?_; (simp; done)) | refine Boxed.alloc ?_ _)
  have k2 : Boxed W0 (w.heap.size + 2) 30 (.int .i64 0) := by rw [← hW0]; exact (by repeat first | (refine boxed_new' _ _ _ _ ?_; (simp; done)) | refine Boxed.alloc ?_ _)
  have k3 : Boxed W0 (w.heap.size + 3) 75 (.slice none 0 0) := by rw [← hW0]; exact (by repeat first | (refine boxed_new' _ _ _ _ ?_; (simp; done)) | refine Boxed.alloc ?_ _)
  have k4 : Boxed W0 (w.heap.size + 4) 3 (.int .i64 0) := by rw [← hW0]; exact (by repeat first | (refine boxed_new' _ _ _ _ ?_; (simp; done)) | refine Boxed.alloc ?_ _)
  have k5 : Boxed W0 (w.heap.size + 5) 27 (.slice A l.length cap) := by rw [← hW0]; exact (by repeat first | (refine boxed_new' _ _ _ _ ?_; (simp; done)) | refine Boxed.alloc ?_ _)
  have k6 : Boxed W0 (w.heap.size + 6) 3 (.int .i64 4) := by rw [← hW0]; exact (by repeat first | (refine boxed_new' _ _ _ _ ?_; (simp; done)) | refine Boxed.alloc ?_ _)
  rw [hW0]
  clear hW0
  refine wpIn_rangeFunc_ownF rfl (by decide) (gf := 82) (lb := #[.pointer (some ⟨w.heap.size + 5, 0, none⟩), .pointer (some ⟨w.heap.size + 6, 0, none⟩)]) rfl trivial (enters_of Try.func82 (by kernel_rfl) rfl)
    (chunk_stops 3 (by decide) (w.heap.size + 5) (w.heap.size + 6) A g o l.length cap HA.out W0 (by omega) (by omega) k5.cell k6.cell hc (by omega)) keepsB_t (keepsB_b (by simp; omega)) (Below.refl _ _) (fun _ => rfl)
    (AllI w l) (AllX w l) (AllI.own w l _ (by omega)) (fun c => AllX.own w l c _ (by omega))
    ⟨k0, k1, k2, by simpa using k4, ⟨_, k3, World.ownsRow_nil _ _ _ _⟩, by simp, ⟨_, k5⟩, ⟨_, k6⟩, hE0⟩
    (fun x => { tmps := #[.slice A l.length cap, undef, .pointer (some ⟨w.heap.size, 0, none⟩), .pointer (some ⟨w.heap.size + 1, 0, none⟩), .pointer (some ⟨w.heap.size + 2, 0, none⟩), .pointer (some ⟨w.heap.size + 3, 0, none⟩), .pointer (some ⟨w.heap.size + 4, 0, none⟩), .slice (some ⟨g, o + 4 * x, none⟩) (min 4 (l.length - 4 * x)) (min 4 (l.length - 4 * x)), undef, undef, .slice A l.length cap, .func (.func 82) #[] #[.pointer (some ⟨w.heap.size + 5, 0, none⟩), .pointer (some ⟨w.heap.size + 6, 0, none⟩)], .slice (some ⟨g, o + 4 * x, none⟩) (min 4 (l.length - 4 * x)) (min 4 (l.length - 4 * x)), undef, undef, undef, undef, undef, undef, undef, undef, undef, undef, undef, undef, undef, undef, undef, undef, undef], defers := [] }) ?assign ?body ?done ?stop
  case assign =>
    intro r x W K hK
    unfold part
    gi_wp2
    exact hK
  case body =>
    rintro r pre x W hI hlen
    obtain ⟨v, hv, hrow⟩ := hI.out
    have hA : Arr W (some ⟨g, o + 4 * x, none⟩) (bs (chunkL l x)) := (HA.out (by omega) ▸ h.ext hI.ext : Arr W (some ⟨g, o, none⟩) (bs l)).chunk x
    have hG : ∀ k, Calls Try.prog 75 #[.slice (some ⟨g, o + 4 * x, none⟩) (min 4 (l.length - 4 * x)) k] W (Gave W (getI (chunkL l x))) := fun k => by
      have := get_any _ k _ W hA (chunkL_mem hl)
      rwa [chunkL_length] at this
    have HG := Lib.hid hG
    clear hG hA
    have hz : ∀ w2, Ext W w2 → w.heap.size + 6 < w2.heap.size := fun w2 hw => by
      obtain ⟨u6, h6⟩ := hI.s6
      have := h6.lt
      have := hw.size
      omega
    have HZ := Lib.hid hz
    clear hz
    gi_wp2_with (first
      | (refine ⟨trivial, ?_⟩; gi_at_call 75; refine (CallsIn.inRound r (callsIn_wide.2 (HG.out _))).mono ?_; rintro e w2 ⟨rfl, hb2⟩; have c3 := (box_ext hv hb2).cell; have c4 := (box_ext hI.at4 hb2).cell; have z2 := HZ.out w2 hb2; have z3 : w.heap.size + 3 < w2.heap.size := (by omega); have z4 : w.heap.size + 4 < w2.heap.size := (by omega); have z0 : w.heap.size < w2.heap.size := (by omega); have z1 : w.heap.size + 1 < w2.heap.size := (by omega); have z22 : w.heap.size + 2 < w2.heap.size := (by omega); have d0 := (box_ext hI.r0 hb2).cell; have f0 := (box_ext hI.r0 hb2).frozen; have d1 := (box_ext hI.r1 hb2).cell; have f1 := (box_ext hI.r1 hb2).frozen; have d2 := (box_ext hI.r2 hb2).cell; have f2 := (box_ext hI.r2 hb2).frozen)
      | (gi_at_builtin; refine wpListIn_append_own _ rfl _ _ 75 rfl w.heap.size 79 i0 (.agg #[.int .i64 0, .int .i64 0, .int .i64 0, .int .i64 0]) 4 32 Try.underlying75 hi hz0 hz1 hz2 rfl (by decide) _ _ _ rfl (((own_ext hrow hb2).alloc _).alloc _) ⟨w2.heap.size + 1, 0, none⟩ 1 1 (getI (chunkL l x)).1.cells rfl rfl (cells_new _ _ _ _ (by simp)) (by simp [Value.oneCell']) (by unfold maxLen; omega) (by omega) (by have := hI.ext.size; have := hb2.size; simp; omega) ?_; intro v' w1 hown' hgrow _; obtain ⟨g', cap', rfl⟩ := ownsRow_succ hown'; have q3 := AllI.keep hb2 _ _ hrow hgrow hv (by decide); have q4 := AllI.keep hb2 _ _ hrow hgrow hI.at4 (by decide); have p3 := q3.cell; have f3 := q3.frozen; have p4 := q4.cell; have f4 := q4.frozen))
    · gi_region_with_o (fail)
      all_goals gi_wp2
      all_goals exact hI.stop hb2 x _ (by simpa using (show ((getI (chunkL l x)).2 != 0) = true by assumption)) _ (by push_cast; omega)
    · exact hI.step hb2 x _ _ hv hrow (by assumption) (by simpa using (show ((getI (chunkL l x)).2 != 0) = false by assumption)) (by assumption) _ (by push_cast; omega)
  case done =>
    rintro D xs W hD rfl hI hK
    obtain ⟨v, hv, hrow⟩ := hI.out
    have c3 := hv.cell
    have c4 := hI.at4.cell
    have d0 := hI.r0.cell
    have f0 := hI.r0.frozen
    have d1 := hI.r1.cell
    have f1 := hI.r1.frozen
    have d2 := hI.r2.cell
    have f2 := hI.r2.frozen
    obtain ⟨e0, e1, e2, e3, e4, e5⟩ := hI.last hrow (4 * (((l.length : Int) + 3) / 4)) hK rfl (by omega) (.deferred none)
    have HI := Lib.hid hI.ok
    have E1 := Lib.hid (And.intro e0 (And.intro e1 (And.intro e2 (And.intro e3 (And.intro e4 e5)))))
    have hO := Arr.own hrow
    clear e0 e1 e2 e3 e4 e5 hrow
    obtain ⟨gA, gc, rfl, -⟩ := hO
    gi_wp2
    gi_region_with_o (fail)
    all_goals gi_wp2
    all_goals
      obtain ⟨e0, e1, e2, e3, e4, e5⟩ := E1.out
      simp only [allW, List.length_range] at e0 e1 e2 e3 e4 e5
      have hs := allS_ok HI.out
      refine ⟨by simp, .inl ⟨_, _, rfl, run_takeDeferred e0, ?_⟩⟩
      have a0 := e1.cell
      have a1 := e2.cell
      have a2 := e3.cell
      refine ⟨.tuple #[.slice gA ((l.length + 3) / 4) gc, .int .i64 (4 * (((l.length : Int) + 3) / 4)), .int .i64 0], by simp [results, Try.results62, go_sem, a0, a1, a2], ?_⟩
      refine ⟨.slice gA ((l.length + 3) / 4) gc, by rw [hs]; simp, ?_, e5⟩
      rw [hs, List.flatMap_map]
      simpa using e4
  case stop =>
    rintro D c pre W hD hp hX hK
    obtain ⟨pre', x, rfl, hok, hx, b1, b2⟩ := hX.what
    obtain rfl := hX.ret
    have hs := allS_no hp hok hx
    have HX := Lib.hid hx
    clear hx hok
    gi_wp2
    refine ⟨by simp, .inl ⟨_, _, rfl, run_takeDeferred hK, ?_⟩⟩
    have hr' : ∀ r, some D = some r → ∃ o : Obj, W.heap[r]? = some o ∧ o.isCells = false := fun r e => by cases e; exact ⟨_, hK, rfl⟩
    have hg := grownBy_putObj' W D (.deferred none)
    have a0 := (boxed_far hX.r0 hg hr').cell
    have a1 := (boxed_far b1 hg hr').cell
    have a2 := (boxed_far b2 hg hr').cell
    refine ⟨.tuple #[.slice none 0 0, .int .i64 ((4 * pre'.length : Nat) : Int), .int .i64 (getI (chunkL l x)).2], by simp [results, Try.results62, go_sem, a0, a1, a2], ?_⟩
    refine ⟨.slice none 0 0, by rw [hs], by rw [hs]; exact World.ownsRow_nil _ _ _ _, ext_far hX.ext hg (fun r e => by cases e; omega)⟩
end Go.Proofs.Ytgfnpcoigooblaa

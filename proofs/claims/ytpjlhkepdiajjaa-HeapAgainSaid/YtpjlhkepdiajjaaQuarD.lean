
/- Package quar: Due. Printed by tool/gen_quard.py. -/
import Derived.Test.YtpjlhkepdiajjaaQuarC
import Derived.Maps.OwnIn
set_option linter.all false
namespace Go.Proofs.Ytpjlhkepdiajjaa
open Go.RowKit Go.Shelf
attribute [local go_sem] seen dstOf boolOf
attribute [local go_sem] Oper.semAt_some

def sumN (L : List HeldD) : Int := (L.map fun h => h.n).sum
theorem sumN_add (L M : List HeldD) : sumN (L ++ M) = sumN L + sumN M := by simp [sumN]
theorem sumN_le {L : List HeldD} (h : ∀ x ∈ L, 0 ≤ x.n ∧ x.n ≤ 16777216) : 0 ≤ sumN L ∧ sumN L ≤ 16777216 * L.length := by
  induction L with
  | nil => simp [sumN]
  | cons x L ih =>
    have h1 := h x List.mem_cons_self
    have h2 := ih fun y hy => h y (List.mem_cons_of_mem _ hy)
    have e : sumN (x :: L) = x.n + sumN L := rfl
    rw [e, List.length_cons]
    constructor
    · omega
    · push_cast
      omega
theorem due_any (p : Nat) (now : Int) (w : World) : Calls Try.prog 55 #[.pointer (some ⟨p, 0, none⟩), .int .i64 now] w fun e w' => e = .returned (.func (.func 66) #[] #[.pointer (some ⟨w.heap.size, 0, none⟩), .pointer (some ⟨w.heap.size + 1, 0, none⟩)]) ∧ w' = (w.alloc (.cells #[.pointer (some ⟨p, 0, none⟩)] 56)).alloc (.cells #[.int .i64 now] 2) := by
  go_enter Try.func55, Try.ntmps55
  go_wp2_with fail
  go_ret
  exact ⟨by simp, rfl⟩
theorem MidRow.obj {W : World} {base size n : Nat} {e : TypeId} {v : Value} {xs : List Value} (h : MidRow W base e size v n xs) {b : Nat} (hb : v.ownBlock = some b) : ∃ C f, W.heap[b]? = some (.cells C e f) := by
  rcases h.2 with ⟨rfl, -⟩ | ⟨g, o, cap, cur, rfl, -, h3, -⟩
  · simp [Value.ownBlock] at hb
  · simp only [Value.ownBlock, Option.some.injEq] at hb
    subst hb
    exact ⟨_, _, h3⟩
theorem MidRow.at {W W' : World} {base size n : Nat} {e : TypeId} {v : Value} {xs : List Value} (h : MidRow W base e size v n xs) (hk : ∀ b, v.ownBlock = some b → W'.heap[b]? = W.heap[b]?) : MidRow W' base e size v n xs := by
  refine ⟨h.1, ?_⟩
  rcases h.2 with h1 | ⟨g, o, cap, cur, h1, h2, h3, h4⟩
  · exact .inl h1
  · exact .inr ⟨g, o, cap, cur, h1, h2, (hk g (by rw [h1]; rfl)).trans h3, h4⟩
theorem far_row {W W' : World} {row : Option Nat} {k : Nat} {C : Array Value} {t : TypeId} {f : Nat × Nat} (hk : W.heap[k]? = some (.cells C t f)) (hg : W.grownBy W' row) (hr : ∀ r, row = some r → ∃ o : Obj, W.heap[r]? = some o ∧ o.isCells = false) : W'.heap[k]? = some (.cells C t f) :=
  (hg.block k (Array.getElem?_eq_some_iff.1 hk).1 (fun e => by
    obtain ⟨o, ho, hc⟩ := hr k e.symm
    rw [hk] at ho
    cases ho
    cases hc)).trans hk
theorem far_own {W W' : World} {row : Option Nat} {B n sz : Nat} {t : TypeId} {v : Value} {xs : List Value} (ho : W.ownsRow B t sz v n xs) (hg : W.grownBy W' row) (hr : ∀ r, row = some r → ∃ o : Obj, W.heap[r]? = some o ∧ o.isCells = false) : W'.ownsRow B t sz v n xs := by
  obtain ⟨hl, ho⟩ := ho
  refine ⟨hl, ?_⟩
  rcases ho with ho | ⟨g, cap, cur, h1, h2, h3, h4⟩
  · exact .inl ho
  · exact .inr ⟨g, cap, cur, h1, h2, far_row h3 hg hr, h4⟩
theorem far_mid {W W' : World} {row : Option Nat} {B n sz : Nat} {t : TypeId} {v : Value} {xs : List Value} (ho : MidRow W B t sz v n xs) (hg : W.grownBy W' row) (hr : ∀ r, row = some r → ∃ o : Obj, W.heap[r]? = some o ∧ o.isCells = false) : MidRow W' B t sz v n xs := by
  obtain ⟨hl, ho⟩ := ho
  refine ⟨hl, ?_⟩
  rcases ho with ho | ⟨g, o, cap, cur, h1, h2, h3, h4⟩
  · exact .inl ho
  · exact .inr ⟨g, o, cap, cur, h1, h2, far_row h3 hg hr, h4⟩
/-- What stands between two rounds of Due's loop. -/
structure DueIn (w : World) (p : Nat) (full by0 : Int) (base : Nat) (v : Value) (L : List HeldD) (now : Int) (pre : List HeldD) (V : World) : Prop where
  kept : Kept p none w V
  q : QuarAt V p full (by0 - sumN pre) base v L
  b0 : V.heap[w.heap.size]? = some (.cells #[.pointer (some ⟨p, 0, none⟩)] 56)
  b2 : V.heap[w.heap.size + 2]? = some (.cells #[.pointer (some ⟨p, 0, none⟩)] 56)
  b3 : V.heap[w.heap.size + 3]? = some (.cells #[.int .i64 now] 2)
  out : ∃ vo, V.heap[w.heap.size + 1]? = some (.cells #[vo] 80) ∧ V.ownsRow w.heap.size 79 3 vo pre.length (heldC pre)
  pre : pre = L.take pre.length
section
variable {w V V' : World} {p : Nat} {full by0 now : Int} {base : Nat} {v : Value} {L pre : List HeldD}
theorem DueIn.grown {row : Option Nat} (h : DueIn w p full by0 base v L now pre V) (hg : V.grownBy V' row) (hr : ∀ r, row = some r → w.heap.size ≤ r ∧ ∃ o : Obj, V.heap[r]? = some o ∧ o.isCells = false) : DueIn w p full by0 base v L now pre V' := by
  have hr' : ∀ r, row = some r → ∃ o : Obj, V.heap[r]? = some o ∧ o.isCells = false := fun r e => (hr r e).2
  obtain ⟨vo, h1, h2⟩ := h.out
  exact ⟨⟨hg.os.trans h.kept.os, hg.tape.trans h.kept.tape, hg.output.trans h.kept.output, Nat.le_trans h.kept.size hg.size, fun k hk hp hn => (hg.block k (Nat.lt_of_lt_of_le hk h.kept.size) (fun e => by have := (hr k e.symm).1; omega)).trans (h.kept.block k hk hp hn)⟩,
    ⟨far_row h.q.blk hg hr', far_mid h.q.row hg hr'⟩, far_row h.b0 hg hr', far_row h.b2 hg hr', far_row h.b3 hg hr', ⟨vo, far_row h1 hg hr', far_own h2 hg hr'⟩, h.pre⟩
theorem DueIn.ext (h : DueIn w p full by0 base v L now pre V) (e : Ext V V') : DueIn w p full by0 base v L now pre V' :=
  h.grown (row := none) ⟨e.os, e.tape, e.output, e.size, fun k hk _ => e.block k hk⟩ (fun r e => by cases e)
end
theorem leaves_marks {F : Fence} {n : Nat} {P : Program} {fn : Func} {tmps : Array Value} {R : Ending → World → Prop} (Φ : World → Prop) (p : Nat → Prop) (hs : ∀ W D, Φ W → p D → W.heap[D]? = some (.deferred (some [])) → Φ (W.putObj D (.deferred none))) (hf : ∀ W, Φ W → LeavesInM F n P fn tmps R [] .returning W) :
    ∀ (Ds : List Nat) (W : World), Φ W → Ds.Nodup → (∀ D ∈ Ds, p D ∧ W.heap[D]? = some (.deferred (some []))) → LeavesInM F n P fn tmps R (Ds.map fun D => { target := .collected D, args := #[] }) .returning W
  | [], W, h, _, _ => hf W h
  | D :: Ds, W, h, hn, hD => by
    have hd := hD D List.mem_cons_self
    have hn' := List.nodup_cons.1 hn
    refine ⟨by simp, .inl ⟨D, _, rfl, run_takeDeferred hd.2, leaves_marks Φ p hs hf Ds _ (hs W D h hd.1 hd.2) hn'.2 fun E hE => ?_⟩⟩
    exact ⟨(hD E (List.mem_cons_of_mem _ hE)).1, (World.putObj_heap_other (fun e => hn'.1 (by rw [← e]; exact hE))).trans (hD E (List.mem_cons_of_mem _ hE)).2⟩
def DueQ (p : Nat) (full bytes : Int) (base : Nat) (v : Value) (L : List HeldD) (now : Int) (w : World) (e : Ending) (w' : World) : Prop :=
  ∃ vo v', e = .returned vo ∧ w'.ownsRow w.heap.size 79 3 vo (dueL now L).length (heldC (dueL now L)) ∧ QuarAt w' p full (bytes - sumN (dueL now L)) base v' (L.drop (dueL now L).length) ∧ v'.ownBlock = v.ownBlock ∧ Kept p none w w'
set_option maxHeartbeats 4000000 in
set_option maxRecDepth 100000 in
theorem dueQ_any (p : Nat) (full bytes now : Int) (base : Nat) (v : Value) (L : List HeldD) (w : World) (H : QuarAt w p full bytes base v L) (hL : L.length ≤ 100000) (hb0 : -1125899906842624 ≤ bytes) (hb1 : bytes ≤ 1125899906842624)
    (hok : ∀ h ∈ L, i64ok' h.time ∧ 0 ≤ h.n ∧ h.n ≤ 16777216) : Calls Try.prog 37 #[.pointer (some ⟨p, 0, none⟩), .int .i64 now] w (DueQ p full bytes base v L now w) := by
  obtain ⟨ci, hci, hci0, hci1, hci2⟩ := info_parts infoHeld
  have hmix : Try.prog.follows .mixedOrders = true := by kernel_rfl
  have HQ := Lib.hid (And.intro H hok)
  have hp := H.lt
  clear H hok
  refine (callsIn_wide (n := 4)).1 ?_
  refine callsIn_of_wp_marks Try.func37 rfl trivial ?_ rfl
  simp only [Try.ntmps37, List.size_toArray, List.length_cons, List.length_nil, Nat.reduceAdd, Nat.reduceSub, Array.replicate_succ, Array.replicate_zero, List.push_toArray, List.append_toArray, List.nil_append, List.cons_append]
  refine wpIn_wide.2 ?_
  go_wp2_with fail
  refine (due_any p now _).mono ?_
  rintro _ W1 ⟨rfl, hW1⟩
  have E1 : Ext w W1 := by rw [hW1]; exact (by repeat first | (with_reducible exact Below.refl _ _) | (with_reducible apply Ext.alloc) | (with_reducible apply Ext.drew) | (with_reducible apply Ext.drewN) | (with_reducible refine Ext.set ?_ (by simp)))
  have s1 : W1.heap.size = w.heap.size + 4 := by rw [hW1]; simp
  have h0 : W1.heap[w.heap.size]? = some (.cells #[.pointer (some ⟨p, 0, none⟩)] 56) := by rw [hW1]; exact new_at (w := w) rfl (by repeat first | (with_reducible exact Below.refl _ _) | (with_reducible apply Ext.alloc) | (with_reducible apply Ext.drew) | (with_reducible apply Ext.drewN) | (with_reducible refine Ext.set ?_ (by simp)))
  have h1 : W1.heap[w.heap.size + 1]? = some (.cells #[.slice none 0 0] 80) := by rw [hW1]; exact new_at (w := w.alloc _) (by simp) (by repeat first | (with_reducible exact Below.refl _ _) | (with_reducible apply Ext.alloc) | (with_reducible apply Ext.drew) | (with_reducible apply Ext.drewN) | (with_reducible refine Ext.set ?_ (by simp)))
  have h2 : W1.heap[w.heap.size + 2]? = some (.cells #[.pointer (some ⟨p, 0, none⟩)] 56) := by rw [hW1]; exact new_at (w := (w.alloc _).alloc _) (by simp) (by repeat first | (with_reducible exact Below.refl _ _) | (with_reducible apply Ext.alloc) | (with_reducible apply Ext.drew) | (with_reducible apply Ext.drewN) | (with_reducible refine Ext.set ?_ (by simp)))
  have h3 : W1.heap[w.heap.size + 3]? = some (.cells #[.int .i64 now] 2) := by rw [hW1]; exact new_at (w := ((w.alloc _).alloc _).alloc _) (by simp) (by repeat first | (with_reducible exact Below.refl _ _) | (with_reducible apply Ext.alloc) | (with_reducible apply Ext.drew) | (with_reducible apply Ext.drewN) | (with_reducible refine Ext.set ?_ (by simp)))
  have hin : DueIn w p full bytes base v L now [] W1 := ⟨Kept.of_ext E1, by simpa [sumN] using HQ.out.1.ext E1, h0, h2, h3, ⟨_, h1, World.ownsRow_nil _ _ _ _⟩, by simp⟩
  have HI := Lib.hid hin
  clear hW1 E1 h0 h1 h2 h3 hin
  go_wp2_with fail
  refine (wpIn_wide (n := 4)).1 ?_
  refine wpIn_range_inv (α := HeldD) rfl (by decide) (gf := 66) (lb := #[.pointer (some ⟨w.heap.size + 2, 0, none⟩), .pointer (some ⟨w.heap.size + 3, 0, none⟩)]) (by simp [go_sem]) trivial (enters_of Try.func66 (by kernel_rfl) rfl)
    (due_stops 3 (by decide) (w.heap.size + 2) (w.heap.size + 3) p base 0 full now v L (fun h hh => (HQ.out.2 h hh).1) hL) (Nat.zero_le _) (fun _ => rfl)
    (fun pre V => DueIn w p full bytes base v L now pre V)
    (fun s X Y row hs hg hr => hs.grown hg (fun r e => ⟨by have := (hr r e).1; omega, (hr r e).2⟩))
    (fun pre V h => ⟨cellAt h.b2 0 _ rfl, cellAt h.b3 0 _ rfl, _, h.q⟩) HI.out
    (fun x a' V => ∃ (Bx : Nat) (z3 z4 z7 z8 z9 z10 z11 z12 z13 z14 z15 z16 z17 z18 z19 z20 z21 z22 z23 z24 z25 z26 z27 z28 z29 z30 z31 z32 z33 z34 : Value), V.heap[Bx]? = some (.cells x.cells.toArray 79) ∧ w.heap.size + 4 ≤ Bx ∧ (∀ vo, V.heap[w.heap.size + 1]? = some (.cells #[vo] 80) → vo.ownBlock ≠ some Bx) ∧ a' = { tmps := #[.pointer (some ⟨p, 0, none⟩), .int .i64 now, .pointer (some ⟨w.heap.size, 0, none⟩), z3, z4, .pointer (some ⟨w.heap.size + 1, 0, none⟩), .pointer (some ⟨Bx, 0, none⟩), z7, z8, z9, z10, z11, z12, z13, z14, z15, z16, z17, z18, z19, z20, z21, z22, z23, z24, z25, z26, z27, z28, z29, z30, z31, z32, z33, z34], defers := [] })
    (fun x a' s X Y row hs hg hr => by obtain ⟨Bx, z3, z4, z7, z8, z9, z10, z11, z12, z13, z14, z15, z16, z17, z18, z19, z20, z21, z22, z23, z24, z25, z26, z27, z28, z29, z30, z31, z32, z33, z34, h1, h2, h3, h4⟩ := hs; exact ⟨Bx, z3, z4, z7, z8, z9, z10, z11, z12, z13, z14, z15, z16, z17, z18, z19, z20, z21, z22, z23, z24, z25, z26, z27, z28, z29, z30, z31, z32, z33, z34, far_row h1 hg (fun r e => (hr r e).2), h2, fun vo hv => h3 vo ((hg.block _ (by have := (Array.getElem?_eq_some_iff.1 h1).1; omega) (fun e => by have := (hr _ e.symm).1; omega)).symm.trans hv), h4⟩) ?assign ?body ?done
  case assign =>
    rintro r pre x V K hI hok hK
    gi_wp2
    exact hK _ _ ⟨V.heap.size, _, _, _, _, _, _, _, _, _, _, _, _, _, _, _, _, _, _, _, _, _, _, _, _, _, _, _, _, _, _, heap_alloc_new V _, by have := (Array.getElem?_eq_some_iff.1 hI.b3).1; omega, fun vo hv => by
      obtain ⟨vo', h5, h6⟩ := hI.out
      have h7 := (Below.heap_alloc V (.cells x.cells.toArray 79) _ (Array.getElem?_eq_some_iff.1 h5).1).symm.trans hv
      rw [h5] at h7
      cases h7
      intro e
      have := (h6.lt _ e).2
      omega, rfl⟩ (hI.ext (by repeat first | (with_reducible exact Below.refl _ _) | (with_reducible apply Ext.alloc) | (with_reducible apply Ext.drew) | (with_reducible apply Ext.drewN) | (with_reducible refine Ext.set ?_ (by simp)))) ((KeepsOthers.alloc _ _).from _)
  case body =>
    rintro r pre x a' V hI hok ⟨Bx, z3, z4, z7, z8, z9, z10, z11, z12, z13, z14, z15, z16, z17, z18, z19, z20, z21, z22, z23, z24, z25, z26, z27, z28, z29, z30, z31, z32, z33, z34, hBx, hBl, hBn, rfl⟩
    obtain ⟨vo, hvo, hown⟩ := hI.out
    obtain ⟨Ao, co, rfl, hco, -⟩ := Arr.own hown
    obtain ⟨hml, hpx⟩ := hok
    obtain ⟨xa, xn, xt⟩ := x
    have hxL : (⟨xa, xn, xt⟩ : HeldD) ∈ L := List.mem_of_mem_take (by rw [← hpx]; simp)
    have hxn := (HQ.out.2 _ hxL).2
    have hpn := sumN_le (L := pre) (fun y hy => (HQ.out.2 y (by rw [hI.pre] at hy; exact List.mem_of_mem_take hy)).2)
    have hne1 : Value.ownBlock (.slice Ao pre.length co) ≠ some (w.heap.size + 1) := (MidRow.own hown).ne hvo (by decide)
    have hneB := hBn _ hvo
    clear hBn
    have hsz : w.heap.size + 4 ≤ V.heap.size := (Array.getElem?_eq_some_iff.1 hI.b3).1
    obtain ⟨m, hm⟩ : ∃ m, m = pre.length := ⟨_, rfl⟩
    rw [← hm] at hvo hown hml hpx hpn hne1 hneB
    have hx5 : IntKind.i64.wrap (bytes - sumN pre - xn) = bytes - sumN pre - xn := IntWalk.i64_in _ (by simp only at hxn; omega)
    obtain ⟨X, hX⟩ : ∃ X, X = bytes - sumN pre := ⟨_, rfl⟩
    have hq := hI.q.blk
    rw [← hX] at hq hx5
    have q5 := cellAt hvo 0 (.slice Ao m co) rfl
    have l5 := cell_lt q5
    simp only at l5
    obtain ⟨y0, y1, y2⟩ := lie3 hBx (Below.refl _ V)
    have l6 := cell_lt y0
    simp only at l6
    have H4 := Lib.hid (And.intro hI (And.intro hvo (And.intro hown (And.intro hpx (And.intro hX (And.intro hm hBx))))))
    have HL := Lib.hid (And.intro hq hxn)
    clear hI hown hpx hX hm hBx hpn hq hxn hxL
    gi_wp2_with (gi_at_builtin; refine wpListIn_append_own_at _ rfl (.tmp 11) (.tmp 13) 80 rfl w.heap.size 79 ci (.agg #[.int .i64 0, .int .i64 0, .int .i64 0]) 3 24 Try.underlying80 hci hci0 hci1 hci2 rfl (by decide) _ m _ rfl (own_ext H4.out.2.2.1 (by repeat first | (with_reducible exact Below.refl _ _) | (with_reducible apply Ext.alloc) | (with_reducible apply Ext.drew) | (with_reducible apply Ext.drewN) | (with_reducible refine Ext.set ?_ (by simp)))) ⟨V.heap.size, 0, none⟩ 1 1 (HeldD.cells ⟨xa, xn, xt⟩) rfl rfl (cells_new _ _ _ _ rfl) (by simp [Value.oneCell']) (by unfold maxLen; omega) (by omega) (by simp; omega) ?_; intro v' w4 ho hg _ hw; obtain ⟨A4, c4, rfl, hc4, -⟩ := Arr.own ho; have hk4 : w4.heap[w.heap.size + 1]? = some (.cells #[.slice Ao m co] 80) := (hg.block _ (by simp; omega) (fun e => hne1 e.symm)).trans ((Below.heap_alloc _ _ _ (by omega)).trans H4.out.2.1); have fz4 := frozen_row' hk4; have q6 := cellAt hk4 0 _ rfl; have l7 := cell_lt q6; simp only at l7)
    obtain ⟨W5, hW5⟩ : ∃ W5, W5 = w4.setCell ⟨w.heap.size + 1, 0, none⟩ (.slice A4 (m + 1) c4) := ⟨_, rfl⟩
    rw [← hW5]
    have hb : ∀ k, k < V.heap.size → k ≠ w.heap.size + 1 → Value.ownBlock (.slice Ao m co) ≠ some k → W5.heap[k]? = V.heap[k]? := fun k hk h1 h2 => by rw [hW5]; exact (Below.heap_setCell _ _ _ _ h1).trans ((hg.block _ (by simp; omega) (fun e => h2 e.symm)).trans (Below.heap_alloc _ _ _ hk))
    have hmo := MidRow.own H4.out.2.2.1
    have u0 : W5.heap[w.heap.size]? = some (.cells #[.pointer (some ⟨p, 0, none⟩)] 56) := (hb _ (by omega) (by omega) (hmo.ne H4.out.1.b0 (by decide))).trans H4.out.1.b0
    have u2 : W5.heap[w.heap.size + 2]? = some (.cells #[.pointer (some ⟨p, 0, none⟩)] 56) := (hb _ (by omega) (by omega) (hmo.ne H4.out.1.b2 (by decide))).trans H4.out.1.b2
    have u3 : W5.heap[w.heap.size + 3]? = some (.cells #[.int .i64 now] 2) := (hb _ (by omega) (by omega) (hmo.ne H4.out.1.b3 (by decide))).trans H4.out.1.b3
    have uq : W5.heap[p]? = some (.cells #[.int .i64 full, .int .i64 X, v] 96) := (hb _ (by omega) (by omega) (hmo.ne HL.out.1 (by decide))).trans HL.out.1
    have ux : W5.heap[Bx]? = some (.cells #[.int .i64 xa, .int .i64 xn, .int .i64 xt] 79) := (hb _ (Array.getElem?_eq_some_iff.1 H4.out.2.2.2.2.2.2).1 (by omega) hneB).trans H4.out.2.2.2.2.2.2
    have uo : W5.heap[w.heap.size + 1]? = some (.cells #[.slice A4 (m + 1) c4] 80) := by rw [hW5]; exact set_row (o := 0) hk4 _
    have uw : W5.ownsRow w.heap.size 79 3 (.slice A4 (m + 1) c4) (m + 1) (heldC pre ++ HeldD.cells ⟨xa, xn, xt⟩) := by
      rw [hW5]
      exact (Only.set (B := 0) (T := [80]) (o := 0) hk4 (Nat.zero_le _) (by simp) _).own ho (by decide)
    have hsW : V.heap.size ≤ W5.heap.size := by rw [hW5]; have := hg.size; simp at this ⊢; omega
    have um : MidRow W5 base 79 3 v L.length (heldC L) := H4.out.1.q.row.at fun b hb' => by
      have h8 := (HQ.out.1.row.lt b hb').2
      exact hb b (by omega) (by omega) (fun e => by have := (H4.out.2.2.1.lt b e).1; omega)
    have uk : Kept p none w W5 := by
      have hK := H4.out.1.kept
      have h9 : ∀ k, k < w.heap.size → k ≠ p → some k ≠ none → W5.heap[k]? = w.heap[k]? := fun k hk hp hn => (hb k (by omega) (by omega) (fun e => by have := (H4.out.2.2.1.lt k e).1; omega)).trans (hK.block k hk hp hn)
      refine ⟨?_, ?_, ?_, by omega, h9⟩
      · rw [hW5]; exact hg.os.trans hK.os
      · rw [hW5]; exact hg.tape.trans hK.tape
      · rw [hW5]; exact hg.output.trans hK.output
    have uf : ∀ (k : Nat) (o : Obj), V.heap[k]? = some o → o.isCells = false → W5.heap[k]? = some o := fun k o hk hc => by
      refine (hb k (Array.getElem?_eq_some_iff.1 hk).1 (fun e => ?_) (fun e => ?_)).trans hk
      · rw [e, H4.out.2.1] at hk; cases hk; cases hc
      · obtain ⟨C, f, h8⟩ := hmo.obj e
        rw [h8] at hk; cases hk; cases hc
    have U := Lib.hid (And.intro u0 (And.intro u2 (And.intro u3 (And.intro uq (And.intro uo (And.intro uw (And.intro um (And.intro uk (And.intro uf hsW)))))))))
    have f5 := frozen_row' uq
    have c0 := cellAt u0 0 _ rfl
    obtain ⟨d0, d1, d2⟩ := lie3 uq (Below.refl _ W5)
    obtain ⟨g0, g1, g2⟩ := lie3 ux (Below.refl _ W5)
    have l8 := cell_lt c0
    have l9 := cell_lt d1
    have l10 := cell_lt g1
    simp only at l8 l9 l10
    have FIN : Hid (KeepsFrom W1.heap.size V (W5.setCell ⟨p, 1, none⟩ (.int .i64 (X - xn))).drew ∧ DueIn w p full bytes base v L now (pre ++ [⟨xa, xn, xt⟩]) (W5.setCell ⟨p, 1, none⟩ (.int .i64 (X - xn))).drew) := by
      have hS : W5.grownBy (W5.setCell ⟨p, 1, none⟩ (.int .i64 (X - xn))) (some p) := set_gr
      have hne : ∀ {k : Nat} {C : Array Value} {t : TypeId} {f : Nat × Nat}, W5.heap[k]? = some (.cells C t f) → t ≠ 96 → k ≠ p := fun hk ht e => by rw [e, uq] at hk; cases hk; exact ht rfl
      have hk : ∀ {k : Nat} {C : Array Value} {t : TypeId} {f : Nat × Nat}, W5.heap[k]? = some (.cells C t f) → t ≠ 96 → (W5.setCell ⟨p, 1, none⟩ (.int .i64 (X - xn))).drew.heap[k]? = some (.cells C t f) := fun hk ht => (Below.heap_setCell W5 ⟨p, 1, none⟩ (.int .i64 (X - xn)) _ (hne hk ht)).trans hk
      refine Lib.hid ⟨⟨by simpa using hsW, fun k o _ hk' hc => ?_⟩, ⟨⟨uk.os, uk.tape, uk.output, by simpa using uk.size, fun k hk' hp' hn => (Below.heap_setCell W5 ⟨p, 1, none⟩ (.int .i64 (X - xn)) _ hp').trans (uk.block k hk' hp' hn)⟩, ⟨?_, ?_⟩, hk u0 (by decide), hk u2 (by decide), hk u3 (by decide), ⟨.slice A4 (m + 1) c4, hk uo (by decide), ?_⟩, ?_⟩⟩
      · exact (Below.heap_setCell W5 ⟨p, 1, none⟩ (.int .i64 (X - xn)) _ (fun e => by rw [e, HL.out.1] at hk'; cases hk'; cases hc)).trans (uf k o hk' hc)
      · have e : bytes - sumN (pre ++ [(⟨xa, xn, xt⟩ : HeldD)]) = X - xn := by
          rw [sumN_add, H4.out.2.2.2.2.1]
          show bytes - (sumN pre + (xn + 0)) = _
          omega
        rw [e]
        exact set_row (o := 1) uq _
      · exact um.at fun b hb' => Below.heap_setCell W5 ⟨p, 1, none⟩ (.int .i64 (X - xn)) _ (fun e => um.ne uq (by decide) (by rw [hb', e]))
      · have e1 : (pre ++ [(⟨xa, xn, xt⟩ : HeldD)]).length = m + 1 := by rw [List.length_append, H4.out.2.2.2.2.2.1]; rfl
        have e2 : heldC (pre ++ [(⟨xa, xn, xt⟩ : HeldD)]) = heldC pre ++ HeldD.cells ⟨xa, xn, xt⟩ := by rw [heldC_app]; rfl
        rw [e1, e2]
        exact (Only.set (B := 0) (T := [96]) (o := 1) uq (Nat.zero_le _) (by simp) _).own uw (by decide)
      · have e1 : (pre ++ [(⟨xa, xn, xt⟩ : HeldD)]).length = m + 1 := by rw [List.length_append, H4.out.2.2.2.2.2.1]; rfl
        rw [e1]
        exact H4.out.2.2.2.1
    clear hW5 hb hmo u0 u2 u3 uq ux uo uw um uk uf hg ho hk4 fz4 q6 l7 y0 y1 y2 l6 q5 l5 hw
    gi_region
    all_goals gi_wp2
    all_goals exact ⟨rfl, FIN.out.1, FIN.out.2⟩
  case done =>
    rintro D xs V hD hS hI hd
    obtain ⟨vo, hvo, hown⟩ := hI.out
    obtain ⟨Ao, co, rfl, hco, -⟩ := Arr.own hown
    have hne1 : Value.ownBlock (.slice Ao xs.length co) ≠ some (w.heap.size + 1) := (MidRow.own hown).ne hvo (by decide)
    have hKL : xs.length ≤ L.length := by rw [hS]; exact (List.takeWhile_prefix _).length_le
    obtain ⟨A, c, rfl, hc0, hc1, -⟩ := hI.q.row.arr
    have hq := hI.q.blk
    have f5 := frozen_row' hq
    have c0 := cellAt hI.b0 0 _ rfl
    have c1 := cellAt hvo 0 _ rfl
    obtain ⟨d0, d1, d2⟩ := lie3 hq (Below.refl _ V)
    have l8 := cell_lt c0
    have l9 := cell_lt d1
    have l10 := cell_lt c1
    simp only at l8 l9 l10
    have H5 := Lib.hid (And.intro hI (And.intro hvo (And.intro hown (And.intro hS hd))))
    clear hI hvo hown hS hd hq
    obtain ⟨k, hk⟩ : ∃ k, k = xs.length := ⟨_, rfl⟩
    rw [← hk] at hco hne1 hKL c1
    obtain ⟨n, hn⟩ : ∃ n, n = L.length := ⟨_, rfl⟩
    rw [← hn] at hKL hc0 d2 hL
    have HK := Lib.hid (And.intro hk hn)
    clear hk hn
    cases A with
    | none =>
      go_wp2_with fail
      go_region
      obtain ⟨A2, hA2⟩ : ∃ A2 : Option Addr, A2 = none := ⟨_, rfl⟩
      rw [← hA2]
      obtain ⟨W6, hW6⟩ : ∃ W6, W6 = (V.setCell ⟨p, 2, none⟩ (.slice A2 (n - k) (c - k))).drew := ⟨_, rfl⟩
      rw [← hW6]
      have hcut : MidRow V base 79 3 (.slice A2 (n - k) (c - k)) (n - k) (heldC (L.drop k)) := by
        rw [← heldC_drop]
        have h6 := H5.out.1.q.row
        rw [← HK.out.2] at h6
        exact h6.cut hKL A2 (.inl ⟨rfl, hA2⟩)
      have hob : Value.ownBlock (.slice A2 (n - k) (c - k)) = Value.ownBlock (.slice none L.length c) := by
        rw [hA2]
        rfl
      have hoth : ∀ j, j ≠ p → W6.heap[j]? = V.heap[j]? := fun j hj => by rw [hW6]; exact Below.heap_setCell V ⟨p, 2, none⟩ _ j hj
      have hnp : ∀ {j : Nat} {C : Array Value} {t : TypeId} {f : Nat × Nat}, V.heap[j]? = some (.cells C t f) → t ≠ 96 → W6.heap[j]? = some (.cells C t f) := fun hj ht => (hoth _ (fun e => by rw [e, H5.out.1.q.blk] at hj; cases hj; exact ht rfl)).trans hj
      have PHI : Hid (W6.ownsRow w.heap.size 79 3 (.slice Ao k co) k (heldC xs) ∧ QuarAt W6 p full (bytes - sumN xs) base (.slice A2 (n - k) (c - k)) (L.drop k) ∧ Kept p none w W6) := by
        have hK := H5.out.1.kept
        refine Lib.hid ⟨?_, ⟨?_, ?_⟩, ?_⟩
        · have h7 := H5.out.2.2.1
          rw [← HK.out.1] at h7
          rw [hW6]
          exact (Only.set (B := 0) (T := [96]) (o := 2) H5.out.1.q.blk (Nat.zero_le _) (by simp) _).own h7 (by decide)
        · rw [hW6]; exact set_row (o := 2) H5.out.1.q.blk _
        · rw [show (L.drop k).length = n - k by rw [List.length_drop, ← HK.out.2]]
          exact hcut.at fun b hb => hoth b (fun e => hcut.ne H5.out.1.q.blk (by decide) (by rw [hb, e]))
        · refine ⟨?_, ?_, ?_, ?_, fun j hj hp' hn => (hoth j hp').trans (hK.block j hj hp' hn)⟩
          · rw [hW6]; exact hK.os
          · rw [hW6]; exact hK.tape
          · rw [hW6]; exact hK.output
          · rw [hW6]; simpa using hK.size
      have h6 := hnp H5.out.2.1 (by decide)
      rw [← HK.out.1] at h6
      have c6 := cellAt h6 0 _ rfl
      have l6 := cell_lt c6
      simp only at l6
      have hD6 : W6.heap[D]? = some (.deferred (some [])) := (hoth _ (fun e => by have := H5.out.2.2.2.2; rw [e, H5.out.1.q.blk] at this; cases this)).trans H5.out.2.2.2.2
      have HD := Lib.hid (And.intro hD6 hob)
      clear hA2 hW6 hcut hob hoth hnp h6 hD6 f5 c0 c1 d0 d1 d2 l8 l9 l10
      go_wp2_with fail
      refine leaves_marks (fun V => V.ownsRow w.heap.size 79 3 (.slice Ao k co) k (heldC xs) ∧ QuarAt V p full (bytes - sumN xs) base (.slice A2 (n - k) (c - k)) (L.drop k) ∧ Kept p none w V) (fun D => w.heap.size ≤ D) (fun V D hV hD hd => ?_) (fun V hV => ?_) [D] W6 PHI.out (by simp) (fun E hE => by rw [List.mem_singleton.1 hE]; exact ⟨by omega, HD.out.1⟩)
      · have hg := grownBy_putObj' V D (.deferred none)
        have hr : ∀ r, some D = some r → ∃ o : Obj, V.heap[r]? = some o ∧ o.isCells = false := fun r e => by cases e; exact ⟨_, hd, rfl⟩
        exact ⟨far_own hV.1 hg hr, ⟨far_row hV.2.1.blk hg hr, far_mid hV.2.1.row hg hr⟩, hV.2.2.os, hV.2.2.tape, hV.2.2.output, by simpa using hV.2.2.size, fun j hj hp' hn => (World.putObj_heap_other (by omega)).trans (hV.2.2.block j hj hp' hn)⟩
      · refine ⟨_, results_tmp rfl _ _ _, _, _, rfl, ?_, ?_, HD.out.2, hV.2.2⟩
        · rw [← H5.out.2.2.2.1, ← HK.out.1]; exact hV.1
        · rw [← H5.out.2.2.2.1, ← HK.out.1]; exact hV.2.1
    | some a =>
      obtain ⟨g, o, sp⟩ := a
      go_wp2_with fail
      go_region
      have HCU : Hid ((some (⟨g, o, sp⟩ : Addr) = none ∧ (if c = k then some (⟨g, o, sp⟩ : Addr) else some ((⟨g, o, sp⟩ : Addr).add (k * 3))) = none) ∨ ∃ g' o', some (⟨g, o, sp⟩ : Addr) = some ⟨g', o', none⟩ ∧ ((if c = k then some (⟨g, o, sp⟩ : Addr) else some ((⟨g, o, sp⟩ : Addr).add (k * 3))) = some ⟨g', o' + k * 3, none⟩ ∨ c = k ∧ (if c = k then some (⟨g, o, sp⟩ : Addr) else some ((⟨g, o, sp⟩ : Addr).add (k * 3))) = some ⟨g', o', none⟩)) := by
        refine Lib.hid (.inr ?_)
        rcases H5.out.1.q.row.2 with ⟨h, -⟩ | ⟨g', o', cap, cur, h, -⟩
        · simp at h
        · simp only [Value.slice.injEq, Option.some.injEq] at h
          obtain ⟨h, -, -⟩ := h
          refine ⟨g', o', by rw [h], ?_⟩
          rw [h]
          by_cases hck : c = k
          · exact .inr ⟨hck, by rw [if_pos hck]⟩
          · left
            rw [if_neg hck]
            unfold Addr.add
            split
            · rename_i h0
              simp only [h0, Nat.add_zero]
            · rfl
      obtain ⟨A2, hA2⟩ : ∃ A2 : Option Addr, A2 = (if c = k then some (⟨g, o, sp⟩ : Addr) else some ((⟨g, o, sp⟩ : Addr).add (k * 3))) := ⟨_, rfl⟩
      rw [← hA2]
      obtain ⟨W6, hW6⟩ : ∃ W6, W6 = (V.setCell ⟨p, 2, none⟩ (.slice A2 (n - k) (c - k))).drew := ⟨_, rfl⟩
      rw [← hW6]
      have hcut : MidRow V base 79 3 (.slice A2 (n - k) (c - k)) (n - k) (heldC (L.drop k)) := by
        rw [← heldC_drop]
        have h6 := H5.out.1.q.row
        rw [← HK.out.2] at h6
        exact h6.cut hKL A2 (by rw [hA2]; exact HCU.out)
      have hob : Value.ownBlock (.slice A2 (n - k) (c - k)) = Value.ownBlock (.slice (some ⟨g, o, sp⟩) L.length c) := by
        rw [hA2]
        split
        · rfl
        · show some ((⟨g, o, sp⟩ : Addr).add (k * 3)).block = some g
          unfold Addr.add
          split
          all_goals first | rfl | (split <;> rfl)
      have hoth : ∀ j, j ≠ p → W6.heap[j]? = V.heap[j]? := fun j hj => by rw [hW6]; exact Below.heap_setCell V ⟨p, 2, none⟩ _ j hj
      have hnp : ∀ {j : Nat} {C : Array Value} {t : TypeId} {f : Nat × Nat}, V.heap[j]? = some (.cells C t f) → t ≠ 96 → W6.heap[j]? = some (.cells C t f) := fun hj ht => (hoth _ (fun e => by rw [e, H5.out.1.q.blk] at hj; cases hj; exact ht rfl)).trans hj
      have PHI : Hid (W6.ownsRow w.heap.size 79 3 (.slice Ao k co) k (heldC xs) ∧ QuarAt W6 p full (bytes - sumN xs) base (.slice A2 (n - k) (c - k)) (L.drop k) ∧ Kept p none w W6) := by
        have hK := H5.out.1.kept
        refine Lib.hid ⟨?_, ⟨?_, ?_⟩, ?_⟩
        · have h7 := H5.out.2.2.1
          rw [← HK.out.1] at h7
          rw [hW6]
          exact (Only.set (B := 0) (T := [96]) (o := 2) H5.out.1.q.blk (Nat.zero_le _) (by simp) _).own h7 (by decide)
        · rw [hW6]; exact set_row (o := 2) H5.out.1.q.blk _
        · rw [show (L.drop k).length = n - k by rw [List.length_drop, ← HK.out.2]]
          exact hcut.at fun b hb => hoth b (fun e => hcut.ne H5.out.1.q.blk (by decide) (by rw [hb, e]))
        · refine ⟨?_, ?_, ?_, ?_, fun j hj hp' hn => (hoth j hp').trans (hK.block j hj hp' hn)⟩
          · rw [hW6]; exact hK.os
          · rw [hW6]; exact hK.tape
          · rw [hW6]; exact hK.output
          · rw [hW6]; simpa using hK.size
      have h6 := hnp H5.out.2.1 (by decide)
      rw [← HK.out.1] at h6
      have c6 := cellAt h6 0 _ rfl
      have l6 := cell_lt c6
      simp only at l6
      have hD6 : W6.heap[D]? = some (.deferred (some [])) := (hoth _ (fun e => by have := H5.out.2.2.2.2; rw [e, H5.out.1.q.blk] at this; cases this)).trans H5.out.2.2.2.2
      have HD := Lib.hid (And.intro hD6 hob)
      clear hA2 hW6 hcut hob hoth hnp h6 hD6 f5 c0 c1 d0 d1 d2 l8 l9 l10
      go_wp2_with fail
      refine leaves_marks (fun V => V.ownsRow w.heap.size 79 3 (.slice Ao k co) k (heldC xs) ∧ QuarAt V p full (bytes - sumN xs) base (.slice A2 (n - k) (c - k)) (L.drop k) ∧ Kept p none w V) (fun D => w.heap.size ≤ D) (fun V D hV hD hd => ?_) (fun V hV => ?_) [D] W6 PHI.out (by simp) (fun E hE => by rw [List.mem_singleton.1 hE]; exact ⟨by omega, HD.out.1⟩)
      · have hg := grownBy_putObj' V D (.deferred none)
        have hr : ∀ r, some D = some r → ∃ o : Obj, V.heap[r]? = some o ∧ o.isCells = false := fun r e => by cases e; exact ⟨_, hd, rfl⟩
        exact ⟨far_own hV.1 hg hr, ⟨far_row hV.2.1.blk hg hr, far_mid hV.2.1.row hg hr⟩, hV.2.2.os, hV.2.2.tape, hV.2.2.output, by simpa using hV.2.2.size, fun j hj hp' hn => (World.putObj_heap_other (by omega)).trans (hV.2.2.block j hj hp' hn)⟩
      · refine ⟨_, results_tmp rfl _ _ _, _, _, rfl, ?_, ?_, HD.out.2, hV.2.2⟩
        · rw [← H5.out.2.2.2.1, ← HK.out.1]; exact hV.1
        · rw [← H5.out.2.2.2.1, ← HK.out.1]; exact hV.2.1
end Go.Proofs.Ytpjlhkepdiajjaa

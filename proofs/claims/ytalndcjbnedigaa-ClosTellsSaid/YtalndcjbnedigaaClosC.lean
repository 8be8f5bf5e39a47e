
/- Package clos: New. -/
import Derived.Test.YtalndcjbnedigaaClosS
import Derived.Test.YtalndcjbnedigaaPhiRI
import Derived.Test.YtalndcjbnedigaaCapU
import Derived.ControlIn
set_option linter.all false
namespace Go.Proofs.Ytalndcjbnedigaa
open Go.RowKit Go.Shelf
attribute [local go_sem] seen dstOf boolOf
attribute [local go_sem] Oper.semAt_some

/-- Marks of loops over functions, when the function is left: each is shut, in whatever order. -/
theorem leaves_marks {F : Fence} {n : Nat} {P : Program} {fn : Func} {tmps : Array Value} {R : Ending → World → Prop} (Φ : World → Prop) (p : Nat → Prop) (hs : ∀ W D, Φ W → p D → W.heap[D]? = some (.deferred (some [])) → Φ (W.putObj D (.deferred none))) (hf : ∀ W, Φ W → LeavesInM F n P fn tmps R [] .returning W) :
    ∀ (Ds : List Nat) (W : World), Φ W → Ds.Nodup → (∀ D ∈ Ds, p D ∧ W.heap[D]? = some (.deferred (some []))) → LeavesInM F n P fn tmps R (Ds.map fun D => { target := .collected D, args := #[] }) .returning W
  | [], W, h, _, _ => hf W h
  | D :: Ds, W, h, hn, hD => by
    have hd := hD D List.mem_cons_self
    have hn' := List.nodup_cons.1 hn
    refine ⟨by simp, .inl ⟨D, _, rfl, run_takeDeferred hd.2, leaves_marks Φ p hs hf Ds _ (hs W D h hd.1 hd.2) hn'.2 fun E hE => ?_⟩⟩
    exact ⟨(hD E (List.mem_cons_of_mem _ hE)).1, (World.putObj_heap_other (fun e => hn'.1 (by rw [← e]; exact hE))).trans (hD E (List.mem_cons_of_mem _ hE)).2⟩
theorem ownLow {w : World} {base base' : Nat} {e : TypeId} {size : Nat} {v : Value} {n : Nat} {xs : List Value} (h : w.ownsRow base e size v n xs) (hb : base' ≤ base) : w.ownsRow base' e size v n xs := by
  obtain ⟨hl, h⟩ := h
  refine ⟨hl, ?_⟩
  rcases h with h | ⟨g, cap, cur, h1, h2, h3⟩
  · exact .inl h
  · exact .inr ⟨g, cap, cur, h1, Nat.le_trans hb h2, h3⟩
def NewPost (w : World) (l : List Cap) (e : Ending) (w' : World) : Prop := ∃ sp vg vo G O, e = .returned (.pointer (some ⟨sp, 0, none⟩)) ∧ SetAt w.heap.size w' sp vg vo G O ∧ SetOk l G O ∧ w.heap.size ≤ sp ∧ Ext w w'
theorem grants_succ {l : List Cap} {k : Nat} (hk : k < l.length) : grantsL (l.take (k + 1)) = grantsL (l.take k) ++ if l[k].tag && rightC l[k] then [l[k]] else [] := by
  unfold grantsL
  rw [List.take_add_one, List.getElem?_eq_getElem hk, List.filter_append]
  congr 1
  cases h : (l[k].tag && rightC l[k]) <;> simp [h]
theorem bare_wf {g : Cap} (h : CapWf g) : CapWf (bareC g) := ⟨h.base, h.top, h.base, h.perms, by unfold i64ok' bareC; simp⟩
theorem opens_side {G O : List Cap} (hs : Sound G O) (hwf : ∀ g ∈ G, CapWf g) (hG : G.length ≤ 1000) : ∀ (pre : List Cap), (∃ k, O ++ pre = (G.take k).foldl openStep O) → (∀ o ∈ O ++ pre, CapWf o) ∧ (O ++ pre).length ≤ 1000 := by
  rintro pre ⟨k, hk⟩
  have h1 : Sound G (O ++ pre) := by rw [hk]; exact hs.folds fun g hg => List.mem_of_mem_take hg
  refine ⟨fun o ho => ?_, Nat.le_trans h1.len hG⟩
  obtain ⟨g, hg, rfl⟩ := (h1.opens o ho).grant
  exact bare_wf (hwf g hg)
theorem keeps_only {B : Nat} {T : List TypeId} {a b : World} (h : Only B T a b) (N : Nat) : KeepsFrom N a b := ⟨h.size, fun k o _ hk ho => h.block k o hk (.inr fun c t f e => by rw [e] at ho; cases ho)⟩
/-- What stands between two rounds of New's second loop. -/
structure NewIn (U : World) (sp : Nat) (vg : Value) (G O : List Cap) (Ds : List Nat) (W : World) : Prop where
  only : Only sp [24, 48] U W
  set : ∃ vo, SetAt (sp + 2) W sp vg vo G O
  once : Ds.Nodup
  marks : ∀ D ∈ Ds, U.heap.size ≤ D ∧ W.heap[D]? = some (.deferred (some []))
theorem only_put {B : Nat} {T : List TypeId} {U W : World} (h : Only B T U W) {D : Nat} (hD : U.heap.size ≤ D) (o : Obj) : Only B T U (W.putObj D o) :=
  ⟨h.os, h.tape, h.output, by simpa using h.size, fun k x hx hc => by
    have hk := (Array.getElem?_eq_some_iff.1 hx).1
    exact (World.putObj_heap_other (by omega)).trans (h.block k x hx hc)⟩
theorem only_grown {B : Nat} {T : List TypeId} {U W W' : World} {row : Option Nat} (h : Only B T U W) (hg : W.grownBy W' row) (hr : ∀ r, row = some r → U.heap.size ≤ r) : Only B T U W' :=
  ⟨hg.os.trans h.os, hg.tape.trans h.tape, hg.output.trans h.output, Nat.le_trans h.size hg.size, fun k x hx hc => by
    have hk := (Array.getElem?_eq_some_iff.1 hx).1
    have h1 := h.block k x hx hc
    exact (hg.block k (Array.getElem?_eq_some_iff.1 h1).1 (fun e => by have := hr k e.symm; omega)).trans h1⟩
theorem row_grown {W W' : World} {row : Option Nat} {k : Nat} {C : Array Value} {t : TypeId} {f : Nat × Nat} (hk : W.heap[k]? = some (.cells C t f)) (hg : W.grownBy W' row) (hr : ∀ r, row = some r → ∃ o : Obj, W.heap[r]? = some o ∧ o.isCells = false) : W'.heap[k]? = some (.cells C t f) :=
  (hg.block k (Array.getElem?_eq_some_iff.1 hk).1 (fun e => by
    obtain ⟨o, ho, hc⟩ := hr k e.symm
    rw [hk] at ho
    cases ho
    cases hc)).trans hk
theorem own_grown {W W' : World} {row : Option Nat} {B n sz : Nat} {t : TypeId} {v : Value} {xs : List Value} (ho : W.ownsRow B t sz v n xs) (hg : W.grownBy W' row) (hr : ∀ r, row = some r → ∃ o : Obj, W.heap[r]? = some o ∧ o.isCells = false) : W'.ownsRow B t sz v n xs := by
  obtain ⟨hl, ho⟩ := ho
  refine ⟨hl, ?_⟩
  rcases ho with ho | ⟨g, cap, cur, h1, h2, h3, h4⟩
  · exact .inl ho
  · exact .inr ⟨g, cap, cur, h1, h2, row_grown h3 hg hr, h4⟩
theorem SetAt.grown {B sp : Nat} {W W' : World} {row : Option Nat} {vg vo : Value} {G O : List Cap} (h : SetAt B W sp vg vo G O) (hg : W.grownBy W' row) (hr : ∀ r, row = some r → ∃ o : Obj, W.heap[r]? = some o ∧ o.isCells = false) : SetAt B W' sp vg vo G O :=
  ⟨row_grown h.row hg hr, own_grown h.g hg hr, own_grown h.o hg hr, h.dis⟩
theorem NewIn.ext {U W W' : World} {sp : Nat} {vg : Value} {G O : List Cap} {Ds : List Nat} (h : NewIn U sp vg G O Ds W) (e : Ext W W') : NewIn U sp vg G O Ds W' := by
  obtain ⟨vo, hs⟩ := h.set
  exact ⟨h.only.then e, ⟨vo, hs.ext e⟩, h.once, fun D hD => ⟨(h.marks D hD).1, (e.block _ (Array.getElem?_eq_some_iff.1 (h.marks D hD).2).1).trans (h.marks D hD).2⟩⟩
theorem NewIn.grown {U W W' : World} {sp N : Nat} {vg : Value} {G O : List Cap} {Ds : List Nat} {row : Option Nat} (h : NewIn U sp vg G O Ds W) (hN : ∀ D ∈ Ds, D < N) (hU : U.heap.size ≤ N) (hg : W.grownBy W' row) (hr : ∀ r, row = some r → N ≤ r ∧ ∃ o : Obj, W.heap[r]? = some o ∧ o.isCells = false) : NewIn U sp vg G O Ds W' := by
  obtain ⟨vo, hs⟩ := h.set
  refine ⟨only_grown h.only hg fun r e => Nat.le_trans hU (hr r e).1, ⟨vo, hs.grown hg fun r e => (hr r e).2⟩, h.once, fun D hD => ⟨(h.marks D hD).1, ?_⟩⟩
  exact (hg.block D (Array.getElem?_eq_some_iff.1 (h.marks D hD).2).1 (fun e => by have := (hr D e.symm).1; have := hN D hD; omega)).trans (h.marks D hD).2
set_option maxHeartbeats 8000000 in
set_option maxRecDepth 100000 in
theorem new_any (A : Option Addr) (c : Nat) (l : List Cap) (w : World) (hA : Arr w A (capCells l)) (hwf : ∀ x ∈ l, CapWf x) (hl : l.length ≤ 1000) (HST : Hid (∀ (n : Nat) (hn : 1 ≤ n) (bs sp B N : Nat) (vg : Value) (G O0 : List Cap) (hwf : ∀ g ∈ G, CapWf g) (hG : G.length ≤ 1000) (hO : ∀ (pre : List Cap), (∃ k, O0 ++ pre = (G.take k).foldl openStep O0) → (∀ o ∈ O0 ++ pre, CapWf o) ∧ (O0 ++ pre).length ≤ 1000), SeqInv Fence.wide n Try.prog 58 #[.pointer (some ⟨bs, 0, none⟩)] (fun c : Cap => #[c.val])
      (fun pre W => W.cell? ⟨bs, 0, none⟩ = some (.pointer (some ⟨sp, 0, none⟩)) ∧ ∃ vo, SetAt B W sp vg vo G (O0 ++ pre))
      (fun pre x => ∃ g ∈ G, opensB (O0 ++ pre) g = true ∧ x = bareC g) (fun xs => O0 ++ xs = roundL G O0) N)) : Calls Try.prog 11 #[.slice A l.length c] w (NewPost w l) := by
  obtain ⟨ci, hci, hci0, hci1, hci2⟩ := info_parts infoCap
  have hmix : Try.prog.follows .mixedOrders = true := by kernel_rfl
  have HW := Lib.hid (And.intro hwf hl)
  refine (callsIn_wide (n := 4)).1 ?_
  refine callsIn_of_wp_marks Try.func11 rfl trivial ?_ rfl
  simp only [Try.ntmps11, List.size_toArray, List.length_cons, List.length_nil, Nat.reduceAdd, Nat.reduceSub, Array.replicate_succ, Array.replicate_zero, List.push_toArray, List.append_toArray, List.nil_append, List.cons_append]
  refine wpIn_wide.2 ?_
  go_wp2_with fail
  obtain ⟨U, hU⟩ : ∃ U, U = (w.alloc (.cells #[.slice none 0 0, .slice none 0 0] 48)).alloc (.cells #[.pointer (some ⟨w.heap.size, 0, none⟩)] 26) := ⟨_, rfl⟩
  have EU : Ext w U := by rw [hU]; exact (by repeat first | (with_reducible exact Below.refl _ _) | (with_reducible apply Ext.alloc) | (with_reducible apply Ext.drew) | (with_reducible apply Ext.drewN) | (with_reducible refine Ext.set ?_ (by simp)))
  have u0 : U.heap[w.heap.size]? = some (.cells #[.slice none 0 0, .slice none 0 0] 48) := new_at (o := .cells #[.slice none 0 0, .slice none 0 0] 48) rfl (by rw [hU]; exact (by repeat first | (with_reducible exact Below.refl _ _) | (with_reducible apply Ext.alloc) | (with_reducible apply Ext.drew) | (with_reducible apply Ext.drewN) | (with_reducible refine Ext.set ?_ (by simp))))
  have u1 : U.heap[w.heap.size + 1]? = some (.cells #[.pointer (some ⟨w.heap.size, 0, none⟩)] 26) := by rw [hU]; exact new_at (w := w.alloc _) (by simp) (Below.refl _ _)
  have sU : U.heap.size = w.heap.size + 2 := by rw [hU]; simp
  rw [← hU]
  have HU := Lib.hid (And.intro EU (And.intro u0 (And.intro u1 hA)))
  clear hU EU u0 u1 hA
  go_loopw [12] (fun i wr => ∃ (k : Nat) (vg : Value), k ≤ l.length ∧ i = .int .i64 (k : Int) ∧ Only w.heap.size [24, 48] U wr ∧ wr.heap[w.heap.size]? = some (.cells #[vg, .slice none 0 0] 48) ∧ wr.ownsRow (w.heap.size + 2) 24 6 vg (grantsL (l.take k)).length (capCells (grantsL (l.take k)))) (fun i _ => l.length - (intOf i).toNat)
  case atStart => exact ⟨0, .slice none 0 0, Nat.zero_le _, rfl, Only.refl _ _ _, HU.out.2.1, World.ownsRow_nil _ _ _ _⟩
  case round =>
    obtain ⟨k, vg, hk, rfl, hO, hrow, hown⟩ := hrel
    have hE : Ext w wr := Only.below HU.out.1 (Nat.le_refl _) hO
    by_cases hlt : k < l.length
    · obtain ⟨b1, o1, hb, hb1, x0, x1, x2, x3, x4, x5⟩ := cap_row (HU.out.2.2.2.ext hE) hlt
      have hx := HW.out.1 l[k] (List.getElem_mem hlt)
      have hsu := grants_succ hlt
      have hGl : (grantsL (l.take k)).length ≤ 1000 := by
        have h1 : (grantsL (l.take k)).length ≤ (l.take k).length := List.length_filter_le _ _
        have h2 : (l.take k).length ≤ l.length := by rw [List.length_take]; omega
        have := HW.out.2
        omega
      have HS := Lib.hid (And.intro hsu (And.intro hO (And.intro hrow (And.intro hown hE))))
      have hb2 := hO.row HU.out.2.2.1 (by decide)
      have q3 := cellAt hb2 0 (.pointer (some ⟨w.heap.size, 0, none⟩)) rfl
      have l3 := cell_lt q3
      simp only at l3
      have HB := Lib.hid hb2
      subst hb
      clear hsu hO hrow hown hE hb2
      generalize l[k] = x at x0 x1 x2 x3 x4 x5 hx HS
      generalize grantsL (l.take k) = G at HS hGl
      obtain ⟨tg, xb, xt, xa, xp, xy⟩ := x
      simp only at x0 x1 x2 x3 x4 x5
      cases tg with
      | false =>
        go_wp2_with fail
        refine ⟨⟨k + 1, vg, by omega, by simp, HS.out.2.1.alloc _, ((Ext.alloc (Below.refl _ _) _).block _ (by omega)).trans HS.out.2.2.1, ?_⟩, by simp [intOf]; omega⟩
        rw [HS.out.1]
        simpa using own_ext HS.out.2.2.2.1 (Ext.alloc (Below.refl _ wr) _)
      | true =>
        go_wp2_with fail
        refine (capRight_any ⟨true, xb, xt, xa, xp, xy⟩ _ hx).mono ?_
        rintro e w2 ⟨rfl, hE2⟩
        have E2 : Ext wr w2 := (Ext.alloc (Below.refl _ wr) _).then hE2
        have r5 := (hE2.block _ (by simp)).trans (heap_alloc_new wr _)
        have H2 := Lib.hid (And.intro E2 r5)
        obtain ⟨y0, y1, y2, y3, y4, y5⟩ := lie6' r5 (Below.refl _ w2)
        have l5 := cell_lt y0
        have q4 := ext_cell E2 _ _ q3
        have l4 := cell_lt q4
        simp only at l4 l5
        clear E2 r5 hE2 x0 x1 x2 x3 x4 x5 q3
        cases hr : rightC ⟨true, xb, xt, xa, xp, xy⟩ with
        | false =>
          go_wp2_with fail
          refine ⟨⟨k + 1, vg, by omega, by simp, HS.out.2.1.then H2.out.1, (H2.out.1.block _ (by omega)).trans HS.out.2.2.1, ?_⟩, by simp [intOf]; omega⟩
          rw [HS.out.1, hr]
          simpa using own_ext HS.out.2.2.2.1 H2.out.1
        | true =>
          have HR := Lib.hid hr
          have hsz : w.heap.size + 2 ≤ w2.heap.size := Nat.le_trans (Nat.le_trans (Nat.le_of_eq sU.symm) HS.out.2.1.size) H2.out.1.size
          obtain ⟨Ag, cg, rfl, hcg, -⟩ := Arr.own HS.out.2.2.2.1
          clear hr
          go_wp2_with fail
          refine wp_region_res (Only w.heap.size [24, 48]) [⟨none, [], [7]⟩, ⟨none, [], [4, 10]⟩, ⟨some 6, [(6, [])], [7]⟩, ⟨some 7, [(7, [])], [10]⟩, ⟨some 10, [(7, [7])], []⟩, ⟨none, [], [5]⟩] [(fun (u : Nat → Value) (W : World) => (fun (_ : Value) (W : World) => W.ownsRow (w.heap.size + 2) 24 6 (.slice Ag G.length cg) G.length (capCells G)) (undef) W), (fun (u : Nat → Value) (W : World) => (fun (_ : Value) (W : World) => W.heap[w.heap.size]? = some (.cells #[.slice Ag G.length cg, .slice none 0 0] 48)) (undef) W), (fun (u : Nat → Value) (W : World) => (NewLit 0 1 (Cap.cells ⟨true, xb, xt, xa, xp, xy⟩) 24) (u 6) W), (fun (u : Nat → Value) (W : World) => (fun (v : Value) (W : World) => W.ownsRow (w.heap.size + 2) 24 6 v (G.length + 1) (capCells G ++ Cap.cells ⟨true, xb, xt, xa, xp, xy⟩)) (u 7) W), (fun (u : Nat → Value) (W : World) => W.heap[w.heap.size]? = some (.cells #[u 7, .slice none 0 0] 48) ∧ W.ownsRow (w.heap.size + 2) 24 6 (u 7) (G.length + 1) (capCells G ++ Cap.cells ⟨true, xb, xt, xa, xp, xy⟩)), (fun (u : Nat → Value) (W : World) => (fun (_ : Value) (W : World) => W.heap[wr.heap.size]? = some (.cells (Cap.cells ⟨true, xb, xt, xa, xp, xy⟩).toArray 24)) (undef) W)] [⟨[], [.keep, .keep, .keep, .keep, .early [0], .keep]⟩, ⟨[], [.keep, .keep, .keep, .early [4, 3, 2, 1], .early [1], .keep]⟩, ⟨[], [.keep, .keep, .keep, .early [4, 3, 2], .early [2], .keep]⟩, ⟨[], [.keep, .keep, .keep, .early [4, 3], .early [3], .keep]⟩, ⟨[(1, [])], [.keep, .keep, .keep, .early [4], .early [4], .keep]⟩, ⟨[(5, [])], [.keep, .keep, .early [5], .early [6, 5], .early [5], .late [[]]]⟩, ⟨[], [.keep, .keep, .last, .early [6], .early [6], .late [[5]]]⟩, ⟨[(0, []), (2, [6])], [.late [[]], .keep, .late [[]], .last, .early [7], .late [[6, 5]]]⟩, ⟨[], [.late [[7]], .keep, .late [[7]], .keep, .early [9, 8], .late [[5]]]⟩, ⟨[], [.late [[7]], .keep, .late [[7]], .keep, .early [9], .late [[5]]]⟩, ⟨[(1, []), (3, [7])], [.late [[7]], .late [[4], []], .late [[7]], .late [[]], .last, .late [[5]]]⟩] [22, 23, 24, 25, 26, 27, 28, 29, 30, 31] (by kernel_rfl) (Only.refl _ _) (fun _ _ _ => Only.trans) (by kernel_rfl) (by kernel_rfl) (by kernel_rfl) (by kernel_rfl) (by kernel_rfl) ?start ?_
          case start =>
            refine And.intro ?_ ?_
            · exact own_ext HS.out.2.2.2.1 (Ext.drew H2.out.1)
            refine And.intro ?_ ?_
            · exact (H2.out.1.block _ (by omega)).trans HS.out.2.2.1
            refine And.intro ?_ ?_
            · exact H2.out.2
            exact trivial
          apply ex_is; apply Exists.intro
          apply ex_is; apply Exists.intro
          apply ex_is; apply Exists.intro
          apply ex_is; apply Exists.intro
          apply ex_is; apply Exists.intro
          apply ex_is; apply Exists.intro
          refine ex_phi (fun _ _ => True) ?_
          refine ex_phi (fun _ _ => True) ?_
          apply ex_is; apply Exists.intro
          apply ex_is; apply Exists.intro
          refine ex_phi (fun _ _ => True) ?_
          refine ⟨[], ⟨?steps, ?stab, ?ends⟩⟩
          case steps =>
            refine And.intro (obX_pure (Only.refl _ _) ?_) ?_
            · intro act W hR hf ho hu K hK
              replace hK := fun v h2 => hK v W rfl h2 trivial
              have G : act.tmps[3]?.getD undef = _ ∧ True := ho
              obtain ⟨g3, -⟩ := G
              clear ho hf hu
              have q4 := cellAt (hR.row ((H2.out.1.block _ (by omega)).trans HB.out) (by decide)) 0 (.pointer (some ⟨w.heap.size, 0, none⟩)) rfl
              go_simp
              exact hK _ (Eq.refl _)
            refine And.intro (obX_pure (Only.refl _ _) ?_) ?_
            · intro act W hR hf ho hu K hK
              replace hK := fun v h2 => hK v W rfl h2 trivial
              have G : act.tmps[3]?.getD undef = _ ∧ True := ho
              obtain ⟨g3, -⟩ := G
              clear ho hf hu
              have q4 := cellAt (hR.row ((H2.out.1.block _ (by omega)).trans HB.out) (by decide)) 0 (.pointer (some ⟨w.heap.size, 0, none⟩)) rfl
              go_simp
              exact hK _ (Eq.refl _)
            refine And.intro (obX_pure (Only.refl _ _) ?_) ?_
            · intro act W hR hf ho hu K hK
              replace hK := fun v h2 => hK v W rfl h2 trivial
              have F : act.tmps[23]?.getD undef = _ ∧ True := hf
              obtain ⟨f1, -⟩ := F
              clear ho hf hu
              go_simp
              exact hK _ (Eq.refl _)
            refine And.intro (obX_pure (Only.refl _ _) ?_) ?_
            · intro act W hR hf ho hu K hK
              replace hK := fun v h2 => hK v W rfl h2 trivial
              have F : act.tmps[24]?.getD undef = _ ∧ True := hf
              obtain ⟨f2, -⟩ := F
              clear ho hf hu
              go_simp
              exact hK _ (Eq.refl _)
            refine And.intro (obX_pure (Only.refl _ _) ?_) ?_
            · intro act W hR hf ho hu K hK
              replace hK := fun v h2 => hK v W rfl h2 trivial
              have F : act.tmps[25]?.getD undef = _ ∧ True := hf
              obtain ⟨f3, -⟩ := F
              have U : (fun (_ : Value) (W : World) => W.heap[w.heap.size]? = some (.cells #[.slice Ag G.length cg, .slice none 0 0] 48)) (undef) W ∧ True := hu
              obtain ⟨r_row, -⟩ := U
              clear ho hf hu
              have q5 := cellAt r_row 0 (.slice Ag G.length cg) rfl
              go_simp
              exact hK _ (Eq.refl _)
            refine And.intro (obX_pure (Only.refl _ _) ?_) ?_
            · intro act W hR hf ho hu K hK
              replace hK := fun v h2 => hK v W rfl h2 trivial
              have G : act.tmps[5]?.getD undef = _ ∧ True := ho
              obtain ⟨g5, -⟩ := G
              have U : (fun (_ : Value) (W : World) => W.heap[wr.heap.size]? = some (.cells (Cap.cells ⟨true, xb, xt, xa, xp, xy⟩).toArray 24)) (undef) W ∧ True := hu
              obtain ⟨r_cap, -⟩ := U
              clear ho hf hu
              obtain ⟨y0, y1, y2, y3, y4, y5⟩ := lie6' r_cap (Below.refl _ W)
              go_simp
              exact hK _ (Eq.refl _)
            refine And.intro (obX_eff (Ext) (fun _ _ h => Only.ext h) (And.intro (fun _ _ _ h e => own_ext h e) (And.intro (fun _ _ _ h e => (e.block _ (Array.getElem?_eq_some_iff.1 h).1).trans h) (trivial))) ?_) ?_
            · intro act W hR hf ho hu K hK
              replace hK := fun v (w' : World) (h1 : (Ext) W w') (b2 : (NewLit 0 1 (Cap.cells ⟨true, xb, xt, xa, xp, xy⟩) 24) (v) w') => hK v w' h1 trivial ⟨b2, trivial⟩
              have F : act.tmps[27]?.getD undef = _ ∧ True := hf
              obtain ⟨f5, -⟩ := F
              clear ho hf hu
              go_simp
              exact hK _ _ (by repeat first | (with_reducible exact Below.refl _ _) | (with_reducible apply Ext.alloc) | (with_reducible apply Ext.drew) | (with_reducible apply Ext.drewN) | (with_reducible refine Ext.set ?_ (by simp))) (NewLit.new (Nat.zero_le _))
            refine And.intro (obX_eff (Only (w.heap.size + 2) [24]) (fun _ _ h => h.mono (by omega) (by simp)) (And.intro (fun _ _ _ h e => e.row h (by decide)) (trivial)) ?_) ?_
            · intro act W hR hf ho hu K hK
              replace hK := fun v (w' : World) (h1 : (Only (w.heap.size + 2) [24]) W w') (b3 : (fun (v : Value) (W : World) => W.ownsRow (w.heap.size + 2) 24 6 v (G.length + 1) (capCells G ++ Cap.cells ⟨true, xb, xt, xa, xp, xy⟩)) (v) w') => hK v w' h1 trivial ⟨b3, trivial⟩
              have F : act.tmps[26]?.getD undef = _ ∧ (fun _ _ => True) (act.tmps[28]?.getD undef) W ∧ True := hf
              obtain ⟨f4, -, -⟩ := F
              have U : (fun (_ : Value) (W : World) => W.ownsRow (w.heap.size + 2) 24 6 (.slice Ag G.length cg) G.length (capCells G)) (undef) W ∧ (NewLit 0 1 (Cap.cells ⟨true, xb, xt, xa, xp, xy⟩) 24) (act.tmps[28]?.getD undef) W ∧ True := hu
              obtain ⟨r_own, r_n6, -⟩ := U
              generalize f6 : act.tmps[28]?.getD undef = v6 at r_n6
              clear ho hf hu
              obtain ⟨b3, rfl, -, hl3⟩ := r_n6
              dsimp only [Option.elim] at f4
              rw [← seen_eq]; refine step_append_src W rfl (.tmp 26) (.tmp 28) 22 rfl (w.heap.size + 2) 24 ci (.agg #[.bool false, .int .i64 0, .int .i64 0, .int .i64 0, .int .i64 0, .int .i64 0]) 6 48 Try.underlying22 hci hci0 hci1 hci2 rfl (by decide) _ _ _ (eval_get f4) r_own _ 1 (Cap.cells ⟨true, xb, xt, xa, xp, xy⟩) (eval_get f6) (lies_lit hl3) rfl (by simp [Value.oneCell']) (by unfold maxLen; omega) (by omega) (Nat.le_trans hsz hR.size) ?_; intro v' w' ho' hg' _; exact hK _ _ (Only.grown r_own hg' (by simp)) ho'
            refine And.intro (obX_pure (Only.refl _ _) ?_) ?_
            · intro act W hR hf ho hu K hK
              replace hK := fun v h2 => hK v W rfl h2 trivial
              have F : act.tmps[22]?.getD undef = _ ∧ act.tmps[22]?.getD undef = _ ∧ act.tmps[23]?.getD undef = _ ∧ act.tmps[24]?.getD undef = _ ∧ act.tmps[25]?.getD undef = _ ∧ act.tmps[26]?.getD undef = _ ∧ act.tmps[27]?.getD undef = _ ∧ (fun _ _ => True) (act.tmps[28]?.getD undef) W ∧ (fun _ _ => True) (act.tmps[29]?.getD undef) W ∧ True := hf
              obtain ⟨f0, -, f1, f2, f3, f4, f5, -, -, -⟩ := F
              generalize f6 : act.tmps[28]?.getD undef = v6
              generalize f7 : act.tmps[29]?.getD undef = v7
              clear ho hf hu
              go_simp
              exact hK _ (Eq.refl _)
            refine And.intro (obX_pure (Only.refl _ _) ?_) ?_
            · intro act W hR hf ho hu K hK
              replace hK := fun v h2 => hK v W rfl h2 trivial
              have F : act.tmps[30]?.getD undef = _ ∧ act.tmps[22]?.getD undef = _ ∧ act.tmps[23]?.getD undef = _ ∧ act.tmps[24]?.getD undef = _ ∧ act.tmps[25]?.getD undef = _ ∧ act.tmps[26]?.getD undef = _ ∧ act.tmps[27]?.getD undef = _ ∧ (fun _ _ => True) (act.tmps[28]?.getD undef) W ∧ (fun _ _ => True) (act.tmps[29]?.getD undef) W ∧ True := hf
              obtain ⟨f8, f0, f1, f2, f3, f4, f5, -, -, -⟩ := F
              generalize f6 : act.tmps[28]?.getD undef = v6
              generalize f7 : act.tmps[29]?.getD undef = v7
              clear ho hf hu
              go_simp
              exact hK _ (Eq.refl _)
            refine And.intro (obX_eff (Only w.heap.size [24, 48]) (fun _ _ h => h) (trivial) ?_) ?_
            · intro act W hR hf ho hu K hK
              replace hK := fun (w' : World) (h1 : (Only w.heap.size [24, 48]) W w') (b4 : (fun (W : World) => W.heap[w.heap.size]? = some (.cells #[(act.tmps[29]?.getD undef), .slice none 0 0] 48) ∧ W.ownsRow (w.heap.size + 2) 24 6 ((act.tmps[29]?.getD undef)) (G.length + 1) (capCells G ++ Cap.cells ⟨true, xb, xt, xa, xp, xy⟩)) w') => hK undef w' h1 trivial ⟨b4, trivial⟩
              have F : act.tmps[31]?.getD undef = _ ∧ (fun _ _ => True) (act.tmps[29]?.getD undef) W ∧ (fun _ _ => True) (act.tmps[29]?.getD undef) W ∧ act.tmps[22]?.getD undef = _ ∧ act.tmps[23]?.getD undef = _ ∧ act.tmps[24]?.getD undef = _ ∧ act.tmps[25]?.getD undef = _ ∧ act.tmps[26]?.getD undef = _ ∧ act.tmps[27]?.getD undef = _ ∧ (fun _ _ => True) (act.tmps[28]?.getD undef) W ∧ (fun _ _ => True) (act.tmps[29]?.getD undef) W ∧ True := hf
              obtain ⟨f9, -, -, f0, f1, f2, f3, f4, f5, -, -, -⟩ := F
              have U : (fun (_ : Value) (W : World) => W.heap[w.heap.size]? = some (.cells #[.slice Ag G.length cg, .slice none 0 0] 48)) (undef) W ∧ (fun (v : Value) (W : World) => W.ownsRow (w.heap.size + 2) 24 6 v (G.length + 1) (capCells G ++ Cap.cells ⟨true, xb, xt, xa, xp, xy⟩)) (act.tmps[29]?.getD undef) W ∧ True := hu
              obtain ⟨r_row, r_r7, -⟩ := U
              generalize f7 : act.tmps[29]?.getD undef = v7 at r_r7 hK
              generalize f6 : act.tmps[28]?.getD undef = v6
              clear ho hf hu
              obtain ⟨A7, c7, rfl, -, -⟩ := Arr.own r_r7; have fz := frozen_row' r_row; have q6 := cellAt r_row 0 (.slice Ag G.length cg) rfl; have HF := Lib.hid (And.intro (Only.set (B := w.heap.size) (T := [24, 48]) (o := 0) r_row (Nat.le_refl _) (by simp) (.slice A7 (G.length + 1) c7)) (And.intro (set_row (o := 0) r_row (.slice A7 (G.length + 1) c7)) ((Only.set (B := w.heap.size) (T := [48]) (o := 0) r_row (Nat.le_refl _) (by simp) (.slice A7 (G.length + 1) c7)).own r_r7 (by decide))))
              go_simp
              exact hK _ HF.out.1 ⟨HF.out.2.1, HF.out.2.2⟩
            exact trivial
          case stab =>
            refine And.intro is_stable ?_
            refine And.intro is_stable ?_
            refine And.intro is_stable ?_
            refine And.intro is_stable ?_
            refine And.intro is_stable ?_
            refine And.intro is_stable ?_
            refine And.intro (fun _ _ _ h _ => h) ?_
            refine And.intro (fun _ _ _ h _ => h) ?_
            refine And.intro is_stable ?_
            refine And.intro is_stable ?_
            refine And.intro (fun _ _ _ h _ => h) ?_
            exact trivial
          case ends =>
            intro vals W hR hE hall
            have E : (fun (W : World) => W.heap[w.heap.size]? = some (.cells #[(vals 29), .slice none 0 0] 48) ∧ W.ownsRow (w.heap.size + 2) 24 6 ((vals 29)) (G.length + 1) (capCells G ++ Cap.cells ⟨true, xb, xt, xa, xp, xy⟩)) W ∧ True := hE
            obtain ⟨e_fin, -⟩ := E
            clear hE
            clear hall
            generalize ev29 : vals 29 = x29 at e_fin
            simp only [fill, List.setIfInBounds_toArray, List.set_cons_succ, List.set_cons_zero, ev29]
            obtain ⟨hrow, hown⟩ := e_fin
            have hO2 : Only w.heap.size [24, 48] U W := ((HS.out.2.1.then H2.out.1).drew).trans hR
            have HN := Lib.hid (And.intro hO2 (And.intro hrow hown))
            clear hO2 hrow hown
            go_wp2_with fail
            refine ⟨⟨k + 1, _, by omega, by simp, HN.out.1, HN.out.2.1, ?_⟩, by simp [intOf]; omega⟩
            rw [HS.out.1, HR.out]
            simpa [capCells_app] using HN.out.2.2
    · obtain rfl : k = l.length := by omega
      rw [List.take_length] at hown
      obtain ⟨G, hG⟩ : ∃ G, G = grantsL l := ⟨_, rfl⟩
      rw [← hG] at hown
      have HG := Lib.hid hG
      have HS := Lib.hid (And.intro hO (And.intro hrow (And.intro hown hE)))
      have hb2 := hO.row HU.out.2.2.1 (by decide)
      clear hO hrow hown hE hG
      go_wp2_with fail
      have hin : NewIn U w.heap.size vg G [] [] wr := ⟨HS.out.1, ⟨.slice none 0 0, HS.out.2.1, HS.out.2.2.1, World.ownsRow_nil _ _ _ _, (Dis.nil _).symm⟩, List.nodup_nil, fun _ h => (by cases h)⟩
      refine wp_loop (fun a W => ∃ (was : Int) (k : Nat) (Ds : List Nat) (t7 v33 v34 v35 v36 v37 v38 v39 v40 v41 v42 v43 v44 v45 v46 v47 v48 v49 v50 v51 v52 v53 v54 v55 v56 v57 : Value), a = { tmps := #[.slice A l.length c, undef, .pointer none, .pointer (some ⟨w.heap.size + 1, 0, none⟩), undef, u5, .int .i64 was, t7, .agg #[.slice none 0 0, .slice none 0 0], .pointer (some ⟨w.heap.size, 0, none⟩), .slice A l.length c, .int .i64 l.length, .int .i64 l.length, .bool false, u14, u15, u16, u17, u18, u19, u20, u21, u22, u23, u24, u25, u26, u27, u28, u29, u30, u31, u32, v33, v34, v35, v36, v37, v38, v39, v40, v41, v42, v43, v44, v45, v46, v47, v48, v49, v50, v51, v52, v53, v54, v55, v56, v57, undef], defers := Ds.map fun D => { target := .collected D, args := #[] } } ∧ NewIn U w.heap.size vg G (roundsL G k) Ds W ∧ -1 ≤ was ∧ was ≤ (roundsL G k).length ∧ (was = (roundsL G k).length → roundL G (roundsL G k) = roundsL G k)) (fun a _ => 1001 - ((intOf (a.tmps.getD 6 undef)) + 1).toNat) ?_ ?_
      · exact ⟨-1, 0, [], undef, undef, undef, undef, undef, undef, undef, undef, undef, undef, undef, undef, undef, undef, undef, undef, undef, undef, undef, undef, undef, undef, undef, undef, undef, undef, rfl, hin, by omega, by simp [roundsL], by simp [roundsL]⟩
      · rintro a W ⟨was, k, Ds, t7, v33, v34, v35, v36, v37, v38, v39, v40, v41, v42, v43, v44, v45, v46, v47, v48, v49, v50, v51, v52, v53, v54, v55, v56, v57, rfl, hN, w0, w1, w2⟩
        obtain ⟨vo, hset⟩ := hN.set
        obtain ⟨Ao, co, rfl, hco, -⟩ := Arr.own hset.o
        have hb3 := hN.only.row HU.out.2.2.1 (by decide)
        have q3 := cellAt hb3 0 (.pointer (some ⟨w.heap.size, 0, none⟩)) rfl
        have q4 := cellAt hset.row 1 (.slice Ao (roundsL G k).length co) rfl
        have l3 := cell_lt q3
        have l4 := cell_lt q4
        simp only at l3 l4
        have hso := sound_rounds G k
        have hGl : G.length ≤ 1000 := by
          rw [HG.out]
          exact Nat.le_trans (List.length_filter_le _ _) HW.out.2
        have hOl : (roundsL G k).length ≤ 1000 := Nat.le_trans hso.len hGl
        have HN := Lib.hid (And.intro hN (And.intro hset (And.intro hso (And.intro w2 hb3))))
        obtain ⟨O, hO⟩ : ∃ O, O = roundsL G k := ⟨_, rfl⟩
        rw [← hO] at HN w1 q4 hOl
        have HO := Lib.hid hO
        clear hN hset hso w2 hb3 hO
        by_cases hw : was = (O.length : Int)
        · subst hw
          go_wp2_with fail
          have hr := HN.out.2.2.2.1 (by first | exact trivial | rfl)
          refine leaves_marks (fun V => Only w.heap.size [24, 48] U V ∧ SetAt (w.heap.size + 2) V w.heap.size vg (.slice Ao O.length co) G O) (fun D => U.heap.size ≤ D) (fun V D hV hD hd => ⟨only_put hV.1 hD _, hV.2.grown (grownBy_putObj' V D _) (fun r e => by cases e; exact ⟨_, hd, rfl⟩)⟩) (fun V hV => ?_) Ds W ⟨HN.out.1.only, HN.out.2.1⟩ HN.out.1.once HN.out.1.marks
          refine ⟨_, results_tmp rfl _ _ _, w.heap.size, vg, .slice Ao O.length co, G, O, rfl, ⟨hV.2.row, ownLow hV.2.g (by omega), ownLow hV.2.o (by omega), hV.2.dis⟩, ⟨HG.out, round_all HN.out.2.2.1 (by rw [hr]), HN.out.2.2.1.once⟩, Nat.le_refl _, Only.below HU.out.1 (Nat.le_refl _) hV.1⟩
        · go_wp2_with fail
          refine (opens_any w.heap.size W).mono ?_
          rintro e W1 ⟨rfl, hW1⟩
          have E1 : Ext W W1 := by rw [hW1]; exact (by repeat first | (with_reducible exact Below.refl _ _) | (with_reducible apply Ext.alloc) | (with_reducible apply Ext.drew) | (with_reducible apply Ext.drewN) | (with_reducible refine Ext.set ?_ (by simp)))
          have hbs : W1.heap[W.heap.size]? = some (.cells #[.pointer (some ⟨w.heap.size, 0, none⟩)] 26) := by rw [hW1]; exact heap_alloc_new W _
          have s1 : W1.heap.size = W.heap.size + 1 := by rw [hW1]; simp
          have H1 := Lib.hid (And.intro E1 (And.intro hbs (HN.out.1.ext E1)))
          clear hW1 E1 hbs
          go_wp2_with fail
          refine (wpIn_wide (n := 4)).1 ?_
          have hwfG : ∀ g ∈ G, CapWf g := fun g hg => by rw [HG.out] at hg; exact HW.out.1 g (mem_grantsL.1 hg).1
          have hDs : ∀ D ∈ Ds, D < W1.heap.size := fun D hD => (Array.getElem?_eq_some_iff.1 ((H1.out.2.2.marks D hD).2)).1
          have hUs : U.heap.size ≤ W1.heap.size := H1.out.2.2.only.size
          refine wpIn_range_inv (α := Cap) rfl (by decide) (gf := 58) (lb := #[.pointer (some ⟨W.heap.size, 0, none⟩)]) rfl trivial (enters_of Try.func58 (by kernel_rfl) rfl)
            (HST.out 3 (by decide) W.heap.size w.heap.size (w.heap.size + 2) 0 vg G O hwfG hGl (opens_side HN.out.2.2.1 hwfG hGl)) (Nat.zero_le _) (fun _ => rfl)
            (fun pre V => NewIn U w.heap.size vg G (O ++ pre) Ds V ∧ V.heap[W.heap.size]? = some (.cells #[.pointer (some ⟨w.heap.size, 0, none⟩)] 26) ∧ Sound G (O ++ pre))
            (fun s X Y row hs hg hr => ⟨hs.1.grown hDs hUs hg hr, row_grown hs.2.1 hg (fun r e => (hr r e).2), hs.2.2⟩)
            (fun pre V h => ⟨cellAt h.2.1 0 _ rfl, h.1.set⟩) ⟨by rw [List.append_nil]; exact H1.out.2.2, H1.out.2.1, by rw [List.append_nil]; exact HN.out.2.2.1⟩
            (fun x a' V => ∃ (Bx : Nat) (z0 z1 z2 z4 z5 z6 z8 z9 z10 z11 z12 z13 z14 z15 z16 z17 z18 z19 z20 z21 z22 z23 z24 z25 z26 z27 z28 z29 z30 z31 z32 z33 z34 z35 z36 z37 z38 z39 z40 z41 z42 z43 z44 z45 z46 z47 z48 z49 z50 z51 z52 z53 z54 z55 z56 z57 z58 : Value), V.heap[Bx]? = some (.cells x.cells.toArray 24) ∧ a' = { tmps := #[z0, z1, z2, .pointer (some ⟨w.heap.size + 1, 0, none⟩), z4, z5, z6, .pointer (some ⟨Bx, 0, none⟩), z8, z9, z10, z11, z12, z13, z14, z15, z16, z17, z18, z19, z20, z21, z22, z23, z24, z25, z26, z27, z28, z29, z30, z31, z32, z33, z34, z35, z36, z37, z38, z39, z40, z41, z42, z43, z44, z45, z46, z47, z48, z49, z50, z51, z52, z53, z54, z55, z56, z57, z58], defers := [] })
            (fun x a' s X Y row hs hg hr => by obtain ⟨Bx, h⟩ := hs; refine ⟨Bx, ?_⟩; obtain ⟨z0, z1, z2, z4, z5, z6, z8, z9, z10, z11, z12, z13, z14, z15, z16, z17, z18, z19, z20, z21, z22, z23, z24, z25, z26, z27, z28, z29, z30, z31, z32, z33, z34, z35, z36, z37, z38, z39, z40, z41, z42, z43, z44, z45, z46, z47, z48, z49, z50, z51, z52, z53, z54, z55, z56, z57, z58, h1, h2⟩ := h; exact ⟨z0, z1, z2, z4, z5, z6, z8, z9, z10, z11, z12, z13, z14, z15, z16, z17, z18, z19, z20, z21, z22, z23, z24, z25, z26, z27, z28, z29, z30, z31, z32, z33, z34, z35, z36, z37, z38, z39, z40, z41, z42, z43, z44, z45, z46, z47, z48, z49, z50, z51, z52, z53, z54, z55, z56, z57, z58, row_grown h1 hg (fun r e => (hr r e).2), h2⟩) ?assign ?body ?done
          case assign =>
            rintro r pre x V K hI hok hK
            gi_wp2
            exact hK _ _ ⟨V.heap.size, _, _, _, _, _, _, _, _, _, _, _, _, _, _, _, _, _, _, _, _, _, _, _, _, _, _, _, _, _, _, _, _, _, _, _, _, _, _, _, _, _, _, _, _, _, _, _, _, _, _, _, _, _, _, _, _, _, heap_alloc_new V _, rfl⟩ ⟨hI.1.ext (by repeat first | (with_reducible exact Below.refl _ _) | (with_reducible apply Ext.alloc) | (with_reducible apply Ext.drew) | (with_reducible apply Ext.drewN) | (with_reducible refine Ext.set ?_ (by simp))), ((Ext.alloc (Below.refl _ V) _).block _ (Array.getElem?_eq_some_iff.1 hI.2.1).1).trans hI.2.1, hI.2.2⟩ ((KeepsOthers.alloc _ _).from _)
          case body =>
            rintro r pre x a' V hI hok ⟨Bx, z0, z1, z2, z4, z5, z6, z8, z9, z10, z11, z12, z13, z14, z15, z16, z17, z18, z19, z20, z21, z22, z23, z24, z25, z26, z27, z28, z29, z30, z31, z32, z33, z34, z35, z36, z37, z38, z39, z40, z41, z42, z43, z44, z45, z46, z47, z48, z49, z50, z51, z52, z53, z54, z55, z56, z57, z58, hBx, rfl⟩
            obtain ⟨g, hg, hop, rfl⟩ := hok
            obtain ⟨vo4, hs4⟩ := hI.1.set
            obtain ⟨A4, c4, rfl, -, -⟩ := Arr.own hs4.o
            obtain ⟨O2, hO2⟩ : ∃ O2, O2 = O ++ pre := ⟨_, rfl⟩
            have hb4 := hI.1.only.row HU.out.2.2.1 (by decide)
            have hsd : Sound G (openStep (O ++ pre) g) := hI.2.2.step hg
            rw [show openStep (O ++ pre) g = O ++ (pre ++ [bareC g]) by unfold openStep; rw [hop]; simp] at hsd
            have hO2l : O2.length ≤ 1000 := by rw [hO2]; exact Nat.le_trans hI.2.2.len hGl
            have hsz4 : w.heap.size + 2 ≤ V.heap.size := Nat.le_trans (Nat.le_of_eq sU.symm) hI.1.only.size
            rw [← hO2] at hs4
            have H4 := Lib.hid (And.intro hI (And.intro hs4 (And.intro hb4 (And.intro hsd (And.intro hO2 hBx)))))
            generalize bareC g = x at H4
            obtain ⟨xg, xb, xt, xa, xp, xy⟩ := x
            clear hI hs4 hb4 hsd hO2 hBx hop
            gi_wp2
            refine RIn.wp_region_res (fun _ => trivial) (Only w.heap.size [24, 48]) [⟨none, [], [7]⟩, ⟨none, [], [4, 10]⟩, ⟨some 6, [(6, [])], [7]⟩, ⟨none, [], [5]⟩, ⟨some 7, [(7, [])], [10]⟩, ⟨some 10, [(7, [7])], []⟩] [(fun (u : Nat → Value) (W : World) => (fun (_ : Value) (Y : World) => SetAt (w.heap.size + 2) Y w.heap.size vg (.slice A4 O2.length c4) G O2) (undef) W), (fun (u : Nat → Value) (W : World) => (fun (_ : Value) (Y : World) => Y.heap[w.heap.size]? = some (.cells #[vg, .slice A4 O2.length c4] 48)) (undef) W), (fun (u : Nat → Value) (W : World) => (NewLit 0 1 (Cap.cells ⟨xg, xb, xt, xa, xp, xy⟩) 24) (u 6) W), (fun (u : Nat → Value) (W : World) => (fun (_ : Value) (Y : World) => Y.heap[Bx]? = some (.cells (Cap.cells ⟨xg, xb, xt, xa, xp, xy⟩).toArray 24)) (undef) W), (fun (u : Nat → Value) (W : World) => (fun (v : Value) (Y : World) => Y.ownsRow (w.heap.size + 2) 24 6 v (O2.length + 1) (capCells O2 ++ Cap.cells ⟨xg, xb, xt, xa, xp, xy⟩) ∧ Y.ownsRow (w.heap.size + 2) 24 6 vg G.length (capCells G) ∧ Dis vg v) (u 7) W), (fun (u : Nat → Value) (Y : World) => Y.heap[w.heap.size]? = some (.cells #[vg, u 7] 48) ∧ Y.ownsRow (w.heap.size + 2) 24 6 (u 7) (O2.length + 1) (capCells O2 ++ Cap.cells ⟨xg, xb, xt, xa, xp, xy⟩) ∧ Y.ownsRow (w.heap.size + 2) 24 6 vg G.length (capCells G) ∧ Dis vg (u 7))] [⟨[], [.keep, .keep, .keep, .keep, .keep, .early [0]]⟩, ⟨[], [.keep, .keep, .keep, .keep, .early [4, 3, 2, 1], .early [1]]⟩, ⟨[], [.keep, .keep, .keep, .keep, .early [4, 3, 2], .early [2]]⟩, ⟨[], [.keep, .keep, .keep, .keep, .early [4, 3], .early [3]]⟩, ⟨[(1, [])], [.keep, .keep, .keep, .keep, .early [4], .early [4]]⟩, ⟨[(3, [])], [.keep, .keep, .early [5], .late [[]], .early [6, 5], .early [5]]⟩, ⟨[], [.keep, .keep, .last, .late [[5]], .early [6], .early [6]]⟩, ⟨[(0, []), (2, [6])], [.late [[]], .keep, .late [[]], .late [[6, 5]], .last, .early [7]]⟩, ⟨[], [.late [[7]], .keep, .late [[7]], .late [[5]], .keep, .early [9, 8]]⟩, ⟨[], [.late [[7]], .keep, .late [[7]], .late [[5]], .keep, .early [9]]⟩, ⟨[(1, []), (4, [7])], [.late [[7]], .late [[4], []], .late [[7]], .late [[5]], .late [[]], .last]⟩] [48, 49, 50, 51, 52, 53, 54, 55, 56, 57] (by kernel_rfl) (Only.refl _ _) (fun _ _ _ => Only.trans) (by kernel_rfl) (by kernel_rfl) (by kernel_rfl) (by kernel_rfl) (by kernel_rfl) ?start ?_
            case start =>
              refine And.intro ?_ ?_
              · exact H4.out.2.1.ext (Ext.drew (Below.refl _ _))
              refine And.intro ?_ ?_
              · exact H4.out.2.1.row
              refine And.intro ?_ ?_
              · exact H4.out.2.2.2.2.2
              exact trivial
            apply ex_is; apply Exists.intro
            apply ex_is; apply Exists.intro
            apply ex_is; apply Exists.intro
            apply ex_is; apply Exists.intro
            apply ex_is; apply Exists.intro
            apply ex_is; apply Exists.intro
            refine ex_phi (fun _ _ => True) ?_
            refine ex_phi (fun _ _ => True) ?_
            apply ex_is; apply Exists.intro
            apply ex_is; apply Exists.intro
            refine ex_phi (fun _ _ => True) ?_
            refine ⟨[], ⟨?steps, ?stab, ?ends⟩⟩
            case steps =>
              refine And.intro (RIn.obX_pure (Only.refl _ _) ?_) ?_
              · intro act W hR hf ho hu K hK
                replace hK := fun v h2 => hK v W rfl h2 trivial
                have G : act.tmps[3]?.getD undef = _ ∧ True := ho
                obtain ⟨g3, -⟩ := G
                clear ho hf hu
                have q4 := cellAt (hR.row H4.out.2.2.1 (by decide)) 0 (.pointer (some ⟨w.heap.size, 0, none⟩)) rfl
                go_simp
                exact hK _ (Eq.refl _)
              refine And.intro (RIn.obX_pure (Only.refl _ _) ?_) ?_
              · intro act W hR hf ho hu K hK
                replace hK := fun v h2 => hK v W rfl h2 trivial
                have G : act.tmps[3]?.getD undef = _ ∧ True := ho
                obtain ⟨g3, -⟩ := G
                clear ho hf hu
                have q4 := cellAt (hR.row H4.out.2.2.1 (by decide)) 0 (.pointer (some ⟨w.heap.size, 0, none⟩)) rfl
                go_simp
                exact hK _ (Eq.refl _)
              refine And.intro (RIn.obX_pure (Only.refl _ _) ?_) ?_
              · intro act W hR hf ho hu K hK
                replace hK := fun v h2 => hK v W rfl h2 trivial
                have F : act.tmps[49]?.getD undef = _ ∧ True := hf
                obtain ⟨f1, -⟩ := F
                clear ho hf hu
                go_simp
                exact hK _ (Eq.refl _)
              refine And.intro (RIn.obX_pure (Only.refl _ _) ?_) ?_
              · intro act W hR hf ho hu K hK
                replace hK := fun v h2 => hK v W rfl h2 trivial
                have F : act.tmps[50]?.getD undef = _ ∧ True := hf
                obtain ⟨f2, -⟩ := F
                clear ho hf hu
                go_simp
                exact hK _ (Eq.refl _)
              refine And.intro (RIn.obX_pure (Only.refl _ _) ?_) ?_
              · intro act W hR hf ho hu K hK
                replace hK := fun v h2 => hK v W rfl h2 trivial
                have F : act.tmps[51]?.getD undef = _ ∧ True := hf
                obtain ⟨f3, -⟩ := F
                have U : (fun (_ : Value) (Y : World) => Y.heap[w.heap.size]? = some (.cells #[vg, .slice A4 O2.length c4] 48)) (undef) W ∧ True := hu
                obtain ⟨r_row, -⟩ := U
                clear ho hf hu
                have q5 := cellAt r_row 1 (.slice A4 O2.length c4) rfl
                go_simp
                exact hK _ (Eq.refl _)
              refine And.intro (RIn.obX_pure (Only.refl _ _) ?_) ?_
              · intro act W hR hf ho hu K hK
                replace hK := fun v h2 => hK v W rfl h2 trivial
                have G : act.tmps[7]?.getD undef = _ ∧ True := ho
                obtain ⟨g7, -⟩ := G
                have U : (fun (_ : Value) (Y : World) => Y.heap[Bx]? = some (.cells (Cap.cells ⟨xg, xb, xt, xa, xp, xy⟩).toArray 24)) (undef) W ∧ True := hu
                obtain ⟨r_cap, -⟩ := U
                clear ho hf hu
                obtain ⟨y0, y1, y2, y3, y4, y5⟩ := lie6' r_cap (Below.refl _ W)
                go_simp
                exact hK _ (Eq.refl _)
              refine And.intro (RIn.obX_eff (Ext) (fun _ _ h => Only.ext h) (And.intro (fun _ _ _ h e => h.ext e) (And.intro (fun _ _ _ h e => (e.block _ (Array.getElem?_eq_some_iff.1 h).1).trans h) (trivial))) ?_) ?_
              · intro act W hR hf ho hu K hK
                replace hK := fun v (w' : World) (h1 : (Ext) W w') (b2 : (NewLit 0 1 (Cap.cells ⟨xg, xb, xt, xa, xp, xy⟩) 24) (v) w') => hK v w' h1 trivial ⟨b2, trivial⟩
                have F : act.tmps[53]?.getD undef = _ ∧ True := hf
                obtain ⟨f5, -⟩ := F
                clear ho hf hu
                go_simp
                exact hK _ _ (by repeat first | (with_reducible exact Below.refl _ _) | (with_reducible apply Ext.alloc) | (with_reducible apply Ext.drew) | (with_reducible apply Ext.drewN) | (with_reducible refine Ext.set ?_ (by simp))) (NewLit.new (Nat.zero_le _))
              refine And.intro (RIn.obX_eff (Only (w.heap.size + 2) [24]) (fun _ _ h => h.mono (by omega) (by simp)) (And.intro (fun _ _ _ h e => e.row h (by decide)) (trivial)) ?_) ?_
              · intro act W hR hf ho hu K hK
                replace hK := fun v (w' : World) (h1 : (Only (w.heap.size + 2) [24]) W w') (b4 : (fun (v : Value) (Y : World) => Y.ownsRow (w.heap.size + 2) 24 6 v (O2.length + 1) (capCells O2 ++ Cap.cells ⟨xg, xb, xt, xa, xp, xy⟩) ∧ Y.ownsRow (w.heap.size + 2) 24 6 vg G.length (capCells G) ∧ Dis vg v) (v) w') => hK v w' h1 trivial ⟨b4, trivial⟩
                have F : act.tmps[52]?.getD undef = _ ∧ (fun _ _ => True) (act.tmps[54]?.getD undef) W ∧ True := hf
                obtain ⟨f4, -, -⟩ := F
                have U : (fun (_ : Value) (Y : World) => SetAt (w.heap.size + 2) Y w.heap.size vg (.slice A4 O2.length c4) G O2) (undef) W ∧ (NewLit 0 1 (Cap.cells ⟨xg, xb, xt, xa, xp, xy⟩) 24) (act.tmps[54]?.getD undef) W ∧ True := hu
                obtain ⟨r_own, r_n6, -⟩ := U
                generalize f6 : act.tmps[54]?.getD undef = v6 at r_n6
                clear ho hf hu
                obtain ⟨b3, rfl, -, hl3⟩ := r_n6
                dsimp only [Option.elim] at f4
                rw [← seen_eq]; refine RIn.step_append_far W rfl (.tmp 52) (.tmp 54) 22 rfl (w.heap.size + 2) 24 ci (.agg #[.bool false, .int .i64 0, .int .i64 0, .int .i64 0, .int .i64 0, .int .i64 0]) 6 48 Try.underlying22 hci hci0 hci1 hci2 rfl (by decide) _ _ _ (eval_get f4) r_own.o ⟨b3, 0, none⟩ 1 1 (Cap.cells ⟨xg, xb, xt, xa, xp, xy⟩) (eval_get f6) (lit_cells hl3) rfl (by simp [Value.oneCell']) (by unfold maxLen; omega) (by omega) (Nat.le_trans hsz4 hR.size) ?_; intro v' w' ho'; have hoth := ho'.other r_own.g r_own.dis; exact hK _ _ (Only.grown r_own.o ho'.grown (by simp)) ⟨ho'.own, hoth.1, hoth.2⟩
              refine And.intro (RIn.obX_pure (Only.refl _ _) ?_) ?_
              · intro act W hR hf ho hu K hK
                replace hK := fun v h2 => hK v W rfl h2 trivial
                have F : act.tmps[48]?.getD undef = _ ∧ act.tmps[48]?.getD undef = _ ∧ act.tmps[49]?.getD undef = _ ∧ act.tmps[50]?.getD undef = _ ∧ act.tmps[51]?.getD undef = _ ∧ act.tmps[52]?.getD undef = _ ∧ act.tmps[53]?.getD undef = _ ∧ (fun _ _ => True) (act.tmps[54]?.getD undef) W ∧ (fun _ _ => True) (act.tmps[55]?.getD undef) W ∧ True := hf
                obtain ⟨f0, -, f1, f2, f3, f4, f5, -, -, -⟩ := F
                generalize f6 : act.tmps[54]?.getD undef = v6
                generalize f7 : act.tmps[55]?.getD undef = v7
                clear ho hf hu
                go_simp
                exact hK _ (Eq.refl _)
              refine And.intro (RIn.obX_pure (Only.refl _ _) ?_) ?_
              · intro act W hR hf ho hu K hK
                replace hK := fun v h2 => hK v W rfl h2 trivial
                have F : act.tmps[56]?.getD undef = _ ∧ act.tmps[48]?.getD undef = _ ∧ act.tmps[49]?.getD undef = _ ∧ act.tmps[50]?.getD undef = _ ∧ act.tmps[51]?.getD undef = _ ∧ act.tmps[52]?.getD undef = _ ∧ act.tmps[53]?.getD undef = _ ∧ (fun _ _ => True) (act.tmps[54]?.getD undef) W ∧ (fun _ _ => True) (act.tmps[55]?.getD undef) W ∧ True := hf
                obtain ⟨f8, f0, f1, f2, f3, f4, f5, -, -, -⟩ := F
                generalize f6 : act.tmps[54]?.getD undef = v6
                generalize f7 : act.tmps[55]?.getD undef = v7
                clear ho hf hu
                go_simp
                exact hK _ (Eq.refl _)
              refine And.intro (RIn.obX_eff (Only w.heap.size [24, 48]) (fun _ _ h => h) (trivial) ?_) ?_
              · intro act W hR hf ho hu K hK
                replace hK := fun (w' : World) (h1 : (Only w.heap.size [24, 48]) W w') (b5 : (fun (Y : World) => Y.heap[w.heap.size]? = some (.cells #[vg, (act.tmps[55]?.getD undef)] 48) ∧ Y.ownsRow (w.heap.size + 2) 24 6 ((act.tmps[55]?.getD undef)) (O2.length + 1) (capCells O2 ++ Cap.cells ⟨xg, xb, xt, xa, xp, xy⟩) ∧ Y.ownsRow (w.heap.size + 2) 24 6 vg G.length (capCells G) ∧ Dis vg ((act.tmps[55]?.getD undef))) w') => hK undef w' h1 trivial ⟨b5, trivial⟩
                have F : act.tmps[57]?.getD undef = _ ∧ (fun _ _ => True) (act.tmps[55]?.getD undef) W ∧ (fun _ _ => True) (act.tmps[55]?.getD undef) W ∧ act.tmps[48]?.getD undef = _ ∧ act.tmps[49]?.getD undef = _ ∧ act.tmps[50]?.getD undef = _ ∧ act.tmps[51]?.getD undef = _ ∧ act.tmps[52]?.getD undef = _ ∧ act.tmps[53]?.getD undef = _ ∧ (fun _ _ => True) (act.tmps[54]?.getD undef) W ∧ (fun _ _ => True) (act.tmps[55]?.getD undef) W ∧ True := hf
                obtain ⟨f9, -, -, f0, f1, f2, f3, f4, f5, -, -, -⟩ := F
                have U : (fun (_ : Value) (Y : World) => Y.heap[w.heap.size]? = some (.cells #[vg, .slice A4 O2.length c4] 48)) (undef) W ∧ (fun (v : Value) (Y : World) => Y.ownsRow (w.heap.size + 2) 24 6 v (O2.length + 1) (capCells O2 ++ Cap.cells ⟨xg, xb, xt, xa, xp, xy⟩) ∧ Y.ownsRow (w.heap.size + 2) 24 6 vg G.length (capCells G) ∧ Dis vg v) (act.tmps[55]?.getD undef) W ∧ True := hu
                obtain ⟨r_row, r_r7, -⟩ := U
                generalize f7 : act.tmps[55]?.getD undef = v7 at r_r7 hK
                generalize f6 : act.tmps[54]?.getD undef = v6
                clear ho hf hu
                obtain ⟨A7, c7, rfl, -, -⟩ := Arr.own r_r7.1; have fz := frozen_row' r_row; have q6 := cellAt r_row 1 (.slice A4 O2.length c4) rfl; have HF := Lib.hid (And.intro (Only.set (B := w.heap.size) (T := [24, 48]) (o := 1) r_row (Nat.le_refl _) (by simp) (.slice A7 (O2.length + 1) c7)) (And.intro (set_row (o := 1) r_row (.slice A7 (O2.length + 1) c7)) (Only.set (B := w.heap.size) (T := [48]) (o := 1) r_row (Nat.le_refl _) (by simp) (.slice A7 (O2.length + 1) c7))))
                go_simp
                exact hK _ HF.out.1 ⟨HF.out.2.1, HF.out.2.2.own r_r7.1 (by decide), HF.out.2.2.own r_r7.2.1 (by decide), r_r7.2.2⟩
              exact trivial
            case stab =>
              refine And.intro is_stable ?_
              refine And.intro is_stable ?_
              refine And.intro is_stable ?_
              refine And.intro is_stable ?_
              refine And.intro is_stable ?_
              refine And.intro is_stable ?_
              refine And.intro (fun _ _ _ h _ => h) ?_
              refine And.intro (fun _ _ _ h _ => h) ?_
              refine And.intro is_stable ?_
              refine And.intro is_stable ?_
              refine And.intro (fun _ _ _ h _ => h) ?_
              exact trivial
            case ends =>
              intro vals W hR hE hall
              have E : (fun (Y : World) => Y.heap[w.heap.size]? = some (.cells #[vg, (vals 55)] 48) ∧ Y.ownsRow (w.heap.size + 2) 24 6 ((vals 55)) (O2.length + 1) (capCells O2 ++ Cap.cells ⟨xg, xb, xt, xa, xp, xy⟩) ∧ Y.ownsRow (w.heap.size + 2) 24 6 vg G.length (capCells G) ∧ Dis vg ((vals 55))) W ∧ True := hE
              obtain ⟨e_fin, -⟩ := E
              clear hE
              clear hall
              generalize ev55 : vals 55 = x55 at e_fin
              simp only [fill, List.setIfInBounds_toArray, List.set_cons_succ, List.set_cons_zero, ev55]
              obtain ⟨f1, f2, f3, f4⟩ := e_fin
              have hO9 : Only w.heap.size [24, 48] V W := (Only.refl _ _ V).drew.trans hR
              have HF := Lib.hid (And.intro f1 (And.intro f2 (And.intro f3 (And.intro f4 hO9))))
              clear f1 f2 f3 f4 hO9
              gi_wp2
              have hl9 : (O ++ (pre ++ [(⟨xg, xb, xt, xa, xp, xy⟩ : Cap)])).length = O2.length + 1 := by rw [H4.out.2.2.2.2.1]; simp; omega
              have hc9 : capCells (O ++ (pre ++ [(⟨xg, xb, xt, xa, xp, xy⟩ : Cap)])) = capCells O2 ++ Cap.cells ⟨xg, xb, xt, xa, xp, xy⟩ := by rw [H4.out.2.2.2.2.1, ← List.append_assoc, capCells_app]; simp [capCells]
              refine ⟨rfl, keeps_only HF.out.2.2.2.2 _, ⟨H4.out.1.1.only.trans HF.out.2.2.2.2, ⟨_, HF.out.1, HF.out.2.2.1, by rw [hl9, hc9]; exact HF.out.2.1, HF.out.2.2.2.1⟩, H4.out.1.1.once, fun D hD => ⟨(H4.out.1.1.marks D hD).1, (keeps_only HF.out.2.2.2.2 0).same D _ (Nat.zero_le _) (H4.out.1.1.marks D hD).2 rfl⟩⟩, HF.out.2.2.2.2.row H4.out.1.2.1 (by decide), H4.out.2.2.2.1⟩
          case done =>
            rintro D xs V hD hS hI hd
            go_wp2_with fail
            have hrl : roundsL G (k + 1) = O ++ xs := by rw [hS, HO.out]; rfl
            refine ⟨⟨(O.length : Int), k + 1, D :: Ds, _, _, _, _, _, _, _, _, _, _, _, _, _, _, _, _, _, _, _, _, _, _, _, _, _, _, rfl, ?_, by omega, by rw [hrl]; simp; omega, fun he => ?_⟩, ?_⟩
            · rw [hrl]
              exact ⟨hI.1.only, hI.1.set, List.nodup_cons.2 ⟨fun h => by have := hDs D h; omega, hI.1.once⟩, fun E hE => (List.mem_cons.1 hE).elim (fun h => by subst h; exact ⟨Nat.le_trans hUs hD, hd⟩) (hI.1.marks E)⟩
            · rw [hrl] at he ⊢
              have hx : xs = [] := by
                simp at he
                exact List.length_eq_zero_iff.1 (by omega)
              rw [hx, List.append_nil] at hS ⊢
              exact hS.symm
            · simp [intOf]
              omega
end Go.Proofs.Ytalndcjbnedigaa

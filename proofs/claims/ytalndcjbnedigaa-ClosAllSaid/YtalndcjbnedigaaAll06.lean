
/- ClosAll: the walk of the law. -/
import Derived.Test.YtalndcjbnedigaaClosed06
import Derived.Test.YtalndcjbnedigaaRefU
set_option linter.all false
namespace Go.Proofs.Ytalndcjbnedigaa
open Go.RowKit Go.Shelf
attribute [local go_sem] seen dstOf boolOf

/-- Is it no more than one of the first k? -/
def lessQ (c g : Cap) : Bool := g.tag && rightC g && underC c g
def lessR (l : List Cap) (c : Cap) (k : Nat) : Bool := !c.tag || (l.take k).any (lessQ c)
theorem lessR_succ {l : List Cap} {c : Cap} {k : Nat} (h : k < l.length) : lessR l c (k + 1) = (lessR l c k || lessQ c l[k]) := by
  unfold lessR
  rw [List.take_add_one, List.getElem?_eq_getElem h, List.any_append]
  simp [Bool.or_assoc]
theorem lessR_all {l G O : List Cap} {c : Cap} (h : SetOk l G O) (hc : hasS G O c = true) : lessR l c l.length = true := by
  unfold lessR
  cases ht : c.tag with
  | false => rfl
  | true =>
    obtain ⟨g, h1, h2, h3, h4⟩ := hasS_less h hc ht
    rw [List.take_length]
    simp only [Bool.not_true, Bool.false_or]
    exact List.any_eq_true.2 ⟨g, h1, by unfold lessQ; rw [h2, h3, h4]; rfl⟩
structure Way where
  a : Int
  b : Int
  n : Int
  what : Int
instance : Inhabited Way := ⟨⟨0, 0, 0, 0⟩⟩
abbrev Way.cells (x : Way) : List Value := [.int .i64 x.a, .int .i64 x.b, .int .i64 x.n, .int .u8 x.what]
abbrev wayCells (l : List Way) : List Value := l.flatMap Way.cells
structure WayWf (x : Way) : Prop where
  a : i64ok' x.a
  b : i64ok' x.b
  n : i64ok' x.n
  lo : 0 ≤ x.what
  hi : x.what ≤ 255
theorem wayCells_len (l : List Way) : (wayCells l).length = l.length * 4 := flat_length Way.cells 4 (fun _ => rfl) l
theorem way_row {w : World} {A : Option Addr} {l : List Way} (h : Arr w A (wayCells l)) {k : Nat} (hk : k < l.length) :
    ∃ b o, A = some ⟨b, o, none⟩ ∧ b < w.heap.size ∧ w.cell? ⟨b, o + k * 4, none⟩ = some (.int .i64 l[k].a) ∧ w.cell? ⟨b, o + k * 4 + 1, none⟩ = some (.int .i64 l[k].b) ∧ w.cell? ⟨b, o + k * 4 + 2, none⟩ = some (.int .i64 l[k].n) ∧ w.cell? ⟨b, o + k * 4 + 3, none⟩ = some (.int .u8 l[k].what) := by
  obtain ⟨b, o, e, hb, q⟩ := h.flat (s := 4) (f := Way.cells) (fun _ => rfl) (by decide) hk
  exact ⟨b, o, e, hb, q 0 _ rfl, q 1 _ rfl, q 2 _ rfl, q 3 _ rfl⟩
/-- Which one a way takes. -/
def pick (a : Int) (m : Nat) : Nat := (bits .and .i64 a 4095 % (m : Int)).toNat
theorem and_4095 (n : Int) : 0 ≤ bits .and .i64 n 4095 ∧ bits .and .i64 n 4095 ≤ 4095 := by
  have h := Nat.and_le_right (n := (BitVec.ofInt 64 n).toNat) (m := 4095)
  show 0 ≤ IntKind.i64.wrap ((BitVec.ofInt 64 n &&& BitVec.ofInt 64 4095).toNat : Int) ∧ IntKind.i64.wrap ((BitVec.ofInt 64 n &&& BitVec.ofInt 64 4095).toNat : Int) ≤ 4095
  rw [BitVec.toNat_and, show (BitVec.ofInt 64 4095).toNat = 4095 by decide, wrap_i64 _ (by omega)]
  omega
theorem pick_rem {a : Int} {m : Nat} (hm : 0 < m) : (bits .and .i64 a 4095).tmod (m : Int) = ((pick a m : Nat) : Int) ∧ pick a m < m := by
  have h := and_4095 a
  rw [Int.tmod_eq_emod_of_nonneg h.1]
  unfold pick
  have h1 := Int.emod_nonneg (bits .and .i64 a 4095) (b := (m : Int)) (by omega)
  have h2 := Int.emod_lt_of_pos (bits .and .i64 a 4095) (b := (m : Int)) (by omega)
  omega
set_option maxHeartbeats 8000000 in
set_option maxRecDepth 100000 in
theorem all06_any (A : Option Addr) (cp : Nat) (l : List Cap) (A2 : Option Addr) (cp2 : Nat) (ws : List Way) (w : World) (hA : Arr w A (capCells l)) (hw : ∀ x ∈ l, CapWf x) (hA2 : Arr w A2 (wayCells ws)) (hw2 : ∀ x ∈ ws, WayWf x) : Calls Try.prog 9 #[.slice A l.length cp, .slice A2 ws.length cp2] w (Tell w true) := by
  by_cases hl : l.length = 0 ∨ 20 < l.length ∨ 60 < ws.length
  · have hx : ((l.length : Int) == 0) = true ∨ ((l.length : Int) == 0) = false ∧ (decide ((20 : Int) < (l.length : Int)) = true ∨ decide ((20 : Int) < (l.length : Int)) = false ∧ decide ((60 : Int) < (ws.length : Int)) = true) := by
      by_cases h1 : l.length = 0
      · exact .inl (by rw [h1]; rfl)
      · refine .inr ⟨beq_eq_false_iff_ne.2 (by omega), ?_⟩
        by_cases h2 : 20 < l.length
        · exact .inl (decide_eq_true (by omega))
        · exact .inr ⟨decide_eq_false (by omega), decide_eq_true (by omega)⟩
    clear hl
    rcases hx with h | ⟨h0, h | ⟨h1, h⟩⟩
    all_goals
      go_enter Try.func9, Try.ntmps9
      go_wp2_with fail
      refine (head06 _).mono ?_
      rintro _ w1 ⟨rfl, hE⟩
      go_wp2_with fail
      go_ret
      exact ⟨rfl, hE⟩
  · have h0 : 0 < l.length := by omega
    have d0 : ((l.length : Int) == 0) = false := beq_eq_false_iff_ne.2 (by omega)
    have d1 : decide ((20 : Int) < (l.length : Int)) = false := decide_eq_false (by omega)
    have d2 : decide ((60 : Int) < (ws.length : Int)) = false := decide_eq_false (by omega)
    have hl1 : l.length ≤ 20 := by omega
    have hl2 : ws.length ≤ 60 := by omega
    obtain ⟨ci, hci, hci0, hci1, hci2⟩ := info_parts infoCap
    clear hl
    go_enter Try.func9, Try.ntmps9
    go_wp2_with fail
    refine (head06 _).mono ?_
    rintro _ w1 ⟨rfl, hE⟩
    have E1 := Lib.hid hE
    have HA := Lib.hid (hA.ext hE)
    have HA2 := Lib.hid (hA2.ext hE)
    clear hE hA hA2
    go_wp2_with fail
    refine (new_is A cp l _ HA.out hw (by omega)).mono ?_
    rintro _ w2 ⟨s, G, O, rfl, hs, hp, hE⟩
    have E2 : Hid (Ext w1 w2) := Lib.hid hE
    have S2 := Lib.hid hs
    clear hs hE hp
    go_wp2_with fail
    go_loopw [7, 8] (fun v i wr => ∃ k : Nat, k ≤ l.length ∧ i = .int .i64 (k : Int) ∧ Hid (wr.ownsRow w2.heap.size 24 6 v (grantsL (l.take k)).length (capCells (grantsL (l.take k))) ∧ Ext w2 wr)) (fun _ i _ => l.length - (intOf i).toNat)
    case atStart => exact ⟨0, Nat.zero_le _, rfl, Lib.hid ⟨World.ownsRow_nil _ _ _ _, Below.refl _ _⟩⟩
    case round =>
      obtain ⟨k, hk, rfl, hB⟩ := hrel
      by_cases hlt : k < l.length
      · obtain ⟨b1, o1, rfl, -, x0, x1, x2, x3, x4, x5⟩ := cap_row (HA.out.ext (E2.out.then hB.out.2)) hlt
        have hgs := grants_succ hlt
        have hgl : (grantsL (l.take k)).length ≤ k := by
          have h1 : (grantsL (l.take k)).length ≤ (l.take k).length := List.length_filter_le _ _
          rw [List.length_take] at h1
          omega
        obtain ⟨x, hx⟩ : ∃ x, x = l[k] := ⟨_, rfl⟩
        rw [← hx] at x0 x1 x2 x3 x4 x5 hgs
        obtain ⟨T, hT⟩ : ∃ T, T = grantsL (l.take k) := ⟨_, rfl⟩
        rw [← hT] at hgs hgl hB
        obtain ⟨A7, c7, rfl, -, -⟩ := Arr.own hB.out.1
        obtain ⟨tg, xb, xt, xa, xp, xy⟩ := x
        simp only at x0 x1 x2 x3 x4 x5 hgs
        clear hx hT
        cases tg with
        | false =>
          have HG := Lib.hid hgs
          clear hgs
          go_wp2_with fail
          refine ⟨⟨k + 1, by omega, by simp, Lib.hid ⟨?_, hB.out.2.then (by repeat first | (with_reducible exact Below.refl _ _) | (with_reducible apply Ext.alloc) | (with_reducible apply Ext.drew) | (with_reducible apply Ext.drewN) | (with_reducible refine Ext.set ?_ (by simp)))⟩⟩, by simp [intOf]; omega⟩
          rw [HG.out]
          simpa using own_ext hB.out.1 (by repeat first | (with_reducible exact Below.refl _ _) | (with_reducible apply Ext.alloc) | (with_reducible apply Ext.drew) | (with_reducible apply Ext.drewN) | (with_reducible refine Ext.set ?_ (by simp)))
        | true =>
          have HRt := Lib.hid (fun w => capR_any ⟨true, xb, xt, xa, xp, xy⟩ w)
          cases hr : rightC ⟨true, xb, xt, xa, xp, xy⟩ with
          | false =>
            rw [hr] at hgs HRt
            have HG := Lib.hid hgs
            clear hgs hr
            go_wp2_with fail
            refine (HRt.out _).mono ?_
            rintro _ w3 ⟨rfl, hE⟩
            go_wp2_with fail
            refine ⟨⟨k + 1, by omega, by simp, Lib.hid ⟨?_, hB.out.2.then (Ext.then (by repeat first | (with_reducible exact Below.refl _ _) | (with_reducible apply Ext.alloc) | (with_reducible apply Ext.drew) | (with_reducible apply Ext.drewN) | (with_reducible refine Ext.set ?_ (by simp)) | (with_reducible refine Ext.then ?_ hE)) (Below.refl _ _))⟩⟩, by simp [intOf]; omega⟩
            rw [HG.out]
            simpa using own_ext hB.out.1 (by repeat first | (with_reducible exact Below.refl _ _) | (with_reducible apply Ext.alloc) | (with_reducible apply Ext.drew) | (with_reducible apply Ext.drewN) | (with_reducible refine Ext.set ?_ (by simp)) | (with_reducible refine Ext.then ?_ hE))
          | true =>
            rw [hr] at hgs HRt
            have HG := Lib.hid hgs
            have HX := Lib.hid (And.intro x0 (And.intro x1 (And.intro x2 (And.intro x3 (And.intro x4 x5)))))
            clear hgs hr
            go_wp2_with fail
            refine (HRt.out _).mono ?_
            rintro _ w3 ⟨rfl, hE⟩
            have E3 : Hid (Ext wr w3) := Lib.hid (by repeat first | (with_reducible exact Below.refl _ _) | (with_reducible apply Ext.alloc) | (with_reducible apply Ext.drew) | (with_reducible apply Ext.drewN) | (with_reducible refine Ext.set ?_ (by simp)) | (with_reducible refine Ext.then ?_ hE))
            have x0 := ext_cell E3.out _ _ HX.out.1
            have x1 := ext_cell E3.out _ _ HX.out.2.1
            have x2 := ext_cell E3.out _ _ HX.out.2.2.1
            have x3 := ext_cell E3.out _ _ HX.out.2.2.2.1
            have x4 := ext_cell E3.out _ _ HX.out.2.2.2.2.1
            have x5 := ext_cell E3.out _ _ HX.out.2.2.2.2.2
            have O3 := Lib.hid (own_ext hB.out.1 E3.out)
            have hsz : w2.heap.size ≤ w3.heap.size := (hB.out.2.then E3.out).size
            clear hE
            go_wp2_with (first
              | (at_builtin; refine wpList_append_src _ rfl (.tmp 52) (.tmp 57) 22 rfl w2.heap.size 24 ci (.agg #[.bool false, .int .i64 0, .int .i64 0, .int .i64 0, .int .i64 0, .int .i64 0]) 6 48 Try.underlying22 hci hci0 hci1 hci2 rfl (by decide) _ _ _ rfl (own_ext O3.out (Ext.alloc (Below.refl _ w3) _)) _ 1 (Cap.cells ⟨true, xb, xt, xa, xp, xy⟩) rfl (Lies.arr (arrNew (cs := Cap.cells ⟨true, xb, xt, xa, xp, xy⟩) (heap_alloc_new w3 _))) rfl (by simp [Value.oneCell']) (by unfold maxLen; omega) (by omega) (by simp; omega) ?_; intro v6 w6 ho6 hg6 _))
            have E6 : Ext w2 w6 := Below.grown (Ext.alloc (hB.out.2.then E3.out) _) hg6 (by simp; omega) (fun r hr => (O3.out.lt r hr).1)
            refine ⟨⟨k + 1, by omega, by simp, Lib.hid ⟨?_, E6⟩⟩, by simp [intOf]; omega⟩
            rw [HG.out]
            simp only [Bool.and_self, if_true, List.length_append, capCells_app]
            exact ho6
      · obtain rfl : k = l.length := by omega
        rw [List.take_length] at hB
        have hH : Hid (∀ c ∈ grantsL l, hasS G O c = true) := Lib.hid fun c hc => by
          have h1 := mem_grantsL.1 hc
          have hg : c ∈ G := by rw [S2.out.ok.grants]; exact hc
          unfold hasS ownB
          rw [h1.2.2, Bool.true_and, Bool.or_eq_true, Bool.or_eq_true]
          exact .inl (.inr (List.any_eq_true.2 ⟨c, hg, by simp⟩))
        have hgl : (grantsL l).length ≤ 20 := Nat.le_trans (List.length_filter_le _ _) hl1
        obtain ⟨T, hT⟩ : ∃ T, T = grantsL l := ⟨_, rfl⟩
        rw [← hT] at hgl hB hH
        obtain ⟨A7, c7, rfl, -, -⟩ := Arr.own hB.out.1
        clear hT
        by_cases ht : T.length = 0
        · have dt : ((T.length : Int) == 0) = true := by rw [ht]; rfl
          clear ht
          go_wp2_with fail
          go_ret
          exact ⟨rfl, E1.out.then (E2.out.then hB.out.2)⟩
        · have dt : ((T.length : Int) == 0) = false := beq_eq_false_iff_ne.2 (by omega)
          have ht0 : 0 < T.length := by omega
          go_wp2_with fail
          go_loopw [7, 9, 10, 11, 12, 13, 14] (fun v i _ _ _ _ _ wx => ∃ (k : Nat) (a : List Cap), k ≤ ws.length ∧ i = .int .i64 (k : Int) ∧ 0 < a.length ∧ a.length ≤ 20 + k ∧ Hid (∀ c ∈ a, hasS G O c = true) ∧ Hid (wx.ownsRow w2.heap.size 24 6 v a.length (capCells a) ∧ Ext w2 wx)) (fun _ i _ _ _ _ _ _ => ws.length - (intOf i).toNat)
          case atStart => exact ⟨0, T, Nat.zero_le _, rfl, ht0, by omega, hH, hB⟩
          case round =>
            obtain ⟨k, a, hk, rfl, ha0, hal, hah, hQ⟩ := hrel
            by_cases hlt : k < ws.length
            · obtain ⟨b2, o2, rfl, hb2, q0, q1, q2, q3⟩ := way_row (HA2.out.ext (E2.out.then hQ.out.2)) hlt
              have hxw := hw2 ws[k] (List.getElem_mem hlt)
              obtain ⟨x, hx⟩ : ∃ x, x = ws[k] := ⟨_, rfl⟩
              rw [← hx] at q0 q1 q2 q3 hxw
              clear hx
              obtain ⟨hp1, hp2⟩ := pick_rem (a := x.a) ha0
              obtain ⟨hp3, hp4⟩ := pick_rem (a := x.b) ha0
              obtain ⟨i1, hi1⟩ : ∃ i1, i1 = pick x.a a.length := ⟨_, rfl⟩
              obtain ⟨i2, hi2⟩ : ∃ i2, i2 = pick x.b a.length := ⟨_, rfl⟩
              rw [← hi1] at hp1 hp2
              rw [← hi2] at hp3 hp4
              clear hi1 hi2
              obtain ⟨Aa, ca, rfl, -, haa⟩ := Arr.own hQ.out.1
              obtain ⟨b3, o3, rfl, hb3, c0, c1, c2, c3, c4, c5⟩ := cap_row haa hp2
              obtain ⟨b4, o4, e4, -, d0', d1', d2', d3', d4', d5'⟩ := cap_row haa hp4
              simp only [Option.some.injEq, Addr.mk.injEq, and_true] at e4
              obtain ⟨rfl, rfl⟩ := e4
              have hhc := hah.out a[i1] (List.getElem_mem hp2)
              have hhd := hah.out a[i2] (List.getElem_mem hp4)
              obtain ⟨c, hc⟩ : ∃ c, c = a[i1] := ⟨_, rfl⟩
              obtain ⟨d, hd⟩ : ∃ d, d = a[i2] := ⟨_, rfl⟩
              rw [← hc] at c0 c1 c2 c3 c4 c5 hhc
              rw [← hd] at d0' d1' d2' d3' d4' d5' hhd
              have hXs := has_madeC S2.out.ok hhc hhd x.n (x.what % 8)
              have hXw := wf_right (has_right hXs)
              have HM := Lib.hid (fun w => made06_any c d x.n x.what w (wf_right (has_right hhc)) (wf_right (has_right hhd)) hxw.n hxw.lo hxw.hi)
              obtain ⟨X, hX⟩ : ∃ X, X = madeC c d x.n (x.what % 8) := ⟨_, rfl⟩
              rw [← hX] at hXs hXw HM
              have HXs := Lib.hid hXs
              have HQ2 := Lib.hid (And.intro q2 q3)
              obtain ⟨U, hU⟩ : ∃ U, U = (wr.alloc (.cells c.cells.toArray 24)).alloc (.cells d.cells.toArray 24) := ⟨_, rfl⟩
              have HU := Lib.hid hU
              have EU : Hid (Ext wr U) := Lib.hid (by rw [hU]; exact (by repeat first | (with_reducible exact Below.refl _ _) | (with_reducible apply Ext.alloc) | (with_reducible apply Ext.drew) | (with_reducible apply Ext.drewN) | (with_reducible refine Ext.set ?_ (by simp))))
              have Hbc : Hid (U.heap[wr.heap.size]? = some (.cells c.cells.toArray 24)) := Lib.hid (by rw [hU]; exact new_at (w := wr) (by simp) (Ext.alloc (Below.refl _ _) _))
              have Hbd : Hid (U.heap[wr.heap.size + 1]? = some (.cells d.cells.toArray 24)) := Lib.hid (by rw [hU]; exact new_at (w := wr.alloc _) (by simp) (Below.refl _ _))
              clear hc hd hhc hhd hXs hX hU haa
              go_wp2_with fail
              rw [← HU.out]
              refine wp_region_res (fun x y => Ext U x → Ext U y) [⟨some 13, [(13, [])], [14]⟩, ⟨some 14, [(13, [13])], []⟩] [(fun (u : Nat → Value) (W : World) => (fun (v : Value) (W : World) => ∃ b, v = .pointer (some ⟨b, 0, none⟩) ∧ U.heap.size ≤ b ∧ W.heap[b]? = some (.cells zeroCells 24)) (u 13) W), (fun (u : Nat → Value) (W : World) => ∃ b, u 13 = .pointer (some ⟨b, 0, none⟩) ∧ U.heap.size ≤ b ∧ W.heap[b]? = some (.cells X.cells.toArray 24))] [⟨[], [.keep, .early [0]]⟩, ⟨[], [.keep, .early [1]]⟩, ⟨[], [.keep, .early [2]]⟩, ⟨[], [.keep, .early [3]]⟩, ⟨[], [.keep, .early [4]]⟩, ⟨[], [.keep, .early [5]]⟩, ⟨[], [.keep, .early [6]]⟩, ⟨[], [.keep, .early [7]]⟩, ⟨[], [.keep, .early [8]]⟩, ⟨[], [.keep, .early [9]]⟩, ⟨[], [.keep, .early [10]]⟩, ⟨[], [.keep, .early [11]]⟩, ⟨[], [.keep, .early [12]]⟩, ⟨[], [.last, .early [13]]⟩, ⟨[(0, [13])], [.late [[]], .last]⟩] [93, 94, 95, 96, 97, 98, 99, 100, 101, 102, 103, 104, 105, 12] (by kernel_rfl) (fun _ k => k) (fun _ _ _ h k e => k (h e)) (by kernel_rfl) (by kernel_rfl) (by kernel_rfl) (by kernel_rfl) (by kernel_rfl) ?start ?_
              case start =>
                exact trivial
              apply ex_is; apply Exists.intro
              apply ex_is; apply Exists.intro
              apply ex_is; apply Exists.intro
              apply ex_is; apply Exists.intro
              apply ex_is; apply Exists.intro
              apply ex_is; apply Exists.intro
              apply ex_is; apply Exists.intro
              apply ex_is; apply Exists.intro
              apply ex_is; apply Exists.intro
              apply ex_is; apply Exists.intro
              apply ex_is; apply Exists.intro
              apply ex_is; apply Exists.intro
              apply ex_is; apply Exists.intro
              refine ex_phi (fun _ _ => True) ?_
              refine ex_phi (fun _ _ => True) ?_
              refine ⟨[], ⟨?steps, ?stab, ?ends⟩⟩
              case steps =>
                refine And.intro (obX_pure (fun _ k => k) ?_) ?_
                · intro act W hR hf ho hu K hK
                  replace hK := fun v h2 => hK v W rfl h2 trivial
                  have G : act.tmps[10]?.getD undef = _ ∧ True := ho
                  obtain ⟨g10, -⟩ := G
                  clear ho hf hu
                  obtain ⟨y0, y1, y2, y3, y4, y5⟩ := lie6' Hbc.out (hR (Ext.drew (Below.refl _ _)))
                  go_simp
                  exact hK _ (Eq.refl _)
                refine And.intro (obX_pure (fun _ k => k) ?_) ?_
                · intro act W hR hf ho hu K hK
                  replace hK := fun v h2 => hK v W rfl h2 trivial
                  have G : act.tmps[11]?.getD undef = _ ∧ True := ho
                  obtain ⟨g11, -⟩ := G
                  clear ho hf hu
                  obtain ⟨z0, z1, z2, z3, z4, z5⟩ := lie6' Hbd.out (hR (Ext.drew (Below.refl _ _)))
                  go_simp
                  exact hK _ (Eq.refl _)
                refine And.intro (obX_pure (fun _ k => k) ?_) ?_
                · intro act W hR hf ho hu K hK
                  replace hK := fun v h2 => hK v W rfl h2 trivial
                  have G : act.tmps[1]?.getD undef = _ ∧ True := ho
                  obtain ⟨g1, -⟩ := G
                  clear ho hf hu
                  go_simp
                  exact hK _ (Eq.refl _)
                refine And.intro (obX_pure (fun _ k => k) ?_) ?_
                · intro act W hR hf ho hu K hK
                  replace hK := fun v h2 => hK v W rfl h2 trivial
                  have G : act.tmps[9]?.getD undef = _ ∧ True := ho
                  obtain ⟨g9, -⟩ := G
                  clear ho hf hu
                  go_simp
                  exact hK _ (Eq.refl _)
                refine And.intro (obX_pure (fun _ k => k) ?_) ?_
                · intro act W hR hf ho hu K hK
                  replace hK := fun v h2 => hK v W rfl h2 trivial
                  have F : act.tmps[95]?.getD undef = _ ∧ act.tmps[96]?.getD undef = _ ∧ True := hf
                  obtain ⟨f2, f3, -⟩ := F
                  clear ho hf hu
                  go_simp
                  exact hK _ (Eq.refl _)
                refine And.intro (obX_pure (fun _ k => k) ?_) ?_
                · intro act W hR hf ho hu K hK
                  replace hK := fun v h2 => hK v W rfl h2 trivial
                  have F : act.tmps[97]?.getD undef = _ ∧ True := hf
                  obtain ⟨f4, -⟩ := F
                  clear ho hf hu
                  go_simp
                  exact hK _ (Eq.refl _)
                refine And.intro (obX_pure (fun _ k => k) ?_) ?_
                · intro act W hR hf ho hu K hK
                  replace hK := fun v h2 => hK v W rfl h2 trivial
                  have F : act.tmps[98]?.getD undef = _ ∧ True := hf
                  obtain ⟨f5, -⟩ := F
                  clear ho hf hu
                  have q2 := ext_cell (EU.out.then (hR (Ext.drew (Below.refl _ _)))) _ _ HQ2.out.1; have q3 := ext_cell (EU.out.then (hR (Ext.drew (Below.refl _ _)))) _ _ HQ2.out.2
                  go_simp
                  exact hK _ (Eq.refl _)
                refine And.intro (obX_pure (fun _ k => k) ?_) ?_
                · intro act W hR hf ho hu K hK
                  replace hK := fun v h2 => hK v W rfl h2 trivial
                  have G : act.tmps[1]?.getD undef = _ ∧ True := ho
                  obtain ⟨g1, -⟩ := G
                  clear ho hf hu
                  go_simp
                  exact hK _ (Eq.refl _)
                refine And.intro (obX_pure (fun _ k => k) ?_) ?_
                · intro act W hR hf ho hu K hK
                  replace hK := fun v h2 => hK v W rfl h2 trivial
                  have G : act.tmps[9]?.getD undef = _ ∧ True := ho
                  obtain ⟨g9, -⟩ := G
                  clear ho hf hu
                  go_simp
                  exact hK _ (Eq.refl _)
                refine And.intro (obX_pure (fun _ k => k) ?_) ?_
                · intro act W hR hf ho hu K hK
                  replace hK := fun v h2 => hK v W rfl h2 trivial
                  have F : act.tmps[100]?.getD undef = _ ∧ act.tmps[101]?.getD undef = _ ∧ True := hf
                  obtain ⟨f7, f8, -⟩ := F
                  clear ho hf hu
                  go_simp
                  exact hK _ (Eq.refl _)
                refine And.intro (obX_pure (fun _ k => k) ?_) ?_
                · intro act W hR hf ho hu K hK
                  replace hK := fun v h2 => hK v W rfl h2 trivial
                  have F : act.tmps[102]?.getD undef = _ ∧ True := hf
                  obtain ⟨f9, -⟩ := F
                  clear ho hf hu
                  go_simp
                  exact hK _ (Eq.refl _)
                refine And.intro (obX_pure (fun _ k => k) ?_) ?_
                · intro act W hR hf ho hu K hK
                  replace hK := fun v h2 => hK v W rfl h2 trivial
                  have F : act.tmps[103]?.getD undef = _ ∧ True := hf
                  obtain ⟨f10, -⟩ := F
                  clear ho hf hu
                  have q2 := ext_cell (EU.out.then (hR (Ext.drew (Below.refl _ _)))) _ _ HQ2.out.1; have q3 := ext_cell (EU.out.then (hR (Ext.drew (Below.refl _ _)))) _ _ HQ2.out.2
                  go_simp
                  exact hK _ (Eq.refl _)
                refine And.intro (obX_eff (Ext) (fun _ _ h k => k.then h) (And.intro (fun _ _ _ h e => by obtain ⟨b, h1, h2, h3⟩ := h; exact ⟨b, h1, h2, ext_at e h3⟩) (trivial)) ?_) ?_
                · intro act W hR hf ho hu K hK
                  replace hK := fun v (w' : World) (h1 : (Ext) W w') h2 => hK v w' h1 h2 trivial
                  have F : act.tmps[93]?.getD undef = _ ∧ act.tmps[94]?.getD undef = _ ∧ act.tmps[99]?.getD undef = _ ∧ act.tmps[104]?.getD undef = _ ∧ True := hf
                  obtain ⟨f0, f1, f6, f11, -⟩ := F
                  clear ho hf hu
                  go_simp
                  refine (HM.out _).mono ?_; rintro _ W1 ⟨rfl, hE⟩; exact hK _ _ hE (Eq.refl _)
                refine And.intro (obX_eff (Ext) (fun _ _ h k => k.then h) (trivial) ?_) ?_
                · intro act W hR hf ho hu K hK
                  replace hK := fun v (w' : World) (h1 : (Ext) W w') (b0 : (fun (v : Value) (W : World) => ∃ b, v = .pointer (some ⟨b, 0, none⟩) ∧ U.heap.size ≤ b ∧ W.heap[b]? = some (.cells zeroCells 24)) (v) w') => hK v w' h1 trivial ⟨b0, trivial⟩
                  clear ho hf hu
                  go_simp
                  exact hK _ _ (by repeat first | (with_reducible exact Below.refl _ _) | (with_reducible apply Ext.alloc) | (with_reducible apply Ext.drew) | (with_reducible apply Ext.drewN) | (with_reducible refine Ext.set ?_ (by simp))) ⟨_, rfl, (hR (Ext.drew (Below.refl _ _))).size, heap_alloc_new W _⟩
                refine And.intro (obX_eff (fun x y => ∃ b, U.heap.size ≤ b ∧ World.grownBy x y (some b)) (fun _ _ h k => by obtain ⟨b, h1, h2⟩ := h; exact ext_grown k h2 h1) (trivial) ?_) ?_
                · intro act W hR hf ho hu K hK
                  replace hK := fun (w' : World) (h1 : (fun x y => ∃ b, U.heap.size ≤ b ∧ World.grownBy x y (some b)) W w') (b1 : (fun (W : World) => ∃ b, (act.tmps[12]?.getD undef) = .pointer (some ⟨b, 0, none⟩) ∧ U.heap.size ≤ b ∧ W.heap[b]? = some (.cells X.cells.toArray 24)) w') => hK undef w' h1 trivial ⟨b1, trivial⟩
                  have F : (fun _ _ => True) (act.tmps[12]?.getD undef) W ∧ act.tmps[105]?.getD undef = _ ∧ act.tmps[105]?.getD undef = _ ∧ act.tmps[93]?.getD undef = _ ∧ act.tmps[94]?.getD undef = _ ∧ act.tmps[95]?.getD undef = _ ∧ act.tmps[96]?.getD undef = _ ∧ act.tmps[97]?.getD undef = _ ∧ act.tmps[98]?.getD undef = _ ∧ act.tmps[99]?.getD undef = _ ∧ act.tmps[100]?.getD undef = _ ∧ act.tmps[101]?.getD undef = _ ∧ act.tmps[102]?.getD undef = _ ∧ act.tmps[103]?.getD undef = _ ∧ act.tmps[104]?.getD undef = _ ∧ act.tmps[105]?.getD undef = _ ∧ (fun _ _ => True) (act.tmps[12]?.getD undef) W ∧ True := hf
                  obtain ⟨-, f12, -, f0, f1, f2, f3, f4, f5, f6, f7, f8, f9, f10, f11, -, -, -⟩ := F
                  have U : (fun (v : Value) (W : World) => ∃ b, v = .pointer (some ⟨b, 0, none⟩) ∧ U.heap.size ≤ b ∧ W.heap[b]? = some (.cells zeroCells 24)) (act.tmps[12]?.getD undef) W ∧ True := hu
                  obtain ⟨r_nb, -⟩ := U
                  generalize f13 : act.tmps[12]?.getD undef = v13 at r_nb hK
                  clear ho hf hu
                  obtain ⟨b, rfl, hbU, hb⟩ := r_nb; have fz := frozen_row' hb; obtain ⟨q0, q1, q2, q3, q4, q5⟩ := lie6' hb (Below.refl _ W); have hlq := cell_lt q0; simp only at hlq; have hq := set_cells6 hb (.bool X.tag) (.int .i64 X.base) (.int .i64 X.top) (.int .i64 X.at') (.int .i64 X.perms) (.int .i64 X.ty); have HBU := Lib.hid (And.intro hbU hq)
                  go_simp
                  exact hK _ ⟨b, HBU.out.1, grown_set6⟩ ⟨b, rfl, HBU.out.1, HBU.out.2⟩
                exact trivial
              case stab =>
                refine And.intro is_stable ?_
                refine And.intro is_stable ?_
                refine And.intro is_stable ?_
                refine And.intro is_stable ?_
                refine And.intro is_stable ?_
                refine And.intro is_stable ?_
                refine And.intro is_stable ?_
                refine And.intro is_stable ?_
                refine And.intro is_stable ?_
                refine And.intro is_stable ?_
                refine And.intro is_stable ?_
                refine And.intro is_stable ?_
                refine And.intro is_stable ?_
                refine And.intro (fun _ _ _ h _ => h) ?_
                refine And.intro (fun _ _ _ h _ => h) ?_
                exact trivial
              case ends =>
                intro vals W hR hE hall
                have E : (fun (W : World) => ∃ b, (vals 12) = .pointer (some ⟨b, 0, none⟩) ∧ U.heap.size ≤ b ∧ W.heap[b]? = some (.cells X.cells.toArray 24)) W ∧ True := hE
                obtain ⟨e_out, -⟩ := E
                clear hE
                clear hall
                generalize ev12 : vals 12 = x12 at e_out
                simp only [fill, List.setIfInBounds_toArray, List.set_cons_succ, List.set_cons_zero, ev12]
                obtain ⟨b, rfl, hbU, xb⟩ := e_out
                rename World => V
                have EV : Hid (Ext wr V) := Lib.hid (EU.out.then (hR (Ext.drew (Below.refl _ _))))
                have XB := Lib.hid xb
                obtain ⟨x0, x1, x2, x3, x4, x5⟩ := lie6' xb (Below.refl _ V)
                have hltb := cell_lt x0
                simp only at hltb
                clear hR hbU xb q0 q1 q2 q3 c0 c1 c2 c3 c4 c5 d0' d1' d2' d3' d4' d5' HU Hbc Hbd EU
                go_wp2_with fail
                refine (has_set X (S2.out.ext (hQ.out.2.then EV.out)) (by omega) hw hXw).mono ?_
                rintro _ w7 ⟨rfl, hE⟩
                rw [HXs.out]
                have E7 : Hid (Ext wr w7) := Lib.hid (EV.out.then hE)
                have XB7 := Lib.hid (ext_at hE XB.out)
                obtain ⟨x0, x1, x2, x3, x4, x5⟩ := lie6' XB7.out (Below.refl _ w7)
                have hltb := cell_lt x0
                simp only at hltb
                clear hE
                obtain ⟨tg, vb, vt, va, vp, vy⟩ := X
                simp only at x0 x1 x2 x3 x4 x5
                cases tg with
                | false =>
                  go_wp2_with fail
                  exact ⟨⟨k + 1, a, by omega, by simp, ha0, by omega, hah, Lib.hid ⟨own_ext hQ.out.1 E7.out, hQ.out.2.then E7.out⟩⟩, by simp [intOf]; omega⟩
                | true =>
                  have HZ : Hid (lessR l ⟨true, vb, vt, va, vp, vy⟩ l.length = true) := Lib.hid (lessR_all S2.out.ok HXs.out)
                  have H0 : Hid (lessR l ⟨true, vb, vt, va, vp, vy⟩ 0 = false) := Lib.hid (by simp [lessR])
                  have HS : Hid (∀ k (h : k < l.length), lessR l ⟨true, vb, vt, va, vp, vy⟩ (k + 1) = (lessR l ⟨true, vb, vt, va, vp, vy⟩ k || lessQ ⟨true, vb, vt, va, vp, vy⟩ l[k])) := Lib.hid fun k h => lessR_succ h
                  obtain ⟨f, hf⟩ : ∃ f, f = lessR l ⟨true, vb, vt, va, vp, vy⟩ := ⟨_, rfl⟩
                  rw [← hf] at HZ H0 HS
                  clear hf x1 x2 x3 x4 x5
                  go_wp2_with fail
                  clear x0
                  go_loopw [13, 14] (fun v i wy => ∃ j : Nat, j ≤ l.length ∧ v = .bool (f j) ∧ i = .int .i64 (j : Int) ∧ Hid (Ext w7 wy)) (fun _ i _ => l.length - (intOf i).toNat)
                  case atStart => exact ⟨0, Nat.zero_le _, by rw [H0.out], rfl, Lib.hid (Below.refl _ _)⟩
                  case round =>
                    obtain ⟨j, hj, rfl, rfl, hE⟩ := hrel
                    have HCw : Hid (wr.heap[b]? = some (.cells (Cap.cells ⟨true, vb, vt, va, vp, vy⟩).toArray 24)) := Lib.hid (ext_at hE.out XB7.out)
                    by_cases hlt2 : j < l.length
                    · obtain ⟨b1, o1, rfl, -, x0, x1, x2, x3, x4, x5⟩ := cap_row (HA.out.ext (E2.out.then (hQ.out.2.then (E7.out.then hE.out)))) hlt2
                      have hs := HS.out j hlt2
                      obtain ⟨z, hz⟩ : ∃ z, z = l[j] := ⟨_, rfl⟩
                      rw [← hz] at x0 x1 x2 x3 x4 x5 hs
                      obtain ⟨g, hg⟩ : ∃ g, g = f j := ⟨_, rfl⟩
                      rw [← hg] at hs ⊢
                      unfold lessQ at hs
                      clear hz hg
                      obtain ⟨tz, xb, xt, xa, xp, xy⟩ := z
                      simp only at x0 x1 x2 x3 x4 x5 hs
                      have HRt := Lib.hid (fun w => capR_any ⟨tz, xb, xt, xa, xp, xy⟩ w)
                      have HUn := Lib.hid (fun w => refUnder_any ⟨true, vb, vt, va, vp, vy⟩ ⟨tz, xb, xt, xa, xp, xy⟩ w)
                      cases g with
                      | true =>
                        have HF := Lib.hid hs
                        have HX := Lib.hid (And.intro x0 (And.intro x1 (And.intro x2 (And.intro x3 (And.intro x4 x5)))))
                        clear x0 x1 x2 x3 x4 x5 hs
                        go_wp2_with fail
                        refine wp_region_res (Ext) [] [] [⟨[], []⟩, ⟨[], []⟩, ⟨[], []⟩, ⟨[], []⟩, ⟨[], []⟩, ⟨[], []⟩, ⟨[], []⟩, ⟨[], []⟩, ⟨[], []⟩, ⟨[], []⟩, ⟨[], []⟩, ⟨[], []⟩, ⟨[], []⟩, ⟨[], []⟩, ⟨[], []⟩, ⟨[], []⟩, ⟨[], []⟩, ⟨[], []⟩, ⟨[], []⟩, ⟨[], []⟩, ⟨[], []⟩, ⟨[], []⟩, ⟨[], []⟩, ⟨[], []⟩] [118, 119, 120, 121, 122, 123, 124, 125, 126, 127, 128, 129, 130, 131, 132, 133, 134, 135, 136, 137, 138, 139, 140, 13] (by kernel_rfl) (fun _ => Below.refl _ _) (fun _ _ _ => Ext.then) (by kernel_rfl) (by kernel_rfl) (by kernel_rfl) (by kernel_rfl) (by kernel_rfl) ?start ?_
                        case start =>
                          exact trivial
                        apply ex_is; apply Exists.intro
                        apply ex_is; apply Exists.intro
                        apply ex_is; apply Exists.intro
                        apply ex_is; apply Exists.intro
                        apply ex_is; apply Exists.intro
                        apply ex_is; apply Exists.intro
                        apply ex_is; apply Exists.intro
                        apply ex_is; apply Exists.intro
                        apply ex_is; apply Exists.intro
                        apply ex_is; apply Exists.intro
                        apply ex_is; apply Exists.intro
                        apply ex_is; apply Exists.intro
                        apply ex_is; apply Exists.intro
                        apply ex_is; apply Exists.intro
                        apply ex_is; apply Exists.intro
                        apply ex_is; apply Exists.intro
                        apply ex_is; apply Exists.intro
                        apply ex_is; apply Exists.intro
                        apply ex_is; apply Exists.intro
                        apply ex_is; apply Exists.intro
                        apply ex_is; apply Exists.intro
                        apply ex_is; apply Exists.intro
                        apply ex_is; apply Exists.intro
                        apply ex_is; apply Exists.intro
                        refine ⟨[], ⟨?steps, ?stab, ?ends⟩⟩
                        case steps =>
                          refine And.intro (obX_pure (fun _ => Below.refl _ _) ?_) ?_
                          · intro act W hR hf ho hu K hK
                            replace hR := ext_drew hR
                            replace hK := fun v h2 => hK v W rfl h2 trivial
                            have G : act.tmps[13]?.getD undef = _ ∧ True := ho
                            obtain ⟨g13, -⟩ := G
                            clear ho hf hu
                            go_simp
                            exact hK _ (Eq.refl _)
                          refine And.intro (obX_pure (fun _ => Below.refl _ _) ?_) ?_
                          · intro act W hR hf ho hu K hK
                            replace hR := ext_drew hR
                            replace hK := fun v h2 => hK v W rfl h2 trivial
                            have F : act.tmps[118]?.getD undef = _ ∧ True := hf
                            obtain ⟨f0, -⟩ := F
                            clear ho hf hu
                            go_simp
                            exact hK _ (Eq.refl _)
                          refine And.intro (obX_pure (fun _ => Below.refl _ _) ?_) ?_
                          · intro act W hR hf ho hu K hK
                            replace hR := ext_drew hR
                            replace hK := fun v h2 => hK v W rfl h2 trivial
                            have G : act.tmps[0]?.getD undef = _ ∧ True := ho
                            obtain ⟨g0, -⟩ := G
                            have F : act.tmps[119]?.getD undef = _ ∧ True := hf
                            obtain ⟨f1, -⟩ := F
                            clear ho hf hu
                            go_simp
                            exact hK _ (Eq.refl _)
                          refine And.intro (obX_pure (fun _ => Below.refl _ _) ?_) ?_
                          · intro act W hR hf ho hu K hK
                            replace hR := ext_drew hR
                            replace hK := fun v h2 => hK v W rfl h2 trivial
                            have G : act.tmps[14]?.getD undef = _ ∧ True := ho
                            obtain ⟨g14, -⟩ := G
                            have F : act.tmps[119]?.getD undef = _ ∧ True := hf
                            obtain ⟨f1, -⟩ := F
                            clear ho hf hu
                            go_simp
                            exact hK _ (Eq.refl _)
                          refine And.intro (obX_pure (fun _ => Below.refl _ _) ?_) ?_
                          · intro act W hR hf ho hu K hK
                            replace hR := ext_drew hR
                            replace hK := fun v h2 => hK v W rfl h2 trivial
                            have F : act.tmps[120]?.getD undef = _ ∧ act.tmps[121]?.getD undef = _ ∧ act.tmps[119]?.getD undef = _ ∧ True := hf
                            obtain ⟨f2, f3, f1, -⟩ := F
                            clear ho hf hu
                            go_simp
                            exact hK _ (Eq.refl _)
                          refine And.intro (obX_pure (fun _ => Below.refl _ _) ?_) ?_
                          · intro act W hR hf ho hu K hK
                            replace hR := ext_drew hR
                            replace hK := fun v h2 => hK v W rfl h2 trivial
                            have F : act.tmps[122]?.getD undef = _ ∧ act.tmps[119]?.getD undef = _ ∧ True := hf
                            obtain ⟨f4, f1, -⟩ := F
                            clear ho hf hu
                            go_simp
                            exact hK _ (Eq.refl _)
                          refine And.intro (obX_pure (fun _ => Below.refl _ _) ?_) ?_
                          · intro act W hR hf ho hu K hK
                            replace hR := ext_drew hR
                            replace hK := fun v h2 => hK v W rfl h2 trivial
                            have F : act.tmps[123]?.getD undef = _ ∧ act.tmps[119]?.getD undef = _ ∧ True := hf
                            obtain ⟨f5, f1, -⟩ := F
                            clear ho hf hu
                            have y0 := ext_cell hR _ _ HX.out.1; have y1 := ext_cell hR _ _ HX.out.2.1; have y2 := ext_cell hR _ _ HX.out.2.2.1; have y3 := ext_cell hR _ _ HX.out.2.2.2.1; have y4 := ext_cell hR _ _ HX.out.2.2.2.2.1; have y5 := ext_cell hR _ _ HX.out.2.2.2.2.2
                            go_simp
                            exact hK _ (Eq.refl _)
                          refine And.intro (obX_pure (fun _ => Below.refl _ _) ?_) ?_
                          · intro act W hR hf ho hu K hK
                            replace hR := ext_drew hR
                            replace hK := fun v h2 => hK v W rfl h2 trivial
                            have F : act.tmps[124]?.getD undef = _ ∧ act.tmps[119]?.getD undef = _ ∧ act.tmps[119]?.getD undef = _ ∧ True := hf
                            obtain ⟨f6, f1, -, -⟩ := F
                            clear ho hf hu
                            go_simp
                            exact hK _ (Eq.refl _)
                          refine And.intro (obX_pure (fun _ => Below.refl _ _) ?_) ?_
                          · intro act W hR hf ho hu K hK
                            replace hR := ext_drew hR
                            replace hK := fun v h2 => hK v W rfl h2 trivial
                            have G : act.tmps[0]?.getD undef = _ ∧ True := ho
                            obtain ⟨g0, -⟩ := G
                            have F : act.tmps[125]?.getD undef = _ ∧ True := hf
                            obtain ⟨f7, -⟩ := F
                            clear ho hf hu
                            go_simp
                            exact hK _ (Eq.refl _)
                          refine And.intro (obX_pure (fun _ => Below.refl _ _) ?_) ?_
                          · intro act W hR hf ho hu K hK
                            replace hR := ext_drew hR
                            replace hK := fun v h2 => hK v W rfl h2 trivial
                            have G : act.tmps[14]?.getD undef = _ ∧ True := ho
                            obtain ⟨g14, -⟩ := G
                            have F : act.tmps[125]?.getD undef = _ ∧ True := hf
                            obtain ⟨f7, -⟩ := F
                            clear ho hf hu
                            go_simp
                            exact hK _ (Eq.refl _)
                          refine And.intro (obX_pure (fun _ => Below.refl _ _) ?_) ?_
                          · intro act W hR hf ho hu K hK
                            replace hR := ext_drew hR
                            replace hK := fun v h2 => hK v W rfl h2 trivial
                            have F : act.tmps[126]?.getD undef = _ ∧ act.tmps[127]?.getD undef = _ ∧ act.tmps[125]?.getD undef = _ ∧ True := hf
                            obtain ⟨f8, f9, f7, -⟩ := F
                            clear ho hf hu
                            go_simp
                            exact hK _ (Eq.refl _)
                          refine And.intro (obX_pure (fun _ => Below.refl _ _) ?_) ?_
                          · intro act W hR hf ho hu K hK
                            replace hR := ext_drew hR
                            replace hK := fun v h2 => hK v W rfl h2 trivial
                            have F : act.tmps[128]?.getD undef = _ ∧ act.tmps[125]?.getD undef = _ ∧ True := hf
                            obtain ⟨f10, f7, -⟩ := F
                            clear ho hf hu
                            have y0 := ext_cell hR _ _ HX.out.1; have y1 := ext_cell hR _ _ HX.out.2.1; have y2 := ext_cell hR _ _ HX.out.2.2.1; have y3 := ext_cell hR _ _ HX.out.2.2.2.1; have y4 := ext_cell hR _ _ HX.out.2.2.2.2.1; have y5 := ext_cell hR _ _ HX.out.2.2.2.2.2
                            go_simp
                            exact hK _ (Eq.refl _)
                          refine And.intro (obX_eff (Ext) (fun _ _ h => h) (trivial) ?_) ?_
                          · intro act W hR hf ho hu K hK
                            replace hR := ext_drew hR
                            replace hK := fun v (w' : World) (h1 : (Ext) W w') h2 => hK v w' h1 h2 trivial
                            have F : act.tmps[129]?.getD undef = _ ∧ act.tmps[125]?.getD undef = _ ∧ act.tmps[125]?.getD undef = _ ∧ True := hf
                            obtain ⟨f11, f7, -, -⟩ := F
                            clear ho hf hu
                            go_simp
                            exact hK _ _ (Below.refl _ _) (Eq.refl _)
                          refine And.intro (obX_pure (fun _ => Below.refl _ _) ?_) ?_
                          · intro act W hR hf ho hu K hK
                            replace hR := ext_drew hR
                            replace hK := fun v h2 => hK v W rfl h2 trivial
                            have F : act.tmps[125]?.getD undef = _ ∧ act.tmps[130]?.getD undef = _ ∧ act.tmps[119]?.getD undef = _ ∧ True := hf
                            obtain ⟨f7, f12, f1, -⟩ := F
                            clear ho hf hu
                            go_simp
                            exact hK _ (Eq.refl _)
                          refine And.intro (obX_pure (fun _ => Below.refl _ _) ?_) ?_
                          · intro act W hR hf ho hu K hK
                            replace hR := ext_drew hR
                            replace hK := fun v h2 => hK v W rfl h2 trivial
                            have F : act.tmps[131]?.getD undef = _ ∧ act.tmps[130]?.getD undef = _ ∧ act.tmps[119]?.getD undef = _ ∧ True := hf
                            obtain ⟨f13, f12, f1, -⟩ := F
                            clear ho hf hu
                            go_simp
                            exact hK _ (Eq.refl _)
                          refine And.intro (obX_pure (fun _ => Below.refl _ _) ?_) ?_
                          · intro act W hR hf ho hu K hK
                            replace hR := ext_drew hR
                            replace hK := fun v h2 => hK v W rfl h2 trivial
                            have G : act.tmps[12]?.getD undef = _ ∧ True := ho
                            obtain ⟨g12, -⟩ := G
                            have F : act.tmps[132]?.getD undef = _ ∧ True := hf
                            obtain ⟨f14, -⟩ := F
                            clear ho hf hu
                            obtain ⟨z0, z1, z2, z3, z4, z5⟩ := lie6' HCw.out hR
                            go_simp
                            exact hK _ (Eq.refl _)
                          refine And.intro (obX_pure (fun _ => Below.refl _ _) ?_) ?_
                          · intro act W hR hf ho hu K hK
                            replace hR := ext_drew hR
                            replace hK := fun v h2 => hK v W rfl h2 trivial
                            have G : act.tmps[0]?.getD undef = _ ∧ True := ho
                            obtain ⟨g0, -⟩ := G
                            have F : act.tmps[132]?.getD undef = _ ∧ True := hf
                            obtain ⟨f14, -⟩ := F
                            clear ho hf hu
                            go_simp
                            exact hK _ (Eq.refl _)
                          refine And.intro (obX_pure (fun _ => Below.refl _ _) ?_) ?_
                          · intro act W hR hf ho hu K hK
                            replace hR := ext_drew hR
                            replace hK := fun v h2 => hK v W rfl h2 trivial
                            have G : act.tmps[14]?.getD undef = _ ∧ True := ho
                            obtain ⟨g14, -⟩ := G
                            have F : act.tmps[132]?.getD undef = _ ∧ True := hf
                            obtain ⟨f14, -⟩ := F
                            clear ho hf hu
                            go_simp
                            exact hK _ (Eq.refl _)
                          refine And.intro (obX_pure (fun _ => Below.refl _ _) ?_) ?_
                          · intro act W hR hf ho hu K hK
                            replace hR := ext_drew hR
                            replace hK := fun v h2 => hK v W rfl h2 trivial
                            have F : act.tmps[134]?.getD undef = _ ∧ act.tmps[135]?.getD undef = _ ∧ act.tmps[132]?.getD undef = _ ∧ True := hf
                            obtain ⟨f16, f17, f14, -⟩ := F
                            clear ho hf hu
                            go_simp
                            exact hK _ (Eq.refl _)
                          refine And.intro (obX_pure (fun _ => Below.refl _ _) ?_) ?_
                          · intro act W hR hf ho hu K hK
                            replace hR := ext_drew hR
                            replace hK := fun v h2 => hK v W rfl h2 trivial
                            have F : act.tmps[136]?.getD undef = _ ∧ act.tmps[132]?.getD undef = _ ∧ True := hf
                            obtain ⟨f18, f14, -⟩ := F
                            clear ho hf hu
                            have y0 := ext_cell hR _ _ HX.out.1; have y1 := ext_cell hR _ _ HX.out.2.1; have y2 := ext_cell hR _ _ HX.out.2.2.1; have y3 := ext_cell hR _ _ HX.out.2.2.2.1; have y4 := ext_cell hR _ _ HX.out.2.2.2.2.1; have y5 := ext_cell hR _ _ HX.out.2.2.2.2.2
                            go_simp
                            exact hK _ (Eq.refl _)
                          refine And.intro (obX_eff (Ext) (fun _ _ h => h) (trivial) ?_) ?_
                          · intro act W hR hf ho hu K hK
                            replace hR := ext_drew hR
                            replace hK := fun v (w' : World) (h1 : (Ext) W w') h2 => hK v w' h1 h2 trivial
                            have F : act.tmps[133]?.getD undef = _ ∧ act.tmps[137]?.getD undef = _ ∧ act.tmps[132]?.getD undef = _ ∧ act.tmps[132]?.getD undef = _ ∧ True := hf
                            obtain ⟨f15, f19, f14, -, -⟩ := F
                            clear ho hf hu
                            go_simp
                            exact hK _ _ (Below.refl _ _) (Eq.refl _)
                          refine And.intro (obX_pure (fun _ => Below.refl _ _) ?_) ?_
                          · intro act W hR hf ho hu K hK
                            replace hR := ext_drew hR
                            replace hK := fun v h2 => hK v W rfl h2 trivial
                            have F : act.tmps[132]?.getD undef = _ ∧ act.tmps[138]?.getD undef = _ ∧ act.tmps[119]?.getD undef = _ ∧ True := hf
                            obtain ⟨f14, f20, f1, -⟩ := F
                            clear ho hf hu
                            go_simp
                            exact hK _ (Eq.refl _)
                          refine And.intro (obX_pure (fun _ => Below.refl _ _) ?_) ?_
                          · intro act W hR hf ho hu K hK
                            replace hR := ext_drew hR
                            replace hK := fun v h2 => hK v W rfl h2 trivial
                            have F : act.tmps[119]?.getD undef = _ ∧ act.tmps[139]?.getD undef = _ ∧ True := hf
                            obtain ⟨f1, f21, -⟩ := F
                            clear ho hf hu
                            go_simp
                            exact hK _ (Eq.refl _)
                          refine And.intro (obX_pure (fun _ => Below.refl _ _) ?_) ?_
                          · intro act W hR hf ho hu K hK
                            replace hR := ext_drew hR
                            replace hK := fun v h2 => hK v W rfl h2 trivial
                            have F : act.tmps[140]?.getD undef = _ ∧ act.tmps[138]?.getD undef = _ ∧ act.tmps[118]?.getD undef = _ ∧ act.tmps[119]?.getD undef = _ ∧ act.tmps[120]?.getD undef = _ ∧ act.tmps[121]?.getD undef = _ ∧ act.tmps[122]?.getD undef = _ ∧ act.tmps[123]?.getD undef = _ ∧ act.tmps[124]?.getD undef = _ ∧ act.tmps[125]?.getD undef = _ ∧ act.tmps[126]?.getD undef = _ ∧ act.tmps[127]?.getD undef = _ ∧ act.tmps[128]?.getD undef = _ ∧ act.tmps[129]?.getD undef = _ ∧ act.tmps[130]?.getD undef = _ ∧ act.tmps[131]?.getD undef = _ ∧ act.tmps[132]?.getD undef = _ ∧ act.tmps[133]?.getD undef = _ ∧ act.tmps[134]?.getD undef = _ ∧ act.tmps[135]?.getD undef = _ ∧ act.tmps[136]?.getD undef = _ ∧ act.tmps[137]?.getD undef = _ ∧ act.tmps[138]?.getD undef = _ ∧ act.tmps[139]?.getD undef = _ ∧ act.tmps[140]?.getD undef = _ ∧ True := hf
                            obtain ⟨f22, f20, f0, f1, f2, f3, f4, f5, f6, f7, f8, f9, f10, f11, f12, f13, f14, f15, f16, f17, f18, f19, -, f21, -, -⟩ := F
                            clear ho hf hu
                            go_simp
                            exact hK _ (Eq.refl _)
                          exact trivial
                        case stab =>
                          refine And.intro is_stable ?_
                          refine And.intro is_stable ?_
                          refine And.intro is_stable ?_
                          refine And.intro is_stable ?_
                          refine And.intro is_stable ?_
                          refine And.intro is_stable ?_
                          refine And.intro is_stable ?_
                          refine And.intro is_stable ?_
                          refine And.intro is_stable ?_
                          refine And.intro is_stable ?_
                          refine And.intro is_stable ?_
                          refine And.intro is_stable ?_
                          refine And.intro is_stable ?_
                          refine And.intro is_stable ?_
                          refine And.intro is_stable ?_
                          refine And.intro is_stable ?_
                          refine And.intro is_stable ?_
                          refine And.intro is_stable ?_
                          refine And.intro is_stable ?_
                          refine And.intro is_stable ?_
                          refine And.intro is_stable ?_
                          refine And.intro is_stable ?_
                          refine And.intro is_stable ?_
                          refine And.intro is_stable ?_
                          exact trivial
                        case ends =>
                          intro vals W hR hE hall
                          replace hR := ext_drew hR
                          clear hE
                          have e13 : vals 13 = _ := hall 23 (by decide)
                          clear hall
                          simp only [fill, List.setIfInBounds_toArray, List.set_cons_succ, List.set_cons_zero, e13]
                          go_wp2_with fail
                          exact ⟨⟨j + 1, by omega, by rw [HF.out]; rfl, by rfl, Lib.hid (hE.out.then (Ext.then (by repeat first | (with_reducible exact Below.refl _ _) | (with_reducible apply Ext.alloc) | (with_reducible apply Ext.drew) | (with_reducible apply Ext.drewN) | (with_reducible refine Ext.set ?_ (by simp)) | (with_reducible refine Ext.then ?_ hR)) (Below.refl _ _)))⟩, by simp [intOf]; omega⟩
                      | false =>
                        cases tz with
                        | false =>
                          have HF := Lib.hid hs
                          have HX := Lib.hid (And.intro x0 (And.intro x1 (And.intro x2 (And.intro x3 (And.intro x4 x5)))))
                          clear x0 x1 x2 x3 x4 x5 hs
                          go_wp2_with fail
                          refine wp_region_res (Ext) [] [] [⟨[], []⟩, ⟨[], []⟩, ⟨[], []⟩, ⟨[], []⟩, ⟨[], []⟩, ⟨[], []⟩, ⟨[], []⟩, ⟨[], []⟩, ⟨[], []⟩, ⟨[], []⟩, ⟨[], []⟩, ⟨[], []⟩, ⟨[], []⟩, ⟨[], []⟩, ⟨[], []⟩, ⟨[], []⟩, ⟨[], []⟩, ⟨[], []⟩, ⟨[], []⟩, ⟨[], []⟩, ⟨[], []⟩, ⟨[], []⟩, ⟨[], []⟩, ⟨[], []⟩] [118, 119, 120, 121, 122, 123, 124, 125, 126, 127, 128, 129, 130, 131, 132, 133, 134, 135, 136, 137, 138, 139, 140, 13] (by kernel_rfl) (fun _ => Below.refl _ _) (fun _ _ _ => Ext.then) (by kernel_rfl) (by kernel_rfl) (by kernel_rfl) (by kernel_rfl) (by kernel_rfl) ?start ?_
                          case start =>
                            exact trivial
                          apply ex_is; apply Exists.intro
                          apply ex_is; apply Exists.intro
                          apply ex_is; apply Exists.intro
                          apply ex_is; apply Exists.intro
                          apply ex_is; apply Exists.intro
                          apply ex_is; apply Exists.intro
                          apply ex_is; apply Exists.intro
                          apply ex_is; apply Exists.intro
                          apply ex_is; apply Exists.intro
                          apply ex_is; apply Exists.intro
                          apply ex_is; apply Exists.intro
                          apply ex_is; apply Exists.intro
                          apply ex_is; apply Exists.intro
                          apply ex_is; apply Exists.intro
                          apply ex_is; apply Exists.intro
                          apply ex_is; apply Exists.intro
                          apply ex_is; apply Exists.intro
                          apply ex_is; apply Exists.intro
                          apply ex_is; apply Exists.intro
                          apply ex_is; apply Exists.intro
                          apply ex_is; apply Exists.intro
                          apply ex_is; apply Exists.intro
                          apply ex_is; apply Exists.intro
                          apply ex_is; apply Exists.intro
                          refine ⟨[], ⟨?steps, ?stab, ?ends⟩⟩
                          case steps =>
                            refine And.intro (obX_pure (fun _ => Below.refl _ _) ?_) ?_
                            · intro act W hR hf ho hu K hK
                              replace hR := ext_drew hR
                              replace hK := fun v h2 => hK v W rfl h2 trivial
                              have G : act.tmps[13]?.getD undef = _ ∧ True := ho
                              obtain ⟨g13, -⟩ := G
                              clear ho hf hu
                              go_simp
                              exact hK _ (Eq.refl _)
                            refine And.intro (obX_pure (fun _ => Below.refl _ _) ?_) ?_
                            · intro act W hR hf ho hu K hK
                              replace hR := ext_drew hR
                              replace hK := fun v h2 => hK v W rfl h2 trivial
                              have F : act.tmps[118]?.getD undef = _ ∧ True := hf
                              obtain ⟨f0, -⟩ := F
                              clear ho hf hu
                              go_simp
                              exact hK _ (Eq.refl _)
                            refine And.intro (obX_pure (fun _ => Below.refl _ _) ?_) ?_
                            · intro act W hR hf ho hu K hK
                              replace hR := ext_drew hR
                              replace hK := fun v h2 => hK v W rfl h2 trivial
                              have G : act.tmps[0]?.getD undef = _ ∧ True := ho
                              obtain ⟨g0, -⟩ := G
                              have F : act.tmps[119]?.getD undef = _ ∧ True := hf
                              obtain ⟨f1, -⟩ := F
                              clear ho hf hu
                              go_simp
                              exact hK _ (Eq.refl _)
                            refine And.intro (obX_pure (fun _ => Below.refl _ _) ?_) ?_
                            · intro act W hR hf ho hu K hK
                              replace hR := ext_drew hR
                              replace hK := fun v h2 => hK v W rfl h2 trivial
                              have G : act.tmps[14]?.getD undef = _ ∧ True := ho
                              obtain ⟨g14, -⟩ := G
                              have F : act.tmps[119]?.getD undef = _ ∧ True := hf
                              obtain ⟨f1, -⟩ := F
                              clear ho hf hu
                              go_simp
                              exact hK _ (Eq.refl _)
                            refine And.intro (obX_pure (fun _ => Below.refl _ _) ?_) ?_
                            · intro act W hR hf ho hu K hK
                              replace hR := ext_drew hR
                              replace hK := fun v h2 => hK v W rfl h2 trivial
                              have F : act.tmps[120]?.getD undef = _ ∧ act.tmps[121]?.getD undef = _ ∧ act.tmps[119]?.getD undef = _ ∧ True := hf
                              obtain ⟨f2, f3, f1, -⟩ := F
                              clear ho hf hu
                              go_simp
                              exact hK _ (Eq.refl _)
                            refine And.intro (obX_pure (fun _ => Below.refl _ _) ?_) ?_
                            · intro act W hR hf ho hu K hK
                              replace hR := ext_drew hR
                              replace hK := fun v h2 => hK v W rfl h2 trivial
                              have F : act.tmps[122]?.getD undef = _ ∧ act.tmps[119]?.getD undef = _ ∧ True := hf
                              obtain ⟨f4, f1, -⟩ := F
                              clear ho hf hu
                              go_simp
                              exact hK _ (Eq.refl _)
                            refine And.intro (obX_pure (fun _ => Below.refl _ _) ?_) ?_
                            · intro act W hR hf ho hu K hK
                              replace hR := ext_drew hR
                              replace hK := fun v h2 => hK v W rfl h2 trivial
                              have F : act.tmps[123]?.getD undef = _ ∧ act.tmps[119]?.getD undef = _ ∧ True := hf
                              obtain ⟨f5, f1, -⟩ := F
                              clear ho hf hu
                              have y0 := ext_cell hR _ _ HX.out.1; have y1 := ext_cell hR _ _ HX.out.2.1; have y2 := ext_cell hR _ _ HX.out.2.2.1; have y3 := ext_cell hR _ _ HX.out.2.2.2.1; have y4 := ext_cell hR _ _ HX.out.2.2.2.2.1; have y5 := ext_cell hR _ _ HX.out.2.2.2.2.2
                              go_simp
                              exact hK _ (Eq.refl _)
                            refine And.intro (obX_pure (fun _ => Below.refl _ _) ?_) ?_
                            · intro act W hR hf ho hu K hK
                              replace hR := ext_drew hR
                              replace hK := fun v h2 => hK v W rfl h2 trivial
                              have F : act.tmps[124]?.getD undef = _ ∧ act.tmps[119]?.getD undef = _ ∧ act.tmps[119]?.getD undef = _ ∧ True := hf
                              obtain ⟨f6, f1, -, -⟩ := F
                              clear ho hf hu
                              go_simp
                              exact hK _ (Eq.refl _)
                            refine And.intro (obX_pure (fun _ => Below.refl _ _) ?_) ?_
                            · intro act W hR hf ho hu K hK
                              replace hR := ext_drew hR
                              replace hK := fun v h2 => hK v W rfl h2 trivial
                              have G : act.tmps[0]?.getD undef = _ ∧ True := ho
                              obtain ⟨g0, -⟩ := G
                              have F : act.tmps[125]?.getD undef = _ ∧ True := hf
                              obtain ⟨f7, -⟩ := F
                              clear ho hf hu
                              go_simp
                              exact hK _ (Eq.refl _)
                            refine And.intro (obX_pure (fun _ => Below.refl _ _) ?_) ?_
                            · intro act W hR hf ho hu K hK
                              replace hR := ext_drew hR
                              replace hK := fun v h2 => hK v W rfl h2 trivial
                              have G : act.tmps[14]?.getD undef = _ ∧ True := ho
                              obtain ⟨g14, -⟩ := G
                              have F : act.tmps[125]?.getD undef = _ ∧ True := hf
                              obtain ⟨f7, -⟩ := F
                              clear ho hf hu
                              go_simp
                              exact hK _ (Eq.refl _)
                            refine And.intro (obX_pure (fun _ => Below.refl _ _) ?_) ?_
                            · intro act W hR hf ho hu K hK
                              replace hR := ext_drew hR
                              replace hK := fun v h2 => hK v W rfl h2 trivial
                              have F : act.tmps[126]?.getD undef = _ ∧ act.tmps[127]?.getD undef = _ ∧ act.tmps[125]?.getD undef = _ ∧ True := hf
                              obtain ⟨f8, f9, f7, -⟩ := F
                              clear ho hf hu
                              go_simp
                              exact hK _ (Eq.refl _)
                            refine And.intro (obX_pure (fun _ => Below.refl _ _) ?_) ?_
                            · intro act W hR hf ho hu K hK
                              replace hR := ext_drew hR
                              replace hK := fun v h2 => hK v W rfl h2 trivial
                              have F : act.tmps[128]?.getD undef = _ ∧ act.tmps[125]?.getD undef = _ ∧ True := hf
                              obtain ⟨f10, f7, -⟩ := F
                              clear ho hf hu
                              have y0 := ext_cell hR _ _ HX.out.1; have y1 := ext_cell hR _ _ HX.out.2.1; have y2 := ext_cell hR _ _ HX.out.2.2.1; have y3 := ext_cell hR _ _ HX.out.2.2.2.1; have y4 := ext_cell hR _ _ HX.out.2.2.2.2.1; have y5 := ext_cell hR _ _ HX.out.2.2.2.2.2
                              go_simp
                              exact hK _ (Eq.refl _)
                            refine And.intro (obX_eff (Ext) (fun _ _ h => h) (trivial) ?_) ?_
                            · intro act W hR hf ho hu K hK
                              replace hR := ext_drew hR
                              replace hK := fun v (w' : World) (h1 : (Ext) W w') h2 => hK v w' h1 h2 trivial
                              have F : act.tmps[129]?.getD undef = _ ∧ act.tmps[125]?.getD undef = _ ∧ act.tmps[125]?.getD undef = _ ∧ True := hf
                              obtain ⟨f11, f7, -, -⟩ := F
                              clear ho hf hu
                              go_simp
                              exact hK _ _ (Below.refl _ _) (Eq.refl _)
                            refine And.intro (obX_pure (fun _ => Below.refl _ _) ?_) ?_
                            · intro act W hR hf ho hu K hK
                              replace hR := ext_drew hR
                              replace hK := fun v h2 => hK v W rfl h2 trivial
                              have F : act.tmps[125]?.getD undef = _ ∧ act.tmps[130]?.getD undef = _ ∧ act.tmps[119]?.getD undef = _ ∧ True := hf
                              obtain ⟨f7, f12, f1, -⟩ := F
                              clear ho hf hu
                              go_simp
                              exact hK _ (Eq.refl _)
                            refine And.intro (obX_pure (fun _ => Below.refl _ _) ?_) ?_
                            · intro act W hR hf ho hu K hK
                              replace hR := ext_drew hR
                              replace hK := fun v h2 => hK v W rfl h2 trivial
                              have F : act.tmps[131]?.getD undef = _ ∧ act.tmps[130]?.getD undef = _ ∧ act.tmps[119]?.getD undef = _ ∧ True := hf
                              obtain ⟨f13, f12, f1, -⟩ := F
                              clear ho hf hu
                              go_simp
                              exact hK _ (Eq.refl _)
                            refine And.intro (obX_pure (fun _ => Below.refl _ _) ?_) ?_
                            · intro act W hR hf ho hu K hK
                              replace hR := ext_drew hR
                              replace hK := fun v h2 => hK v W rfl h2 trivial
                              have G : act.tmps[12]?.getD undef = _ ∧ True := ho
                              obtain ⟨g12, -⟩ := G
                              have F : act.tmps[132]?.getD undef = _ ∧ True := hf
                              obtain ⟨f14, -⟩ := F
                              clear ho hf hu
                              obtain ⟨z0, z1, z2, z3, z4, z5⟩ := lie6' HCw.out hR
                              go_simp
                              exact hK _ (Eq.refl _)
                            refine And.intro (obX_pure (fun _ => Below.refl _ _) ?_) ?_
                            · intro act W hR hf ho hu K hK
                              replace hR := ext_drew hR
                              replace hK := fun v h2 => hK v W rfl h2 trivial
                              have G : act.tmps[0]?.getD undef = _ ∧ True := ho
                              obtain ⟨g0, -⟩ := G
                              have F : act.tmps[132]?.getD undef = _ ∧ True := hf
                              obtain ⟨f14, -⟩ := F
                              clear ho hf hu
                              go_simp
                              exact hK _ (Eq.refl _)
                            refine And.intro (obX_pure (fun _ => Below.refl _ _) ?_) ?_
                            · intro act W hR hf ho hu K hK
                              replace hR := ext_drew hR
                              replace hK := fun v h2 => hK v W rfl h2 trivial
                              have G : act.tmps[14]?.getD undef = _ ∧ True := ho
                              obtain ⟨g14, -⟩ := G
                              have F : act.tmps[132]?.getD undef = _ ∧ True := hf
                              obtain ⟨f14, -⟩ := F
                              clear ho hf hu
                              go_simp
                              exact hK _ (Eq.refl _)
                            refine And.intro (obX_pure (fun _ => Below.refl _ _) ?_) ?_
                            · intro act W hR hf ho hu K hK
                              replace hR := ext_drew hR
                              replace hK := fun v h2 => hK v W rfl h2 trivial
                              have F : act.tmps[134]?.getD undef = _ ∧ act.tmps[135]?.getD undef = _ ∧ act.tmps[132]?.getD undef = _ ∧ True := hf
                              obtain ⟨f16, f17, f14, -⟩ := F
                              clear ho hf hu
                              go_simp
                              exact hK _ (Eq.refl _)
                            refine And.intro (obX_pure (fun _ => Below.refl _ _) ?_) ?_
                            · intro act W hR hf ho hu K hK
                              replace hR := ext_drew hR
                              replace hK := fun v h2 => hK v W rfl h2 trivial
                              have F : act.tmps[136]?.getD undef = _ ∧ act.tmps[132]?.getD undef = _ ∧ True := hf
                              obtain ⟨f18, f14, -⟩ := F
                              clear ho hf hu
                              have y0 := ext_cell hR _ _ HX.out.1; have y1 := ext_cell hR _ _ HX.out.2.1; have y2 := ext_cell hR _ _ HX.out.2.2.1; have y3 := ext_cell hR _ _ HX.out.2.2.2.1; have y4 := ext_cell hR _ _ HX.out.2.2.2.2.1; have y5 := ext_cell hR _ _ HX.out.2.2.2.2.2
                              go_simp
                              exact hK _ (Eq.refl _)
                            refine And.intro (obX_eff (Ext) (fun _ _ h => h) (trivial) ?_) ?_
                            · intro act W hR hf ho hu K hK
                              replace hR := ext_drew hR
                              replace hK := fun v (w' : World) (h1 : (Ext) W w') h2 => hK v w' h1 h2 trivial
                              have F : act.tmps[133]?.getD undef = _ ∧ act.tmps[137]?.getD undef = _ ∧ act.tmps[132]?.getD undef = _ ∧ act.tmps[132]?.getD undef = _ ∧ True := hf
                              obtain ⟨f15, f19, f14, -, -⟩ := F
                              clear ho hf hu
                              go_simp
                              exact hK _ _ (Below.refl _ _) (Eq.refl _)
                            refine And.intro (obX_pure (fun _ => Below.refl _ _) ?_) ?_
                            · intro act W hR hf ho hu K hK
                              replace hR := ext_drew hR
                              replace hK := fun v h2 => hK v W rfl h2 trivial
                              have F : act.tmps[132]?.getD undef = _ ∧ act.tmps[138]?.getD undef = _ ∧ act.tmps[119]?.getD undef = _ ∧ True := hf
                              obtain ⟨f14, f20, f1, -⟩ := F
                              clear ho hf hu
                              go_simp
                              exact hK _ (Eq.refl _)
                            refine And.intro (obX_pure (fun _ => Below.refl _ _) ?_) ?_
                            · intro act W hR hf ho hu K hK
                              replace hR := ext_drew hR
                              replace hK := fun v h2 => hK v W rfl h2 trivial
                              have F : act.tmps[119]?.getD undef = _ ∧ act.tmps[139]?.getD undef = _ ∧ True := hf
                              obtain ⟨f1, f21, -⟩ := F
                              clear ho hf hu
                              go_simp
                              exact hK _ (Eq.refl _)
                            refine And.intro (obX_pure (fun _ => Below.refl _ _) ?_) ?_
                            · intro act W hR hf ho hu K hK
                              replace hR := ext_drew hR
                              replace hK := fun v h2 => hK v W rfl h2 trivial
                              have F : act.tmps[140]?.getD undef = _ ∧ act.tmps[138]?.getD undef = _ ∧ act.tmps[118]?.getD undef = _ ∧ act.tmps[119]?.getD undef = _ ∧ act.tmps[120]?.getD undef = _ ∧ act.tmps[121]?.getD undef = _ ∧ act.tmps[122]?.getD undef = _ ∧ act.tmps[123]?.getD undef = _ ∧ act.tmps[124]?.getD undef = _ ∧ act.tmps[125]?.getD undef = _ ∧ act.tmps[126]?.getD undef = _ ∧ act.tmps[127]?.getD undef = _ ∧ act.tmps[128]?.getD undef = _ ∧ act.tmps[129]?.getD undef = _ ∧ act.tmps[130]?.getD undef = _ ∧ act.tmps[131]?.getD undef = _ ∧ act.tmps[132]?.getD undef = _ ∧ act.tmps[133]?.getD undef = _ ∧ act.tmps[134]?.getD undef = _ ∧ act.tmps[135]?.getD undef = _ ∧ act.tmps[136]?.getD undef = _ ∧ act.tmps[137]?.getD undef = _ ∧ act.tmps[138]?.getD undef = _ ∧ act.tmps[139]?.getD undef = _ ∧ act.tmps[140]?.getD undef = _ ∧ True := hf
                              obtain ⟨f22, f20, f0, f1, f2, f3, f4, f5, f6, f7, f8, f9, f10, f11, f12, f13, f14, f15, f16, f17, f18, f19, -, f21, -, -⟩ := F
                              clear ho hf hu
                              go_simp
                              exact hK _ (Eq.refl _)
                            exact trivial
                          case stab =>
                            refine And.intro is_stable ?_
                            refine And.intro is_stable ?_
                            refine And.intro is_stable ?_
                            refine And.intro is_stable ?_
                            refine And.intro is_stable ?_
                            refine And.intro is_stable ?_
                            refine And.intro is_stable ?_
                            refine And.intro is_stable ?_
                            refine And.intro is_stable ?_
                            refine And.intro is_stable ?_
                            refine And.intro is_stable ?_
                            refine And.intro is_stable ?_
                            refine And.intro is_stable ?_
                            refine And.intro is_stable ?_
                            refine And.intro is_stable ?_
                            refine And.intro is_stable ?_
                            refine And.intro is_stable ?_
                            refine And.intro is_stable ?_
                            refine And.intro is_stable ?_
                            refine And.intro is_stable ?_
                            refine And.intro is_stable ?_
                            refine And.intro is_stable ?_
                            refine And.intro is_stable ?_
                            refine And.intro is_stable ?_
                            exact trivial
                          case ends =>
                            intro vals W hR hE hall
                            replace hR := ext_drew hR
                            clear hE
                            have e13 : vals 13 = _ := hall 23 (by decide)
                            clear hall
                            simp only [fill, List.setIfInBounds_toArray, List.set_cons_succ, List.set_cons_zero, e13]
                            go_wp2_with fail
                            exact ⟨⟨j + 1, by omega, by rw [HF.out]; rfl, by rfl, Lib.hid (hE.out.then (Ext.then (by repeat first | (with_reducible exact Below.refl _ _) | (with_reducible apply Ext.alloc) | (with_reducible apply Ext.drew) | (with_reducible apply Ext.drewN) | (with_reducible refine Ext.set ?_ (by simp)) | (with_reducible refine Ext.then ?_ hR)) (Below.refl _ _)))⟩, by simp [intOf]; omega⟩
                        | true =>
                          cases hr : rightC ⟨true, xb, xt, xa, xp, xy⟩ with
                          | false =>
                            rw [hr] at hs HRt
                            have HF := Lib.hid hs
                            have HX := Lib.hid (And.intro x0 (And.intro x1 (And.intro x2 (And.intro x3 (And.intro x4 x5)))))
                            clear x0 x1 x2 x3 x4 x5 hs hr
                            go_wp2_with fail
                            refine wp_region_res (Ext) [] [] [⟨[], []⟩, ⟨[], []⟩, ⟨[], []⟩, ⟨[], []⟩, ⟨[], []⟩, ⟨[], []⟩, ⟨[], []⟩, ⟨[], []⟩, ⟨[], []⟩, ⟨[], []⟩, ⟨[], []⟩, ⟨[], []⟩, ⟨[], []⟩, ⟨[], []⟩, ⟨[], []⟩, ⟨[], []⟩, ⟨[], []⟩, ⟨[], []⟩, ⟨[], []⟩, ⟨[], []⟩, ⟨[], []⟩, ⟨[], []⟩, ⟨[], []⟩, ⟨[], []⟩] [118, 119, 120, 121, 122, 123, 124, 125, 126, 127, 128, 129, 130, 131, 132, 133, 134, 135, 136, 137, 138, 139, 140, 13] (by kernel_rfl) (fun _ => Below.refl _ _) (fun _ _ _ => Ext.then) (by kernel_rfl) (by kernel_rfl) (by kernel_rfl) (by kernel_rfl) (by kernel_rfl) ?start ?_
                            case start =>
                              exact trivial
                            apply ex_is; apply Exists.intro
                            apply ex_is; apply Exists.intro
                            apply ex_is; apply Exists.intro
                            apply ex_is; apply Exists.intro
                            apply ex_is; apply Exists.intro
                            apply ex_is; apply Exists.intro
                            apply ex_is; apply Exists.intro
                            apply ex_is; apply Exists.intro
                            apply ex_is; apply Exists.intro
                            apply ex_is; apply Exists.intro
                            apply ex_is; apply Exists.intro
                            apply ex_is; apply Exists.intro
                            apply ex_is; apply Exists.intro
                            apply ex_is; apply Exists.intro
                            apply ex_is; apply Exists.intro
                            apply ex_is; apply Exists.intro
                            apply ex_is; apply Exists.intro
                            apply ex_is; apply Exists.intro
                            apply ex_is; apply Exists.intro
                            apply ex_is; apply Exists.intro
                            apply ex_is; apply Exists.intro
                            apply ex_is; apply Exists.intro
                            apply ex_is; apply Exists.intro
                            apply ex_is; apply Exists.intro
                            refine ⟨[], ⟨?steps, ?stab, ?ends⟩⟩
                            case steps =>
                              refine And.intro (obX_pure (fun _ => Below.refl _ _) ?_) ?_
                              · intro act W hR hf ho hu K hK
                                replace hR := ext_drew hR
                                replace hK := fun v h2 => hK v W rfl h2 trivial
                                have G : act.tmps[13]?.getD undef = _ ∧ True := ho
                                obtain ⟨g13, -⟩ := G
                                clear ho hf hu
                                go_simp
                                exact hK _ (Eq.refl _)
                              refine And.intro (obX_pure (fun _ => Below.refl _ _) ?_) ?_
                              · intro act W hR hf ho hu K hK
                                replace hR := ext_drew hR
                                replace hK := fun v h2 => hK v W rfl h2 trivial
                                have F : act.tmps[118]?.getD undef = _ ∧ True := hf
                                obtain ⟨f0, -⟩ := F
                                clear ho hf hu
                                go_simp
                                exact hK _ (Eq.refl _)
                              refine And.intro (obX_pure (fun _ => Below.refl _ _) ?_) ?_
                              · intro act W hR hf ho hu K hK
                                replace hR := ext_drew hR
                                replace hK := fun v h2 => hK v W rfl h2 trivial
                                have G : act.tmps[0]?.getD undef = _ ∧ True := ho
                                obtain ⟨g0, -⟩ := G
                                have F : act.tmps[119]?.getD undef = _ ∧ True := hf
                                obtain ⟨f1, -⟩ := F
                                clear ho hf hu
                                go_simp
                                exact hK _ (Eq.refl _)
                              refine And.intro (obX_pure (fun _ => Below.refl _ _) ?_) ?_
                              · intro act W hR hf ho hu K hK
                                replace hR := ext_drew hR
                                replace hK := fun v h2 => hK v W rfl h2 trivial
                                have G : act.tmps[14]?.getD undef = _ ∧ True := ho
                                obtain ⟨g14, -⟩ := G
                                have F : act.tmps[119]?.getD undef = _ ∧ True := hf
                                obtain ⟨f1, -⟩ := F
                                clear ho hf hu
                                go_simp
                                exact hK _ (Eq.refl _)
                              refine And.intro (obX_pure (fun _ => Below.refl _ _) ?_) ?_
                              · intro act W hR hf ho hu K hK
                                replace hR := ext_drew hR
                                replace hK := fun v h2 => hK v W rfl h2 trivial
                                have F : act.tmps[120]?.getD undef = _ ∧ act.tmps[121]?.getD undef = _ ∧ act.tmps[119]?.getD undef = _ ∧ True := hf
                                obtain ⟨f2, f3, f1, -⟩ := F
                                clear ho hf hu
                                go_simp
                                exact hK _ (Eq.refl _)
                              refine And.intro (obX_pure (fun _ => Below.refl _ _) ?_) ?_
                              · intro act W hR hf ho hu K hK
                                replace hR := ext_drew hR
                                replace hK := fun v h2 => hK v W rfl h2 trivial
                                have F : act.tmps[122]?.getD undef = _ ∧ act.tmps[119]?.getD undef = _ ∧ True := hf
                                obtain ⟨f4, f1, -⟩ := F
                                clear ho hf hu
                                go_simp
                                exact hK _ (Eq.refl _)
                              refine And.intro (obX_pure (fun _ => Below.refl _ _) ?_) ?_
                              · intro act W hR hf ho hu K hK
                                replace hR := ext_drew hR
                                replace hK := fun v h2 => hK v W rfl h2 trivial
                                have F : act.tmps[123]?.getD undef = _ ∧ act.tmps[119]?.getD undef = _ ∧ True := hf
                                obtain ⟨f5, f1, -⟩ := F
                                clear ho hf hu
                                have y0 := ext_cell hR _ _ HX.out.1; have y1 := ext_cell hR _ _ HX.out.2.1; have y2 := ext_cell hR _ _ HX.out.2.2.1; have y3 := ext_cell hR _ _ HX.out.2.2.2.1; have y4 := ext_cell hR _ _ HX.out.2.2.2.2.1; have y5 := ext_cell hR _ _ HX.out.2.2.2.2.2
                                go_simp
                                exact hK _ (Eq.refl _)
                              refine And.intro (obX_pure (fun _ => Below.refl _ _) ?_) ?_
                              · intro act W hR hf ho hu K hK
                                replace hR := ext_drew hR
                                replace hK := fun v h2 => hK v W rfl h2 trivial
                                have F : act.tmps[124]?.getD undef = _ ∧ act.tmps[119]?.getD undef = _ ∧ act.tmps[119]?.getD undef = _ ∧ True := hf
                                obtain ⟨f6, f1, -, -⟩ := F
                                clear ho hf hu
                                go_simp
                                exact hK _ (Eq.refl _)
                              refine And.intro (obX_pure (fun _ => Below.refl _ _) ?_) ?_
                              · intro act W hR hf ho hu K hK
                                replace hR := ext_drew hR
                                replace hK := fun v h2 => hK v W rfl h2 trivial
                                have G : act.tmps[0]?.getD undef = _ ∧ True := ho
                                obtain ⟨g0, -⟩ := G
                                have F : act.tmps[125]?.getD undef = _ ∧ True := hf
                                obtain ⟨f7, -⟩ := F
                                clear ho hf hu
                                go_simp
                                exact hK _ (Eq.refl _)
                              refine And.intro (obX_pure (fun _ => Below.refl _ _) ?_) ?_
                              · intro act W hR hf ho hu K hK
                                replace hR := ext_drew hR
                                replace hK := fun v h2 => hK v W rfl h2 trivial
                                have G : act.tmps[14]?.getD undef = _ ∧ True := ho
                                obtain ⟨g14, -⟩ := G
                                have F : act.tmps[125]?.getD undef = _ ∧ True := hf
                                obtain ⟨f7, -⟩ := F
                                clear ho hf hu
                                go_simp
                                exact hK _ (Eq.refl _)
                              refine And.intro (obX_pure (fun _ => Below.refl _ _) ?_) ?_
                              · intro act W hR hf ho hu K hK
                                replace hR := ext_drew hR
                                replace hK := fun v h2 => hK v W rfl h2 trivial
                                have F : act.tmps[126]?.getD undef = _ ∧ act.tmps[127]?.getD undef = _ ∧ act.tmps[125]?.getD undef = _ ∧ True := hf
                                obtain ⟨f8, f9, f7, -⟩ := F
                                clear ho hf hu
                                go_simp
                                exact hK _ (Eq.refl _)
                              refine And.intro (obX_pure (fun _ => Below.refl _ _) ?_) ?_
                              · intro act W hR hf ho hu K hK
                                replace hR := ext_drew hR
                                replace hK := fun v h2 => hK v W rfl h2 trivial
                                have F : act.tmps[128]?.getD undef = _ ∧ act.tmps[125]?.getD undef = _ ∧ True := hf
                                obtain ⟨f10, f7, -⟩ := F
                                clear ho hf hu
                                have y0 := ext_cell hR _ _ HX.out.1; have y1 := ext_cell hR _ _ HX.out.2.1; have y2 := ext_cell hR _ _ HX.out.2.2.1; have y3 := ext_cell hR _ _ HX.out.2.2.2.1; have y4 := ext_cell hR _ _ HX.out.2.2.2.2.1; have y5 := ext_cell hR _ _ HX.out.2.2.2.2.2
                                go_simp
                                exact hK _ (Eq.refl _)
                              refine And.intro (obX_eff (Ext) (fun _ _ h => h) (trivial) ?_) ?_
                              · intro act W hR hf ho hu K hK
                                replace hR := ext_drew hR
                                replace hK := fun v (w' : World) (h1 : (Ext) W w') h2 => hK v w' h1 h2 trivial
                                have F : act.tmps[129]?.getD undef = _ ∧ act.tmps[125]?.getD undef = _ ∧ act.tmps[125]?.getD undef = _ ∧ True := hf
                                obtain ⟨f11, f7, -, -⟩ := F
                                clear ho hf hu
                                go_simp
                                refine (HRt.out _).mono ?_; rintro _ W1 ⟨rfl, hE⟩; exact hK _ _ hE (Eq.refl _)
                              refine And.intro (obX_pure (fun _ => Below.refl _ _) ?_) ?_
                              · intro act W hR hf ho hu K hK
                                replace hR := ext_drew hR
                                replace hK := fun v h2 => hK v W rfl h2 trivial
                                have F : act.tmps[125]?.getD undef = _ ∧ act.tmps[130]?.getD undef = _ ∧ act.tmps[119]?.getD undef = _ ∧ True := hf
                                obtain ⟨f7, f12, f1, -⟩ := F
                                clear ho hf hu
                                go_simp
                                exact hK _ (Eq.refl _)
                              refine And.intro (obX_pure (fun _ => Below.refl _ _) ?_) ?_
                              · intro act W hR hf ho hu K hK
                                replace hR := ext_drew hR
                                replace hK := fun v h2 => hK v W rfl h2 trivial
                                have F : act.tmps[131]?.getD undef = _ ∧ act.tmps[130]?.getD undef = _ ∧ act.tmps[119]?.getD undef = _ ∧ True := hf
                                obtain ⟨f13, f12, f1, -⟩ := F
                                clear ho hf hu
                                go_simp
                                exact hK _ (Eq.refl _)
                              refine And.intro (obX_pure (fun _ => Below.refl _ _) ?_) ?_
                              · intro act W hR hf ho hu K hK
                                replace hR := ext_drew hR
                                replace hK := fun v h2 => hK v W rfl h2 trivial
                                have G : act.tmps[12]?.getD undef = _ ∧ True := ho
                                obtain ⟨g12, -⟩ := G
                                have F : act.tmps[132]?.getD undef = _ ∧ True := hf
                                obtain ⟨f14, -⟩ := F
                                clear ho hf hu
                                obtain ⟨z0, z1, z2, z3, z4, z5⟩ := lie6' HCw.out hR
                                go_simp
                                exact hK _ (Eq.refl _)
                              refine And.intro (obX_pure (fun _ => Below.refl _ _) ?_) ?_
                              · intro act W hR hf ho hu K hK
                                replace hR := ext_drew hR
                                replace hK := fun v h2 => hK v W rfl h2 trivial
                                have G : act.tmps[0]?.getD undef = _ ∧ True := ho
                                obtain ⟨g0, -⟩ := G
                                have F : act.tmps[132]?.getD undef = _ ∧ True := hf
                                obtain ⟨f14, -⟩ := F
                                clear ho hf hu
                                go_simp
                                exact hK _ (Eq.refl _)
                              refine And.intro (obX_pure (fun _ => Below.refl _ _) ?_) ?_
                              · intro act W hR hf ho hu K hK
                                replace hR := ext_drew hR
                                replace hK := fun v h2 => hK v W rfl h2 trivial
                                have G : act.tmps[14]?.getD undef = _ ∧ True := ho
                                obtain ⟨g14, -⟩ := G
                                have F : act.tmps[132]?.getD undef = _ ∧ True := hf
                                obtain ⟨f14, -⟩ := F
                                clear ho hf hu
                                go_simp
                                exact hK _ (Eq.refl _)
                              refine And.intro (obX_pure (fun _ => Below.refl _ _) ?_) ?_
                              · intro act W hR hf ho hu K hK
                                replace hR := ext_drew hR
                                replace hK := fun v h2 => hK v W rfl h2 trivial
                                have F : act.tmps[134]?.getD undef = _ ∧ act.tmps[135]?.getD undef = _ ∧ act.tmps[132]?.getD undef = _ ∧ True := hf
                                obtain ⟨f16, f17, f14, -⟩ := F
                                clear ho hf hu
                                go_simp
                                exact hK _ (Eq.refl _)
                              refine And.intro (obX_pure (fun _ => Below.refl _ _) ?_) ?_
                              · intro act W hR hf ho hu K hK
                                replace hR := ext_drew hR
                                replace hK := fun v h2 => hK v W rfl h2 trivial
                                have F : act.tmps[136]?.getD undef = _ ∧ act.tmps[132]?.getD undef = _ ∧ True := hf
                                obtain ⟨f18, f14, -⟩ := F
                                clear ho hf hu
                                have y0 := ext_cell hR _ _ HX.out.1; have y1 := ext_cell hR _ _ HX.out.2.1; have y2 := ext_cell hR _ _ HX.out.2.2.1; have y3 := ext_cell hR _ _ HX.out.2.2.2.1; have y4 := ext_cell hR _ _ HX.out.2.2.2.2.1; have y5 := ext_cell hR _ _ HX.out.2.2.2.2.2
                                go_simp
                                exact hK _ (Eq.refl _)
                              refine And.intro (obX_eff (Ext) (fun _ _ h => h) (trivial) ?_) ?_
                              · intro act W hR hf ho hu K hK
                                replace hR := ext_drew hR
                                replace hK := fun v (w' : World) (h1 : (Ext) W w') h2 => hK v w' h1 h2 trivial
                                have F : act.tmps[133]?.getD undef = _ ∧ act.tmps[137]?.getD undef = _ ∧ act.tmps[132]?.getD undef = _ ∧ act.tmps[132]?.getD undef = _ ∧ True := hf
                                obtain ⟨f15, f19, f14, -, -⟩ := F
                                clear ho hf hu
                                go_simp
                                exact hK _ _ (Below.refl _ _) (Eq.refl _)
                              refine And.intro (obX_pure (fun _ => Below.refl _ _) ?_) ?_
                              · intro act W hR hf ho hu K hK
                                replace hR := ext_drew hR
                                replace hK := fun v h2 => hK v W rfl h2 trivial
                                have F : act.tmps[132]?.getD undef = _ ∧ act.tmps[138]?.getD undef = _ ∧ act.tmps[119]?.getD undef = _ ∧ True := hf
                                obtain ⟨f14, f20, f1, -⟩ := F
                                clear ho hf hu
                                go_simp
                                exact hK _ (Eq.refl _)
                              refine And.intro (obX_pure (fun _ => Below.refl _ _) ?_) ?_
                              · intro act W hR hf ho hu K hK
                                replace hR := ext_drew hR
                                replace hK := fun v h2 => hK v W rfl h2 trivial
                                have F : act.tmps[119]?.getD undef = _ ∧ act.tmps[139]?.getD undef = _ ∧ True := hf
                                obtain ⟨f1, f21, -⟩ := F
                                clear ho hf hu
                                go_simp
                                exact hK _ (Eq.refl _)
                              refine And.intro (obX_pure (fun _ => Below.refl _ _) ?_) ?_
                              · intro act W hR hf ho hu K hK
                                replace hR := ext_drew hR
                                replace hK := fun v h2 => hK v W rfl h2 trivial
                                have F : act.tmps[140]?.getD undef = _ ∧ act.tmps[138]?.getD undef = _ ∧ act.tmps[118]?.getD undef = _ ∧ act.tmps[119]?.getD undef = _ ∧ act.tmps[120]?.getD undef = _ ∧ act.tmps[121]?.getD undef = _ ∧ act.tmps[122]?.getD undef = _ ∧ act.tmps[123]?.getD undef = _ ∧ act.tmps[124]?.getD undef = _ ∧ act.tmps[125]?.getD undef = _ ∧ act.tmps[126]?.getD undef = _ ∧ act.tmps[127]?.getD undef = _ ∧ act.tmps[128]?.getD undef = _ ∧ act.tmps[129]?.getD undef = _ ∧ act.tmps[130]?.getD undef = _ ∧ act.tmps[131]?.getD undef = _ ∧ act.tmps[132]?.getD undef = _ ∧ act.tmps[133]?.getD undef = _ ∧ act.tmps[134]?.getD undef = _ ∧ act.tmps[135]?.getD undef = _ ∧ act.tmps[136]?.getD undef = _ ∧ act.tmps[137]?.getD undef = _ ∧ act.tmps[138]?.getD undef = _ ∧ act.tmps[139]?.getD undef = _ ∧ act.tmps[140]?.getD undef = _ ∧ True := hf
                                obtain ⟨f22, f20, f0, f1, f2, f3, f4, f5, f6, f7, f8, f9, f10, f11, f12, f13, f14, f15, f16, f17, f18, f19, -, f21, -, -⟩ := F
                                clear ho hf hu
                                go_simp
                                exact hK _ (Eq.refl _)
                              exact trivial
                            case stab =>
                              refine And.intro is_stable ?_
                              refine And.intro is_stable ?_
                              refine And.intro is_stable ?_
                              refine And.intro is_stable ?_
                              refine And.intro is_stable ?_
                              refine And.intro is_stable ?_
                              refine And.intro is_stable ?_
                              refine And.intro is_stable ?_
                              refine And.intro is_stable ?_
                              refine And.intro is_stable ?_
                              refine And.intro is_stable ?_
                              refine And.intro is_stable ?_
                              refine And.intro is_stable ?_
                              refine And.intro is_stable ?_
                              refine And.intro is_stable ?_
                              refine And.intro is_stable ?_
                              refine And.intro is_stable ?_
                              refine And.intro is_stable ?_
                              refine And.intro is_stable ?_
                              refine And.intro is_stable ?_
                              refine And.intro is_stable ?_
                              refine And.intro is_stable ?_
                              refine And.intro is_stable ?_
                              refine And.intro is_stable ?_
                              exact trivial
                            case ends =>
                              intro vals W hR hE hall
                              replace hR := ext_drew hR
                              clear hE
                              have e13 : vals 13 = _ := hall 23 (by decide)
                              clear hall
                              simp only [fill, List.setIfInBounds_toArray, List.set_cons_succ, List.set_cons_zero, e13]
                              go_wp2_with fail
                              exact ⟨⟨j + 1, by omega, by rw [HF.out]; rfl, by rfl, Lib.hid (hE.out.then (Ext.then (by repeat first | (with_reducible exact Below.refl _ _) | (with_reducible apply Ext.alloc) | (with_reducible apply Ext.drew) | (with_reducible apply Ext.drewN) | (with_reducible refine Ext.set ?_ (by simp)) | (with_reducible refine Ext.then ?_ hR)) (Below.refl _ _)))⟩, by simp [intOf]; omega⟩
                          | true =>
                            rw [hr] at hs HRt
                            have HF := Lib.hid hs
                            have HX := Lib.hid (And.intro x0 (And.intro x1 (And.intro x2 (And.intro x3 (And.intro x4 x5)))))
                            obtain ⟨u, hu⟩ : ∃ u, u = underC ⟨true, vb, vt, va, vp, vy⟩ ⟨true, xb, xt, xa, xp, xy⟩ := ⟨_, rfl⟩
                            rw [← hu] at HUn HF
                            clear x0 x1 x2 x3 x4 x5 hs hr hu
                            go_wp2_with fail
                            refine wp_region_res (Ext) [] [] [⟨[], []⟩, ⟨[], []⟩, ⟨[], []⟩, ⟨[], []⟩, ⟨[], []⟩, ⟨[], []⟩, ⟨[], []⟩, ⟨[], []⟩, ⟨[], []⟩, ⟨[], []⟩, ⟨[], []⟩, ⟨[], []⟩, ⟨[], []⟩, ⟨[], []⟩, ⟨[], []⟩, ⟨[], []⟩, ⟨[], []⟩, ⟨[], []⟩, ⟨[], []⟩, ⟨[], []⟩, ⟨[], []⟩, ⟨[], []⟩, ⟨[], []⟩, ⟨[], []⟩] [118, 119, 120, 121, 122, 123, 124, 125, 126, 127, 128, 129, 130, 131, 132, 133, 134, 135, 136, 137, 138, 139, 140, 13] (by kernel_rfl) (fun _ => Below.refl _ _) (fun _ _ _ => Ext.then) (by kernel_rfl) (by kernel_rfl) (by kernel_rfl) (by kernel_rfl) (by kernel_rfl) ?start ?_
                            case start =>
                              exact trivial
                            apply ex_is; apply Exists.intro
                            apply ex_is; apply Exists.intro
                            apply ex_is; apply Exists.intro
                            apply ex_is; apply Exists.intro
                            apply ex_is; apply Exists.intro
                            apply ex_is; apply Exists.intro
                            apply ex_is; apply Exists.intro
                            apply ex_is; apply Exists.intro
                            apply ex_is; apply Exists.intro
                            apply ex_is; apply Exists.intro
                            apply ex_is; apply Exists.intro
                            apply ex_is; apply Exists.intro
                            apply ex_is; apply Exists.intro
                            apply ex_is; apply Exists.intro
                            apply ex_is; apply Exists.intro
                            apply ex_is; apply Exists.intro
                            apply ex_is; apply Exists.intro
                            apply ex_is; apply Exists.intro
                            apply ex_is; apply Exists.intro
                            apply ex_is; apply Exists.intro
                            apply ex_is; apply Exists.intro
                            apply ex_is; apply Exists.intro
                            apply ex_is; apply Exists.intro
                            apply ex_is; apply Exists.intro
                            refine ⟨[], ⟨?steps, ?stab, ?ends⟩⟩
                            case steps =>
                              refine And.intro (obX_pure (fun _ => Below.refl _ _) ?_) ?_
                              · intro act W hR hf ho hu K hK
                                replace hR := ext_drew hR
                                replace hK := fun v h2 => hK v W rfl h2 trivial
                                have G : act.tmps[13]?.getD undef = _ ∧ True := ho
                                obtain ⟨g13, -⟩ := G
                                clear ho hf hu
                                go_simp
                                exact hK _ (Eq.refl _)
                              refine And.intro (obX_pure (fun _ => Below.refl _ _) ?_) ?_
                              · intro act W hR hf ho hu K hK
                                replace hR := ext_drew hR
                                replace hK := fun v h2 => hK v W rfl h2 trivial
                                have F : act.tmps[118]?.getD undef = _ ∧ True := hf
                                obtain ⟨f0, -⟩ := F
                                clear ho hf hu
                                go_simp
                                exact hK _ (Eq.refl _)
                              refine And.intro (obX_pure (fun _ => Below.refl _ _) ?_) ?_
                              · intro act W hR hf ho hu K hK
                                replace hR := ext_drew hR
                                replace hK := fun v h2 => hK v W rfl h2 trivial
                                have G : act.tmps[0]?.getD undef = _ ∧ True := ho
                                obtain ⟨g0, -⟩ := G
                                have F : act.tmps[119]?.getD undef = _ ∧ True := hf
                                obtain ⟨f1, -⟩ := F
                                clear ho hf hu
                                go_simp
                                exact hK _ (Eq.refl _)
                              refine And.intro (obX_pure (fun _ => Below.refl _ _) ?_) ?_
                              · intro act W hR hf ho hu K hK
                                replace hR := ext_drew hR
                                replace hK := fun v h2 => hK v W rfl h2 trivial
                                have G : act.tmps[14]?.getD undef = _ ∧ True := ho
                                obtain ⟨g14, -⟩ := G
                                have F : act.tmps[119]?.getD undef = _ ∧ True := hf
                                obtain ⟨f1, -⟩ := F
                                clear ho hf hu
                                go_simp
                                exact hK _ (Eq.refl _)
                              refine And.intro (obX_pure (fun _ => Below.refl _ _) ?_) ?_
                              · intro act W hR hf ho hu K hK
                                replace hR := ext_drew hR
                                replace hK := fun v h2 => hK v W rfl h2 trivial
                                have F : act.tmps[120]?.getD undef = _ ∧ act.tmps[121]?.getD undef = _ ∧ act.tmps[119]?.getD undef = _ ∧ True := hf
                                obtain ⟨f2, f3, f1, -⟩ := F
                                clear ho hf hu
                                go_simp
                                exact hK _ (Eq.refl _)
                              refine And.intro (obX_pure (fun _ => Below.refl _ _) ?_) ?_
                              · intro act W hR hf ho hu K hK
                                replace hR := ext_drew hR
                                replace hK := fun v h2 => hK v W rfl h2 trivial
                                have F : act.tmps[122]?.getD undef = _ ∧ act.tmps[119]?.getD undef = _ ∧ True := hf
                                obtain ⟨f4, f1, -⟩ := F
                                clear ho hf hu
                                go_simp
                                exact hK _ (Eq.refl _)
                              refine And.intro (obX_pure (fun _ => Below.refl _ _) ?_) ?_
                              · intro act W hR hf ho hu K hK
                                replace hR := ext_drew hR
                                replace hK := fun v h2 => hK v W rfl h2 trivial
                                have F : act.tmps[123]?.getD undef = _ ∧ act.tmps[119]?.getD undef = _ ∧ True := hf
                                obtain ⟨f5, f1, -⟩ := F
                                clear ho hf hu
                                have y0 := ext_cell hR _ _ HX.out.1; have y1 := ext_cell hR _ _ HX.out.2.1; have y2 := ext_cell hR _ _ HX.out.2.2.1; have y3 := ext_cell hR _ _ HX.out.2.2.2.1; have y4 := ext_cell hR _ _ HX.out.2.2.2.2.1; have y5 := ext_cell hR _ _ HX.out.2.2.2.2.2
                                go_simp
                                exact hK _ (Eq.refl _)
                              refine And.intro (obX_pure (fun _ => Below.refl _ _) ?_) ?_
                              · intro act W hR hf ho hu K hK
                                replace hR := ext_drew hR
                                replace hK := fun v h2 => hK v W rfl h2 trivial
                                have F : act.tmps[124]?.getD undef = _ ∧ act.tmps[119]?.getD undef = _ ∧ act.tmps[119]?.getD undef = _ ∧ True := hf
                                obtain ⟨f6, f1, -, -⟩ := F
                                clear ho hf hu
                                go_simp
                                exact hK _ (Eq.refl _)
                              refine And.intro (obX_pure (fun _ => Below.refl _ _) ?_) ?_
                              · intro act W hR hf ho hu K hK
                                replace hR := ext_drew hR
                                replace hK := fun v h2 => hK v W rfl h2 trivial
                                have G : act.tmps[0]?.getD undef = _ ∧ True := ho
                                obtain ⟨g0, -⟩ := G
                                have F : act.tmps[125]?.getD undef = _ ∧ True := hf
                                obtain ⟨f7, -⟩ := F
                                clear ho hf hu
                                go_simp
                                exact hK _ (Eq.refl _)
                              refine And.intro (obX_pure (fun _ => Below.refl _ _) ?_) ?_
                              · intro act W hR hf ho hu K hK
                                replace hR := ext_drew hR
                                replace hK := fun v h2 => hK v W rfl h2 trivial
                                have G : act.tmps[14]?.getD undef = _ ∧ True := ho
                                obtain ⟨g14, -⟩ := G
                                have F : act.tmps[125]?.getD undef = _ ∧ True := hf
                                obtain ⟨f7, -⟩ := F
                                clear ho hf hu
                                go_simp
                                exact hK _ (Eq.refl _)
                              refine And.intro (obX_pure (fun _ => Below.refl _ _) ?_) ?_
                              · intro act W hR hf ho hu K hK
                                replace hR := ext_drew hR
                                replace hK := fun v h2 => hK v W rfl h2 trivial
                                have F : act.tmps[126]?.getD undef = _ ∧ act.tmps[127]?.getD undef = _ ∧ act.tmps[125]?.getD undef = _ ∧ True := hf
                                obtain ⟨f8, f9, f7, -⟩ := F
                                clear ho hf hu
                                go_simp
                                exact hK _ (Eq.refl _)
                              refine And.intro (obX_pure (fun _ => Below.refl _ _) ?_) ?_
                              · intro act W hR hf ho hu K hK
                                replace hR := ext_drew hR
                                replace hK := fun v h2 => hK v W rfl h2 trivial
                                have F : act.tmps[128]?.getD undef = _ ∧ act.tmps[125]?.getD undef = _ ∧ True := hf
                                obtain ⟨f10, f7, -⟩ := F
                                clear ho hf hu
                                have y0 := ext_cell hR _ _ HX.out.1; have y1 := ext_cell hR _ _ HX.out.2.1; have y2 := ext_cell hR _ _ HX.out.2.2.1; have y3 := ext_cell hR _ _ HX.out.2.2.2.1; have y4 := ext_cell hR _ _ HX.out.2.2.2.2.1; have y5 := ext_cell hR _ _ HX.out.2.2.2.2.2
                                go_simp
                                exact hK _ (Eq.refl _)
                              refine And.intro (obX_eff (Ext) (fun _ _ h => h) (trivial) ?_) ?_
                              · intro act W hR hf ho hu K hK
                                replace hR := ext_drew hR
                                replace hK := fun v (w' : World) (h1 : (Ext) W w') h2 => hK v w' h1 h2 trivial
                                have F : act.tmps[129]?.getD undef = _ ∧ act.tmps[125]?.getD undef = _ ∧ act.tmps[125]?.getD undef = _ ∧ True := hf
                                obtain ⟨f11, f7, -, -⟩ := F
                                clear ho hf hu
                                go_simp
                                refine (HRt.out _).mono ?_; rintro _ W1 ⟨rfl, hE⟩; exact hK _ _ hE (Eq.refl _)
                              refine And.intro (obX_pure (fun _ => Below.refl _ _) ?_) ?_
                              · intro act W hR hf ho hu K hK
                                replace hR := ext_drew hR
                                replace hK := fun v h2 => hK v W rfl h2 trivial
                                have F : act.tmps[125]?.getD undef = _ ∧ act.tmps[130]?.getD undef = _ ∧ act.tmps[119]?.getD undef = _ ∧ True := hf
                                obtain ⟨f7, f12, f1, -⟩ := F
                                clear ho hf hu
                                go_simp
                                exact hK _ (Eq.refl _)
                              refine And.intro (obX_pure (fun _ => Below.refl _ _) ?_) ?_
                              · intro act W hR hf ho hu K hK
                                replace hR := ext_drew hR
                                replace hK := fun v h2 => hK v W rfl h2 trivial
                                have F : act.tmps[131]?.getD undef = _ ∧ act.tmps[130]?.getD undef = _ ∧ act.tmps[119]?.getD undef = _ ∧ True := hf
                                obtain ⟨f13, f12, f1, -⟩ := F
                                clear ho hf hu
                                go_simp
                                exact hK _ (Eq.refl _)
                              refine And.intro (obX_pure (fun _ => Below.refl _ _) ?_) ?_
                              · intro act W hR hf ho hu K hK
                                replace hR := ext_drew hR
                                replace hK := fun v h2 => hK v W rfl h2 trivial
                                have G : act.tmps[12]?.getD undef = _ ∧ True := ho
                                obtain ⟨g12, -⟩ := G
                                have F : act.tmps[132]?.getD undef = _ ∧ True := hf
                                obtain ⟨f14, -⟩ := F
                                clear ho hf hu
                                obtain ⟨z0, z1, z2, z3, z4, z5⟩ := lie6' HCw.out hR
                                go_simp
                                exact hK _ (Eq.refl _)
                              refine And.intro (obX_pure (fun _ => Below.refl _ _) ?_) ?_
                              · intro act W hR hf ho hu K hK
                                replace hR := ext_drew hR
                                replace hK := fun v h2 => hK v W rfl h2 trivial
                                have G : act.tmps[0]?.getD undef = _ ∧ True := ho
                                obtain ⟨g0, -⟩ := G
                                have F : act.tmps[132]?.getD undef = _ ∧ True := hf
                                obtain ⟨f14, -⟩ := F
                                clear ho hf hu
                                go_simp
                                exact hK _ (Eq.refl _)
                              refine And.intro (obX_pure (fun _ => Below.refl _ _) ?_) ?_
                              · intro act W hR hf ho hu K hK
                                replace hR := ext_drew hR
                                replace hK := fun v h2 => hK v W rfl h2 trivial
                                have G : act.tmps[14]?.getD undef = _ ∧ True := ho
                                obtain ⟨g14, -⟩ := G
                                have F : act.tmps[132]?.getD undef = _ ∧ True := hf
                                obtain ⟨f14, -⟩ := F
                                clear ho hf hu
                                go_simp
                                exact hK _ (Eq.refl _)
                              refine And.intro (obX_pure (fun _ => Below.refl _ _) ?_) ?_
                              · intro act W hR hf ho hu K hK
                                replace hR := ext_drew hR
                                replace hK := fun v h2 => hK v W rfl h2 trivial
                                have F : act.tmps[134]?.getD undef = _ ∧ act.tmps[135]?.getD undef = _ ∧ act.tmps[132]?.getD undef = _ ∧ True := hf
                                obtain ⟨f16, f17, f14, -⟩ := F
                                clear ho hf hu
                                go_simp
                                exact hK _ (Eq.refl _)
                              refine And.intro (obX_pure (fun _ => Below.refl _ _) ?_) ?_
                              · intro act W hR hf ho hu K hK
                                replace hR := ext_drew hR
                                replace hK := fun v h2 => hK v W rfl h2 trivial
                                have F : act.tmps[136]?.getD undef = _ ∧ act.tmps[132]?.getD undef = _ ∧ True := hf
                                obtain ⟨f18, f14, -⟩ := F
                                clear ho hf hu
                                have y0 := ext_cell hR _ _ HX.out.1; have y1 := ext_cell hR _ _ HX.out.2.1; have y2 := ext_cell hR _ _ HX.out.2.2.1; have y3 := ext_cell hR _ _ HX.out.2.2.2.1; have y4 := ext_cell hR _ _ HX.out.2.2.2.2.1; have y5 := ext_cell hR _ _ HX.out.2.2.2.2.2
                                go_simp
                                exact hK _ (Eq.refl _)
                              refine And.intro (obX_eff (Ext) (fun _ _ h => h) (trivial) ?_) ?_
                              · intro act W hR hf ho hu K hK
                                replace hR := ext_drew hR
                                replace hK := fun v (w' : World) (h1 : (Ext) W w') h2 => hK v w' h1 h2 trivial
                                have F : act.tmps[133]?.getD undef = _ ∧ act.tmps[137]?.getD undef = _ ∧ act.tmps[132]?.getD undef = _ ∧ act.tmps[132]?.getD undef = _ ∧ True := hf
                                obtain ⟨f15, f19, f14, -, -⟩ := F
                                clear ho hf hu
                                go_simp
                                refine (HUn.out _).mono ?_; rintro _ W1 ⟨rfl, hE⟩; exact hK _ _ hE (Eq.refl _)
                              refine And.intro (obX_pure (fun _ => Below.refl _ _) ?_) ?_
                              · intro act W hR hf ho hu K hK
                                replace hR := ext_drew hR
                                replace hK := fun v h2 => hK v W rfl h2 trivial
                                have F : act.tmps[132]?.getD undef = _ ∧ act.tmps[138]?.getD undef = _ ∧ act.tmps[119]?.getD undef = _ ∧ True := hf
                                obtain ⟨f14, f20, f1, -⟩ := F
                                clear ho hf hu
                                go_simp
                                exact hK _ (Eq.refl _)
                              refine And.intro (obX_pure (fun _ => Below.refl _ _) ?_) ?_
                              · intro act W hR hf ho hu K hK
                                replace hR := ext_drew hR
                                replace hK := fun v h2 => hK v W rfl h2 trivial
                                have F : act.tmps[119]?.getD undef = _ ∧ act.tmps[139]?.getD undef = _ ∧ True := hf
                                obtain ⟨f1, f21, -⟩ := F
                                clear ho hf hu
                                go_simp
                                exact hK _ (Eq.refl _)
                              refine And.intro (obX_pure (fun _ => Below.refl _ _) ?_) ?_
                              · intro act W hR hf ho hu K hK
                                replace hR := ext_drew hR
                                replace hK := fun v h2 => hK v W rfl h2 trivial
                                have F : act.tmps[140]?.getD undef = _ ∧ act.tmps[138]?.getD undef = _ ∧ act.tmps[118]?.getD undef = _ ∧ act.tmps[119]?.getD undef = _ ∧ act.tmps[120]?.getD undef = _ ∧ act.tmps[121]?.getD undef = _ ∧ act.tmps[122]?.getD undef = _ ∧ act.tmps[123]?.getD undef = _ ∧ act.tmps[124]?.getD undef = _ ∧ act.tmps[125]?.getD undef = _ ∧ act.tmps[126]?.getD undef = _ ∧ act.tmps[127]?.getD undef = _ ∧ act.tmps[128]?.getD undef = _ ∧ act.tmps[129]?.getD undef = _ ∧ act.tmps[130]?.getD undef = _ ∧ act.tmps[131]?.getD undef = _ ∧ act.tmps[132]?.getD undef = _ ∧ act.tmps[133]?.getD undef = _ ∧ act.tmps[134]?.getD undef = _ ∧ act.tmps[135]?.getD undef = _ ∧ act.tmps[136]?.getD undef = _ ∧ act.tmps[137]?.getD undef = _ ∧ act.tmps[138]?.getD undef = _ ∧ act.tmps[139]?.getD undef = _ ∧ act.tmps[140]?.getD undef = _ ∧ True := hf
                                obtain ⟨f22, f20, f0, f1, f2, f3, f4, f5, f6, f7, f8, f9, f10, f11, f12, f13, f14, f15, f16, f17, f18, f19, -, f21, -, -⟩ := F
                                clear ho hf hu
                                go_simp
                                exact hK _ (Eq.refl _)
                              exact trivial
                            case stab =>
                              refine And.intro is_stable ?_
                              refine And.intro is_stable ?_
                              refine And.intro is_stable ?_
                              refine And.intro is_stable ?_
                              refine And.intro is_stable ?_
                              refine And.intro is_stable ?_
                              refine And.intro is_stable ?_
                              refine And.intro is_stable ?_
                              refine And.intro is_stable ?_
                              refine And.intro is_stable ?_
                              refine And.intro is_stable ?_
                              refine And.intro is_stable ?_
                              refine And.intro is_stable ?_
                              refine And.intro is_stable ?_
                              refine And.intro is_stable ?_
                              refine And.intro is_stable ?_
                              refine And.intro is_stable ?_
                              refine And.intro is_stable ?_
                              refine And.intro is_stable ?_
                              refine And.intro is_stable ?_
                              refine And.intro is_stable ?_
                              refine And.intro is_stable ?_
                              refine And.intro is_stable ?_
                              refine And.intro is_stable ?_
                              exact trivial
                            case ends =>
                              intro vals W hR hE hall
                              replace hR := ext_drew hR
                              clear hE
                              have e13 : vals 13 = _ := hall 23 (by decide)
                              clear hall
                              simp only [fill, List.setIfInBounds_toArray, List.set_cons_succ, List.set_cons_zero, e13]
                              go_wp2_with fail
                              exact ⟨⟨j + 1, by omega, by rw [HF.out]; rfl, by rfl, Lib.hid (hE.out.then (Ext.then (by repeat first | (with_reducible exact Below.refl _ _) | (with_reducible apply Ext.alloc) | (with_reducible apply Ext.drew) | (with_reducible apply Ext.drewN) | (with_reducible refine Ext.set ?_ (by simp)) | (with_reducible refine Ext.then ?_ hR)) (Below.refl _ _)))⟩, by simp [intOf]; omega⟩
                    · obtain rfl : j = l.length := by omega
                      rw [HZ.out]
                      obtain ⟨z0, z1, z2, z3, z4, z5⟩ := lie6' HCw.out (Below.refl _ _)
                      have hltz := cell_lt z0
                      simp only at hltz
                      have O9 := Lib.hid (own_ext hQ.out.1 (E7.out.then hE.out))
                      have E9 : Hid (Ext w2 wr) := Lib.hid (hQ.out.2.then (E7.out.then hE.out))
                      have hsz : w2.heap.size ≤ wr.heap.size := E9.out.size
                      have hah2 : Hid (∀ y ∈ a ++ [⟨true, vb, vt, va, vp, vy⟩], hasS G O y = true) := Lib.hid fun y hy => by
                        rcases List.mem_append.1 hy with h | h
                        · exact hah.out y h
                        · obtain rfl := List.mem_singleton.1 h
                          exact HXs.out
                      go_wp2_with (first
                        | (at_builtin; refine wpList_append_src _ rfl (.tmp 143) (.tmp 145) 22 rfl w2.heap.size 24 ci (.agg #[.bool false, .int .i64 0, .int .i64 0, .int .i64 0, .int .i64 0, .int .i64 0]) 6 48 Try.underlying22 hci hci0 hci1 hci2 rfl (by decide) _ _ _ rfl (own_ext O9.out (Ext.alloc (Below.refl _ wr) _)) _ 1 (Cap.cells ⟨true, vb, vt, va, vp, vy⟩) rfl (Lies.arr (arrNew (cs := Cap.cells ⟨true, vb, vt, va, vp, vy⟩) (heap_alloc_new wr _))) rfl (by simp [Value.oneCell']) (by unfold maxLen; omega) (by omega) (by simp; omega) ?_; intro v8 w8 ho8 hg8 _))
                      have E8 : Ext w2 w8 := Below.grown (Ext.alloc E9.out _) hg8 (by simp; omega) (fun r hr => (O9.out.lt r hr).1)
                      refine ⟨⟨k + 1, a ++ [⟨true, vb, vt, va, vp, vy⟩], by omega, by simp, by simp, by simp; omega, hah2, Lib.hid ⟨?_, E8⟩⟩, by simp [intOf]; omega⟩
                      rw [List.length_append, capCells_app]
                      exact ho8
            · obtain rfl : k = ws.length := by omega
              go_wp2_with fail
              go_ret
              exact ⟨rfl, E1.out.then (E2.out.then hQ.out.2)⟩
end Go.Proofs.Ytalndcjbnedigaa

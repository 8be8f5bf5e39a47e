
/- seizinref06: Types, Has. -/
import Derived.Test.YtalndcjbnedigaaRefS
import Derived.Test.YtalndcjbnedigaaHead06
set_option linter.all false
namespace Go.Proofs.Ytalndcjbnedigaa
open Go.RowKit Go.Shelf
attribute [local go_sem] seen dstOf boolOf
attribute [local go_sem high] eqCap

/-- A set of the document's, as it lies. -/
structure RefAt (B : Nat) (W : World) (sp : Nat) (vg vo : Value) (G O : List Cap) : Prop where
  row : W.heap[sp]? = some (.cells #[vg, vo] 53)
  g : W.ownsRow B 24 6 vg G.length (capCells G)
  o : W.ownsRow B 24 6 vo O.length (capCells O)
  dis : Dis vg vo
theorem RefAt.ext {B : Nat} {W W' : World} {sp : Nat} {vg vo : Value} {G O : List Cap} (h : RefAt B W sp vg vo G O) (e : Ext W W') : RefAt B W' sp vg vo G O :=
  ⟨(e.block _ (Array.getElem?_eq_some_iff.1 h.row).1).trans h.row, own_ext h.g e, own_ext h.o e, h.dis⟩
theorem typesK_bad {O : List Cap} {p : Int} (h : permB p = false) (k : Nat) : typesK O p k = [] := by
  unfold typesK
  rw [List.filter_eq_nil_iff]
  intro t _ ha
  obtain ⟨o, -, hov⟩ := authL_iff.1 ha
  unfold overC at hov
  rw [Bool.and_eq_true, Bool.and_eq_true] at hov
  have := (hasP_iff.1 hov.1.2).2.1
  rw [h] at this
  cases this
set_option maxHeartbeats 2000000 in
set_option maxRecDepth 20000 in
theorem typesR_any (B sp : Nat) (vg vo : Value) (G O : List Cap) (p : Int) (w : World) (hs : RefAt B w sp vg vo G O) (hO : O.length ≤ 1000) (how : ∀ o ∈ O, CapWf o) : Calls Try.prog 20 #[.pointer (some ⟨sp, 0, none⟩), .int .i64 p] w (TypesPost w (typesS O p)) := by
  obtain ⟨ci, hci, hci0, hci1, hci2⟩ := info_parts infoIntT
  obtain ⟨Ao, co, rfl, -, hAo⟩ := Arr.own hs.o
  have HS := Lib.hid (And.intro hs.row hAo)
  have HP := Lib.hid (fun w => permRef_any p w)
  have HT : Hid (∀ k, typesK O p k = if permB p then typesK O p k else []) := Lib.hid fun k => by
    cases h : permB p with
    | true => rfl
    | false => exact typesK_bad h k
  clear hs hAo
  go_enter Try.func20, Try.ntmps20
  go_wp2_with fail
  go_loopw [5, 6] (fun v i wr => ∃ k : Nat, k ≤ 254 ∧ i = .int .i64 ((k : Int) + 2) ∧ Hid (wr.ownsRow w.heap.size 3 1 v (typesK O p k).length ((typesK O p k).map (Value.int .i64 ·)) ∧ Ext w wr)) (fun _ i _ => 256 - (intOf i).toNat)
  case atStart => exact ⟨0, Nat.zero_le _, rfl, Lib.hid ⟨World.ownsRow_nil _ _ _ _, Below.refl _ _⟩⟩
  case round =>
    obtain ⟨k, hk, rfl, hB⟩ := hrel
    have hsu := typesK_succ O p k
    have hlk := typesK_len O p k
    have q1 := cellAt ((hB.out.2.block _ (Array.getElem?_eq_some_iff.1 HS.out.1).1).trans HS.out.1) 1 (.slice Ao O.length co) rfl
    have lq := cell_lt q1
    simp only at lq
    obtain ⟨T, hT⟩ : ∃ T, T = typesK O p k := ⟨_, rfl⟩
    rw [← hT] at hsu hlk hB
    obtain ⟨A5, c5, rfl, -, -⟩ := Arr.own hB.out.1
    have HSU := Lib.hid hsu
    have HTq := Lib.hid hT
    clear hsu hT
    by_cases hlt : k < 254
    · go_wp2_with fail
      refine (HP.out _).mono ?_
      rintro _ w1 ⟨rfl, hE1⟩
      cases hp : permB p with
      | false =>
        have hn : T = [] := by rw [HTq.out]; exact typesK_bad hp k
        have hz : typesS O p = [] := typesK_bad hp 254
        have HN := Lib.hid (And.intro hn hz)
        have O1 := Lib.hid (own_ext hB.out.1 hE1)
        have E1 := Lib.hid (hB.out.2.then hE1)
        clear hn hz hE1
        go_wp2_with fail
        go_ret
        refine ⟨_, rfl, ?_, E1.out⟩
        rw [HN.out.2, ← HN.out.1]
        exact O1.out
      | true =>
        have q1 := ext_cell hE1 _ _ q1
        have lq := cell_lt q1
        simp only at lq
        have E1 := Lib.hid (hB.out.2.then hE1)
        have O1 := Lib.hid (own_ext hB.out.1 hE1)
        clear hE1
        go_wp2_with fail
        refine (overR_any Ao co O ((k : Int) + 2) p w1 (HS.out.2.ext E1.out) hO how).mono ?_
        rintro _ w2 ⟨rfl, hE2⟩
        have E2 := Lib.hid (E1.out.then hE2)
        have O2 := Lib.hid (own_ext O1.out hE2)
        have hsz : w.heap.size ≤ w2.heap.size := E2.out.size
        clear hE2
        cases ha : authL O ((k : Int) + 2) p with
        | false =>
          go_wp2_with fail
          refine ⟨⟨k + 1, by omega, by simp; omega, Lib.hid ⟨?_, E2.out⟩⟩, by simp [intOf]; omega⟩
          rw [HSU.out, ha]
          simpa using O2.out
        | true =>
          go_wp2_with (first
            | (at_builtin; refine wpList_append_src _ rfl (.tmp 22) (.tmp 24) 34 rfl w.heap.size 3 ci (.int .i64 0) 1 8 Try.underlying34 hci hci0 hci1 hci2 rfl (by decide) _ _ _ rfl (own_ext O2.out (Ext.alloc (Below.refl _ w2) _)) _ 1 [.int .i64 ((k : Int) + 2)] rfl (Lies.arr (arrNew (cs := [.int .i64 ((k : Int) + 2)]) (heap_alloc_new w2 _))) rfl (by simp [Value.oneCell']) (by unfold maxLen; omega) (by omega) (by simp; omega) ?_; intro v6 w6 ho6 hg6 _))
          have E6 : Ext w w6 := Below.grown (Ext.alloc E2.out _) hg6 (by simp; omega) (fun r hr => (O2.out.lt r hr).1)
          refine ⟨⟨k + 1, by omega, by simp; omega, Lib.hid ⟨?_, E6⟩⟩, by simp [intOf]; omega⟩
          rw [HSU.out, ha]
          simpa using ho6
    · obtain rfl : k = 254 := by omega
      go_wp2_with fail
      go_ret
      refine ⟨_, rfl, ?_, hB.out.2⟩
      have e : typesS O p = T := by rw [HTq.out]; rfl
      rw [e]
      exact hB.out.1
set_option maxHeartbeats 2000000 in
set_option maxRecDepth 20000 in
theorem underR_any (B sp : Nat) (vg vo : Value) (G O : List Cap) (c : Cap) (w : World) (hs : RefAt B w sp vg vo G O) (hO : O.length ≤ 1000) : Calls Try.prog 34 #[.pointer (some ⟨sp, 0, none⟩), c.val] w (Tell w (O.any fun o => underC c o)) := by
  obtain ⟨r, hr⟩ : ∃ r, r = O.any fun o => underC c o := ⟨_, rfl⟩
  rw [← hr]
  have HR := Lib.hid hr
  obtain ⟨Ao, co, rfl, -, hAo⟩ := Arr.own hs.o
  have HS := Lib.hid (And.intro hs.row hAo)
  have HC := Lib.hid (heap_alloc_new w (.cells c.cells.toArray 24))
  clear hs hAo hr
  go_enter Try.func34, Try.ntmps34
  go_wp2_with fail
  go_loopw [5] (fun i wr => ∃ k : Nat, k ≤ O.length ∧ i = .int .i64 (k : Int) ∧ Hid (r = (O.drop k).any fun x => underC c x) ∧ Hid (Ext (w.alloc (.cells c.cells.toArray 24)) wr)) (fun i _ => O.length - (intOf i).toNat)
  case atStart => exact ⟨0, Nat.zero_le _, rfl, Lib.hid (by rw [HR.out, List.drop_zero]), Lib.hid (Below.refl _ _)⟩
  case round =>
    obtain ⟨k, hk, rfl, hf, hE⟩ := hrel
    have E0 : Hid (Ext w wr) := Lib.hid (Ext.then (by repeat first | (with_reducible exact Below.refl _ _) | (with_reducible apply Ext.alloc) | (with_reducible apply Ext.drew) | (with_reducible apply Ext.drewN) | (with_reducible refine Ext.set ?_ (by simp))) hE.out)
    have hrw := ext_at' E0.out HS.out.1
    have q1 := cellAt hrw 1 (.slice Ao O.length co) rfl
    have lq := cell_lt q1
    simp only at lq
    have hcw := Lib.hid (ext_at' hE.out HC.out)
    have HRW := Lib.hid hrw
    clear hrw
    by_cases hlt : k < O.length
    · obtain ⟨b1, o1, rfl, -, x0, x1, x2, x3, x4, x5⟩ := cap_row (HS.out.2.ext E0.out) hlt
      have hd := hf.out
      rw [List.drop_eq_getElem_cons hlt, List.any_cons] at hd
      obtain ⟨x, hx⟩ : ∃ x, x = O[k] := ⟨_, rfl⟩
      rw [← hx] at x0 x1 x2 x3 x4 x5 hd
      have HX := Lib.hid (And.intro x0 (And.intro x1 (And.intro x2 (And.intro x3 (And.intro x4 x5)))))
      have HU := Lib.hid (fun w => refUnder_any c x w)
      have HD := Lib.hid hd
      clear hx hd x0 x1 x2 x3 x4 x5
      obtain ⟨u, hu⟩ : ∃ u, u = underC c x := ⟨_, rfl⟩
      rw [← hu] at HU HD
      clear hu
      go_wp2_with fail
      refine wp_region_obl Ext [15, 16, 17, 18, 19, 20, 21, 22, 23] (by kernel_rfl) (fun _ => Below.refl _ _) (fun _ _ _ => Ext.then) (by kernel_rfl) (by kernel_rfl) ?_
      apply ex_is; apply Exists.intro
      apply ex_is; apply Exists.intro
      apply ex_is; apply Exists.intro
      apply ex_is; apply Exists.intro
      apply ex_is; apply Exists.intro
      apply ex_is; apply Exists.intro
      apply ex_is; apply Exists.intro
      apply ex_is; apply Exists.intro
      apply ex_is; apply Exists.intro
      refine ⟨[], ⟨?steps, ?stab, ?ends⟩⟩
      case steps =>
        refine And.intro ?_ ?_
        · intro a W hR hf ho K hK
          replace hR := ext_drew hR
          have G : a.tmps[3]?.getD undef = _ ∧ True := ho
          obtain ⟨g3, -⟩ := G
          clear ho hf
          obtain ⟨y0, y1, y2, y3, y4, y5⟩ := lie6' hcw.out hR
          go_simp
          exact hK _ _ (Below.refl _ _) (Eq.refl _)
        refine And.intro ?_ ?_
        · intro a W hR hf ho K hK
          replace hR := ext_drew hR
          have G : a.tmps[0]?.getD undef = _ ∧ True := ho
          obtain ⟨g0, -⟩ := G
          clear ho hf
          go_simp
          exact hK _ _ (Below.refl _ _) (Eq.refl _)
        refine And.intro ?_ ?_
        · intro a W hR hf ho K hK
          replace hR := ext_drew hR
          have F : a.tmps[16]?.getD undef = _ ∧ True := hf
          obtain ⟨f1, -⟩ := F
          clear ho hf
          go_simp
          exact hK _ _ (Below.refl _ _) (Eq.refl _)
        refine And.intro ?_ ?_
        · intro a W hR hf ho K hK
          replace hR := ext_drew hR
          have F : a.tmps[17]?.getD undef = _ ∧ True := hf
          obtain ⟨f2, -⟩ := F
          clear ho hf
          go_simp
          exact hK _ _ (Below.refl _ _) (Eq.refl _)
        refine And.intro ?_ ?_
        · intro a W hR hf ho K hK
          replace hR := ext_drew hR
          have F : a.tmps[18]?.getD undef = _ ∧ True := hf
          obtain ⟨f3, -⟩ := F
          clear ho hf
          have q1 := cellAt (ext_at' hR HRW.out) 1 (.slice (some ⟨b1, o1, none⟩) O.length co) rfl
          go_simp
          exact hK _ _ (Below.refl _ _) (Eq.refl _)
        refine And.intro ?_ ?_
        · intro a W hR hf ho K hK
          replace hR := ext_drew hR
          have G : a.tmps[5]?.getD undef = _ ∧ True := ho
          obtain ⟨g5, -⟩ := G
          clear ho hf
          go_simp
          exact hK _ _ (Below.refl _ _) (Eq.refl _)
        refine And.intro ?_ ?_
        · intro a W hR hf ho K hK
          replace hR := ext_drew hR
          have F : a.tmps[19]?.getD undef = _ ∧ a.tmps[20]?.getD undef = _ ∧ True := hf
          obtain ⟨f4, f5, -⟩ := F
          clear ho hf
          go_simp
          exact hK _ _ (Below.refl _ _) (Eq.refl _)
        refine And.intro ?_ ?_
        · intro a W hR hf ho K hK
          replace hR := ext_drew hR
          have F : a.tmps[21]?.getD undef = _ ∧ True := hf
          obtain ⟨f6, -⟩ := F
          clear ho hf
          have x0 := ext_cell hR _ _ HX.out.1; have x1 := ext_cell hR _ _ HX.out.2.1; have x2 := ext_cell hR _ _ HX.out.2.2.1; have x3 := ext_cell hR _ _ HX.out.2.2.2.1; have x4 := ext_cell hR _ _ HX.out.2.2.2.2.1; have x5 := ext_cell hR _ _ HX.out.2.2.2.2.2
          go_simp
          exact hK _ _ (Below.refl _ _) (Eq.refl _)
        refine And.intro ?_ ?_
        · intro a W hR hf ho K hK
          replace hR := ext_drew hR
          have F : a.tmps[15]?.getD undef = _ ∧ a.tmps[22]?.getD undef = _ ∧ True := hf
          obtain ⟨f0, f7, -⟩ := F
          clear ho hf
          go_simp
          refine (HU.out _).mono ?_; rintro _ W1 ⟨rfl, hE⟩; exact hK _ _ hE (Eq.refl _)
        exact trivial
      case stab =>
        refine And.intro is_stable ?_
        refine And.intro is_stable ?_
        refine And.intro is_stable ?_
        refine And.intro is_stable ?_
        refine And.intro is_stable ?_
        refine And.intro is_stable ?_
        refine And.intro is_stable ?_
        refine And.intro is_stable ?_
        refine And.intro is_stable ?_
        exact trivial
      case ends =>
        intro vals W hR hall
        replace hR := ext_drew hR
        have e23 : vals 23 = _ := hall 8 (by decide)
        clear hall
        simp only [fill, List.setIfInBounds_toArray, List.set_cons_succ, List.set_cons_zero, e23]
        have ER := Lib.hid hR
        clear hR
        cases u with
        | true =>
          have hr : r = true := by rw [HD.out]; rfl
          subst hr
          go_wp2_with fail
          go_ret
          exact ⟨rfl, E0.out.then ER.out⟩
        | false =>
          have HD2 : Hid (r = (O.drop (k + 1)).any fun x => underC c x) := Lib.hid (by rw [HD.out]; rfl)
          go_wp2_with fail
          exact ⟨⟨k + 1, by omega, by simp, HD2, Lib.hid (hE.out.then ER.out)⟩, by simp [intOf]; omega⟩
    · obtain rfl : k = O.length := by omega
      have hr : r = false := by rw [hf.out, List.drop_length]; rfl
      subst hr
      go_wp2_with fail
      go_ret
      exact ⟨rfl, E0.out⟩
set_option maxHeartbeats 4000000 in
set_option maxRecDepth 20000 in
theorem hasRef_any (B sp : Nat) (vg vo : Value) (G O : List Cap) (c : Cap) (w : World) (hs : RefAt B w sp vg vo G O) (hG : G.length ≤ 1000) (hO : O.length ≤ 1000) (how : ∀ o ∈ O, CapWf o) :
    Calls Try.prog 14 #[.pointer (some ⟨sp, 0, none⟩), c.val] w (Tell w (hasS G O c)) := by
  obtain ⟨r, hr⟩ : ∃ r, r = hasS G O c := ⟨_, rfl⟩
  rw [← hr]
  unfold hasS at hr
  have HR := Lib.hid hr
  obtain ⟨Ag, cg, rfl, -, hAg⟩ := Arr.own hs.g
  obtain ⟨Ao, co, rfl, -, hAo⟩ := Arr.own hs.o
  have HS := Lib.hid (And.intro hs (And.intro hAg hAo))
  clear hr hs hAg hAo
  go_enter Try.func14, Try.ntmps14
  go_wp2_with fail
  refine (capR_any c _).mono ?_
  rintro e w1 ⟨rfl, hE⟩
  have hr1 : Hid (w1.heap[w.heap.size]? = some (.cells c.cells.toArray 24)) := Lib.hid ((hE.block _ (by simp)).trans (heap_alloc_new w _))
  have E1 : Hid (Ext w w1) := Lib.hid ((Ext.alloc (Below.refl _ w) _).then hE)
  clear hE
  obtain ⟨z0, z1, z2, z3, z4, z5⟩ := lie6' hr1.out (Below.refl _ w1)
  have hlt := cell_lt z0
  simp only at hlt
  cases h1 : rightC c with
  | false =>
    have hr : r = false := by rw [HR.out, h1]; rfl
    subst hr
    go_wp2_with fail
    go_ret
    exact ⟨rfl, E1.out⟩
  | true =>
    cases h2 : c.tag with
    | false =>
      have hr : r = true := by rw [HR.out, h1, h2]; rfl
      subst hr
      rw [h2] at z0
      go_wp2_with fail
      go_ret
      exact ⟨rfl, E1.out⟩
    | true =>
      rw [h2] at z0
      have HR2 : Hid (r = (ownB G c || ((O.any fun o => underC c o) && (if c.ty = 1 then hasP c.perms 4 else c.ty == 0 || authL O c.ty 32)))) := Lib.hid (by rw [HR.out, h1, h2]; simp)
      have H12 := Lib.hid (And.intro h1 h2)
      clear h1 h2
      go_wp2_with fail
      go_loopw [5, 6] (fun i _ wr => ∃ k : Nat, k ≤ G.length ∧ i = .int .i64 (k : Int) ∧ Hid (ownB G c = ownB (G.drop k) c) ∧ Hid (Ext w1 wr)) (fun i _ _ => G.length - (intOf i).toNat)
      case atStart => exact ⟨0, Nat.zero_le _, rfl, Lib.hid (by rw [List.drop_zero]), Lib.hid (Below.refl _ _)⟩
      case round =>
        obtain ⟨k, hk, rfl, hf, hE⟩ := hrel
        have q0 := cellAt (ext_at' (E1.out.then hE.out) HS.out.1.row) 0 (.slice Ag G.length cg) rfl
        have lq := cell_lt q0
        simp only at lq
        have hcw := Lib.hid (ext_at' hE.out hr1.out)
        obtain ⟨y0, y1, y2, y3, y4, y5⟩ := lie6' hcw.out (Below.refl _ wr)
        have hlty := cell_lt y0
        simp only at hlty
        by_cases hlt2 : k < G.length
        · obtain ⟨b1, o1, rfl, hb1, x0, x1, x2, x3, x4, x5⟩ := cap_row (HS.out.2.1.ext (E1.out.then hE.out)) hlt2
          have hd := hf.out
          unfold ownB at hd
          rw [List.drop_eq_getElem_cons hlt2, List.any_cons] at hd
          obtain ⟨x, hx⟩ : ∃ x, x = G[k] := ⟨_, rfl⟩
          rw [← hx] at x0 x1 x2 x3 x4 x5 hd
          have hq : (x.tag == c.tag && (x.base == c.base && (x.top == c.top && (x.perms == c.perms && x.ty == c.ty)))) = decide (({ x with at' := c.at' } : Cap) = c) := by rw [← capEq { x with at' := c.at' } c]; simp
          clear hx
          cases he : decide (({ x with at' := c.at' } : Cap) = c) with
          | true =>
            rw [he] at hd hq
            have hr : r = true := by
              have h3 : ownB G c = true := by unfold ownB; rw [hd]; rfl
              rw [HR2.out, h3]; rfl
            subst hr
            clear hd he
            go_wp2_with fail
            go_ret
            exact ⟨rfl, E1.out.then (hE.out.then (by repeat first | (with_reducible exact Below.refl _ _) | (with_reducible apply Ext.alloc) | (with_reducible apply Ext.drew) | (with_reducible apply Ext.drewN) | (with_reducible refine Ext.set ?_ (by simp))))⟩
          | false =>
            rw [he] at hd hq
            have HD : Hid (ownB G c = ownB (G.drop (k + 1)) c) := Lib.hid (by unfold ownB; rw [hd]; rfl)
            clear hd he
            go_wp2_with fail
            exact ⟨⟨k + 1, by omega, by simp, HD, Lib.hid (hE.out.then (by repeat first | (with_reducible exact Below.refl _ _) | (with_reducible apply Ext.alloc) | (with_reducible apply Ext.drew) | (with_reducible apply Ext.drewN) | (with_reducible refine Ext.set ?_ (by simp))))⟩, by simp [intOf]; omega⟩
        · obtain rfl : k = G.length := by omega
          have h3 : ownB G c = false := by rw [hf.out, List.drop_length]; rfl
          have HR3 : Hid (r = ((O.any fun o => underC c o) && (if c.ty = 1 then hasP c.perms 4 else c.ty == 0 || authL O c.ty 32))) := Lib.hid (by rw [HR2.out, h3]; rfl)
          have ht := H12.out.2
          obtain ⟨tg, cb, ct, ca, cp, cy⟩ := c
          simp only at ht
          subst ht
          simp only at y0 y1 y2 y3 y4 y5
          clear h3
          go_wp2_with fail
          refine (underR_any B sp (.slice Ag G.length cg) (.slice Ao O.length co) G O ⟨true, cb, ct, ca, cp, cy⟩ wr (HS.out.1.ext (E1.out.then hE.out)) hO).mono ?_
          rintro _ w3 ⟨rfl, hE3⟩
          have E3 := Lib.hid (hE.out.then hE3)
          obtain ⟨y0, y1, y2, y3, y4, y5⟩ := lie6' hcw.out hE3
          have hlty := cell_lt y0
          simp only at hlty
          have q1 := cellAt (ext_at' (E1.out.then E3.out) HS.out.1.row) 1 (.slice Ao O.length co) rfl
          have lq1 := cell_lt q1
          simp only at lq1
          have hcw3 := Lib.hid (ext_at' hE3 hcw.out)
          clear hE3 q0
          cases h4 : (O.any fun o => underC ⟨true, cb, ct, ca, cp, cy⟩ o) with
          | false =>
            have hr : r = false := by rw [HR3.out, h4]; rfl
            subst hr
            go_wp2_with fail
            go_ret
            exact ⟨rfl, E1.out.then E3.out⟩
          | true =>
            by_cases h5 : cy = 1
            · subst h5
              have hr : r = hasP cp 4 := by rw [HR3.out, h4]; simp
              subst hr
              go_wp2_with fail
              refine (refHas_any cp 4 w3).mono ?_
              rintro _ w4 ⟨rfl, hE4⟩
              go_wp2_with fail
              go_ret
              exact ⟨rfl, (E1.out.then E3.out).then hE4⟩
            · by_cases h6 : cy = 0
              · subst h6
                have hr : r = true := by rw [HR3.out, h4]; simp
                subst hr
                go_wp2_with fail
                refine wp_region_obl Ext [45, 46, 47, 48, 49, 50, 51, 52, 53, 54, 55, 56, 4] (by kernel_rfl) (fun _ => Below.refl _ _) (fun _ _ _ => Ext.then) (by kernel_rfl) (by kernel_rfl) ?_
                apply ex_is; apply Exists.intro
                apply ex_is; apply Exists.intro
                apply ex_is; apply Exists.intro
                apply ex_is; apply Exists.intro
                apply ex_is; apply Exists.intro
                apply ex_is; apply Exists.intro
                apply ex_is; apply Exists.intro
                apply ex_is; apply Exists.intro
                apply ex_is; apply Exists.intro
                apply ex_is; apply Exists.intro
                apply ex_is; apply Exists.intro
                apply ex_is; apply Exists.intro
                apply ex_is; apply Exists.intro
                refine ⟨[], ⟨?steps, ?stab, ?ends⟩⟩
                case steps =>
                  refine And.intro ?_ ?_
                  · intro a W hR hf ho K hK
                    replace hR := ext_drew hR
                    have G : a.tmps[3]?.getD undef = _ ∧ True := ho
                    obtain ⟨g3, -⟩ := G
                    clear ho hf
                    go_simp
                    exact hK _ _ (Below.refl _ _) (Eq.refl _)
                  refine And.intro ?_ ?_
                  · intro a W hR hf ho K hK
                    replace hR := ext_drew hR
                    have F : a.tmps[45]?.getD undef = _ ∧ True := hf
                    obtain ⟨f0, -⟩ := F
                    clear ho hf
                    obtain ⟨y0, y1, y2, y3, y4, y5⟩ := lie6' hcw3.out hR
                    go_simp
                    exact hK _ _ (Below.refl _ _) (Eq.refl _)
                  refine And.intro ?_ ?_
                  · intro a W hR hf ho K hK
                    replace hR := ext_drew hR
                    have F : a.tmps[46]?.getD undef = _ ∧ True := hf
                    obtain ⟨f1, -⟩ := F
                    clear ho hf
                    go_simp
                    exact hK _ _ (Below.refl _ _) (Eq.refl _)
                  refine And.intro ?_ ?_
                  · intro a W hR hf ho K hK
                    replace hR := ext_drew hR
                    have F : a.tmps[47]?.getD undef = _ ∧ True := hf
                    obtain ⟨f2, -⟩ := F
                    clear ho hf
                    go_simp
                    exact hK _ _ (Below.refl _ _) (Eq.refl _)
                  refine And.intro ?_ ?_
                  · intro a W hR hf ho K hK
                    replace hR := ext_drew hR
                    have G : a.tmps[0]?.getD undef = _ ∧ True := ho
                    obtain ⟨g0, -⟩ := G
                    have F : a.tmps[48]?.getD undef = _ ∧ True := hf
                    obtain ⟨f3, -⟩ := F
                    clear ho hf
                    go_simp
                    exact hK _ _ (Below.refl _ _) (Eq.refl _)
                  refine And.intro ?_ ?_
                  · intro a W hR hf ho K hK
                    replace hR := ext_drew hR
                    have F : a.tmps[49]?.getD undef = _ ∧ a.tmps[48]?.getD undef = _ ∧ True := hf
                    obtain ⟨f4, f3, -⟩ := F
                    clear ho hf
                    go_simp
                    exact hK _ _ (Below.refl _ _) (Eq.refl _)
                  refine And.intro ?_ ?_
                  · intro a W hR hf ho K hK
                    replace hR := ext_drew hR
                    have F : a.tmps[50]?.getD undef = _ ∧ a.tmps[48]?.getD undef = _ ∧ True := hf
                    obtain ⟨f5, f3, -⟩ := F
                    clear ho hf
                    go_simp
                    exact hK _ _ (Below.refl _ _) (Eq.refl _)
                  refine And.intro ?_ ?_
                  · intro a W hR hf ho K hK
                    replace hR := ext_drew hR
                    have F : a.tmps[51]?.getD undef = _ ∧ a.tmps[48]?.getD undef = _ ∧ True := hf
                    obtain ⟨f6, f3, -⟩ := F
                    clear ho hf
                    go_simp
                    exact hK _ _ (Below.refl _ _) (Eq.refl _)
                  refine And.intro ?_ ?_
                  · intro a W hR hf ho K hK
                    replace hR := ext_drew hR
                    have G : a.tmps[3]?.getD undef = _ ∧ True := ho
                    obtain ⟨g3, -⟩ := G
                    have F : a.tmps[48]?.getD undef = _ ∧ True := hf
                    obtain ⟨f3, -⟩ := F
                    clear ho hf
                    go_simp
                    exact hK _ _ (Below.refl _ _) (Eq.refl _)
                  refine And.intro ?_ ?_
                  · intro a W hR hf ho K hK
                    replace hR := ext_drew hR
                    have F : a.tmps[53]?.getD undef = _ ∧ a.tmps[48]?.getD undef = _ ∧ True := hf
                    obtain ⟨f8, f3, -⟩ := F
                    clear ho hf
                    go_simp
                    exact hK _ _ (Below.refl _ _) (Eq.refl _)
                  refine And.intro ?_ ?_
                  · intro a W hR hf ho K hK
                    replace hR := ext_drew hR
                    have F : a.tmps[52]?.getD undef = _ ∧ a.tmps[54]?.getD undef = _ ∧ a.tmps[48]?.getD undef = _ ∧ a.tmps[48]?.getD undef = _ ∧ True := hf
                    obtain ⟨f7, f9, f3, -, -⟩ := F
                    clear ho hf
                    go_simp
                    exact hK _ _ (Below.refl _ _) (Eq.refl _)
                  refine And.intro ?_ ?_
                  · intro a W hR hf ho K hK
                    replace hR := ext_drew hR
                    have F : a.tmps[48]?.getD undef = _ ∧ a.tmps[55]?.getD undef = _ ∧ True := hf
                    obtain ⟨f3, f10, -⟩ := F
                    clear ho hf
                    go_simp
                    exact hK _ _ (Below.refl _ _) (Eq.refl _)
                  refine And.intro ?_ ?_
                  · intro a W hR hf ho K hK
                    replace hR := ext_drew hR
                    have F : a.tmps[56]?.getD undef = _ ∧ a.tmps[55]?.getD undef = _ ∧ a.tmps[45]?.getD undef = _ ∧ a.tmps[46]?.getD undef = _ ∧ a.tmps[47]?.getD undef = _ ∧ a.tmps[48]?.getD undef = _ ∧ a.tmps[49]?.getD undef = _ ∧ a.tmps[50]?.getD undef = _ ∧ a.tmps[51]?.getD undef = _ ∧ a.tmps[52]?.getD undef = _ ∧ a.tmps[53]?.getD undef = _ ∧ a.tmps[54]?.getD undef = _ ∧ a.tmps[55]?.getD undef = _ ∧ a.tmps[56]?.getD undef = _ ∧ True := hf
                    obtain ⟨f11, f10, f0, f1, f2, f3, f4, f5, f6, f7, f8, f9, -, -, -⟩ := F
                    clear ho hf
                    go_simp
                    exact hK _ _ (Below.refl _ _) (Eq.refl _)
                  exact trivial
                case stab =>
                  refine And.intro is_stable ?_
                  refine And.intro is_stable ?_
                  refine And.intro is_stable ?_
                  refine And.intro is_stable ?_
                  refine And.intro is_stable ?_
                  refine And.intro is_stable ?_
                  refine And.intro is_stable ?_
                  refine And.intro is_stable ?_
                  refine And.intro is_stable ?_
                  refine And.intro is_stable ?_
                  refine And.intro is_stable ?_
                  refine And.intro is_stable ?_
                  refine And.intro is_stable ?_
                  exact trivial
                case ends =>
                  intro vals W hR hall
                  replace hR := ext_drew hR
                  have e4 : vals 4 = _ := hall 12 (by decide)
                  clear hall
                  simp only [fill, List.setIfInBounds_toArray, List.set_cons_succ, List.set_cons_zero, e4]
                  go_wp2_with fail
                  go_ret
                  exact ⟨rfl, (E1.out.then E3.out).then (Ext.then (by repeat first | (with_reducible exact Below.refl _ _) | (with_reducible apply Ext.alloc) | (with_reducible apply Ext.drew) | (with_reducible apply Ext.drewN) | (with_reducible refine Ext.set ?_ (by simp)) | (with_reducible refine Ext.then ?_ hR)) (Below.refl _ _))⟩
              · have hr : r = authL O cy 32 := by rw [HR3.out, h4]; simp [h5, h6]
                have d5 : (cy == 1) = false := beq_eq_false_iff_ne.2 h5
                have d6 : (cy == 0) = false := beq_eq_false_iff_ne.2 h6
                subst hr
                clear h5 h6
                go_wp2_with fail
                refine wp_region_obl Ext [45, 46, 47, 48, 49, 50, 51, 52, 53, 54, 55, 56, 4] (by kernel_rfl) (fun _ => Below.refl _ _) (fun _ _ _ => Ext.then) (by kernel_rfl) (by kernel_rfl) ?_
                apply ex_is; apply Exists.intro
                apply ex_is; apply Exists.intro
                apply ex_is; apply Exists.intro
                apply ex_is; apply Exists.intro
                apply ex_is; apply Exists.intro
                apply ex_is; apply Exists.intro
                apply ex_is; apply Exists.intro
                apply ex_is; apply Exists.intro
                apply ex_is; apply Exists.intro
                apply ex_is; apply Exists.intro
                apply ex_is; apply Exists.intro
                apply ex_is; apply Exists.intro
                apply ex_is; apply Exists.intro
                refine ⟨[], ⟨?steps, ?stab, ?ends⟩⟩
                case steps =>
                  refine And.intro ?_ ?_
                  · intro a W hR hf ho K hK
                    replace hR := ext_drew hR
                    have G : a.tmps[3]?.getD undef = _ ∧ True := ho
                    obtain ⟨g3, -⟩ := G
                    clear ho hf
                    go_simp
                    exact hK _ _ (Below.refl _ _) (Eq.refl _)
                  refine And.intro ?_ ?_
                  · intro a W hR hf ho K hK
                    replace hR := ext_drew hR
                    have F : a.tmps[45]?.getD undef = _ ∧ True := hf
                    obtain ⟨f0, -⟩ := F
                    clear ho hf
                    obtain ⟨y0, y1, y2, y3, y4, y5⟩ := lie6' hcw3.out hR
                    go_simp
                    exact hK _ _ (Below.refl _ _) (Eq.refl _)
                  refine And.intro ?_ ?_
                  · intro a W hR hf ho K hK
                    replace hR := ext_drew hR
                    have F : a.tmps[46]?.getD undef = _ ∧ True := hf
                    obtain ⟨f1, -⟩ := F
                    clear ho hf
                    go_simp
                    exact hK _ _ (Below.refl _ _) (Eq.refl _)
                  refine And.intro ?_ ?_
                  · intro a W hR hf ho K hK
                    replace hR := ext_drew hR
                    have F : a.tmps[47]?.getD undef = _ ∧ True := hf
                    obtain ⟨f2, -⟩ := F
                    clear ho hf
                    go_simp
                    exact hK _ _ (Below.refl _ _) (Eq.refl _)
                  refine And.intro ?_ ?_
                  · intro a W hR hf ho K hK
                    replace hR := ext_drew hR
                    have G : a.tmps[0]?.getD undef = _ ∧ True := ho
                    obtain ⟨g0, -⟩ := G
                    have F : a.tmps[48]?.getD undef = _ ∧ True := hf
                    obtain ⟨f3, -⟩ := F
                    clear ho hf
                    go_simp
                    exact hK _ _ (Below.refl _ _) (Eq.refl _)
                  refine And.intro ?_ ?_
                  · intro a W hR hf ho K hK
                    replace hR := ext_drew hR
                    have F : a.tmps[49]?.getD undef = _ ∧ a.tmps[48]?.getD undef = _ ∧ True := hf
                    obtain ⟨f4, f3, -⟩ := F
                    clear ho hf
                    go_simp
                    exact hK _ _ (Below.refl _ _) (Eq.refl _)
                  refine And.intro ?_ ?_
                  · intro a W hR hf ho K hK
                    replace hR := ext_drew hR
                    have F : a.tmps[50]?.getD undef = _ ∧ a.tmps[48]?.getD undef = _ ∧ True := hf
                    obtain ⟨f5, f3, -⟩ := F
                    clear ho hf
                    go_simp
                    exact hK _ _ (Below.refl _ _) (Eq.refl _)
                  refine And.intro ?_ ?_
                  · intro a W hR hf ho K hK
                    replace hR := ext_drew hR
                    have F : a.tmps[51]?.getD undef = _ ∧ a.tmps[48]?.getD undef = _ ∧ True := hf
                    obtain ⟨f6, f3, -⟩ := F
                    clear ho hf
                    have q1 := cellAt (ext_at' ((E1.out.then E3.out).then hR) HS.out.1.row) 1 (.slice Ao O.length co) rfl
                    go_simp
                    exact hK _ _ (Below.refl _ _) (Eq.refl _)
                  refine And.intro ?_ ?_
                  · intro a W hR hf ho K hK
                    replace hR := ext_drew hR
                    have G : a.tmps[3]?.getD undef = _ ∧ True := ho
                    obtain ⟨g3, -⟩ := G
                    have F : a.tmps[48]?.getD undef = _ ∧ True := hf
                    obtain ⟨f3, -⟩ := F
                    clear ho hf
                    go_simp
                    exact hK _ _ (Below.refl _ _) (Eq.refl _)
                  refine And.intro ?_ ?_
                  · intro a W hR hf ho K hK
                    replace hR := ext_drew hR
                    have F : a.tmps[53]?.getD undef = _ ∧ a.tmps[48]?.getD undef = _ ∧ True := hf
                    obtain ⟨f8, f3, -⟩ := F
                    clear ho hf
                    obtain ⟨y0, y1, y2, y3, y4, y5⟩ := lie6' hcw3.out hR
                    go_simp
                    exact hK _ _ (Below.refl _ _) (Eq.refl _)
                  refine And.intro ?_ ?_
                  · intro a W hR hf ho K hK
                    replace hR := ext_drew hR
                    have F : a.tmps[52]?.getD undef = _ ∧ a.tmps[54]?.getD undef = _ ∧ a.tmps[48]?.getD undef = _ ∧ a.tmps[48]?.getD undef = _ ∧ True := hf
                    obtain ⟨f7, f9, f3, -, -⟩ := F
                    clear ho hf
                    go_simp
                    refine (overR_any Ao co O cy 32 _ (HS.out.2.2.ext ((E1.out.then E3.out).then hR)) hO how).mono ?_; rintro _ W1 ⟨rfl, hE⟩; exact hK _ _ hE (Eq.refl _)
                  refine And.intro ?_ ?_
                  · intro a W hR hf ho K hK
                    replace hR := ext_drew hR
                    have F : a.tmps[48]?.getD undef = _ ∧ a.tmps[55]?.getD undef = _ ∧ True := hf
                    obtain ⟨f3, f10, -⟩ := F
                    clear ho hf
                    go_simp
                    exact hK _ _ (Below.refl _ _) (Eq.refl _)
                  refine And.intro ?_ ?_
                  · intro a W hR hf ho K hK
                    replace hR := ext_drew hR
                    have F : a.tmps[56]?.getD undef = _ ∧ a.tmps[55]?.getD undef = _ ∧ a.tmps[45]?.getD undef = _ ∧ a.tmps[46]?.getD undef = _ ∧ a.tmps[47]?.getD undef = _ ∧ a.tmps[48]?.getD undef = _ ∧ a.tmps[49]?.getD undef = _ ∧ a.tmps[50]?.getD undef = _ ∧ a.tmps[51]?.getD undef = _ ∧ a.tmps[52]?.getD undef = _ ∧ a.tmps[53]?.getD undef = _ ∧ a.tmps[54]?.getD undef = _ ∧ a.tmps[55]?.getD undef = _ ∧ a.tmps[56]?.getD undef = _ ∧ True := hf
                    obtain ⟨f11, f10, f0, f1, f2, f3, f4, f5, f6, f7, f8, f9, -, -, -⟩ := F
                    clear ho hf
                    go_simp
                    exact hK _ _ (Below.refl _ _) (Eq.refl _)
                  exact trivial
                case stab =>
                  refine And.intro is_stable ?_
                  refine And.intro is_stable ?_
                  refine And.intro is_stable ?_
                  refine And.intro is_stable ?_
                  refine And.intro is_stable ?_
                  refine And.intro is_stable ?_
                  refine And.intro is_stable ?_
                  refine And.intro is_stable ?_
                  refine And.intro is_stable ?_
                  refine And.intro is_stable ?_
                  refine And.intro is_stable ?_
                  refine And.intro is_stable ?_
                  refine And.intro is_stable ?_
                  exact trivial
                case ends =>
                  intro vals W hR hall
                  replace hR := ext_drew hR
                  have e4 : vals 4 = _ := hall 12 (by decide)
                  clear hall
                  simp only [fill, List.setIfInBounds_toArray, List.set_cons_succ, List.set_cons_zero, e4]
                  go_wp2_with fail
                  go_ret
                  exact ⟨rfl, (E1.out.then E3.out).then (Ext.then (by repeat first | (with_reducible exact Below.refl _ _) | (with_reducible apply Ext.alloc) | (with_reducible apply Ext.drew) | (with_reducible apply Ext.drewN) | (with_reducible refine Ext.set ?_ (by simp)) | (with_reducible refine Ext.then ?_ hR)) (Below.refl _ _))⟩
end Go.Proofs.Ytalndcjbnedigaa

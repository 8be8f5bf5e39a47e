
/- ClosMore: the walk of the law. -/
import Derived.Test.YtalndcjbnedigaaOrder06
import Derived.Test.YtalndcjbnedigaaRefU
import Derived.Test.YtalndcjbnedigaaCapR
import Derived.Test.YtalndcjbnedigaaOpenCap
set_option linter.all false
namespace Go.Proofs.Ytalndcjbnedigaa
open Go.RowKit Go.Shelf
attribute [local go_sem] seen dstOf boolOf

/-- Is it no more than one of the first k? -/
def lessG (c g : Cap) : Bool := g.tag && rightC g && underC c g
def lessK (l : List Cap) (c : Cap) (k : Nat) : Bool := !c.tag || (l.take k).any (lessG c)
theorem lessK_succ {l : List Cap} {c : Cap} {k : Nat} (h : k < l.length) : lessK l c (k + 1) = (lessK l c k || lessG c l[k]) := by
  unfold lessK
  rw [List.take_add_one, List.getElem?_eq_getElem h, List.any_append]
  simp [Bool.or_assoc]
theorem lessK_all {l G O : List Cap} {c : Cap} (h : SetOk l G O) (hc : hasS G O c = true) : lessK l c l.length = true := by
  unfold lessK
  cases ht : c.tag with
  | false => rfl
  | true =>
    obtain ⟨g, h1, h2, h3, h4⟩ := hasS_less h hc ht
    rw [List.take_length]
    simp only [Bool.not_true, Bool.false_or]
    exact List.any_eq_true.2 ⟨g, h1, by unfold lessG; rw [h2, h3, h4]; rfl⟩
set_option maxHeartbeats 4000000 in
set_option maxRecDepth 20000 in
theorem more06_any (A : Option Addr) (cp : Nat) (l : List Cap) (A2 : Option Addr) (cp2 : Nat) (l2 : List Cap) (c : Cap) (w : World) (hA : Arr w A (capCells l)) (hw : ∀ x ∈ l, CapWf x) (hA2 : Arr w A2 (capCells l2)) (hw2 : ∀ x ∈ l2, CapWf x) (hc : CapWf c) (hz1 : A = none → cp = 0) (hz2 : A2 = none → cp2 = 0) (hl1 : l.length ≤ 8796093021952) (hl2 : l2.length ≤ 8796093021952) :
    Calls Try.prog 4 #[.slice A l.length cp, .slice A2 l2.length cp2, c.val] w (Tell w true) := by
  have hsum : IntKind.i64.wrap ((l.length : Int) + (l2.length : Int)) = (l.length : Int) + (l2.length : Int) := IntWalk.i64_in _ (by omega)
  by_cases hl : 40 < l.length + l2.length
  · have d1 : decide ((40 : Int) < (l.length : Int) + (l2.length : Int)) = true := decide_eq_true (by omega)
    go_enter Try.func4, Try.ntmps4
    go_wp2_with fail
    refine (head06 _).mono ?_
    rintro _ w1 ⟨rfl, hE⟩
    go_wp2_with fail
    go_ret
    exact ⟨rfl, Ext.then (by repeat first | (with_reducible exact Below.refl _ _) | (with_reducible apply Ext.alloc) | (with_reducible apply Ext.drew) | (with_reducible apply Ext.drewN) | (with_reducible refine Ext.set ?_ (by simp))) hE⟩
  · obtain ⟨ci, hci, hci0, hci1, hci2⟩ := info_parts infoCap
    have d1 : decide ((40 : Int) < (l.length : Int) + (l2.length : Int)) = false := decide_eq_false (by omega)
    go_enter Try.func4, Try.ntmps4
    go_wp2_with fail
    refine (head06 _).mono ?_
    rintro _ w1 ⟨rfl, hE1⟩
    have HC : Hid (w1.heap[w.heap.size]? = some (.cells c.cells.toArray 24)) := Lib.hid ((hE1.block _ (by simp)).trans (heap_alloc_new w _))
    have E1 : Hid (Ext w w1) := Lib.hid (Ext.then (by repeat first | (with_reducible exact Below.refl _ _) | (with_reducible apply Ext.alloc) | (with_reducible apply Ext.drew) | (with_reducible apply Ext.drewN) | (with_reducible refine Ext.set ?_ (by simp))) hE1)
    have HA := Lib.hid (hA.ext E1.out)
    have HA2 := Lib.hid (hA2.ext E1.out)
    have HL1 := Lib.hid (lies_in HA.out hz1)
    have HL2 := Lib.hid (lies_in HA2.out hz2)
    clear hE1 hA hA2 hz1 hz2
    go_wp2_with fail
    refine (new_is A cp l _ HA.out hw (by omega)).mono ?_
    rintro _ w2 ⟨s, G, O, rfl, hs, hp, hE⟩
    have E2 : Hid (Ext w1 w2) := Lib.hid hE
    have S2 := Lib.hid hs
    clear hs hE hp
    have L2 : Hid (Lies w1.heap.size w2 (.slice A l.length cp) l.length (capCells l)) := Lib.hid (HL1.out.ext E2.out)
    go_wp2_with (first
      | (at_builtin; refine wpList_append_src _ rfl (.tmp 22) (.tmp 23) 22 rfl w2.heap.size 24 ci (.agg #[.bool false, .int .i64 0, .int .i64 0, .int .i64 0, .int .i64 0, .int .i64 0]) 6 48 Try.underlying22 hci hci0 hci1 hci2 rfl (by decide) _ _ _ rfl (lit0C w2 w2.heap.size _ rfl (Nat.le_refl _)) _ l.length (capCells l) rfl (L2.out.keep (Ext.alloc (Below.refl _ _) _ |>.mono E2.out.size)) (capCells_len _) (capCells_one _) (by unfold maxLen; omega) (by omega) (by simp) ?_; intro v3 w3 ho3 hg3 _; have H3 : Hid (w3.ownsRow w2.heap.size 24 6 v3 l.length (capCells l) ∧ Ext w2 w3) := Lib.hid ⟨by simpa using ho3, Below.grown (Ext.alloc (Below.refl _ _) _) hg3 (by simp) (fun r hr => ((lit0C w2 w2.heap.size _ rfl (Nat.le_refl _)).lt r hr).1)⟩; obtain ⟨A3, c3, rfl, -, -⟩ := Arr.own H3.out.1; clear ho3 hg3)
      | (at_builtin; refine wpList_append_src _ rfl (.tmp 24) (.tmp 25) 22 rfl w2.heap.size 24 ci (.agg #[.bool false, .int .i64 0, .int .i64 0, .int .i64 0, .int .i64 0, .int .i64 0]) 6 48 Try.underlying22 hci hci0 hci1 hci2 rfl (by decide) _ _ _ rfl H3.out.1 _ l2.length (capCells l2) rfl (HL2.out.ext (E2.out.then H3.out.2)) (capCells_len _) (capCells_one _) (by unfold maxLen; omega) (by omega) H3.out.2.size ?_; intro v4 w4 ho4 hg4 _; obtain ⟨L, hL⟩ : ∃ L, L = l ++ l2 := ⟨_, rfl⟩; have H4 : Hid (w4.ownsRow w2.heap.size 24 6 v4 L.length (capCells L) ∧ Ext w2 w4) := Lib.hid ⟨by rw [hL, capCells_app, List.length_append]; exact ho4, Below.grown H3.out.2 hg4 H3.out.2.size (fun r hr => (H3.out.1.lt r hr).1)⟩; obtain ⟨A4, c4, rfl, -, ha4⟩ := Arr.own H4.out.1; have HA4 := Lib.hid ha4; have HLq := Lib.hid hL; clear ho4 hg4 ha4 hL))
    have hw4 : ∀ x ∈ L, CapWf x := fun x hx => (List.mem_append.1 (HLq.out ▸ hx)).elim (hw x) (hw2 x)
    have HW4 := Lib.hid hw4
    have HLL : Hid (L.length ≤ 1000) := Lib.hid (by rw [HLq.out, List.length_append]; omega)
    clear hw4
    refine (new_is A4 c4 L _ HA4.out HW4.out HLL.out).mono ?_
    rintro _ w5 ⟨s', G', O', rfl, hs, hp, hE⟩
    have E5 : Hid (Ext w1 w5) := Lib.hid (E2.out.then (H4.out.2.then hE))
    have S5 := Lib.hid hs
    have T5 := Lib.hid (S2.out.ext (H4.out.2.then hE))
    clear hs hE hp
    obtain ⟨z0, z1, z2, z3, z4, z5⟩ := lie6' HC.out E5.out
    have hlt := cell_lt z0
    simp only at hlt
    go_wp2_with fail
    refine (has_set c T5.out (by omega) hw hc).mono ?_
    rintro _ w6 ⟨rfl, hE⟩
    have E6 : Hid (Ext w1 w6) := Lib.hid (E5.out.then hE)
    have S6 := Lib.hid (S5.out.ext hE)
    have HM := Lib.hid (opens_more S2.out.ok (HLq.out ▸ S5.out.ok))
    cases hh : hasS G O c with
    | false =>
      clear hE
      go_wp2_with fail
      go_ret
      exact ⟨rfl, E1.out.then E6.out⟩
    | true =>
      have HB : Hid (hasS G' O' c = true) := Lib.hid (hasS_mono HM.out.1 HM.out.2 hh)
      have HZ : Hid (lessK l c l.length = true) := Lib.hid (lessK_all S2.out.ok hh)
      have H0 : Hid (lessK l c 0 = !c.tag) := Lib.hid (by simp [lessK])
      have HS : Hid (∀ k (h : k < l.length), lessK l c (k + 1) = (lessK l c k || lessG c l[k])) := Lib.hid fun k h => lessK_succ h
      obtain ⟨z0, z1, z2, z3, z4, z5⟩ := lie6' HC.out E6.out
      have hlt := cell_lt z0
      simp only at hlt
      obtain ⟨f, hf⟩ : ∃ f, f = lessK l c := ⟨_, rfl⟩
      rw [← hf] at HZ H0 HS
      clear hE hh hf
      go_wp2_with fail
      go_loopw [10, 11] (fun v i wr => ∃ k : Nat, k ≤ l.length ∧ v = .bool (f k) ∧ i = .int .i64 (k : Int) ∧ Hid (Ext w6 wr)) (fun _ i _ => l.length - (intOf i).toNat)
      case atStart => exact ⟨0, Nat.zero_le _, by rw [H0.out], rfl, Lib.hid (Below.refl _ _)⟩
      case round =>
        obtain ⟨k, hk, rfl, rfl, hE⟩ := hrel
        by_cases hlt2 : k < l.length
        · have hHE : HA = HA := rfl
          clear hHE
          obtain ⟨b1, o1, rfl, -, x0, x1, x2, x3, x4, x5⟩ := cap_row (HA.out.ext (E6.out.then hE.out)) hlt2
          have hs := HS.out k hlt2
          obtain ⟨x, hx⟩ : ∃ x, x = l[k] := ⟨_, rfl⟩
          rw [← hx] at x0 x1 x2 x3 x4 x5 hs
          have hwx : CapWf x := by rw [hx]; exact hw _ (List.getElem_mem hlt2)
          have HCw : Hid (wr.heap[w.heap.size]? = some (.cells c.cells.toArray 24)) := Lib.hid (((E6.out.then hE.out).block _ (Array.getElem?_eq_some_iff.1 HC.out).1).trans HC.out)
          obtain ⟨b, hb⟩ : ∃ b, b = f k := ⟨_, rfl⟩
          rw [← hb] at hs ⊢
          unfold lessG at hs
          clear hx hb
          obtain ⟨tg, xb, xt, xa, xp, xy⟩ := x
          simp only at x0 x1 x2 x3 x4 x5 hs
          have HRt := Lib.hid (fun w => capR_any ⟨tg, xb, xt, xa, xp, xy⟩ w)
          have HUn := Lib.hid (fun w => refUnder_any c ⟨tg, xb, xt, xa, xp, xy⟩ w)
          cases b with
          | true =>
            have HF := Lib.hid hs
            have HX := Lib.hid (And.intro x0 (And.intro x1 (And.intro x2 (And.intro x3 (And.intro x4 x5)))))
            clear x0 x1 x2 x3 x4 x5 hs
            go_wp2_with fail
            refine wp_region_res (Ext) [] [] [⟨[], []⟩, ⟨[], []⟩, ⟨[], []⟩, ⟨[], []⟩, ⟨[], []⟩, ⟨[], []⟩, ⟨[], []⟩, ⟨[], []⟩, ⟨[], []⟩, ⟨[], []⟩, ⟨[], []⟩, ⟨[], []⟩, ⟨[], []⟩, ⟨[], []⟩, ⟨[], []⟩, ⟨[], []⟩, ⟨[], []⟩, ⟨[], []⟩, ⟨[], []⟩, ⟨[], []⟩, ⟨[], []⟩, ⟨[], []⟩, ⟨[], []⟩, ⟨[], []⟩] [48, 49, 50, 51, 52, 53, 54, 55, 56, 57, 58, 59, 60, 61, 62, 63, 64, 65, 66, 67, 68, 69, 70, 10] (by kernel_rfl) (fun _ => Below.refl _ _) (fun _ _ _ => Ext.then) (by kernel_rfl) (by kernel_rfl) (by kernel_rfl) (by kernel_rfl) (by kernel_rfl) ?start ?_
            case start =>
              exact trivial
            apply ex_is; apply Exists.intro
            apply ex_is; apply Exists.intro
            apply ex_is; apply Exists.intro
            apply ex_is; apply Exists.intro
            apply ex_is; apply Exists.intro
            apply ex_is; apply Exists.intro
            apply ex_is; apply Exists.intro
            apply ex_is; apply Exists.intro
            apply ex_is; apply Exists.intro
            apply ex_is; apply Exists.intro
            apply ex_is; apply Exists.intro
            apply ex_is; apply Exists.intro
            apply ex_is; apply Exists.intro
            apply ex_is; apply Exists.intro
            apply ex_is; apply Exists.intro
            apply ex_is; apply Exists.intro
            apply ex_is; apply Exists.intro
            apply ex_is; apply Exists.intro
            apply ex_is; apply Exists.intro
            apply ex_is; apply Exists.intro
            apply ex_is; apply Exists.intro
            apply ex_is; apply Exists.intro
            apply ex_is; apply Exists.intro
            apply ex_is; apply Exists.intro
            refine ⟨[], ⟨?steps, ?stab, ?ends⟩⟩
            case steps =>
              refine And.intro (obX_pure (fun _ => Below.refl _ _) ?_) ?_
              · intro act W hR hf ho hu K hK
                replace hR := ext_drew hR
                replace hK := fun v h2 => hK v W rfl h2 trivial
                have G : act.tmps[10]?.getD undef = _ ∧ True := ho
                obtain ⟨g10, -⟩ := G
                clear ho hf hu
                go_simp
                exact hK _ (Eq.refl _)
              refine And.intro (obX_pure (fun _ => Below.refl _ _) ?_) ?_
              · intro act W hR hf ho hu K hK
                replace hR := ext_drew hR
                replace hK := fun v h2 => hK v W rfl h2 trivial
                have F : act.tmps[48]?.getD undef = _ ∧ True := hf
                obtain ⟨f0, -⟩ := F
                clear ho hf hu
                go_simp
                exact hK _ (Eq.refl _)
              refine And.intro (obX_pure (fun _ => Below.refl _ _) ?_) ?_
              · intro act W hR hf ho hu K hK
                replace hR := ext_drew hR
                replace hK := fun v h2 => hK v W rfl h2 trivial
                have G : act.tmps[0]?.getD undef = _ ∧ True := ho
                obtain ⟨g0, -⟩ := G
                have F : act.tmps[49]?.getD undef = _ ∧ True := hf
                obtain ⟨f1, -⟩ := F
                clear ho hf hu
                go_simp
                exact hK _ (Eq.refl _)
              refine And.intro (obX_pure (fun _ => Below.refl _ _) ?_) ?_
              · intro act W hR hf ho hu K hK
                replace hR := ext_drew hR
                replace hK := fun v h2 => hK v W rfl h2 trivial
                have G : act.tmps[11]?.getD undef = _ ∧ True := ho
                obtain ⟨g11, -⟩ := G
                have F : act.tmps[49]?.getD undef = _ ∧ True := hf
                obtain ⟨f1, -⟩ := F
                clear ho hf hu
                go_simp
                exact hK _ (Eq.refl _)
              refine And.intro (obX_pure (fun _ => Below.refl _ _) ?_) ?_
              · intro act W hR hf ho hu K hK
                replace hR := ext_drew hR
                replace hK := fun v h2 => hK v W rfl h2 trivial
                have F : act.tmps[50]?.getD undef = _ ∧ act.tmps[51]?.getD undef = _ ∧ act.tmps[49]?.getD undef = _ ∧ True := hf
                obtain ⟨f2, f3, f1, -⟩ := F
                clear ho hf hu
                go_simp
                exact hK _ (Eq.refl _)
              refine And.intro (obX_pure (fun _ => Below.refl _ _) ?_) ?_
              · intro act W hR hf ho hu K hK
                replace hR := ext_drew hR
                replace hK := fun v h2 => hK v W rfl h2 trivial
                have F : act.tmps[52]?.getD undef = _ ∧ act.tmps[49]?.getD undef = _ ∧ True := hf
                obtain ⟨f4, f1, -⟩ := F
                clear ho hf hu
                go_simp
                exact hK _ (Eq.refl _)
              refine And.intro (obX_pure (fun _ => Below.refl _ _) ?_) ?_
              · intro act W hR hf ho hu K hK
                replace hR := ext_drew hR
                replace hK := fun v h2 => hK v W rfl h2 trivial
                have F : act.tmps[53]?.getD undef = _ ∧ act.tmps[49]?.getD undef = _ ∧ True := hf
                obtain ⟨f5, f1, -⟩ := F
                clear ho hf hu
                have y0 := ext_cell hR _ _ HX.out.1; have y1 := ext_cell hR _ _ HX.out.2.1; have y2 := ext_cell hR _ _ HX.out.2.2.1; have y3 := ext_cell hR _ _ HX.out.2.2.2.1; have y4 := ext_cell hR _ _ HX.out.2.2.2.2.1; have y5 := ext_cell hR _ _ HX.out.2.2.2.2.2
                go_simp
                exact hK _ (Eq.refl _)
              refine And.intro (obX_pure (fun _ => Below.refl _ _) ?_) ?_
              · intro act W hR hf ho hu K hK
                replace hR := ext_drew hR
                replace hK := fun v h2 => hK v W rfl h2 trivial
                have F : act.tmps[54]?.getD undef = _ ∧ act.tmps[49]?.getD undef = _ ∧ act.tmps[49]?.getD undef = _ ∧ True := hf
                obtain ⟨f6, f1, -, -⟩ := F
                clear ho hf hu
                go_simp
                exact hK _ (Eq.refl _)
              refine And.intro (obX_pure (fun _ => Below.refl _ _) ?_) ?_
              · intro act W hR hf ho hu K hK
                replace hR := ext_drew hR
                replace hK := fun v h2 => hK v W rfl h2 trivial
                have G : act.tmps[0]?.getD undef = _ ∧ True := ho
                obtain ⟨g0, -⟩ := G
                have F : act.tmps[55]?.getD undef = _ ∧ True := hf
                obtain ⟨f7, -⟩ := F
                clear ho hf hu
                go_simp
                exact hK _ (Eq.refl _)
              refine And.intro (obX_pure (fun _ => Below.refl _ _) ?_) ?_
              · intro act W hR hf ho hu K hK
                replace hR := ext_drew hR
                replace hK := fun v h2 => hK v W rfl h2 trivial
                have G : act.tmps[11]?.getD undef = _ ∧ True := ho
                obtain ⟨g11, -⟩ := G
                have F : act.tmps[55]?.getD undef = _ ∧ True := hf
                obtain ⟨f7, -⟩ := F
                clear ho hf hu
                go_simp
                exact hK _ (Eq.refl _)
              refine And.intro (obX_pure (fun _ => Below.refl _ _) ?_) ?_
              · intro act W hR hf ho hu K hK
                replace hR := ext_drew hR
                replace hK := fun v h2 => hK v W rfl h2 trivial
                have F : act.tmps[56]?.getD undef = _ ∧ act.tmps[57]?.getD undef = _ ∧ act.tmps[55]?.getD undef = _ ∧ True := hf
                obtain ⟨f8, f9, f7, -⟩ := F
                clear ho hf hu
                go_simp
                exact hK _ (Eq.refl _)
              refine And.intro (obX_pure (fun _ => Below.refl _ _) ?_) ?_
              · intro act W hR hf ho hu K hK
                replace hR := ext_drew hR
                replace hK := fun v h2 => hK v W rfl h2 trivial
                have F : act.tmps[58]?.getD undef = _ ∧ act.tmps[55]?.getD undef = _ ∧ True := hf
                obtain ⟨f10, f7, -⟩ := F
                clear ho hf hu
                have y0 := ext_cell hR _ _ HX.out.1; have y1 := ext_cell hR _ _ HX.out.2.1; have y2 := ext_cell hR _ _ HX.out.2.2.1; have y3 := ext_cell hR _ _ HX.out.2.2.2.1; have y4 := ext_cell hR _ _ HX.out.2.2.2.2.1; have y5 := ext_cell hR _ _ HX.out.2.2.2.2.2
                go_simp
                exact hK _ (Eq.refl _)
              refine And.intro (obX_eff (Ext) (fun _ _ h => h) (trivial) ?_) ?_
              · intro act W hR hf ho hu K hK
                replace hR := ext_drew hR
                replace hK := fun v (w' : World) (h1 : (Ext) W w') h2 => hK v w' h1 h2 trivial
                have F : act.tmps[59]?.getD undef = _ ∧ act.tmps[55]?.getD undef = _ ∧ act.tmps[55]?.getD undef = _ ∧ True := hf
                obtain ⟨f11, f7, -, -⟩ := F
                clear ho hf hu
                go_simp
                exact hK _ _ (Below.refl _ _) (Eq.refl _)
              refine And.intro (obX_pure (fun _ => Below.refl _ _) ?_) ?_
              · intro act W hR hf ho hu K hK
                replace hR := ext_drew hR
                replace hK := fun v h2 => hK v W rfl h2 trivial
                have F : act.tmps[55]?.getD undef = _ ∧ act.tmps[60]?.getD undef = _ ∧ act.tmps[49]?.getD undef = _ ∧ True := hf
                obtain ⟨f7, f12, f1, -⟩ := F
                clear ho hf hu
                go_simp
                exact hK _ (Eq.refl _)
              refine And.intro (obX_pure (fun _ => Below.refl _ _) ?_) ?_
              · intro act W hR hf ho hu K hK
                replace hR := ext_drew hR
                replace hK := fun v h2 => hK v W rfl h2 trivial
                have F : act.tmps[61]?.getD undef = _ ∧ act.tmps[60]?.getD undef = _ ∧ act.tmps[49]?.getD undef = _ ∧ True := hf
                obtain ⟨f13, f12, f1, -⟩ := F
                clear ho hf hu
                go_simp
                exact hK _ (Eq.refl _)
              refine And.intro (obX_pure (fun _ => Below.refl _ _) ?_) ?_
              · intro act W hR hf ho hu K hK
                replace hR := ext_drew hR
                replace hK := fun v h2 => hK v W rfl h2 trivial
                have G : act.tmps[5]?.getD undef = _ ∧ True := ho
                obtain ⟨g5, -⟩ := G
                have F : act.tmps[62]?.getD undef = _ ∧ True := hf
                obtain ⟨f14, -⟩ := F
                clear ho hf hu
                obtain ⟨z0, z1, z2, z3, z4, z5⟩ := lie6' HCw.out hR
                go_simp
                exact hK _ (Eq.refl _)
              refine And.intro (obX_pure (fun _ => Below.refl _ _) ?_) ?_
              · intro act W hR hf ho hu K hK
                replace hR := ext_drew hR
                replace hK := fun v h2 => hK v W rfl h2 trivial
                have G : act.tmps[0]?.getD undef = _ ∧ True := ho
                obtain ⟨g0, -⟩ := G
                have F : act.tmps[62]?.getD undef = _ ∧ True := hf
                obtain ⟨f14, -⟩ := F
                clear ho hf hu
                go_simp
                exact hK _ (Eq.refl _)
              refine And.intro (obX_pure (fun _ => Below.refl _ _) ?_) ?_
              · intro act W hR hf ho hu K hK
                replace hR := ext_drew hR
                replace hK := fun v h2 => hK v W rfl h2 trivial
                have G : act.tmps[11]?.getD undef = _ ∧ True := ho
                obtain ⟨g11, -⟩ := G
                have F : act.tmps[62]?.getD undef = _ ∧ True := hf
                obtain ⟨f14, -⟩ := F
                clear ho hf hu
                go_simp
                exact hK _ (Eq.refl _)
              refine And.intro (obX_pure (fun _ => Below.refl _ _) ?_) ?_
              · intro act W hR hf ho hu K hK
                replace hR := ext_drew hR
                replace hK := fun v h2 => hK v W rfl h2 trivial
                have F : act.tmps[64]?.getD undef = _ ∧ act.tmps[65]?.getD undef = _ ∧ act.tmps[62]?.getD undef = _ ∧ True := hf
                obtain ⟨f16, f17, f14, -⟩ := F
                clear ho hf hu
                go_simp
                exact hK _ (Eq.refl _)
              refine And.intro (obX_pure (fun _ => Below.refl _ _) ?_) ?_
              · intro act W hR hf ho hu K hK
                replace hR := ext_drew hR
                replace hK := fun v h2 => hK v W rfl h2 trivial
                have F : act.tmps[66]?.getD undef = _ ∧ act.tmps[62]?.getD undef = _ ∧ True := hf
                obtain ⟨f18, f14, -⟩ := F
                clear ho hf hu
                have y0 := ext_cell hR _ _ HX.out.1; have y1 := ext_cell hR _ _ HX.out.2.1; have y2 := ext_cell hR _ _ HX.out.2.2.1; have y3 := ext_cell hR _ _ HX.out.2.2.2.1; have y4 := ext_cell hR _ _ HX.out.2.2.2.2.1; have y5 := ext_cell hR _ _ HX.out.2.2.2.2.2
                go_simp
                exact hK _ (Eq.refl _)
              refine And.intro (obX_eff (Ext) (fun _ _ h => h) (trivial) ?_) ?_
              · intro act W hR hf ho hu K hK
                replace hR := ext_drew hR
                replace hK := fun v (w' : World) (h1 : (Ext) W w') h2 => hK v w' h1 h2 trivial
                have F : act.tmps[63]?.getD undef = _ ∧ act.tmps[67]?.getD undef = _ ∧ act.tmps[62]?.getD undef = _ ∧ act.tmps[62]?.getD undef = _ ∧ True := hf
                obtain ⟨f15, f19, f14, -, -⟩ := F
                clear ho hf hu
                go_simp
                exact hK _ _ (Below.refl _ _) (Eq.refl _)
              refine And.intro (obX_pure (fun _ => Below.refl _ _) ?_) ?_
              · intro act W hR hf ho hu K hK
                replace hR := ext_drew hR
                replace hK := fun v h2 => hK v W rfl h2 trivial
                have F : act.tmps[62]?.getD undef = _ ∧ act.tmps[68]?.getD undef = _ ∧ act.tmps[49]?.getD undef = _ ∧ True := hf
                obtain ⟨f14, f20, f1, -⟩ := F
                clear ho hf hu
                go_simp
                exact hK _ (Eq.refl _)
              refine And.intro (obX_pure (fun _ => Below.refl _ _) ?_) ?_
              · intro act W hR hf ho hu K hK
                replace hR := ext_drew hR
                replace hK := fun v h2 => hK v W rfl h2 trivial
                have F : act.tmps[49]?.getD undef = _ ∧ act.tmps[69]?.getD undef = _ ∧ True := hf
                obtain ⟨f1, f21, -⟩ := F
                clear ho hf hu
                go_simp
                exact hK _ (Eq.refl _)
              refine And.intro (obX_pure (fun _ => Below.refl _ _) ?_) ?_
              · intro act W hR hf ho hu K hK
                replace hR := ext_drew hR
                replace hK := fun v h2 => hK v W rfl h2 trivial
                have F : act.tmps[70]?.getD undef = _ ∧ act.tmps[68]?.getD undef = _ ∧ act.tmps[48]?.getD undef = _ ∧ act.tmps[49]?.getD undef = _ ∧ act.tmps[50]?.getD undef = _ ∧ act.tmps[51]?.getD undef = _ ∧ act.tmps[52]?.getD undef = _ ∧ act.tmps[53]?.getD undef = _ ∧ act.tmps[54]?.getD undef = _ ∧ act.tmps[55]?.getD undef = _ ∧ act.tmps[56]?.getD undef = _ ∧ act.tmps[57]?.getD undef = _ ∧ act.tmps[58]?.getD undef = _ ∧ act.tmps[59]?.getD undef = _ ∧ act.tmps[60]?.getD undef = _ ∧ act.tmps[61]?.getD undef = _ ∧ act.tmps[62]?.getD undef = _ ∧ act.tmps[63]?.getD undef = _ ∧ act.tmps[64]?.getD undef = _ ∧ act.tmps[65]?.getD undef = _ ∧ act.tmps[66]?.getD undef = _ ∧ act.tmps[67]?.getD undef = _ ∧ act.tmps[68]?.getD undef = _ ∧ act.tmps[69]?.getD undef = _ ∧ act.tmps[70]?.getD undef = _ ∧ True := hf
                obtain ⟨f22, f20, f0, f1, f2, f3, f4, f5, f6, f7, f8, f9, f10, f11, f12, f13, f14, f15, f16, f17, f18, f19, -, f21, -, -⟩ := F
                clear ho hf hu
                go_simp
                exact hK _ (Eq.refl _)
              exact trivial
            case stab =>
              refine And.intro is_stable ?_
              refine And.intro is_stable ?_
              refine And.intro is_stable ?_
              refine And.intro is_stable ?_
              refine And.intro is_stable ?_
              refine And.intro is_stable ?_
              refine And.intro is_stable ?_
              refine And.intro is_stable ?_
              refine And.intro is_stable ?_
              refine And.intro is_stable ?_
              refine And.intro is_stable ?_
              refine And.intro is_stable ?_
              refine And.intro is_stable ?_
              refine And.intro is_stable ?_
              refine And.intro is_stable ?_
              refine And.intro is_stable ?_
              refine And.intro is_stable ?_
              refine And.intro is_stable ?_
              refine And.intro is_stable ?_
              refine And.intro is_stable ?_
              refine And.intro is_stable ?_
              refine And.intro is_stable ?_
              refine And.intro is_stable ?_
              refine And.intro is_stable ?_
              exact trivial
            case ends =>
              intro vals W hR hE hall
              replace hR := ext_drew hR
              clear hE
              have e10 : vals 10 = _ := hall 23 (by decide)
              clear hall
              simp only [fill, List.setIfInBounds_toArray, List.set_cons_succ, List.set_cons_zero, e10]
              go_wp2_with fail
              exact ⟨⟨k + 1, by omega, by rw [HF.out]; rfl, by rfl, Lib.hid (hE.out.then (Ext.then (by repeat first | (with_reducible exact Below.refl _ _) | (with_reducible apply Ext.alloc) | (with_reducible apply Ext.drew) | (with_reducible apply Ext.drewN) | (with_reducible refine Ext.set ?_ (by simp)) | (with_reducible refine Ext.then ?_ hR)) (Below.refl _ _)))⟩, by simp [intOf]; omega⟩
          | false =>
            cases tg with
            | false =>
              have HF := Lib.hid hs
              have HX := Lib.hid (And.intro x0 (And.intro x1 (And.intro x2 (And.intro x3 (And.intro x4 x5)))))
              clear x0 x1 x2 x3 x4 x5 hs
              go_wp2_with fail
              refine wp_region_res (Ext) [] [] [⟨[], []⟩, ⟨[], []⟩, ⟨[], []⟩, ⟨[], []⟩, ⟨[], []⟩, ⟨[], []⟩, ⟨[], []⟩, ⟨[], []⟩, ⟨[], []⟩, ⟨[], []⟩, ⟨[], []⟩, ⟨[], []⟩, ⟨[], []⟩, ⟨[], []⟩, ⟨[], []⟩, ⟨[], []⟩, ⟨[], []⟩, ⟨[], []⟩, ⟨[], []⟩, ⟨[], []⟩, ⟨[], []⟩, ⟨[], []⟩, ⟨[], []⟩, ⟨[], []⟩] [48, 49, 50, 51, 52, 53, 54, 55, 56, 57, 58, 59, 60, 61, 62, 63, 64, 65, 66, 67, 68, 69, 70, 10] (by kernel_rfl) (fun _ => Below.refl _ _) (fun _ _ _ => Ext.then) (by kernel_rfl) (by kernel_rfl) (by kernel_rfl) (by kernel_rfl) (by kernel_rfl) ?start ?_
              case start =>
                exact trivial
              apply ex_is; apply Exists.intro
              apply ex_is; apply Exists.intro
              apply ex_is; apply Exists.intro
              apply ex_is; apply Exists.intro
              apply ex_is; apply Exists.intro
              apply ex_is; apply Exists.intro
              apply ex_is; apply Exists.intro
              apply ex_is; apply Exists.intro
              apply ex_is; apply Exists.intro
              apply ex_is; apply Exists.intro
              apply ex_is; apply Exists.intro
              apply ex_is; apply Exists.intro
              apply ex_is; apply Exists.intro
              apply ex_is; apply Exists.intro
              apply ex_is; apply Exists.intro
              apply ex_is; apply Exists.intro
              apply ex_is; apply Exists.intro
              apply ex_is; apply Exists.intro
              apply ex_is; apply Exists.intro
              apply ex_is; apply Exists.intro
              apply ex_is; apply Exists.intro
              apply ex_is; apply Exists.intro
              apply ex_is; apply Exists.intro
              apply ex_is; apply Exists.intro
              refine ⟨[], ⟨?steps, ?stab, ?ends⟩⟩
              case steps =>
                refine And.intro (obX_pure (fun _ => Below.refl _ _) ?_) ?_
                · intro act W hR hf ho hu K hK
                  replace hR := ext_drew hR
                  replace hK := fun v h2 => hK v W rfl h2 trivial
                  have G : act.tmps[10]?.getD undef = _ ∧ True := ho
                  obtain ⟨g10, -⟩ := G
                  clear ho hf hu
                  go_simp
                  exact hK _ (Eq.refl _)
                refine And.intro (obX_pure (fun _ => Below.refl _ _) ?_) ?_
                · intro act W hR hf ho hu K hK
                  replace hR := ext_drew hR
                  replace hK := fun v h2 => hK v W rfl h2 trivial
                  have F : act.tmps[48]?.getD undef = _ ∧ True := hf
                  obtain ⟨f0, -⟩ := F
                  clear ho hf hu
                  go_simp
                  exact hK _ (Eq.refl _)
                refine And.intro (obX_pure (fun _ => Below.refl _ _) ?_) ?_
                · intro act W hR hf ho hu K hK
                  replace hR := ext_drew hR
                  replace hK := fun v h2 => hK v W rfl h2 trivial
                  have G : act.tmps[0]?.getD undef = _ ∧ True := ho
                  obtain ⟨g0, -⟩ := G
                  have F : act.tmps[49]?.getD undef = _ ∧ True := hf
                  obtain ⟨f1, -⟩ := F
                  clear ho hf hu
                  go_simp
                  exact hK _ (Eq.refl _)
                refine And.intro (obX_pure (fun _ => Below.refl _ _) ?_) ?_
                · intro act W hR hf ho hu K hK
                  replace hR := ext_drew hR
                  replace hK := fun v h2 => hK v W rfl h2 trivial
                  have G : act.tmps[11]?.getD undef = _ ∧ True := ho
                  obtain ⟨g11, -⟩ := G
                  have F : act.tmps[49]?.getD undef = _ ∧ True := hf
                  obtain ⟨f1, -⟩ := F
                  clear ho hf hu
                  go_simp
                  exact hK _ (Eq.refl _)
                refine And.intro (obX_pure (fun _ => Below.refl _ _) ?_) ?_
                · intro act W hR hf ho hu K hK
                  replace hR := ext_drew hR
                  replace hK := fun v h2 => hK v W rfl h2 trivial
                  have F : act.tmps[50]?.getD undef = _ ∧ act.tmps[51]?.getD undef = _ ∧ act.tmps[49]?.getD undef = _ ∧ True := hf
                  obtain ⟨f2, f3, f1, -⟩ := F
                  clear ho hf hu
                  go_simp
                  exact hK _ (Eq.refl _)
                refine And.intro (obX_pure (fun _ => Below.refl _ _) ?_) ?_
                · intro act W hR hf ho hu K hK
                  replace hR := ext_drew hR
                  replace hK := fun v h2 => hK v W rfl h2 trivial
                  have F : act.tmps[52]?.getD undef = _ ∧ act.tmps[49]?.getD undef = _ ∧ True := hf
                  obtain ⟨f4, f1, -⟩ := F
                  clear ho hf hu
                  go_simp
                  exact hK _ (Eq.refl _)
                refine And.intro (obX_pure (fun _ => Below.refl _ _) ?_) ?_
                · intro act W hR hf ho hu K hK
                  replace hR := ext_drew hR
                  replace hK := fun v h2 => hK v W rfl h2 trivial
                  have F : act.tmps[53]?.getD undef = _ ∧ act.tmps[49]?.getD undef = _ ∧ True := hf
                  obtain ⟨f5, f1, -⟩ := F
                  clear ho hf hu
                  have y0 := ext_cell hR _ _ HX.out.1; have y1 := ext_cell hR _ _ HX.out.2.1; have y2 := ext_cell hR _ _ HX.out.2.2.1; have y3 := ext_cell hR _ _ HX.out.2.2.2.1; have y4 := ext_cell hR _ _ HX.out.2.2.2.2.1; have y5 := ext_cell hR _ _ HX.out.2.2.2.2.2
                  go_simp
                  exact hK _ (Eq.refl _)
                refine And.intro (obX_pure (fun _ => Below.refl _ _) ?_) ?_
                · intro act W hR hf ho hu K hK
                  replace hR := ext_drew hR
                  replace hK := fun v h2 => hK v W rfl h2 trivial
                  have F : act.tmps[54]?.getD undef = _ ∧ act.tmps[49]?.getD undef = _ ∧ act.tmps[49]?.getD undef = _ ∧ True := hf
                  obtain ⟨f6, f1, -, -⟩ := F
                  clear ho hf hu
                  go_simp
                  exact hK _ (Eq.refl _)
                refine And.intro (obX_pure (fun _ => Below.refl _ _) ?_) ?_
                · intro act W hR hf ho hu K hK
                  replace hR := ext_drew hR
                  replace hK := fun v h2 => hK v W rfl h2 trivial
                  have G : act.tmps[0]?.getD undef = _ ∧ True := ho
                  obtain ⟨g0, -⟩ := G
                  have F : act.tmps[55]?.getD undef = _ ∧ True := hf
                  obtain ⟨f7, -⟩ := F
                  clear ho hf hu
                  go_simp
                  exact hK _ (Eq.refl _)
                refine And.intro (obX_pure (fun _ => Below.refl _ _) ?_) ?_
                · intro act W hR hf ho hu K hK
                  replace hR := ext_drew hR
                  replace hK := fun v h2 => hK v W rfl h2 trivial
                  have G : act.tmps[11]?.getD undef = _ ∧ True := ho
                  obtain ⟨g11, -⟩ := G
                  have F : act.tmps[55]?.getD undef = _ ∧ True := hf
                  obtain ⟨f7, -⟩ := F
                  clear ho hf hu
                  go_simp
                  exact hK _ (Eq.refl _)
                refine And.intro (obX_pure (fun _ => Below.refl _ _) ?_) ?_
                · intro act W hR hf ho hu K hK
                  replace hR := ext_drew hR
                  replace hK := fun v h2 => hK v W rfl h2 trivial
                  have F : act.tmps[56]?.getD undef = _ ∧ act.tmps[57]?.getD undef = _ ∧ act.tmps[55]?.getD undef = _ ∧ True := hf
                  obtain ⟨f8, f9, f7, -⟩ := F
                  clear ho hf hu
                  go_simp
                  exact hK _ (Eq.refl _)
                refine And.intro (obX_pure (fun _ => Below.refl _ _) ?_) ?_
                · intro act W hR hf ho hu K hK
                  replace hR := ext_drew hR
                  replace hK := fun v h2 => hK v W rfl h2 trivial
                  have F : act.tmps[58]?.getD undef = _ ∧ act.tmps[55]?.getD undef = _ ∧ True := hf
                  obtain ⟨f10, f7, -⟩ := F
                  clear ho hf hu
                  have y0 := ext_cell hR _ _ HX.out.1; have y1 := ext_cell hR _ _ HX.out.2.1; have y2 := ext_cell hR _ _ HX.out.2.2.1; have y3 := ext_cell hR _ _ HX.out.2.2.2.1; have y4 := ext_cell hR _ _ HX.out.2.2.2.2.1; have y5 := ext_cell hR _ _ HX.out.2.2.2.2.2
                  go_simp
                  exact hK _ (Eq.refl _)
                refine And.intro (obX_eff (Ext) (fun _ _ h => h) (trivial) ?_) ?_
                · intro act W hR hf ho hu K hK
                  replace hR := ext_drew hR
                  replace hK := fun v (w' : World) (h1 : (Ext) W w') h2 => hK v w' h1 h2 trivial
                  have F : act.tmps[59]?.getD undef = _ ∧ act.tmps[55]?.getD undef = _ ∧ act.tmps[55]?.getD undef = _ ∧ True := hf
                  obtain ⟨f11, f7, -, -⟩ := F
                  clear ho hf hu
                  go_simp
                  exact hK _ _ (Below.refl _ _) (Eq.refl _)
                refine And.intro (obX_pure (fun _ => Below.refl _ _) ?_) ?_
                · intro act W hR hf ho hu K hK
                  replace hR := ext_drew hR
                  replace hK := fun v h2 => hK v W rfl h2 trivial
                  have F : act.tmps[55]?.getD undef = _ ∧ act.tmps[60]?.getD undef = _ ∧ act.tmps[49]?.getD undef = _ ∧ True := hf
                  obtain ⟨f7, f12, f1, -⟩ := F
                  clear ho hf hu
                  go_simp
                  exact hK _ (Eq.refl _)
                refine And.intro (obX_pure (fun _ => Below.refl _ _) ?_) ?_
                · intro act W hR hf ho hu K hK
                  replace hR := ext_drew hR
                  replace hK := fun v h2 => hK v W rfl h2 trivial
                  have F : act.tmps[61]?.getD undef = _ ∧ act.tmps[60]?.getD undef = _ ∧ act.tmps[49]?.getD undef = _ ∧ True := hf
                  obtain ⟨f13, f12, f1, -⟩ := F
                  clear ho hf hu
                  go_simp
                  exact hK _ (Eq.refl _)
                refine And.intro (obX_pure (fun _ => Below.refl _ _) ?_) ?_
                · intro act W hR hf ho hu K hK
                  replace hR := ext_drew hR
                  replace hK := fun v h2 => hK v W rfl h2 trivial
                  have G : act.tmps[5]?.getD undef = _ ∧ True := ho
                  obtain ⟨g5, -⟩ := G
                  have F : act.tmps[62]?.getD undef = _ ∧ True := hf
                  obtain ⟨f14, -⟩ := F
                  clear ho hf hu
                  obtain ⟨z0, z1, z2, z3, z4, z5⟩ := lie6' HCw.out hR
                  go_simp
                  exact hK _ (Eq.refl _)
                refine And.intro (obX_pure (fun _ => Below.refl _ _) ?_) ?_
                · intro act W hR hf ho hu K hK
                  replace hR := ext_drew hR
                  replace hK := fun v h2 => hK v W rfl h2 trivial
                  have G : act.tmps[0]?.getD undef = _ ∧ True := ho
                  obtain ⟨g0, -⟩ := G
                  have F : act.tmps[62]?.getD undef = _ ∧ True := hf
                  obtain ⟨f14, -⟩ := F
                  clear ho hf hu
                  go_simp
                  exact hK _ (Eq.refl _)
                refine And.intro (obX_pure (fun _ => Below.refl _ _) ?_) ?_
                · intro act W hR hf ho hu K hK
                  replace hR := ext_drew hR
                  replace hK := fun v h2 => hK v W rfl h2 trivial
                  have G : act.tmps[11]?.getD undef = _ ∧ True := ho
                  obtain ⟨g11, -⟩ := G
                  have F : act.tmps[62]?.getD undef = _ ∧ True := hf
                  obtain ⟨f14, -⟩ := F
                  clear ho hf hu
                  go_simp
                  exact hK _ (Eq.refl _)
                refine And.intro (obX_pure (fun _ => Below.refl _ _) ?_) ?_
                · intro act W hR hf ho hu K hK
                  replace hR := ext_drew hR
                  replace hK := fun v h2 => hK v W rfl h2 trivial
                  have F : act.tmps[64]?.getD undef = _ ∧ act.tmps[65]?.getD undef = _ ∧ act.tmps[62]?.getD undef = _ ∧ True := hf
                  obtain ⟨f16, f17, f14, -⟩ := F
                  clear ho hf hu
                  go_simp
                  exact hK _ (Eq.refl _)
                refine And.intro (obX_pure (fun _ => Below.refl _ _) ?_) ?_
                · intro act W hR hf ho hu K hK
                  replace hR := ext_drew hR
                  replace hK := fun v h2 => hK v W rfl h2 trivial
                  have F : act.tmps[66]?.getD undef = _ ∧ act.tmps[62]?.getD undef = _ ∧ True := hf
                  obtain ⟨f18, f14, -⟩ := F
                  clear ho hf hu
                  have y0 := ext_cell hR _ _ HX.out.1; have y1 := ext_cell hR _ _ HX.out.2.1; have y2 := ext_cell hR _ _ HX.out.2.2.1; have y3 := ext_cell hR _ _ HX.out.2.2.2.1; have y4 := ext_cell hR _ _ HX.out.2.2.2.2.1; have y5 := ext_cell hR _ _ HX.out.2.2.2.2.2
                  go_simp
                  exact hK _ (Eq.refl _)
                refine And.intro (obX_eff (Ext) (fun _ _ h => h) (trivial) ?_) ?_
                · intro act W hR hf ho hu K hK
                  replace hR := ext_drew hR
                  replace hK := fun v (w' : World) (h1 : (Ext) W w') h2 => hK v w' h1 h2 trivial
                  have F : act.tmps[63]?.getD undef = _ ∧ act.tmps[67]?.getD undef = _ ∧ act.tmps[62]?.getD undef = _ ∧ act.tmps[62]?.getD undef = _ ∧ True := hf
                  obtain ⟨f15, f19, f14, -, -⟩ := F
                  clear ho hf hu
                  go_simp
                  exact hK _ _ (Below.refl _ _) (Eq.refl _)
                refine And.intro (obX_pure (fun _ => Below.refl _ _) ?_) ?_
                · intro act W hR hf ho hu K hK
                  replace hR := ext_drew hR
                  replace hK := fun v h2 => hK v W rfl h2 trivial
                  have F : act.tmps[62]?.getD undef = _ ∧ act.tmps[68]?.getD undef = _ ∧ act.tmps[49]?.getD undef = _ ∧ True := hf
                  obtain ⟨f14, f20, f1, -⟩ := F
                  clear ho hf hu
                  go_simp
                  exact hK _ (Eq.refl _)
                refine And.intro (obX_pure (fun _ => Below.refl _ _) ?_) ?_
                · intro act W hR hf ho hu K hK
                  replace hR := ext_drew hR
                  replace hK := fun v h2 => hK v W rfl h2 trivial
                  have F : act.tmps[49]?.getD undef = _ ∧ act.tmps[69]?.getD undef = _ ∧ True := hf
                  obtain ⟨f1, f21, -⟩ := F
                  clear ho hf hu
                  go_simp
                  exact hK _ (Eq.refl _)
                refine And.intro (obX_pure (fun _ => Below.refl _ _) ?_) ?_
                · intro act W hR hf ho hu K hK
                  replace hR := ext_drew hR
                  replace hK := fun v h2 => hK v W rfl h2 trivial
                  have F : act.tmps[70]?.getD undef = _ ∧ act.tmps[68]?.getD undef = _ ∧ act.tmps[48]?.getD undef = _ ∧ act.tmps[49]?.getD undef = _ ∧ act.tmps[50]?.getD undef = _ ∧ act.tmps[51]?.getD undef = _ ∧ act.tmps[52]?.getD undef = _ ∧ act.tmps[53]?.getD undef = _ ∧ act.tmps[54]?.getD undef = _ ∧ act.tmps[55]?.getD undef = _ ∧ act.tmps[56]?.getD undef = _ ∧ act.tmps[57]?.getD undef = _ ∧ act.tmps[58]?.getD undef = _ ∧ act.tmps[59]?.getD undef = _ ∧ act.tmps[60]?.getD undef = _ ∧ act.tmps[61]?.getD undef = _ ∧ act.tmps[62]?.getD undef = _ ∧ act.tmps[63]?.getD undef = _ ∧ act.tmps[64]?.getD undef = _ ∧ act.tmps[65]?.getD undef = _ ∧ act.tmps[66]?.getD undef = _ ∧ act.tmps[67]?.getD undef = _ ∧ act.tmps[68]?.getD undef = _ ∧ act.tmps[69]?.getD undef = _ ∧ act.tmps[70]?.getD undef = _ ∧ True := hf
                  obtain ⟨f22, f20, f0, f1, f2, f3, f4, f5, f6, f7, f8, f9, f10, f11, f12, f13, f14, f15, f16, f17, f18, f19, -, f21, -, -⟩ := F
                  clear ho hf hu
                  go_simp
                  exact hK _ (Eq.refl _)
                exact trivial
              case stab =>
                refine And.intro is_stable ?_
                refine And.intro is_stable ?_
                refine And.intro is_stable ?_
                refine And.intro is_stable ?_
                refine And.intro is_stable ?_
                refine And.intro is_stable ?_
                refine And.intro is_stable ?_
                refine And.intro is_stable ?_
                refine And.intro is_stable ?_
                refine And.intro is_stable ?_
                refine And.intro is_stable ?_
                refine And.intro is_stable ?_
                refine And.intro is_stable ?_
                refine And.intro is_stable ?_
                refine And.intro is_stable ?_
                refine And.intro is_stable ?_
                refine And.intro is_stable ?_
                refine And.intro is_stable ?_
                refine And.intro is_stable ?_
                refine And.intro is_stable ?_
                refine And.intro is_stable ?_
                refine And.intro is_stable ?_
                refine And.intro is_stable ?_
                refine And.intro is_stable ?_
                exact trivial
              case ends =>
                intro vals W hR hE hall
                replace hR := ext_drew hR
                clear hE
                have e10 : vals 10 = _ := hall 23 (by decide)
                clear hall
                simp only [fill, List.setIfInBounds_toArray, List.set_cons_succ, List.set_cons_zero, e10]
                go_wp2_with fail
                exact ⟨⟨k + 1, by omega, by rw [HF.out]; rfl, by rfl, Lib.hid (hE.out.then (Ext.then (by repeat first | (with_reducible exact Below.refl _ _) | (with_reducible apply Ext.alloc) | (with_reducible apply Ext.drew) | (with_reducible apply Ext.drewN) | (with_reducible refine Ext.set ?_ (by simp)) | (with_reducible refine Ext.then ?_ hR)) (Below.refl _ _)))⟩, by simp [intOf]; omega⟩
            | true =>
              cases hr : rightC ⟨true, xb, xt, xa, xp, xy⟩ with
              | false =>
                rw [hr] at hs HRt
                have HF := Lib.hid hs
                have HX := Lib.hid (And.intro x0 (And.intro x1 (And.intro x2 (And.intro x3 (And.intro x4 x5)))))
                clear x0 x1 x2 x3 x4 x5 hs hr
                go_wp2_with fail
                refine wp_region_res (Ext) [] [] [⟨[], []⟩, ⟨[], []⟩, ⟨[], []⟩, ⟨[], []⟩, ⟨[], []⟩, ⟨[], []⟩, ⟨[], []⟩, ⟨[], []⟩, ⟨[], []⟩, ⟨[], []⟩, ⟨[], []⟩, ⟨[], []⟩, ⟨[], []⟩, ⟨[], []⟩, ⟨[], []⟩, ⟨[], []⟩, ⟨[], []⟩, ⟨[], []⟩, ⟨[], []⟩, ⟨[], []⟩, ⟨[], []⟩, ⟨[], []⟩, ⟨[], []⟩, ⟨[], []⟩] [48, 49, 50, 51, 52, 53, 54, 55, 56, 57, 58, 59, 60, 61, 62, 63, 64, 65, 66, 67, 68, 69, 70, 10] (by kernel_rfl) (fun _ => Below.refl _ _) (fun _ _ _ => Ext.then) (by kernel_rfl) (by kernel_rfl) (by kernel_rfl) (by kernel_rfl) (by kernel_rfl) ?start ?_
                case start =>
                  exact trivial
                apply ex_is; apply Exists.intro
                apply ex_is; apply Exists.intro
                apply ex_is; apply Exists.intro
                apply ex_is; apply Exists.intro
                apply ex_is; apply Exists.intro
                apply ex_is; apply Exists.intro
                apply ex_is; apply Exists.intro
                apply ex_is; apply Exists.intro
                apply ex_is; apply Exists.intro
                apply ex_is; apply Exists.intro
                apply ex_is; apply Exists.intro
                apply ex_is; apply Exists.intro
                apply ex_is; apply Exists.intro
                apply ex_is; apply Exists.intro
                apply ex_is; apply Exists.intro
                apply ex_is; apply Exists.intro
                apply ex_is; apply Exists.intro
                apply ex_is; apply Exists.intro
                apply ex_is; apply Exists.intro
                apply ex_is; apply Exists.intro
                apply ex_is; apply Exists.intro
                apply ex_is; apply Exists.intro
                apply ex_is; apply Exists.intro
                apply ex_is; apply Exists.intro
                refine ⟨[], ⟨?steps, ?stab, ?ends⟩⟩
                case steps =>
                  refine And.intro (obX_pure (fun _ => Below.refl _ _) ?_) ?_
                  · intro act W hR hf ho hu K hK
                    replace hR := ext_drew hR
                    replace hK := fun v h2 => hK v W rfl h2 trivial
                    have G : act.tmps[10]?.getD undef = _ ∧ True := ho
                    obtain ⟨g10, -⟩ := G
                    clear ho hf hu
                    go_simp
                    exact hK _ (Eq.refl _)
                  refine And.intro (obX_pure (fun _ => Below.refl _ _) ?_) ?_
                  · intro act W hR hf ho hu K hK
                    replace hR := ext_drew hR
                    replace hK := fun v h2 => hK v W rfl h2 trivial
                    have F : act.tmps[48]?.getD undef = _ ∧ True := hf
                    obtain ⟨f0, -⟩ := F
                    clear ho hf hu
                    go_simp
                    exact hK _ (Eq.refl _)
                  refine And.intro (obX_pure (fun _ => Below.refl _ _) ?_) ?_
                  · intro act W hR hf ho hu K hK
                    replace hR := ext_drew hR
                    replace hK := fun v h2 => hK v W rfl h2 trivial
                    have G : act.tmps[0]?.getD undef = _ ∧ True := ho
                    obtain ⟨g0, -⟩ := G
                    have F : act.tmps[49]?.getD undef = _ ∧ True := hf
                    obtain ⟨f1, -⟩ := F
                    clear ho hf hu
                    go_simp
                    exact hK _ (Eq.refl _)
                  refine And.intro (obX_pure (fun _ => Below.refl _ _) ?_) ?_
                  · intro act W hR hf ho hu K hK
                    replace hR := ext_drew hR
                    replace hK := fun v h2 => hK v W rfl h2 trivial
                    have G : act.tmps[11]?.getD undef = _ ∧ True := ho
                    obtain ⟨g11, -⟩ := G
                    have F : act.tmps[49]?.getD undef = _ ∧ True := hf
                    obtain ⟨f1, -⟩ := F
                    clear ho hf hu
                    go_simp
                    exact hK _ (Eq.refl _)
                  refine And.intro (obX_pure (fun _ => Below.refl _ _) ?_) ?_
                  · intro act W hR hf ho hu K hK
                    replace hR := ext_drew hR
                    replace hK := fun v h2 => hK v W rfl h2 trivial
                    have F : act.tmps[50]?.getD undef = _ ∧ act.tmps[51]?.getD undef = _ ∧ act.tmps[49]?.getD undef = _ ∧ True := hf
                    obtain ⟨f2, f3, f1, -⟩ := F
                    clear ho hf hu
                    go_simp
                    exact hK _ (Eq.refl _)
                  refine And.intro (obX_pure (fun _ => Below.refl _ _) ?_) ?_
                  · intro act W hR hf ho hu K hK
                    replace hR := ext_drew hR
                    replace hK := fun v h2 => hK v W rfl h2 trivial
                    have F : act.tmps[52]?.getD undef = _ ∧ act.tmps[49]?.getD undef = _ ∧ True := hf
                    obtain ⟨f4, f1, -⟩ := F
                    clear ho hf hu
                    go_simp
                    exact hK _ (Eq.refl _)
                  refine And.intro (obX_pure (fun _ => Below.refl _ _) ?_) ?_
                  · intro act W hR hf ho hu K hK
                    replace hR := ext_drew hR
                    replace hK := fun v h2 => hK v W rfl h2 trivial
                    have F : act.tmps[53]?.getD undef = _ ∧ act.tmps[49]?.getD undef = _ ∧ True := hf
                    obtain ⟨f5, f1, -⟩ := F
                    clear ho hf hu
                    have y0 := ext_cell hR _ _ HX.out.1; have y1 := ext_cell hR _ _ HX.out.2.1; have y2 := ext_cell hR _ _ HX.out.2.2.1; have y3 := ext_cell hR _ _ HX.out.2.2.2.1; have y4 := ext_cell hR _ _ HX.out.2.2.2.2.1; have y5 := ext_cell hR _ _ HX.out.2.2.2.2.2
                    go_simp
                    exact hK _ (Eq.refl _)
                  refine And.intro (obX_pure (fun _ => Below.refl _ _) ?_) ?_
                  · intro act W hR hf ho hu K hK
                    replace hR := ext_drew hR
                    replace hK := fun v h2 => hK v W rfl h2 trivial
                    have F : act.tmps[54]?.getD undef = _ ∧ act.tmps[49]?.getD undef = _ ∧ act.tmps[49]?.getD undef = _ ∧ True := hf
                    obtain ⟨f6, f1, -, -⟩ := F
                    clear ho hf hu
                    go_simp
                    exact hK _ (Eq.refl _)
                  refine And.intro (obX_pure (fun _ => Below.refl _ _) ?_) ?_
                  · intro act W hR hf ho hu K hK
                    replace hR := ext_drew hR
                    replace hK := fun v h2 => hK v W rfl h2 trivial
                    have G : act.tmps[0]?.getD undef = _ ∧ True := ho
                    obtain ⟨g0, -⟩ := G
                    have F : act.tmps[55]?.getD undef = _ ∧ True := hf
                    obtain ⟨f7, -⟩ := F
                    clear ho hf hu
                    go_simp
                    exact hK _ (Eq.refl _)
                  refine And.intro (obX_pure (fun _ => Below.refl _ _) ?_) ?_
                  · intro act W hR hf ho hu K hK
                    replace hR := ext_drew hR
                    replace hK := fun v h2 => hK v W rfl h2 trivial
                    have G : act.tmps[11]?.getD undef = _ ∧ True := ho
                    obtain ⟨g11, -⟩ := G
                    have F : act.tmps[55]?.getD undef = _ ∧ True := hf
                    obtain ⟨f7, -⟩ := F
                    clear ho hf hu
                    go_simp
                    exact hK _ (Eq.refl _)
                  refine And.intro (obX_pure (fun _ => Below.refl _ _) ?_) ?_
                  · intro act W hR hf ho hu K hK
                    replace hR := ext_drew hR
                    replace hK := fun v h2 => hK v W rfl h2 trivial
                    have F : act.tmps[56]?.getD undef = _ ∧ act.tmps[57]?.getD undef = _ ∧ act.tmps[55]?.getD undef = _ ∧ True := hf
                    obtain ⟨f8, f9, f7, -⟩ := F
                    clear ho hf hu
                    go_simp
                    exact hK _ (Eq.refl _)
                  refine And.intro (obX_pure (fun _ => Below.refl _ _) ?_) ?_
                  · intro act W hR hf ho hu K hK
                    replace hR := ext_drew hR
                    replace hK := fun v h2 => hK v W rfl h2 trivial
                    have F : act.tmps[58]?.getD undef = _ ∧ act.tmps[55]?.getD undef = _ ∧ True := hf
                    obtain ⟨f10, f7, -⟩ := F
                    clear ho hf hu
                    have y0 := ext_cell hR _ _ HX.out.1; have y1 := ext_cell hR _ _ HX.out.2.1; have y2 := ext_cell hR _ _ HX.out.2.2.1; have y3 := ext_cell hR _ _ HX.out.2.2.2.1; have y4 := ext_cell hR _ _ HX.out.2.2.2.2.1; have y5 := ext_cell hR _ _ HX.out.2.2.2.2.2
                    go_simp
                    exact hK _ (Eq.refl _)
                  refine And.intro (obX_eff (Ext) (fun _ _ h => h) (trivial) ?_) ?_
                  · intro act W hR hf ho hu K hK
                    replace hR := ext_drew hR
                    replace hK := fun v (w' : World) (h1 : (Ext) W w') h2 => hK v w' h1 h2 trivial
                    have F : act.tmps[59]?.getD undef = _ ∧ act.tmps[55]?.getD undef = _ ∧ act.tmps[55]?.getD undef = _ ∧ True := hf
                    obtain ⟨f11, f7, -, -⟩ := F
                    clear ho hf hu
                    go_simp
                    refine (HRt.out _).mono ?_; rintro _ W1 ⟨rfl, hE⟩; exact hK _ _ hE (Eq.refl _)
                  refine And.intro (obX_pure (fun _ => Below.refl _ _) ?_) ?_
                  · intro act W hR hf ho hu K hK
                    replace hR := ext_drew hR
                    replace hK := fun v h2 => hK v W rfl h2 trivial
                    have F : act.tmps[55]?.getD undef = _ ∧ act.tmps[60]?.getD undef = _ ∧ act.tmps[49]?.getD undef = _ ∧ True := hf
                    obtain ⟨f7, f12, f1, -⟩ := F
                    clear ho hf hu
                    go_simp
                    exact hK _ (Eq.refl _)
                  refine And.intro (obX_pure (fun _ => Below.refl _ _) ?_) ?_
                  · intro act W hR hf ho hu K hK
                    replace hR := ext_drew hR
                    replace hK := fun v h2 => hK v W rfl h2 trivial
                    have F : act.tmps[61]?.getD undef = _ ∧ act.tmps[60]?.getD undef = _ ∧ act.tmps[49]?.getD undef = _ ∧ True := hf
                    obtain ⟨f13, f12, f1, -⟩ := F
                    clear ho hf hu
                    go_simp
                    exact hK _ (Eq.refl _)
                  refine And.intro (obX_pure (fun _ => Below.refl _ _) ?_) ?_
                  · intro act W hR hf ho hu K hK
                    replace hR := ext_drew hR
                    replace hK := fun v h2 => hK v W rfl h2 trivial
                    have G : act.tmps[5]?.getD undef = _ ∧ True := ho
                    obtain ⟨g5, -⟩ := G
                    have F : act.tmps[62]?.getD undef = _ ∧ True := hf
                    obtain ⟨f14, -⟩ := F
                    clear ho hf hu
                    obtain ⟨z0, z1, z2, z3, z4, z5⟩ := lie6' HCw.out hR
                    go_simp
                    exact hK _ (Eq.refl _)
                  refine And.intro (obX_pure (fun _ => Below.refl _ _) ?_) ?_
                  · intro act W hR hf ho hu K hK
                    replace hR := ext_drew hR
                    replace hK := fun v h2 => hK v W rfl h2 trivial
                    have G : act.tmps[0]?.getD undef = _ ∧ True := ho
                    obtain ⟨g0, -⟩ := G
                    have F : act.tmps[62]?.getD undef = _ ∧ True := hf
                    obtain ⟨f14, -⟩ := F
                    clear ho hf hu
                    go_simp
                    exact hK _ (Eq.refl _)
                  refine And.intro (obX_pure (fun _ => Below.refl _ _) ?_) ?_
                  · intro act W hR hf ho hu K hK
                    replace hR := ext_drew hR
                    replace hK := fun v h2 => hK v W rfl h2 trivial
                    have G : act.tmps[11]?.getD undef = _ ∧ True := ho
                    obtain ⟨g11, -⟩ := G
                    have F : act.tmps[62]?.getD undef = _ ∧ True := hf
                    obtain ⟨f14, -⟩ := F
                    clear ho hf hu
                    go_simp
                    exact hK _ (Eq.refl _)
                  refine And.intro (obX_pure (fun _ => Below.refl _ _) ?_) ?_
                  · intro act W hR hf ho hu K hK
                    replace hR := ext_drew hR
                    replace hK := fun v h2 => hK v W rfl h2 trivial
                    have F : act.tmps[64]?.getD undef = _ ∧ act.tmps[65]?.getD undef = _ ∧ act.tmps[62]?.getD undef = _ ∧ True := hf
                    obtain ⟨f16, f17, f14, -⟩ := F
                    clear ho hf hu
                    go_simp
                    exact hK _ (Eq.refl _)
                  refine And.intro (obX_pure (fun _ => Below.refl _ _) ?_) ?_
                  · intro act W hR hf ho hu K hK
                    replace hR := ext_drew hR
                    replace hK := fun v h2 => hK v W rfl h2 trivial
                    have F : act.tmps[66]?.getD undef = _ ∧ act.tmps[62]?.getD undef = _ ∧ True := hf
                    obtain ⟨f18, f14, -⟩ := F
                    clear ho hf hu
                    have y0 := ext_cell hR _ _ HX.out.1; have y1 := ext_cell hR _ _ HX.out.2.1; have y2 := ext_cell hR _ _ HX.out.2.2.1; have y3 := ext_cell hR _ _ HX.out.2.2.2.1; have y4 := ext_cell hR _ _ HX.out.2.2.2.2.1; have y5 := ext_cell hR _ _ HX.out.2.2.2.2.2
                    go_simp
                    exact hK _ (Eq.refl _)
                  refine And.intro (obX_eff (Ext) (fun _ _ h => h) (trivial) ?_) ?_
                  · intro act W hR hf ho hu K hK
                    replace hR := ext_drew hR
                    replace hK := fun v (w' : World) (h1 : (Ext) W w') h2 => hK v w' h1 h2 trivial
                    have F : act.tmps[63]?.getD undef = _ ∧ act.tmps[67]?.getD undef = _ ∧ act.tmps[62]?.getD undef = _ ∧ act.tmps[62]?.getD undef = _ ∧ True := hf
                    obtain ⟨f15, f19, f14, -, -⟩ := F
                    clear ho hf hu
                    go_simp
                    exact hK _ _ (Below.refl _ _) (Eq.refl _)
                  refine And.intro (obX_pure (fun _ => Below.refl _ _) ?_) ?_
                  · intro act W hR hf ho hu K hK
                    replace hR := ext_drew hR
                    replace hK := fun v h2 => hK v W rfl h2 trivial
                    have F : act.tmps[62]?.getD undef = _ ∧ act.tmps[68]?.getD undef = _ ∧ act.tmps[49]?.getD undef = _ ∧ True := hf
                    obtain ⟨f14, f20, f1, -⟩ := F
                    clear ho hf hu
                    go_simp
                    exact hK _ (Eq.refl _)
                  refine And.intro (obX_pure (fun _ => Below.refl _ _) ?_) ?_
                  · intro act W hR hf ho hu K hK
                    replace hR := ext_drew hR
                    replace hK := fun v h2 => hK v W rfl h2 trivial
                    have F : act.tmps[49]?.getD undef = _ ∧ act.tmps[69]?.getD undef = _ ∧ True := hf
                    obtain ⟨f1, f21, -⟩ := F
                    clear ho hf hu
                    go_simp
                    exact hK _ (Eq.refl _)
                  refine And.intro (obX_pure (fun _ => Below.refl _ _) ?_) ?_
                  · intro act W hR hf ho hu K hK
                    replace hR := ext_drew hR
                    replace hK := fun v h2 => hK v W rfl h2 trivial
                    have F : act.tmps[70]?.getD undef = _ ∧ act.tmps[68]?.getD undef = _ ∧ act.tmps[48]?.getD undef = _ ∧ act.tmps[49]?.getD undef = _ ∧ act.tmps[50]?.getD undef = _ ∧ act.tmps[51]?.getD undef = _ ∧ act.tmps[52]?.getD undef = _ ∧ act.tmps[53]?.getD undef = _ ∧ act.tmps[54]?.getD undef = _ ∧ act.tmps[55]?.getD undef = _ ∧ act.tmps[56]?.getD undef = _ ∧ act.tmps[57]?.getD undef = _ ∧ act.tmps[58]?.getD undef = _ ∧ act.tmps[59]?.getD undef = _ ∧ act.tmps[60]?.getD undef = _ ∧ act.tmps[61]?.getD undef = _ ∧ act.tmps[62]?.getD undef = _ ∧ act.tmps[63]?.getD undef = _ ∧ act.tmps[64]?.getD undef = _ ∧ act.tmps[65]?.getD undef = _ ∧ act.tmps[66]?.getD undef = _ ∧ act.tmps[67]?.getD undef = _ ∧ act.tmps[68]?.getD undef = _ ∧ act.tmps[69]?.getD undef = _ ∧ act.tmps[70]?.getD undef = _ ∧ True := hf
                    obtain ⟨f22, f20, f0, f1, f2, f3, f4, f5, f6, f7, f8, f9, f10, f11, f12, f13, f14, f15, f16, f17, f18, f19, -, f21, -, -⟩ := F
                    clear ho hf hu
                    go_simp
                    exact hK _ (Eq.refl _)
                  exact trivial
                case stab =>
                  refine And.intro is_stable ?_
                  refine And.intro is_stable ?_
                  refine And.intro is_stable ?_
                  refine And.intro is_stable ?_
                  refine And.intro is_stable ?_
                  refine And.intro is_stable ?_
                  refine And.intro is_stable ?_
                  refine And.intro is_stable ?_
                  refine And.intro is_stable ?_
                  refine And.intro is_stable ?_
                  refine And.intro is_stable ?_
                  refine And.intro is_stable ?_
                  refine And.intro is_stable ?_
                  refine And.intro is_stable ?_
                  refine And.intro is_stable ?_
                  refine And.intro is_stable ?_
                  refine And.intro is_stable ?_
                  refine And.intro is_stable ?_
                  refine And.intro is_stable ?_
                  refine And.intro is_stable ?_
                  refine And.intro is_stable ?_
                  refine And.intro is_stable ?_
                  refine And.intro is_stable ?_
                  refine And.intro is_stable ?_
                  exact trivial
                case ends =>
                  intro vals W hR hE hall
                  replace hR := ext_drew hR
                  clear hE
                  have e10 : vals 10 = _ := hall 23 (by decide)
                  clear hall
                  simp only [fill, List.setIfInBounds_toArray, List.set_cons_succ, List.set_cons_zero, e10]
                  go_wp2_with fail
                  exact ⟨⟨k + 1, by omega, by rw [HF.out]; rfl, by rfl, Lib.hid (hE.out.then (Ext.then (by repeat first | (with_reducible exact Below.refl _ _) | (with_reducible apply Ext.alloc) | (with_reducible apply Ext.drew) | (with_reducible apply Ext.drewN) | (with_reducible refine Ext.set ?_ (by simp)) | (with_reducible refine Ext.then ?_ hR)) (Below.refl _ _)))⟩, by simp [intOf]; omega⟩
              | true =>
                rw [hr] at hs HRt
                have HF := Lib.hid hs
                have HX := Lib.hid (And.intro x0 (And.intro x1 (And.intro x2 (And.intro x3 (And.intro x4 x5)))))
                obtain ⟨u, hu⟩ : ∃ u, u = underC c ⟨true, xb, xt, xa, xp, xy⟩ := ⟨_, rfl⟩
                rw [← hu] at HUn HF
                clear x0 x1 x2 x3 x4 x5 hs hr hu
                go_wp2_with fail
                refine wp_region_res (Ext) [] [] [⟨[], []⟩, ⟨[], []⟩, ⟨[], []⟩, ⟨[], []⟩, ⟨[], []⟩, ⟨[], []⟩, ⟨[], []⟩, ⟨[], []⟩, ⟨[], []⟩, ⟨[], []⟩, ⟨[], []⟩, ⟨[], []⟩, ⟨[], []⟩, ⟨[], []⟩, ⟨[], []⟩, ⟨[], []⟩, ⟨[], []⟩, ⟨[], []⟩, ⟨[], []⟩, ⟨[], []⟩, ⟨[], []⟩, ⟨[], []⟩, ⟨[], []⟩, ⟨[], []⟩] [48, 49, 50, 51, 52, 53, 54, 55, 56, 57, 58, 59, 60, 61, 62, 63, 64, 65, 66, 67, 68, 69, 70, 10] (by kernel_rfl) (fun _ => Below.refl _ _) (fun _ _ _ => Ext.then) (by kernel_rfl) (by kernel_rfl) (by kernel_rfl) (by kernel_rfl) (by kernel_rfl) ?start ?_
                case start =>
                  exact trivial
                apply ex_is; apply Exists.intro
                apply ex_is; apply Exists.intro
                apply ex_is; apply Exists.intro
                apply ex_is; apply Exists.intro
                apply ex_is; apply Exists.intro
                apply ex_is; apply Exists.intro
                apply ex_is; apply Exists.intro
                apply ex_is; apply Exists.intro
                apply ex_is; apply Exists.intro
                apply ex_is; apply Exists.intro
                apply ex_is; apply Exists.intro
                apply ex_is; apply Exists.intro
                apply ex_is; apply Exists.intro
                apply ex_is; apply Exists.intro
                apply ex_is; apply Exists.intro
                apply ex_is; apply Exists.intro
                apply ex_is; apply Exists.intro
                apply ex_is; apply Exists.intro
                apply ex_is; apply Exists.intro
                apply ex_is; apply Exists.intro
                apply ex_is; apply Exists.intro
                apply ex_is; apply Exists.intro
                apply ex_is; apply Exists.intro
                apply ex_is; apply Exists.intro
                refine ⟨[], ⟨?steps, ?stab, ?ends⟩⟩
                case steps =>
                  refine And.intro (obX_pure (fun _ => Below.refl _ _) ?_) ?_
                  · intro act W hR hf ho hu K hK
                    replace hR := ext_drew hR
                    replace hK := fun v h2 => hK v W rfl h2 trivial
                    have G : act.tmps[10]?.getD undef = _ ∧ True := ho
                    obtain ⟨g10, -⟩ := G
                    clear ho hf hu
                    go_simp
                    exact hK _ (Eq.refl _)
                  refine And.intro (obX_pure (fun _ => Below.refl _ _) ?_) ?_
                  · intro act W hR hf ho hu K hK
                    replace hR := ext_drew hR
                    replace hK := fun v h2 => hK v W rfl h2 trivial
                    have F : act.tmps[48]?.getD undef = _ ∧ True := hf
                    obtain ⟨f0, -⟩ := F
                    clear ho hf hu
                    go_simp
                    exact hK _ (Eq.refl _)
                  refine And.intro (obX_pure (fun _ => Below.refl _ _) ?_) ?_
                  · intro act W hR hf ho hu K hK
                    replace hR := ext_drew hR
                    replace hK := fun v h2 => hK v W rfl h2 trivial
                    have G : act.tmps[0]?.getD undef = _ ∧ True := ho
                    obtain ⟨g0, -⟩ := G
                    have F : act.tmps[49]?.getD undef = _ ∧ True := hf
                    obtain ⟨f1, -⟩ := F
                    clear ho hf hu
                    go_simp
                    exact hK _ (Eq.refl _)
                  refine And.intro (obX_pure (fun _ => Below.refl _ _) ?_) ?_
                  · intro act W hR hf ho hu K hK
                    replace hR := ext_drew hR
                    replace hK := fun v h2 => hK v W rfl h2 trivial
                    have G : act.tmps[11]?.getD undef = _ ∧ True := ho
                    obtain ⟨g11, -⟩ := G
                    have F : act.tmps[49]?.getD undef = _ ∧ True := hf
                    obtain ⟨f1, -⟩ := F
                    clear ho hf hu
                    go_simp
                    exact hK _ (Eq.refl _)
                  refine And.intro (obX_pure (fun _ => Below.refl _ _) ?_) ?_
                  · intro act W hR hf ho hu K hK
                    replace hR := ext_drew hR
                    replace hK := fun v h2 => hK v W rfl h2 trivial
                    have F : act.tmps[50]?.getD undef = _ ∧ act.tmps[51]?.getD undef = _ ∧ act.tmps[49]?.getD undef = _ ∧ True := hf
                    obtain ⟨f2, f3, f1, -⟩ := F
                    clear ho hf hu
                    go_simp
                    exact hK _ (Eq.refl _)
                  refine And.intro (obX_pure (fun _ => Below.refl _ _) ?_) ?_
                  · intro act W hR hf ho hu K hK
                    replace hR := ext_drew hR
                    replace hK := fun v h2 => hK v W rfl h2 trivial
                    have F : act.tmps[52]?.getD undef = _ ∧ act.tmps[49]?.getD undef = _ ∧ True := hf
                    obtain ⟨f4, f1, -⟩ := F
                    clear ho hf hu
                    go_simp
                    exact hK _ (Eq.refl _)
                  refine And.intro (obX_pure (fun _ => Below.refl _ _) ?_) ?_
                  · intro act W hR hf ho hu K hK
                    replace hR := ext_drew hR
                    replace hK := fun v h2 => hK v W rfl h2 trivial
                    have F : act.tmps[53]?.getD undef = _ ∧ act.tmps[49]?.getD undef = _ ∧ True := hf
                    obtain ⟨f5, f1, -⟩ := F
                    clear ho hf hu
                    have y0 := ext_cell hR _ _ HX.out.1; have y1 := ext_cell hR _ _ HX.out.2.1; have y2 := ext_cell hR _ _ HX.out.2.2.1; have y3 := ext_cell hR _ _ HX.out.2.2.2.1; have y4 := ext_cell hR _ _ HX.out.2.2.2.2.1; have y5 := ext_cell hR _ _ HX.out.2.2.2.2.2
                    go_simp
                    exact hK _ (Eq.refl _)
                  refine And.intro (obX_pure (fun _ => Below.refl _ _) ?_) ?_
                  · intro act W hR hf ho hu K hK
                    replace hR := ext_drew hR
                    replace hK := fun v h2 => hK v W rfl h2 trivial
                    have F : act.tmps[54]?.getD undef = _ ∧ act.tmps[49]?.getD undef = _ ∧ act.tmps[49]?.getD undef = _ ∧ True := hf
                    obtain ⟨f6, f1, -, -⟩ := F
                    clear ho hf hu
                    go_simp
                    exact hK _ (Eq.refl _)
                  refine And.intro (obX_pure (fun _ => Below.refl _ _) ?_) ?_
                  · intro act W hR hf ho hu K hK
                    replace hR := ext_drew hR
                    replace hK := fun v h2 => hK v W rfl h2 trivial
                    have G : act.tmps[0]?.getD undef = _ ∧ True := ho
                    obtain ⟨g0, -⟩ := G
                    have F : act.tmps[55]?.getD undef = _ ∧ True := hf
                    obtain ⟨f7, -⟩ := F
                    clear ho hf hu
                    go_simp
                    exact hK _ (Eq.refl _)
                  refine And.intro (obX_pure (fun _ => Below.refl _ _) ?_) ?_
                  · intro act W hR hf ho hu K hK
                    replace hR := ext_drew hR
                    replace hK := fun v h2 => hK v W rfl h2 trivial
                    have G : act.tmps[11]?.getD undef = _ ∧ True := ho
                    obtain ⟨g11, -⟩ := G
                    have F : act.tmps[55]?.getD undef = _ ∧ True := hf
                    obtain ⟨f7, -⟩ := F
                    clear ho hf hu
                    go_simp
                    exact hK _ (Eq.refl _)
                  refine And.intro (obX_pure (fun _ => Below.refl _ _) ?_) ?_
                  · intro act W hR hf ho hu K hK
                    replace hR := ext_drew hR
                    replace hK := fun v h2 => hK v W rfl h2 trivial
                    have F : act.tmps[56]?.getD undef = _ ∧ act.tmps[57]?.getD undef = _ ∧ act.tmps[55]?.getD undef = _ ∧ True := hf
                    obtain ⟨f8, f9, f7, -⟩ := F
                    clear ho hf hu
                    go_simp
                    exact hK _ (Eq.refl _)
                  refine And.intro (obX_pure (fun _ => Below.refl _ _) ?_) ?_
                  · intro act W hR hf ho hu K hK
                    replace hR := ext_drew hR
                    replace hK := fun v h2 => hK v W rfl h2 trivial
                    have F : act.tmps[58]?.getD undef = _ ∧ act.tmps[55]?.getD undef = _ ∧ True := hf
                    obtain ⟨f10, f7, -⟩ := F
                    clear ho hf hu
                    have y0 := ext_cell hR _ _ HX.out.1; have y1 := ext_cell hR _ _ HX.out.2.1; have y2 := ext_cell hR _ _ HX.out.2.2.1; have y3 := ext_cell hR _ _ HX.out.2.2.2.1; have y4 := ext_cell hR _ _ HX.out.2.2.2.2.1; have y5 := ext_cell hR _ _ HX.out.2.2.2.2.2
                    go_simp
                    exact hK _ (Eq.refl _)
                  refine And.intro (obX_eff (Ext) (fun _ _ h => h) (trivial) ?_) ?_
                  · intro act W hR hf ho hu K hK
                    replace hR := ext_drew hR
                    replace hK := fun v (w' : World) (h1 : (Ext) W w') h2 => hK v w' h1 h2 trivial
                    have F : act.tmps[59]?.getD undef = _ ∧ act.tmps[55]?.getD undef = _ ∧ act.tmps[55]?.getD undef = _ ∧ True := hf
                    obtain ⟨f11, f7, -, -⟩ := F
                    clear ho hf hu
                    go_simp
                    refine (HRt.out _).mono ?_; rintro _ W1 ⟨rfl, hE⟩; exact hK _ _ hE (Eq.refl _)
                  refine And.intro (obX_pure (fun _ => Below.refl _ _) ?_) ?_
                  · intro act W hR hf ho hu K hK
                    replace hR := ext_drew hR
                    replace hK := fun v h2 => hK v W rfl h2 trivial
                    have F : act.tmps[55]?.getD undef = _ ∧ act.tmps[60]?.getD undef = _ ∧ act.tmps[49]?.getD undef = _ ∧ True := hf
                    obtain ⟨f7, f12, f1, -⟩ := F
                    clear ho hf hu
                    go_simp
                    exact hK _ (Eq.refl _)
                  refine And.intro (obX_pure (fun _ => Below.refl _ _) ?_) ?_
                  · intro act W hR hf ho hu K hK
                    replace hR := ext_drew hR
                    replace hK := fun v h2 => hK v W rfl h2 trivial
                    have F : act.tmps[61]?.getD undef = _ ∧ act.tmps[60]?.getD undef = _ ∧ act.tmps[49]?.getD undef = _ ∧ True := hf
                    obtain ⟨f13, f12, f1, -⟩ := F
                    clear ho hf hu
                    go_simp
                    exact hK _ (Eq.refl _)
                  refine And.intro (obX_pure (fun _ => Below.refl _ _) ?_) ?_
                  · intro act W hR hf ho hu K hK
                    replace hR := ext_drew hR
                    replace hK := fun v h2 => hK v W rfl h2 trivial
                    have G : act.tmps[5]?.getD undef = _ ∧ True := ho
                    obtain ⟨g5, -⟩ := G
                    have F : act.tmps[62]?.getD undef = _ ∧ True := hf
                    obtain ⟨f14, -⟩ := F
                    clear ho hf hu
                    obtain ⟨z0, z1, z2, z3, z4, z5⟩ := lie6' HCw.out hR
                    go_simp
                    exact hK _ (Eq.refl _)
                  refine And.intro (obX_pure (fun _ => Below.refl _ _) ?_) ?_
                  · intro act W hR hf ho hu K hK
                    replace hR := ext_drew hR
                    replace hK := fun v h2 => hK v W rfl h2 trivial
                    have G : act.tmps[0]?.getD undef = _ ∧ True := ho
                    obtain ⟨g0, -⟩ := G
                    have F : act.tmps[62]?.getD undef = _ ∧ True := hf
                    obtain ⟨f14, -⟩ := F
                    clear ho hf hu
                    go_simp
                    exact hK _ (Eq.refl _)
                  refine And.intro (obX_pure (fun _ => Below.refl _ _) ?_) ?_
                  · intro act W hR hf ho hu K hK
                    replace hR := ext_drew hR
                    replace hK := fun v h2 => hK v W rfl h2 trivial
                    have G : act.tmps[11]?.getD undef = _ ∧ True := ho
                    obtain ⟨g11, -⟩ := G
                    have F : act.tmps[62]?.getD undef = _ ∧ True := hf
                    obtain ⟨f14, -⟩ := F
                    clear ho hf hu
                    go_simp
                    exact hK _ (Eq.refl _)
                  refine And.intro (obX_pure (fun _ => Below.refl _ _) ?_) ?_
                  · intro act W hR hf ho hu K hK
                    replace hR := ext_drew hR
                    replace hK := fun v h2 => hK v W rfl h2 trivial
                    have F : act.tmps[64]?.getD undef = _ ∧ act.tmps[65]?.getD undef = _ ∧ act.tmps[62]?.getD undef = _ ∧ True := hf
                    obtain ⟨f16, f17, f14, -⟩ := F
                    clear ho hf hu
                    go_simp
                    exact hK _ (Eq.refl _)
                  refine And.intro (obX_pure (fun _ => Below.refl _ _) ?_) ?_
                  · intro act W hR hf ho hu K hK
                    replace hR := ext_drew hR
                    replace hK := fun v h2 => hK v W rfl h2 trivial
                    have F : act.tmps[66]?.getD undef = _ ∧ act.tmps[62]?.getD undef = _ ∧ True := hf
                    obtain ⟨f18, f14, -⟩ := F
                    clear ho hf hu
                    have y0 := ext_cell hR _ _ HX.out.1; have y1 := ext_cell hR _ _ HX.out.2.1; have y2 := ext_cell hR _ _ HX.out.2.2.1; have y3 := ext_cell hR _ _ HX.out.2.2.2.1; have y4 := ext_cell hR _ _ HX.out.2.2.2.2.1; have y5 := ext_cell hR _ _ HX.out.2.2.2.2.2
                    go_simp
                    exact hK _ (Eq.refl _)
                  refine And.intro (obX_eff (Ext) (fun _ _ h => h) (trivial) ?_) ?_
                  · intro act W hR hf ho hu K hK
                    replace hR := ext_drew hR
                    replace hK := fun v (w' : World) (h1 : (Ext) W w') h2 => hK v w' h1 h2 trivial
                    have F : act.tmps[63]?.getD undef = _ ∧ act.tmps[67]?.getD undef = _ ∧ act.tmps[62]?.getD undef = _ ∧ act.tmps[62]?.getD undef = _ ∧ True := hf
                    obtain ⟨f15, f19, f14, -, -⟩ := F
                    clear ho hf hu
                    go_simp
                    refine (HUn.out _).mono ?_; rintro _ W1 ⟨rfl, hE⟩; exact hK _ _ hE (Eq.refl _)
                  refine And.intro (obX_pure (fun _ => Below.refl _ _) ?_) ?_
                  · intro act W hR hf ho hu K hK
                    replace hR := ext_drew hR
                    replace hK := fun v h2 => hK v W rfl h2 trivial
                    have F : act.tmps[62]?.getD undef = _ ∧ act.tmps[68]?.getD undef = _ ∧ act.tmps[49]?.getD undef = _ ∧ True := hf
                    obtain ⟨f14, f20, f1, -⟩ := F
                    clear ho hf hu
                    go_simp
                    exact hK _ (Eq.refl _)
                  refine And.intro (obX_pure (fun _ => Below.refl _ _) ?_) ?_
                  · intro act W hR hf ho hu K hK
                    replace hR := ext_drew hR
                    replace hK := fun v h2 => hK v W rfl h2 trivial
                    have F : act.tmps[49]?.getD undef = _ ∧ act.tmps[69]?.getD undef = _ ∧ True := hf
                    obtain ⟨f1, f21, -⟩ := F
                    clear ho hf hu
                    go_simp
                    exact hK _ (Eq.refl _)
                  refine And.intro (obX_pure (fun _ => Below.refl _ _) ?_) ?_
                  · intro act W hR hf ho hu K hK
                    replace hR := ext_drew hR
                    replace hK := fun v h2 => hK v W rfl h2 trivial
                    have F : act.tmps[70]?.getD undef = _ ∧ act.tmps[68]?.getD undef = _ ∧ act.tmps[48]?.getD undef = _ ∧ act.tmps[49]?.getD undef = _ ∧ act.tmps[50]?.getD undef = _ ∧ act.tmps[51]?.getD undef = _ ∧ act.tmps[52]?.getD undef = _ ∧ act.tmps[53]?.getD undef = _ ∧ act.tmps[54]?.getD undef = _ ∧ act.tmps[55]?.getD undef = _ ∧ act.tmps[56]?.getD undef = _ ∧ act.tmps[57]?.getD undef = _ ∧ act.tmps[58]?.getD undef = _ ∧ act.tmps[59]?.getD undef = _ ∧ act.tmps[60]?.getD undef = _ ∧ act.tmps[61]?.getD undef = _ ∧ act.tmps[62]?.getD undef = _ ∧ act.tmps[63]?.getD undef = _ ∧ act.tmps[64]?.getD undef = _ ∧ act.tmps[65]?.getD undef = _ ∧ act.tmps[66]?.getD undef = _ ∧ act.tmps[67]?.getD undef = _ ∧ act.tmps[68]?.getD undef = _ ∧ act.tmps[69]?.getD undef = _ ∧ act.tmps[70]?.getD undef = _ ∧ True := hf
                    obtain ⟨f22, f20, f0, f1, f2, f3, f4, f5, f6, f7, f8, f9, f10, f11, f12, f13, f14, f15, f16, f17, f18, f19, -, f21, -, -⟩ := F
                    clear ho hf hu
                    go_simp
                    exact hK _ (Eq.refl _)
                  exact trivial
                case stab =>
                  refine And.intro is_stable ?_
                  refine And.intro is_stable ?_
                  refine And.intro is_stable ?_
                  refine And.intro is_stable ?_
                  refine And.intro is_stable ?_
                  refine And.intro is_stable ?_
                  refine And.intro is_stable ?_
                  refine And.intro is_stable ?_
                  refine And.intro is_stable ?_
                  refine And.intro is_stable ?_
                  refine And.intro is_stable ?_
                  refine And.intro is_stable ?_
                  refine And.intro is_stable ?_
                  refine And.intro is_stable ?_
                  refine And.intro is_stable ?_
                  refine And.intro is_stable ?_
                  refine And.intro is_stable ?_
                  refine And.intro is_stable ?_
                  refine And.intro is_stable ?_
                  refine And.intro is_stable ?_
                  refine And.intro is_stable ?_
                  refine And.intro is_stable ?_
                  refine And.intro is_stable ?_
                  refine And.intro is_stable ?_
                  exact trivial
                case ends =>
                  intro vals W hR hE hall
                  replace hR := ext_drew hR
                  clear hE
                  have e10 : vals 10 = _ := hall 23 (by decide)
                  clear hall
                  simp only [fill, List.setIfInBounds_toArray, List.set_cons_succ, List.set_cons_zero, e10]
                  go_wp2_with fail
                  exact ⟨⟨k + 1, by omega, by rw [HF.out]; rfl, by rfl, Lib.hid (hE.out.then (Ext.then (by repeat first | (with_reducible exact Below.refl _ _) | (with_reducible apply Ext.alloc) | (with_reducible apply Ext.drew) | (with_reducible apply Ext.drewN) | (with_reducible refine Ext.set ?_ (by simp)) | (with_reducible refine Ext.then ?_ hR)) (Below.refl _ _)))⟩, by simp [intOf]; omega⟩
        · obtain rfl : k = l.length := by omega
          rw [HZ.out]
          obtain ⟨z0, z1, z2, z3, z4, z5⟩ := lie6' HC.out (E6.out.then hE.out)
          have hlt := cell_lt z0
          simp only at hlt
          go_wp2_with fail
          refine (has_set c (S6.out.ext hE.out) HLL.out HW4.out hc).mono ?_
          rintro _ w7 ⟨rfl, hE7⟩
          rw [HB.out]
          go_wp2_with fail
          go_ret
          exact ⟨rfl, (E1.out.then E6.out).then (hE.out.then hE7)⟩
end Go.Proofs.Ytalndcjbnedigaa

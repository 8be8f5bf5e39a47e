
/- Lists of numbers and of capabilities: alike? -/
import Derived.Test.YtalndcjbnedigaaDelC
set_option linter.all false
namespace Go.Proofs.Ytalndcjbnedigaa
open Go.RowKit
attribute [local go_sem] seen dstOf boolOf
attribute [local go_sem high] eqCap

theorem list_ne {α : Type} {a b : List α} {k : Nat} (hk : k < a.length) (hk2 : k < b.length) (h : a[k] ≠ b[k]) : a ≠ b := by
  rintro rfl
  exact h rfl
theorem list_eq {α : Type} {a b : List α} (hl : a.length = b.length) (h : ∀ k (hk : k < a.length) (hk2 : k < b.length), a[k] = b[k]) : a = b := List.ext_getElem hl h
abbrev intCells (l : List Int) : List Value := l.map (Value.int .i64)
theorem int_row {w : World} {A : Option Addr} {l : List Int} (h : Arr w A (intCells l)) {k : Nat} (hk : k < l.length) : ∃ b o, A = some ⟨b, o, none⟩ ∧ b < w.heap.size ∧ w.cell? ⟨b, o + k, none⟩ = some (.int .i64 l[k]) := by
  obtain ⟨b, o, rfl, hb, hc⟩ := h.open (by simp; omega)
  exact ⟨b, o, rfl, hb, by rw [hc k (by simpa using hk)]; simp⟩
set_option maxHeartbeats 2000000 in
theorem sameInts_any (A1 A2 : Option Addr) (c1 c2 : Nat) (a b : List Int) (w : World) (h1 : Arr w A1 (intCells a)) (h2 : Arr w A2 (intCells b)) (ha : a.length ≤ 1000) (hb : b.length ≤ 1000) :
    Calls Try.prog 18 #[.slice A1 a.length c1, .slice A2 b.length c2] w (Tell w (decide (a = b))) := by
  obtain ⟨r, hr⟩ : ∃ r, r = decide (a = b) := ⟨_, rfl⟩
  rw [← hr]
  have HR := Lib.hid hr
  clear hr
  by_cases hl : a.length = b.length
  · have hn : ((a.length : Int) != (b.length : Int)) = false := by rw [hl]; simp
    have HL := Lib.hid hl
    clear hl
    go_enter Try.func18, Try.ntmps18
    go_wp2_with fail
    go_loopw [5] (fun i wr => ∃ k : Nat, k ≤ a.length ∧ i = .int .i64 (k : Int) ∧ Ext w wr ∧ Hid (∀ j (h1 : j < a.length) (h2 : j < b.length), j < k → a[j] = b[j])) (fun i _ => a.length - (intOf i).toNat)
    case atStart => exact ⟨0, Nat.zero_le _, rfl, Below.refl _ _, fun j _ _ hj => by omega⟩
    case round =>
      obtain ⟨k, hk, rfl, hE, hs⟩ := hrel
      by_cases hlt : k < a.length
      · have hlt2 : k < b.length := by rw [← HL.out]; exact hlt
        obtain ⟨b1, o1, rfl, -, x1⟩ := int_row (h1.ext hE) hlt
        obtain ⟨b2, o2, rfl, -, x2⟩ := int_row (h2.ext hE) hlt2
        by_cases he : a[k] = b[k]
        · have hq : (a[k] != b[k]) = false := by rw [he]; simp
          have HE := Lib.hid he
          obtain ⟨x, hx⟩ : ∃ x, x = a[k] := ⟨_, rfl⟩
          obtain ⟨y, hy⟩ : ∃ y, y = b[k] := ⟨_, rfl⟩
          rw [← hx, ← hy] at hq
          rw [← hx] at x1
          rw [← hy] at x2
          have HX := Lib.hid hE
          clear he hx hy hE
          go_wp2_with fail
          refine wp_region_obl Eq [17, 18, 19, 20, 21, 22, 23, 24, 25] (by kernel_rfl) (fun _ => rfl) (fun _ _ _ => Eq.trans) (by kernel_rfl) (by kernel_rfl) ?_
          apply ex_is; apply Exists.intro
          apply ex_is; apply Exists.intro
          apply ex_is; apply Exists.intro
          apply ex_is; apply Exists.intro
          apply ex_is; apply Exists.intro
          apply ex_is; apply Exists.intro
          apply ex_is; apply Exists.intro
          apply ex_is; apply Exists.intro
          apply ex_is; apply Exists.intro
          refine ⟨[], ⟨?steps, ?stab, ?ends⟩⟩
          case steps =>
            refine And.intro ?_ ?_
            · intro a W hR hf ho K hK
              subst hR
              have G : a.tmps[0]?.getD undef = _ ∧ True := ho
              obtain ⟨g0, -⟩ := G
              clear ho hf
              go_simp
              exact hK _ _ (rfl) (Eq.refl _)
            refine And.intro ?_ ?_
            · intro a W hR hf ho K hK
              subst hR
              have G : a.tmps[5]?.getD undef = _ ∧ True := ho
              obtain ⟨g5, -⟩ := G
              clear ho hf
              go_simp
              exact hK _ _ (rfl) (Eq.refl _)
            refine And.intro ?_ ?_
            · intro a W hR hf ho K hK
              subst hR
              have F : a.tmps[17]?.getD undef = _ ∧ a.tmps[18]?.getD undef = _ ∧ True := hf
              obtain ⟨f0, f1, -⟩ := F
              clear ho hf
              go_simp
              exact hK _ _ (rfl) (Eq.refl _)
            refine And.intro ?_ ?_
            · intro a W hR hf ho K hK
              subst hR
              have F : a.tmps[19]?.getD undef = _ ∧ True := hf
              obtain ⟨f2, -⟩ := F
              clear ho hf
              go_simp
              exact hK _ _ (rfl) (Eq.refl _)
            refine And.intro ?_ ?_
            · intro a W hR hf ho K hK
              subst hR
              have G : a.tmps[1]?.getD undef = _ ∧ True := ho
              obtain ⟨g1, -⟩ := G
              clear ho hf
              go_simp
              exact hK _ _ (rfl) (Eq.refl _)
            refine And.intro ?_ ?_
            · intro a W hR hf ho K hK
              subst hR
              have G : a.tmps[5]?.getD undef = _ ∧ True := ho
              obtain ⟨g5, -⟩ := G
              clear ho hf
              go_simp
              exact hK _ _ (rfl) (Eq.refl _)
            refine And.intro ?_ ?_
            · intro a W hR hf ho K hK
              subst hR
              have F : a.tmps[21]?.getD undef = _ ∧ a.tmps[22]?.getD undef = _ ∧ True := hf
              obtain ⟨f4, f5, -⟩ := F
              clear ho hf
              go_simp
              exact hK _ _ (rfl) (Eq.refl _)
            refine And.intro ?_ ?_
            · intro a W hR hf ho K hK
              subst hR
              have F : a.tmps[23]?.getD undef = _ ∧ True := hf
              obtain ⟨f6, -⟩ := F
              clear ho hf
              go_simp
              exact hK _ _ (rfl) (Eq.refl _)
            refine And.intro ?_ ?_
            · intro a W hR hf ho K hK
              subst hR
              have F : a.tmps[20]?.getD undef = _ ∧ a.tmps[24]?.getD undef = _ ∧ True := hf
              obtain ⟨f3, f7, -⟩ := F
              clear ho hf
              go_simp
              exact hK _ _ (rfl) (Eq.refl _)
            exact trivial
          case stab =>
            refine And.intro is_stable ?_
            refine And.intro is_stable ?_
            refine And.intro is_stable ?_
            refine And.intro is_stable ?_
            refine And.intro is_stable ?_
            refine And.intro is_stable ?_
            refine And.intro is_stable ?_
            refine And.intro is_stable ?_
            refine And.intro is_stable ?_
            exact trivial
          case ends =>
            intro vals W hR hall
            subst hR
            have e25 : vals 25 = _ := hall 8 (by decide)
            clear hall
            simp only [fill, List.setIfInBounds_toArray, List.set_cons_succ, List.set_cons_zero, e25]
            go_wp2_with fail
            exact ⟨⟨k + 1, by omega, by simp, (by repeat first | (with_reducible exact Below.refl _ _) | (with_reducible apply Ext.alloc) | (with_reducible apply Ext.drew) | (with_reducible apply Ext.drewN) | (with_reducible refine Ext.set ?_ (by simp)) | (with_reducible refine Ext.then ?_ HX.out)), fun j g1 g2 hj => by rcases Nat.lt_succ_iff_lt_or_eq.1 hj with hj | rfl; exact hs.out j g1 g2 hj; exact HE.out⟩, by simp [intOf]; omega⟩
        · have hr : r = false := by rw [HR.out]; exact decide_eq_false (list_ne hlt hlt2 he)
          subst hr
          have hq : (a[k] != b[k]) = true := bne_iff_ne.2 he
          obtain ⟨x, hx⟩ : ∃ x, x = a[k] := ⟨_, rfl⟩
          obtain ⟨y, hy⟩ : ∃ y, y = b[k] := ⟨_, rfl⟩
          rw [← hx, ← hy] at hq
          rw [← hx] at x1
          rw [← hy] at x2
          have HX := Lib.hid hE
          clear he hx hy hE
          go_wp2_with fail
          refine wp_region_obl Eq [17, 18, 19, 20, 21, 22, 23, 24, 25] (by kernel_rfl) (fun _ => rfl) (fun _ _ _ => Eq.trans) (by kernel_rfl) (by kernel_rfl) ?_
          apply ex_is; apply Exists.intro
          apply ex_is; apply Exists.intro
          apply ex_is; apply Exists.intro
          apply ex_is; apply Exists.intro
          apply ex_is; apply Exists.intro
          apply ex_is; apply Exists.intro
          apply ex_is; apply Exists.intro
          apply ex_is; apply Exists.intro
          apply ex_is; apply Exists.intro
          refine ⟨[], ⟨?steps, ?stab, ?ends⟩⟩
          case steps =>
            refine And.intro ?_ ?_
            · intro a W hR hf ho K hK
              subst hR
              have G : a.tmps[0]?.getD undef = _ ∧ True := ho
              obtain ⟨g0, -⟩ := G
              clear ho hf
              go_simp
              exact hK _ _ (rfl) (Eq.refl _)
            refine And.intro ?_ ?_
            · intro a W hR hf ho K hK
              subst hR
              have G : a.tmps[5]?.getD undef = _ ∧ True := ho
              obtain ⟨g5, -⟩ := G
              clear ho hf
              go_simp
              exact hK _ _ (rfl) (Eq.refl _)
            refine And.intro ?_ ?_
            · intro a W hR hf ho K hK
              subst hR
              have F : a.tmps[17]?.getD undef = _ ∧ a.tmps[18]?.getD undef = _ ∧ True := hf
              obtain ⟨f0, f1, -⟩ := F
              clear ho hf
              go_simp
              exact hK _ _ (rfl) (Eq.refl _)
            refine And.intro ?_ ?_
            · intro a W hR hf ho K hK
              subst hR
              have F : a.tmps[19]?.getD undef = _ ∧ True := hf
              obtain ⟨f2, -⟩ := F
              clear ho hf
              go_simp
              exact hK _ _ (rfl) (Eq.refl _)
            refine And.intro ?_ ?_
            · intro a W hR hf ho K hK
              subst hR
              have G : a.tmps[1]?.getD undef = _ ∧ True := ho
              obtain ⟨g1, -⟩ := G
              clear ho hf
              go_simp
              exact hK _ _ (rfl) (Eq.refl _)
            refine And.intro ?_ ?_
            · intro a W hR hf ho K hK
              subst hR
              have G : a.tmps[5]?.getD undef = _ ∧ True := ho
              obtain ⟨g5, -⟩ := G
              clear ho hf
              go_simp
              exact hK _ _ (rfl) (Eq.refl _)
            refine And.intro ?_ ?_
            · intro a W hR hf ho K hK
              subst hR
              have F : a.tmps[21]?.getD undef = _ ∧ a.tmps[22]?.getD undef = _ ∧ True := hf
              obtain ⟨f4, f5, -⟩ := F
              clear ho hf
              go_simp
              exact hK _ _ (rfl) (Eq.refl _)
            refine And.intro ?_ ?_
            · intro a W hR hf ho K hK
              subst hR
              have F : a.tmps[23]?.getD undef = _ ∧ True := hf
              obtain ⟨f6, -⟩ := F
              clear ho hf
              go_simp
              exact hK _ _ (rfl) (Eq.refl _)
            refine And.intro ?_ ?_
            · intro a W hR hf ho K hK
              subst hR
              have F : a.tmps[20]?.getD undef = _ ∧ a.tmps[24]?.getD undef = _ ∧ True := hf
              obtain ⟨f3, f7, -⟩ := F
              clear ho hf
              go_simp
              exact hK _ _ (rfl) (Eq.refl _)
            exact trivial
          case stab =>
            refine And.intro is_stable ?_
            refine And.intro is_stable ?_
            refine And.intro is_stable ?_
            refine And.intro is_stable ?_
            refine And.intro is_stable ?_
            refine And.intro is_stable ?_
            refine And.intro is_stable ?_
            refine And.intro is_stable ?_
            refine And.intro is_stable ?_
            exact trivial
          case ends =>
            intro vals W hR hall
            subst hR
            have e25 : vals 25 = _ := hall 8 (by decide)
            clear hall
            simp only [fill, List.setIfInBounds_toArray, List.set_cons_succ, List.set_cons_zero, e25]
            go_wp2_with fail
            go_ret
            exact ⟨rfl, (by repeat first | (with_reducible exact Below.refl _ _) | (with_reducible apply Ext.alloc) | (with_reducible apply Ext.drew) | (with_reducible apply Ext.drewN) | (with_reducible refine Ext.set ?_ (by simp)) | (with_reducible refine Ext.then ?_ HX.out))⟩
      · obtain rfl : k = a.length := by omega
        have hr : r = true := by rw [HR.out]; exact decide_eq_true (list_eq HL.out fun k g1 g2 => hs.out k g1 g2 g1)
        subst hr
        go_wp2_with fail
        go_ret
        exact ⟨rfl, hE⟩
  · have hn : ((a.length : Int) != (b.length : Int)) = true := by rw [bne_iff_ne]; omega
    have hr : r = false := by rw [HR.out]; exact decide_eq_false (fun e => hl (by rw [e]))
    subst hr
    clear hl
    go_enter Try.func18, Try.ntmps18
    go_wp2_with fail
    go_ret
    exact ⟨rfl, Below.refl _ _⟩
set_option maxHeartbeats 4000000 in
theorem same_any (A1 A2 : Option Addr) (c1 c2 : Nat) (a b : List Cap) (w : World) (h1 : Arr w A1 (capCells a)) (h2 : Arr w A2 (capCells b)) (ha : a.length ≤ 1000) (hb : b.length ≤ 1000) :
    Calls Try.prog 15 #[.slice A1 a.length c1, .slice A2 b.length c2] w (Tell w (decide (a = b))) := by
  obtain ⟨r, hr⟩ : ∃ r, r = decide (a = b) := ⟨_, rfl⟩
  rw [← hr]
  have HR := Lib.hid hr
  clear hr
  by_cases hl : a.length = b.length
  · have hn : ((a.length : Int) != (b.length : Int)) = false := by rw [hl]; simp
    have HL := Lib.hid hl
    clear hl
    go_enter Try.func15, Try.ntmps15
    go_wp2_with fail
    go_loopw [5] (fun i wr => ∃ k : Nat, k ≤ a.length ∧ i = .int .i64 (k : Int) ∧ Ext w wr ∧ Hid (∀ j (h1 : j < a.length) (h2 : j < b.length), j < k → a[j] = b[j])) (fun i _ => a.length - (intOf i).toNat)
    case atStart => exact ⟨0, Nat.zero_le _, rfl, Below.refl _ _, fun j _ _ hj => by omega⟩
    case round =>
      obtain ⟨k, hk, rfl, hE, hs⟩ := hrel
      by_cases hlt : k < a.length
      · have hlt2 : k < b.length := by rw [← HL.out]; exact hlt
        obtain ⟨b1, o1, rfl, -, x0, x1, x2, x3, x4, x5⟩ := cap_row (h1.ext hE) hlt
        obtain ⟨b2, o2, rfl, -, y0, y1, y2, y3, y4, y5⟩ := cap_row (h2.ext hE) hlt2
        have hq := capEq a[k] b[k]
        have HK := Lib.hid (list_ne (a := a) (b := b) hlt hlt2)
        obtain ⟨x, hx⟩ : ∃ x, x = a[k] := ⟨_, rfl⟩
        obtain ⟨y, hy⟩ : ∃ y, y = b[k] := ⟨_, rfl⟩
        rw [← hx, ← hy] at hq
        rw [← hx] at x0 x1 x2 x3 x4 x5
        rw [← hy] at y0 y1 y2 y3 y4 y5
        have HX := Lib.hid (And.intro hx hy)
        have HE := Lib.hid hE
        clear hx hy hE
        cases hd : decide (x = y) with
        | true =>
          rw [hd] at hq
          have he := of_decide_eq_true hd
          have HD := Lib.hid he
          clear he hd
          go_wp2_with fail
          refine wp_region_obl Eq [17, 18, 19, 20, 21, 22, 23, 24, 25] (by kernel_rfl) (fun _ => rfl) (fun _ _ _ => Eq.trans) (by kernel_rfl) (by kernel_rfl) ?_
          apply ex_is; apply Exists.intro
          apply ex_is; apply Exists.intro
          apply ex_is; apply Exists.intro
          apply ex_is; apply Exists.intro
          apply ex_is; apply Exists.intro
          apply ex_is; apply Exists.intro
          apply ex_is; apply Exists.intro
          apply ex_is; apply Exists.intro
          apply ex_is; apply Exists.intro
          refine ⟨[], ⟨?steps, ?stab, ?ends⟩⟩
          case steps =>
            refine And.intro ?_ ?_
            · intro a W hR hf ho K hK
              subst hR
              have G : a.tmps[0]?.getD undef = _ ∧ True := ho
              obtain ⟨g0, -⟩ := G
              clear ho hf
              go_simp
              exact hK _ _ (rfl) (Eq.refl _)
            refine And.intro ?_ ?_
            · intro a W hR hf ho K hK
              subst hR
              have G : a.tmps[5]?.getD undef = _ ∧ True := ho
              obtain ⟨g5, -⟩ := G
              clear ho hf
              go_simp
              exact hK _ _ (rfl) (Eq.refl _)
            refine And.intro ?_ ?_
            · intro a W hR hf ho K hK
              subst hR
              have F : a.tmps[17]?.getD undef = _ ∧ a.tmps[18]?.getD undef = _ ∧ True := hf
              obtain ⟨f0, f1, -⟩ := F
              clear ho hf
              go_simp
              exact hK _ _ (rfl) (Eq.refl _)
            refine And.intro ?_ ?_
            · intro a W hR hf ho K hK
              subst hR
              have F : a.tmps[19]?.getD undef = _ ∧ True := hf
              obtain ⟨f2, -⟩ := F
              clear ho hf
              go_simp
              exact hK _ _ (rfl) (Eq.refl _)
            refine And.intro ?_ ?_
            · intro a W hR hf ho K hK
              subst hR
              have G : a.tmps[1]?.getD undef = _ ∧ True := ho
              obtain ⟨g1, -⟩ := G
              clear ho hf
              go_simp
              exact hK _ _ (rfl) (Eq.refl _)
            refine And.intro ?_ ?_
            · intro a W hR hf ho K hK
              subst hR
              have G : a.tmps[5]?.getD undef = _ ∧ True := ho
              obtain ⟨g5, -⟩ := G
              clear ho hf
              go_simp
              exact hK _ _ (rfl) (Eq.refl _)
            refine And.intro ?_ ?_
            · intro a W hR hf ho K hK
              subst hR
              have F : a.tmps[21]?.getD undef = _ ∧ a.tmps[22]?.getD undef = _ ∧ True := hf
              obtain ⟨f4, f5, -⟩ := F
              clear ho hf
              go_simp
              exact hK _ _ (rfl) (Eq.refl _)
            refine And.intro ?_ ?_
            · intro a W hR hf ho K hK
              subst hR
              have F : a.tmps[23]?.getD undef = _ ∧ True := hf
              obtain ⟨f6, -⟩ := F
              clear ho hf
              go_simp
              exact hK _ _ (rfl) (Eq.refl _)
            refine And.intro ?_ ?_
            · intro a W hR hf ho K hK
              subst hR
              have F : a.tmps[20]?.getD undef = _ ∧ a.tmps[24]?.getD undef = _ ∧ True := hf
              obtain ⟨f3, f7, -⟩ := F
              clear ho hf
              go_simp
              exact hK _ _ (rfl) (Eq.refl _)
            exact trivial
          case stab =>
            refine And.intro is_stable ?_
            refine And.intro is_stable ?_
            refine And.intro is_stable ?_
            refine And.intro is_stable ?_
            refine And.intro is_stable ?_
            refine And.intro is_stable ?_
            refine And.intro is_stable ?_
            refine And.intro is_stable ?_
            refine And.intro is_stable ?_
            exact trivial
          case ends =>
            intro vals W hR hall
            subst hR
            have e25 : vals 25 = _ := hall 8 (by decide)
            clear hall
            simp only [fill, List.setIfInBounds_toArray, List.set_cons_succ, List.set_cons_zero, e25]
            go_wp2_with fail
            exact ⟨⟨k + 1, by omega, by simp, (by repeat first | (with_reducible exact Below.refl _ _) | (with_reducible apply Ext.alloc) | (with_reducible apply Ext.drew) | (with_reducible apply Ext.drewN) | (with_reducible refine Ext.set ?_ (by simp)) | (with_reducible refine Ext.then ?_ HE.out)), fun j g1 g2 hj => by rcases Nat.lt_succ_iff_lt_or_eq.1 hj with hj | rfl; exact hs.out j g1 g2 hj; rw [← HX.out.1, ← HX.out.2]; exact HD.out⟩, by simp [intOf]; omega⟩
        | false =>
          rw [hd] at hq
          have hr : r = false := by rw [HR.out]; exact decide_eq_false (HK.out (by rw [← HX.out.1, ← HX.out.2]; exact of_decide_eq_false hd))
          subst hr
          clear hd
          go_wp2_with fail
          refine wp_region_obl Eq [17, 18, 19, 20, 21, 22, 23, 24, 25] (by kernel_rfl) (fun _ => rfl) (fun _ _ _ => Eq.trans) (by kernel_rfl) (by kernel_rfl) ?_
          apply ex_is; apply Exists.intro
          apply ex_is; apply Exists.intro
          apply ex_is; apply Exists.intro
          apply ex_is; apply Exists.intro
          apply ex_is; apply Exists.intro
          apply ex_is; apply Exists.intro
          apply ex_is; apply Exists.intro
          apply ex_is; apply Exists.intro
          apply ex_is; apply Exists.intro
          refine ⟨[], ⟨?steps, ?stab, ?ends⟩⟩
          case steps =>
            refine And.intro ?_ ?_
            · intro a W hR hf ho K hK
              subst hR
              have G : a.tmps[0]?.getD undef = _ ∧ True := ho
              obtain ⟨g0, -⟩ := G
              clear ho hf
              go_simp
              exact hK _ _ (rfl) (Eq.refl _)
            refine And.intro ?_ ?_
            · intro a W hR hf ho K hK
              subst hR
              have G : a.tmps[5]?.getD undef = _ ∧ True := ho
              obtain ⟨g5, -⟩ := G
              clear ho hf
              go_simp
              exact hK _ _ (rfl) (Eq.refl _)
            refine And.intro ?_ ?_
            · intro a W hR hf ho K hK
              subst hR
              have F : a.tmps[17]?.getD undef = _ ∧ a.tmps[18]?.getD undef = _ ∧ True := hf
              obtain ⟨f0, f1, -⟩ := F
              clear ho hf
              go_simp
              exact hK _ _ (rfl) (Eq.refl _)
            refine And.intro ?_ ?_
            · intro a W hR hf ho K hK
              subst hR
              have F : a.tmps[19]?.getD undef = _ ∧ True := hf
              obtain ⟨f2, -⟩ := F
              clear ho hf
              go_simp
              exact hK _ _ (rfl) (Eq.refl _)
            refine And.intro ?_ ?_
            · intro a W hR hf ho K hK
              subst hR
              have G : a.tmps[1]?.getD undef = _ ∧ True := ho
              obtain ⟨g1, -⟩ := G
              clear ho hf
              go_simp
              exact hK _ _ (rfl) (Eq.refl _)
            refine And.intro ?_ ?_
            · intro a W hR hf ho K hK
              subst hR
              have G : a.tmps[5]?.getD undef = _ ∧ True := ho
              obtain ⟨g5, -⟩ := G
              clear ho hf
              go_simp
              exact hK _ _ (rfl) (Eq.refl _)
            refine And.intro ?_ ?_
            · intro a W hR hf ho K hK
              subst hR
              have F : a.tmps[21]?.getD undef = _ ∧ a.tmps[22]?.getD undef = _ ∧ True := hf
              obtain ⟨f4, f5, -⟩ := F
              clear ho hf
              go_simp
              exact hK _ _ (rfl) (Eq.refl _)
            refine And.intro ?_ ?_
            · intro a W hR hf ho K hK
              subst hR
              have F : a.tmps[23]?.getD undef = _ ∧ True := hf
              obtain ⟨f6, -⟩ := F
              clear ho hf
              go_simp
              exact hK _ _ (rfl) (Eq.refl _)
            refine And.intro ?_ ?_
            · intro a W hR hf ho K hK
              subst hR
              have F : a.tmps[20]?.getD undef = _ ∧ a.tmps[24]?.getD undef = _ ∧ True := hf
              obtain ⟨f3, f7, -⟩ := F
              clear ho hf
              go_simp
              exact hK _ _ (rfl) (Eq.refl _)
            exact trivial
          case stab =>
            refine And.intro is_stable ?_
            refine And.intro is_stable ?_
            refine And.intro is_stable ?_
            refine And.intro is_stable ?_
            refine And.intro is_stable ?_
            refine And.intro is_stable ?_
            refine And.intro is_stable ?_
            refine And.intro is_stable ?_
            refine And.intro is_stable ?_
            exact trivial
          case ends =>
            intro vals W hR hall
            subst hR
            have e25 : vals 25 = _ := hall 8 (by decide)
            clear hall
            simp only [fill, List.setIfInBounds_toArray, List.set_cons_succ, List.set_cons_zero, e25]
            go_wp2_with fail
            go_ret
            exact ⟨rfl, (by repeat first | (with_reducible exact Below.refl _ _) | (with_reducible apply Ext.alloc) | (with_reducible apply Ext.drew) | (with_reducible apply Ext.drewN) | (with_reducible refine Ext.set ?_ (by simp)) | (with_reducible refine Ext.then ?_ HE.out))⟩
      · obtain rfl : k = a.length := by omega
        have hr : r = true := by rw [HR.out]; exact decide_eq_true (list_eq HL.out fun k g1 g2 => hs.out k g1 g2 g1)
        subst hr
        go_wp2_with fail
        go_ret
        exact ⟨rfl, hE⟩
  · have hn : ((a.length : Int) != (b.length : Int)) = true := by rw [bne_iff_ne]; omega
    have hr : r = false := by rw [HR.out]; exact decide_eq_false (fun e => hl (by rw [e]))
    subst hr
    clear hl
    go_enter Try.func15, Try.ntmps15
    go_wp2_with fail
    go_ret
    exact ⟨rfl, Below.refl _ _⟩
end Go.Proofs.Ytalndcjbnedigaa

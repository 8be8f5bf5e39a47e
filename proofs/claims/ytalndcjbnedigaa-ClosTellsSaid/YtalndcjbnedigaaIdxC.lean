
/- slices.IndexFunc, ContainsFunc, Index, Contains over capabilities. -/
import Derived.Test.YtalndcjbnedigaaCapU
import Derived.Test.YtalndcjbnedigaaIdx0
set_option linter.all false
namespace Go.Proofs.Ytalndcjbnedigaa
open Go.RowKit
attribute [local go_sem] seen dstOf boolOf
attribute [local go_sem high] eqCap

def TestsCap (g : Nat) (q : Array Value) (p : Cap → Bool) (l : List Cap) (w : World) : Prop :=
  ∀ (W : World) (x : Cap), x ∈ l → Ext w W → Calls Try.prog g (#[.agg #[.bool x.tag, .int .i64 x.base, .int .i64 x.top, .int .i64 x.at', .int .i64 x.perms, .int .i64 x.ty]] ++ q) W fun e w' => e = .returned (.bool (p x)) ∧ Ext W w'
set_option maxHeartbeats 4000000 in
theorem indexCap (A : Option Addr) (c : Nat) (l : List Cap) (g : Nat) (q : Array Value) (p : Cap → Bool) (w : World) (hA : Arr w A (l.flatMap Cap.cells)) (hR : l.length ≤ 140737488351232) (eg : ∀ args w, (callFunc g args).run Try.prog w = .ok (.enter g args) w) (hp : TestsCap g q p l w) :
    Calls Try.prog 62 #[.slice A l.length c, .func (.func g) #[] q] w fun e w' => e = .returned (.int .i64 (idxP p l)) ∧ Ext w w' := by
  have HP := Lib.hid hp
  clear hp
  go_enter Try.func62, Try.ntmps62
  go_wp2_with fail
  go_loopw [5, 8] (fun _ i wr => ∃ k : Nat, k ≤ l.length ∧ i = .int .i64 (k : Int) ∧ Ext w wr ∧ Hid (∀ j (hj : j < l.length), j < k → p l[j] = false)) (fun _ i _ => l.length - (intOf i).toNat)
  case atStart => exact ⟨0, Nat.zero_le _, rfl, Below.refl _ _, fun j _ hj => by omega⟩
  case round =>
    obtain ⟨k, hk, rfl, hE, hs⟩ := hrel
    by_cases hlt : k < l.length
    · obtain ⟨b1, o1, rfl, -, q1⟩ := (hA.ext hE).flat (s := 6) (fun _ => rfl) (by decide) hlt
      have x0 : wr.cell? ⟨b1, o1 + k * 6, none⟩ = some (.bool l[k].tag) := by simpa using q1 0 _ rfl
      have x1 := q1 1 _ rfl
      have x2 := q1 2 _ rfl
      have x3 := q1 3 _ rfl
      have x4 := q1 4 _ rfl
      have x5 := q1 5 _ rfl
      clear q1
      have hc := HP.out wr l[k] (List.getElem_mem hlt) hE
      have HC := Lib.hid hc
      clear hc
      cases hx : p l[k]
      · go_wp2_with fail
        refine HC.out.mono ?_
        rw [hx]
        rintro e w2 ⟨rfl, hb2⟩
        go_wp2_with fail
        exact ⟨⟨k + 1, by omega, by simp, hE.then hb2, fun j h hj => by rcases Nat.lt_succ_iff_lt_or_eq.1 hj with hj | rfl; exact hs.out j h hj; exact hx⟩, by simp [intOf]; omega⟩
      · go_wp2_with fail
        refine HC.out.mono ?_
        rw [hx]
        rintro e w2 ⟨rfl, hb2⟩
        go_wp2_with fail
        go_ret
        exact ⟨ret_int (idxP_hit hlt hx fun j hj h => hs.out j hj h).symm, hE.then hb2⟩
    · go_wp2_with fail
      go_ret
      exact ⟨ret_int (idxP_miss fun j hj => hs.out j hj (by omega)).symm, hE⟩
theorem containsCap (A : Option Addr) (c : Nat) (l : List Cap) (g : Nat) (q : Array Value) (p : Cap → Bool) (w : World) (hA : Arr w A (l.flatMap Cap.cells)) (hR : l.length ≤ 140737488351232) (eg : ∀ args w, (callFunc g args).run Try.prog w = .ok (.enter g args) w) (hp : TestsCap g q p l w) :
    Calls Try.prog 31 #[.slice A l.length c, .func (.func g) #[] q] w fun e w' => e = .returned (.bool (l.any p)) ∧ Ext w w' := by
  have HC := Lib.hid (indexCap A c l g q p w hA hR eg hp)
  have hsm := @idxP_small _ p l
  go_enter Try.func31, Try.ntmps31
  go_wp2_with fail
  refine HC.out.mono ?_
  rintro e w2 ⟨rfl, hb2⟩
  obtain ⟨z, hz⟩ : ∃ z, z = idxP p l := ⟨_, rfl⟩
  have hd := @idxP_any _ p l
  rw [← hz] at hd ⊢
  have HD := Lib.hid hd
  clear hd hz hsm
  go_wp2_with fail
  go_ret
  exact ⟨ret_bool (by rw [← HD.out]), hb2⟩
theorem capEq (x y : Cap) : (x.tag == y.tag && (x.base == y.base && (x.top == y.top && (x.at' == y.at' && (x.perms == y.perms && x.ty == y.ty))))) = decide (x = y) := by
  obtain ⟨a0, a1, a2, a3, a4, a5⟩ := x
  obtain ⟨b0, b1, b2, b3, b4, b5⟩ := y
  rw [Bool.eq_iff_iff]
  simp
set_option maxHeartbeats 4000000 in
theorem indexC (A : Option Addr) (c : Nat) (l : List Cap) (v : Cap) (w : World) (hA : Arr w A (l.flatMap Cap.cells)) (hR : l.length ≤ 140737488351232) :
    Calls Try.prog 86 #[.slice A l.length c, v.val] w fun e w' => e = .returned (.int .i64 (idxP (fun x => decide (v = x)) l)) ∧ Ext w w' := by
  go_enter Try.func86, Try.ntmps86
  go_wp2_with fail
  obtain ⟨U, hU⟩ : ∃ U, U = w.alloc (.cells v.cells.toArray 24) := ⟨_, rfl⟩
  have EU : Ext w U := by rw [hU]; exact (by repeat first | (with_reducible exact Below.refl _ _) | (with_reducible apply Ext.alloc) | (with_reducible apply Ext.drew) | (with_reducible apply Ext.drewN) | (with_reducible refine Ext.set ?_ (by simp)))
  have hv : U.heap[w.heap.size]? = some (.cells v.cells.toArray 24) := by rw [hU]; exact heap_alloc_new w _
  have HU := Lib.hid (And.intro EU hv)
  rw [← hU]
  clear hU EU hv
  go_loopw [5, 8] (fun _ i wr => ∃ k : Nat, k ≤ l.length ∧ i = .int .i64 (k : Int) ∧ Ext U wr ∧ Hid (∀ j (hj : j < l.length), j < k → decide (v = l[j]) = false)) (fun _ i _ => l.length - (intOf i).toNat)
  case atStart => exact ⟨0, Nat.zero_le _, rfl, Below.refl _ _, fun j _ hj => by omega⟩
  case round =>
    obtain ⟨k, hk, rfl, hE, hs⟩ := hrel
    by_cases hlt : k < l.length
    · obtain ⟨b1, o1, rfl, -, q1⟩ := (hA.ext (HU.out.1.then hE)).flat (s := 6) (fun _ => rfl) (by decide) hlt
      have x0 : wr.cell? ⟨b1, o1 + k * 6, none⟩ = some (.bool l[k].tag) := by simpa using q1 0 _ rfl
      have x1 := q1 1 _ rfl
      have x2 := q1 2 _ rfl
      have x3 := q1 3 _ rfl
      have x4 := q1 4 _ rfl
      have x5 := q1 5 _ rfl
      obtain ⟨y0, y1, y2, y3, y4, y5⟩ := lie6' HU.out.2 hE
      have hlb := cell_lt y0
      simp only at hlb
      clear q1
      have hq := capEq v l[k]
      cases hx : decide (v = l[k])
      · have hq' := hq.trans hx
        have HX := Lib.hid hx
        generalize l[k] = xx at x0 x1 x2 x3 x4 x5 hq'
        clear hx hq
        have HE := Lib.hid hE
        clear hE
        go_wp2_with fail
        refine wp_region_obl Eq [11, 12, 13, 14, 15, 16] (by kernel_rfl) (fun _ => rfl) (fun _ _ _ => Eq.trans) (by kernel_rfl) (by kernel_rfl) ?_
        apply ex_is; apply Exists.intro
        apply ex_is; apply Exists.intro
        apply ex_is; apply Exists.intro
        apply ex_is; apply Exists.intro
        apply ex_is; apply Exists.intro
        apply ex_is; apply Exists.intro
        refine ⟨[], ⟨?steps, ?stab, ?ends⟩⟩
        case steps =>
          refine And.intro ?_ ?_
          · intro a W hR hf ho K hK
            subst hR
            have G : a.tmps[3]?.getD undef = _ ∧ True := ho
            obtain ⟨g3, -⟩ := G
            clear ho hf
            go_simp
            exact hK _ _ (rfl) (Eq.refl _)
          refine And.intro ?_ ?_
          · intro a W hR hf ho K hK
            subst hR
            have G : a.tmps[0]?.getD undef = _ ∧ True := ho
            obtain ⟨g0, -⟩ := G
            clear ho hf
            go_simp
            exact hK _ _ (rfl) (Eq.refl _)
          refine And.intro ?_ ?_
          · intro a W hR hf ho K hK
            subst hR
            have G : a.tmps[5]?.getD undef = _ ∧ True := ho
            obtain ⟨g5, -⟩ := G
            clear ho hf
            go_simp
            exact hK _ _ (rfl) (Eq.refl _)
          refine And.intro ?_ ?_
          · intro a W hR hf ho K hK
            subst hR
            have F : a.tmps[12]?.getD undef = _ ∧ a.tmps[13]?.getD undef = _ ∧ True := hf
            obtain ⟨f1, f2, -⟩ := F
            clear ho hf
            go_simp
            exact hK _ _ (rfl) (Eq.refl _)
          refine And.intro ?_ ?_
          · intro a W hR hf ho K hK
            subst hR
            have F : a.tmps[14]?.getD undef = _ ∧ True := hf
            obtain ⟨f3, -⟩ := F
            clear ho hf
            go_simp
            exact hK _ _ (rfl) (Eq.refl _)
          refine And.intro ?_ ?_
          · intro a W hR hf ho K hK
            subst hR
            have F : a.tmps[11]?.getD undef = _ ∧ a.tmps[15]?.getD undef = _ ∧ True := hf
            obtain ⟨f0, f4, -⟩ := F
            clear ho hf
            go_simp
            exact hK _ _ (rfl) (Eq.refl _)
          exact trivial
        case stab =>
          refine And.intro is_stable ?_
          refine And.intro is_stable ?_
          refine And.intro is_stable ?_
          refine And.intro is_stable ?_
          refine And.intro is_stable ?_
          refine And.intro is_stable ?_
          exact trivial
        case ends =>
          intro vals W hR hall
          subst hR
          have e16 : vals 16 = _ := hall 5 (by decide)
          clear hall
          simp only [fill, List.setIfInBounds_toArray, List.set_cons_succ, List.set_cons_zero, e16]
          go_wp2_with fail
          exact ⟨⟨k + 1, by omega, by simp, (by repeat first | (with_reducible exact Below.refl _ _) | (with_reducible apply Ext.alloc) | (with_reducible apply Ext.drew) | (with_reducible apply Ext.drewN) | (with_reducible refine Ext.set ?_ (by simp)) | (with_reducible refine Ext.then ?_ HE.out)), fun j h hj => by rcases Nat.lt_succ_iff_lt_or_eq.1 hj with hj | rfl; exact hs.out j h hj; exact HX.out⟩, by simp [intOf]; omega⟩
      · have hq' := hq.trans hx
        have HX := Lib.hid hx
        generalize l[k] = xx at x0 x1 x2 x3 x4 x5 hq'
        clear hx hq
        have HE := Lib.hid hE
        clear hE
        go_wp2_with fail
        refine wp_region_obl Eq [11, 12, 13, 14, 15, 16] (by kernel_rfl) (fun _ => rfl) (fun _ _ _ => Eq.trans) (by kernel_rfl) (by kernel_rfl) ?_
        apply ex_is; apply Exists.intro
        apply ex_is; apply Exists.intro
        apply ex_is; apply Exists.intro
        apply ex_is; apply Exists.intro
        apply ex_is; apply Exists.intro
        apply ex_is; apply Exists.intro
        refine ⟨[], ⟨?steps, ?stab, ?ends⟩⟩
        case steps =>
          refine And.intro ?_ ?_
          · intro a W hR hf ho K hK
            subst hR
            have G : a.tmps[3]?.getD undef = _ ∧ True := ho
            obtain ⟨g3, -⟩ := G
            clear ho hf
            go_simp
            exact hK _ _ (rfl) (Eq.refl _)
          refine And.intro ?_ ?_
          · intro a W hR hf ho K hK
            subst hR
            have G : a.tmps[0]?.getD undef = _ ∧ True := ho
            obtain ⟨g0, -⟩ := G
            clear ho hf
            go_simp
            exact hK _ _ (rfl) (Eq.refl _)
          refine And.intro ?_ ?_
          · intro a W hR hf ho K hK
            subst hR
            have G : a.tmps[5]?.getD undef = _ ∧ True := ho
            obtain ⟨g5, -⟩ := G
            clear ho hf
            go_simp
            exact hK _ _ (rfl) (Eq.refl _)
          refine And.intro ?_ ?_
          · intro a W hR hf ho K hK
            subst hR
            have F : a.tmps[12]?.getD undef = _ ∧ a.tmps[13]?.getD undef = _ ∧ True := hf
            obtain ⟨f1, f2, -⟩ := F
            clear ho hf
            go_simp
            exact hK _ _ (rfl) (Eq.refl _)
          refine And.intro ?_ ?_
          · intro a W hR hf ho K hK
            subst hR
            have F : a.tmps[14]?.getD undef = _ ∧ True := hf
            obtain ⟨f3, -⟩ := F
            clear ho hf
            go_simp
            exact hK _ _ (rfl) (Eq.refl _)
          refine And.intro ?_ ?_
          · intro a W hR hf ho K hK
            subst hR
            have F : a.tmps[11]?.getD undef = _ ∧ a.tmps[15]?.getD undef = _ ∧ True := hf
            obtain ⟨f0, f4, -⟩ := F
            clear ho hf
            go_simp
            exact hK _ _ (rfl) (Eq.refl _)
          exact trivial
        case stab =>
          refine And.intro is_stable ?_
          refine And.intro is_stable ?_
          refine And.intro is_stable ?_
          refine And.intro is_stable ?_
          refine And.intro is_stable ?_
          refine And.intro is_stable ?_
          exact trivial
        case ends =>
          intro vals W hR hall
          subst hR
          have e16 : vals 16 = _ := hall 5 (by decide)
          clear hall
          simp only [fill, List.setIfInBounds_toArray, List.set_cons_succ, List.set_cons_zero, e16]
          go_wp2_with fail
          go_ret
          exact ⟨ret_int (idxP_hit (p := fun x => decide (v = x)) hlt HX.out fun j hj h => hs.out j hj h).symm, HU.out.1.then (by repeat first | (with_reducible exact Below.refl _ _) | (with_reducible apply Ext.alloc) | (with_reducible apply Ext.drew) | (with_reducible apply Ext.drewN) | (with_reducible refine Ext.set ?_ (by simp)) | (with_reducible refine Ext.then ?_ HE.out))⟩
    · go_wp2_with fail
      go_ret
      exact ⟨ret_int (idxP_miss (p := fun x => decide (v = x)) fun j hj => hs.out j hj (by omega)).symm, HU.out.1.then hE⟩
set_option maxHeartbeats 1000000 in
theorem containsC (A : Option Addr) (c : Nat) (l : List Cap) (v : Cap) (w : World) (hA : Arr w A (l.flatMap Cap.cells)) (hR : l.length ≤ 140737488351232) :
    Calls Try.prog 60 #[.slice A l.length c, v.val] w (Tell w (l.any fun x => decide (v = x))) := by
  have HC := Lib.hid (fun w hA => indexC A c l v w hA hR)
  have hsm := @idxP_small _ (fun x => decide (v = x)) l
  go_enter Try.func60, Try.ntmps60
  go_wp2_with fail
  refine (HC.out _ (hA.ext (by repeat first | (with_reducible exact Below.refl _ _) | (with_reducible apply Ext.alloc) | (with_reducible apply Ext.drew) | (with_reducible apply Ext.drewN) | (with_reducible refine Ext.set ?_ (by simp))))).mono ?_
  rintro e w2 ⟨rfl, hb2⟩
  obtain ⟨z, hz⟩ : ∃ z, z = idxP (fun x => decide (v = x)) l := ⟨_, rfl⟩
  have hd := @idxP_any _ (fun x => decide (v = x)) l
  rw [← hz] at hd ⊢
  have HD := Lib.hid hd
  clear hd hz hsm
  go_wp2_with fail
  go_ret
  exact ⟨ret_bool (by rw [← HD.out]), (Ext.alloc (Below.refl _ w) _).then hb2⟩
end Go.Proofs.Ytalndcjbnedigaa

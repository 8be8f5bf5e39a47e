
/- seizinref17.Same: of two images that are alike. -/
import Derived.Test.YtgfnpcoigooblaaEq17
import Derived.Test.YtgfnpcoigooblaaGetB
import Derived.Deep.QuietTactic
import Derived.BigQuiet
set_option linter.all false
namespace Go.Proofs.Ytgfnpcoigooblaa
open Go.RowKit
attribute [local go_sem] seen dstOf boolOf
attribute [local go_sem high] eqLink eqShare

theorem conv_arr {W : World} {A : Option Addr} {c : Nat} {xs : List Int} (h : Arr W A (bs xs)) (hn : 0 < xs.length) : (convert 27 9 (.slice A xs.length c)).run Try.prog W = .ok (.string (strOfNums xs)) W := by
  obtain ⟨b, o, rfl, -, hc⟩ := h.open (by simpa [bs] using hn)
  refine run_convert_bytes_arg W 27 5 Try.underlying27 Try.underlying5 b o xs.length c xs rfl (fun i hi => ?_) 9 Try.underlying9
  have := hc i (by simpa [bs] using hi)
  rw [this]
  simp [bs, List.getElem?_eq_getElem hi]
theorem conv_any {W : World} {A : Option Addr} {c : Nat} {xs : List Int} (h : Arr W A (bs xs)) : ∃ s, s = strOfNums xs ∧ ((convert 27 9 (.slice A xs.length c)).run Try.prog W = .ok (.string s) W) := by
  by_cases hn : 0 < xs.length
  · exact ⟨_, rfl, conv_arr h hn⟩
  · have hx : xs = [] := List.length_eq_zero_iff.1 (by omega)
    subst hx
    cases A with
    | none => exact ⟨_, rfl, run_convert_bytes_nil W 27 5 Try.underlying27 Try.underlying5 0 c 9 Try.underlying9⟩
    | some a =>
      refine ⟨_, rfl, ?_⟩
      have := run_convert_bytes_string (P := Try.prog) W 27 9 5 (some a) 0 c Try.underlying27 Try.underlying5 Try.underlying9
      rw [show ([] : List Int).length = 0 from rfl, this, run_bytesToString W a 0 c [] (by simp [loadCells, loadCellsFrom])]
      rfl
set_option maxHeartbeats 4000000 in
set_option maxRecDepth 100000 in
theorem same_at (st : Bool) (hp fu : Int) (Ac Bc : Option Addr) (cc dc : Nat) (cs ds : List CompM) (Al Bl : Option Addr) (cl dl : Nat) (ls : List LinkM) (As Bs : Option Addr) (cS dS : Nat) (ss : List ShareM) (w : World) (h : ImgAt w ⟨st, hp, fu, Ac, cc, cs, Al, cl, ls, As, cS, ss⟩) (h' : ImgAt w ⟨st, hp, fu, Bc, dc, ds, Bl, dl, ls, Bs, dS, ss⟩) (hd : cs.map CompM.d = ds.map CompM.d) :
    Calls Try.prog 18 #[.agg #[.bool st, .int .i64 hp, .int .i64 fu, .slice Ac cs.length cc, .slice Al ls.length cl, .slice As ss.length cS], .agg #[.bool st, .int .i64 hp, .int .i64 fu, .slice Bc cs.length dc, .slice Bl ls.length dl, .slice Bs ss.length dS]] w fun e w' => e = .returned (.bool true) ∧ Ext w w' := by
  obtain ⟨U, hU⟩ : ∃ U, U = (w.alloc (.cells #[.bool st, .int .i64 hp, .int .i64 fu, .slice Ac cs.length cc, .slice Al ls.length cl, .slice As ss.length cS] 26)).alloc (.cells #[.bool st, .int .i64 hp, .int .i64 fu, .slice Bc cs.length dc, .slice Bl ls.length dl, .slice Bs ss.length dS] 26) := ⟨_, rfl⟩
  have eU : Ext w U := by rw [hU]; exact (by repeat first | (with_reducible exact Below.refl _ _) | (with_reducible apply Ext.alloc) | (with_reducible apply Ext.drew) | (with_reducible apply Ext.drewN) | (with_reducible refine Ext.set ?_ (by simp)))
  have hx := h.ext eU
  have hy := h'.ext eU
  obtain ⟨bx, by'⟩ := new2 (w := w) (W := U) (by rw [hU]; exact Below.refl _ _)
  obtain ⟨z0, z1, z2, z3, z4, z5⟩ := lie6 bx (Below.refl _ U)
  obtain ⟨y0, y1, y2, y3, y4, y5⟩ := lie6 by' (Below.refl _ U)
  have hlt : w.heap.size + 1 < U.heap.size := (Array.getElem?_eq_some_iff.1 by').1
  have hlen : ds.length = cs.length := by have := congrArg List.length hd; simpa using this.symm
  have hlc := hx.lens.2.1
  have hll := hx.lens.2.2.2.1
  have hls := hx.lens.2.2.2.2.2
  simp only at hlc hll hls
  have HX := Lib.hid (And.intro hx (And.intro hy (And.intro hd hlen)))
  have HE := Lib.hid eU
  have HU := Lib.hid hU
  clear h h' hx hy eU hd hlen bx by'
  go_enter Try.func18, Try.ntmps18
  go_wp2_with fail
  rw [← hU]
  clear hU
  go_loopw [5] (fun i wr => ∃ k n : Nat, k ≤ cs.length ∧ i = .int .i64 (k : Int) ∧ wr = U.drewN n) (fun i _ => cs.length - (intOf i).toNat)
  case atStart => exact ⟨0, 0, Nat.zero_le _, rfl, rfl⟩
  case round =>
    obtain ⟨k, n, hk, rfl, rfl⟩ := hrel
    by_cases hlt2 : k < cs.length
    · have hk2 : k < ds.length := by rw [HX.out.2.2.2]; exact hlt2
      obtain ⟨b1, o1, rfl, hb1, q1⟩ := HX.out.1.comps.flat (s := 2) (fun _ => rfl) (by decide) hlt2
      obtain ⟨b2, o2, rfl, hb2, q2⟩ := HX.out.2.1.comps.flat (s := 2) (fun _ => rfl) (by decide) hk2
      have x0 := q1 0 _ rfl
      have x1 := q1 1 _ rfl
      have u0 := q2 0 _ rfl
      have u1 := q2 1 _ rfl
      simp only [Nat.zero_mul, Nat.add_zero] at x0 u0
      have hdk : cs[k].d = ds[k].d := by
        have h1 : (cs.map CompM.d)[k]? = (ds.map CompM.d)[k]? := by rw [HX.out.2.2.1]
        simpa [List.getElem?_eq_getElem hlt2, List.getElem?_eq_getElem hk2] using h1
      have a1 := (HX.out.1.codes cs[k] (List.getElem_mem hlt2)).1
      have a2 := (HX.out.2.1.codes ds[k] (List.getElem_mem hk2)).1
      generalize cs[k] = c1 at x0 x1 hdk a1
      generalize ds[k] = c2 at u0 u1 hdk a2
      clear q1 q2
      unfold CompM.d at hdk
      simp only [CompD.mk.injEq] at hdk
      rw [← hdk.1] at u0 a2
      rw [← hdk.2] at u1
      obtain ⟨V, hV⟩ : ∃ V, V = U.drewN n := ⟨_, rfl⟩
      rw [← hV]
      have eV : Ext U V := by rw [hV]; exact (by repeat first | (with_reducible exact Below.refl _ _) | (with_reducible apply Ext.alloc) | (with_reducible apply Ext.drew) | (with_reducible apply Ext.drewN) | (with_reducible refine Ext.set ?_ (by simp)))
      obtain ⟨s, hs0, hs1⟩ := conv_any (W := V.drew) (c := c1.cap) (a1.ext (Ext.drew eV))
      obtain ⟨s', hs0', hs2⟩ := conv_any (W := V.drew) (c := c2.cap) (a2.ext (Ext.drew eV))
      obtain rfl : s' = s := hs0'.trans hs0.symm
      replace x0 := ext_cell eV _ _ x0
      replace x1 := ext_cell eV _ _ x1
      replace u0 := ext_cell eV _ _ u0
      replace u1 := ext_cell eV _ _ u1
      replace z3 := ext_cell eV _ _ z3
      replace y3 := ext_cell eV _ _ y3
      have HV := Lib.hid hV
      have hltV : w.heap.size + 1 < V.heap.size := Nat.lt_of_lt_of_le hlt eV.size
      clear hV eV hs0 hs0' hdk a1 a2
      go_wp2_with fail
      refine wp_region_obl Eq [61, 62, 63, 64, 65, 66, 67, 68, 69, 70, 71, 72, 73, 74, 75, 76, 77, 78, 79, 80, 81, 82, 83, 84, 85, 86, 87, 88, 89, 90] (by kernel_rfl) (fun _ => rfl) (fun _ _ _ => Eq.trans) (by kernel_rfl) (by kernel_rfl) ?_
      apply ex_is; apply Exists.intro
      apply ex_is; apply Exists.intro
      apply ex_is; apply Exists.intro
      apply ex_is; apply Exists.intro
      apply ex_is; apply Exists.intro
      apply ex_is; apply Exists.intro
      apply ex_is; apply Exists.intro
      apply ex_is; apply Exists.intro
      apply ex_is; apply Exists.intro
      apply ex_is; apply Exists.intro
      apply ex_is; apply Exists.intro
      apply ex_is; apply Exists.intro
      apply ex_is; apply Exists.intro
      apply ex_is; apply Exists.intro
      apply ex_is; apply Exists.intro
      apply ex_is; apply Exists.intro
      apply ex_is; apply Exists.intro
      apply ex_is; apply Exists.intro
      apply ex_is; apply Exists.intro
      apply ex_is; apply Exists.intro
      apply ex_is; apply Exists.intro
      apply ex_is; apply Exists.intro
      apply ex_is; apply Exists.intro
      apply ex_is; apply Exists.intro
      apply ex_is; apply Exists.intro
      apply ex_is; apply Exists.intro
      apply ex_is; apply Exists.intro
      apply ex_is; apply Exists.intro
      apply ex_is; apply Exists.intro
      apply ex_is; apply Exists.intro
      refine ⟨[], ⟨?steps, ?stab, ?ends⟩⟩
      case steps =>
        refine And.intro ?_ ?_
        · intro a W hR hf ho K hK
          subst hR
          have G : a.tmps[2]?.getD undef = _ ∧ True := ho
          obtain ⟨g2, -⟩ := G
          clear ho hf
          go_simp
          exact hK _ _ (rfl) (Eq.refl _)
        refine And.intro ?_ ?_
        · intro a W hR hf ho K hK
          subst hR
          have F : a.tmps[61]?.getD undef = _ ∧ True := hf
          obtain ⟨f0, -⟩ := F
          clear ho hf
          go_simp
          exact hK _ _ (rfl) (Eq.refl _)
        refine And.intro ?_ ?_
        · intro a W hR hf ho K hK
          subst hR
          have G : a.tmps[5]?.getD undef = _ ∧ True := ho
          obtain ⟨g5, -⟩ := G
          clear ho hf
          go_simp
          exact hK _ _ (rfl) (Eq.refl _)
        refine And.intro ?_ ?_
        · intro a W hR hf ho K hK
          subst hR
          have F : a.tmps[62]?.getD undef = _ ∧ a.tmps[63]?.getD undef = _ ∧ True := hf
          obtain ⟨f1, f2, -⟩ := F
          clear ho hf
          go_simp
          exact hK _ _ (rfl) (Eq.refl _)
        refine And.intro ?_ ?_
        · intro a W hR hf ho K hK
          subst hR
          have F : a.tmps[64]?.getD undef = _ ∧ True := hf
          obtain ⟨f3, -⟩ := F
          clear ho hf
          go_simp
          exact hK _ _ (rfl) (Eq.refl _)
        refine And.intro ?_ ?_
        · intro a W hR hf ho K hK
          subst hR
          have F : a.tmps[65]?.getD undef = _ ∧ True := hf
          obtain ⟨f4, -⟩ := F
          clear ho hf
          go_simp
          exact hK _ _ (rfl) (Eq.refl _)
        refine And.intro ?_ ?_
        · intro a W hR hf ho K hK
          subst hR
          have F : a.tmps[66]?.getD undef = _ ∧ True := hf
          obtain ⟨f5, -⟩ := F
          clear ho hf
          go_simp
          exact hK _ _ (rfl) (Eq.refl _)
        refine And.intro ?_ ?_
        · intro a W hR hf ho K hK
          subst hR
          have G : a.tmps[3]?.getD undef = _ ∧ True := ho
          obtain ⟨g3, -⟩ := G
          clear ho hf
          go_simp
          exact hK _ _ (rfl) (Eq.refl _)
        refine And.intro ?_ ?_
        · intro a W hR hf ho K hK
          subst hR
          have F : a.tmps[68]?.getD undef = _ ∧ True := hf
          obtain ⟨f7, -⟩ := F
          clear ho hf
          go_simp
          exact hK _ _ (rfl) (Eq.refl _)
        refine And.intro ?_ ?_
        · intro a W hR hf ho K hK
          subst hR
          have G : a.tmps[5]?.getD undef = _ ∧ True := ho
          obtain ⟨g5, -⟩ := G
          clear ho hf
          go_simp
          exact hK _ _ (rfl) (Eq.refl _)
        refine And.intro ?_ ?_
        · intro a W hR hf ho K hK
          subst hR
          have F : a.tmps[69]?.getD undef = _ ∧ a.tmps[70]?.getD undef = _ ∧ True := hf
          obtain ⟨f8, f9, -⟩ := F
          clear ho hf
          go_simp
          exact hK _ _ (rfl) (Eq.refl _)
        refine And.intro ?_ ?_
        · intro a W hR hf ho K hK
          subst hR
          have F : a.tmps[71]?.getD undef = _ ∧ True := hf
          obtain ⟨f10, -⟩ := F
          clear ho hf
          go_simp
          exact hK _ _ (rfl) (Eq.refl _)
        refine And.intro ?_ ?_
        · intro a W hR hf ho K hK
          subst hR
          have F : a.tmps[72]?.getD undef = _ ∧ True := hf
          obtain ⟨f11, -⟩ := F
          clear ho hf
          go_simp
          exact hK _ _ (rfl) (Eq.refl _)
        refine And.intro ?_ ?_
        · intro a W hR hf ho K hK
          subst hR
          have F : a.tmps[73]?.getD undef = _ ∧ True := hf
          obtain ⟨f12, -⟩ := F
          clear ho hf
          go_simp
          exact hK _ _ (rfl) (Eq.refl _)
        refine And.intro ?_ ?_
        · intro a W hR hf ho K hK
          subst hR
          have F : a.tmps[67]?.getD undef = _ ∧ a.tmps[74]?.getD undef = _ ∧ True := hf
          obtain ⟨f6, f13, -⟩ := F
          clear ho hf
          go_simp
          exact hK _ _ (rfl) (Eq.refl _)
        refine And.intro ?_ ?_
        · intro a W hR hf ho K hK
          subst hR
          have F : a.tmps[75]?.getD undef = _ ∧ True := hf
          obtain ⟨f14, -⟩ := F
          clear ho hf
          go_simp
          exact hK _ _ (rfl) (Eq.refl _)
        refine And.intro ?_ ?_
        · intro a W hR hf ho K hK
          subst hR
          have G : a.tmps[2]?.getD undef = _ ∧ True := ho
          obtain ⟨g2, -⟩ := G
          have F : a.tmps[76]?.getD undef = _ ∧ True := hf
          obtain ⟨f15, -⟩ := F
          clear ho hf
          go_simp
          exact hK _ _ (rfl) (Eq.refl _)
        refine And.intro ?_ ?_
        · intro a W hR hf ho K hK
          subst hR
          have F : a.tmps[77]?.getD undef = _ ∧ a.tmps[76]?.getD undef = _ ∧ True := hf
          obtain ⟨f16, f15, -⟩ := F
          clear ho hf
          go_simp
          exact hK _ _ (rfl) (Eq.refl _)
        refine And.intro ?_ ?_
        · intro a W hR hf ho K hK
          subst hR
          have G : a.tmps[5]?.getD undef = _ ∧ True := ho
          obtain ⟨g5, -⟩ := G
          have F : a.tmps[76]?.getD undef = _ ∧ True := hf
          obtain ⟨f15, -⟩ := F
          clear ho hf
          go_simp
          exact hK _ _ (rfl) (Eq.refl _)
        refine And.intro ?_ ?_
        · intro a W hR hf ho K hK
          subst hR
          have F : a.tmps[78]?.getD undef = _ ∧ a.tmps[79]?.getD undef = _ ∧ a.tmps[76]?.getD undef = _ ∧ True := hf
          obtain ⟨f17, f18, f15, -⟩ := F
          clear ho hf
          go_simp
          exact hK _ _ (rfl) (Eq.refl _)
        refine And.intro ?_ ?_
        · intro a W hR hf ho K hK
          subst hR
          have F : a.tmps[80]?.getD undef = _ ∧ a.tmps[76]?.getD undef = _ ∧ True := hf
          obtain ⟨f19, f15, -⟩ := F
          clear ho hf
          go_simp
          exact hK _ _ (rfl) (Eq.refl _)
        refine And.intro ?_ ?_
        · intro a W hR hf ho K hK
          subst hR
          have F : a.tmps[81]?.getD undef = _ ∧ a.tmps[76]?.getD undef = _ ∧ True := hf
          obtain ⟨f20, f15, -⟩ := F
          clear ho hf
          go_simp
          exact hK _ _ (rfl) (Eq.refl _)
        refine And.intro ?_ ?_
        · intro a W hR hf ho K hK
          subst hR
          have G : a.tmps[3]?.getD undef = _ ∧ True := ho
          obtain ⟨g3, -⟩ := G
          have F : a.tmps[76]?.getD undef = _ ∧ True := hf
          obtain ⟨f15, -⟩ := F
          clear ho hf
          go_simp
          exact hK _ _ (rfl) (Eq.refl _)
        refine And.intro ?_ ?_
        · intro a W hR hf ho K hK
          subst hR
          have F : a.tmps[83]?.getD undef = _ ∧ a.tmps[76]?.getD undef = _ ∧ True := hf
          obtain ⟨f22, f15, -⟩ := F
          clear ho hf
          go_simp
          exact hK _ _ (rfl) (Eq.refl _)
        refine And.intro ?_ ?_
        · intro a W hR hf ho K hK
          subst hR
          have G : a.tmps[5]?.getD undef = _ ∧ True := ho
          obtain ⟨g5, -⟩ := G
          have F : a.tmps[76]?.getD undef = _ ∧ True := hf
          obtain ⟨f15, -⟩ := F
          clear ho hf
          go_simp
          exact hK _ _ (rfl) (Eq.refl _)
        refine And.intro ?_ ?_
        · intro a W hR hf ho K hK
          subst hR
          have F : a.tmps[84]?.getD undef = _ ∧ a.tmps[85]?.getD undef = _ ∧ a.tmps[76]?.getD undef = _ ∧ True := hf
          obtain ⟨f23, f24, f15, -⟩ := F
          clear ho hf
          go_simp
          exact hK _ _ (rfl) (Eq.refl _)
        refine And.intro ?_ ?_
        · intro a W hR hf ho K hK
          subst hR
          have F : a.tmps[86]?.getD undef = _ ∧ a.tmps[76]?.getD undef = _ ∧ True := hf
          obtain ⟨f25, f15, -⟩ := F
          clear ho hf
          go_simp
          exact hK _ _ (rfl) (Eq.refl _)
        refine And.intro ?_ ?_
        · intro a W hR hf ho K hK
          subst hR
          have F : a.tmps[87]?.getD undef = _ ∧ a.tmps[76]?.getD undef = _ ∧ True := hf
          obtain ⟨f26, f15, -⟩ := F
          clear ho hf
          go_simp
          exact hK _ _ (rfl) (Eq.refl _)
        refine And.intro ?_ ?_
        · intro a W hR hf ho K hK
          subst hR
          have F : a.tmps[82]?.getD undef = _ ∧ a.tmps[88]?.getD undef = _ ∧ a.tmps[76]?.getD undef = _ ∧ True := hf
          obtain ⟨f21, f27, f15, -⟩ := F
          clear ho hf
          go_simp
          exact hK _ _ (rfl) (Eq.refl _)
        refine And.intro ?_ ?_
        · intro a W hR hf ho K hK
          subst hR
          have F : a.tmps[76]?.getD undef = _ ∧ a.tmps[89]?.getD undef = _ ∧ True := hf
          obtain ⟨f15, f28, -⟩ := F
          clear ho hf
          go_simp
          exact hK _ _ (rfl) (Eq.refl _)
        exact trivial
      case stab =>
        refine And.intro is_stable ?_
        refine And.intro is_stable ?_
        refine And.intro is_stable ?_
        refine And.intro is_stable ?_
        refine And.intro is_stable ?_
        refine And.intro is_stable ?_
        refine And.intro is_stable ?_
        refine And.intro is_stable ?_
        refine And.intro is_stable ?_
        refine And.intro is_stable ?_
        refine And.intro is_stable ?_
        refine And.intro is_stable ?_
        refine And.intro is_stable ?_
        refine And.intro is_stable ?_
        refine And.intro is_stable ?_
        refine And.intro is_stable ?_
        refine And.intro is_stable ?_
        refine And.intro is_stable ?_
        refine And.intro is_stable ?_
        refine And.intro is_stable ?_
        refine And.intro is_stable ?_
        refine And.intro is_stable ?_
        refine And.intro is_stable ?_
        refine And.intro is_stable ?_
        refine And.intro is_stable ?_
        refine And.intro is_stable ?_
        refine And.intro is_stable ?_
        refine And.intro is_stable ?_
        refine And.intro is_stable ?_
        refine And.intro is_stable ?_
        exact trivial
      case ends =>
        intro vals W hR hall
        subst hR
        have e90 : vals 90 = _ := hall 29 (by decide)
        clear hall
        simp only [fill, List.setIfInBounds_toArray, List.set_cons_succ, List.set_cons_zero, e90]
        go_wp2_with fail
        exact ⟨⟨k + 1, n + 1, by omega, by simp, by rw [HV.out]; rfl⟩, by simp [intOf]; omega⟩
    · obtain rfl : k = cs.length := by omega
      go_wp2_with fail
      go_loopw [6] (fun i wr => ∃ k n : Nat, k ≤ ls.length ∧ i = .int .i64 (k : Int) ∧ wr = U.drewN n) (fun i _ => ls.length - (intOf i).toNat)
      case atStart => exact ⟨0, _, Nat.zero_le _, rfl, rfl⟩
      case round =>
        obtain ⟨k, n, hk, rfl, rfl⟩ := hrel
        by_cases hlt2 : k < ls.length
        · obtain ⟨b1, o1, rfl, hb1, q1⟩ := HX.out.1.links.flat (s := 3) (fun _ => rfl) (by decide) hlt2
          obtain ⟨b2, o2, rfl, hb2, q2⟩ := HX.out.2.1.links.flat (s := 3) (fun _ => rfl) (by decide) hlt2
          have x0 := q1 0 _ rfl
          have u0 := q2 0 _ rfl
          have x1 := q1 1 _ rfl
          have u1 := q2 1 _ rfl
          have x2 := q1 2 _ rfl
          have u2 := q2 2 _ rfl
          simp only [Nat.zero_mul, Nat.add_zero] at x0 u0
          generalize ls[k] = c1 at x0 u0 x1 u1 x2 u2
          clear q1 q2
          obtain ⟨V, hV⟩ : ∃ V, V = U.drewN n := ⟨_, rfl⟩
          rw [← hV]
          have eV : Ext U V := by rw [hV]; exact (by repeat first | (with_reducible exact Below.refl _ _) | (with_reducible apply Ext.alloc) | (with_reducible apply Ext.drew) | (with_reducible apply Ext.drewN) | (with_reducible refine Ext.set ?_ (by simp)))
          replace x0 := ext_cell eV _ _ x0
          replace u0 := ext_cell eV _ _ u0
          replace x1 := ext_cell eV _ _ x1
          replace u1 := ext_cell eV _ _ u1
          replace x2 := ext_cell eV _ _ x2
          replace u2 := ext_cell eV _ _ u2
          replace z4 := ext_cell eV _ _ z4
          replace y4 := ext_cell eV _ _ y4
          have HV := Lib.hid hV
          have hltV : w.heap.size + 1 < V.heap.size := Nat.lt_of_lt_of_le hlt eV.size
          clear hV eV
          go_wp2_with fail
          refine wp_region_obl Eq [98, 99, 100, 101, 102, 103, 104, 105, 106, 107, 108] (by kernel_rfl) (fun _ => rfl) (fun _ _ _ => Eq.trans) (by kernel_rfl) (by kernel_rfl) ?_
          apply ex_is; apply Exists.intro
          apply ex_is; apply Exists.intro
          apply ex_is; apply Exists.intro
          apply ex_is; apply Exists.intro
          apply ex_is; apply Exists.intro
          apply ex_is; apply Exists.intro
          apply ex_is; apply Exists.intro
          apply ex_is; apply Exists.intro
          apply ex_is; apply Exists.intro
          apply ex_is; apply Exists.intro
          apply ex_is; apply Exists.intro
          refine ⟨[], ⟨?steps, ?stab, ?ends⟩⟩
          case steps =>
            refine And.intro ?_ ?_
            · intro a W hR hf ho K hK
              subst hR
              have G : a.tmps[2]?.getD undef = _ ∧ True := ho
              obtain ⟨g2, -⟩ := G
              clear ho hf
              go_simp
              exact hK _ _ (rfl) (Eq.refl _)
            refine And.intro ?_ ?_
            · intro a W hR hf ho K hK
              subst hR
              have F : a.tmps[98]?.getD undef = _ ∧ True := hf
              obtain ⟨f0, -⟩ := F
              clear ho hf
              go_simp
              exact hK _ _ (rfl) (Eq.refl _)
            refine And.intro ?_ ?_
            · intro a W hR hf ho K hK
              subst hR
              have G : a.tmps[6]?.getD undef = _ ∧ True := ho
              obtain ⟨g6, -⟩ := G
              clear ho hf
              go_simp
              exact hK _ _ (rfl) (Eq.refl _)
            refine And.intro ?_ ?_
            · intro a W hR hf ho K hK
              subst hR
              have F : a.tmps[99]?.getD undef = _ ∧ a.tmps[100]?.getD undef = _ ∧ True := hf
              obtain ⟨f1, f2, -⟩ := F
              clear ho hf
              go_simp
              exact hK _ _ (rfl) (Eq.refl _)
            refine And.intro ?_ ?_
            · intro a W hR hf ho K hK
              subst hR
              have F : a.tmps[101]?.getD undef = _ ∧ True := hf
              obtain ⟨f3, -⟩ := F
              clear ho hf
              go_simp
              exact hK _ _ (rfl) (Eq.refl _)
            refine And.intro ?_ ?_
            · intro a W hR hf ho K hK
              subst hR
              have G : a.tmps[3]?.getD undef = _ ∧ True := ho
              obtain ⟨g3, -⟩ := G
              clear ho hf
              go_simp
              exact hK _ _ (rfl) (Eq.refl _)
            refine And.intro ?_ ?_
            · intro a W hR hf ho K hK
              subst hR
              have F : a.tmps[103]?.getD undef = _ ∧ True := hf
              obtain ⟨f5, -⟩ := F
              clear ho hf
              go_simp
              exact hK _ _ (rfl) (Eq.refl _)
            refine And.intro ?_ ?_
            · intro a W hR hf ho K hK
              subst hR
              have G : a.tmps[6]?.getD undef = _ ∧ True := ho
              obtain ⟨g6, -⟩ := G
              clear ho hf
              go_simp
              exact hK _ _ (rfl) (Eq.refl _)
            refine And.intro ?_ ?_
            · intro a W hR hf ho K hK
              subst hR
              have F : a.tmps[104]?.getD undef = _ ∧ a.tmps[105]?.getD undef = _ ∧ True := hf
              obtain ⟨f6, f7, -⟩ := F
              clear ho hf
              go_simp
              exact hK _ _ (rfl) (Eq.refl _)
            refine And.intro ?_ ?_
            · intro a W hR hf ho K hK
              subst hR
              have F : a.tmps[106]?.getD undef = _ ∧ True := hf
              obtain ⟨f8, -⟩ := F
              clear ho hf
              go_simp
              exact hK _ _ (rfl) (Eq.refl _)
            refine And.intro ?_ ?_
            · intro a W hR hf ho K hK
              subst hR
              have F : a.tmps[102]?.getD undef = _ ∧ a.tmps[107]?.getD undef = _ ∧ True := hf
              obtain ⟨f4, f9, -⟩ := F
              clear ho hf
              go_simp
              exact hK _ _ (rfl) (Eq.refl _)
            exact trivial
          case stab =>
            refine And.intro is_stable ?_
            refine And.intro is_stable ?_
            refine And.intro is_stable ?_
            refine And.intro is_stable ?_
            refine And.intro is_stable ?_
            refine And.intro is_stable ?_
            refine And.intro is_stable ?_
            refine And.intro is_stable ?_
            refine And.intro is_stable ?_
            refine And.intro is_stable ?_
            refine And.intro is_stable ?_
            exact trivial
          case ends =>
            intro vals W hR hall
            subst hR
            have e108 : vals 108 = _ := hall 10 (by decide)
            clear hall
            simp only [fill, List.setIfInBounds_toArray, List.set_cons_succ, List.set_cons_zero, e108]
            go_wp2_with fail
            exact ⟨⟨k + 1, n + 1, by omega, by simp, by rw [HV.out]; rfl⟩, by simp [intOf]; omega⟩
        · obtain rfl : k = ls.length := by omega
          go_wp2_with fail
          go_loopw [7] (fun i wr => ∃ k n : Nat, k ≤ ss.length ∧ i = .int .i64 (k : Int) ∧ wr = U.drewN n) (fun i _ => ss.length - (intOf i).toNat)
          case atStart => exact ⟨0, _, Nat.zero_le _, rfl, rfl⟩
          case round =>
            obtain ⟨k, n, hk, rfl, rfl⟩ := hrel
            by_cases hlt2 : k < ss.length
            · obtain ⟨b1, o1, rfl, hb1, q1⟩ := HX.out.1.shares.flat (s := 2) (fun _ => rfl) (by decide) hlt2
              obtain ⟨b2, o2, rfl, hb2, q2⟩ := HX.out.2.1.shares.flat (s := 2) (fun _ => rfl) (by decide) hlt2
              have x0 := q1 0 _ rfl
              have u0 := q2 0 _ rfl
              have x1 := q1 1 _ rfl
              have u1 := q2 1 _ rfl
              simp only [Nat.zero_mul, Nat.add_zero] at x0 u0
              generalize ss[k] = c1 at x0 u0 x1 u1
              clear q1 q2
              obtain ⟨V, hV⟩ : ∃ V, V = U.drewN n := ⟨_, rfl⟩
              rw [← hV]
              have eV : Ext U V := by rw [hV]; exact (by repeat first | (with_reducible exact Below.refl _ _) | (with_reducible apply Ext.alloc) | (with_reducible apply Ext.drew) | (with_reducible apply Ext.drewN) | (with_reducible refine Ext.set ?_ (by simp)))
              replace x0 := ext_cell eV _ _ x0
              replace u0 := ext_cell eV _ _ u0
              replace x1 := ext_cell eV _ _ x1
              replace u1 := ext_cell eV _ _ u1
              replace z5 := ext_cell eV _ _ z5
              replace y5 := ext_cell eV _ _ y5
              have HV := Lib.hid hV
              have hltV : w.heap.size + 1 < V.heap.size := Nat.lt_of_lt_of_le hlt eV.size
              clear hV eV
              go_wp2_with fail
              refine wp_region_obl Eq [116, 117, 118, 119, 120, 121, 122, 123, 124, 125, 126] (by kernel_rfl) (fun _ => rfl) (fun _ _ _ => Eq.trans) (by kernel_rfl) (by kernel_rfl) ?_
              apply ex_is; apply Exists.intro
              apply ex_is; apply Exists.intro
              apply ex_is; apply Exists.intro
              apply ex_is; apply Exists.intro
              apply ex_is; apply Exists.intro
              apply ex_is; apply Exists.intro
              apply ex_is; apply Exists.intro
              apply ex_is; apply Exists.intro
              apply ex_is; apply Exists.intro
              apply ex_is; apply Exists.intro
              apply ex_is; apply Exists.intro
              refine ⟨[], ⟨?steps, ?stab, ?ends⟩⟩
              case steps =>
                refine And.intro ?_ ?_
                · intro a W hR hf ho K hK
                  subst hR
                  have G : a.tmps[2]?.getD undef = _ ∧ True := ho
                  obtain ⟨g2, -⟩ := G
                  clear ho hf
                  go_simp
                  exact hK _ _ (rfl) (Eq.refl _)
                refine And.intro ?_ ?_
                · intro a W hR hf ho K hK
                  subst hR
                  have F : a.tmps[116]?.getD undef = _ ∧ True := hf
                  obtain ⟨f0, -⟩ := F
                  clear ho hf
                  go_simp
                  exact hK _ _ (rfl) (Eq.refl _)
                refine And.intro ?_ ?_
                · intro a W hR hf ho K hK
                  subst hR
                  have G : a.tmps[7]?.getD undef = _ ∧ True := ho
                  obtain ⟨g7, -⟩ := G
                  clear ho hf
                  go_simp
                  exact hK _ _ (rfl) (Eq.refl _)
                refine And.intro ?_ ?_
                · intro a W hR hf ho K hK
                  subst hR
                  have F : a.tmps[117]?.getD undef = _ ∧ a.tmps[118]?.getD undef = _ ∧ True := hf
                  obtain ⟨f1, f2, -⟩ := F
                  clear ho hf
                  go_simp
                  exact hK _ _ (rfl) (Eq.refl _)
                refine And.intro ?_ ?_
                · intro a W hR hf ho K hK
                  subst hR
                  have F : a.tmps[119]?.getD undef = _ ∧ True := hf
                  obtain ⟨f3, -⟩ := F
                  clear ho hf
                  go_simp
                  exact hK _ _ (rfl) (Eq.refl _)
                refine And.intro ?_ ?_
                · intro a W hR hf ho K hK
                  subst hR
                  have G : a.tmps[3]?.getD undef = _ ∧ True := ho
                  obtain ⟨g3, -⟩ := G
                  clear ho hf
                  go_simp
                  exact hK _ _ (rfl) (Eq.refl _)
                refine And.intro ?_ ?_
                · intro a W hR hf ho K hK
                  subst hR
                  have F : a.tmps[121]?.getD undef = _ ∧ True := hf
                  obtain ⟨f5, -⟩ := F
                  clear ho hf
                  go_simp
                  exact hK _ _ (rfl) (Eq.refl _)
                refine And.intro ?_ ?_
                · intro a W hR hf ho K hK
                  subst hR
                  have G : a.tmps[7]?.getD undef = _ ∧ True := ho
                  obtain ⟨g7, -⟩ := G
                  clear ho hf
                  go_simp
                  exact hK _ _ (rfl) (Eq.refl _)
                refine And.intro ?_ ?_
                · intro a W hR hf ho K hK
                  subst hR
                  have F : a.tmps[122]?.getD undef = _ ∧ a.tmps[123]?.getD undef = _ ∧ True := hf
                  obtain ⟨f6, f7, -⟩ := F
                  clear ho hf
                  go_simp
                  exact hK _ _ (rfl) (Eq.refl _)
                refine And.intro ?_ ?_
                · intro a W hR hf ho K hK
                  subst hR
                  have F : a.tmps[124]?.getD undef = _ ∧ True := hf
                  obtain ⟨f8, -⟩ := F
                  clear ho hf
                  go_simp
                  exact hK _ _ (rfl) (Eq.refl _)
                refine And.intro ?_ ?_
                · intro a W hR hf ho K hK
                  subst hR
                  have F : a.tmps[120]?.getD undef = _ ∧ a.tmps[125]?.getD undef = _ ∧ True := hf
                  obtain ⟨f4, f9, -⟩ := F
                  clear ho hf
                  go_simp
                  exact hK _ _ (rfl) (Eq.refl _)
                exact trivial
              case stab =>
                refine And.intro is_stable ?_
                refine And.intro is_stable ?_
                refine And.intro is_stable ?_
                refine And.intro is_stable ?_
                refine And.intro is_stable ?_
                refine And.intro is_stable ?_
                refine And.intro is_stable ?_
                refine And.intro is_stable ?_
                refine And.intro is_stable ?_
                refine And.intro is_stable ?_
                refine And.intro is_stable ?_
                exact trivial
              case ends =>
                intro vals W hR hall
                subst hR
                have e126 : vals 126 = _ := hall 10 (by decide)
                clear hall
                simp only [fill, List.setIfInBounds_toArray, List.set_cons_succ, List.set_cons_zero, e126]
                go_wp2_with fail
                exact ⟨⟨k + 1, n + 1, by omega, by simp, by rw [HV.out]; rfl⟩, by simp [intOf]; omega⟩
            · obtain rfl : k = ss.length := by omega
              go_wp2_with fail
              go_ret
              exact ⟨rfl, HE.out.then (by repeat first | (with_reducible exact Below.refl _ _) | (with_reducible apply Ext.alloc) | (with_reducible apply Ext.drew) | (with_reducible apply Ext.drewN) | (with_reducible refine Ext.set ?_ (by simp)))⟩
theorem same_img (x y : ImgM) (w : World) (h : ImgAt w x) (h' : ImgAt w y) (hd : x.d = y.d) : Calls Try.prog 18 #[x.val, y.val] w fun e w' => e = .returned (.bool true) ∧ Ext w w' := by
  obtain ⟨st, hp, fu, Ac, cc, cs, Al, cl, ls, As, cS, ss⟩ := x
  obtain ⟨st', hp', fu', Bc, dc, ds, Bl, dl, ls', Bs, dS, ss'⟩ := y
  unfold ImgM.d at hd
  simp only [ImgD.mk.injEq] at hd
  obtain ⟨rfl, rfl, rfl, hc, rfl, rfl⟩ := hd
  have hlen : ds.length = cs.length := by have := congrArg List.length hc; simpa using this.symm
  have := same_at st hp fu Ac Bc cc dc cs ds Al Bl cl dl ls As Bs cS dS ss w h h' hc
  unfold ImgM.val
  dsimp only
  rw [hlen]
  exact this
end Go.Proofs.Ytgfnpcoigooblaa


/- Package image: grant, Grants, Pairs. -/
import Derived.Test.YtgfnpcoigooblaaCap
import Derived.Test.YtgfnpcoigooblaaWhere
import Derived.Test.YtgfnpcoigooblaaBits64
import Derived.Deep.DeepCutAuto
set_option linter.all false
namespace Go.Proofs.Ytgfnpcoigooblaa
open Go.RowKit
attribute [local go_sem] seen dstOf boolOf

def grantD (a b p : Int) : Cap := ⟨true, a, b, a, p, 0⟩
set_option maxHeartbeats 1000000 in
set_option maxRecDepth 100000 in
theorem grant_img (a b p : Int) (w : World) : Calls Try.prog 45 #[.agg #[.int .i64 a, .int .i64 b], .int .i64 p] w fun e w' => e = .returned (grantD a b p).val ∧ Ext w w' := by
  go_enter Try.func45, Try.ntmps45
  go_wp2_with fail
  refine bodyPost_ret (v := (grantD a b p).val) (by simp [results, Try.results45, go_sem, grantD]) rfl ⟨rfl, (by repeat first | (with_reducible exact Below.refl _ _) | (with_reducible apply Ext.alloc) | (with_reducible apply Ext.drew) | (with_reducible apply Ext.drewN) | (with_reducible refine Ext.set ?_ (by simp)))⟩
def bitT (n k : Int) : Bool := decide (n / 2 ^ k.toNat % 2 = 1)
/-- A shared page's, if it is one's. -/
def shareG (k : Int) (y : LayD) (s : ShareM) (i : Nat) : List Cap := if bitT s.rd k then [grantD (y.shares.getD i 0) (y.shares.getD i 0 + 256) (if bitT s.wr k then 3 else 1)] else []
def shareGs (k : Int) (y : LayD) (ss : List ShareM) : Nat → List Cap
  | 0 => []
  | n + 1 => shareGs k y ss n ++ (match ss[n]? with | some s => shareG k y s n | none => [])
theorem shareGs_len (k : Int) (y : LayD) (ss : List ShareM) : ∀ n, (shareGs k y ss n).length ≤ n
  | 0 => Nat.le_refl _
  | n + 1 => by
    have h := shareGs_len k y ss n
    rw [shareGs, List.length_append]
    split
    · unfold shareG
      split
      · simp; omega
      · simp; omega
    · simp; omega
theorem bit_test {n : Int} {k : Nat} (h0 : 0 ≤ n) (h1 : n < 9223372036854775808) : (bits .and .i64 (n / 2 ^ k) 1 == 1) = bitT n k := by
  have hp : (0 : Int) < 2 ^ k := Int.pow_pos (by decide)
  have h2 : 0 ≤ n / 2 ^ k := Int.ediv_nonneg h0 (Int.le_of_lt hp)
  have h3 : n / 2 ^ k ≤ n := Int.ediv_le_self _ h0
  rw [and_one _ h2 (by omega), bitT, Int.toNat_natCast, Bool.eq_iff_iff, beq_iff_eq, decide_eq_true_iff]
def grants3 (k : Int) (y : LayD) : List Cap := [grantD (y.code.getD k.toNat (0, 0)).1 (y.code.getD k.toNat (0, 0)).2 5, grantD (y.data.getD k.toNat (0, 0)).1 (y.data.getD k.toNat (0, 0)).2 27, grantD (16 + k) (16 + k + 1) 96]
def grantsD (x : ImgD) (k : Int) : List Cap := if rightD x = true ∧ 0 ≤ k ∧ k < x.comps.length then grants3 k (whereD x) ++ shareGs k (whereD x) x.shares x.shares.length else []
set_option maxHeartbeats 4000000 in
set_option maxRecDepth 100000 in
theorem grants_at (st : Bool) (hp fu : Int) (Ac : Option Addr) (cc : Nat) (cs : List CompM) (Al : Option Addr) (cl : Nat) (ls : List LinkM) (As : Option Addr) (cS : Nat) (ss : List ShareM) (w : World) (k : Nat) (hk : k < cs.length) (h : ImgAt w ⟨st, hp, fu, Ac, cc, cs, Al, cl, ls, As, cS, ss⟩) (hn1 : cs.length ≤ 4) (hn3 : ss.length ≤ 4) (hs : ∀ s ∈ ss, 0 ≤ s.rd ∧ s.rd ≤ 15 ∧ 0 ≤ s.wr ∧ s.wr < 9223372036854775808)
    (hr : ∀ w, ImgAt w ⟨st, hp, fu, Ac, cc, cs, Al, cl, ls, As, cS, ss⟩ → Calls Try.prog 14 #[.agg #[.bool st, .int .i64 hp, .int .i64 fu, .slice Ac cs.length cc, .slice Al ls.length cl, .slice As ss.length cS]] w fun e w' => e = .returned (.bool true) ∧ Ext w w')
    (hw : ∀ w, ImgAt w ⟨st, hp, fu, Ac, cc, cs, Al, cl, ls, As, cS, ss⟩ → Calls Try.prog 22 #[.agg #[.bool st, .int .i64 hp, .int .i64 fu, .slice Ac cs.length cc, .slice Al ls.length cl, .slice As ss.length cS]] w fun e w' => ∃ y : LayM, LayAt w' y ∧ y.d = whereD ⟨st, hp, fu, cs.map CompM.d, ls, ss⟩ ∧ e = .returned y.val ∧ Ext w w')
    (hy : ∀ y : LayM, y.d = whereD ⟨st, hp, fu, cs.map CompM.d, ls, ss⟩ → y.code.length = cs.length ∧ y.data.length = cs.length ∧ y.heap.length = cs.length ∧ y.shares.length = ss.length ∧ ∀ i ∈ y.shares, 0 ≤ i ∧ i ≤ 10000000) :
    Calls Try.prog 25 #[.agg #[.bool st, .int .i64 hp, .int .i64 fu, .slice Ac cs.length cc, .slice Al ls.length cl, .slice As ss.length cS], .int .i64 k] w (GivesC w (grants3 k (whereD ⟨st, hp, fu, cs.map CompM.d, ls, ss⟩) ++ shareGs k (whereD ⟨st, hp, fu, cs.map CompM.d, ls, ss⟩) ss ss.length)) := by
  have H := Lib.hid h
  have HR := Lib.hid hr
  have HW := Lib.hid hw
  have HY := Lib.hid hy
  have HSS := Lib.hid hs
  have hk0 : decide ((k : Int) < 0) = false := decide_eq_false (by omega)
  have hk1 : decide ((k : Int) ≥ cs.length) = false := decide_eq_false (by omega)
  have hk2 : decide (cs.length ≤ k) = false := decide_eq_false (by omega)
  clear h hr hw hs hy
  go_enter Try.func25, Try.ntmps25
  go_wp2_with fail
  refine (HR.out _ (H.out.ext (by repeat first | (with_reducible exact Below.refl _ _) | (with_reducible apply Ext.alloc) | (with_reducible apply Ext.drew) | (with_reducible apply Ext.drewN) | (with_reducible refine Ext.set ?_ (by simp))))).mono ?_
  rintro e w2 ⟨rfl, hb2⟩
  have I2 := new1 hb2
  have E2 : Ext w w2 := Ext.then (by repeat first | (with_reducible exact Below.refl _ _) | (with_reducible apply Ext.alloc) | (with_reducible apply Ext.drew) | (with_reducible apply Ext.drewN) | (with_reducible refine Ext.set ?_ (by simp))) hb2
  obtain ⟨z0, z1, z2, z3, z4, z5⟩ := lie6 I2 (Below.refl _ w2)
  have hlt : w.heap.size < w2.heap.size := by have := hb2.size; simp at this; omega
  have HI := Lib.hid (And.intro I2 E2)
  clear I2 E2 hb2
  go_wp2_with fail
  refine (HW.out _ (H.out.ext HI.out.2)).mono ?_
  rintro _ w3 ⟨y, hyA, hyd, rfl, hE3⟩
  have hyl := HY.out y hyd
  have HD := Lib.hid (And.intro hyA (And.intro hyd hE3))
  clear hyA hyd hE3
  go_wp2_with fail
  obtain ⟨hc1, hc2, hc3, hc4, hc5⟩ := hyl
  obtain ⟨U0, hu⟩ : ∃ U0, U0 = w3.alloc (.cells #[.slice y.Ac cs.length y.kc, .slice y.Ad cs.length y.kd, .slice y.Ah cs.length y.kh, .slice y.As ss.length y.ks, .int .i64 y.pages] 45) := ⟨_, rfl⟩
  rw [← hu]
  have e3u : Ext w3 U0 := by rw [hu]; exact (by repeat first | (with_reducible exact Below.refl _ _) | (with_reducible apply Ext.alloc) | (with_reducible apply Ext.drew) | (with_reducible apply Ext.drewN) | (with_reducible refine Ext.set ?_ (by simp)))
  have lu : U0.heap[w3.heap.size]? = some (.cells #[.slice y.Ac cs.length y.kc, .slice y.Ad cs.length y.kd, .slice y.Ah cs.length y.kh, .slice y.As ss.length y.ks, .int .i64 y.pages] 45) := by rw [hu]; exact heap_alloc_new _ _
  obtain ⟨bc, oc, hAc, hbc, qc⟩ := (HD.out.1.code.ext e3u).flat (s := 2) (f := pairC) (fun _ => rfl) (by decide) (k := k) (by omega)
  obtain ⟨bd, od, hAd, hbd, qd⟩ := (HD.out.1.data.ext e3u).flat (s := 2) (f := pairC) (fun _ => rfl) (by decide) (k := k) (by omega)
  have x0 := qc 0 _ rfl
  have x1 := qc 1 _ rfl
  have x2 := qd 0 _ rfl
  have x3 := qd 1 _ rfl
  simp only [Nat.add_zero] at x0 x2
  have hg3 : grants3 (k : Int) (whereD ⟨st, hp, fu, cs.map CompM.d, ls, ss⟩) = [grantD y.code[k].1 y.code[k].2 5, grantD y.data[k].1 y.data[k].2 27, grantD (16 + k) (16 + k + 1) 96] := by
    rw [← HD.out.2.1]
    unfold grants3
    simp [LayM.d, List.getD, List.getElem?_eq_getElem (show k < y.code.length by omega), List.getElem?_eq_getElem (show k < y.data.length by omega)]
  have HG := Lib.hid hg3
  have HU := Lib.hid (And.intro e3u (And.intro lu (And.intro hAc hAd)))
  have HX := Lib.hid (And.intro x0 (And.intro x1 (And.intro x2 x3)))
  have hu3 : w3.heap.size < U0.heap.size := (Array.getElem?_eq_some_iff.1 lu).1
  generalize hp1 : y.code[k] = pc at x0 x1 hg3 HX HG
  generalize hp2 : y.data[k] = pd at x2 x3 hg3 HX HG
  clear hp1 hp2 hg3 e3u lu x0 x1 x2 x3 qc qd hc1 hc2 hc3
  have hw1 : IntKind.i64.wrap (16 + (k : Int)) = 16 + k := IntWalk.i64_in _ (by omega)
  have hw2 : IntKind.i64.wrap (16 + (k : Int) + 1) = 16 + k + 1 := IntWalk.i64_in _ (by omega)
  refine wp_region_res (Ext) [⟨some 19, [(19, [])], [20]⟩, ⟨some 20, [(20, [])], []⟩] [(fun (u : Nat → Value) (W : World) => (fun (v : Value) (W : World) => W.ownsRow U0.heap.size 39 6 v 3 (capCells [grantD pc.1 pc.2 5, grantD pd.1 pd.2 27, grantD (16 + k) (16 + k + 1) 96])) (u 19) W), (fun (u : Nat → Value) (W : World) => (fun (v : Value) (W : World) => W.ownsRow U0.heap.size 39 6 v 3 (capCells [grantD pc.1 pc.2 5, grantD pd.1 pd.2 27, grantD (16 + k) (16 + k + 1) 96])) (u 20) W)] [⟨[], [.early [5, 4, 3, 1, 0], .early [0]]⟩, ⟨[], [.early [5, 4, 3, 1], .early [1]]⟩, ⟨[], [.early [5, 4, 3, 2], .early [2]]⟩, ⟨[], [.early [5, 4, 3], .early [3]]⟩, ⟨[], [.early [5, 4], .early [4]]⟩, ⟨[], [.early [5], .early [5]]⟩, ⟨[], [.early [11, 10, 9, 7, 6], .early [6]]⟩, ⟨[], [.early [11, 10, 9, 7], .early [7]]⟩, ⟨[], [.early [11, 10, 9, 8], .early [8]]⟩, ⟨[], [.early [11, 10, 9], .early [9]]⟩, ⟨[], [.early [11, 10], .early [10]]⟩, ⟨[], [.early [11], .early [11]]⟩, ⟨[], [.early [18, 17, 13, 12], .early [12]]⟩, ⟨[], [.early [18, 17, 13], .early [13]]⟩, ⟨[], [.early [18, 17, 16, 15, 14], .early [14]]⟩, ⟨[], [.early [18, 17, 16, 15], .early [15]]⟩, ⟨[], [.early [18, 17, 16], .early [16]]⟩, ⟨[], [.early [18, 17], .early [17]]⟩, ⟨[], [.early [18], .early [18]]⟩, ⟨[], [.last, .early [19]]⟩, ⟨[(0, [19])], [.late [[]], .last]⟩] [26, 27, 28, 29, 30, 31, 32, 33, 34, 35, 36, 37, 38, 39, 40, 41, 42, 43, 44, 45, 6] (by kernel_rfl) (fun _ => Below.refl _ _) (fun _ _ _ => Ext.then) (by kernel_rfl) (by kernel_rfl) (by kernel_rfl) (by kernel_rfl) (by kernel_rfl) ?start ?_
  case start =>
    exact trivial
  apply ex_is; apply Exists.intro
  apply ex_is; apply Exists.intro
  apply ex_is; apply Exists.intro
  apply ex_is; apply Exists.intro
  apply ex_is; apply Exists.intro
  apply ex_is; apply Exists.intro
  apply ex_is; apply Exists.intro
  apply ex_is; apply Exists.intro
  apply ex_is; apply Exists.intro
  apply ex_is; apply Exists.intro
  apply ex_is; apply Exists.intro
  apply ex_is; apply Exists.intro
  apply ex_is; apply Exists.intro
  apply ex_is; apply Exists.intro
  apply ex_is; apply Exists.intro
  apply ex_is; apply Exists.intro
  apply ex_is; apply Exists.intro
  apply ex_is; apply Exists.intro
  apply ex_is; apply Exists.intro
  refine ex_phi (fun _ _ => True) ?_
  refine ex_phi (fun _ _ => True) ?_
  refine ⟨[], ⟨?steps, ?stab, ?ends⟩⟩
  case steps =>
    refine And.intro (obX_pure (fun _ => Below.refl _ _) ?_) ?_
    · intro act W hR hf ho hu K hK
      replace hR := ext_drew hR
      replace hK := fun v h2 => hK v W rfl h2 trivial
      have G : act.tmps[5]?.getD undef = _ ∧ True := ho
      obtain ⟨g5, -⟩ := G
      clear ho hf hu
      go_simp
      exact hK _ (Eq.refl _)
    refine And.intro (obX_pure (fun _ => Below.refl _ _) ?_) ?_
    · intro act W hR hf ho hu K hK
      replace hR := ext_drew hR
      replace hK := fun v h2 => hK v W rfl h2 trivial
      have F : act.tmps[26]?.getD undef = _ ∧ True := hf
      obtain ⟨f0, -⟩ := F
      clear ho hf hu
      obtain ⟨y0, y1, y2, y3, y4⟩ := lie5 HU.out.2.1 hR
      go_simp
      exact hK _ (Eq.refl _)
    refine And.intro (obX_pure (fun _ => Below.refl _ _) ?_) ?_
    · intro act W hR hf ho hu K hK
      replace hR := ext_drew hR
      replace hK := fun v h2 => hK v W rfl h2 trivial
      have G : act.tmps[1]?.getD undef = _ ∧ True := ho
      obtain ⟨g1, -⟩ := G
      clear ho hf hu
      go_simp
      exact hK _ (Eq.refl _)
    refine And.intro (obX_pure (fun _ => Below.refl _ _) ?_) ?_
    · intro act W hR hf ho hu K hK
      replace hR := ext_drew hR
      replace hK := fun v h2 => hK v W rfl h2 trivial
      have F : act.tmps[27]?.getD undef = _ ∧ act.tmps[28]?.getD undef = _ ∧ True := hf
      obtain ⟨f1, f2, -⟩ := F
      clear ho hf hu
      go_simp
      exact hK _ (Eq.refl _)
    refine And.intro (obX_pure (fun _ => Below.refl _ _) ?_) ?_
    · intro act W hR hf ho hu K hK
      replace hR := ext_drew hR
      replace hK := fun v h2 => hK v W rfl h2 trivial
      have F : act.tmps[29]?.getD undef = _ ∧ True := hf
      obtain ⟨f3, -⟩ := F
      clear ho hf hu
      have x0 := ext_cell hR _ _ HX.out.1; have x1 := ext_cell hR _ _ HX.out.2.1
      go_simp
      exact hK _ (Eq.refl _)
    refine And.intro (obX_eff (Ext) (fun _ _ h => h) (trivial) ?_) ?_
    · intro act W hR hf ho hu K hK
      replace hR := ext_drew hR
      replace hK := fun v (w' : World) (h1 : (Ext) W w') h2 => hK v w' h1 h2 trivial
      have F : act.tmps[30]?.getD undef = _ ∧ True := hf
      obtain ⟨f4, -⟩ := F
      clear ho hf hu
      go_simp
      refine (grant_img _ _ _ _).mono ?_; rintro _ W1 ⟨rfl, hE⟩; exact hK _ _ hE (Eq.refl _)
    refine And.intro (obX_pure (fun _ => Below.refl _ _) ?_) ?_
    · intro act W hR hf ho hu K hK
      replace hR := ext_drew hR
      replace hK := fun v h2 => hK v W rfl h2 trivial
      have G : act.tmps[5]?.getD undef = _ ∧ True := ho
      obtain ⟨g5, -⟩ := G
      clear ho hf hu
      go_simp
      exact hK _ (Eq.refl _)
    refine And.intro (obX_pure (fun _ => Below.refl _ _) ?_) ?_
    · intro act W hR hf ho hu K hK
      replace hR := ext_drew hR
      replace hK := fun v h2 => hK v W rfl h2 trivial
      have F : act.tmps[32]?.getD undef = _ ∧ True := hf
      obtain ⟨f6, -⟩ := F
      clear ho hf hu
      obtain ⟨y0, y1, y2, y3, y4⟩ := lie5 HU.out.2.1 hR
      go_simp
      exact hK _ (Eq.refl _)
    refine And.intro (obX_pure (fun _ => Below.refl _ _) ?_) ?_
    · intro act W hR hf ho hu K hK
      replace hR := ext_drew hR
      replace hK := fun v h2 => hK v W rfl h2 trivial
      have G : act.tmps[1]?.getD undef = _ ∧ True := ho
      obtain ⟨g1, -⟩ := G
      clear ho hf hu
      go_simp
      exact hK _ (Eq.refl _)
    refine And.intro (obX_pure (fun _ => Below.refl _ _) ?_) ?_
    · intro act W hR hf ho hu K hK
      replace hR := ext_drew hR
      replace hK := fun v h2 => hK v W rfl h2 trivial
      have F : act.tmps[33]?.getD undef = _ ∧ act.tmps[34]?.getD undef = _ ∧ True := hf
      obtain ⟨f7, f8, -⟩ := F
      clear ho hf hu
      go_simp
      exact hK _ (Eq.refl _)
    refine And.intro (obX_pure (fun _ => Below.refl _ _) ?_) ?_
    · intro act W hR hf ho hu K hK
      replace hR := ext_drew hR
      replace hK := fun v h2 => hK v W rfl h2 trivial
      have F : act.tmps[35]?.getD undef = _ ∧ True := hf
      obtain ⟨f9, -⟩ := F
      clear ho hf hu
      have x0 := ext_cell hR _ _ HX.out.2.2.1; have x1 := ext_cell hR _ _ HX.out.2.2.2
      go_simp
      exact hK _ (Eq.refl _)
    refine And.intro (obX_eff (Ext) (fun _ _ h => h) (trivial) ?_) ?_
    · intro act W hR hf ho hu K hK
      replace hR := ext_drew hR
      replace hK := fun v (w' : World) (h1 : (Ext) W w') h2 => hK v w' h1 h2 trivial
      have F : act.tmps[36]?.getD undef = _ ∧ act.tmps[31]?.getD undef = _ ∧ True := hf
      obtain ⟨f10, f5, -⟩ := F
      clear ho hf hu
      go_simp
      refine (grant_img _ _ _ _).mono ?_; rintro _ W1 ⟨rfl, hE⟩; exact hK _ _ hE (Eq.refl _)
    refine And.intro (obX_pure (fun _ => Below.refl _ _) ?_) ?_
    · intro act W hR hf ho hu K hK
      replace hR := ext_drew hR
      replace hK := fun v h2 => hK v W rfl h2 trivial
      have G : act.tmps[1]?.getD undef = _ ∧ True := ho
      obtain ⟨g1, -⟩ := G
      clear ho hf hu
      go_simp
      exact hK _ (Eq.refl _)
    refine And.intro (obX_pure (fun _ => Below.refl _ _) ?_) ?_
    · intro act W hR hf ho hu K hK
      replace hR := ext_drew hR
      replace hK := fun v h2 => hK v W rfl h2 trivial
      have F : act.tmps[38]?.getD undef = _ ∧ True := hf
      obtain ⟨f12, -⟩ := F
      clear ho hf hu
      go_simp
      exact hK _ (Eq.refl _)
    refine And.intro (obX_pure (fun _ => Below.refl _ _) ?_) ?_
    · intro act W hR hf ho hu K hK
      replace hR := ext_drew hR
      replace hK := fun v h2 => hK v W rfl h2 trivial
      have G : act.tmps[1]?.getD undef = _ ∧ True := ho
      obtain ⟨g1, -⟩ := G
      clear ho hf hu
      go_simp
      exact hK _ (Eq.refl _)
    refine And.intro (obX_pure (fun _ => Below.refl _ _) ?_) ?_
    · intro act W hR hf ho hu K hK
      replace hR := ext_drew hR
      replace hK := fun v h2 => hK v W rfl h2 trivial
      have F : act.tmps[40]?.getD undef = _ ∧ True := hf
      obtain ⟨f14, -⟩ := F
      clear ho hf hu
      go_simp
      exact hK _ (Eq.refl _)
    refine And.intro (obX_pure (fun _ => Below.refl _ _) ?_) ?_
    · intro act W hR hf ho hu K hK
      replace hR := ext_drew hR
      replace hK := fun v h2 => hK v W rfl h2 trivial
      have F : act.tmps[41]?.getD undef = _ ∧ True := hf
      obtain ⟨f15, -⟩ := F
      clear ho hf hu
      go_simp
      exact hK _ (Eq.refl _)
    refine And.intro (obX_pure (fun _ => Below.refl _ _) ?_) ?_
    · intro act W hR hf ho hu K hK
      replace hR := ext_drew hR
      replace hK := fun v h2 => hK v W rfl h2 trivial
      have F : act.tmps[39]?.getD undef = _ ∧ act.tmps[42]?.getD undef = _ ∧ True := hf
      obtain ⟨f13, f16, -⟩ := F
      clear ho hf hu
      go_simp
      exact hK _ (Eq.refl _)
    refine And.intro (obX_eff (Ext) (fun _ _ h => h) (trivial) ?_) ?_
    · intro act W hR hf ho hu K hK
      replace hR := ext_drew hR
      replace hK := fun v (w' : World) (h1 : (Ext) W w') h2 => hK v w' h1 h2 trivial
      have F : act.tmps[43]?.getD undef = _ ∧ act.tmps[37]?.getD undef = _ ∧ True := hf
      obtain ⟨f17, f11, -⟩ := F
      clear ho hf hu
      go_simp
      refine (grant_img _ _ _ _).mono ?_; rintro _ W1 ⟨rfl, hE⟩; exact hK _ _ hE (Eq.refl _)
    refine And.intro (obX_eff (Ext) (fun _ _ h => h) (trivial) ?_) ?_
    · intro act W hR hf ho hu K hK
      replace hR := ext_drew hR
      replace hK := fun v (w' : World) (h1 : (Ext) W w') (b0 : (fun (v : Value) (W : World) => W.ownsRow U0.heap.size 39 6 v 3 (capCells [grantD pc.1 pc.2 5, grantD pd.1 pd.2 27, grantD (16 + k) (16 + k + 1) 96])) (v) w') => hK v w' h1 trivial ⟨b0, trivial⟩
      have F : act.tmps[31]?.getD undef = _ ∧ act.tmps[37]?.getD undef = _ ∧ act.tmps[44]?.getD undef = _ ∧ True := hf
      obtain ⟨f5, f11, f18, -⟩ := F
      clear ho hf hu
      go_simp
      exact hK _ _ (by repeat first | (with_reducible exact Below.refl _ _) | (with_reducible apply Ext.alloc) | (with_reducible apply Ext.drew) | (with_reducible apply Ext.drewN) | (with_reducible refine Ext.set ?_ (by simp))) (own_lit W _ 39 6 3 (capCells [grantD pc.1 pc.2 5, grantD pd.1 pd.2 27, grantD (16 + k) (16 + k + 1) 96]) hR.size rfl (by simp [maxLen]))
    refine And.intro (obX_pure (fun _ => Below.refl _ _) ?_) ?_
    · intro act W hR hf ho hu K hK
      replace hR := ext_drew hR
      replace hK := fun v (b1 : (fun (v : Value) (W : World) => W.ownsRow U0.heap.size 39 6 v 3 (capCells [grantD pc.1 pc.2 5, grantD pd.1 pd.2 27, grantD (16 + k) (16 + k + 1) 96])) (v) W) => hK v W rfl trivial ⟨b1, trivial⟩
      have F : (fun _ _ => True) (act.tmps[45]?.getD undef) W ∧ act.tmps[44]?.getD undef = _ ∧ act.tmps[26]?.getD undef = _ ∧ act.tmps[27]?.getD undef = _ ∧ act.tmps[28]?.getD undef = _ ∧ act.tmps[29]?.getD undef = _ ∧ act.tmps[30]?.getD undef = _ ∧ act.tmps[31]?.getD undef = _ ∧ act.tmps[32]?.getD undef = _ ∧ act.tmps[33]?.getD undef = _ ∧ act.tmps[34]?.getD undef = _ ∧ act.tmps[35]?.getD undef = _ ∧ act.tmps[36]?.getD undef = _ ∧ act.tmps[37]?.getD undef = _ ∧ act.tmps[38]?.getD undef = _ ∧ act.tmps[39]?.getD undef = _ ∧ act.tmps[40]?.getD undef = _ ∧ act.tmps[41]?.getD undef = _ ∧ act.tmps[42]?.getD undef = _ ∧ act.tmps[43]?.getD undef = _ ∧ act.tmps[44]?.getD undef = _ ∧ (fun _ _ => True) (act.tmps[45]?.getD undef) W ∧ True := hf
      obtain ⟨-, f18, f0, f1, f2, f3, f4, f5, f6, f7, f8, f9, f10, f11, f12, f13, f14, f15, f16, f17, -, -, -⟩ := F
      have U : (fun (v : Value) (W : World) => W.ownsRow U0.heap.size 39 6 v 3 (capCells [grantD pc.1 pc.2 5, grantD pd.1 pd.2 27, grantD (16 + k) (16 + k + 1) 96])) (act.tmps[45]?.getD undef) W ∧ True := hu
      obtain ⟨r_r19, -⟩ := U
      generalize f19 : act.tmps[45]?.getD undef = v19 at r_r19
      clear ho hf hu
      go_simp
      exact hK _ r_r19
    exact trivial
  case stab =>
    refine And.intro is_stable ?_
    refine And.intro is_stable ?_
    refine And.intro is_stable ?_
    refine And.intro is_stable ?_
    refine And.intro is_stable ?_
    refine And.intro is_stable ?_
    refine And.intro is_stable ?_
    refine And.intro is_stable ?_
    refine And.intro is_stable ?_
    refine And.intro is_stable ?_
    refine And.intro is_stable ?_
    refine And.intro is_stable ?_
    refine And.intro is_stable ?_
    refine And.intro is_stable ?_
    refine And.intro is_stable ?_
    refine And.intro is_stable ?_
    refine And.intro is_stable ?_
    refine And.intro is_stable ?_
    refine And.intro is_stable ?_
    refine And.intro (fun _ _ _ h _ => h) ?_
    refine And.intro (fun _ _ _ h _ => h) ?_
    exact trivial
  case ends =>
    intro vals W hR hE hall
    replace hR := ext_drew hR
    have E : (fun (v : Value) (W : World) => W.ownsRow U0.heap.size 39 6 v 3 (capCells [grantD pc.1 pc.2 5, grantD pd.1 pd.2 27, grantD (16 + k) (16 + k + 1) 96])) (vals 6) W ∧ True := hE
    obtain ⟨e_r20, -⟩ := E
    clear hE
    clear hall
    generalize ev6 : vals 6 = x6 at e_r20
    simp only [fill, List.setIfInBounds_toArray, List.set_cons_succ, List.set_cons_zero, ev6]
    clear hw1 hw2
    rename World => W4
    have E4 := Lib.hid hR
    have hrow := e_r20
    have N0 : Hid (W4.ownsRow U0.heap.size 39 6 x6 (3 + (shareGs k y.d ss 0).length) (capCells ([grantD pc.1 pc.2 5, grantD pd.1 pd.2 27, grantD (16 + k) (16 + k + 1) 96] ++ shareGs k y.d ss 0))) := Lib.hid (by simpa [shareGs] using hrow)
    have hzI : Hid (w2.heap[w.heap.size]? = _) := Lib.hid HI.out.1
    have hiW := ((HD.out.2.2.then HU.out.1).then hR).block _ hlt
    rw [HI.out.1] at hiW
    obtain ⟨z0, z1, z2, z3, z4, z5⟩ := lie6 hiW (Below.refl _ W4)
    have HIW := Lib.hid hiW
    obtain ⟨ci, hci, hci0, hci1, hci2⟩ := info_parts infoCap
    have hyl2 := HY.out y HD.out.2.1
    have HYL := Lib.hid hyl2
    clear hrow e_r20 hR hiW hyl2
    go_wp2_with fail
    go_loopw [6, 49] (fun v i wr => ∃ m : Nat, m ≤ ss.length ∧ i = .int .i64 (m : Int) ∧ wr.ownsRow U0.heap.size 39 6 v (3 + (shareGs k y.d ss m).length) (capCells ([grantD pc.1 pc.2 5, grantD pd.1 pd.2 27, grantD (16 + k) (16 + k + 1) 96] ++ shareGs k y.d ss m)) ∧ Ext U0 wr) (fun _ i _ => ss.length - (intOf i).toNat)
    case atStart => exact ⟨0, Nat.zero_le _, rfl, N0.out, E4.out⟩
    case round =>
      clear N0 z0 z1 z2 z3 z4 z5
      obtain ⟨m, hm, rfl, hO, hE⟩ := hrel
      by_cases hlt2 : m < ss.length
      · have hEw : Ext w wr := HI.out.2.then (HD.out.2.2.then (HU.out.1.then hE))
        obtain ⟨b1, o1, rfl, hb1, q1⟩ := H.out.shares.flat (s := 2) (fun _ => rfl) (by decide) hlt2
        have x0 := ext_cell hEw _ _ (q1 0 _ rfl)
        have x1 := ext_cell hEw _ _ (q1 1 _ rfl)
        simp only [Nat.zero_mul, Nat.add_zero] at x0
        clear q1
        have hsb := HSS.out ss[m] (List.getElem_mem hlt2)
        have hG : shareGs k y.d ss (m + 1) = shareGs k y.d ss m ++ shareG k y.d ss[m] m := by simp [shareGs, List.getElem?_eq_getElem hlt2]
        generalize hss : ss[m] = s at x0 x1 hsb hG
        have HGG := Lib.hid hG
        clear hss hG
        have htw : (bits .and .i64 (s.wr / 2 ^ k) 1 == 1) = bitT s.wr k := bit_test hsb.2.2.1 hsb.2.2.2
        have htr : (bits .and .i64 (s.rd / 2 ^ k) 1 == 1) = bitT s.rd k := bit_test hsb.1 (by omega)
        have hgs : shareG k y.d s m = if bitT s.rd k then [grantD (y.d.shares.getD m 0) (y.d.shares.getD m 0 + 256) (if bitT s.wr k then 3 else 1)] else [] := rfl
        generalize bitT s.wr k = bw at htw hgs
        generalize bitT s.rd k = br at htr hgs
        have HGS := Lib.hid hgs
        clear hgs
        obtain ⟨U, hU⟩ : ∃ U, U = wr.alloc (.cells #[.int .i64 s.rd, .int .i64 s.wr] 70) := ⟨_, rfl⟩
        have hlen := shareGs_len k y.d ss m
        have hEU : Ext wr U := by rw [hU]; exact (by repeat first | (with_reducible exact Below.refl _ _) | (with_reducible apply Ext.alloc) | (with_reducible apply Ext.drew) | (with_reducible apply Ext.drewN) | (with_reducible refine Ext.set ?_ (by simp)))
        have sU : U.heap[wr.heap.size]? = some (.cells #[.int .i64 s.rd, .int .i64 s.wr] 70) := by rw [hU]; exact heap_alloc_new _ _
        have y0 := cell_at sU 0 _ rfl
        have y1 := cell_at sU 1 _ rfl
        have hlU := (Array.getElem?_eq_some_iff.1 sU).1
        have HU2 := Lib.hid (And.intro hEU (And.intro sU hU))
        clear hEU sU
        go_upto_if 59 with fail
        rw [← hU]
        clear hU
        obtain ⟨pv, hpv⟩ : ∃ pv : Int, pv = if bw then 3 else 1 := ⟨_, rfl⟩
        have HPV := Lib.hid hpv
        rw [← hpv] at HGS
        clear hpv
        go_cut [9] (fun v wx => v = .int .i64 pv ∧ U = wx)
        case first =>
          cases bw <;> (go_wp2_with fail; go_meet; exact ⟨by rw [HPV.out]; rfl, rfl⟩)
        case rest =>
          obtain ⟨rfl, rfl⟩ := hcut
          cases br with
          | false =>
            go_wp2_with fail
            refine ⟨⟨m + 1, by omega, by simp, ?_, hE.then HU2.out.1⟩, by simp [intOf]; omega⟩
            rw [HGG.out, HGS.out, if_neg (by simp), List.append_nil]
            exact own_ext hO HU2.out.1
          | true =>
            have hU0 : Ext U0 U := hE.then HU2.out.1
            have hlU2 := (hU0.block _ hu3).trans HU.out.2.1
            have hsh : m < y.shares.length := by rw [HYL.out.2.2.2.1]; exact hlt2
            obtain ⟨bs', os, hAs, hbs, hcs⟩ := (HD.out.1.shares.ext HU.out.1).open (by simp; omega)
            have xs := ext_cell hU0 _ _ (hcs m (by simpa using hsh))
            rw [List.getElem_map] at xs
            have hsv := HYL.out.2.2.2.2 y.shares[m] (List.getElem_mem hsh)
            have hsD : y.d.shares.getD m 0 = y.shares[m] := by simp [LayM.d, List.getD, List.getElem?_eq_getElem hsh]
            rw [hsD] at HGS
            generalize y.shares[m] = sm at xs hsv HGS
            have HXS := Lib.hid xs
            have HLU := Lib.hid hlU2
            have hOU := own_ext hO HU2.out.1
            have HOU := Lib.hid hOU
            have hsU : U0.heap.size ≤ U.drew.heap.size := hU0.size
            have hw3 : IntKind.i64.wrap (sm + 256) = sm + 256 := IntWalk.i64_in _ (by omega)
            obtain ⟨A6, c6, rfl, -, -⟩ := Arr.own hOU
            clear hU0 hlU2 hcs xs hsD hOU hO
            go_wp2_with fail
            refine wp_region_res (Only U0.heap.size [39]) [⟨none, [], [16]⟩, ⟨some 15, [(15, [])], [16]⟩, ⟨some 16, [(16, [])], [17]⟩, ⟨some 17, [(17, [])], []⟩] [(fun (u : Nat → Value) (W : World) => (fun (_ : Value) (W : World) => W.ownsRow U0.heap.size 39 6 (.slice A6 (3 + (shareGs k y.d ss m).length) c6) (3 + (shareGs k y.d ss m).length) (capCells ([grantD pc.1 pc.2 5, grantD pd.1 pd.2 27, grantD (16 + k) (16 + k + 1) 96] ++ shareGs k y.d ss m))) (undef) W), (fun (u : Nat → Value) (W : World) => (NewLit 0 1 (grantD sm (sm + 256) pv).cells 39) (u 15) W), (fun (u : Nat → Value) (W : World) => (fun (v : Value) (W : World) => W.ownsRow U0.heap.size 39 6 v (3 + (shareGs k y.d ss m).length + 1) (capCells ([grantD pc.1 pc.2 5, grantD pd.1 pd.2 27, grantD (16 + k) (16 + k + 1) 96] ++ shareGs k y.d ss m) ++ (grantD sm (sm + 256) pv).cells)) (u 16) W), (fun (u : Nat → Value) (W : World) => (fun (v : Value) (W : World) => W.ownsRow U0.heap.size 39 6 v (3 + (shareGs k y.d ss m).length + 1) (capCells ([grantD pc.1 pc.2 5, grantD pd.1 pd.2 27, grantD (16 + k) (16 + k + 1) 96] ++ shareGs k y.d ss m) ++ (grantD sm (sm + 256) pv).cells)) (u 17) W)] [⟨[], [.keep, .keep, .early [0], .early [0]]⟩, ⟨[], [.keep, .early [14, 12, 5, 4, 2, 1], .early [14, 12, 5, 4, 2, 1], .early [1]]⟩, ⟨[], [.keep, .early [14, 12, 5, 4, 2], .early [14, 12, 5, 4, 2], .early [2]]⟩, ⟨[], [.keep, .early [14, 12, 5, 4, 3], .early [14, 12, 5, 4, 3], .early [3]]⟩, ⟨[], [.keep, .early [14, 12, 5, 4], .early [14, 12, 5, 4], .early [4]]⟩, ⟨[], [.keep, .early [14, 12, 5], .early [14, 12, 5], .early [5]]⟩, ⟨[], [.keep, .early [14, 12, 11, 10, 9, 7, 6], .early [14, 12, 11, 10, 9, 7, 6], .early [6]]⟩, ⟨[], [.keep, .early [14, 12, 11, 10, 9, 7], .early [14, 12, 11, 10, 9, 7], .early [7]]⟩, ⟨[], [.keep, .early [14, 12, 11, 10, 9, 8], .early [14, 12, 11, 10, 9, 8], .early [8]]⟩, ⟨[], [.keep, .early [14, 12, 11, 10, 9], .early [14, 12, 11, 10, 9], .early [9]]⟩, ⟨[], [.keep, .early [14, 12, 11, 10], .early [14, 12, 11, 10], .early [10]]⟩, ⟨[], [.keep, .early [14, 12, 11], .early [14, 12, 11], .early [11]]⟩, ⟨[], [.keep, .early [14, 12], .early [14, 12], .early [12]]⟩, ⟨[], [.keep, .early [14, 13], .early [14, 13], .early [13]]⟩, ⟨[], [.keep, .early [14], .early [14], .early [14]]⟩, ⟨[], [.keep, .last, .early [15], .early [15]]⟩, ⟨[(0, []), (1, [15])], [.late [[]], .late [[]], .last, .early [16]]⟩, ⟨[(2, [16])], [.late [[16]], .late [[16]], .late [[]], .last]⟩] [68, 69, 70, 71, 72, 73, 74, 75, 76, 77, 78, 79, 80, 81, 82, 83, 84, 6] (by kernel_rfl) (Only.refl _ _) (fun _ _ _ => Only.trans) (by kernel_rfl) (by kernel_rfl) (by kernel_rfl) (by kernel_rfl) (by kernel_rfl) ?start ?_
            case start =>
              refine And.intro ?_ ?_
              · exact HOU.out
              exact trivial
            apply ex_is; apply Exists.intro
            apply ex_is; apply Exists.intro
            apply ex_is; apply Exists.intro
            apply ex_is; apply Exists.intro
            apply ex_is; apply Exists.intro
            apply ex_is; apply Exists.intro
            apply ex_is; apply Exists.intro
            apply ex_is; apply Exists.intro
            apply ex_is; apply Exists.intro
            apply ex_is; apply Exists.intro
            apply ex_is; apply Exists.intro
            apply ex_is; apply Exists.intro
            apply ex_is; apply Exists.intro
            apply ex_is; apply Exists.intro
            apply ex_is; apply Exists.intro
            refine ex_phi (fun _ _ => True) ?_
            refine ex_phi (fun _ _ => True) ?_
            refine ex_phi (fun _ _ => True) ?_
            refine ⟨[], ⟨?steps, ?stab, ?ends⟩⟩
            case steps =>
              refine And.intro (obX_pure (Only.refl _ _) ?_) ?_
              · intro act W hR hf ho hu K hK
                replace hK := fun v h2 => hK v W rfl h2 trivial
                have G : act.tmps[6]?.getD undef = _ ∧ True := ho
                obtain ⟨g6, -⟩ := G
                clear ho hf hu
                go_simp
                exact hK _ (Eq.refl _)
              refine And.intro (obX_pure (Only.refl _ _) ?_) ?_
              · intro act W hR hf ho hu K hK
                replace hK := fun v h2 => hK v W rfl h2 trivial
                have G : act.tmps[5]?.getD undef = _ ∧ True := ho
                obtain ⟨g5, -⟩ := G
                clear ho hf hu
                go_simp
                exact hK _ (Eq.refl _)
              refine And.intro (obX_pure (Only.refl _ _) ?_) ?_
              · intro act W hR hf ho hu K hK
                replace hK := fun v h2 => hK v W rfl h2 trivial
                have F : act.tmps[69]?.getD undef = _ ∧ True := hf
                obtain ⟨f1, -⟩ := F
                clear ho hf hu
                obtain ⟨q0, q1, q2, q3, q4⟩ := lie5 (hR.low HLU.out hu3) (Below.refl _ W)
                go_simp
                exact hK _ (Eq.refl _)
              refine And.intro (obX_pure (Only.refl _ _) ?_) ?_
              · intro act W hR hf ho hu K hK
                replace hK := fun v h2 => hK v W rfl h2 trivial
                have G : act.tmps[7]?.getD undef = _ ∧ True := ho
                obtain ⟨g7, -⟩ := G
                clear ho hf hu
                go_simp
                exact hK _ (Eq.refl _)
              refine And.intro (obX_pure (Only.refl _ _) ?_) ?_
              · intro act W hR hf ho hu K hK
                replace hK := fun v h2 => hK v W rfl h2 trivial
                have F : act.tmps[70]?.getD undef = _ ∧ act.tmps[71]?.getD undef = _ ∧ True := hf
                obtain ⟨f2, f3, -⟩ := F
                clear ho hf hu
                go_simp
                exact hK _ (Eq.refl _)
              refine And.intro (obX_pure (Only.refl _ _) ?_) ?_
              · intro act W hR hf ho hu K hK
                replace hK := fun v h2 => hK v W rfl h2 trivial
                have F : act.tmps[72]?.getD undef = _ ∧ True := hf
                obtain ⟨f4, -⟩ := F
                clear ho hf hu
                have q0 := hR.cell (show U.drew.cell? _ = _ from HXS.out) hbs
                go_simp
                exact hK _ (Eq.refl _)
              refine And.intro (obX_pure (Only.refl _ _) ?_) ?_
              · intro act W hR hf ho hu K hK
                replace hK := fun v h2 => hK v W rfl h2 trivial
                have G : act.tmps[5]?.getD undef = _ ∧ True := ho
                obtain ⟨g5, -⟩ := G
                clear ho hf hu
                go_simp
                exact hK _ (Eq.refl _)
              refine And.intro (obX_pure (Only.refl _ _) ?_) ?_
              · intro act W hR hf ho hu K hK
                replace hK := fun v h2 => hK v W rfl h2 trivial
                have F : act.tmps[74]?.getD undef = _ ∧ True := hf
                obtain ⟨f6, -⟩ := F
                clear ho hf hu
                obtain ⟨q0, q1, q2, q3, q4⟩ := lie5 (hR.low HLU.out hu3) (Below.refl _ W)
                go_simp
                exact hK _ (Eq.refl _)
              refine And.intro (obX_pure (Only.refl _ _) ?_) ?_
              · intro act W hR hf ho hu K hK
                replace hK := fun v h2 => hK v W rfl h2 trivial
                have G : act.tmps[7]?.getD undef = _ ∧ True := ho
                obtain ⟨g7, -⟩ := G
                clear ho hf hu
                go_simp
                exact hK _ (Eq.refl _)
              refine And.intro (obX_pure (Only.refl _ _) ?_) ?_
              · intro act W hR hf ho hu K hK
                replace hK := fun v h2 => hK v W rfl h2 trivial
                have F : act.tmps[75]?.getD undef = _ ∧ act.tmps[76]?.getD undef = _ ∧ True := hf
                obtain ⟨f7, f8, -⟩ := F
                clear ho hf hu
                go_simp
                exact hK _ (Eq.refl _)
              refine And.intro (obX_pure (Only.refl _ _) ?_) ?_
              · intro act W hR hf ho hu K hK
                replace hK := fun v h2 => hK v W rfl h2 trivial
                have F : act.tmps[77]?.getD undef = _ ∧ True := hf
                obtain ⟨f9, -⟩ := F
                clear ho hf hu
                have q0 := hR.cell (show U.drew.cell? _ = _ from HXS.out) hbs
                go_simp
                exact hK _ (Eq.refl _)
              refine And.intro (obX_pure (Only.refl _ _) ?_) ?_
              · intro act W hR hf ho hu K hK
                replace hK := fun v h2 => hK v W rfl h2 trivial
                have F : act.tmps[78]?.getD undef = _ ∧ True := hf
                obtain ⟨f10, -⟩ := F
                clear ho hf hu
                go_simp
                exact hK _ (Eq.refl _)
              refine And.intro (obX_pure (Only.refl _ _) ?_) ?_
              · intro act W hR hf ho hu K hK
                replace hK := fun v h2 => hK v W rfl h2 trivial
                have F : act.tmps[73]?.getD undef = _ ∧ act.tmps[79]?.getD undef = _ ∧ True := hf
                obtain ⟨f5, f11, -⟩ := F
                clear ho hf hu
                go_simp
                exact hK _ (Eq.refl _)
              refine And.intro (obX_pure (Only.refl _ _) ?_) ?_
              · intro act W hR hf ho hu K hK
                replace hK := fun v h2 => hK v W rfl h2 trivial
                have G : act.tmps[9]?.getD undef = _ ∧ True := ho
                obtain ⟨g9, -⟩ := G
                clear ho hf hu
                go_simp
                exact hK _ (Eq.refl _)
              refine And.intro (obX_eff (Ext) (fun _ _ h => Only.ext h) (And.intro (fun _ _ _ h e => own_ext h e) (trivial)) ?_) ?_
              · intro act W hR hf ho hu K hK
                replace hK := fun v (w' : World) (h1 : (Ext) W w') h2 => hK v w' h1 h2 trivial
                have F : act.tmps[80]?.getD undef = _ ∧ act.tmps[81]?.getD undef = _ ∧ True := hf
                obtain ⟨f12, f13, -⟩ := F
                clear ho hf hu
                go_simp
                refine (grant_img _ _ _ _).mono ?_; rintro _ W1 ⟨rfl, hE⟩; exact hK _ _ hE (Eq.refl _)
              refine And.intro (obX_eff (Ext) (fun _ _ h => Only.ext h) (And.intro (fun _ _ _ h e => own_ext h e) (trivial)) ?_) ?_
              · intro act W hR hf ho hu K hK
                replace hK := fun v (w' : World) (h1 : (Ext) W w') (b1 : (NewLit 0 1 (grantD sm (sm + 256) pv).cells 39) (v) w') => hK v w' h1 trivial ⟨b1, trivial⟩
                have F : act.tmps[82]?.getD undef = _ ∧ True := hf
                obtain ⟨f14, -⟩ := F
                clear ho hf hu
                go_simp
                exact hK _ _ (by repeat first | (with_reducible exact Below.refl _ _) | (with_reducible apply Ext.alloc) | (with_reducible apply Ext.drew) | (with_reducible apply Ext.drewN) | (with_reducible refine Ext.set ?_ (by simp))) (NewLit.new (Nat.zero_le _))
              refine And.intro (obX_eff (Only U0.heap.size [39]) (fun _ _ h => h) (trivial) ?_) ?_
              · intro act W hR hf ho hu K hK
                replace hK := fun v (w' : World) (h1 : (Only U0.heap.size [39]) W w') (b2 : (fun (v : Value) (W : World) => W.ownsRow U0.heap.size 39 6 v (3 + (shareGs k y.d ss m).length + 1) (capCells ([grantD pc.1 pc.2 5, grantD pd.1 pd.2 27, grantD (16 + k) (16 + k + 1) 96] ++ shareGs k y.d ss m) ++ (grantD sm (sm + 256) pv).cells)) (v) w') => hK v w' h1 trivial ⟨b2, trivial⟩
                have F : act.tmps[68]?.getD undef = _ ∧ (fun _ _ => True) (act.tmps[83]?.getD undef) W ∧ act.tmps[82]?.getD undef = _ ∧ True := hf
                obtain ⟨f0, -, f14, -⟩ := F
                have U : (fun (_ : Value) (W : World) => W.ownsRow U0.heap.size 39 6 (.slice A6 (3 + (shareGs k y.d ss m).length) c6) (3 + (shareGs k y.d ss m).length) (capCells ([grantD pc.1 pc.2 5, grantD pd.1 pd.2 27, grantD (16 + k) (16 + k + 1) 96] ++ shareGs k y.d ss m))) (undef) W ∧ (NewLit 0 1 (grantD sm (sm + 256) pv).cells 39) (act.tmps[83]?.getD undef) W ∧ True := hu
                obtain ⟨r_row, r_n15, -⟩ := U
                generalize f15 : act.tmps[83]?.getD undef = v15 at r_n15
                clear ho hf hu
                obtain ⟨b3, rfl, -, hl3⟩ := r_n15
                dsimp only [Option.elim] at f0
                dsimp only [Option.elim] at f14
                rw [← seen_eq]; refine step_append_src W rfl (.tmp 68) (.tmp 83) 48 rfl U0.heap.size 39 ci (.agg #[.bool false, .int .i64 0, .int .i64 0, .int .i64 0, .int .i64 0, .int .i64 0]) 6 48 Try.underlying48 hci hci0 hci1 hci2 rfl (by decide) _ _ _ (eval_get f0) r_row _ 1 (grantD sm (sm + 256) pv).cells (eval_get f15) (lies_lit hl3) rfl (by simp [Value.oneCell']) (by unfold maxLen; omega) (by omega) (Nat.le_trans hsU hR.size) ?_; intro v' w' ho' hg' _; exact hK _ _ (Only.grown r_row hg' (by simp)) ho'
              refine And.intro (obX_pure (Only.refl _ _) ?_) ?_
              · intro act W hR hf ho hu K hK
                replace hK := fun v (b3 : (fun (v : Value) (W : World) => W.ownsRow U0.heap.size 39 6 v (3 + (shareGs k y.d ss m).length + 1) (capCells ([grantD pc.1 pc.2 5, grantD pd.1 pd.2 27, grantD (16 + k) (16 + k + 1) 96] ++ shareGs k y.d ss m) ++ (grantD sm (sm + 256) pv).cells)) (v) W) => hK v W rfl trivial ⟨b3, trivial⟩
                have F : (fun _ _ => True) (act.tmps[84]?.getD undef) W ∧ (fun _ _ => True) (act.tmps[84]?.getD undef) W ∧ act.tmps[68]?.getD undef = _ ∧ act.tmps[69]?.getD undef = _ ∧ act.tmps[70]?.getD undef = _ ∧ act.tmps[71]?.getD undef = _ ∧ act.tmps[72]?.getD undef = _ ∧ act.tmps[73]?.getD undef = _ ∧ act.tmps[74]?.getD undef = _ ∧ act.tmps[75]?.getD undef = _ ∧ act.tmps[76]?.getD undef = _ ∧ act.tmps[77]?.getD undef = _ ∧ act.tmps[78]?.getD undef = _ ∧ act.tmps[79]?.getD undef = _ ∧ act.tmps[80]?.getD undef = _ ∧ act.tmps[81]?.getD undef = _ ∧ act.tmps[82]?.getD undef = _ ∧ (fun _ _ => True) (act.tmps[83]?.getD undef) W ∧ (fun _ _ => True) (act.tmps[84]?.getD undef) W ∧ True := hf
                obtain ⟨-, -, f0, f1, f2, f3, f4, f5, f6, f7, f8, f9, f10, f11, f12, f13, f14, -, -, -⟩ := F
                have U : (fun (v : Value) (W : World) => W.ownsRow U0.heap.size 39 6 v (3 + (shareGs k y.d ss m).length + 1) (capCells ([grantD pc.1 pc.2 5, grantD pd.1 pd.2 27, grantD (16 + k) (16 + k + 1) 96] ++ shareGs k y.d ss m) ++ (grantD sm (sm + 256) pv).cells)) (act.tmps[84]?.getD undef) W ∧ True := hu
                obtain ⟨r_r16, -⟩ := U
                generalize f16 : act.tmps[84]?.getD undef = v16 at r_r16
                generalize f15 : act.tmps[83]?.getD undef = v15
                clear ho hf hu
                go_simp
                exact hK _ r_r16
              exact trivial
            case stab =>
              refine And.intro is_stable ?_
              refine And.intro is_stable ?_
              refine And.intro is_stable ?_
              refine And.intro is_stable ?_
              refine And.intro is_stable ?_
              refine And.intro is_stable ?_
              refine And.intro is_stable ?_
              refine And.intro is_stable ?_
              refine And.intro is_stable ?_
              refine And.intro is_stable ?_
              refine And.intro is_stable ?_
              refine And.intro is_stable ?_
              refine And.intro is_stable ?_
              refine And.intro is_stable ?_
              refine And.intro is_stable ?_
              refine And.intro (fun _ _ _ h _ => h) ?_
              refine And.intro (fun _ _ _ h _ => h) ?_
              refine And.intro (fun _ _ _ h _ => h) ?_
              exact trivial
            case ends =>
              intro vals W hR hE hall
              have E : (fun (v : Value) (W : World) => W.ownsRow U0.heap.size 39 6 v (3 + (shareGs k y.d ss m).length + 1) (capCells ([grantD pc.1 pc.2 5, grantD pd.1 pd.2 27, grantD (16 + k) (16 + k + 1) 96] ++ shareGs k y.d ss m) ++ (grantD sm (sm + 256) pv).cells)) (vals 6) W ∧ True := hE
              obtain ⟨e_r17, -⟩ := E
              clear hE
              clear hall
              generalize ev6 : vals 6 = x6 at e_r17
              simp only [fill, List.setIfInBounds_toArray, List.set_cons_succ, List.set_cons_zero, ev6]
              have hE9 : Ext U0 W := Only.below (Ext.drew (hE.then HU2.out.1)) (Nat.le_refl _) hR
              go_wp2_with fail
              refine ⟨⟨m + 1, by omega, by simp, ?_, hE9⟩, by simp [intOf]; omega⟩
              rw [HGG.out, HGS.out, if_pos trivial, ← List.append_assoc, capCells_app, List.length_append]
              simpa [Nat.add_assoc] using e_r17
      · obtain rfl : m = ss.length := by omega
        go_wp2_with fail
        go_ret
        refine ⟨_, rfl, ?_, HI.out.2.then (HD.out.2.2.then (HU.out.1.then hE))⟩
        rw [HG.out, ← HD.out.2.1, List.length_append]
        exact own_low hO (Nat.le_trans (HI.out.2.then HD.out.2.2).size HU.out.1.size)
theorem form_shares {x : ImgM} (h : formD x.d = true) (hi : ∀ s ∈ x.shares, i64ok s.rd ∧ i64ok s.wr) : ∀ s ∈ x.shares, 0 ≤ s.rd ∧ s.rd ≤ 15 ∧ 0 ≤ s.wr ∧ s.wr < 9223372036854775808 := fun s hs => by
  have hn := formD_facts h
  rw [formD_eq] at h
  simp only [Bool.and_eq_true] at h
  have h1 := List.all_eq_true.1 h.2.2.2.2 s hs
  unfold shareOk inB at h1
  simp only [Bool.and_eq_true, decide_eq_true_iff] at h1
  have h2 := (hi s hs).2
  unfold i64ok at h2
  have h3 : (2 : Int) ^ x.comps.length ≤ 2 ^ 4 := by
    have : 2 ^ x.comps.length ≤ 2 ^ 4 := Nat.pow_le_pow_right (by decide) hn.1
    exact_mod_cast this
  omega
theorem whereD_lens {x : ImgD} (hr : rightD x = true) : (whereD x).code.length = x.comps.length ∧ (whereD x).data.length = x.comps.length ∧ (whereD x).heap.length = x.comps.length ∧ (whereD x).shares.length = x.shares.length := by
  unfold whereD
  rw [if_pos hr]
  have := whC_len x.heap x.comps x.comps.length
  simp [this]
theorem whereD_shares {x : ImgM} (hr : rightD x.d = true) : ∀ i ∈ (whereD x.d).shares, 0 ≤ i ∧ i ≤ 10000000 := by
  have hf := rightD_form hr
  have h1 := formD_facts hf
  have h2 := form_nums hf
  have h3 := whC_page h2.1 h2.2.1 (cs := x.d.comps) (fun c hc => by obtain ⟨y, hy, rfl⟩ := List.mem_map.1 hc; exact h2.2.2 y hy) x.d.comps.length (Nat.le_refl _)
  have h4 : x.d.comps.length ≤ 4 := by simpa [ImgM.d] using h1.1
  have h5 : x.d.shares.length ≤ 4 := h1.2.2
  have h6 : x.d.heap = x.heap := rfl
  intro i hi
  unfold whereD at hi
  rw [if_pos hr] at hi
  obtain ⟨j, hj, rfl⟩ := List.mem_map.1 hi
  have h7 := List.mem_range.1 hj
  rw [h6]
  omega
set_option maxHeartbeats 4000000 in
set_option maxRecDepth 100000 in
theorem grants_no (x : ImgM) (k : Int) (w : World) (h : ImgAt w x) (hk0 : i64ok k) (hn : ¬ (rightD x.d = true ∧ 0 ≤ k ∧ k < x.comps.length)) : Calls Try.prog 25 #[x.val, .int .i64 k] w (GivesC w []) := by
  have H := Lib.hid h
  have HR := Lib.hid (fun w h => imgRight_any x w h)
  have hlc := h.lens.2.1
  clear h
  obtain ⟨k1, k2⟩ := hk0
  cases hr : rightD x.d with
  | false =>
    rw [hr] at HR
    clear hn hr
    go_enter Try.func25, Try.ntmps25
    go_wp2_with fail
    refine (HR.out _ (H.out.ext (by repeat first | (with_reducible exact Below.refl _ _) | (with_reducible apply Ext.alloc) | (with_reducible apply Ext.drew) | (with_reducible apply Ext.drewN) | (with_reducible refine Ext.set ?_ (by simp))))).mono ?_
    rintro e w2 ⟨rfl, hb2⟩
    have E2 : Ext w w2 := Ext.then (by repeat first | (with_reducible exact Below.refl _ _) | (with_reducible apply Ext.alloc) | (with_reducible apply Ext.drew) | (with_reducible apply Ext.drewN) | (with_reducible refine Ext.set ?_ (by simp))) hb2
    have HE := Lib.hid E2
    clear E2 hb2
    go_wp2_with fail
    go_ret
    exact ⟨_, rfl, World.ownsRow_nil _ _ _ _, HE.out⟩
  | true =>
    rw [hr] at HR hn
    have hn2 : k < 0 ∨ (x.comps.length : Int) ≤ k := by
      by_cases hk : 0 ≤ k
      · right
        exact Int.not_lt.1 fun h => hn ⟨rfl, hk, h⟩
      · left; omega
    clear hn hr
    rcases hn2 with hn2 | hn2
    · have hd : decide (k < 0) = true := decide_eq_true hn2
      go_enter Try.func25, Try.ntmps25
      go_wp2_with fail
      refine (HR.out _ (H.out.ext (by repeat first | (with_reducible exact Below.refl _ _) | (with_reducible apply Ext.alloc) | (with_reducible apply Ext.drew) | (with_reducible apply Ext.drewN) | (with_reducible refine Ext.set ?_ (by simp))))).mono ?_
      rintro e w2 ⟨rfl, hb2⟩
      have E2 : Ext w w2 := Ext.then (by repeat first | (with_reducible exact Below.refl _ _) | (with_reducible apply Ext.alloc) | (with_reducible apply Ext.drew) | (with_reducible apply Ext.drewN) | (with_reducible refine Ext.set ?_ (by simp))) hb2
      have HE := Lib.hid E2
      clear E2 hb2
      go_wp2_with fail
      go_ret
      exact ⟨_, rfl, World.ownsRow_nil _ _ _ _, HE.out⟩
    · have hd : decide (k < 0) = false := decide_eq_false (by omega)
      have hd2 : decide (k ≥ (x.comps.length : Int)) = true := decide_eq_true (by omega)
      go_enter Try.func25, Try.ntmps25
      go_wp2_with fail
      refine (HR.out _ (H.out.ext (by repeat first | (with_reducible exact Below.refl _ _) | (with_reducible apply Ext.alloc) | (with_reducible apply Ext.drew) | (with_reducible apply Ext.drewN) | (with_reducible refine Ext.set ?_ (by simp))))).mono ?_
      rintro e w2 ⟨rfl, hb2⟩
      have E2 : Ext w w2 := Ext.then (by repeat first | (with_reducible exact Below.refl _ _) | (with_reducible apply Ext.alloc) | (with_reducible apply Ext.drew) | (with_reducible apply Ext.drewN) | (with_reducible refine Ext.set ?_ (by simp))) hb2
      obtain ⟨z0, z1, z2, z3, z4, z5⟩ := lie6 (new1 hb2) (Below.refl _ w2)
      have hlt : w.heap.size < w2.heap.size := by have := hb2.size; simp at this; omega
      have HE := Lib.hid E2
      clear E2 hb2
      go_wp2_with fail
      go_ret
      exact ⟨_, rfl, World.ownsRow_nil _ _ _ _, HE.out⟩
theorem grants_img (x : ImgM) (k : Int) (w : World) (h : ImgAt w x) (hk0 : i64ok k) : Calls Try.prog 25 #[x.val, .int .i64 k] w (GivesC w (grantsD x.d k)) := by
  unfold grantsD
  by_cases hn : rightD x.d = true ∧ 0 ≤ k ∧ k < x.comps.length
  · have hn' : rightD x.d = true ∧ 0 ≤ k ∧ k < x.d.comps.length := by simpa [ImgM.d] using hn
    rw [if_pos hn']
    obtain ⟨hr, h0, hk⟩ := hn
    obtain ⟨k, rfl⟩ := Int.eq_ofNat_of_zero_le h0
    have hf := rightD_form hr
    have h1 := formD_facts hf
    have HR := fun w h => imgRight_any x w h
    rw [hr] at HR
    exact grants_at x.strict x.heap x.full x.Ac x.cc x.comps x.Al x.cl x.links x.As x.cs x.shares w k (by omega) h h1.1 h1.2.2 (form_shares hf h.sharesOk) HR (fun w h => where_any x w h) (fun y hy => by
      have hl := whereD_lens hr
      have hs := whereD_shares hr
      have hcl : x.d.comps.length = x.comps.length := by simp [ImgM.d]
      have hy' : y.d = whereD x.d := hy
      rw [← hy'] at hl hs
      exact ⟨hl.1.trans hcl, hl.2.1.trans hcl, hl.2.2.1.trans hcl, hl.2.2.2, hs⟩)
  · have hn' : ¬ (rightD x.d = true ∧ 0 ≤ k ∧ k < x.d.comps.length) := by simpa [ImgM.d] using hn
    rw [if_neg hn']
    exact grants_no x k w h hk0 hn
end Go.Proofs.Ytgfnpcoigooblaa

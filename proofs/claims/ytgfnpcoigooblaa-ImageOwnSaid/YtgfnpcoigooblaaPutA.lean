
/- Package image: Put. -/
import Derived.Test.YtgfnpcoigooblaaResKit
import Derived.Test.YtgfnpcoigooblaaImgL
import Derived.Deep.DeepCutAuto
set_option linter.all false
namespace Go.Proofs.Ytgfnpcoigooblaa
open Go.RowKit
attribute [local go_sem] seen dstOf boolOf

theorem u8wrap (n : Int) : IntKind.u8.wrap n = n % 256 := rfl
def b2i (b : Bool) : Int := if b then 1 else 0
def compB (c : CompD) : List Int := twoB c.code.length ++ [c.data % 256]
def linkB (l : LinkM) : List Int := [l.fr % 256, l.to % 256] ++ twoB l.at'
def shareB (s : ShareM) : List Int := [s.rd % 256, s.wr % 256]
theorem lies_arr {w : World} {A : Option Addr} {l : List Int} {c : Nat} (h : Arr w A (bs l)) (hn : 0 < l.length) : Lies w.heap.size w (.slice A l.length c) l.length (bs l) := by
  obtain ⟨b, o, rfl, -, -⟩ := h.open (by simpa [bs] using hn)
  exact Lies.arr h
/-- The header's parts, joined. -/
def HeadP (l : List Int) : Pr := fun v W => ∃ b ps, v = .slice (some ⟨b, 0, none⟩) 4 4 ∧ ps.length = 4 ∧ allB ps = l ∧ Arr W (some ⟨b, 0, none⟩) (ps.flatMap PartM.cells) ∧ ∀ x ∈ ps, Lies W.heap.size W (.slice x.A x.b.length x.cap) x.b.length (bs x.b)
theorem HeadP.ext {l : List Int} {v : Value} {w w' : World} (h : HeadP l v w) (e : Ext w w') : HeadP l v w' := by
  obtain ⟨b, ps, rfl, h1, h2, h3, h4⟩ := h
  exact ⟨b, ps, rfl, h1, h2, h3.ext e, fun x hx => ((h4 x hx).ext e).mono e.size⟩
theorem HeadP.new {l1 l2 l3 l4 : List Int} {v1 v2 v3 v4 : Value} {w : World} {t : TypeId} (h1 : SeenB l1 v1 w) (h2 : SeenB l2 v2 w) (h3 : SeenB l3 v3 w) (h4 : SeenB l4 v4 w) :
    HeadP (l1 ++ l2 ++ l3 ++ l4) (.slice (some ⟨w.heap.size, 0, none⟩) 4 4) (w.alloc (.cells #[v1, v2, v3, v4] t)) := by
  have e : Ext w (w.alloc (.cells #[v1, v2, v3, v4] t)) := (by repeat first | (with_reducible exact Below.refl _ _) | (with_reducible apply Ext.alloc) | (with_reducible apply Ext.drew) | (with_reducible apply Ext.drewN) | (with_reducible refine Ext.set ?_ (by simp)))
  obtain ⟨A1, c1, rfl, k1⟩ := h1.ext e
  obtain ⟨A2, c2, rfl, k2⟩ := h2.ext e
  obtain ⟨A3, c3, rfl, k3⟩ := h3.ext e
  obtain ⟨A4, c4, rfl, k4⟩ := h4.ext e
  refine ⟨_, [⟨A1, c1, l1⟩, ⟨A2, c2, l2⟩, ⟨A3, c3, l3⟩, ⟨A4, c4, l4⟩], rfl, rfl, by simp [allB], arr_new (heap_alloc_new w _), fun x hx => ?_⟩
  rcases List.mem_cons.1 hx with rfl | hx
  · exact k1
  rcases List.mem_cons.1 hx with rfl | hx
  · exact k2
  rcases List.mem_cons.1 hx with rfl | hx
  · exact k3
  rcases List.mem_cons.1 hx with rfl | hx
  · exact k4
  · cases hx
def hdrL (st : Bool) (hp fu : Int) (a b c : Nat) : List Int := [83, 90] ++ [b2i st, hp % 256] ++ twoB fu ++ [(a : Int) % 256, (b : Int) % 256, (c : Int) % 256]

def bytesD (x : ImgD) : List Int := hdrL x.strict x.heap x.full x.comps.length x.links.length x.shares.length ++ x.comps.flatMap compB ++ x.links.flatMap linkB ++ x.shares.flatMap shareB ++ x.comps.flatMap CompD.code
def putD (x : ImgD) : List Int := if rightD x = true then bytesD x else []
def preC (h : List Int) (cs : List CompM) (k : Nat) : List Int := h ++ (cs.take k).flatMap fun c => compB c.d
theorem preC_succ {h : List Int} {cs : List CompM} {k : Nat} (hk : k < cs.length) : preC h cs (k + 1) = preC h cs k ++ twoB cs[k].code.length ++ [cs[k].data % 256] := by
  unfold preC
  rw [List.take_add_one, List.getElem?_eq_getElem hk, List.flatMap_append, ← List.append_assoc, List.append_assoc (h ++ _)]
  simp [compB, CompM.d]
theorem preC_len (h : List Int) (cs : List CompM) : ∀ k, (preC h cs k).length ≤ h.length + 3 * cs.length := by
  intro k
  have : ∀ l : List CompM, (l.flatMap fun c => compB c.d).length = 3 * l.length := by
    intro l
    induction l with
    | nil => rfl
    | cons c l ih => rw [List.flatMap_cons, List.length_append, ih]; simp [compB, twoB]; omega
  unfold preC
  rw [List.length_append, this, List.length_take]
  omega
def preL (h : List Int) (ls : List LinkM) (k : Nat) : List Int := h ++ (ls.take k).flatMap linkB
theorem preL_succ {h : List Int} {ls : List LinkM} {k : Nat} (hk : k < ls.length) : preL h ls (k + 1) = preL h ls k ++ [ls[k].fr % 256, ls[k].to % 256] ++ twoB ls[k].at' := by
  unfold preL
  rw [List.take_add_one, List.getElem?_eq_getElem hk, List.flatMap_append, ← List.append_assoc, List.append_assoc (h ++ _)]
  simp [linkB]
theorem preL_len (h : List Int) (ls : List LinkM) : ∀ k, (preL h ls k).length ≤ h.length + 4 * ls.length := by
  intro k
  have : ∀ l : List LinkM, (l.flatMap linkB).length = 4 * l.length := by
    intro l
    induction l with
    | nil => rfl
    | cons c l ih => rw [List.flatMap_cons, List.length_append, ih]; simp [linkB, twoB]; omega
  unfold preL
  rw [List.length_append, this, List.length_take]
  omega
def preS (h : List Int) (ss : List ShareM) (k : Nat) : List Int := h ++ (ss.take k).flatMap shareB
theorem preS_succ {h : List Int} {ss : List ShareM} {k : Nat} (hk : k < ss.length) : preS h ss (k + 1) = preS h ss k ++ [ss[k].rd % 256, ss[k].wr % 256] := by
  unfold preS
  rw [List.take_add_one, List.getElem?_eq_getElem hk, List.flatMap_append, ← List.append_assoc]
  simp [shareB]
theorem preS_len (h : List Int) (ss : List ShareM) : ∀ k, (preS h ss k).length ≤ h.length + 2 * ss.length := by
  intro k
  have : ∀ l : List ShareM, (l.flatMap shareB).length = 2 * l.length := by
    intro l
    induction l with
    | nil => rfl
    | cons c l ih => rw [List.flatMap_cons, List.length_append, ih]; simp [shareB]; omega
  unfold preS
  rw [List.length_append, this, List.length_take]
  omega
def preK (h : List Int) (cs : List CompM) (k : Nat) : List Int := h ++ (cs.take k).flatMap CompM.code
theorem preK_succ {h : List Int} {cs : List CompM} {k : Nat} (hk : k < cs.length) : preK h cs (k + 1) = preK h cs k ++ cs[k].code := by
  unfold preK
  rw [List.take_add_one, List.getElem?_eq_getElem hk, List.flatMap_append, ← List.append_assoc]
  simp
theorem preK_len (h : List Int) (cs : List CompM) (hc : ∀ c ∈ cs, c.code.length ≤ 4096) : ∀ k, (preK h cs k).length ≤ h.length + 4096 * cs.length := by
  intro k
  have : ∀ l : List CompM, (∀ c ∈ l, c.code.length ≤ 4096) → (l.flatMap CompM.code).length ≤ 4096 * l.length := by
    intro l hl
    induction l with
    | nil => simp
    | cons c l ih =>
      have h1 := ih fun c hc => hl c (List.mem_cons_of_mem _ hc)
      have h2 := hl c List.mem_cons_self
      rw [List.flatMap_cons, List.length_append]
      simp only [List.length_cons]
      omega
  unfold preK
  have h1 := this (cs.take k) fun c h => hc c (List.mem_of_mem_take h)
  rw [List.length_take] at h1
  rw [List.length_append]
  have : 4096 * min k cs.length ≤ 4096 * cs.length := by omega
  omega

set_option maxHeartbeats 4000000 in
set_option maxRecDepth 100000 in
theorem imgPut_at (st : Bool) (hp fu : Int) (Ac : Option Addr) (cc : Nat) (cs : List CompM) (Al : Option Addr) (cl : Nat) (ls : List LinkM) (As : Option Addr) (cS : Nat) (ss : List ShareM) (w : World) (h : ImgAt w ⟨st, hp, fu, Ac, cc, cs, Al, cl, ls, As, cS, ss⟩) (hn1 : cs.length ≤ 4) (hn2 : ls.length ≤ 16) (hn3 : ss.length ≤ 4) (hn4 : ∀ c ∈ cs, c.code.length ≤ 4096) (hn5 : ∀ c ∈ cs, 0 < c.code.length) (hr : Calls Try.prog 14 #[.agg #[.bool st, .int .i64 hp, .int .i64 fu, .slice Ac cs.length cc, .slice Al ls.length cl, .slice As ss.length cS]] (w.alloc (.cells #[.bool st, .int .i64 hp, .int .i64 fu, .slice Ac cs.length cc, .slice Al ls.length cl, .slice As ss.length cS] 26)) fun e w' => e = .returned (.bool true) ∧ Ext (w.alloc (.cells #[.bool st, .int .i64 hp, .int .i64 fu, .slice Ac cs.length cc, .slice Al ls.length cl, .slice As ss.length cS] 26)) w') :
    Calls Try.prog 16 #[.agg #[.bool st, .int .i64 hp, .int .i64 fu, .slice Ac cs.length cc, .slice Al ls.length cl, .slice As ss.length cS]] w (Gives w 5 1 (hdrL st hp fu cs.length ls.length ss.length ++ cs.flatMap (fun c => compB c.d) ++ ls.flatMap linkB ++ ss.flatMap shareB ++ cs.flatMap CompM.code).length (bs (hdrL st hp fu cs.length ls.length ss.length ++ cs.flatMap (fun c => compB c.d) ++ ls.flatMap linkB ++ ss.flatMap shareB ++ cs.flatMap CompM.code))) := by
  obtain ⟨i0, hi, hz0, hz1, hz2⟩ := info_parts infoByte
  have HR := Lib.hid hr
  have H := Lib.hid h
  have hfu := h.nums.2
  have HF := Lib.hid hfu
  clear h hr hfu
  go_enter Try.func16, Try.ntmps16
  go_wp2_with fail
  refine HR.out.mono ?_
  rintro e w2 ⟨rfl, hb2⟩
  obtain ⟨z0, z1, z2, z3, z4, z5⟩ := lie6 (heap_alloc_new w _) hb2
  have hlt : w.heap.size < w2.heap.size := by have := hb2.size; simp at this; omega
  go_upto_if 17 with fail
  go_cut [3] (fun s wx => s = .int .u8 (b2i st) ∧ w2 = wx)
  case first =>
    cases st <;> (go_wp2_with fail; go_meet; exact ⟨rfl, rfl⟩)
  case rest =>
    obtain ⟨rfl, rfl⟩ := hcut
    go_wp2_with fail
    refine wp_region_res (Typed w2.heap.size 5) [⟨some 0, [(0, [])], [1]⟩, ⟨some 1, [(1, [])], [23]⟩, ⟨some 6, [(6, [])], [23]⟩, ⟨some 9, [(9, [])], [23]⟩, ⟨some 22, [(22, [])], [23]⟩, ⟨some 23, [(23, [])], [24]⟩, ⟨some 24, [(24, [])], [25]⟩, ⟨some 25, [(25, [])], []⟩] [(fun (u : Nat → Value) (W : World) => (LitAt w2.heap.size (bs [83, 90]) 5) (u 0) W), (fun (u : Nat → Value) (W : World) => (SeenB [83, 90]) (u 1) W), (fun (u : Nat → Value) (W : World) => (SeenB [b2i st, hp % 256]) (u 6) W), (fun (u : Nat → Value) (W : World) => (SeenB (twoB fu)) (u 9) W), (fun (u : Nat → Value) (W : World) => (SeenB [(cs.length : Int) % 256, (ls.length : Int) % 256, (ss.length : Int) % 256]) (u 22) W), (fun (u : Nat → Value) (W : World) => (HeadP (hdrL st hp fu cs.length ls.length ss.length)) (u 23) W), (fun (u : Nat → Value) (W : World) => (Owns w2.heap.size 5 1 9 (bs (hdrL st hp fu cs.length ls.length ss.length))) (u 24) W), (fun (u : Nat → Value) (W : World) => (Owns w2.heap.size 5 1 9 (bs (hdrL st hp fu cs.length ls.length ss.length))) (u 25) W)] [⟨[], [.last, .early [0], .keep, .keep, .keep, .early [1, 0], .early [23, 1, 0], .early [0]]⟩, ⟨[(0, [0])], [.late [[]], .last, .keep, .keep, .keep, .early [1], .early [23, 1], .early [1]]⟩, ⟨[], [.keep, .keep, .early [2], .keep, .keep, .early [6, 2], .early [23, 6, 2], .early [2]]⟩, ⟨[], [.keep, .keep, .early [5, 4, 3], .keep, .keep, .early [6, 5, 4, 3], .early [23, 6, 5, 4, 3], .early [3]]⟩, ⟨[], [.keep, .keep, .early [5, 4], .keep, .keep, .early [6, 5, 4], .early [23, 6, 5, 4], .early [4]]⟩, ⟨[], [.keep, .keep, .early [5], .keep, .keep, .early [6, 5], .early [23, 6, 5], .early [5]]⟩, ⟨[], [.keep, .keep, .last, .keep, .keep, .early [6], .early [23, 6], .early [6]]⟩, ⟨[], [.keep, .keep, .keep, .early [8, 7], .keep, .early [9, 8, 7], .early [9, 8, 7], .early [7]]⟩, ⟨[], [.keep, .keep, .keep, .early [8], .keep, .early [9, 8], .early [9, 8], .early [8]]⟩, ⟨[], [.keep, .keep, .keep, .last, .keep, .early [9], .early [9], .early [9]]⟩, ⟨[], [.keep, .keep, .keep, .keep, .early [13, 12, 11, 10], .early [22, 13, 12, 11, 10], .early [23, 22, 13, 12, 11, 10], .early [10]]⟩, ⟨[], [.keep, .keep, .keep, .keep, .early [13, 12, 11], .early [22, 13, 12, 11], .early [23, 22, 13, 12, 11], .early [11]]⟩, ⟨[], [.keep, .keep, .keep, .keep, .early [13, 12], .early [22, 13, 12], .early [23, 22, 13, 12], .early [12]]⟩, ⟨[], [.keep, .keep, .keep, .keep, .early [13], .early [22, 13], .early [23, 22, 13], .early [13]]⟩, ⟨[], [.keep, .keep, .keep, .keep, .early [17, 16, 15, 14], .early [22, 17, 16, 15, 14], .early [23, 22, 17, 16, 15, 14], .early [14]]⟩, ⟨[], [.keep, .keep, .keep, .keep, .early [17, 16, 15], .early [22, 17, 16, 15], .early [23, 22, 17, 16, 15], .early [15]]⟩, ⟨[], [.keep, .keep, .keep, .keep, .early [17, 16], .early [22, 17, 16], .early [23, 22, 17, 16], .early [16]]⟩, ⟨[], [.keep, .keep, .keep, .keep, .early [17], .early [22, 17], .early [23, 22, 17], .early [17]]⟩, ⟨[], [.keep, .keep, .keep, .keep, .early [21, 20, 19, 18], .early [22, 21, 20, 19, 18], .early [23, 22, 21, 20, 19, 18], .early [18]]⟩, ⟨[], [.keep, .keep, .keep, .keep, .early [21, 20, 19], .early [22, 21, 20, 19], .early [23, 22, 21, 20, 19], .early [19]]⟩, ⟨[], [.keep, .keep, .keep, .keep, .early [21, 20], .early [22, 21, 20], .early [23, 22, 21, 20], .early [20]]⟩, ⟨[], [.keep, .keep, .keep, .keep, .early [21], .early [22, 21], .early [23, 22, 21], .early [21]]⟩, ⟨[], [.keep, .keep, .keep, .keep, .last, .early [22], .early [23, 22], .early [22]]⟩, ⟨[(1, [1]), (2, [6]), (3, [9]), (4, [22])], [.late [[1]], .late [[]], .late [[]], .late [[]], .late [[]], .last, .early [23], .early [23]]⟩, ⟨[(5, [23])], [.late [[23, 1]], .late [[23]], .late [[23]], .late [[23]], .late [[23]], .late [[]], .last, .early [24]]⟩, ⟨[(6, [24])], [.late [[1]], .late [[23]], .late [[23]], .late [[23]], .late [[23]], .late [[24]], .late [[]], .last]⟩] [18, 19, 20, 21, 22, 23, 24, 25, 26, 27, 28, 29, 30, 31, 32, 33, 34, 35, 36, 37, 38, 39, 40, 41, 42, 4] (by kernel_rfl) (Typed.refl _ _) (fun _ _ _ => Typed.trans) (by kernel_rfl) (by kernel_rfl) (by kernel_rfl) (by kernel_rfl) (by kernel_rfl) ?start ?_
    case start =>
      exact trivial
    refine ex_phi (fun _ _ => True) ?_
    refine ex_phi (fun _ _ => True) ?_
    apply ex_is; apply Exists.intro
    apply ex_is; apply Exists.intro
    apply ex_is; apply Exists.intro
    apply ex_is; apply Exists.intro
    refine ex_phi (fun _ _ => True) ?_
    apply ex_is; apply Exists.intro
    apply ex_is; apply Exists.intro
    refine ex_phi (fun _ _ => True) ?_
    apply ex_is; apply Exists.intro
    apply ex_is; apply Exists.intro
    apply ex_is; apply Exists.intro
    apply ex_is; apply Exists.intro
    apply ex_is; apply Exists.intro
    apply ex_is; apply Exists.intro
    apply ex_is; apply Exists.intro
    apply ex_is; apply Exists.intro
    apply ex_is; apply Exists.intro
    apply ex_is; apply Exists.intro
    apply ex_is; apply Exists.intro
    apply ex_is; apply Exists.intro
    refine ex_phi (fun _ _ => True) ?_
    refine ex_phi (fun _ _ => True) ?_
    refine ex_phi (fun _ _ => True) ?_
    refine ex_phi (fun _ _ => True) ?_
    refine ⟨[], ⟨?steps, ?stab, ?ends⟩⟩
    case steps =>
      refine And.intro (obX_eff (Ext) (fun _ _ h => Typed.ext h) (And.intro (fun _ _ _ h e => h.ext e) (And.intro (fun _ _ _ h e => h.ext e) (And.intro (fun _ _ _ h e => h.ext e) (trivial)))) ?_) ?_
      · intro act W hR hf ho hu K hK
        replace hK := fun v (w' : World) (h1 : (Ext) W w') (b0 : (LitAt w2.heap.size (bs [83, 90]) 5) (v) w') => hK v w' h1 trivial ⟨b0, trivial⟩
        clear ho hf hu
        go_simp
        exact hK _ _ (by repeat first | (with_reducible exact Below.refl _ _) | (with_reducible apply Ext.alloc) | (with_reducible apply Ext.drew) | (with_reducible apply Ext.drewN) | (with_reducible refine Ext.set ?_ (by simp))) (LitAt.new (cs := bs [83, 90]) hR.size)
      refine And.intro (obX_eff (fun a b => CellsKept a b ∧ Typed w2.heap.size 5 a b) (fun _ _ h => h.2) (And.intro (fun _ _ _ h e => h.cells e.1) (And.intro (fun _ _ _ h e => h.cells e.1) (And.intro (fun _ _ _ h e => h.cells e.1) (trivial)))) ?_) ?_
      · intro act W hR hf ho hu K hK
        replace hK := fun v (w' : World) (h1 : (fun a b => CellsKept a b ∧ Typed w2.heap.size 5 a b) W w') (b1 : (SeenB [83, 90]) (v) w') => hK v w' h1 trivial ⟨b1, trivial⟩
        have F : (fun _ _ => True) (act.tmps[18]?.getD undef) W ∧ True := hf
        obtain ⟨-, -⟩ := F
        have U : (LitAt w2.heap.size (bs [83, 90]) 5) (act.tmps[18]?.getD undef) W ∧ True := hu
        obtain ⟨r_sa, -⟩ := U
        generalize f0 : act.tmps[18]?.getD undef = v0 at r_sa
        clear ho hf hu
        obtain ⟨b0, rfl, hB0, hb0⟩ := r_sa; obtain ⟨W', hrun, -, hg, hsz, hb'⟩ := conv_lit (P := Try.prog) W 27 5 b0 _ 2 2 Try.underlying27 Try.underlying5 hb0; have k0 := lit_kept hg hb0 hb'; have k1 := lit_typed hg hb0 hB0; have k2 := SeenB.new hb0; change (convert _ _ (.slice (some ⟨b0, 0, none⟩) (bs [83, 90]).length (bs [83, 90]).length)).run Try.prog W = _ at hrun
        go_simp
        exact hK _ _ ⟨k0, k1⟩ (k2.cells k0)
      refine And.intro (obX_pure (Typed.refl _ _) ?_) ?_
      · intro act W hR hf ho hu K hK
        replace hK := fun v h2 => hK v W rfl h2 trivial
        have G : act.tmps[3]?.getD undef = _ ∧ True := ho
        obtain ⟨g3, -⟩ := G
        clear ho hf hu
        go_simp
        exact hK _ (Eq.refl _)
      refine And.intro (obX_pure (Typed.refl _ _) ?_) ?_
      · intro act W hR hf ho hu K hK
        replace hK := fun v h2 => hK v W rfl h2 trivial
        have G : act.tmps[1]?.getD undef = _ ∧ True := ho
        obtain ⟨g1, -⟩ := G
        clear ho hf hu
        go_simp
        exact hK _ (Eq.refl _)
      refine And.intro (obX_pure (Typed.refl _ _) ?_) ?_
      · intro act W hR hf ho hu K hK
        replace hK := fun v h2 => hK v W rfl h2 trivial
        have F : act.tmps[21]?.getD undef = _ ∧ True := hf
        obtain ⟨f3, -⟩ := F
        clear ho hf hu
        replace z0 := lieT (w := w2.drew) hR z0 hlt; replace z1 := lieT (w := w2.drew) hR z1 hlt; replace z2 := lieT (w := w2.drew) hR z2 hlt; replace z3 := lieT (w := w2.drew) hR z3 hlt; replace z4 := lieT (w := w2.drew) hR z4 hlt; replace z5 := lieT (w := w2.drew) hR z5 hlt
        go_simp
        exact hK _ (Eq.refl _)
      refine And.intro (obX_pure (Typed.refl _ _) ?_) ?_
      · intro act W hR hf ho hu K hK
        replace hK := fun v h2 => hK v W rfl h2 trivial
        have F : act.tmps[22]?.getD undef = _ ∧ True := hf
        obtain ⟨f4, -⟩ := F
        clear ho hf hu
        go_simp
        exact hK _ (Eq.refl _)
      refine And.intro (obX_eff (Ext) (fun _ _ h => Typed.ext h) (And.intro (fun _ _ _ h e => h.ext e) (And.intro (fun _ _ _ h e => h.ext e) (And.intro (fun _ _ _ h e => h.ext e) (And.intro (fun _ _ _ h e => h.ext e) (trivial))))) ?_) ?_
      · intro act W hR hf ho hu K hK
        replace hK := fun v (w' : World) (h1 : (Ext) W w') (b2 : (SeenB [b2i st, hp % 256]) (v) w') => hK v w' h1 trivial ⟨b2, trivial⟩
        have F : act.tmps[20]?.getD undef = _ ∧ act.tmps[23]?.getD undef = _ ∧ True := hf
        obtain ⟨f2, f5, -⟩ := F
        clear ho hf hu
        go_simp
        simp only [u8wrap]; exact hK _ _ (by repeat first | (with_reducible exact Below.refl _ _) | (with_reducible apply Ext.alloc) | (with_reducible apply Ext.drew) | (with_reducible apply Ext.drewN) | (with_reducible refine Ext.set ?_ (by simp))) (SeenB.new (l := [b2i st, hp % 256]) (heap_alloc_new W _))
      refine And.intro (obX_pure (Typed.refl _ _) ?_) ?_
      · intro act W hR hf ho hu K hK
        replace hK := fun v h2 => hK v W rfl h2 trivial
        have G : act.tmps[1]?.getD undef = _ ∧ True := ho
        obtain ⟨g1, -⟩ := G
        clear ho hf hu
        go_simp
        exact hK _ (Eq.refl _)
      refine And.intro (obX_pure (Typed.refl _ _) ?_) ?_
      · intro act W hR hf ho hu K hK
        replace hK := fun v h2 => hK v W rfl h2 trivial
        have F : act.tmps[25]?.getD undef = _ ∧ True := hf
        obtain ⟨f7, -⟩ := F
        clear ho hf hu
        replace z0 := lieT (w := w2.drew) hR z0 hlt; replace z1 := lieT (w := w2.drew) hR z1 hlt; replace z2 := lieT (w := w2.drew) hR z2 hlt; replace z3 := lieT (w := w2.drew) hR z3 hlt; replace z4 := lieT (w := w2.drew) hR z4 hlt; replace z5 := lieT (w := w2.drew) hR z5 hlt
        go_simp
        exact hK _ (Eq.refl _)
      refine And.intro (obX_eff (Ext) (fun _ _ h => Typed.ext h) (And.intro (fun _ _ _ h e => h.ext e) (And.intro (fun _ _ _ h e => h.ext e) (And.intro (fun _ _ _ h e => h.ext e) (And.intro (fun _ _ _ h e => h.ext e) (trivial))))) ?_) ?_
      · intro act W hR hf ho hu K hK
        replace hK := fun v (w' : World) (h1 : (Ext) W w') (b3 : (SeenB (twoB fu)) (v) w') => hK v w' h1 trivial ⟨b3, trivial⟩
        have F : act.tmps[26]?.getD undef = _ ∧ True := hf
        obtain ⟨f8, -⟩ := F
        clear ho hf hu
        go_simp
        refine (two_any fu W HF.out).mono ?_; rintro e W1 ⟨v, rfl, ho, hE⟩; exact hK _ _ hE (SeenB.own (l := twoB fu) ho)
      refine And.intro (obX_pure (Typed.refl _ _) ?_) ?_
      · intro act W hR hf ho hu K hK
        replace hK := fun v h2 => hK v W rfl h2 trivial
        have G : act.tmps[1]?.getD undef = _ ∧ True := ho
        obtain ⟨g1, -⟩ := G
        clear ho hf hu
        go_simp
        exact hK _ (Eq.refl _)
      refine And.intro (obX_pure (Typed.refl _ _) ?_) ?_
      · intro act W hR hf ho hu K hK
        replace hK := fun v h2 => hK v W rfl h2 trivial
        have F : act.tmps[28]?.getD undef = _ ∧ True := hf
        obtain ⟨f10, -⟩ := F
        clear ho hf hu
        replace z0 := lieT (w := w2.drew) hR z0 hlt; replace z1 := lieT (w := w2.drew) hR z1 hlt; replace z2 := lieT (w := w2.drew) hR z2 hlt; replace z3 := lieT (w := w2.drew) hR z3 hlt; replace z4 := lieT (w := w2.drew) hR z4 hlt; replace z5 := lieT (w := w2.drew) hR z5 hlt
        go_simp
        exact hK _ (Eq.refl _)
      refine And.intro (obX_pure (Typed.refl _ _) ?_) ?_
      · intro act W hR hf ho hu K hK
        replace hK := fun v h2 => hK v W rfl h2 trivial
        have F : act.tmps[29]?.getD undef = _ ∧ True := hf
        obtain ⟨f11, -⟩ := F
        clear ho hf hu
        go_simp
        exact hK _ (Eq.refl _)
      refine And.intro (obX_pure (Typed.refl _ _) ?_) ?_
      · intro act W hR hf ho hu K hK
        replace hK := fun v h2 => hK v W rfl h2 trivial
        have F : act.tmps[30]?.getD undef = _ ∧ True := hf
        obtain ⟨f12, -⟩ := F
        clear ho hf hu
        go_simp
        exact hK _ (Eq.refl _)
      refine And.intro (obX_pure (Typed.refl _ _) ?_) ?_
      · intro act W hR hf ho hu K hK
        replace hK := fun v h2 => hK v W rfl h2 trivial
        have G : act.tmps[1]?.getD undef = _ ∧ True := ho
        obtain ⟨g1, -⟩ := G
        clear ho hf hu
        go_simp
        exact hK _ (Eq.refl _)
      refine And.intro (obX_pure (Typed.refl _ _) ?_) ?_
      · intro act W hR hf ho hu K hK
        replace hK := fun v h2 => hK v W rfl h2 trivial
        have F : act.tmps[32]?.getD undef = _ ∧ True := hf
        obtain ⟨f14, -⟩ := F
        clear ho hf hu
        replace z0 := lieT (w := w2.drew) hR z0 hlt; replace z1 := lieT (w := w2.drew) hR z1 hlt; replace z2 := lieT (w := w2.drew) hR z2 hlt; replace z3 := lieT (w := w2.drew) hR z3 hlt; replace z4 := lieT (w := w2.drew) hR z4 hlt; replace z5 := lieT (w := w2.drew) hR z5 hlt
        go_simp
        exact hK _ (Eq.refl _)
      refine And.intro (obX_pure (Typed.refl _ _) ?_) ?_
      · intro act W hR hf ho hu K hK
        replace hK := fun v h2 => hK v W rfl h2 trivial
        have F : act.tmps[33]?.getD undef = _ ∧ True := hf
        obtain ⟨f15, -⟩ := F
        clear ho hf hu
        go_simp
        exact hK _ (Eq.refl _)
      refine And.intro (obX_pure (Typed.refl _ _) ?_) ?_
      · intro act W hR hf ho hu K hK
        replace hK := fun v h2 => hK v W rfl h2 trivial
        have F : act.tmps[34]?.getD undef = _ ∧ True := hf
        obtain ⟨f16, -⟩ := F
        clear ho hf hu
        go_simp
        exact hK _ (Eq.refl _)
      refine And.intro (obX_pure (Typed.refl _ _) ?_) ?_
      · intro act W hR hf ho hu K hK
        replace hK := fun v h2 => hK v W rfl h2 trivial
        have G : act.tmps[1]?.getD undef = _ ∧ True := ho
        obtain ⟨g1, -⟩ := G
        clear ho hf hu
        go_simp
        exact hK _ (Eq.refl _)
      refine And.intro (obX_pure (Typed.refl _ _) ?_) ?_
      · intro act W hR hf ho hu K hK
        replace hK := fun v h2 => hK v W rfl h2 trivial
        have F : act.tmps[36]?.getD undef = _ ∧ True := hf
        obtain ⟨f18, -⟩ := F
        clear ho hf hu
        replace z0 := lieT (w := w2.drew) hR z0 hlt; replace z1 := lieT (w := w2.drew) hR z1 hlt; replace z2 := lieT (w := w2.drew) hR z2 hlt; replace z3 := lieT (w := w2.drew) hR z3 hlt; replace z4 := lieT (w := w2.drew) hR z4 hlt; replace z5 := lieT (w := w2.drew) hR z5 hlt
        go_simp
        exact hK _ (Eq.refl _)
      refine And.intro (obX_pure (Typed.refl _ _) ?_) ?_
      · intro act W hR hf ho hu K hK
        replace hK := fun v h2 => hK v W rfl h2 trivial
        have F : act.tmps[37]?.getD undef = _ ∧ True := hf
        obtain ⟨f19, -⟩ := F
        clear ho hf hu
        go_simp
        exact hK _ (Eq.refl _)
      refine And.intro (obX_pure (Typed.refl _ _) ?_) ?_
      · intro act W hR hf ho hu K hK
        replace hK := fun v h2 => hK v W rfl h2 trivial
        have F : act.tmps[38]?.getD undef = _ ∧ True := hf
        obtain ⟨f20, -⟩ := F
        clear ho hf hu
        go_simp
        exact hK _ (Eq.refl _)
      refine And.intro (obX_eff (Ext) (fun _ _ h => Typed.ext h) (And.intro (fun _ _ _ h e => h.ext e) (And.intro (fun _ _ _ h e => h.ext e) (And.intro (fun _ _ _ h e => h.ext e) (And.intro (fun _ _ _ h e => h.ext e) (trivial))))) ?_) ?_
      · intro act W hR hf ho hu K hK
        replace hK := fun v (w' : World) (h1 : (Ext) W w') (b4 : (SeenB [(cs.length : Int) % 256, (ls.length : Int) % 256, (ss.length : Int) % 256]) (v) w') => hK v w' h1 trivial ⟨b4, trivial⟩
        have F : act.tmps[31]?.getD undef = _ ∧ act.tmps[35]?.getD undef = _ ∧ act.tmps[39]?.getD undef = _ ∧ True := hf
        obtain ⟨f13, f17, f21, -⟩ := F
        clear ho hf hu
        go_simp
        simp only [u8wrap]; exact hK _ _ (by repeat first | (with_reducible exact Below.refl _ _) | (with_reducible apply Ext.alloc) | (with_reducible apply Ext.drew) | (with_reducible apply Ext.drewN) | (with_reducible refine Ext.set ?_ (by simp))) (SeenB.new (l := [(cs.length : Int) % 256, (ls.length : Int) % 256, (ss.length : Int) % 256]) (heap_alloc_new W _))
      refine And.intro (obX_eff (Ext) (fun _ _ h => Typed.ext h) (trivial) ?_) ?_
      · intro act W hR hf ho hu K hK
        replace hK := fun v (w' : World) (h1 : (Ext) W w') (b5 : (HeadP (hdrL st hp fu cs.length ls.length ss.length)) (v) w') => hK v w' h1 trivial ⟨b5, trivial⟩
        have F : (fun _ _ => True) (act.tmps[19]?.getD undef) W ∧ (fun _ _ => True) (act.tmps[24]?.getD undef) W ∧ (fun _ _ => True) (act.tmps[27]?.getD undef) W ∧ (fun _ _ => True) (act.tmps[40]?.getD undef) W ∧ True := hf
        obtain ⟨-, -, -, -, -⟩ := F
        have U : (SeenB [83, 90]) (act.tmps[19]?.getD undef) W ∧ (SeenB [b2i st, hp % 256]) (act.tmps[24]?.getD undef) W ∧ (SeenB (twoB fu)) (act.tmps[27]?.getD undef) W ∧ (SeenB [(cs.length : Int) % 256, (ls.length : Int) % 256, (ss.length : Int) % 256]) (act.tmps[40]?.getD undef) W ∧ True := hu
        obtain ⟨r_sb, r_sc, r_sd, r_se, -⟩ := U
        generalize f1 : act.tmps[19]?.getD undef = v1 at r_sb
        generalize f6 : act.tmps[24]?.getD undef = v6 at r_sc
        generalize f9 : act.tmps[27]?.getD undef = v9 at r_sd
        generalize f22 : act.tmps[40]?.getD undef = v22 at r_se
        clear ho hf hu
        obtain ⟨A1, c1, rfl, k1⟩ := r_sb; obtain ⟨A2, c2, rfl, k2⟩ := r_sc; obtain ⟨A3, c3, rfl, k3⟩ := r_sd; obtain ⟨A4, c4, rfl, k4⟩ := r_se
        go_simp
        exact hK _ _ (by repeat first | (with_reducible exact Below.refl _ _) | (with_reducible apply Ext.alloc) | (with_reducible apply Ext.drew) | (with_reducible apply Ext.drewN) | (with_reducible refine Ext.set ?_ (by simp))) (HeadP.new ⟨_, _, rfl, k1⟩ ⟨_, _, rfl, k2⟩ ⟨_, _, rfl, k3⟩ ⟨_, _, rfl, k4⟩)
      refine And.intro (obX_eff (Ext) (fun _ _ h => Typed.ext h) (trivial) ?_) ?_
      · intro act W hR hf ho hu K hK
        replace hK := fun v (w' : World) (h1 : (Ext) W w') (b6 : (Owns w2.heap.size 5 1 9 (bs (hdrL st hp fu cs.length ls.length ss.length))) (v) w') => hK v w' h1 trivial ⟨b6, trivial⟩
        have F : (fun _ _ => True) (act.tmps[41]?.getD undef) W ∧ (fun _ _ => True) (act.tmps[27]?.getD undef) W ∧ True := hf
        obtain ⟨-, -, -⟩ := F
        have U : (HeadP (hdrL st hp fu cs.length ls.length ss.length)) (act.tmps[41]?.getD undef) W ∧ True := hu
        obtain ⟨r_sf, -⟩ := U
        generalize f23 : act.tmps[41]?.getD undef = v23 at r_sf
        generalize f9 : act.tmps[27]?.getD undef = v9
        clear ho hf hu
        obtain ⟨bq, ps, rfl, h4, hA, hArr, hL⟩ := r_sf; have HC := Lib.hid (concat_any (some ⟨bq, 0, none⟩) 4 ps W hArr (by omega) hL (by rw [hA]; simp [hdrL, twoB]) (by rw [hA]; simp [hdrL, twoB])); rw [h4, hA] at HC
        go_simp
        refine HC.out.mono ?_; rintro e W1 ⟨v, rfl, ho, hE⟩; exact hK _ _ hE (Owns.gives ho hE hR.size)
      refine And.intro (obX_pure (Typed.refl _ _) ?_) ?_
      · intro act W hR hf ho hu K hK
        replace hK := fun v (b7 : (Owns w2.heap.size 5 1 9 (bs (hdrL st hp fu cs.length ls.length ss.length))) (v) W) => hK v W rfl trivial ⟨b7, trivial⟩
        have F : (fun _ _ => True) (act.tmps[42]?.getD undef) W ∧ (fun _ _ => True) (act.tmps[42]?.getD undef) W ∧ (fun _ _ => True) (act.tmps[18]?.getD undef) W ∧ (fun _ _ => True) (act.tmps[19]?.getD undef) W ∧ act.tmps[20]?.getD undef = _ ∧ act.tmps[21]?.getD undef = _ ∧ act.tmps[22]?.getD undef = _ ∧ act.tmps[23]?.getD undef = _ ∧ (fun _ _ => True) (act.tmps[24]?.getD undef) W ∧ act.tmps[25]?.getD undef = _ ∧ act.tmps[26]?.getD undef = _ ∧ (fun _ _ => True) (act.tmps[27]?.getD undef) W ∧ act.tmps[28]?.getD undef = _ ∧ act.tmps[29]?.getD undef = _ ∧ act.tmps[30]?.getD undef = _ ∧ act.tmps[31]?.getD undef = _ ∧ act.tmps[32]?.getD undef = _ ∧ act.tmps[33]?.getD undef = _ ∧ act.tmps[34]?.getD undef = _ ∧ act.tmps[35]?.getD undef = _ ∧ act.tmps[36]?.getD undef = _ ∧ act.tmps[37]?.getD undef = _ ∧ act.tmps[38]?.getD undef = _ ∧ act.tmps[39]?.getD undef = _ ∧ (fun _ _ => True) (act.tmps[40]?.getD undef) W ∧ (fun _ _ => True) (act.tmps[41]?.getD undef) W ∧ (fun _ _ => True) (act.tmps[42]?.getD undef) W ∧ True := hf
        obtain ⟨-, -, -, -, f2, f3, f4, f5, -, f7, f8, -, f10, f11, f12, f13, f14, f15, f16, f17, f18, f19, f20, f21, -, -, -, -⟩ := F
        have U : (Owns w2.heap.size 5 1 9 (bs (hdrL st hp fu cs.length ls.length ss.length))) (act.tmps[42]?.getD undef) W ∧ True := hu
        obtain ⟨r_sg, -⟩ := U
        generalize f24 : act.tmps[42]?.getD undef = v24 at r_sg
        generalize f0 : act.tmps[18]?.getD undef = v0
        generalize f1 : act.tmps[19]?.getD undef = v1
        generalize f6 : act.tmps[24]?.getD undef = v6
        generalize f9 : act.tmps[27]?.getD undef = v9
        generalize f22 : act.tmps[40]?.getD undef = v22
        generalize f23 : act.tmps[41]?.getD undef = v23
        clear ho hf hu
        go_simp
        exact hK _ r_sg
      exact trivial
    case stab =>
      refine And.intro (fun _ _ _ h _ => h) ?_
      refine And.intro (fun _ _ _ h _ => h) ?_
      refine And.intro is_stable ?_
      refine And.intro is_stable ?_
      refine And.intro is_stable ?_
      refine And.intro is_stable ?_
      refine And.intro (fun _ _ _ h _ => h) ?_
      refine And.intro is_stable ?_
      refine And.intro is_stable ?_
      refine And.intro (fun _ _ _ h _ => h) ?_
      refine And.intro is_stable ?_
      refine And.intro is_stable ?_
      refine And.intro is_stable ?_
      refine And.intro is_stable ?_
      refine And.intro is_stable ?_
      refine And.intro is_stable ?_
      refine And.intro is_stable ?_
      refine And.intro is_stable ?_
      refine And.intro is_stable ?_
      refine And.intro is_stable ?_
      refine And.intro is_stable ?_
      refine And.intro is_stable ?_
      refine And.intro (fun _ _ _ h _ => h) ?_
      refine And.intro (fun _ _ _ h _ => h) ?_
      refine And.intro (fun _ _ _ h _ => h) ?_
      refine And.intro (fun _ _ _ h _ => h) ?_
      exact trivial
    case ends =>
      intro vals W hR hE hall
      have E : (Owns w2.heap.size 5 1 9 (bs (hdrL st hp fu cs.length ls.length ss.length))) (vals 4) W ∧ True := hE
      obtain ⟨e_sh, -⟩ := E
      clear hE
      clear hall
      generalize ev4 : vals 4 = x4 at e_sh
      simp only [fill, List.setIfInBounds_toArray, List.set_cons_succ, List.set_cons_zero, ev4]
      have hB : Hid (Ext w2 W) := Lib.hid (Ext.typed (by repeat first | (with_reducible exact Below.refl _ _) | (with_reducible apply Ext.alloc) | (with_reducible apply Ext.drew) | (with_reducible apply Ext.drewN) | (with_reducible refine Ext.set ?_ (by simp))) (Nat.le_refl _) hR)
      have hB2 := hR.size
      obtain ⟨hdr, hhdr⟩ : ∃ hdr, hdr = hdrL st hp fu cs.length ls.length ss.length := ⟨_, rfl⟩
      rw [← hhdr] at e_sh
      have h9 : hdr.length = 9 := by rw [hhdr]; rfl
      rw [← h9] at e_sh
      have HH := Lib.hid hhdr
      clear hhdr hR
      have hzz : Hid (w2.heap[w.heap.size]? = some (.cells #[.bool st, .int .i64 hp, .int .i64 fu, .slice Ac cs.length cc, .slice Al ls.length cl, .slice As ss.length cS] 26)) := Lib.hid ((hb2.block _ (by simp)).trans (heap_alloc_new w _))
      clear z0 z1 z2 z3 z4 z5
      obtain ⟨z0, z1, z2, z3, z4, z5⟩ := lie6 hzz.out hB.out
      go_wp2_with fail
      have hL1 := preC_len hdr cs
      rw [h9] at hL1
      have HL1 := Lib.hid hL1
      have HN4 := Lib.hid hn4
      have HN5 := Lib.hid hn5
      clear hL1 h9 hn4 hn5
      go_loopw [4, 46] (fun vb i wr => ∃ k : Nat, k ≤ cs.length ∧ i = .int .i64 (k : Int) ∧ Owns w2.heap.size 5 1 (preC hdr cs k).length (bs (preC hdr cs k)) vb wr ∧ Ext w2 wr) (fun _ i _ => cs.length - (intOf i).toNat)
      case atStart => exact ⟨0, Nat.zero_le _, rfl, by simpa [preC] using e_sh, hB.out⟩
      case round =>
        obtain ⟨k, hk, rfl, hO, hE⟩ := hrel
        obtain ⟨z0, z1, z2, z3, z4, z5⟩ := lie6 hzz.out hE
        have hlt2 : w.heap.size < wr.heap.size := by have := hE.size; omega
        by_cases hlt3 : k < cs.length
        · obtain ⟨b1, o1, rfl, hb1, q1⟩ := H.out.comps.flat (s := 2) (fun _ => rfl) (by decide) hlt3
          have E1 : Ext w wr := ((Ext.alloc (Below.refl _ w) _).then hb2).then hE
          have x0 := ext_cell E1 _ _ (q1 0 _ rfl)
          have x1 := ext_cell E1 _ _ (q1 1 _ rfl)
          simp only [Nat.zero_mul, Nat.add_zero] at x0
          clear q1
          have hP := preC_succ (h := hdr) hlt3
          have hl0 := HL1.out k
          have hcl := HN4.out cs[k] (List.getElem_mem hlt3)
          generalize hcc : cs[k] = c at x0 x1 hP hcl
          clear hcc
          obtain ⟨A0, c0, rfl, -, -⟩ := Arr.own hO.2
          generalize hpp : preC hdr cs k = pre at hO hP hl0 ⊢
          clear hpp
          have HP := Lib.hid hP
          clear hP
          obtain ⟨u, hu⟩ : ∃ u, u = wr.alloc (.cells #[.slice c.A c.code.length c.cap, .int .i64 c.data] 53) := ⟨_, rfl⟩
          have cb : u.heap[wr.heap.size]? = some (.cells #[.slice c.A c.code.length c.cap, .int .i64 c.data] 53) := by rw [hu]; exact heap_alloc_new wr _
          have hO2 : Owns w2.heap.size 5 1 pre.length (bs pre) (.slice A0 pre.length c0) u := by rw [hu]; exact hO.ext (by repeat first | (with_reducible exact Below.refl _ _) | (with_reducible apply Ext.alloc) | (with_reducible apply Ext.drew) | (with_reducible apply Ext.drewN) | (with_reducible refine Ext.set ?_ (by simp)))
          have hE2 : Ext w2 u := by rw [hu]; exact (by repeat first | (with_reducible exact Below.refl _ _) | (with_reducible apply Ext.alloc) | (with_reducible apply Ext.drew) | (with_reducible apply Ext.drewN) | (with_reducible refine Ext.set ?_ (by simp)) | (with_reducible refine Ext.then ?_ hE))
          go_wp2_with fail
          rw [← hu]
          have HU := Lib.hid hu
          clear hu
          refine wp_region_res (Typed w2.heap.size 5) [⟨none, [], [5]⟩, ⟨some 4, [(4, [])], [5]⟩, ⟨some 9, [(9, [])], [10]⟩, ⟨some 5, [(5, [])], [10]⟩, ⟨some 10, [(10, [])], [11]⟩, ⟨some 11, [(11, [])], []⟩] [(fun (u : Nat → Value) (W : World) => (fun (_ : Value) (W : World) => W.ownsRow w2.heap.size 5 1 (.slice A0 pre.length c0) pre.length (bs pre)) (undef) W), (fun (u : Nat → Value) (W : World) => (SeenB (twoB c.code.length)) (u 4) W), (fun (u : Nat → Value) (W : World) => (FarB (Value.ownBlock (.slice A0 pre.length c0)) [c.data % 256]) (u 9) W), (fun (u : Nat → Value) (W : World) => (fun (v : Value) (W : World) => W.ownsRow w2.heap.size 5 1 v (pre.length + 2) (bs pre ++ bs (twoB c.code.length))) (u 5) W), (fun (u : Nat → Value) (W : World) => (fun (v : Value) (W : World) => W.ownsRow w2.heap.size 5 1 v (pre.length + 2 + 1) (bs pre ++ bs (twoB c.code.length) ++ bs [c.data % 256])) (u 10) W), (fun (u : Nat → Value) (W : World) => (fun (v : Value) (W : World) => W.ownsRow w2.heap.size 5 1 v (pre.length + 2 + 1) (bs pre ++ bs (twoB c.code.length) ++ bs [c.data % 256])) (u 11) W)] [⟨[], [.keep, .keep, .keep, .early [0], .early [5, 0], .early [0]]⟩, ⟨[], [.keep, .early [3, 2, 1], .keep, .early [4, 3, 2, 1], .early [5, 4, 3, 2, 1], .early [1]]⟩, ⟨[], [.keep, .early [3, 2], .keep, .early [4, 3, 2], .early [5, 4, 3, 2], .early [2]]⟩, ⟨[], [.keep, .early [3], .keep, .early [4, 3], .early [5, 4, 3], .early [3]]⟩, ⟨[], [.keep, .last, .keep, .early [4], .early [5, 4], .early [4]]⟩, ⟨[(0, []), (1, [4])], [.late [[]], .late [[]], .keep, .last, .early [5], .early [5]]⟩, ⟨[], [.keep, .keep, .early [8, 7, 6], .keep, .early [9, 8, 7, 6], .early [6]]⟩, ⟨[], [.keep, .keep, .early [8, 7], .keep, .early [9, 8, 7], .early [7]]⟩, ⟨[], [.keep, .keep, .early [8], .keep, .early [9, 8], .early [8]]⟩, ⟨[], [.keep, .keep, .last, .keep, .early [9], .early [9]]⟩, ⟨[(2, [9]), (3, [5])], [.late [[5]], .late [[5]], .late [[]], .late [[]], .last, .early [10]]⟩, ⟨[(4, [10])], [.late [[5]], .late [[5]], .late [[10]], .late [[10]], .late [[]], .last]⟩] [50, 51, 52, 53, 54, 55, 56, 57, 58, 59, 60, 4] (by kernel_rfl) (Typed.refl _ _) (fun _ _ _ => Typed.trans) (by kernel_rfl) (by kernel_rfl) (by kernel_rfl) (by kernel_rfl) (by kernel_rfl) ?start ?_
          case start =>
            refine And.intro ?_ ?_
            · exact hO2.2
            exact trivial
          apply ex_is; apply Exists.intro
          apply ex_is; apply Exists.intro
          apply ex_is; apply Exists.intro
          apply ex_is; apply Exists.intro
          refine ex_phi (fun _ _ => True) ?_
          refine ex_phi (fun _ _ => True) ?_
          apply ex_is; apply Exists.intro
          apply ex_is; apply Exists.intro
          apply ex_is; apply Exists.intro
          refine ex_phi (fun _ _ => True) ?_
          refine ex_phi (fun _ _ => True) ?_
          refine ex_phi (fun _ _ => True) ?_
          refine ⟨[], ⟨?steps, ?stab, ?ends⟩⟩
          case steps =>
            refine And.intro (obX_pure (Typed.refl _ _) ?_) ?_
            · intro act W hR hf ho hu K hK
              replace hK := fun v h2 => hK v W rfl h2 trivial
              have G : act.tmps[4]?.getD undef = _ ∧ True := ho
              obtain ⟨g4, -⟩ := G
              clear ho hf hu
              go_simp
              exact hK _ (Eq.refl _)
            refine And.intro (obX_pure (Typed.refl _ _) ?_) ?_
            · intro act W hR hf ho hu K hK
              replace hK := fun v h2 => hK v W rfl h2 trivial
              have G : act.tmps[6]?.getD undef = _ ∧ True := ho
              obtain ⟨g6, -⟩ := G
              clear ho hf hu
              go_simp
              exact hK _ (Eq.refl _)
            refine And.intro (obX_pure (Typed.refl _ _) ?_) ?_
            · intro act W hR hf ho hu K hK
              replace hK := fun v h2 => hK v W rfl h2 trivial
              have F : act.tmps[51]?.getD undef = _ ∧ True := hf
              obtain ⟨f1, -⟩ := F
              clear ho hf hu
              have cb2 := hR.block _ _ cb (.inr fun _ _ h => by cases h); have z0 : W.cell? ⟨wr.heap.size, 0, none⟩ = some (.slice c.A c.code.length c.cap) := by simp [World.cell?, cb2]
              go_simp
              exact hK _ (Eq.refl _)
            refine And.intro (obX_pure (Typed.refl _ _) ?_) ?_
            · intro act W hR hf ho hu K hK
              replace hK := fun v h2 => hK v W rfl h2 trivial
              have F : act.tmps[52]?.getD undef = _ ∧ True := hf
              obtain ⟨f2, -⟩ := F
              clear ho hf hu
              go_simp
              exact hK _ (Eq.refl _)
            refine And.intro (obX_eff (Ext) (fun _ _ h => Typed.ext h) (And.intro (fun _ _ _ h e => own_ext h e) (And.intro (fun _ _ _ h e => h.ext e) (trivial))) ?_) ?_
            · intro act W hR hf ho hu K hK
              replace hK := fun v (w' : World) (h1 : (Ext) W w') (b1 : (SeenB (twoB c.code.length)) (v) w') => hK v w' h1 trivial ⟨b1, trivial⟩
              have F : act.tmps[53]?.getD undef = _ ∧ True := hf
              obtain ⟨f3, -⟩ := F
              clear ho hf hu
              go_simp
              refine (two_any c.code.length W ⟨by omega, by omega⟩).mono ?_; rintro e W1 ⟨v, rfl, ho, hE⟩; exact hK _ _ hE (SeenB.own (l := twoB c.code.length) ho)
            refine And.intro (obX_eff (fun a b => a.grownBy b ((Value.ownBlock (.slice A0 pre.length c0))) ∧ Typed w2.heap.size 5 a b) (fun _ _ h => h.2) (And.intro (fun _ _ _ h e => h.grown e.1) (trivial)) ?_) ?_
            · intro act W hR hf ho hu K hK
              replace hK := fun v (w' : World) (h1 : (fun a b => a.grownBy b ((Value.ownBlock (.slice A0 pre.length c0))) ∧ Typed w2.heap.size 5 a b) W w') (b3 : (fun (v : Value) (W : World) => W.ownsRow w2.heap.size 5 1 v (pre.length + 2) (bs pre ++ bs (twoB c.code.length))) (v) w') => hK v w' h1 trivial ⟨b3, trivial⟩
              have F : act.tmps[50]?.getD undef = _ ∧ (fun _ _ => True) (act.tmps[54]?.getD undef) W ∧ (fun _ _ => True) (act.tmps[54]?.getD undef) W ∧ True := hf
              obtain ⟨f0, -, -, -⟩ := F
              have U : (fun (_ : Value) (W : World) => W.ownsRow w2.heap.size 5 1 (.slice A0 pre.length c0) pre.length (bs pre)) (undef) W ∧ (SeenB (twoB c.code.length)) (act.tmps[54]?.getD undef) W ∧ True := hu
              obtain ⟨r_row, r_c4, -⟩ := U
              generalize f4 : act.tmps[54]?.getD undef = v4 at r_c4
              clear ho hf hu
              obtain ⟨A4, c4, rfl, k4⟩ := r_c4
              dsimp only [Option.elim] at f0
              rw [← seen_eq]; refine step_append_src W rfl (.tmp 50) (.tmp 54) 27 rfl w2.heap.size 5 i0 (.int .u8 0) 1 1 Try.underlying27 hi hz0 hz1 hz2 rfl (by decide) _ _ _ (eval_get f0) r_row _ _ _ (eval_get f4) k4 (by simp [bs]) (bs_one _) (by unfold maxLen; (try simp only [twoB, List.length_cons, List.length_nil]); omega) (by (try simp only [twoB, List.length_cons, List.length_nil]); omega) (Nat.le_trans hE2.size hR.size) ?_; intro v' w' ho' hg' _; exact hK _ _ ⟨hg', Typed.grown r_row hg'⟩ ho'
            refine And.intro (obX_pure (Typed.refl _ _) ?_) ?_
            · intro act W hR hf ho hu K hK
              replace hK := fun v h2 => hK v W rfl h2 trivial
              have G : act.tmps[6]?.getD undef = _ ∧ True := ho
              obtain ⟨g6, -⟩ := G
              clear ho hf hu
              go_simp
              exact hK _ (Eq.refl _)
            refine And.intro (obX_pure (Typed.refl _ _) ?_) ?_
            · intro act W hR hf ho hu K hK
              replace hK := fun v h2 => hK v W rfl h2 trivial
              have F : act.tmps[56]?.getD undef = _ ∧ True := hf
              obtain ⟨f6, -⟩ := F
              clear ho hf hu
              have cb2 := hR.block _ _ cb (.inr fun _ _ h => by cases h); have z0 : W.cell? ⟨wr.heap.size, 0, none⟩ = some (.slice c.A c.code.length c.cap) := by simp [World.cell?, cb2]
              have z1 : W.cell? ⟨wr.heap.size, 1, none⟩ = some (.int .i64 c.data) := by simp [World.cell?, cb2]
              go_simp
              exact hK _ (Eq.refl _)
            refine And.intro (obX_pure (Typed.refl _ _) ?_) ?_
            · intro act W hR hf ho hu K hK
              replace hK := fun v h2 => hK v W rfl h2 trivial
              have F : act.tmps[57]?.getD undef = _ ∧ True := hf
              obtain ⟨f7, -⟩ := F
              clear ho hf hu
              go_simp
              exact hK _ (Eq.refl _)
            refine And.intro (obX_eff (Ext) (fun _ _ h => Typed.ext h) (And.intro (fun _ _ _ h e => own_ext h e) (And.intro (fun _ _ _ h e => h.ext e) (And.intro (fun _ _ _ h e => own_ext h e) (trivial)))) ?_) ?_
            · intro act W hR hf ho hu K hK
              replace hK := fun v (w' : World) (h1 : (Ext) W w') (b2 : (FarB (Value.ownBlock (.slice A0 pre.length c0)) [c.data % 256]) (v) w') => hK v w' h1 trivial ⟨b2, trivial⟩
              have F : act.tmps[58]?.getD undef = _ ∧ True := hf
              obtain ⟨f8, -⟩ := F
              clear ho hf hu
              go_simp
              simp only [u8wrap]; exact hK _ _ (by repeat first | (with_reducible exact Below.refl _ _) | (with_reducible apply Ext.alloc) | (with_reducible apply Ext.drew) | (with_reducible apply Ext.drewN) | (with_reducible refine Ext.set ?_ (by simp))) (FarB.new (l := [c.data % 256]) (own_lt hO2.2 hR.size))
            refine And.intro (obX_eff (Typed w2.heap.size 5) (fun _ _ h => h) (trivial) ?_) ?_
            · intro act W hR hf ho hu K hK
              replace hK := fun v (w' : World) (h1 : (Typed w2.heap.size 5) W w') (b4 : (fun (v : Value) (W : World) => W.ownsRow w2.heap.size 5 1 v (pre.length + 2 + 1) (bs pre ++ bs (twoB c.code.length) ++ bs [c.data % 256])) (v) w') => hK v w' h1 trivial ⟨b4, trivial⟩
              have F : (fun _ _ => True) (act.tmps[55]?.getD undef) W ∧ (fun _ _ => True) (act.tmps[59]?.getD undef) W ∧ (fun _ _ => True) (act.tmps[55]?.getD undef) W ∧ True := hf
              obtain ⟨-, -, -, -⟩ := F
              have U : (FarB (Value.ownBlock (.slice A0 pre.length c0)) [c.data % 256]) (act.tmps[59]?.getD undef) W ∧ (fun (v : Value) (W : World) => W.ownsRow w2.heap.size 5 1 v (pre.length + 2) (bs pre ++ bs (twoB c.code.length))) (act.tmps[55]?.getD undef) W ∧ True := hu
              obtain ⟨r_c9, r_r5, -⟩ := U
              generalize f5 : act.tmps[55]?.getD undef = v5 at r_r5
              generalize f9 : act.tmps[59]?.getD undef = v9 at r_c9
              clear ho hf hu
              obtain ⟨A9, c9, rfl, k9, -⟩ := r_c9
              rw [← seen_eq]; refine step_append_src W rfl (.tmp 55) (.tmp 59) 27 rfl w2.heap.size 5 i0 (.int .u8 0) 1 1 Try.underlying27 hi hz0 hz1 hz2 rfl (by decide) _ _ _ (eval_get f5) r_r5 _ _ _ (eval_get f9) k9 (by simp [bs]) (bs_one _) (by unfold maxLen; (try simp only [twoB, List.length_cons, List.length_nil]); omega) (by (try simp only [twoB, List.length_cons, List.length_nil]); omega) (Nat.le_trans hE2.size hR.size) ?_; intro v' w' ho' hg' _; exact hK _ _ (Typed.grown r_r5 hg') ho'
            refine And.intro (obX_pure (Typed.refl _ _) ?_) ?_
            · intro act W hR hf ho hu K hK
              replace hK := fun v (b5 : (fun (v : Value) (W : World) => W.ownsRow w2.heap.size 5 1 v (pre.length + 2 + 1) (bs pre ++ bs (twoB c.code.length) ++ bs [c.data % 256])) (v) W) => hK v W rfl trivial ⟨b5, trivial⟩
              have F : (fun _ _ => True) (act.tmps[60]?.getD undef) W ∧ (fun _ _ => True) (act.tmps[60]?.getD undef) W ∧ act.tmps[50]?.getD undef = _ ∧ act.tmps[51]?.getD undef = _ ∧ act.tmps[52]?.getD undef = _ ∧ act.tmps[53]?.getD undef = _ ∧ (fun _ _ => True) (act.tmps[54]?.getD undef) W ∧ (fun _ _ => True) (act.tmps[55]?.getD undef) W ∧ act.tmps[56]?.getD undef = _ ∧ act.tmps[57]?.getD undef = _ ∧ act.tmps[58]?.getD undef = _ ∧ (fun _ _ => True) (act.tmps[59]?.getD undef) W ∧ (fun _ _ => True) (act.tmps[60]?.getD undef) W ∧ True := hf
              obtain ⟨-, -, f0, f1, f2, f3, -, -, f6, f7, f8, -, -, -⟩ := F
              have U : (fun (v : Value) (W : World) => W.ownsRow w2.heap.size 5 1 v (pre.length + 2 + 1) (bs pre ++ bs (twoB c.code.length) ++ bs [c.data % 256])) (act.tmps[60]?.getD undef) W ∧ True := hu
              obtain ⟨r_r10, -⟩ := U
              generalize f10 : act.tmps[60]?.getD undef = v10 at r_r10
              generalize f4 : act.tmps[54]?.getD undef = v4
              generalize f5 : act.tmps[55]?.getD undef = v5
              generalize f9 : act.tmps[59]?.getD undef = v9
              clear ho hf hu
              go_simp
              exact hK _ r_r10
            exact trivial
          case stab =>
            refine And.intro is_stable ?_
            refine And.intro is_stable ?_
            refine And.intro is_stable ?_
            refine And.intro is_stable ?_
            refine And.intro (fun _ _ _ h _ => h) ?_
            refine And.intro (fun _ _ _ h _ => h) ?_
            refine And.intro is_stable ?_
            refine And.intro is_stable ?_
            refine And.intro is_stable ?_
            refine And.intro (fun _ _ _ h _ => h) ?_
            refine And.intro (fun _ _ _ h _ => h) ?_
            refine And.intro (fun _ _ _ h _ => h) ?_
            exact trivial
          case ends =>
            intro vals W hR hE hall
            have E : (fun (v : Value) (W : World) => W.ownsRow w2.heap.size 5 1 v (pre.length + 2 + 1) (bs pre ++ bs (twoB c.code.length) ++ bs [c.data % 256])) (vals 4) W ∧ True := hE
            obtain ⟨e_r11, -⟩ := E
            clear hE
            clear hall
            generalize ev4 : vals 4 = x4 at e_r11
            simp only [fill, List.setIfInBounds_toArray, List.set_cons_succ, List.set_cons_zero, ev4]
            have hE3 : Ext w2 W := Ext.typed (Ext.drew hE2) (Nat.le_refl _) hR
            go_wp2_with fail
            refine ⟨⟨k + 1, by omega, by simp, ⟨hE3.size, ?_⟩, hE3⟩, by simp [intOf]; omega⟩
            rw [HP.out, bs_app, bs_app, List.length_append, List.length_append]
            exact e_r11
        · obtain rfl : k = cs.length := by omega
          have hl1 := HL1.out cs.length
          generalize hp1 : preC hdr cs cs.length = h1 at hO hl1 ⊢
          have HP1 := Lib.hid hp1
          have hL2 := preL_len h1 ls
          have HL2 := Lib.hid hL2
          have hB2 := hE
          clear hp1 hL2 e_sh HL1
          go_wp2_with fail
          go_loopw [4, 65] (fun vb i wr => ∃ k : Nat, k ≤ ls.length ∧ i = .int .i64 (k : Int) ∧ Owns w2.heap.size 5 1 (preL h1 ls k).length (bs (preL h1 ls k)) vb wr ∧ Ext w2 wr) (fun _ i _ => ls.length - (intOf i).toNat)
          case atStart => exact ⟨0, Nat.zero_le _, rfl, by simpa [preL] using hO, hE⟩
          case round =>
            clear hO hE z0 z1 z2 z3 z4 z5 hB2 hlt2
            obtain ⟨k, hk, rfl, hO, hE⟩ := hrel
            obtain ⟨z0, z1, z2, z3, z4, z5⟩ := lie6 hzz.out hE
            have hlt2 : w.heap.size < wr.heap.size := by have := hE.size; omega
            by_cases hlt4 : k < ls.length
            · obtain ⟨b1, o1, rfl, hb1, q1⟩ := H.out.links.flat (s := 3) (fun _ => rfl) (by decide) hlt4
              have E1 : Ext w wr := ((Ext.alloc (Below.refl _ w) _).then hb2).then hE
              have x0 := ext_cell E1 _ _ (q1 0 _ rfl)
              have x1 := ext_cell E1 _ _ (q1 1 _ rfl)
              have x2 := ext_cell E1 _ _ (q1 2 _ rfl)
              simp only [Nat.zero_mul, Nat.add_zero] at x0
              clear q1
              have hP := preL_succ (h := h1) hlt4
              have hl0 := HL2.out k
              have hlk := (H.out.linksOk ls[k] (List.getElem_mem hlt4)).2.2
              generalize hcc : ls[k] = c at x0 x1 x2 hP hlk
              clear hcc
              obtain ⟨A0, c0, rfl, -, -⟩ := Arr.own hO.2
              generalize hpp : preL h1 ls k = pre at hO hP hl0 ⊢
              clear hpp
              have HP := Lib.hid hP
              have HLK := Lib.hid hlk
              clear hP hlk
              obtain ⟨u, hu⟩ : ∃ u, u = wr.alloc (.cells #[.int .i64 c.fr, .int .i64 c.to, .int .i64 c.at'] 68) := ⟨_, rfl⟩
              have cb : u.heap[wr.heap.size]? = some (.cells #[.int .i64 c.fr, .int .i64 c.to, .int .i64 c.at'] 68) := by rw [hu]; exact heap_alloc_new wr _
              have hO2 : Owns w2.heap.size 5 1 pre.length (bs pre) (.slice A0 pre.length c0) u := by rw [hu]; exact hO.ext (by repeat first | (with_reducible exact Below.refl _ _) | (with_reducible apply Ext.alloc) | (with_reducible apply Ext.drew) | (with_reducible apply Ext.drewN) | (with_reducible refine Ext.set ?_ (by simp)))
              have hE2 : Ext w2 u := by rw [hu]; exact (by repeat first | (with_reducible exact Below.refl _ _) | (with_reducible apply Ext.alloc) | (with_reducible apply Ext.drew) | (with_reducible apply Ext.drewN) | (with_reducible refine Ext.set ?_ (by simp)) | (with_reducible refine Ext.then ?_ hE))
              go_wp2_with fail
              rw [← hu]
              have HU := Lib.hid hu
              clear hu
              refine wp_region_res (Typed w2.heap.size 5) [⟨none, [], [8]⟩, ⟨some 7, [(7, [])], [8]⟩, ⟨some 11, [(11, [])], [12]⟩, ⟨some 8, [(8, [])], [12]⟩, ⟨some 12, [(12, [])], [13]⟩, ⟨some 13, [(13, [])], []⟩] [(fun (u : Nat → Value) (W : World) => (fun (_ : Value) (W : World) => W.ownsRow w2.heap.size 5 1 (.slice A0 pre.length c0) pre.length (bs pre)) (undef) W), (fun (u : Nat → Value) (W : World) => (FarB (Value.ownBlock (.slice A0 pre.length c0)) [c.fr % 256, c.to % 256]) (u 7) W), (fun (u : Nat → Value) (W : World) => (FarB (Value.ownBlock (.slice A0 pre.length c0)) (twoB c.at')) (u 11) W), (fun (u : Nat → Value) (W : World) => (fun (v : Value) (W : World) => W.ownsRow w2.heap.size 5 1 v (pre.length + 2) (bs pre ++ bs [c.fr % 256, c.to % 256])) (u 8) W), (fun (u : Nat → Value) (W : World) => (fun (v : Value) (W : World) => W.ownsRow w2.heap.size 5 1 v (pre.length + 2 + 2) (bs pre ++ bs [c.fr % 256, c.to % 256] ++ bs (twoB c.at'))) (u 12) W), (fun (u : Nat → Value) (W : World) => (fun (v : Value) (W : World) => W.ownsRow w2.heap.size 5 1 v (pre.length + 2 + 2) (bs pre ++ bs [c.fr % 256, c.to % 256] ++ bs (twoB c.at'))) (u 13) W)] [⟨[], [.keep, .keep, .early [8, 0], .early [0], .early [8, 0], .early [0]]⟩, ⟨[], [.keep, .early [3, 2, 1], .early [8, 7, 3, 2, 1], .early [7, 3, 2, 1], .early [8, 7, 3, 2, 1], .early [1]]⟩, ⟨[], [.keep, .early [3, 2], .early [8, 7, 3, 2], .early [7, 3, 2], .early [8, 7, 3, 2], .early [2]]⟩, ⟨[], [.keep, .early [3], .early [8, 7, 3], .early [7, 3], .early [8, 7, 3], .early [3]]⟩, ⟨[], [.keep, .early [6, 5, 4], .early [8, 7, 6, 5, 4], .early [7, 6, 5, 4], .early [8, 7, 6, 5, 4], .early [4]]⟩, ⟨[], [.keep, .early [6, 5], .early [8, 7, 6, 5], .early [7, 6, 5], .early [8, 7, 6, 5], .early [5]]⟩, ⟨[], [.keep, .early [6], .early [8, 7, 6], .early [7, 6], .early [8, 7, 6], .early [6]]⟩, ⟨[], [.keep, .last, .early [8, 7], .early [7], .early [8, 7], .early [7]]⟩, ⟨[(0, []), (1, [7])], [.late [[]], .late [[]], .early [8], .last, .early [8], .early [8]]⟩, ⟨[], [.keep, .keep, .early [10, 9], .keep, .early [11, 10, 9], .early [9]]⟩, ⟨[], [.keep, .keep, .early [10], .keep, .early [11, 10], .early [10]]⟩, ⟨[], [.late [[8]], .late [[8]], .last, .keep, .early [11], .early [11]]⟩, ⟨[(2, [11]), (3, [8])], [.late [[8]], .late [[8]], .late [[]], .late [[]], .last, .early [12]]⟩, ⟨[(4, [12])], [.late [[8]], .late [[8]], .late [[12]], .late [[12]], .late [[]], .last]⟩] [69, 70, 71, 72, 73, 74, 75, 76, 77, 78, 79, 80, 81, 4] (by kernel_rfl) (Typed.refl _ _) (fun _ _ _ => Typed.trans) (by kernel_rfl) (by kernel_rfl) (by kernel_rfl) (by kernel_rfl) (by kernel_rfl) ?start ?_
              case start =>
                refine And.intro ?_ ?_
                · exact hO2.2
                exact trivial
              apply ex_is; apply Exists.intro
              apply ex_is; apply Exists.intro
              apply ex_is; apply Exists.intro
              apply ex_is; apply Exists.intro
              apply ex_is; apply Exists.intro
              apply ex_is; apply Exists.intro
              apply ex_is; apply Exists.intro
              refine ex_phi (fun _ _ => True) ?_
              refine ex_phi (fun _ _ => True) ?_
              apply ex_is; apply Exists.intro
              apply ex_is; apply Exists.intro
              refine ex_phi (fun _ _ => True) ?_
              refine ex_phi (fun _ _ => True) ?_
              refine ex_phi (fun _ _ => True) ?_
              refine ⟨[], ⟨?steps, ?stab, ?ends⟩⟩
              case steps =>
                refine And.intro (obX_pure (Typed.refl _ _) ?_) ?_
                · intro act W hR hf ho hu K hK
                  replace hK := fun v h2 => hK v W rfl h2 trivial
                  have G : act.tmps[4]?.getD undef = _ ∧ True := ho
                  obtain ⟨g4, -⟩ := G
                  clear ho hf hu
                  go_simp
                  exact hK _ (Eq.refl _)
                refine And.intro (obX_pure (Typed.refl _ _) ?_) ?_
                · intro act W hR hf ho hu K hK
                  replace hK := fun v h2 => hK v W rfl h2 trivial
                  have G : act.tmps[8]?.getD undef = _ ∧ True := ho
                  obtain ⟨g8, -⟩ := G
                  clear ho hf hu
                  go_simp
                  exact hK _ (Eq.refl _)
                refine And.intro (obX_pure (Typed.refl _ _) ?_) ?_
                · intro act W hR hf ho hu K hK
                  replace hK := fun v h2 => hK v W rfl h2 trivial
                  have F : act.tmps[70]?.getD undef = _ ∧ True := hf
                  obtain ⟨f1, -⟩ := F
                  clear ho hf hu
                  have cb2 := hR.block _ _ cb (.inr fun _ _ h => by cases h); have z0 : W.cell? ⟨wr.heap.size, 0, none⟩ = some (.int .i64 c.fr) := by simp [World.cell?, cb2]
                  go_simp
                  exact hK _ (Eq.refl _)
                refine And.intro (obX_pure (Typed.refl _ _) ?_) ?_
                · intro act W hR hf ho hu K hK
                  replace hK := fun v h2 => hK v W rfl h2 trivial
                  have F : act.tmps[71]?.getD undef = _ ∧ True := hf
                  obtain ⟨f2, -⟩ := F
                  clear ho hf hu
                  go_simp
                  exact hK _ (Eq.refl _)
                refine And.intro (obX_pure (Typed.refl _ _) ?_) ?_
                · intro act W hR hf ho hu K hK
                  replace hK := fun v h2 => hK v W rfl h2 trivial
                  have G : act.tmps[8]?.getD undef = _ ∧ True := ho
                  obtain ⟨g8, -⟩ := G
                  clear ho hf hu
                  go_simp
                  exact hK _ (Eq.refl _)
                refine And.intro (obX_pure (Typed.refl _ _) ?_) ?_
                · intro act W hR hf ho hu K hK
                  replace hK := fun v h2 => hK v W rfl h2 trivial
                  have F : act.tmps[73]?.getD undef = _ ∧ True := hf
                  obtain ⟨f4, -⟩ := F
                  clear ho hf hu
                  have cb2 := hR.block _ _ cb (.inr fun _ _ h => by cases h); have z0 : W.cell? ⟨wr.heap.size, 0, none⟩ = some (.int .i64 c.fr) := by simp [World.cell?, cb2]
                  have z1 : W.cell? ⟨wr.heap.size, 1, none⟩ = some (.int .i64 c.to) := by simp [World.cell?, cb2]
                  go_simp
                  exact hK _ (Eq.refl _)
                refine And.intro (obX_pure (Typed.refl _ _) ?_) ?_
                · intro act W hR hf ho hu K hK
                  replace hK := fun v h2 => hK v W rfl h2 trivial
                  have F : act.tmps[74]?.getD undef = _ ∧ True := hf
                  obtain ⟨f5, -⟩ := F
                  clear ho hf hu
                  go_simp
                  exact hK _ (Eq.refl _)
                refine And.intro (obX_eff (Ext) (fun _ _ h => Typed.ext h) (And.intro (fun _ _ _ h e => own_ext h e) (trivial)) ?_) ?_
                · intro act W hR hf ho hu K hK
                  replace hK := fun v (w' : World) (h1 : (Ext) W w') (b1 : (FarB (Value.ownBlock (.slice A0 pre.length c0)) [c.fr % 256, c.to % 256]) (v) w') => hK v w' h1 trivial ⟨b1, trivial⟩
                  have F : act.tmps[72]?.getD undef = _ ∧ act.tmps[75]?.getD undef = _ ∧ True := hf
                  obtain ⟨f3, f6, -⟩ := F
                  clear ho hf hu
                  go_simp
                  simp only [u8wrap]; exact hK _ _ (by repeat first | (with_reducible exact Below.refl _ _) | (with_reducible apply Ext.alloc) | (with_reducible apply Ext.drew) | (with_reducible apply Ext.drewN) | (with_reducible refine Ext.set ?_ (by simp))) (FarB.new (l := [c.fr % 256, c.to % 256]) (own_lt hO2.2 hR.size))
                refine And.intro (obX_eff (fun a b => a.grownBy b (Value.ownBlock (.slice A0 pre.length c0)) ∧ Typed w2.heap.size 5 a b) (fun _ _ h => h.2) (trivial) ?_) ?_
                · intro act W hR hf ho hu K hK
                  replace hK := fun v (w' : World) (h1 : (fun a b => a.grownBy b (Value.ownBlock (.slice A0 pre.length c0)) ∧ Typed w2.heap.size 5 a b) W w') (b3 : (fun (v : Value) (W : World) => W.ownsRow w2.heap.size 5 1 v (pre.length + 2) (bs pre ++ bs [c.fr % 256, c.to % 256])) (v) w') => hK v w' h1 trivial ⟨b3, trivial⟩
                  have F : act.tmps[69]?.getD undef = _ ∧ (fun _ _ => True) (act.tmps[76]?.getD undef) W ∧ True := hf
                  obtain ⟨f0, -, -⟩ := F
                  have U : (fun (_ : Value) (W : World) => W.ownsRow w2.heap.size 5 1 (.slice A0 pre.length c0) pre.length (bs pre)) (undef) W ∧ (FarB (Value.ownBlock (.slice A0 pre.length c0)) [c.fr % 256, c.to % 256]) (act.tmps[76]?.getD undef) W ∧ True := hu
                  obtain ⟨r_row, r_c7, -⟩ := U
                  generalize f7 : act.tmps[76]?.getD undef = v7 at r_c7
                  clear ho hf hu
                  obtain ⟨A4, c4, rfl, k4, -⟩ := r_c7
                  dsimp only [Option.elim] at f0
                  rw [← seen_eq]; refine step_append_src W rfl (.tmp 69) (.tmp 76) 27 rfl w2.heap.size 5 i0 (.int .u8 0) 1 1 Try.underlying27 hi hz0 hz1 hz2 rfl (by decide) _ _ _ (eval_get f0) r_row _ _ _ (eval_get f7) k4 (by simp [bs]) (bs_one _) (by unfold maxLen; (try simp only [twoB, List.length_cons, List.length_nil]); omega) (by (try simp only [twoB, List.length_cons, List.length_nil]); omega) (Nat.le_trans hE2.size hR.size) ?_; intro v' w' ho' hg' _; exact hK _ _ ⟨hg', Typed.grown r_row hg'⟩ ho'
                refine And.intro (obX_pure (Typed.refl _ _) ?_) ?_
                · intro act W hR hf ho hu K hK
                  replace hK := fun v h2 => hK v W rfl h2 trivial
                  have G : act.tmps[8]?.getD undef = _ ∧ True := ho
                  obtain ⟨g8, -⟩ := G
                  clear ho hf hu
                  go_simp
                  exact hK _ (Eq.refl _)
                refine And.intro (obX_pure (Typed.refl _ _) ?_) ?_
                · intro act W hR hf ho hu K hK
                  replace hK := fun v h2 => hK v W rfl h2 trivial
                  have F : act.tmps[78]?.getD undef = _ ∧ True := hf
                  obtain ⟨f9, -⟩ := F
                  clear ho hf hu
                  have cb2 := hR.block _ _ cb (.inr fun _ _ h => by cases h); have z0 : W.cell? ⟨wr.heap.size, 0, none⟩ = some (.int .i64 c.fr) := by simp [World.cell?, cb2]
                  have z1 : W.cell? ⟨wr.heap.size, 2, none⟩ = some (.int .i64 c.at') := by simp [World.cell?, cb2]
                  go_simp
                  exact hK _ (Eq.refl _)
                refine And.intro (obX_eff (Ext) (fun _ _ h => Typed.ext h) (And.intro (fun _ _ _ h e => own_ext h e) (trivial)) ?_) ?_
                · intro act W hR hf ho hu K hK
                  replace hK := fun v (w' : World) (h1 : (Ext) W w') (b2 : (FarB (Value.ownBlock (.slice A0 pre.length c0)) (twoB c.at')) (v) w') => hK v w' h1 trivial ⟨b2, trivial⟩
                  have F : act.tmps[79]?.getD undef = _ ∧ (fun _ _ => True) (act.tmps[77]?.getD undef) W ∧ True := hf
                  obtain ⟨f10, -, -⟩ := F
                  generalize f8 : act.tmps[77]?.getD undef = v8
                  clear ho hf hu
                  go_simp
                  refine (two_any c.at' W HLK.out).mono ?_; rintro e W1 ⟨v, rfl, ho, hE⟩; exact hK _ _ hE (FarB.gives (l := twoB c.at') (own_lt hO2.2 hR.size) ho)
                refine And.intro (obX_eff (Typed w2.heap.size 5) (fun _ _ h => h) (trivial) ?_) ?_
                · intro act W hR hf ho hu K hK
                  replace hK := fun v (w' : World) (h1 : (Typed w2.heap.size 5) W w') (b4 : (fun (v : Value) (W : World) => W.ownsRow w2.heap.size 5 1 v (pre.length + 2 + 2) (bs pre ++ bs [c.fr % 256, c.to % 256] ++ bs (twoB c.at'))) (v) w') => hK v w' h1 trivial ⟨b4, trivial⟩
                  have F : (fun _ _ => True) (act.tmps[77]?.getD undef) W ∧ (fun _ _ => True) (act.tmps[80]?.getD undef) W ∧ (fun _ _ => True) (act.tmps[80]?.getD undef) W ∧ True := hf
                  obtain ⟨-, -, -, -⟩ := F
                  have U : (FarB (Value.ownBlock (.slice A0 pre.length c0)) (twoB c.at')) (act.tmps[80]?.getD undef) W ∧ (fun (v : Value) (W : World) => W.ownsRow w2.heap.size 5 1 v (pre.length + 2) (bs pre ++ bs [c.fr % 256, c.to % 256])) (act.tmps[77]?.getD undef) W ∧ True := hu
                  obtain ⟨r_c11, r_r8, -⟩ := U
                  generalize f8 : act.tmps[77]?.getD undef = v8 at r_r8
                  generalize f11 : act.tmps[80]?.getD undef = v11 at r_c11
                  clear ho hf hu
                  obtain ⟨A9, c9, rfl, k9, -⟩ := r_c11
                  rw [← seen_eq]; refine step_append_src W rfl (.tmp 77) (.tmp 80) 27 rfl w2.heap.size 5 i0 (.int .u8 0) 1 1 Try.underlying27 hi hz0 hz1 hz2 rfl (by decide) _ _ _ (eval_get f8) r_r8 _ _ _ (eval_get f11) k9 (by simp [bs]) (bs_one _) (by unfold maxLen; (try simp only [twoB, List.length_cons, List.length_nil]); omega) (by (try simp only [twoB, List.length_cons, List.length_nil]); omega) (Nat.le_trans hE2.size hR.size) ?_; intro v' w' ho' hg' _; exact hK _ _ (Typed.grown r_r8 hg') ho'
                refine And.intro (obX_pure (Typed.refl _ _) ?_) ?_
                · intro act W hR hf ho hu K hK
                  replace hK := fun v (b5 : (fun (v : Value) (W : World) => W.ownsRow w2.heap.size 5 1 v (pre.length + 2 + 2) (bs pre ++ bs [c.fr % 256, c.to % 256] ++ bs (twoB c.at'))) (v) W) => hK v W rfl trivial ⟨b5, trivial⟩
                  have F : (fun _ _ => True) (act.tmps[81]?.getD undef) W ∧ (fun _ _ => True) (act.tmps[81]?.getD undef) W ∧ act.tmps[69]?.getD undef = _ ∧ act.tmps[70]?.getD undef = _ ∧ act.tmps[71]?.getD undef = _ ∧ act.tmps[72]?.getD undef = _ ∧ act.tmps[73]?.getD undef = _ ∧ act.tmps[74]?.getD undef = _ ∧ act.tmps[75]?.getD undef = _ ∧ (fun _ _ => True) (act.tmps[76]?.getD undef) W ∧ (fun _ _ => True) (act.tmps[77]?.getD undef) W ∧ act.tmps[78]?.getD undef = _ ∧ act.tmps[79]?.getD undef = _ ∧ (fun _ _ => True) (act.tmps[80]?.getD undef) W ∧ (fun _ _ => True) (act.tmps[81]?.getD undef) W ∧ True := hf
                  obtain ⟨-, -, f0, f1, f2, f3, f4, f5, f6, -, -, f9, f10, -, -, -⟩ := F
                  have U : (fun (v : Value) (W : World) => W.ownsRow w2.heap.size 5 1 v (pre.length + 2 + 2) (bs pre ++ bs [c.fr % 256, c.to % 256] ++ bs (twoB c.at'))) (act.tmps[81]?.getD undef) W ∧ True := hu
                  obtain ⟨r_r12, -⟩ := U
                  generalize f12 : act.tmps[81]?.getD undef = v12 at r_r12
                  generalize f7 : act.tmps[76]?.getD undef = v7
                  generalize f8 : act.tmps[77]?.getD undef = v8
                  generalize f11 : act.tmps[80]?.getD undef = v11
                  clear ho hf hu
                  go_simp
                  exact hK _ r_r12
                exact trivial
              case stab =>
                refine And.intro is_stable ?_
                refine And.intro is_stable ?_
                refine And.intro is_stable ?_
                refine And.intro is_stable ?_
                refine And.intro is_stable ?_
                refine And.intro is_stable ?_
                refine And.intro is_stable ?_
                refine And.intro (fun _ _ _ h _ => h) ?_
                refine And.intro (fun _ _ _ h _ => h) ?_
                refine And.intro is_stable ?_
                refine And.intro is_stable ?_
                refine And.intro (fun _ _ _ h _ => h) ?_
                refine And.intro (fun _ _ _ h _ => h) ?_
                refine And.intro (fun _ _ _ h _ => h) ?_
                exact trivial
              case ends =>
                intro vals W hR hE hall
                have E : (fun (v : Value) (W : World) => W.ownsRow w2.heap.size 5 1 v (pre.length + 2 + 2) (bs pre ++ bs [c.fr % 256, c.to % 256] ++ bs (twoB c.at'))) (vals 4) W ∧ True := hE
                obtain ⟨e_r13, -⟩ := E
                clear hE
                clear hall
                generalize ev4 : vals 4 = x4 at e_r13
                simp only [fill, List.setIfInBounds_toArray, List.set_cons_succ, List.set_cons_zero, ev4]
                have hE3 : Ext w2 W := Ext.typed (Ext.drew hE2) (Nat.le_refl _) hR
                go_wp2_with fail
                refine ⟨⟨k + 1, by omega, by simp, ⟨hE3.size, ?_⟩, hE3⟩, by simp [intOf]; omega⟩
                rw [HP.out, bs_app, bs_app, List.length_append, List.length_append]
                exact e_r13
            · obtain rfl : k = ls.length := by omega
              have hl2 := HL2.out ls.length
              generalize hp2 : preL h1 ls ls.length = h2 at hO hl2 ⊢
              have HP2 := Lib.hid hp2
              have hL3 := preS_len h2 ss
              have HL3 := Lib.hid hL3
              clear hp2 hL3 HL2
              go_wp2_with fail
              go_loopw [4, 86] (fun vb i wr => ∃ k : Nat, k ≤ ss.length ∧ i = .int .i64 (k : Int) ∧ Owns w2.heap.size 5 1 (preS h2 ss k).length (bs (preS h2 ss k)) vb wr ∧ Ext w2 wr) (fun _ i _ => ss.length - (intOf i).toNat)
              case atStart => exact ⟨0, Nat.zero_le _, rfl, by simpa [preS] using hO, hE⟩
              case round =>
                clear hO hE z0 z1 z2 z3 z4 z5 hlt2
                obtain ⟨k, hk, rfl, hO, hE⟩ := hrel
                obtain ⟨z0, z1, z2, z3, z4, z5⟩ := lie6 hzz.out hE
                have hlt2 : w.heap.size < wr.heap.size := by have := hE.size; omega
                by_cases hlt5 : k < ss.length
                · obtain ⟨b1, o1, rfl, hb1, q1⟩ := H.out.shares.flat (s := 2) (fun _ => rfl) (by decide) hlt5
                  have E1 : Ext w wr := ((Ext.alloc (Below.refl _ w) _).then hb2).then hE
                  have x0 := ext_cell E1 _ _ (q1 0 _ rfl)
                  have x1 := ext_cell E1 _ _ (q1 1 _ rfl)
                  simp only [Nat.zero_mul, Nat.add_zero] at x0
                  clear q1
                  have hP := preS_succ (h := h2) hlt5
                  have hl0 := HL3.out k
                  generalize hcc : ss[k] = c at x0 x1 hP
                  clear hcc
                  obtain ⟨A0, c0, rfl, -, -⟩ := Arr.own hO.2
                  generalize hpp : preS h2 ss k = pre at hO hP hl0 ⊢
                  clear hpp
                  have HP := Lib.hid hP
                  clear hP
                  have ho3 := own_ext hO.2 ((by repeat first | (with_reducible exact Below.refl _ _) | (with_reducible apply Ext.alloc) | (with_reducible apply Ext.drew) | (with_reducible apply Ext.drewN) | (with_reducible refine Ext.set ?_ (by simp))) : Ext wr ((wr.alloc (.cells #[.int .i64 c.rd, .int .i64 c.wr] 70)).alloc (.cells #[.int .u8 (c.rd % 256), .int .u8 (c.wr % 256)] 5)))
                  have hE4 : Ext w2 ((wr.alloc (.cells #[.int .i64 c.rd, .int .i64 c.wr] 70)).alloc (.cells #[.int .u8 (c.rd % 256), .int .u8 (c.wr % 256)] 5)) := (by repeat first | (with_reducible exact Below.refl _ _) | (with_reducible apply Ext.alloc) | (with_reducible apply Ext.drew) | (with_reducible apply Ext.drewN) | (with_reducible refine Ext.set ?_ (by simp)) | (with_reducible refine Ext.then ?_ hE))
                  have hli : Lies (wr.heap.size + 2) ((wr.alloc (.cells #[.int .i64 c.rd, .int .i64 c.wr] 70)).alloc (.cells #[.int .u8 (c.rd % 256), .int .u8 (c.wr % 256)] 5)) (.slice (some ⟨wr.heap.size + 1, 0, none⟩) 2 2) 2 (bs [c.rd % 256, c.wr % 256]) := by
                    have := Lies.arr (m := 2) (c := 2) (arr_new (cs := bs [c.rd % 256, c.wr % 256]) (heap_alloc_new (wr.alloc (.cells #[.int .i64 c.rd, .int .i64 c.wr] 70)) (.cells #[.int .u8 (c.rd % 256), .int .u8 (c.wr % 256)] 5)))
                    simpa using this
                  go_wp2_with (first
                    | (at_builtin; refine wpList_append_src _ rfl (.tmp 90) (.tmp 97) 27 rfl w2.heap.size 5 i0 (.int .u8 0) 1 1 Try.underlying27 hi hz0 hz1 hz2 rfl (by decide) _ _ _ rfl ho3 _ 2 (bs [c.rd % 256, c.wr % 256]) rfl hli (by simp [bs]) (bs_one _) (by unfold maxLen; omega) (by omega) hE4.size ?_; intro v4 w4 ho4 hg4 _))
                  have hE3 : Ext w2 w4 := Below.grown hE4 hg4 hE4.size (fun r hr => (ho3.lt r hr).1)
                  refine ⟨⟨k + 1, by omega, by simp, ⟨hE3.size, ?_⟩, hE3⟩, by simp [intOf]; omega⟩
                  rw [HP.out, bs_app, List.length_append]
                  exact ho4
                · obtain rfl : k = ss.length := by omega
                  have hl3 := HL3.out ss.length
                  generalize hp3 : preS h2 ss ss.length = h3 at hO hl3 ⊢
                  have HP3 := Lib.hid hp3
                  have hL4 := preK_len h3 cs HN4.out
                  have HL4 := Lib.hid hL4
                  clear hp3 hL4 HL3
                  go_wp2_with fail
                  go_loopw [4, 103] (fun vb i wr => ∃ k : Nat, k ≤ cs.length ∧ i = .int .i64 (k : Int) ∧ Owns w2.heap.size 5 1 (preK h3 cs k).length (bs (preK h3 cs k)) vb wr ∧ Ext w2 wr) (fun _ i _ => cs.length - (intOf i).toNat)
                  case atStart => exact ⟨0, Nat.zero_le _, rfl, by simpa [preK] using hO, hE⟩
                  case round =>
                    clear hO hE z0 z1 z2 z3 z4 z5 hlt2
                    obtain ⟨k, hk, rfl, hO, hE⟩ := hrel
                    obtain ⟨z0, z1, z2, z3, z4, z5⟩ := lie6 hzz.out hE
                    have hlt2 : w.heap.size < wr.heap.size := by have := hE.size; omega
                    by_cases hlt6 : k < cs.length
                    · obtain ⟨b1, o1, rfl, hb1, q1⟩ := H.out.comps.flat (s := 2) (fun _ => rfl) (by decide) hlt6
                      have E1 : Ext w wr := ((Ext.alloc (Below.refl _ w) _).then hb2).then hE
                      have x0 := ext_cell E1 _ _ (q1 0 _ rfl)
                      have x1 := ext_cell E1 _ _ (q1 1 _ rfl)
                      simp only [Nat.zero_mul, Nat.add_zero] at x0
                      clear q1
                      have hP := preK_succ (h := h3) hlt6
                      have hl0 := HL4.out k
                      have hcl := HN4.out cs[k] (List.getElem_mem hlt6)
                      have hcp := HN5.out cs[k] (List.getElem_mem hlt6)
                      have hco := (H.out.codes cs[k] (List.getElem_mem hlt6)).1.ext E1
                      generalize hcc : cs[k] = c at x0 x1 hP hcl hco hcp
                      clear hcc
                      obtain ⟨A0, c0, rfl, -, -⟩ := Arr.own hO.2
                      generalize hpp : preK h3 cs k = pre at hO hP hl0 ⊢
                      clear hpp
                      have HP := Lib.hid hP
                      clear hP
                      have ho3 := own_ext hO.2 ((by repeat first | (with_reducible exact Below.refl _ _) | (with_reducible apply Ext.alloc) | (with_reducible apply Ext.drew) | (with_reducible apply Ext.drewN) | (with_reducible refine Ext.set ?_ (by simp))) : Ext wr (wr.alloc (.cells #[.slice c.A c.code.length c.cap, .int .i64 c.data] 53)))
                      have hE4 : Ext w2 (wr.alloc (.cells #[.slice c.A c.code.length c.cap, .int .i64 c.data] 53)) := (by repeat first | (with_reducible exact Below.refl _ _) | (with_reducible apply Ext.alloc) | (with_reducible apply Ext.drew) | (with_reducible apply Ext.drewN) | (with_reducible refine Ext.set ?_ (by simp)) | (with_reducible refine Ext.then ?_ hE))
                      have hco2 := hco.ext ((by repeat first | (with_reducible exact Below.refl _ _) | (with_reducible apply Ext.alloc) | (with_reducible apply Ext.drew) | (with_reducible apply Ext.drewN) | (with_reducible refine Ext.set ?_ (by simp))) : Ext wr (wr.alloc (.cells #[.slice c.A c.code.length c.cap, .int .i64 c.data] 53)))
                      have HCO := Lib.hid hco2
                      clear hco hco2
                      go_wp2_with (first
                        | (at_builtin; refine wpList_append_src _ rfl (.tmp 107) (.tmp 109) 27 rfl w2.heap.size 5 i0 (.int .u8 0) 1 1 Try.underlying27 hi hz0 hz1 hz2 rfl (by decide) _ _ _ rfl ho3 _ c.code.length (bs c.code) rfl (lies_arr HCO.out hcp) (by simp [bs]) (bs_one _) (by unfold maxLen; omega) (by omega) hE4.size ?_; intro v4 w4 ho4 hg4 _))
                      have hE3 : Ext w2 w4 := Below.grown hE4 hg4 hE4.size (fun r hr => (ho3.lt r hr).1)
                      refine ⟨⟨k + 1, by omega, by simp, ⟨hE3.size, ?_⟩, hE3⟩, by simp [intOf]; omega⟩
                      rw [HP.out, bs_app, List.length_append]
                      exact ho4
                    · obtain rfl : k = cs.length := by omega
                      go_wp2_with fail
                      go_ret
                      refine ⟨_, rfl, ?_, ((Ext.alloc (Below.refl _ w) _).then hb2).then hE⟩
                      have hfin : preK h3 cs cs.length = hdrL st hp fu cs.length ls.length ss.length ++ cs.flatMap (fun c => compB c.d) ++ ls.flatMap linkB ++ ss.flatMap shareB ++ cs.flatMap CompM.code := by
                        rw [← HP3.out, ← HP2.out, ← HP1.out, HH.out]
                        unfold preK preS preL preC
                        simp only [List.take_length]
                      rw [← hfin]
                      exact own_low hO.2 (Nat.le_of_lt hlt)
theorem formD_facts {x : ImgM} (h : formD x.d = true) : x.comps.length ≤ 4 ∧ x.links.length ≤ 16 ∧ x.shares.length ≤ 4 := by
  rw [formD_eq] at h
  simp only [Bool.and_eq_true] at h
  have h1 := h.1.1.1.2
  unfold inB at h1
  have h2 := h.1.1.2
  have h3 := h.1.2
  rw [decide_eq_true_iff] at h1 h2 h3
  omega
theorem rightD_form {x : ImgD} (h : rightD x = true) : formD x = true := by
  unfold rightD at h
  rw [Bool.and_eq_true] at h
  exact h.1
set_option maxHeartbeats 4000000 in
set_option maxRecDepth 100000 in
theorem imgPut_no (x : ImgM) (w : World) (h : ImgAt w x) (hr : rightD x.d = false) : Calls Try.prog 16 #[x.val] w (Gives w 5 1 0 []) := by
  have HR := Lib.hid (imgRight_any x (w.alloc (.cells #[.bool x.strict, .int .i64 x.heap, .int .i64 x.full, .slice x.Ac x.comps.length x.cc, .slice x.Al x.links.length x.cl, .slice x.As x.shares.length x.cs] 26)) (h.ext (by repeat first | (with_reducible exact Below.refl _ _) | (with_reducible apply Ext.alloc) | (with_reducible apply Ext.drew) | (with_reducible apply Ext.drewN) | (with_reducible refine Ext.set ?_ (by simp)))))
  rw [hr] at HR
  clear hr h
  go_enter Try.func16, Try.ntmps16
  go_wp2_with fail
  refine HR.out.mono ?_
  rintro e w2 ⟨rfl, hb2⟩
  go_wp2_with fail
  go_ret
  exact gives_nil ((Ext.alloc (Below.refl _ w) _).then hb2)
theorem imgPut_any (x : ImgM) (w : World) (h : ImgAt w x) : Calls Try.prog 16 #[x.val] w (Gives w 5 1 (putD x.d).length (bs (putD x.d))) := by
  unfold putD
  cases hr : rightD x.d with
  | false => exact imgPut_no x w h hr
  | true =>
    rw [if_pos rfl]
    have hf := rightD_form hr
    have hc := form_codes hf
    have hn := formD_facts hf
    have HR := imgRight_any x (w.alloc (.cells #[.bool x.strict, .int .i64 x.heap, .int .i64 x.full, .slice x.Ac x.comps.length x.cc, .slice x.Al x.links.length x.cl, .slice x.As x.shares.length x.cs] 26)) (h.ext (by repeat first | (with_reducible exact Below.refl _ _) | (with_reducible apply Ext.alloc) | (with_reducible apply Ext.drew) | (with_reducible apply Ext.drewN) | (with_reducible refine Ext.set ?_ (by simp))))
    rw [hr] at HR
    have e : bytesD x.d = hdrL x.strict x.heap x.full x.comps.length x.links.length x.shares.length ++ x.comps.flatMap (fun c => compB c.d) ++ x.links.flatMap linkB ++ x.shares.flatMap shareB ++ x.comps.flatMap CompM.code := by
      simp only [bytesD, ImgM.d, List.length_map, List.flatMap_map]
      rfl
    rw [e]
    exact imgPut_at x.strict x.heap x.full x.Ac x.cc x.comps x.Al x.cl x.links x.As x.cs x.shares w h hn.1 hn.2.1 hn.2.2 (fun c hc' => (hc c hc').2.1) (fun c hc' => by have := (hc c hc').1; omega) HR
end Go.Proofs.Ytgfnpcoigooblaa

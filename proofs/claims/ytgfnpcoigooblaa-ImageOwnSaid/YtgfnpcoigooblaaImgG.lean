
/- Package image: form. -/
import Derived.Test.YtgfnpcoigooblaaImgE
import Derived.Test.YtgfnpcoigooblaaImgF
set_option linter.all false
namespace Go.Proofs.Ytgfnpcoigooblaa
open Go.RowKit

theorem lie6 {w W : World} {b : Nat} {v0 v1 v2 v3 v4 v5 : Value} {t : TypeId} (hB : w.heap[b]? = some (.cells #[v0, v1, v2, v3, v4, v5] t)) (hE : Ext w W) :
    W.cell? ⟨b, 0, none⟩ = some v0 ∧ W.cell? ⟨b, 1, none⟩ = some v1 ∧ W.cell? ⟨b, 2, none⟩ = some v2 ∧ W.cell? ⟨b, 3, none⟩ = some v3 ∧ W.cell? ⟨b, 4, none⟩ = some v4 ∧ W.cell? ⟨b, 5, none⟩ = some v5 := by
  have h := (hE.block b (Array.getElem?_eq_some_iff.1 hB).1).trans hB
  exact ⟨by simp [World.cell?, h], by simp [World.cell?, h], by simp [World.cell?, h], by simp [World.cell?, h], by simp [World.cell?, h], by simp [World.cell?, h]⟩
set_option maxHeartbeats 1000000 in
theorem formL_any (b : Nat) (x : ImgM) (l : LinkM) (W : World) (hx : ImgAt W x) (hb : W.heap[b]? = some (.cells #[.bool x.strict, .int .i64 x.heap, .int .i64 x.full, .slice x.Ac x.comps.length x.cc, .slice x.Al x.links.length x.cl, .slice x.As x.shares.length x.cs] 26)) :
    Calls Try.prog 53 #[.agg #[.int .i64 l.fr, .int .i64 l.to, .int .i64 l.at'], .pointer (some ⟨b, 0, none⟩)] W fun e w' => e = .returned (.bool (linkOk x.d.comps l)) ∧ Ext W w' := by
  obtain ⟨z0, z1, z2, z3, z4, z5⟩ := lie6 hb (Below.refl _ W)
  have hlt := (Array.getElem?_eq_some_iff.1 hb).1
  have HC := Lib.hid (link_any x l (W.alloc (.cells #[.int .i64 l.fr, .int .i64 l.to, .int .i64 l.at'] 68)) (hx.ext (by repeat first | (with_reducible exact Below.refl _ _) | (with_reducible apply Ext.alloc) | (with_reducible apply Ext.drew) | (with_reducible apply Ext.drewN) | (with_reducible refine Ext.set ?_ (by simp)))))
  clear hx hb
  go_enter Try.func53, Try.ntmps53
  go_wp2_with fail
  refine HC.out.mono ?_
  rintro e w2 ⟨rfl, hb2⟩
  go_wp2_with fail
  go_ret
  exact ⟨rfl, (Ext.alloc (Below.refl _ W) _).then hb2⟩
set_option maxHeartbeats 1000000 in
theorem formS_any (b : Nat) (x : ImgM) (s : ShareM) (W : World) (hn : x.comps.length = 0 ∨ x.comps.length = 1 ∨ x.comps.length = 2 ∨ x.comps.length = 3 ∨ x.comps.length = 4) (hb : W.heap[b]? = some (.cells #[.bool x.strict, .int .i64 x.heap, .int .i64 x.full, .slice x.Ac x.comps.length x.cc, .slice x.Al x.links.length x.cl, .slice x.As x.shares.length x.cs] 26)) :
    Calls Try.prog 57 #[.agg #[.int .i64 s.rd, .int .i64 s.wr], .pointer (some ⟨b, 0, none⟩)] W fun e w' => e = .returned (.bool (shareOk x.comps.length s)) ∧ Ext W w' := by
  obtain ⟨z0, z1, z2, z3, z4, z5⟩ := lie6 hb (Below.refl _ W)
  have hlt := (Array.getElem?_eq_some_iff.1 hb).1
  have HC := Lib.hid (share_at x.strict x.heap x.full x.Ac x.Al x.As x.comps.length x.cc x.links.length x.cl x.shares.length x.cs s (W.alloc (.cells #[.int .i64 s.rd, .int .i64 s.wr] 70)) hn)
  clear hn hb
  go_enter Try.func57, Try.ntmps57
  go_wp2_with fail
  refine HC.out.mono ?_
  rintro e w2 ⟨rfl, hb2⟩
  go_wp2_with fail
  go_ret
  exact ⟨rfl, (Ext.alloc (Below.refl _ W) _).then hb2⟩

attribute [local go_sem] seen dstOf boolOf
theorem formD_eq (x : ImgM) : formD x.d = ((inB x.heap 1 64 && inB x.full 1 4096 && inB x.comps.length 1 4 && decide ((x.links.length : Int) ≤ 16) && decide ((x.shares.length : Int) ≤ 4)) && ((x.comps.all fun c => compOk c.d) && (x.links.all (linkOk x.d.comps) && (manyOk x.links && x.shares.all (shareOk x.comps.length))))) := by
  have h1 : decide (x.links.length ≤ 16) = decide ((x.links.length : Int) ≤ 16) := decide_eq_decide.2 (by omega)
  have h2 : decide (x.shares.length ≤ 4) = decide ((x.shares.length : Int) ≤ 4) := decide_eq_decide.2 (by omega)
  rw [← h1, ← h2]
  unfold formD ImgM.d
  simp only [List.all_map, Function.comp_def, List.length_map]
set_option maxHeartbeats 4000000 in
set_option maxRecDepth 20000 in
theorem form0_any (x : ImgM) (w : World) (h : ImgAt w x) (HG0 : Hid ((inB x.heap 1 64 && inB x.full 1 4096 && inB x.comps.length 1 4 && decide ((x.links.length : Int) ≤ 16) && decide ((x.shares.length : Int) ≤ 4)) = false)) :
    Calls Try.prog 34 #[x.val] w fun e w' => e = .returned (.bool false) ∧ Ext w w' := by
  have hlc : x.comps.length ≤ 140737488351232 := h.lens.2.1
  have hll : x.links.length ≤ 140737488351232 := h.lens.2.2.2.1
  have hls : x.shares.length ≤ 140737488351232 := h.lens.2.2.2.2.2
  have hcode : ∀ c ∈ x.comps, c.code.length ≤ 140737488351232 := fun c hc => (h.codes c hc).2.2.2.1
  go_enter Try.func34, Try.ntmps34
  go_wp2_with fail
  refine wp_region_obl Ext [3, 4, 5, 6, 7, 8, 9, 10, 11, 12, 13, 14, 15, 16, 17, 18, 19, 20, 21, 22, 23, 24, 25, 26, 27, 28, 29, 30, 31, 32, 33, 34, 35, 36, 37, 38, 39, 40, 41, 42, 43, 44, 2] (by kernel_rfl) (fun _ => Below.refl _ _) (fun _ _ _ => Ext.then) (by kernel_rfl) (by kernel_rfl) ?_
  apply ex_is; apply Exists.intro
  apply ex_is; apply Exists.intro
  apply ex_is; apply Exists.intro
  apply ex_is; apply Exists.intro
  apply ex_is; apply Exists.intro
  apply ex_is; apply Exists.intro
  apply ex_is; apply Exists.intro
  apply ex_is; apply Exists.intro
  apply ex_is; apply Exists.intro
  apply ex_is; apply Exists.intro
  apply ex_is; apply Exists.intro
  apply ex_is; apply Exists.intro
  apply ex_is; apply Exists.intro
  apply ex_is; apply Exists.intro
  apply ex_is; apply Exists.intro
  apply ex_is; apply Exists.intro
  apply ex_is; apply Exists.intro
  apply ex_is; apply Exists.intro
  refine ex_phi (fun v W => ∃ b, v = .slice (some ⟨b, 0, none⟩) 5 5 ∧ W.heap[b]? = some (.cells #[.bool (inB x.heap 1 64), .bool (inB x.full 1 4096), .bool (inB x.comps.length 1 4), .bool (decide ((x.links.length : Int) ≤ 16)), .bool (decide ((x.shares.length : Int) ≤ 4))] 4)) ?_
  apply ex_is; apply Exists.intro
  apply ex_is; apply Exists.intro
  apply ex_is; apply Exists.intro
  apply ex_is; apply Exists.intro
  apply ex_is; apply Exists.intro
  apply ex_is; apply Exists.intro
  apply ex_is; apply Exists.intro
  apply ex_is; apply Exists.intro
  apply ex_is; apply Exists.intro
  apply ex_is; apply Exists.intro
  apply ex_is; apply Exists.intro
  apply ex_is; apply Exists.intro
  apply ex_is; apply Exists.intro
  apply ex_is; apply Exists.intro
  apply ex_is; apply Exists.intro
  apply ex_is; apply Exists.intro
  apply ex_is; apply Exists.intro
  apply ex_is; apply Exists.intro
  apply ex_is; apply Exists.intro
  apply ex_is; apply Exists.intro
  apply ex_is; apply Exists.intro
  apply ex_is; apply Exists.intro
  apply ex_is; apply Exists.intro
  apply ex_is; apply Exists.intro
  refine ⟨[], ⟨?steps, ?stab, ?ends⟩⟩
  case steps =>
    refine And.intro ?_ ?_
    · intro a W hR hf ho K hK
      replace hR := ext_drew hR
      have G : a.tmps[1]?.getD undef = _ ∧ True := ho
      obtain ⟨g1, -⟩ := G
      clear ho hf
      go_simp
      exact hK _ _ (Below.refl _ _) (Eq.refl _)
    refine And.intro ?_ ?_
    · intro a W hR hf ho K hK
      replace hR := ext_drew hR
      have F : a.tmps[3]?.getD undef = _ ∧ True := hf
      obtain ⟨f0, -⟩ := F
      clear ho hf
      obtain ⟨z0, z1, z2, z3, z4, z5⟩ := lie6 (heap_alloc_new w _) hR
      go_simp
      exact hK _ _ (Below.refl _ _) (Eq.refl _)
    refine And.intro ?_ ?_
    · intro a W hR hf ho K hK
      replace hR := ext_drew hR
      have F : a.tmps[4]?.getD undef = _ ∧ True := hf
      obtain ⟨f1, -⟩ := F
      clear ho hf
      go_simp
      refine (within_any _ _ _ _).mono ?_; rintro e W1 ⟨rfl, rfl⟩; exact hK _ _ (Below.refl _ _) (Eq.refl _)
    refine And.intro ?_ ?_
    · intro a W hR hf ho K hK
      replace hR := ext_drew hR
      have G : a.tmps[1]?.getD undef = _ ∧ True := ho
      obtain ⟨g1, -⟩ := G
      clear ho hf
      go_simp
      exact hK _ _ (Below.refl _ _) (Eq.refl _)
    refine And.intro ?_ ?_
    · intro a W hR hf ho K hK
      replace hR := ext_drew hR
      have F : a.tmps[6]?.getD undef = _ ∧ True := hf
      obtain ⟨f3, -⟩ := F
      clear ho hf
      obtain ⟨z0, z1, z2, z3, z4, z5⟩ := lie6 (heap_alloc_new w _) hR
      go_simp
      exact hK _ _ (Below.refl _ _) (Eq.refl _)
    refine And.intro ?_ ?_
    · intro a W hR hf ho K hK
      replace hR := ext_drew hR
      have F : a.tmps[7]?.getD undef = _ ∧ a.tmps[5]?.getD undef = _ ∧ True := hf
      obtain ⟨f4, f2, -⟩ := F
      clear ho hf
      go_simp
      refine (within_any _ _ _ _).mono ?_; rintro e W1 ⟨rfl, rfl⟩; exact hK _ _ (Below.refl _ _) (Eq.refl _)
    refine And.intro ?_ ?_
    · intro a W hR hf ho K hK
      replace hR := ext_drew hR
      have G : a.tmps[1]?.getD undef = _ ∧ True := ho
      obtain ⟨g1, -⟩ := G
      clear ho hf
      go_simp
      exact hK _ _ (Below.refl _ _) (Eq.refl _)
    refine And.intro ?_ ?_
    · intro a W hR hf ho K hK
      replace hR := ext_drew hR
      have F : a.tmps[9]?.getD undef = _ ∧ True := hf
      obtain ⟨f6, -⟩ := F
      clear ho hf
      obtain ⟨z0, z1, z2, z3, z4, z5⟩ := lie6 (heap_alloc_new w _) hR
      go_simp
      exact hK _ _ (Below.refl _ _) (Eq.refl _)
    refine And.intro ?_ ?_
    · intro a W hR hf ho K hK
      replace hR := ext_drew hR
      have F : a.tmps[10]?.getD undef = _ ∧ True := hf
      obtain ⟨f7, -⟩ := F
      clear ho hf
      go_simp
      exact hK _ _ (Below.refl _ _) (Eq.refl _)
    refine And.intro ?_ ?_
    · intro a W hR hf ho K hK
      replace hR := ext_drew hR
      have F : a.tmps[11]?.getD undef = _ ∧ a.tmps[8]?.getD undef = _ ∧ True := hf
      obtain ⟨f8, f5, -⟩ := F
      clear ho hf
      go_simp
      refine (within_any _ _ _ _).mono ?_; rintro e W1 ⟨rfl, rfl⟩; exact hK _ _ (Below.refl _ _) (Eq.refl _)
    refine And.intro ?_ ?_
    · intro a W hR hf ho K hK
      replace hR := ext_drew hR
      have G : a.tmps[1]?.getD undef = _ ∧ True := ho
      obtain ⟨g1, -⟩ := G
      clear ho hf
      go_simp
      exact hK _ _ (Below.refl _ _) (Eq.refl _)
    refine And.intro ?_ ?_
    · intro a W hR hf ho K hK
      replace hR := ext_drew hR
      have F : a.tmps[13]?.getD undef = _ ∧ True := hf
      obtain ⟨f10, -⟩ := F
      clear ho hf
      obtain ⟨z0, z1, z2, z3, z4, z5⟩ := lie6 (heap_alloc_new w _) hR
      go_simp
      exact hK _ _ (Below.refl _ _) (Eq.refl _)
    refine And.intro ?_ ?_
    · intro a W hR hf ho K hK
      replace hR := ext_drew hR
      have F : a.tmps[14]?.getD undef = _ ∧ True := hf
      obtain ⟨f11, -⟩ := F
      clear ho hf
      go_simp
      exact hK _ _ (Below.refl _ _) (Eq.refl _)
    refine And.intro ?_ ?_
    · intro a W hR hf ho K hK
      replace hR := ext_drew hR
      have F : a.tmps[15]?.getD undef = _ ∧ True := hf
      obtain ⟨f12, -⟩ := F
      clear ho hf
      go_simp
      exact hK _ _ (Below.refl _ _) (Eq.refl _)
    refine And.intro ?_ ?_
    · intro a W hR hf ho K hK
      replace hR := ext_drew hR
      have G : a.tmps[1]?.getD undef = _ ∧ True := ho
      obtain ⟨g1, -⟩ := G
      clear ho hf
      go_simp
      exact hK _ _ (Below.refl _ _) (Eq.refl _)
    refine And.intro ?_ ?_
    · intro a W hR hf ho K hK
      replace hR := ext_drew hR
      have F : a.tmps[17]?.getD undef = _ ∧ True := hf
      obtain ⟨f14, -⟩ := F
      clear ho hf
      obtain ⟨z0, z1, z2, z3, z4, z5⟩ := lie6 (heap_alloc_new w _) hR
      go_simp
      exact hK _ _ (Below.refl _ _) (Eq.refl _)
    refine And.intro ?_ ?_
    · intro a W hR hf ho K hK
      replace hR := ext_drew hR
      have F : a.tmps[18]?.getD undef = _ ∧ True := hf
      obtain ⟨f15, -⟩ := F
      clear ho hf
      go_simp
      exact hK _ _ (Below.refl _ _) (Eq.refl _)
    refine And.intro ?_ ?_
    · intro a W hR hf ho K hK
      replace hR := ext_drew hR
      have F : a.tmps[19]?.getD undef = _ ∧ True := hf
      obtain ⟨f16, -⟩ := F
      clear ho hf
      go_simp
      exact hK _ _ (Below.refl _ _) (Eq.refl _)
    refine And.intro ?_ ?_
    · intro a W hR hf ho K hK
      replace hR := ext_drew hR
      have F : a.tmps[5]?.getD undef = _ ∧ a.tmps[8]?.getD undef = _ ∧ a.tmps[12]?.getD undef = _ ∧ a.tmps[16]?.getD undef = _ ∧ a.tmps[20]?.getD undef = _ ∧ True := hf
      obtain ⟨f2, f5, f9, f13, f17, -⟩ := F
      clear ho hf
      go_simp
      exact hK _ _ (Ext.alloc (Below.refl _ _) _) ⟨_, rfl, heap_alloc_new W _⟩
    refine And.intro ?_ ?_
    · intro a W hR hf ho K hK
      replace hR := ext_drew hR
      have F : (fun v W => ∃ b, v = .slice (some ⟨b, 0, none⟩) 5 5 ∧ W.heap[b]? = some (.cells #[.bool (inB x.heap 1 64), .bool (inB x.full 1 4096), .bool (inB x.comps.length 1 4), .bool (decide ((x.links.length : Int) ≤ 16)), .bool (decide ((x.shares.length : Int) ≤ 4))] 4)) (a.tmps[21]?.getD undef) W ∧ a.tmps[12]?.getD undef = _ ∧ True := hf
      obtain ⟨f18, f9, -⟩ := F
      clear ho hf
      obtain ⟨b5, hv5, hb5⟩ := f18
      go_simp
      refine (must5 _ _ _ _ _ _ _ hb5).mono ?_; rintro e W1 ⟨he, rfl⟩; rw [HG0.out] at he; subst he; exact hK _ _ (Below.refl _ _) (Eq.refl _)
    refine And.intro ?_ ?_
    · intro a W hR hf ho K hK
      replace hR := ext_drew hR
      have F : a.tmps[22]?.getD undef = _ ∧ a.tmps[22]?.getD undef = _ ∧ True := hf
      obtain ⟨f19, -, -⟩ := F
      clear ho hf
      go_simp
      exact hK _ _ (Below.refl _ _) (Eq.refl _)
    refine And.intro ?_ ?_
    · intro a W hR hf ho K hK
      replace hR := ext_drew hR
      have G : a.tmps[1]?.getD undef = _ ∧ True := ho
      obtain ⟨g1, -⟩ := G
      have F : a.tmps[23]?.getD undef = _ ∧ True := hf
      obtain ⟨f20, -⟩ := F
      clear ho hf
      go_simp
      exact hK _ _ (Below.refl _ _) (Eq.refl _)
    refine And.intro ?_ ?_
    · intro a W hR hf ho K hK
      replace hR := ext_drew hR
      have F : a.tmps[24]?.getD undef = _ ∧ a.tmps[23]?.getD undef = _ ∧ True := hf
      obtain ⟨f21, f20, -⟩ := F
      clear ho hf
      obtain ⟨z0, z1, z2, z3, z4, z5⟩ := lie6 (heap_alloc_new w _) hR
      go_simp
      exact hK _ _ (Below.refl _ _) (Eq.refl _)
    refine And.intro ?_ ?_
    · intro a W hR hf ho K hK
      replace hR := ext_drew hR
      have F : a.tmps[25]?.getD undef = _ ∧ a.tmps[23]?.getD undef = _ ∧ a.tmps[23]?.getD undef = _ ∧ True := hf
      obtain ⟨f22, f20, -, -⟩ := F
      clear ho hf
      go_simp
      exact hK _ _ (Below.refl _ _) (Eq.refl _)
    refine And.intro ?_ ?_
    · intro a W hR hf ho K hK
      replace hR := ext_drew hR
      have F : a.tmps[23]?.getD undef = _ ∧ a.tmps[26]?.getD undef = _ ∧ True := hf
      obtain ⟨f20, f23, -⟩ := F
      clear ho hf
      go_simp
      exact hK _ _ (Below.refl _ _) (Eq.refl _)
    refine And.intro ?_ ?_
    · intro a W hR hf ho K hK
      replace hR := ext_drew hR
      have F : a.tmps[27]?.getD undef = _ ∧ a.tmps[26]?.getD undef = _ ∧ True := hf
      obtain ⟨f24, f23, -⟩ := F
      clear ho hf
      go_simp
      exact hK _ _ (Below.refl _ _) (Eq.refl _)
    refine And.intro ?_ ?_
    · intro a W hR hf ho K hK
      replace hR := ext_drew hR
      have G : a.tmps[1]?.getD undef = _ ∧ True := ho
      obtain ⟨g1, -⟩ := G
      have F : a.tmps[28]?.getD undef = _ ∧ True := hf
      obtain ⟨f25, -⟩ := F
      clear ho hf
      go_simp
      exact hK _ _ (Below.refl _ _) (Eq.refl _)
    refine And.intro ?_ ?_
    · intro a W hR hf ho K hK
      replace hR := ext_drew hR
      have F : a.tmps[29]?.getD undef = _ ∧ a.tmps[28]?.getD undef = _ ∧ True := hf
      obtain ⟨f26, f25, -⟩ := F
      clear ho hf
      obtain ⟨z0, z1, z2, z3, z4, z5⟩ := lie6 (heap_alloc_new w _) hR
      go_simp
      exact hK _ _ (Below.refl _ _) (Eq.refl _)
    refine And.intro ?_ ?_
    · intro a W hR hf ho K hK
      replace hR := ext_drew hR
      have G : a.tmps[1]?.getD undef = _ ∧ True := ho
      obtain ⟨g1, -⟩ := G
      have F : a.tmps[28]?.getD undef = _ ∧ True := hf
      obtain ⟨f25, -⟩ := F
      clear ho hf
      go_simp
      exact hK _ _ (Below.refl _ _) (Eq.refl _)
    refine And.intro ?_ ?_
    · intro a W hR hf ho K hK
      replace hR := ext_drew hR
      have F : a.tmps[30]?.getD undef = _ ∧ a.tmps[31]?.getD undef = _ ∧ a.tmps[28]?.getD undef = _ ∧ a.tmps[28]?.getD undef = _ ∧ True := hf
      obtain ⟨f27, f28, f25, -, -⟩ := F
      clear ho hf
      go_simp
      exact hK _ _ (Below.refl _ _) (Eq.refl _)
    refine And.intro ?_ ?_
    · intro a W hR hf ho K hK
      replace hR := ext_drew hR
      have F : a.tmps[28]?.getD undef = _ ∧ a.tmps[32]?.getD undef = _ ∧ True := hf
      obtain ⟨f25, f29, -⟩ := F
      clear ho hf
      go_simp
      exact hK _ _ (Below.refl _ _) (Eq.refl _)
    refine And.intro ?_ ?_
    · intro a W hR hf ho K hK
      replace hR := ext_drew hR
      have F : a.tmps[33]?.getD undef = _ ∧ a.tmps[32]?.getD undef = _ ∧ True := hf
      obtain ⟨f30, f29, -⟩ := F
      clear ho hf
      go_simp
      exact hK _ _ (Below.refl _ _) (Eq.refl _)
    refine And.intro ?_ ?_
    · intro a W hR hf ho K hK
      replace hR := ext_drew hR
      have G : a.tmps[1]?.getD undef = _ ∧ True := ho
      obtain ⟨g1, -⟩ := G
      have F : a.tmps[34]?.getD undef = _ ∧ True := hf
      obtain ⟨f31, -⟩ := F
      clear ho hf
      go_simp
      exact hK _ _ (Below.refl _ _) (Eq.refl _)
    refine And.intro ?_ ?_
    · intro a W hR hf ho K hK
      replace hR := ext_drew hR
      have F : a.tmps[35]?.getD undef = _ ∧ a.tmps[34]?.getD undef = _ ∧ True := hf
      obtain ⟨f32, f31, -⟩ := F
      clear ho hf
      obtain ⟨z0, z1, z2, z3, z4, z5⟩ := lie6 (heap_alloc_new w _) hR
      go_simp
      exact hK _ _ (Below.refl _ _) (Eq.refl _)
    refine And.intro ?_ ?_
    · intro a W hR hf ho K hK
      replace hR := ext_drew hR
      have F : a.tmps[36]?.getD undef = _ ∧ a.tmps[34]?.getD undef = _ ∧ a.tmps[34]?.getD undef = _ ∧ True := hf
      obtain ⟨f33, f31, -, -⟩ := F
      clear ho hf
      go_simp
      exact hK _ _ (Below.refl _ _) (Eq.refl _)
    refine And.intro ?_ ?_
    · intro a W hR hf ho K hK
      replace hR := ext_drew hR
      have F : a.tmps[34]?.getD undef = _ ∧ a.tmps[37]?.getD undef = _ ∧ True := hf
      obtain ⟨f31, f34, -⟩ := F
      clear ho hf
      go_simp
      exact hK _ _ (Below.refl _ _) (Eq.refl _)
    refine And.intro ?_ ?_
    · intro a W hR hf ho K hK
      replace hR := ext_drew hR
      have F : a.tmps[38]?.getD undef = _ ∧ a.tmps[37]?.getD undef = _ ∧ True := hf
      obtain ⟨f35, f34, -⟩ := F
      clear ho hf
      go_simp
      exact hK _ _ (Below.refl _ _) (Eq.refl _)
    refine And.intro ?_ ?_
    · intro a W hR hf ho K hK
      replace hR := ext_drew hR
      have G : a.tmps[1]?.getD undef = _ ∧ True := ho
      obtain ⟨g1, -⟩ := G
      have F : a.tmps[39]?.getD undef = _ ∧ True := hf
      obtain ⟨f36, -⟩ := F
      clear ho hf
      go_simp
      exact hK _ _ (Below.refl _ _) (Eq.refl _)
    refine And.intro ?_ ?_
    · intro a W hR hf ho K hK
      replace hR := ext_drew hR
      have F : a.tmps[40]?.getD undef = _ ∧ a.tmps[39]?.getD undef = _ ∧ True := hf
      obtain ⟨f37, f36, -⟩ := F
      clear ho hf
      obtain ⟨z0, z1, z2, z3, z4, z5⟩ := lie6 (heap_alloc_new w _) hR
      go_simp
      exact hK _ _ (Below.refl _ _) (Eq.refl _)
    refine And.intro ?_ ?_
    · intro a W hR hf ho K hK
      replace hR := ext_drew hR
      have G : a.tmps[1]?.getD undef = _ ∧ True := ho
      obtain ⟨g1, -⟩ := G
      have F : a.tmps[39]?.getD undef = _ ∧ True := hf
      obtain ⟨f36, -⟩ := F
      clear ho hf
      go_simp
      exact hK _ _ (Below.refl _ _) (Eq.refl _)
    refine And.intro ?_ ?_
    · intro a W hR hf ho K hK
      replace hR := ext_drew hR
      have F : a.tmps[41]?.getD undef = _ ∧ a.tmps[42]?.getD undef = _ ∧ a.tmps[39]?.getD undef = _ ∧ a.tmps[39]?.getD undef = _ ∧ True := hf
      obtain ⟨f38, f39, f36, -, -⟩ := F
      clear ho hf
      go_simp
      exact hK _ _ (Below.refl _ _) (Eq.refl _)
    refine And.intro ?_ ?_
    · intro a W hR hf ho K hK
      replace hR := ext_drew hR
      have F : a.tmps[39]?.getD undef = _ ∧ a.tmps[43]?.getD undef = _ ∧ True := hf
      obtain ⟨f36, f40, -⟩ := F
      clear ho hf
      go_simp
      exact hK _ _ (Below.refl _ _) (Eq.refl _)
    refine And.intro ?_ ?_
    · intro a W hR hf ho K hK
      replace hR := ext_drew hR
      have F : a.tmps[44]?.getD undef = _ ∧ a.tmps[43]?.getD undef = _ ∧ a.tmps[3]?.getD undef = _ ∧ a.tmps[4]?.getD undef = _ ∧ a.tmps[5]?.getD undef = _ ∧ a.tmps[6]?.getD undef = _ ∧ a.tmps[7]?.getD undef = _ ∧ a.tmps[8]?.getD undef = _ ∧ a.tmps[9]?.getD undef = _ ∧ a.tmps[10]?.getD undef = _ ∧ a.tmps[11]?.getD undef = _ ∧ a.tmps[12]?.getD undef = _ ∧ a.tmps[13]?.getD undef = _ ∧ a.tmps[14]?.getD undef = _ ∧ a.tmps[15]?.getD undef = _ ∧ a.tmps[16]?.getD undef = _ ∧ a.tmps[17]?.getD undef = _ ∧ a.tmps[18]?.getD undef = _ ∧ a.tmps[19]?.getD undef = _ ∧ a.tmps[20]?.getD undef = _ ∧ (fun v W => ∃ b, v = .slice (some ⟨b, 0, none⟩) 5 5 ∧ W.heap[b]? = some (.cells #[.bool (inB x.heap 1 64), .bool (inB x.full 1 4096), .bool (inB x.comps.length 1 4), .bool (decide ((x.links.length : Int) ≤ 16)), .bool (decide ((x.shares.length : Int) ≤ 4))] 4)) (a.tmps[21]?.getD undef) W ∧ a.tmps[22]?.getD undef = _ ∧ a.tmps[23]?.getD undef = _ ∧ a.tmps[24]?.getD undef = _ ∧ a.tmps[25]?.getD undef = _ ∧ a.tmps[26]?.getD undef = _ ∧ a.tmps[27]?.getD undef = _ ∧ a.tmps[28]?.getD undef = _ ∧ a.tmps[29]?.getD undef = _ ∧ a.tmps[30]?.getD undef = _ ∧ a.tmps[31]?.getD undef = _ ∧ a.tmps[32]?.getD undef = _ ∧ a.tmps[33]?.getD undef = _ ∧ a.tmps[34]?.getD undef = _ ∧ a.tmps[35]?.getD undef = _ ∧ a.tmps[36]?.getD undef = _ ∧ a.tmps[37]?.getD undef = _ ∧ a.tmps[38]?.getD undef = _ ∧ a.tmps[39]?.getD undef = _ ∧ a.tmps[40]?.getD undef = _ ∧ a.tmps[41]?.getD undef = _ ∧ a.tmps[42]?.getD undef = _ ∧ a.tmps[43]?.getD undef = _ ∧ a.tmps[44]?.getD undef = _ ∧ True := hf
      obtain ⟨f41, f40, f0, f1, f2, f3, f4, f5, f6, f7, f8, f9, f10, f11, f12, f13, f14, f15, f16, f17, f18, f19, f20, f21, f22, f23, f24, f25, f26, f27, f28, f29, f30, f31, f32, f33, f34, f35, f36, f37, f38, f39, -, -, -⟩ := F
      clear ho hf
      go_simp
      exact hK _ _ (Below.refl _ _) (Eq.refl _)
    exact trivial
  case stab =>
    refine And.intro is_stable ?_
    refine And.intro is_stable ?_
    refine And.intro is_stable ?_
    refine And.intro is_stable ?_
    refine And.intro is_stable ?_
    refine And.intro is_stable ?_
    refine And.intro is_stable ?_
    refine And.intro is_stable ?_
    refine And.intro is_stable ?_
    refine And.intro is_stable ?_
    refine And.intro is_stable ?_
    refine And.intro is_stable ?_
    refine And.intro is_stable ?_
    refine And.intro is_stable ?_
    refine And.intro is_stable ?_
    refine And.intro is_stable ?_
    refine And.intro is_stable ?_
    refine And.intro is_stable ?_
    refine And.intro (fun v w w' hh he => hh.elim fun b hb => ⟨b, hb.1, (he.block b (Array.getElem?_eq_some_iff.1 hb.2).1).trans hb.2⟩) ?_
    refine And.intro is_stable ?_
    refine And.intro is_stable ?_
    refine And.intro is_stable ?_
    refine And.intro is_stable ?_
    refine And.intro is_stable ?_
    refine And.intro is_stable ?_
    refine And.intro is_stable ?_
    refine And.intro is_stable ?_
    refine And.intro is_stable ?_
    refine And.intro is_stable ?_
    refine And.intro is_stable ?_
    refine And.intro is_stable ?_
    refine And.intro is_stable ?_
    refine And.intro is_stable ?_
    refine And.intro is_stable ?_
    refine And.intro is_stable ?_
    refine And.intro is_stable ?_
    refine And.intro is_stable ?_
    refine And.intro is_stable ?_
    refine And.intro is_stable ?_
    refine And.intro is_stable ?_
    refine And.intro is_stable ?_
    refine And.intro is_stable ?_
    refine And.intro is_stable ?_
    exact trivial
  case ends =>
    intro vals W hR hall
    replace hR := ext_drew hR
    have e2 : vals 2 = _ := hall 42 (by decide)
    clear hall
    simp only [fill, List.setIfInBounds_toArray, List.set_cons_succ, List.set_cons_zero, e2]
    go_wp2_with fail
    go_ret
    exact ⟨rfl, (Ext.alloc (Below.refl _ w) _).then hR⟩
set_option maxHeartbeats 4000000 in
set_option maxRecDepth 20000 in
theorem form1_any (x : ImgM) (w : World) (h : ImgAt w x) (HG0 : Hid ((inB x.heap 1 64 && inB x.full 1 4096 && inB x.comps.length 1 4 && decide ((x.links.length : Int) ≤ 16) && decide ((x.shares.length : Int) ≤ 4)) = true)) (HG1 : Hid ((x.comps.all fun c => compOk c.d) = false)) :
    Calls Try.prog 34 #[x.val] w fun e w' => e = .returned (.bool false) ∧ Ext w w' := by
  have hlc : x.comps.length ≤ 140737488351232 := h.lens.2.1
  have hll : x.links.length ≤ 140737488351232 := h.lens.2.2.2.1
  have hls : x.shares.length ≤ 140737488351232 := h.lens.2.2.2.2.2
  have hcode : ∀ c ∈ x.comps, c.code.length ≤ 140737488351232 := fun c hc => (h.codes c hc).2.2.2.1
  go_enter Try.func34, Try.ntmps34
  go_wp2_with fail
  refine wp_region_obl Ext [3, 4, 5, 6, 7, 8, 9, 10, 11, 12, 13, 14, 15, 16, 17, 18, 19, 20, 21, 22, 23, 24, 25, 26, 27, 28, 29, 30, 31, 32, 33, 34, 35, 36, 37, 38, 39, 40, 41, 42, 43, 44, 2] (by kernel_rfl) (fun _ => Below.refl _ _) (fun _ _ _ => Ext.then) (by kernel_rfl) (by kernel_rfl) ?_
  apply ex_is; apply Exists.intro
  apply ex_is; apply Exists.intro
  apply ex_is; apply Exists.intro
  apply ex_is; apply Exists.intro
  apply ex_is; apply Exists.intro
  apply ex_is; apply Exists.intro
  apply ex_is; apply Exists.intro
  apply ex_is; apply Exists.intro
  apply ex_is; apply Exists.intro
  apply ex_is; apply Exists.intro
  apply ex_is; apply Exists.intro
  apply ex_is; apply Exists.intro
  apply ex_is; apply Exists.intro
  apply ex_is; apply Exists.intro
  apply ex_is; apply Exists.intro
  apply ex_is; apply Exists.intro
  apply ex_is; apply Exists.intro
  apply ex_is; apply Exists.intro
  refine ex_phi (fun v W => ∃ b, v = .slice (some ⟨b, 0, none⟩) 5 5 ∧ W.heap[b]? = some (.cells #[.bool (inB x.heap 1 64), .bool (inB x.full 1 4096), .bool (inB x.comps.length 1 4), .bool (decide ((x.links.length : Int) ≤ 16)), .bool (decide ((x.shares.length : Int) ≤ 4))] 4)) ?_
  apply ex_is; apply Exists.intro
  apply ex_is; apply Exists.intro
  apply ex_is; apply Exists.intro
  apply ex_is; apply Exists.intro
  apply ex_is; apply Exists.intro
  apply ex_is; apply Exists.intro
  apply ex_is; apply Exists.intro
  apply ex_is; apply Exists.intro
  apply ex_is; apply Exists.intro
  apply ex_is; apply Exists.intro
  apply ex_is; apply Exists.intro
  apply ex_is; apply Exists.intro
  apply ex_is; apply Exists.intro
  apply ex_is; apply Exists.intro
  apply ex_is; apply Exists.intro
  apply ex_is; apply Exists.intro
  apply ex_is; apply Exists.intro
  apply ex_is; apply Exists.intro
  apply ex_is; apply Exists.intro
  apply ex_is; apply Exists.intro
  apply ex_is; apply Exists.intro
  apply ex_is; apply Exists.intro
  apply ex_is; apply Exists.intro
  apply ex_is; apply Exists.intro
  refine ⟨[], ⟨?steps, ?stab, ?ends⟩⟩
  case steps =>
    refine And.intro ?_ ?_
    · intro a W hR hf ho K hK
      replace hR := ext_drew hR
      have G : a.tmps[1]?.getD undef = _ ∧ True := ho
      obtain ⟨g1, -⟩ := G
      clear ho hf
      go_simp
      exact hK _ _ (Below.refl _ _) (Eq.refl _)
    refine And.intro ?_ ?_
    · intro a W hR hf ho K hK
      replace hR := ext_drew hR
      have F : a.tmps[3]?.getD undef = _ ∧ True := hf
      obtain ⟨f0, -⟩ := F
      clear ho hf
      obtain ⟨z0, z1, z2, z3, z4, z5⟩ := lie6 (heap_alloc_new w _) hR
      go_simp
      exact hK _ _ (Below.refl _ _) (Eq.refl _)
    refine And.intro ?_ ?_
    · intro a W hR hf ho K hK
      replace hR := ext_drew hR
      have F : a.tmps[4]?.getD undef = _ ∧ True := hf
      obtain ⟨f1, -⟩ := F
      clear ho hf
      go_simp
      refine (within_any _ _ _ _).mono ?_; rintro e W1 ⟨rfl, rfl⟩; exact hK _ _ (Below.refl _ _) (Eq.refl _)
    refine And.intro ?_ ?_
    · intro a W hR hf ho K hK
      replace hR := ext_drew hR
      have G : a.tmps[1]?.getD undef = _ ∧ True := ho
      obtain ⟨g1, -⟩ := G
      clear ho hf
      go_simp
      exact hK _ _ (Below.refl _ _) (Eq.refl _)
    refine And.intro ?_ ?_
    · intro a W hR hf ho K hK
      replace hR := ext_drew hR
      have F : a.tmps[6]?.getD undef = _ ∧ True := hf
      obtain ⟨f3, -⟩ := F
      clear ho hf
      obtain ⟨z0, z1, z2, z3, z4, z5⟩ := lie6 (heap_alloc_new w _) hR
      go_simp
      exact hK _ _ (Below.refl _ _) (Eq.refl _)
    refine And.intro ?_ ?_
    · intro a W hR hf ho K hK
      replace hR := ext_drew hR
      have F : a.tmps[7]?.getD undef = _ ∧ a.tmps[5]?.getD undef = _ ∧ True := hf
      obtain ⟨f4, f2, -⟩ := F
      clear ho hf
      go_simp
      refine (within_any _ _ _ _).mono ?_; rintro e W1 ⟨rfl, rfl⟩; exact hK _ _ (Below.refl _ _) (Eq.refl _)
    refine And.intro ?_ ?_
    · intro a W hR hf ho K hK
      replace hR := ext_drew hR
      have G : a.tmps[1]?.getD undef = _ ∧ True := ho
      obtain ⟨g1, -⟩ := G
      clear ho hf
      go_simp
      exact hK _ _ (Below.refl _ _) (Eq.refl _)
    refine And.intro ?_ ?_
    · intro a W hR hf ho K hK
      replace hR := ext_drew hR
      have F : a.tmps[9]?.getD undef = _ ∧ True := hf
      obtain ⟨f6, -⟩ := F
      clear ho hf
      obtain ⟨z0, z1, z2, z3, z4, z5⟩ := lie6 (heap_alloc_new w _) hR
      go_simp
      exact hK _ _ (Below.refl _ _) (Eq.refl _)
    refine And.intro ?_ ?_
    · intro a W hR hf ho K hK
      replace hR := ext_drew hR
      have F : a.tmps[10]?.getD undef = _ ∧ True := hf
      obtain ⟨f7, -⟩ := F
      clear ho hf
      go_simp
      exact hK _ _ (Below.refl _ _) (Eq.refl _)
    refine And.intro ?_ ?_
    · intro a W hR hf ho K hK
      replace hR := ext_drew hR
      have F : a.tmps[11]?.getD undef = _ ∧ a.tmps[8]?.getD undef = _ ∧ True := hf
      obtain ⟨f8, f5, -⟩ := F
      clear ho hf
      go_simp
      refine (within_any _ _ _ _).mono ?_; rintro e W1 ⟨rfl, rfl⟩; exact hK _ _ (Below.refl _ _) (Eq.refl _)
    refine And.intro ?_ ?_
    · intro a W hR hf ho K hK
      replace hR := ext_drew hR
      have G : a.tmps[1]?.getD undef = _ ∧ True := ho
      obtain ⟨g1, -⟩ := G
      clear ho hf
      go_simp
      exact hK _ _ (Below.refl _ _) (Eq.refl _)
    refine And.intro ?_ ?_
    · intro a W hR hf ho K hK
      replace hR := ext_drew hR
      have F : a.tmps[13]?.getD undef = _ ∧ True := hf
      obtain ⟨f10, -⟩ := F
      clear ho hf
      obtain ⟨z0, z1, z2, z3, z4, z5⟩ := lie6 (heap_alloc_new w _) hR
      go_simp
      exact hK _ _ (Below.refl _ _) (Eq.refl _)
    refine And.intro ?_ ?_
    · intro a W hR hf ho K hK
      replace hR := ext_drew hR
      have F : a.tmps[14]?.getD undef = _ ∧ True := hf
      obtain ⟨f11, -⟩ := F
      clear ho hf
      go_simp
      exact hK _ _ (Below.refl _ _) (Eq.refl _)
    refine And.intro ?_ ?_
    · intro a W hR hf ho K hK
      replace hR := ext_drew hR
      have F : a.tmps[15]?.getD undef = _ ∧ True := hf
      obtain ⟨f12, -⟩ := F
      clear ho hf
      go_simp
      exact hK _ _ (Below.refl _ _) (Eq.refl _)
    refine And.intro ?_ ?_
    · intro a W hR hf ho K hK
      replace hR := ext_drew hR
      have G : a.tmps[1]?.getD undef = _ ∧ True := ho
      obtain ⟨g1, -⟩ := G
      clear ho hf
      go_simp
      exact hK _ _ (Below.refl _ _) (Eq.refl _)
    refine And.intro ?_ ?_
    · intro a W hR hf ho K hK
      replace hR := ext_drew hR
      have F : a.tmps[17]?.getD undef = _ ∧ True := hf
      obtain ⟨f14, -⟩ := F
      clear ho hf
      obtain ⟨z0, z1, z2, z3, z4, z5⟩ := lie6 (heap_alloc_new w _) hR
      go_simp
      exact hK _ _ (Below.refl _ _) (Eq.refl _)
    refine And.intro ?_ ?_
    · intro a W hR hf ho K hK
      replace hR := ext_drew hR
      have F : a.tmps[18]?.getD undef = _ ∧ True := hf
      obtain ⟨f15, -⟩ := F
      clear ho hf
      go_simp
      exact hK _ _ (Below.refl _ _) (Eq.refl _)
    refine And.intro ?_ ?_
    · intro a W hR hf ho K hK
      replace hR := ext_drew hR
      have F : a.tmps[19]?.getD undef = _ ∧ True := hf
      obtain ⟨f16, -⟩ := F
      clear ho hf
      go_simp
      exact hK _ _ (Below.refl _ _) (Eq.refl _)
    refine And.intro ?_ ?_
    · intro a W hR hf ho K hK
      replace hR := ext_drew hR
      have F : a.tmps[5]?.getD undef = _ ∧ a.tmps[8]?.getD undef = _ ∧ a.tmps[12]?.getD undef = _ ∧ a.tmps[16]?.getD undef = _ ∧ a.tmps[20]?.getD undef = _ ∧ True := hf
      obtain ⟨f2, f5, f9, f13, f17, -⟩ := F
      clear ho hf
      go_simp
      exact hK _ _ (Ext.alloc (Below.refl _ _) _) ⟨_, rfl, heap_alloc_new W _⟩
    refine And.intro ?_ ?_
    · intro a W hR hf ho K hK
      replace hR := ext_drew hR
      have F : (fun v W => ∃ b, v = .slice (some ⟨b, 0, none⟩) 5 5 ∧ W.heap[b]? = some (.cells #[.bool (inB x.heap 1 64), .bool (inB x.full 1 4096), .bool (inB x.comps.length 1 4), .bool (decide ((x.links.length : Int) ≤ 16)), .bool (decide ((x.shares.length : Int) ≤ 4))] 4)) (a.tmps[21]?.getD undef) W ∧ a.tmps[12]?.getD undef = _ ∧ True := hf
      obtain ⟨f18, f9, -⟩ := F
      clear ho hf
      obtain ⟨b5, hv5, hb5⟩ := f18
      go_simp
      refine (must5 _ _ _ _ _ _ _ hb5).mono ?_; rintro e W1 ⟨he, rfl⟩; rw [HG0.out] at he; subst he; exact hK _ _ (Below.refl _ _) (Eq.refl _)
    refine And.intro ?_ ?_
    · intro a W hR hf ho K hK
      replace hR := ext_drew hR
      have F : a.tmps[22]?.getD undef = _ ∧ a.tmps[22]?.getD undef = _ ∧ True := hf
      obtain ⟨f19, -, -⟩ := F
      clear ho hf
      go_simp
      exact hK _ _ (Below.refl _ _) (Eq.refl _)
    refine And.intro ?_ ?_
    · intro a W hR hf ho K hK
      replace hR := ext_drew hR
      have G : a.tmps[1]?.getD undef = _ ∧ True := ho
      obtain ⟨g1, -⟩ := G
      have F : a.tmps[23]?.getD undef = _ ∧ True := hf
      obtain ⟨f20, -⟩ := F
      clear ho hf
      go_simp
      exact hK _ _ (Below.refl _ _) (Eq.refl _)
    refine And.intro ?_ ?_
    · intro a W hR hf ho K hK
      replace hR := ext_drew hR
      have F : a.tmps[24]?.getD undef = _ ∧ a.tmps[23]?.getD undef = _ ∧ True := hf
      obtain ⟨f21, f20, -⟩ := F
      clear ho hf
      obtain ⟨z0, z1, z2, z3, z4, z5⟩ := lie6 (heap_alloc_new w _) hR
      go_simp
      exact hK _ _ (Below.refl _ _) (Eq.refl _)
    refine And.intro ?_ ?_
    · intro a W hR hf ho K hK
      replace hR := ext_drew hR
      have F : a.tmps[25]?.getD undef = _ ∧ a.tmps[23]?.getD undef = _ ∧ a.tmps[23]?.getD undef = _ ∧ True := hf
      obtain ⟨f22, f20, -, -⟩ := F
      clear ho hf
      go_simp
      refine (allComp0 x.Ac x.cc x.comps 51 (fun c => compOk c.d) W (h.comps.ext ((Ext.alloc (Below.refl _ w) _).then hR)) hlc (fun args w => by kernel_rfl) (fun W c hc hW => comp_any c W (hcode c hc))).mono ?_; rintro e W1 ⟨he, hb⟩; rw [HG1.out] at he; subst he; exact hK _ _ hb (Eq.refl _)
    refine And.intro ?_ ?_
    · intro a W hR hf ho K hK
      replace hR := ext_drew hR
      have F : a.tmps[23]?.getD undef = _ ∧ a.tmps[26]?.getD undef = _ ∧ True := hf
      obtain ⟨f20, f23, -⟩ := F
      clear ho hf
      go_simp
      exact hK _ _ (Below.refl _ _) (Eq.refl _)
    refine And.intro ?_ ?_
    · intro a W hR hf ho K hK
      replace hR := ext_drew hR
      have F : a.tmps[27]?.getD undef = _ ∧ a.tmps[26]?.getD undef = _ ∧ True := hf
      obtain ⟨f24, f23, -⟩ := F
      clear ho hf
      go_simp
      exact hK _ _ (Below.refl _ _) (Eq.refl _)
    refine And.intro ?_ ?_
    · intro a W hR hf ho K hK
      replace hR := ext_drew hR
      have G : a.tmps[1]?.getD undef = _ ∧ True := ho
      obtain ⟨g1, -⟩ := G
      have F : a.tmps[28]?.getD undef = _ ∧ True := hf
      obtain ⟨f25, -⟩ := F
      clear ho hf
      go_simp
      exact hK _ _ (Below.refl _ _) (Eq.refl _)
    refine And.intro ?_ ?_
    · intro a W hR hf ho K hK
      replace hR := ext_drew hR
      have F : a.tmps[29]?.getD undef = _ ∧ a.tmps[28]?.getD undef = _ ∧ True := hf
      obtain ⟨f26, f25, -⟩ := F
      clear ho hf
      obtain ⟨z0, z1, z2, z3, z4, z5⟩ := lie6 (heap_alloc_new w _) hR
      go_simp
      exact hK _ _ (Below.refl _ _) (Eq.refl _)
    refine And.intro ?_ ?_
    · intro a W hR hf ho K hK
      replace hR := ext_drew hR
      have G : a.tmps[1]?.getD undef = _ ∧ True := ho
      obtain ⟨g1, -⟩ := G
      have F : a.tmps[28]?.getD undef = _ ∧ True := hf
      obtain ⟨f25, -⟩ := F
      clear ho hf
      go_simp
      exact hK _ _ (Below.refl _ _) (Eq.refl _)
    refine And.intro ?_ ?_
    · intro a W hR hf ho K hK
      replace hR := ext_drew hR
      have F : a.tmps[30]?.getD undef = _ ∧ a.tmps[31]?.getD undef = _ ∧ a.tmps[28]?.getD undef = _ ∧ a.tmps[28]?.getD undef = _ ∧ True := hf
      obtain ⟨f27, f28, f25, -, -⟩ := F
      clear ho hf
      go_simp
      exact hK _ _ (Below.refl _ _) (Eq.refl _)
    refine And.intro ?_ ?_
    · intro a W hR hf ho K hK
      replace hR := ext_drew hR
      have F : a.tmps[28]?.getD undef = _ ∧ a.tmps[32]?.getD undef = _ ∧ True := hf
      obtain ⟨f25, f29, -⟩ := F
      clear ho hf
      go_simp
      exact hK _ _ (Below.refl _ _) (Eq.refl _)
    refine And.intro ?_ ?_
    · intro a W hR hf ho K hK
      replace hR := ext_drew hR
      have F : a.tmps[33]?.getD undef = _ ∧ a.tmps[32]?.getD undef = _ ∧ True := hf
      obtain ⟨f30, f29, -⟩ := F
      clear ho hf
      go_simp
      exact hK _ _ (Below.refl _ _) (Eq.refl _)
    refine And.intro ?_ ?_
    · intro a W hR hf ho K hK
      replace hR := ext_drew hR
      have G : a.tmps[1]?.getD undef = _ ∧ True := ho
      obtain ⟨g1, -⟩ := G
      have F : a.tmps[34]?.getD undef = _ ∧ True := hf
      obtain ⟨f31, -⟩ := F
      clear ho hf
      go_simp
      exact hK _ _ (Below.refl _ _) (Eq.refl _)
    refine And.intro ?_ ?_
    · intro a W hR hf ho K hK
      replace hR := ext_drew hR
      have F : a.tmps[35]?.getD undef = _ ∧ a.tmps[34]?.getD undef = _ ∧ True := hf
      obtain ⟨f32, f31, -⟩ := F
      clear ho hf
      obtain ⟨z0, z1, z2, z3, z4, z5⟩ := lie6 (heap_alloc_new w _) hR
      go_simp
      exact hK _ _ (Below.refl _ _) (Eq.refl _)
    refine And.intro ?_ ?_
    · intro a W hR hf ho K hK
      replace hR := ext_drew hR
      have F : a.tmps[36]?.getD undef = _ ∧ a.tmps[34]?.getD undef = _ ∧ a.tmps[34]?.getD undef = _ ∧ True := hf
      obtain ⟨f33, f31, -, -⟩ := F
      clear ho hf
      go_simp
      exact hK _ _ (Below.refl _ _) (Eq.refl _)
    refine And.intro ?_ ?_
    · intro a W hR hf ho K hK
      replace hR := ext_drew hR
      have F : a.tmps[34]?.getD undef = _ ∧ a.tmps[37]?.getD undef = _ ∧ True := hf
      obtain ⟨f31, f34, -⟩ := F
      clear ho hf
      go_simp
      exact hK _ _ (Below.refl _ _) (Eq.refl _)
    refine And.intro ?_ ?_
    · intro a W hR hf ho K hK
      replace hR := ext_drew hR
      have F : a.tmps[38]?.getD undef = _ ∧ a.tmps[37]?.getD undef = _ ∧ True := hf
      obtain ⟨f35, f34, -⟩ := F
      clear ho hf
      go_simp
      exact hK _ _ (Below.refl _ _) (Eq.refl _)
    refine And.intro ?_ ?_
    · intro a W hR hf ho K hK
      replace hR := ext_drew hR
      have G : a.tmps[1]?.getD undef = _ ∧ True := ho
      obtain ⟨g1, -⟩ := G
      have F : a.tmps[39]?.getD undef = _ ∧ True := hf
      obtain ⟨f36, -⟩ := F
      clear ho hf
      go_simp
      exact hK _ _ (Below.refl _ _) (Eq.refl _)
    refine And.intro ?_ ?_
    · intro a W hR hf ho K hK
      replace hR := ext_drew hR
      have F : a.tmps[40]?.getD undef = _ ∧ a.tmps[39]?.getD undef = _ ∧ True := hf
      obtain ⟨f37, f36, -⟩ := F
      clear ho hf
      obtain ⟨z0, z1, z2, z3, z4, z5⟩ := lie6 (heap_alloc_new w _) hR
      go_simp
      exact hK _ _ (Below.refl _ _) (Eq.refl _)
    refine And.intro ?_ ?_
    · intro a W hR hf ho K hK
      replace hR := ext_drew hR
      have G : a.tmps[1]?.getD undef = _ ∧ True := ho
      obtain ⟨g1, -⟩ := G
      have F : a.tmps[39]?.getD undef = _ ∧ True := hf
      obtain ⟨f36, -⟩ := F
      clear ho hf
      go_simp
      exact hK _ _ (Below.refl _ _) (Eq.refl _)
    refine And.intro ?_ ?_
    · intro a W hR hf ho K hK
      replace hR := ext_drew hR
      have F : a.tmps[41]?.getD undef = _ ∧ a.tmps[42]?.getD undef = _ ∧ a.tmps[39]?.getD undef = _ ∧ a.tmps[39]?.getD undef = _ ∧ True := hf
      obtain ⟨f38, f39, f36, -, -⟩ := F
      clear ho hf
      go_simp
      exact hK _ _ (Below.refl _ _) (Eq.refl _)
    refine And.intro ?_ ?_
    · intro a W hR hf ho K hK
      replace hR := ext_drew hR
      have F : a.tmps[39]?.getD undef = _ ∧ a.tmps[43]?.getD undef = _ ∧ True := hf
      obtain ⟨f36, f40, -⟩ := F
      clear ho hf
      go_simp
      exact hK _ _ (Below.refl _ _) (Eq.refl _)
    refine And.intro ?_ ?_
    · intro a W hR hf ho K hK
      replace hR := ext_drew hR
      have F : a.tmps[44]?.getD undef = _ ∧ a.tmps[43]?.getD undef = _ ∧ a.tmps[3]?.getD undef = _ ∧ a.tmps[4]?.getD undef = _ ∧ a.tmps[5]?.getD undef = _ ∧ a.tmps[6]?.getD undef = _ ∧ a.tmps[7]?.getD undef = _ ∧ a.tmps[8]?.getD undef = _ ∧ a.tmps[9]?.getD undef = _ ∧ a.tmps[10]?.getD undef = _ ∧ a.tmps[11]?.getD undef = _ ∧ a.tmps[12]?.getD undef = _ ∧ a.tmps[13]?.getD undef = _ ∧ a.tmps[14]?.getD undef = _ ∧ a.tmps[15]?.getD undef = _ ∧ a.tmps[16]?.getD undef = _ ∧ a.tmps[17]?.getD undef = _ ∧ a.tmps[18]?.getD undef = _ ∧ a.tmps[19]?.getD undef = _ ∧ a.tmps[20]?.getD undef = _ ∧ (fun v W => ∃ b, v = .slice (some ⟨b, 0, none⟩) 5 5 ∧ W.heap[b]? = some (.cells #[.bool (inB x.heap 1 64), .bool (inB x.full 1 4096), .bool (inB x.comps.length 1 4), .bool (decide ((x.links.length : Int) ≤ 16)), .bool (decide ((x.shares.length : Int) ≤ 4))] 4)) (a.tmps[21]?.getD undef) W ∧ a.tmps[22]?.getD undef = _ ∧ a.tmps[23]?.getD undef = _ ∧ a.tmps[24]?.getD undef = _ ∧ a.tmps[25]?.getD undef = _ ∧ a.tmps[26]?.getD undef = _ ∧ a.tmps[27]?.getD undef = _ ∧ a.tmps[28]?.getD undef = _ ∧ a.tmps[29]?.getD undef = _ ∧ a.tmps[30]?.getD undef = _ ∧ a.tmps[31]?.getD undef = _ ∧ a.tmps[32]?.getD undef = _ ∧ a.tmps[33]?.getD undef = _ ∧ a.tmps[34]?.getD undef = _ ∧ a.tmps[35]?.getD undef = _ ∧ a.tmps[36]?.getD undef = _ ∧ a.tmps[37]?.getD undef = _ ∧ a.tmps[38]?.getD undef = _ ∧ a.tmps[39]?.getD undef = _ ∧ a.tmps[40]?.getD undef = _ ∧ a.tmps[41]?.getD undef = _ ∧ a.tmps[42]?.getD undef = _ ∧ a.tmps[43]?.getD undef = _ ∧ a.tmps[44]?.getD undef = _ ∧ True := hf
      obtain ⟨f41, f40, f0, f1, f2, f3, f4, f5, f6, f7, f8, f9, f10, f11, f12, f13, f14, f15, f16, f17, f18, f19, f20, f21, f22, f23, f24, f25, f26, f27, f28, f29, f30, f31, f32, f33, f34, f35, f36, f37, f38, f39, -, -, -⟩ := F
      clear ho hf
      go_simp
      exact hK _ _ (Below.refl _ _) (Eq.refl _)
    exact trivial
  case stab =>
    refine And.intro is_stable ?_
    refine And.intro is_stable ?_
    refine And.intro is_stable ?_
    refine And.intro is_stable ?_
    refine And.intro is_stable ?_
    refine And.intro is_stable ?_
    refine And.intro is_stable ?_
    refine And.intro is_stable ?_
    refine And.intro is_stable ?_
    refine And.intro is_stable ?_
    refine And.intro is_stable ?_
    refine And.intro is_stable ?_
    refine And.intro is_stable ?_
    refine And.intro is_stable ?_
    refine And.intro is_stable ?_
    refine And.intro is_stable ?_
    refine And.intro is_stable ?_
    refine And.intro is_stable ?_
    refine And.intro (fun v w w' hh he => hh.elim fun b hb => ⟨b, hb.1, (he.block b (Array.getElem?_eq_some_iff.1 hb.2).1).trans hb.2⟩) ?_
    refine And.intro is_stable ?_
    refine And.intro is_stable ?_
    refine And.intro is_stable ?_
    refine And.intro is_stable ?_
    refine And.intro is_stable ?_
    refine And.intro is_stable ?_
    refine And.intro is_stable ?_
    refine And.intro is_stable ?_
    refine And.intro is_stable ?_
    refine And.intro is_stable ?_
    refine And.intro is_stable ?_
    refine And.intro is_stable ?_
    refine And.intro is_stable ?_
    refine And.intro is_stable ?_
    refine And.intro is_stable ?_
    refine And.intro is_stable ?_
    refine And.intro is_stable ?_
    refine And.intro is_stable ?_
    refine And.intro is_stable ?_
    refine And.intro is_stable ?_
    refine And.intro is_stable ?_
    refine And.intro is_stable ?_
    refine And.intro is_stable ?_
    refine And.intro is_stable ?_
    exact trivial
  case ends =>
    intro vals W hR hall
    replace hR := ext_drew hR
    have e2 : vals 2 = _ := hall 42 (by decide)
    clear hall
    simp only [fill, List.setIfInBounds_toArray, List.set_cons_succ, List.set_cons_zero, e2]
    go_wp2_with fail
    go_ret
    exact ⟨rfl, (Ext.alloc (Below.refl _ w) _).then hR⟩
set_option maxHeartbeats 4000000 in
set_option maxRecDepth 20000 in
theorem form2_any (x : ImgM) (w : World) (h : ImgAt w x) (HG0 : Hid ((inB x.heap 1 64 && inB x.full 1 4096 && inB x.comps.length 1 4 && decide ((x.links.length : Int) ≤ 16) && decide ((x.shares.length : Int) ≤ 4)) = true)) (HG1 : Hid ((x.comps.all fun c => compOk c.d) = true)) (HG2 : Hid (x.links.all (linkOk x.d.comps) = false)) :
    Calls Try.prog 34 #[x.val] w fun e w' => e = .returned (.bool false) ∧ Ext w w' := by
  have hlc : x.comps.length ≤ 140737488351232 := h.lens.2.1
  have hll : x.links.length ≤ 140737488351232 := h.lens.2.2.2.1
  have hls : x.shares.length ≤ 140737488351232 := h.lens.2.2.2.2.2
  have hcode : ∀ c ∈ x.comps, c.code.length ≤ 140737488351232 := fun c hc => (h.codes c hc).2.2.2.1
  go_enter Try.func34, Try.ntmps34
  go_wp2_with fail
  refine wp_region_obl Ext [3, 4, 5, 6, 7, 8, 9, 10, 11, 12, 13, 14, 15, 16, 17, 18, 19, 20, 21, 22, 23, 24, 25, 26, 27, 28, 29, 30, 31, 32, 33, 34, 35, 36, 37, 38, 39, 40, 41, 42, 43, 44, 2] (by kernel_rfl) (fun _ => Below.refl _ _) (fun _ _ _ => Ext.then) (by kernel_rfl) (by kernel_rfl) ?_
  apply ex_is; apply Exists.intro
  apply ex_is; apply Exists.intro
  apply ex_is; apply Exists.intro
  apply ex_is; apply Exists.intro
  apply ex_is; apply Exists.intro
  apply ex_is; apply Exists.intro
  apply ex_is; apply Exists.intro
  apply ex_is; apply Exists.intro
  apply ex_is; apply Exists.intro
  apply ex_is; apply Exists.intro
  apply ex_is; apply Exists.intro
  apply ex_is; apply Exists.intro
  apply ex_is; apply Exists.intro
  apply ex_is; apply Exists.intro
  apply ex_is; apply Exists.intro
  apply ex_is; apply Exists.intro
  apply ex_is; apply Exists.intro
  apply ex_is; apply Exists.intro
  refine ex_phi (fun v W => ∃ b, v = .slice (some ⟨b, 0, none⟩) 5 5 ∧ W.heap[b]? = some (.cells #[.bool (inB x.heap 1 64), .bool (inB x.full 1 4096), .bool (inB x.comps.length 1 4), .bool (decide ((x.links.length : Int) ≤ 16)), .bool (decide ((x.shares.length : Int) ≤ 4))] 4)) ?_
  apply ex_is; apply Exists.intro
  apply ex_is; apply Exists.intro
  apply ex_is; apply Exists.intro
  apply ex_is; apply Exists.intro
  apply ex_is; apply Exists.intro
  apply ex_is; apply Exists.intro
  apply ex_is; apply Exists.intro
  apply ex_is; apply Exists.intro
  apply ex_is; apply Exists.intro
  apply ex_is; apply Exists.intro
  apply ex_is; apply Exists.intro
  apply ex_is; apply Exists.intro
  apply ex_is; apply Exists.intro
  apply ex_is; apply Exists.intro
  apply ex_is; apply Exists.intro
  apply ex_is; apply Exists.intro
  apply ex_is; apply Exists.intro
  apply ex_is; apply Exists.intro
  apply ex_is; apply Exists.intro
  apply ex_is; apply Exists.intro
  apply ex_is; apply Exists.intro
  apply ex_is; apply Exists.intro
  apply ex_is; apply Exists.intro
  apply ex_is; apply Exists.intro
  refine ⟨[], ⟨?steps, ?stab, ?ends⟩⟩
  case steps =>
    refine And.intro ?_ ?_
    · intro a W hR hf ho K hK
      replace hR := ext_drew hR
      have G : a.tmps[1]?.getD undef = _ ∧ True := ho
      obtain ⟨g1, -⟩ := G
      clear ho hf
      go_simp
      exact hK _ _ (Below.refl _ _) (Eq.refl _)
    refine And.intro ?_ ?_
    · intro a W hR hf ho K hK
      replace hR := ext_drew hR
      have F : a.tmps[3]?.getD undef = _ ∧ True := hf
      obtain ⟨f0, -⟩ := F
      clear ho hf
      obtain ⟨z0, z1, z2, z3, z4, z5⟩ := lie6 (heap_alloc_new w _) hR
      go_simp
      exact hK _ _ (Below.refl _ _) (Eq.refl _)
    refine And.intro ?_ ?_
    · intro a W hR hf ho K hK
      replace hR := ext_drew hR
      have F : a.tmps[4]?.getD undef = _ ∧ True := hf
      obtain ⟨f1, -⟩ := F
      clear ho hf
      go_simp
      refine (within_any _ _ _ _).mono ?_; rintro e W1 ⟨rfl, rfl⟩; exact hK _ _ (Below.refl _ _) (Eq.refl _)
    refine And.intro ?_ ?_
    · intro a W hR hf ho K hK
      replace hR := ext_drew hR
      have G : a.tmps[1]?.getD undef = _ ∧ True := ho
      obtain ⟨g1, -⟩ := G
      clear ho hf
      go_simp
      exact hK _ _ (Below.refl _ _) (Eq.refl _)
    refine And.intro ?_ ?_
    · intro a W hR hf ho K hK
      replace hR := ext_drew hR
      have F : a.tmps[6]?.getD undef = _ ∧ True := hf
      obtain ⟨f3, -⟩ := F
      clear ho hf
      obtain ⟨z0, z1, z2, z3, z4, z5⟩ := lie6 (heap_alloc_new w _) hR
      go_simp
      exact hK _ _ (Below.refl _ _) (Eq.refl _)
    refine And.intro ?_ ?_
    · intro a W hR hf ho K hK
      replace hR := ext_drew hR
      have F : a.tmps[7]?.getD undef = _ ∧ a.tmps[5]?.getD undef = _ ∧ True := hf
      obtain ⟨f4, f2, -⟩ := F
      clear ho hf
      go_simp
      refine (within_any _ _ _ _).mono ?_; rintro e W1 ⟨rfl, rfl⟩; exact hK _ _ (Below.refl _ _) (Eq.refl _)
    refine And.intro ?_ ?_
    · intro a W hR hf ho K hK
      replace hR := ext_drew hR
      have G : a.tmps[1]?.getD undef = _ ∧ True := ho
      obtain ⟨g1, -⟩ := G
      clear ho hf
      go_simp
      exact hK _ _ (Below.refl _ _) (Eq.refl _)
    refine And.intro ?_ ?_
    · intro a W hR hf ho K hK
      replace hR := ext_drew hR
      have F : a.tmps[9]?.getD undef = _ ∧ True := hf
      obtain ⟨f6, -⟩ := F
      clear ho hf
      obtain ⟨z0, z1, z2, z3, z4, z5⟩ := lie6 (heap_alloc_new w _) hR
      go_simp
      exact hK _ _ (Below.refl _ _) (Eq.refl _)
    refine And.intro ?_ ?_
    · intro a W hR hf ho K hK
      replace hR := ext_drew hR
      have F : a.tmps[10]?.getD undef = _ ∧ True := hf
      obtain ⟨f7, -⟩ := F
      clear ho hf
      go_simp
      exact hK _ _ (Below.refl _ _) (Eq.refl _)
    refine And.intro ?_ ?_
    · intro a W hR hf ho K hK
      replace hR := ext_drew hR
      have F : a.tmps[11]?.getD undef = _ ∧ a.tmps[8]?.getD undef = _ ∧ True := hf
      obtain ⟨f8, f5, -⟩ := F
      clear ho hf
      go_simp
      refine (within_any _ _ _ _).mono ?_; rintro e W1 ⟨rfl, rfl⟩; exact hK _ _ (Below.refl _ _) (Eq.refl _)
    refine And.intro ?_ ?_
    · intro a W hR hf ho K hK
      replace hR := ext_drew hR
      have G : a.tmps[1]?.getD undef = _ ∧ True := ho
      obtain ⟨g1, -⟩ := G
      clear ho hf
      go_simp
      exact hK _ _ (Below.refl _ _) (Eq.refl _)
    refine And.intro ?_ ?_
    · intro a W hR hf ho K hK
      replace hR := ext_drew hR
      have F : a.tmps[13]?.getD undef = _ ∧ True := hf
      obtain ⟨f10, -⟩ := F
      clear ho hf
      obtain ⟨z0, z1, z2, z3, z4, z5⟩ := lie6 (heap_alloc_new w _) hR
      go_simp
      exact hK _ _ (Below.refl _ _) (Eq.refl _)
    refine And.intro ?_ ?_
    · intro a W hR hf ho K hK
      replace hR := ext_drew hR
      have F : a.tmps[14]?.getD undef = _ ∧ True := hf
      obtain ⟨f11, -⟩ := F
      clear ho hf
      go_simp
      exact hK _ _ (Below.refl _ _) (Eq.refl _)
    refine And.intro ?_ ?_
    · intro a W hR hf ho K hK
      replace hR := ext_drew hR
      have F : a.tmps[15]?.getD undef = _ ∧ True := hf
      obtain ⟨f12, -⟩ := F
      clear ho hf
      go_simp
      exact hK _ _ (Below.refl _ _) (Eq.refl _)
    refine And.intro ?_ ?_
    · intro a W hR hf ho K hK
      replace hR := ext_drew hR
      have G : a.tmps[1]?.getD undef = _ ∧ True := ho
      obtain ⟨g1, -⟩ := G
      clear ho hf
      go_simp
      exact hK _ _ (Below.refl _ _) (Eq.refl _)
    refine And.intro ?_ ?_
    · intro a W hR hf ho K hK
      replace hR := ext_drew hR
      have F : a.tmps[17]?.getD undef = _ ∧ True := hf
      obtain ⟨f14, -⟩ := F
      clear ho hf
      obtain ⟨z0, z1, z2, z3, z4, z5⟩ := lie6 (heap_alloc_new w _) hR
      go_simp
      exact hK _ _ (Below.refl _ _) (Eq.refl _)
    refine And.intro ?_ ?_
    · intro a W hR hf ho K hK
      replace hR := ext_drew hR
      have F : a.tmps[18]?.getD undef = _ ∧ True := hf
      obtain ⟨f15, -⟩ := F
      clear ho hf
      go_simp
      exact hK _ _ (Below.refl _ _) (Eq.refl _)
    refine And.intro ?_ ?_
    · intro a W hR hf ho K hK
      replace hR := ext_drew hR
      have F : a.tmps[19]?.getD undef = _ ∧ True := hf
      obtain ⟨f16, -⟩ := F
      clear ho hf
      go_simp
      exact hK _ _ (Below.refl _ _) (Eq.refl _)
    refine And.intro ?_ ?_
    · intro a W hR hf ho K hK
      replace hR := ext_drew hR
      have F : a.tmps[5]?.getD undef = _ ∧ a.tmps[8]?.getD undef = _ ∧ a.tmps[12]?.getD undef = _ ∧ a.tmps[16]?.getD undef = _ ∧ a.tmps[20]?.getD undef = _ ∧ True := hf
      obtain ⟨f2, f5, f9, f13, f17, -⟩ := F
      clear ho hf
      go_simp
      exact hK _ _ (Ext.alloc (Below.refl _ _) _) ⟨_, rfl, heap_alloc_new W _⟩
    refine And.intro ?_ ?_
    · intro a W hR hf ho K hK
      replace hR := ext_drew hR
      have F : (fun v W => ∃ b, v = .slice (some ⟨b, 0, none⟩) 5 5 ∧ W.heap[b]? = some (.cells #[.bool (inB x.heap 1 64), .bool (inB x.full 1 4096), .bool (inB x.comps.length 1 4), .bool (decide ((x.links.length : Int) ≤ 16)), .bool (decide ((x.shares.length : Int) ≤ 4))] 4)) (a.tmps[21]?.getD undef) W ∧ a.tmps[12]?.getD undef = _ ∧ True := hf
      obtain ⟨f18, f9, -⟩ := F
      clear ho hf
      obtain ⟨b5, hv5, hb5⟩ := f18
      go_simp
      refine (must5 _ _ _ _ _ _ _ hb5).mono ?_; rintro e W1 ⟨he, rfl⟩; rw [HG0.out] at he; subst he; exact hK _ _ (Below.refl _ _) (Eq.refl _)
    refine And.intro ?_ ?_
    · intro a W hR hf ho K hK
      replace hR := ext_drew hR
      have F : a.tmps[22]?.getD undef = _ ∧ a.tmps[22]?.getD undef = _ ∧ True := hf
      obtain ⟨f19, -, -⟩ := F
      clear ho hf
      go_simp
      exact hK _ _ (Below.refl _ _) (Eq.refl _)
    refine And.intro ?_ ?_
    · intro a W hR hf ho K hK
      replace hR := ext_drew hR
      have G : a.tmps[1]?.getD undef = _ ∧ True := ho
      obtain ⟨g1, -⟩ := G
      have F : a.tmps[23]?.getD undef = _ ∧ True := hf
      obtain ⟨f20, -⟩ := F
      clear ho hf
      go_simp
      exact hK _ _ (Below.refl _ _) (Eq.refl _)
    refine And.intro ?_ ?_
    · intro a W hR hf ho K hK
      replace hR := ext_drew hR
      have F : a.tmps[24]?.getD undef = _ ∧ a.tmps[23]?.getD undef = _ ∧ True := hf
      obtain ⟨f21, f20, -⟩ := F
      clear ho hf
      obtain ⟨z0, z1, z2, z3, z4, z5⟩ := lie6 (heap_alloc_new w _) hR
      go_simp
      exact hK _ _ (Below.refl _ _) (Eq.refl _)
    refine And.intro ?_ ?_
    · intro a W hR hf ho K hK
      replace hR := ext_drew hR
      have F : a.tmps[25]?.getD undef = _ ∧ a.tmps[23]?.getD undef = _ ∧ a.tmps[23]?.getD undef = _ ∧ True := hf
      obtain ⟨f22, f20, -, -⟩ := F
      clear ho hf
      go_simp
      refine (allComp0 x.Ac x.cc x.comps 51 (fun c => compOk c.d) W (h.comps.ext ((Ext.alloc (Below.refl _ w) _).then hR)) hlc (fun args w => by kernel_rfl) (fun W c hc hW => comp_any c W (hcode c hc))).mono ?_; rintro e W1 ⟨he, hb⟩; rw [HG1.out] at he; subst he; exact hK _ _ hb (Eq.refl _)
    refine And.intro ?_ ?_
    · intro a W hR hf ho K hK
      replace hR := ext_drew hR
      have F : a.tmps[23]?.getD undef = _ ∧ a.tmps[26]?.getD undef = _ ∧ True := hf
      obtain ⟨f20, f23, -⟩ := F
      clear ho hf
      go_simp
      exact hK _ _ (Below.refl _ _) (Eq.refl _)
    refine And.intro ?_ ?_
    · intro a W hR hf ho K hK
      replace hR := ext_drew hR
      have F : a.tmps[27]?.getD undef = _ ∧ a.tmps[26]?.getD undef = _ ∧ True := hf
      obtain ⟨f24, f23, -⟩ := F
      clear ho hf
      go_simp
      exact hK _ _ (Below.refl _ _) (Eq.refl _)
    refine And.intro ?_ ?_
    · intro a W hR hf ho K hK
      replace hR := ext_drew hR
      have G : a.tmps[1]?.getD undef = _ ∧ True := ho
      obtain ⟨g1, -⟩ := G
      have F : a.tmps[28]?.getD undef = _ ∧ True := hf
      obtain ⟨f25, -⟩ := F
      clear ho hf
      go_simp
      exact hK _ _ (Below.refl _ _) (Eq.refl _)
    refine And.intro ?_ ?_
    · intro a W hR hf ho K hK
      replace hR := ext_drew hR
      have F : a.tmps[29]?.getD undef = _ ∧ a.tmps[28]?.getD undef = _ ∧ True := hf
      obtain ⟨f26, f25, -⟩ := F
      clear ho hf
      obtain ⟨z0, z1, z2, z3, z4, z5⟩ := lie6 (heap_alloc_new w _) hR
      go_simp
      exact hK _ _ (Below.refl _ _) (Eq.refl _)
    refine And.intro ?_ ?_
    · intro a W hR hf ho K hK
      replace hR := ext_drew hR
      have G : a.tmps[1]?.getD undef = _ ∧ True := ho
      obtain ⟨g1, -⟩ := G
      have F : a.tmps[28]?.getD undef = _ ∧ True := hf
      obtain ⟨f25, -⟩ := F
      clear ho hf
      go_simp
      exact hK _ _ (Below.refl _ _) (Eq.refl _)
    refine And.intro ?_ ?_
    · intro a W hR hf ho K hK
      replace hR := ext_drew hR
      have F : a.tmps[30]?.getD undef = _ ∧ a.tmps[31]?.getD undef = _ ∧ a.tmps[28]?.getD undef = _ ∧ a.tmps[28]?.getD undef = _ ∧ True := hf
      obtain ⟨f27, f28, f25, -, -⟩ := F
      clear ho hf
      go_simp
      refine (allLink1 x.Al x.cl x.links 53 (.pointer (some ⟨w.heap.size, 0, none⟩)) (linkOk x.d.comps) W (h.links.ext ((Ext.alloc (Below.refl _ w) _).then hR)) hll (fun args w => by kernel_rfl) (fun W' l hl hW => formL_any w.heap.size x l W' (h.ext ((Ext.alloc (Below.refl _ w) _).then (hR.then hW))) (new_at rfl (hR.then hW)))).mono ?_; rintro e W1 ⟨he, hb⟩; rw [HG2.out] at he; subst he; exact hK _ _ hb (Eq.refl _)
    refine And.intro ?_ ?_
    · intro a W hR hf ho K hK
      replace hR := ext_drew hR
      have F : a.tmps[28]?.getD undef = _ ∧ a.tmps[32]?.getD undef = _ ∧ True := hf
      obtain ⟨f25, f29, -⟩ := F
      clear ho hf
      go_simp
      exact hK _ _ (Below.refl _ _) (Eq.refl _)
    refine And.intro ?_ ?_
    · intro a W hR hf ho K hK
      replace hR := ext_drew hR
      have F : a.tmps[33]?.getD undef = _ ∧ a.tmps[32]?.getD undef = _ ∧ True := hf
      obtain ⟨f30, f29, -⟩ := F
      clear ho hf
      go_simp
      exact hK _ _ (Below.refl _ _) (Eq.refl _)
    refine And.intro ?_ ?_
    · intro a W hR hf ho K hK
      replace hR := ext_drew hR
      have G : a.tmps[1]?.getD undef = _ ∧ True := ho
      obtain ⟨g1, -⟩ := G
      have F : a.tmps[34]?.getD undef = _ ∧ True := hf
      obtain ⟨f31, -⟩ := F
      clear ho hf
      go_simp
      exact hK _ _ (Below.refl _ _) (Eq.refl _)
    refine And.intro ?_ ?_
    · intro a W hR hf ho K hK
      replace hR := ext_drew hR
      have F : a.tmps[35]?.getD undef = _ ∧ a.tmps[34]?.getD undef = _ ∧ True := hf
      obtain ⟨f32, f31, -⟩ := F
      clear ho hf
      obtain ⟨z0, z1, z2, z3, z4, z5⟩ := lie6 (heap_alloc_new w _) hR
      go_simp
      exact hK _ _ (Below.refl _ _) (Eq.refl _)
    refine And.intro ?_ ?_
    · intro a W hR hf ho K hK
      replace hR := ext_drew hR
      have F : a.tmps[36]?.getD undef = _ ∧ a.tmps[34]?.getD undef = _ ∧ a.tmps[34]?.getD undef = _ ∧ True := hf
      obtain ⟨f33, f31, -, -⟩ := F
      clear ho hf
      go_simp
      exact hK _ _ (Below.refl _ _) (Eq.refl _)
    refine And.intro ?_ ?_
    · intro a W hR hf ho K hK
      replace hR := ext_drew hR
      have F : a.tmps[34]?.getD undef = _ ∧ a.tmps[37]?.getD undef = _ ∧ True := hf
      obtain ⟨f31, f34, -⟩ := F
      clear ho hf
      go_simp
      exact hK _ _ (Below.refl _ _) (Eq.refl _)
    refine And.intro ?_ ?_
    · intro a W hR hf ho K hK
      replace hR := ext_drew hR
      have F : a.tmps[38]?.getD undef = _ ∧ a.tmps[37]?.getD undef = _ ∧ True := hf
      obtain ⟨f35, f34, -⟩ := F
      clear ho hf
      go_simp
      exact hK _ _ (Below.refl _ _) (Eq.refl _)
    refine And.intro ?_ ?_
    · intro a W hR hf ho K hK
      replace hR := ext_drew hR
      have G : a.tmps[1]?.getD undef = _ ∧ True := ho
      obtain ⟨g1, -⟩ := G
      have F : a.tmps[39]?.getD undef = _ ∧ True := hf
      obtain ⟨f36, -⟩ := F
      clear ho hf
      go_simp
      exact hK _ _ (Below.refl _ _) (Eq.refl _)
    refine And.intro ?_ ?_
    · intro a W hR hf ho K hK
      replace hR := ext_drew hR
      have F : a.tmps[40]?.getD undef = _ ∧ a.tmps[39]?.getD undef = _ ∧ True := hf
      obtain ⟨f37, f36, -⟩ := F
      clear ho hf
      obtain ⟨z0, z1, z2, z3, z4, z5⟩ := lie6 (heap_alloc_new w _) hR
      go_simp
      exact hK _ _ (Below.refl _ _) (Eq.refl _)
    refine And.intro ?_ ?_
    · intro a W hR hf ho K hK
      replace hR := ext_drew hR
      have G : a.tmps[1]?.getD undef = _ ∧ True := ho
      obtain ⟨g1, -⟩ := G
      have F : a.tmps[39]?.getD undef = _ ∧ True := hf
      obtain ⟨f36, -⟩ := F
      clear ho hf
      go_simp
      exact hK _ _ (Below.refl _ _) (Eq.refl _)
    refine And.intro ?_ ?_
    · intro a W hR hf ho K hK
      replace hR := ext_drew hR
      have F : a.tmps[41]?.getD undef = _ ∧ a.tmps[42]?.getD undef = _ ∧ a.tmps[39]?.getD undef = _ ∧ a.tmps[39]?.getD undef = _ ∧ True := hf
      obtain ⟨f38, f39, f36, -, -⟩ := F
      clear ho hf
      go_simp
      exact hK _ _ (Below.refl _ _) (Eq.refl _)
    refine And.intro ?_ ?_
    · intro a W hR hf ho K hK
      replace hR := ext_drew hR
      have F : a.tmps[39]?.getD undef = _ ∧ a.tmps[43]?.getD undef = _ ∧ True := hf
      obtain ⟨f36, f40, -⟩ := F
      clear ho hf
      go_simp
      exact hK _ _ (Below.refl _ _) (Eq.refl _)
    refine And.intro ?_ ?_
    · intro a W hR hf ho K hK
      replace hR := ext_drew hR
      have F : a.tmps[44]?.getD undef = _ ∧ a.tmps[43]?.getD undef = _ ∧ a.tmps[3]?.getD undef = _ ∧ a.tmps[4]?.getD undef = _ ∧ a.tmps[5]?.getD undef = _ ∧ a.tmps[6]?.getD undef = _ ∧ a.tmps[7]?.getD undef = _ ∧ a.tmps[8]?.getD undef = _ ∧ a.tmps[9]?.getD undef = _ ∧ a.tmps[10]?.getD undef = _ ∧ a.tmps[11]?.getD undef = _ ∧ a.tmps[12]?.getD undef = _ ∧ a.tmps[13]?.getD undef = _ ∧ a.tmps[14]?.getD undef = _ ∧ a.tmps[15]?.getD undef = _ ∧ a.tmps[16]?.getD undef = _ ∧ a.tmps[17]?.getD undef = _ ∧ a.tmps[18]?.getD undef = _ ∧ a.tmps[19]?.getD undef = _ ∧ a.tmps[20]?.getD undef = _ ∧ (fun v W => ∃ b, v = .slice (some ⟨b, 0, none⟩) 5 5 ∧ W.heap[b]? = some (.cells #[.bool (inB x.heap 1 64), .bool (inB x.full 1 4096), .bool (inB x.comps.length 1 4), .bool (decide ((x.links.length : Int) ≤ 16)), .bool (decide ((x.shares.length : Int) ≤ 4))] 4)) (a.tmps[21]?.getD undef) W ∧ a.tmps[22]?.getD undef = _ ∧ a.tmps[23]?.getD undef = _ ∧ a.tmps[24]?.getD undef = _ ∧ a.tmps[25]?.getD undef = _ ∧ a.tmps[26]?.getD undef = _ ∧ a.tmps[27]?.getD undef = _ ∧ a.tmps[28]?.getD undef = _ ∧ a.tmps[29]?.getD undef = _ ∧ a.tmps[30]?.getD undef = _ ∧ a.tmps[31]?.getD undef = _ ∧ a.tmps[32]?.getD undef = _ ∧ a.tmps[33]?.getD undef = _ ∧ a.tmps[34]?.getD undef = _ ∧ a.tmps[35]?.getD undef = _ ∧ a.tmps[36]?.getD undef = _ ∧ a.tmps[37]?.getD undef = _ ∧ a.tmps[38]?.getD undef = _ ∧ a.tmps[39]?.getD undef = _ ∧ a.tmps[40]?.getD undef = _ ∧ a.tmps[41]?.getD undef = _ ∧ a.tmps[42]?.getD undef = _ ∧ a.tmps[43]?.getD undef = _ ∧ a.tmps[44]?.getD undef = _ ∧ True := hf
      obtain ⟨f41, f40, f0, f1, f2, f3, f4, f5, f6, f7, f8, f9, f10, f11, f12, f13, f14, f15, f16, f17, f18, f19, f20, f21, f22, f23, f24, f25, f26, f27, f28, f29, f30, f31, f32, f33, f34, f35, f36, f37, f38, f39, -, -, -⟩ := F
      clear ho hf
      go_simp
      exact hK _ _ (Below.refl _ _) (Eq.refl _)
    exact trivial
  case stab =>
    refine And.intro is_stable ?_
    refine And.intro is_stable ?_
    refine And.intro is_stable ?_
    refine And.intro is_stable ?_
    refine And.intro is_stable ?_
    refine And.intro is_stable ?_
    refine And.intro is_stable ?_
    refine And.intro is_stable ?_
    refine And.intro is_stable ?_
    refine And.intro is_stable ?_
    refine And.intro is_stable ?_
    refine And.intro is_stable ?_
    refine And.intro is_stable ?_
    refine And.intro is_stable ?_
    refine And.intro is_stable ?_
    refine And.intro is_stable ?_
    refine And.intro is_stable ?_
    refine And.intro is_stable ?_
    refine And.intro (fun v w w' hh he => hh.elim fun b hb => ⟨b, hb.1, (he.block b (Array.getElem?_eq_some_iff.1 hb.2).1).trans hb.2⟩) ?_
    refine And.intro is_stable ?_
    refine And.intro is_stable ?_
    refine And.intro is_stable ?_
    refine And.intro is_stable ?_
    refine And.intro is_stable ?_
    refine And.intro is_stable ?_
    refine And.intro is_stable ?_
    refine And.intro is_stable ?_
    refine And.intro is_stable ?_
    refine And.intro is_stable ?_
    refine And.intro is_stable ?_
    refine And.intro is_stable ?_
    refine And.intro is_stable ?_
    refine And.intro is_stable ?_
    refine And.intro is_stable ?_
    refine And.intro is_stable ?_
    refine And.intro is_stable ?_
    refine And.intro is_stable ?_
    refine And.intro is_stable ?_
    refine And.intro is_stable ?_
    refine And.intro is_stable ?_
    refine And.intro is_stable ?_
    refine And.intro is_stable ?_
    refine And.intro is_stable ?_
    exact trivial
  case ends =>
    intro vals W hR hall
    replace hR := ext_drew hR
    have e2 : vals 2 = _ := hall 42 (by decide)
    clear hall
    simp only [fill, List.setIfInBounds_toArray, List.set_cons_succ, List.set_cons_zero, e2]
    go_wp2_with fail
    go_ret
    exact ⟨rfl, (Ext.alloc (Below.refl _ w) _).then hR⟩
set_option maxHeartbeats 4000000 in
set_option maxRecDepth 20000 in
theorem form3_any (x : ImgM) (w : World) (h : ImgAt w x) (HG0 : Hid ((inB x.heap 1 64 && inB x.full 1 4096 && inB x.comps.length 1 4 && decide ((x.links.length : Int) ≤ 16) && decide ((x.shares.length : Int) ≤ 4)) = true)) (HG1 : Hid ((x.comps.all fun c => compOk c.d) = true)) (HG2 : Hid (x.links.all (linkOk x.d.comps) = true)) (HG3 : Hid (manyOk x.links = false)) (hfr : ∀ l ∈ x.links, 0 ≤ l.fr ∧ l.fr < 4) :
    Calls Try.prog 34 #[x.val] w fun e w' => e = .returned (.bool false) ∧ Ext w w' := by
  have hlc : x.comps.length ≤ 140737488351232 := h.lens.2.1
  have hll : x.links.length ≤ 140737488351232 := h.lens.2.2.2.1
  have hls : x.shares.length ≤ 140737488351232 := h.lens.2.2.2.2.2
  have hcode : ∀ c ∈ x.comps, c.code.length ≤ 140737488351232 := fun c hc => (h.codes c hc).2.2.2.1
  go_enter Try.func34, Try.ntmps34
  go_wp2_with fail
  refine wp_region_obl Ext [3, 4, 5, 6, 7, 8, 9, 10, 11, 12, 13, 14, 15, 16, 17, 18, 19, 20, 21, 22, 23, 24, 25, 26, 27, 28, 29, 30, 31, 32, 33, 34, 35, 36, 37, 38, 39, 40, 41, 42, 43, 44, 2] (by kernel_rfl) (fun _ => Below.refl _ _) (fun _ _ _ => Ext.then) (by kernel_rfl) (by kernel_rfl) ?_
  apply ex_is; apply Exists.intro
  apply ex_is; apply Exists.intro
  apply ex_is; apply Exists.intro
  apply ex_is; apply Exists.intro
  apply ex_is; apply Exists.intro
  apply ex_is; apply Exists.intro
  apply ex_is; apply Exists.intro
  apply ex_is; apply Exists.intro
  apply ex_is; apply Exists.intro
  apply ex_is; apply Exists.intro
  apply ex_is; apply Exists.intro
  apply ex_is; apply Exists.intro
  apply ex_is; apply Exists.intro
  apply ex_is; apply Exists.intro
  apply ex_is; apply Exists.intro
  apply ex_is; apply Exists.intro
  apply ex_is; apply Exists.intro
  apply ex_is; apply Exists.intro
  refine ex_phi (fun v W => ∃ b, v = .slice (some ⟨b, 0, none⟩) 5 5 ∧ W.heap[b]? = some (.cells #[.bool (inB x.heap 1 64), .bool (inB x.full 1 4096), .bool (inB x.comps.length 1 4), .bool (decide ((x.links.length : Int) ≤ 16)), .bool (decide ((x.shares.length : Int) ≤ 4))] 4)) ?_
  apply ex_is; apply Exists.intro
  apply ex_is; apply Exists.intro
  apply ex_is; apply Exists.intro
  apply ex_is; apply Exists.intro
  apply ex_is; apply Exists.intro
  apply ex_is; apply Exists.intro
  apply ex_is; apply Exists.intro
  apply ex_is; apply Exists.intro
  apply ex_is; apply Exists.intro
  apply ex_is; apply Exists.intro
  apply ex_is; apply Exists.intro
  apply ex_is; apply Exists.intro
  apply ex_is; apply Exists.intro
  apply ex_is; apply Exists.intro
  apply ex_is; apply Exists.intro
  apply ex_is; apply Exists.intro
  apply ex_is; apply Exists.intro
  apply ex_is; apply Exists.intro
  apply ex_is; apply Exists.intro
  apply ex_is; apply Exists.intro
  apply ex_is; apply Exists.intro
  apply ex_is; apply Exists.intro
  apply ex_is; apply Exists.intro
  apply ex_is; apply Exists.intro
  refine ⟨[], ⟨?steps, ?stab, ?ends⟩⟩
  case steps =>
    refine And.intro ?_ ?_
    · intro a W hR hf ho K hK
      replace hR := ext_drew hR
      have G : a.tmps[1]?.getD undef = _ ∧ True := ho
      obtain ⟨g1, -⟩ := G
      clear ho hf
      go_simp
      exact hK _ _ (Below.refl _ _) (Eq.refl _)
    refine And.intro ?_ ?_
    · intro a W hR hf ho K hK
      replace hR := ext_drew hR
      have F : a.tmps[3]?.getD undef = _ ∧ True := hf
      obtain ⟨f0, -⟩ := F
      clear ho hf
      obtain ⟨z0, z1, z2, z3, z4, z5⟩ := lie6 (heap_alloc_new w _) hR
      go_simp
      exact hK _ _ (Below.refl _ _) (Eq.refl _)
    refine And.intro ?_ ?_
    · intro a W hR hf ho K hK
      replace hR := ext_drew hR
      have F : a.tmps[4]?.getD undef = _ ∧ True := hf
      obtain ⟨f1, -⟩ := F
      clear ho hf
      go_simp
      refine (within_any _ _ _ _).mono ?_; rintro e W1 ⟨rfl, rfl⟩; exact hK _ _ (Below.refl _ _) (Eq.refl _)
    refine And.intro ?_ ?_
    · intro a W hR hf ho K hK
      replace hR := ext_drew hR
      have G : a.tmps[1]?.getD undef = _ ∧ True := ho
      obtain ⟨g1, -⟩ := G
      clear ho hf
      go_simp
      exact hK _ _ (Below.refl _ _) (Eq.refl _)
    refine And.intro ?_ ?_
    · intro a W hR hf ho K hK
      replace hR := ext_drew hR
      have F : a.tmps[6]?.getD undef = _ ∧ True := hf
      obtain ⟨f3, -⟩ := F
      clear ho hf
      obtain ⟨z0, z1, z2, z3, z4, z5⟩ := lie6 (heap_alloc_new w _) hR
      go_simp
      exact hK _ _ (Below.refl _ _) (Eq.refl _)
    refine And.intro ?_ ?_
    · intro a W hR hf ho K hK
      replace hR := ext_drew hR
      have F : a.tmps[7]?.getD undef = _ ∧ a.tmps[5]?.getD undef = _ ∧ True := hf
      obtain ⟨f4, f2, -⟩ := F
      clear ho hf
      go_simp
      refine (within_any _ _ _ _).mono ?_; rintro e W1 ⟨rfl, rfl⟩; exact hK _ _ (Below.refl _ _) (Eq.refl _)
    refine And.intro ?_ ?_
    · intro a W hR hf ho K hK
      replace hR := ext_drew hR
      have G : a.tmps[1]?.getD undef = _ ∧ True := ho
      obtain ⟨g1, -⟩ := G
      clear ho hf
      go_simp
      exact hK _ _ (Below.refl _ _) (Eq.refl _)
    refine And.intro ?_ ?_
    · intro a W hR hf ho K hK
      replace hR := ext_drew hR
      have F : a.tmps[9]?.getD undef = _ ∧ True := hf
      obtain ⟨f6, -⟩ := F
      clear ho hf
      obtain ⟨z0, z1, z2, z3, z4, z5⟩ := lie6 (heap_alloc_new w _) hR
      go_simp
      exact hK _ _ (Below.refl _ _) (Eq.refl _)
    refine And.intro ?_ ?_
    · intro a W hR hf ho K hK
      replace hR := ext_drew hR
      have F : a.tmps[10]?.getD undef = _ ∧ True := hf
      obtain ⟨f7, -⟩ := F
      clear ho hf
      go_simp
      exact hK _ _ (Below.refl _ _) (Eq.refl _)
    refine And.intro ?_ ?_
    · intro a W hR hf ho K hK
      replace hR := ext_drew hR
      have F : a.tmps[11]?.getD undef = _ ∧ a.tmps[8]?.getD undef = _ ∧ True := hf
      obtain ⟨f8, f5, -⟩ := F
      clear ho hf
      go_simp
      refine (within_any _ _ _ _).mono ?_; rintro e W1 ⟨rfl, rfl⟩; exact hK _ _ (Below.refl _ _) (Eq.refl _)
    refine And.intro ?_ ?_
    · intro a W hR hf ho K hK
      replace hR := ext_drew hR
      have G : a.tmps[1]?.getD undef = _ ∧ True := ho
      obtain ⟨g1, -⟩ := G
      clear ho hf
      go_simp
      exact hK _ _ (Below.refl _ _) (Eq.refl _)
    refine And.intro ?_ ?_
    · intro a W hR hf ho K hK
      replace hR := ext_drew hR
      have F : a.tmps[13]?.getD undef = _ ∧ True := hf
      obtain ⟨f10, -⟩ := F
      clear ho hf
      obtain ⟨z0, z1, z2, z3, z4, z5⟩ := lie6 (heap_alloc_new w _) hR
      go_simp
      exact hK _ _ (Below.refl _ _) (Eq.refl _)
    refine And.intro ?_ ?_
    · intro a W hR hf ho K hK
      replace hR := ext_drew hR
      have F : a.tmps[14]?.getD undef = _ ∧ True := hf
      obtain ⟨f11, -⟩ := F
      clear ho hf
      go_simp
      exact hK _ _ (Below.refl _ _) (Eq.refl _)
    refine And.intro ?_ ?_
    · intro a W hR hf ho K hK
      replace hR := ext_drew hR
      have F : a.tmps[15]?.getD undef = _ ∧ True := hf
      obtain ⟨f12, -⟩ := F
      clear ho hf
      go_simp
      exact hK _ _ (Below.refl _ _) (Eq.refl _)
    refine And.intro ?_ ?_
    · intro a W hR hf ho K hK
      replace hR := ext_drew hR
      have G : a.tmps[1]?.getD undef = _ ∧ True := ho
      obtain ⟨g1, -⟩ := G
      clear ho hf
      go_simp
      exact hK _ _ (Below.refl _ _) (Eq.refl _)
    refine And.intro ?_ ?_
    · intro a W hR hf ho K hK
      replace hR := ext_drew hR
      have F : a.tmps[17]?.getD undef = _ ∧ True := hf
      obtain ⟨f14, -⟩ := F
      clear ho hf
      obtain ⟨z0, z1, z2, z3, z4, z5⟩ := lie6 (heap_alloc_new w _) hR
      go_simp
      exact hK _ _ (Below.refl _ _) (Eq.refl _)
    refine And.intro ?_ ?_
    · intro a W hR hf ho K hK
      replace hR := ext_drew hR
      have F : a.tmps[18]?.getD undef = _ ∧ True := hf
      obtain ⟨f15, -⟩ := F
      clear ho hf
      go_simp
      exact hK _ _ (Below.refl _ _) (Eq.refl _)
    refine And.intro ?_ ?_
    · intro a W hR hf ho K hK
      replace hR := ext_drew hR
      have F : a.tmps[19]?.getD undef = _ ∧ True := hf
      obtain ⟨f16, -⟩ := F
      clear ho hf
      go_simp
      exact hK _ _ (Below.refl _ _) (Eq.refl _)
    refine And.intro ?_ ?_
    · intro a W hR hf ho K hK
      replace hR := ext_drew hR
      have F : a.tmps[5]?.getD undef = _ ∧ a.tmps[8]?.getD undef = _ ∧ a.tmps[12]?.getD undef = _ ∧ a.tmps[16]?.getD undef = _ ∧ a.tmps[20]?.getD undef = _ ∧ True := hf
      obtain ⟨f2, f5, f9, f13, f17, -⟩ := F
      clear ho hf
      go_simp
      exact hK _ _ (Ext.alloc (Below.refl _ _) _) ⟨_, rfl, heap_alloc_new W _⟩
    refine And.intro ?_ ?_
    · intro a W hR hf ho K hK
      replace hR := ext_drew hR
      have F : (fun v W => ∃ b, v = .slice (some ⟨b, 0, none⟩) 5 5 ∧ W.heap[b]? = some (.cells #[.bool (inB x.heap 1 64), .bool (inB x.full 1 4096), .bool (inB x.comps.length 1 4), .bool (decide ((x.links.length : Int) ≤ 16)), .bool (decide ((x.shares.length : Int) ≤ 4))] 4)) (a.tmps[21]?.getD undef) W ∧ a.tmps[12]?.getD undef = _ ∧ True := hf
      obtain ⟨f18, f9, -⟩ := F
      clear ho hf
      obtain ⟨b5, hv5, hb5⟩ := f18
      go_simp
      refine (must5 _ _ _ _ _ _ _ hb5).mono ?_; rintro e W1 ⟨he, rfl⟩; rw [HG0.out] at he; subst he; exact hK _ _ (Below.refl _ _) (Eq.refl _)
    refine And.intro ?_ ?_
    · intro a W hR hf ho K hK
      replace hR := ext_drew hR
      have F : a.tmps[22]?.getD undef = _ ∧ a.tmps[22]?.getD undef = _ ∧ True := hf
      obtain ⟨f19, -, -⟩ := F
      clear ho hf
      go_simp
      exact hK _ _ (Below.refl _ _) (Eq.refl _)
    refine And.intro ?_ ?_
    · intro a W hR hf ho K hK
      replace hR := ext_drew hR
      have G : a.tmps[1]?.getD undef = _ ∧ True := ho
      obtain ⟨g1, -⟩ := G
      have F : a.tmps[23]?.getD undef = _ ∧ True := hf
      obtain ⟨f20, -⟩ := F
      clear ho hf
      go_simp
      exact hK _ _ (Below.refl _ _) (Eq.refl _)
    refine And.intro ?_ ?_
    · intro a W hR hf ho K hK
      replace hR := ext_drew hR
      have F : a.tmps[24]?.getD undef = _ ∧ a.tmps[23]?.getD undef = _ ∧ True := hf
      obtain ⟨f21, f20, -⟩ := F
      clear ho hf
      obtain ⟨z0, z1, z2, z3, z4, z5⟩ := lie6 (heap_alloc_new w _) hR
      go_simp
      exact hK _ _ (Below.refl _ _) (Eq.refl _)
    refine And.intro ?_ ?_
    · intro a W hR hf ho K hK
      replace hR := ext_drew hR
      have F : a.tmps[25]?.getD undef = _ ∧ a.tmps[23]?.getD undef = _ ∧ a.tmps[23]?.getD undef = _ ∧ True := hf
      obtain ⟨f22, f20, -, -⟩ := F
      clear ho hf
      go_simp
      refine (allComp0 x.Ac x.cc x.comps 51 (fun c => compOk c.d) W (h.comps.ext ((Ext.alloc (Below.refl _ w) _).then hR)) hlc (fun args w => by kernel_rfl) (fun W c hc hW => comp_any c W (hcode c hc))).mono ?_; rintro e W1 ⟨he, hb⟩; rw [HG1.out] at he; subst he; exact hK _ _ hb (Eq.refl _)
    refine And.intro ?_ ?_
    · intro a W hR hf ho K hK
      replace hR := ext_drew hR
      have F : a.tmps[23]?.getD undef = _ ∧ a.tmps[26]?.getD undef = _ ∧ True := hf
      obtain ⟨f20, f23, -⟩ := F
      clear ho hf
      go_simp
      exact hK _ _ (Below.refl _ _) (Eq.refl _)
    refine And.intro ?_ ?_
    · intro a W hR hf ho K hK
      replace hR := ext_drew hR
      have F : a.tmps[27]?.getD undef = _ ∧ a.tmps[26]?.getD undef = _ ∧ True := hf
      obtain ⟨f24, f23, -⟩ := F
      clear ho hf
      go_simp
      exact hK _ _ (Below.refl _ _) (Eq.refl _)
    refine And.intro ?_ ?_
    · intro a W hR hf ho K hK
      replace hR := ext_drew hR
      have G : a.tmps[1]?.getD undef = _ ∧ True := ho
      obtain ⟨g1, -⟩ := G
      have F : a.tmps[28]?.getD undef = _ ∧ True := hf
      obtain ⟨f25, -⟩ := F
      clear ho hf
      go_simp
      exact hK _ _ (Below.refl _ _) (Eq.refl _)
    refine And.intro ?_ ?_
    · intro a W hR hf ho K hK
      replace hR := ext_drew hR
      have F : a.tmps[29]?.getD undef = _ ∧ a.tmps[28]?.getD undef = _ ∧ True := hf
      obtain ⟨f26, f25, -⟩ := F
      clear ho hf
      obtain ⟨z0, z1, z2, z3, z4, z5⟩ := lie6 (heap_alloc_new w _) hR
      go_simp
      exact hK _ _ (Below.refl _ _) (Eq.refl _)
    refine And.intro ?_ ?_
    · intro a W hR hf ho K hK
      replace hR := ext_drew hR
      have G : a.tmps[1]?.getD undef = _ ∧ True := ho
      obtain ⟨g1, -⟩ := G
      have F : a.tmps[28]?.getD undef = _ ∧ True := hf
      obtain ⟨f25, -⟩ := F
      clear ho hf
      go_simp
      exact hK _ _ (Below.refl _ _) (Eq.refl _)
    refine And.intro ?_ ?_
    · intro a W hR hf ho K hK
      replace hR := ext_drew hR
      have F : a.tmps[30]?.getD undef = _ ∧ a.tmps[31]?.getD undef = _ ∧ a.tmps[28]?.getD undef = _ ∧ a.tmps[28]?.getD undef = _ ∧ True := hf
      obtain ⟨f27, f28, f25, -, -⟩ := F
      clear ho hf
      go_simp
      refine (allLink1 x.Al x.cl x.links 53 (.pointer (some ⟨w.heap.size, 0, none⟩)) (linkOk x.d.comps) W (h.links.ext ((Ext.alloc (Below.refl _ w) _).then hR)) hll (fun args w => by kernel_rfl) (fun W' l hl hW => formL_any w.heap.size x l W' (h.ext ((Ext.alloc (Below.refl _ w) _).then (hR.then hW))) (new_at rfl (hR.then hW)))).mono ?_; rintro e W1 ⟨he, hb⟩; rw [HG2.out] at he; subst he; exact hK _ _ hb (Eq.refl _)
    refine And.intro ?_ ?_
    · intro a W hR hf ho K hK
      replace hR := ext_drew hR
      have F : a.tmps[28]?.getD undef = _ ∧ a.tmps[32]?.getD undef = _ ∧ True := hf
      obtain ⟨f25, f29, -⟩ := F
      clear ho hf
      go_simp
      exact hK _ _ (Below.refl _ _) (Eq.refl _)
    refine And.intro ?_ ?_
    · intro a W hR hf ho K hK
      replace hR := ext_drew hR
      have F : a.tmps[33]?.getD undef = _ ∧ a.tmps[32]?.getD undef = _ ∧ True := hf
      obtain ⟨f30, f29, -⟩ := F
      clear ho hf
      go_simp
      exact hK _ _ (Below.refl _ _) (Eq.refl _)
    refine And.intro ?_ ?_
    · intro a W hR hf ho K hK
      replace hR := ext_drew hR
      have G : a.tmps[1]?.getD undef = _ ∧ True := ho
      obtain ⟨g1, -⟩ := G
      have F : a.tmps[34]?.getD undef = _ ∧ True := hf
      obtain ⟨f31, -⟩ := F
      clear ho hf
      go_simp
      exact hK _ _ (Below.refl _ _) (Eq.refl _)
    refine And.intro ?_ ?_
    · intro a W hR hf ho K hK
      replace hR := ext_drew hR
      have F : a.tmps[35]?.getD undef = _ ∧ a.tmps[34]?.getD undef = _ ∧ True := hf
      obtain ⟨f32, f31, -⟩ := F
      clear ho hf
      obtain ⟨z0, z1, z2, z3, z4, z5⟩ := lie6 (heap_alloc_new w _) hR
      go_simp
      exact hK _ _ (Below.refl _ _) (Eq.refl _)
    refine And.intro ?_ ?_
    · intro a W hR hf ho K hK
      replace hR := ext_drew hR
      have F : a.tmps[36]?.getD undef = _ ∧ a.tmps[34]?.getD undef = _ ∧ a.tmps[34]?.getD undef = _ ∧ True := hf
      obtain ⟨f33, f31, -, -⟩ := F
      clear ho hf
      go_simp
      refine (many_any x.Al x.cl x.links W (h.links.ext ((Ext.alloc (Below.refl _ w) _).then hR)) hfr hll).mono ?_; rintro e W1 ⟨he, hb⟩; rw [HG3.out] at he; subst he; exact hK _ _ hb (Eq.refl _)
    refine And.intro ?_ ?_
    · intro a W hR hf ho K hK
      replace hR := ext_drew hR
      have F : a.tmps[34]?.getD undef = _ ∧ a.tmps[37]?.getD undef = _ ∧ True := hf
      obtain ⟨f31, f34, -⟩ := F
      clear ho hf
      go_simp
      exact hK _ _ (Below.refl _ _) (Eq.refl _)
    refine And.intro ?_ ?_
    · intro a W hR hf ho K hK
      replace hR := ext_drew hR
      have F : a.tmps[38]?.getD undef = _ ∧ a.tmps[37]?.getD undef = _ ∧ True := hf
      obtain ⟨f35, f34, -⟩ := F
      clear ho hf
      go_simp
      exact hK _ _ (Below.refl _ _) (Eq.refl _)
    refine And.intro ?_ ?_
    · intro a W hR hf ho K hK
      replace hR := ext_drew hR
      have G : a.tmps[1]?.getD undef = _ ∧ True := ho
      obtain ⟨g1, -⟩ := G
      have F : a.tmps[39]?.getD undef = _ ∧ True := hf
      obtain ⟨f36, -⟩ := F
      clear ho hf
      go_simp
      exact hK _ _ (Below.refl _ _) (Eq.refl _)
    refine And.intro ?_ ?_
    · intro a W hR hf ho K hK
      replace hR := ext_drew hR
      have F : a.tmps[40]?.getD undef = _ ∧ a.tmps[39]?.getD undef = _ ∧ True := hf
      obtain ⟨f37, f36, -⟩ := F
      clear ho hf
      obtain ⟨z0, z1, z2, z3, z4, z5⟩ := lie6 (heap_alloc_new w _) hR
      go_simp
      exact hK _ _ (Below.refl _ _) (Eq.refl _)
    refine And.intro ?_ ?_
    · intro a W hR hf ho K hK
      replace hR := ext_drew hR
      have G : a.tmps[1]?.getD undef = _ ∧ True := ho
      obtain ⟨g1, -⟩ := G
      have F : a.tmps[39]?.getD undef = _ ∧ True := hf
      obtain ⟨f36, -⟩ := F
      clear ho hf
      go_simp
      exact hK _ _ (Below.refl _ _) (Eq.refl _)
    refine And.intro ?_ ?_
    · intro a W hR hf ho K hK
      replace hR := ext_drew hR
      have F : a.tmps[41]?.getD undef = _ ∧ a.tmps[42]?.getD undef = _ ∧ a.tmps[39]?.getD undef = _ ∧ a.tmps[39]?.getD undef = _ ∧ True := hf
      obtain ⟨f38, f39, f36, -, -⟩ := F
      clear ho hf
      go_simp
      exact hK _ _ (Below.refl _ _) (Eq.refl _)
    refine And.intro ?_ ?_
    · intro a W hR hf ho K hK
      replace hR := ext_drew hR
      have F : a.tmps[39]?.getD undef = _ ∧ a.tmps[43]?.getD undef = _ ∧ True := hf
      obtain ⟨f36, f40, -⟩ := F
      clear ho hf
      go_simp
      exact hK _ _ (Below.refl _ _) (Eq.refl _)
    refine And.intro ?_ ?_
    · intro a W hR hf ho K hK
      replace hR := ext_drew hR
      have F : a.tmps[44]?.getD undef = _ ∧ a.tmps[43]?.getD undef = _ ∧ a.tmps[3]?.getD undef = _ ∧ a.tmps[4]?.getD undef = _ ∧ a.tmps[5]?.getD undef = _ ∧ a.tmps[6]?.getD undef = _ ∧ a.tmps[7]?.getD undef = _ ∧ a.tmps[8]?.getD undef = _ ∧ a.tmps[9]?.getD undef = _ ∧ a.tmps[10]?.getD undef = _ ∧ a.tmps[11]?.getD undef = _ ∧ a.tmps[12]?.getD undef = _ ∧ a.tmps[13]?.getD undef = _ ∧ a.tmps[14]?.getD undef = _ ∧ a.tmps[15]?.getD undef = _ ∧ a.tmps[16]?.getD undef = _ ∧ a.tmps[17]?.getD undef = _ ∧ a.tmps[18]?.getD undef = _ ∧ a.tmps[19]?.getD undef = _ ∧ a.tmps[20]?.getD undef = _ ∧ (fun v W => ∃ b, v = .slice (some ⟨b, 0, none⟩) 5 5 ∧ W.heap[b]? = some (.cells #[.bool (inB x.heap 1 64), .bool (inB x.full 1 4096), .bool (inB x.comps.length 1 4), .bool (decide ((x.links.length : Int) ≤ 16)), .bool (decide ((x.shares.length : Int) ≤ 4))] 4)) (a.tmps[21]?.getD undef) W ∧ a.tmps[22]?.getD undef = _ ∧ a.tmps[23]?.getD undef = _ ∧ a.tmps[24]?.getD undef = _ ∧ a.tmps[25]?.getD undef = _ ∧ a.tmps[26]?.getD undef = _ ∧ a.tmps[27]?.getD undef = _ ∧ a.tmps[28]?.getD undef = _ ∧ a.tmps[29]?.getD undef = _ ∧ a.tmps[30]?.getD undef = _ ∧ a.tmps[31]?.getD undef = _ ∧ a.tmps[32]?.getD undef = _ ∧ a.tmps[33]?.getD undef = _ ∧ a.tmps[34]?.getD undef = _ ∧ a.tmps[35]?.getD undef = _ ∧ a.tmps[36]?.getD undef = _ ∧ a.tmps[37]?.getD undef = _ ∧ a.tmps[38]?.getD undef = _ ∧ a.tmps[39]?.getD undef = _ ∧ a.tmps[40]?.getD undef = _ ∧ a.tmps[41]?.getD undef = _ ∧ a.tmps[42]?.getD undef = _ ∧ a.tmps[43]?.getD undef = _ ∧ a.tmps[44]?.getD undef = _ ∧ True := hf
      obtain ⟨f41, f40, f0, f1, f2, f3, f4, f5, f6, f7, f8, f9, f10, f11, f12, f13, f14, f15, f16, f17, f18, f19, f20, f21, f22, f23, f24, f25, f26, f27, f28, f29, f30, f31, f32, f33, f34, f35, f36, f37, f38, f39, -, -, -⟩ := F
      clear ho hf
      go_simp
      exact hK _ _ (Below.refl _ _) (Eq.refl _)
    exact trivial
  case stab =>
    refine And.intro is_stable ?_
    refine And.intro is_stable ?_
    refine And.intro is_stable ?_
    refine And.intro is_stable ?_
    refine And.intro is_stable ?_
    refine And.intro is_stable ?_
    refine And.intro is_stable ?_
    refine And.intro is_stable ?_
    refine And.intro is_stable ?_
    refine And.intro is_stable ?_
    refine And.intro is_stable ?_
    refine And.intro is_stable ?_
    refine And.intro is_stable ?_
    refine And.intro is_stable ?_
    refine And.intro is_stable ?_
    refine And.intro is_stable ?_
    refine And.intro is_stable ?_
    refine And.intro is_stable ?_
    refine And.intro (fun v w w' hh he => hh.elim fun b hb => ⟨b, hb.1, (he.block b (Array.getElem?_eq_some_iff.1 hb.2).1).trans hb.2⟩) ?_
    refine And.intro is_stable ?_
    refine And.intro is_stable ?_
    refine And.intro is_stable ?_
    refine And.intro is_stable ?_
    refine And.intro is_stable ?_
    refine And.intro is_stable ?_
    refine And.intro is_stable ?_
    refine And.intro is_stable ?_
    refine And.intro is_stable ?_
    refine And.intro is_stable ?_
    refine And.intro is_stable ?_
    refine And.intro is_stable ?_
    refine And.intro is_stable ?_
    refine And.intro is_stable ?_
    refine And.intro is_stable ?_
    refine And.intro is_stable ?_
    refine And.intro is_stable ?_
    refine And.intro is_stable ?_
    refine And.intro is_stable ?_
    refine And.intro is_stable ?_
    refine And.intro is_stable ?_
    refine And.intro is_stable ?_
    refine And.intro is_stable ?_
    refine And.intro is_stable ?_
    exact trivial
  case ends =>
    intro vals W hR hall
    replace hR := ext_drew hR
    have e2 : vals 2 = _ := hall 42 (by decide)
    clear hall
    simp only [fill, List.setIfInBounds_toArray, List.set_cons_succ, List.set_cons_zero, e2]
    go_wp2_with fail
    go_ret
    exact ⟨rfl, (Ext.alloc (Below.refl _ w) _).then hR⟩
set_option maxHeartbeats 4000000 in
set_option maxRecDepth 20000 in
theorem form4_any (x : ImgM) (w : World) (h : ImgAt w x) (HG0 : Hid ((inB x.heap 1 64 && inB x.full 1 4096 && inB x.comps.length 1 4 && decide ((x.links.length : Int) ≤ 16) && decide ((x.shares.length : Int) ≤ 4)) = true)) (HG1 : Hid ((x.comps.all fun c => compOk c.d) = true)) (HG2 : Hid (x.links.all (linkOk x.d.comps) = true)) (HG3 : Hid (manyOk x.links = true)) (hfr : ∀ l ∈ x.links, 0 ≤ l.fr ∧ l.fr < 4) (hn4 : x.comps.length = 0 ∨ x.comps.length = 1 ∨ x.comps.length = 2 ∨ x.comps.length = 3 ∨ x.comps.length = 4) :
    Calls Try.prog 34 #[x.val] w fun e w' => e = .returned (.bool (x.shares.all (shareOk x.comps.length))) ∧ Ext w w' := by
  have hlc : x.comps.length ≤ 140737488351232 := h.lens.2.1
  have hll : x.links.length ≤ 140737488351232 := h.lens.2.2.2.1
  have hls : x.shares.length ≤ 140737488351232 := h.lens.2.2.2.2.2
  have hcode : ∀ c ∈ x.comps, c.code.length ≤ 140737488351232 := fun c hc => (h.codes c hc).2.2.2.1
  go_enter Try.func34, Try.ntmps34
  go_wp2_with fail
  refine wp_region_obl Ext [3, 4, 5, 6, 7, 8, 9, 10, 11, 12, 13, 14, 15, 16, 17, 18, 19, 20, 21, 22, 23, 24, 25, 26, 27, 28, 29, 30, 31, 32, 33, 34, 35, 36, 37, 38, 39, 40, 41, 42, 43, 44, 2] (by kernel_rfl) (fun _ => Below.refl _ _) (fun _ _ _ => Ext.then) (by kernel_rfl) (by kernel_rfl) ?_
  apply ex_is; apply Exists.intro
  apply ex_is; apply Exists.intro
  apply ex_is; apply Exists.intro
  apply ex_is; apply Exists.intro
  apply ex_is; apply Exists.intro
  apply ex_is; apply Exists.intro
  apply ex_is; apply Exists.intro
  apply ex_is; apply Exists.intro
  apply ex_is; apply Exists.intro
  apply ex_is; apply Exists.intro
  apply ex_is; apply Exists.intro
  apply ex_is; apply Exists.intro
  apply ex_is; apply Exists.intro
  apply ex_is; apply Exists.intro
  apply ex_is; apply Exists.intro
  apply ex_is; apply Exists.intro
  apply ex_is; apply Exists.intro
  apply ex_is; apply Exists.intro
  refine ex_phi (fun v W => ∃ b, v = .slice (some ⟨b, 0, none⟩) 5 5 ∧ W.heap[b]? = some (.cells #[.bool (inB x.heap 1 64), .bool (inB x.full 1 4096), .bool (inB x.comps.length 1 4), .bool (decide ((x.links.length : Int) ≤ 16)), .bool (decide ((x.shares.length : Int) ≤ 4))] 4)) ?_
  apply ex_is; apply Exists.intro
  apply ex_is; apply Exists.intro
  apply ex_is; apply Exists.intro
  apply ex_is; apply Exists.intro
  apply ex_is; apply Exists.intro
  apply ex_is; apply Exists.intro
  apply ex_is; apply Exists.intro
  apply ex_is; apply Exists.intro
  apply ex_is; apply Exists.intro
  apply ex_is; apply Exists.intro
  apply ex_is; apply Exists.intro
  apply ex_is; apply Exists.intro
  apply ex_is; apply Exists.intro
  apply ex_is; apply Exists.intro
  apply ex_is; apply Exists.intro
  apply ex_is; apply Exists.intro
  apply ex_is; apply Exists.intro
  apply ex_is; apply Exists.intro
  apply ex_is; apply Exists.intro
  apply ex_is; apply Exists.intro
  apply ex_is; apply Exists.intro
  apply ex_is; apply Exists.intro
  apply ex_is; apply Exists.intro
  apply ex_is; apply Exists.intro
  refine ⟨[], ⟨?steps, ?stab, ?ends⟩⟩
  case steps =>
    refine And.intro ?_ ?_
    · intro a W hR hf ho K hK
      replace hR := ext_drew hR
      have G : a.tmps[1]?.getD undef = _ ∧ True := ho
      obtain ⟨g1, -⟩ := G
      clear ho hf
      go_simp
      exact hK _ _ (Below.refl _ _) (Eq.refl _)
    refine And.intro ?_ ?_
    · intro a W hR hf ho K hK
      replace hR := ext_drew hR
      have F : a.tmps[3]?.getD undef = _ ∧ True := hf
      obtain ⟨f0, -⟩ := F
      clear ho hf
      obtain ⟨z0, z1, z2, z3, z4, z5⟩ := lie6 (heap_alloc_new w _) hR
      go_simp
      exact hK _ _ (Below.refl _ _) (Eq.refl _)
    refine And.intro ?_ ?_
    · intro a W hR hf ho K hK
      replace hR := ext_drew hR
      have F : a.tmps[4]?.getD undef = _ ∧ True := hf
      obtain ⟨f1, -⟩ := F
      clear ho hf
      go_simp
      refine (within_any _ _ _ _).mono ?_; rintro e W1 ⟨rfl, rfl⟩; exact hK _ _ (Below.refl _ _) (Eq.refl _)
    refine And.intro ?_ ?_
    · intro a W hR hf ho K hK
      replace hR := ext_drew hR
      have G : a.tmps[1]?.getD undef = _ ∧ True := ho
      obtain ⟨g1, -⟩ := G
      clear ho hf
      go_simp
      exact hK _ _ (Below.refl _ _) (Eq.refl _)
    refine And.intro ?_ ?_
    · intro a W hR hf ho K hK
      replace hR := ext_drew hR
      have F : a.tmps[6]?.getD undef = _ ∧ True := hf
      obtain ⟨f3, -⟩ := F
      clear ho hf
      obtain ⟨z0, z1, z2, z3, z4, z5⟩ := lie6 (heap_alloc_new w _) hR
      go_simp
      exact hK _ _ (Below.refl _ _) (Eq.refl _)
    refine And.intro ?_ ?_
    · intro a W hR hf ho K hK
      replace hR := ext_drew hR
      have F : a.tmps[7]?.getD undef = _ ∧ a.tmps[5]?.getD undef = _ ∧ True := hf
      obtain ⟨f4, f2, -⟩ := F
      clear ho hf
      go_simp
      refine (within_any _ _ _ _).mono ?_; rintro e W1 ⟨rfl, rfl⟩; exact hK _ _ (Below.refl _ _) (Eq.refl _)
    refine And.intro ?_ ?_
    · intro a W hR hf ho K hK
      replace hR := ext_drew hR
      have G : a.tmps[1]?.getD undef = _ ∧ True := ho
      obtain ⟨g1, -⟩ := G
      clear ho hf
      go_simp
      exact hK _ _ (Below.refl _ _) (Eq.refl _)
    refine And.intro ?_ ?_
    · intro a W hR hf ho K hK
      replace hR := ext_drew hR
      have F : a.tmps[9]?.getD undef = _ ∧ True := hf
      obtain ⟨f6, -⟩ := F
      clear ho hf
      obtain ⟨z0, z1, z2, z3, z4, z5⟩ := lie6 (heap_alloc_new w _) hR
      go_simp
      exact hK _ _ (Below.refl _ _) (Eq.refl _)
    refine And.intro ?_ ?_
    · intro a W hR hf ho K hK
      replace hR := ext_drew hR
      have F : a.tmps[10]?.getD undef = _ ∧ True := hf
      obtain ⟨f7, -⟩ := F
      clear ho hf
      go_simp
      exact hK _ _ (Below.refl _ _) (Eq.refl _)
    refine And.intro ?_ ?_
    · intro a W hR hf ho K hK
      replace hR := ext_drew hR
      have F : a.tmps[11]?.getD undef = _ ∧ a.tmps[8]?.getD undef = _ ∧ True := hf
      obtain ⟨f8, f5, -⟩ := F
      clear ho hf
      go_simp
      refine (within_any _ _ _ _).mono ?_; rintro e W1 ⟨rfl, rfl⟩; exact hK _ _ (Below.refl _ _) (Eq.refl _)
    refine And.intro ?_ ?_
    · intro a W hR hf ho K hK
      replace hR := ext_drew hR
      have G : a.tmps[1]?.getD undef = _ ∧ True := ho
      obtain ⟨g1, -⟩ := G
      clear ho hf
      go_simp
      exact hK _ _ (Below.refl _ _) (Eq.refl _)
    refine And.intro ?_ ?_
    · intro a W hR hf ho K hK
      replace hR := ext_drew hR
      have F : a.tmps[13]?.getD undef = _ ∧ True := hf
      obtain ⟨f10, -⟩ := F
      clear ho hf
      obtain ⟨z0, z1, z2, z3, z4, z5⟩ := lie6 (heap_alloc_new w _) hR
      go_simp
      exact hK _ _ (Below.refl _ _) (Eq.refl _)
    refine And.intro ?_ ?_
    · intro a W hR hf ho K hK
      replace hR := ext_drew hR
      have F : a.tmps[14]?.getD undef = _ ∧ True := hf
      obtain ⟨f11, -⟩ := F
      clear ho hf
      go_simp
      exact hK _ _ (Below.refl _ _) (Eq.refl _)
    refine And.intro ?_ ?_
    · intro a W hR hf ho K hK
      replace hR := ext_drew hR
      have F : a.tmps[15]?.getD undef = _ ∧ True := hf
      obtain ⟨f12, -⟩ := F
      clear ho hf
      go_simp
      exact hK _ _ (Below.refl _ _) (Eq.refl _)
    refine And.intro ?_ ?_
    · intro a W hR hf ho K hK
      replace hR := ext_drew hR
      have G : a.tmps[1]?.getD undef = _ ∧ True := ho
      obtain ⟨g1, -⟩ := G
      clear ho hf
      go_simp
      exact hK _ _ (Below.refl _ _) (Eq.refl _)
    refine And.intro ?_ ?_
    · intro a W hR hf ho K hK
      replace hR := ext_drew hR
      have F : a.tmps[17]?.getD undef = _ ∧ True := hf
      obtain ⟨f14, -⟩ := F
      clear ho hf
      obtain ⟨z0, z1, z2, z3, z4, z5⟩ := lie6 (heap_alloc_new w _) hR
      go_simp
      exact hK _ _ (Below.refl _ _) (Eq.refl _)
    refine And.intro ?_ ?_
    · intro a W hR hf ho K hK
      replace hR := ext_drew hR
      have F : a.tmps[18]?.getD undef = _ ∧ True := hf
      obtain ⟨f15, -⟩ := F
      clear ho hf
      go_simp
      exact hK _ _ (Below.refl _ _) (Eq.refl _)
    refine And.intro ?_ ?_
    · intro a W hR hf ho K hK
      replace hR := ext_drew hR
      have F : a.tmps[19]?.getD undef = _ ∧ True := hf
      obtain ⟨f16, -⟩ := F
      clear ho hf
      go_simp
      exact hK _ _ (Below.refl _ _) (Eq.refl _)
    refine And.intro ?_ ?_
    · intro a W hR hf ho K hK
      replace hR := ext_drew hR
      have F : a.tmps[5]?.getD undef = _ ∧ a.tmps[8]?.getD undef = _ ∧ a.tmps[12]?.getD undef = _ ∧ a.tmps[16]?.getD undef = _ ∧ a.tmps[20]?.getD undef = _ ∧ True := hf
      obtain ⟨f2, f5, f9, f13, f17, -⟩ := F
      clear ho hf
      go_simp
      exact hK _ _ (Ext.alloc (Below.refl _ _) _) ⟨_, rfl, heap_alloc_new W _⟩
    refine And.intro ?_ ?_
    · intro a W hR hf ho K hK
      replace hR := ext_drew hR
      have F : (fun v W => ∃ b, v = .slice (some ⟨b, 0, none⟩) 5 5 ∧ W.heap[b]? = some (.cells #[.bool (inB x.heap 1 64), .bool (inB x.full 1 4096), .bool (inB x.comps.length 1 4), .bool (decide ((x.links.length : Int) ≤ 16)), .bool (decide ((x.shares.length : Int) ≤ 4))] 4)) (a.tmps[21]?.getD undef) W ∧ a.tmps[12]?.getD undef = _ ∧ True := hf
      obtain ⟨f18, f9, -⟩ := F
      clear ho hf
      obtain ⟨b5, hv5, hb5⟩ := f18
      go_simp
      refine (must5 _ _ _ _ _ _ _ hb5).mono ?_; rintro e W1 ⟨he, rfl⟩; rw [HG0.out] at he; subst he; exact hK _ _ (Below.refl _ _) (Eq.refl _)
    refine And.intro ?_ ?_
    · intro a W hR hf ho K hK
      replace hR := ext_drew hR
      have F : a.tmps[22]?.getD undef = _ ∧ a.tmps[22]?.getD undef = _ ∧ True := hf
      obtain ⟨f19, -, -⟩ := F
      clear ho hf
      go_simp
      exact hK _ _ (Below.refl _ _) (Eq.refl _)
    refine And.intro ?_ ?_
    · intro a W hR hf ho K hK
      replace hR := ext_drew hR
      have G : a.tmps[1]?.getD undef = _ ∧ True := ho
      obtain ⟨g1, -⟩ := G
      have F : a.tmps[23]?.getD undef = _ ∧ True := hf
      obtain ⟨f20, -⟩ := F
      clear ho hf
      go_simp
      exact hK _ _ (Below.refl _ _) (Eq.refl _)
    refine And.intro ?_ ?_
    · intro a W hR hf ho K hK
      replace hR := ext_drew hR
      have F : a.tmps[24]?.getD undef = _ ∧ a.tmps[23]?.getD undef = _ ∧ True := hf
      obtain ⟨f21, f20, -⟩ := F
      clear ho hf
      obtain ⟨z0, z1, z2, z3, z4, z5⟩ := lie6 (heap_alloc_new w _) hR
      go_simp
      exact hK _ _ (Below.refl _ _) (Eq.refl _)
    refine And.intro ?_ ?_
    · intro a W hR hf ho K hK
      replace hR := ext_drew hR
      have F : a.tmps[25]?.getD undef = _ ∧ a.tmps[23]?.getD undef = _ ∧ a.tmps[23]?.getD undef = _ ∧ True := hf
      obtain ⟨f22, f20, -, -⟩ := F
      clear ho hf
      go_simp
      refine (allComp0 x.Ac x.cc x.comps 51 (fun c => compOk c.d) W (h.comps.ext ((Ext.alloc (Below.refl _ w) _).then hR)) hlc (fun args w => by kernel_rfl) (fun W c hc hW => comp_any c W (hcode c hc))).mono ?_; rintro e W1 ⟨he, hb⟩; rw [HG1.out] at he; subst he; exact hK _ _ hb (Eq.refl _)
    refine And.intro ?_ ?_
    · intro a W hR hf ho K hK
      replace hR := ext_drew hR
      have F : a.tmps[23]?.getD undef = _ ∧ a.tmps[26]?.getD undef = _ ∧ True := hf
      obtain ⟨f20, f23, -⟩ := F
      clear ho hf
      go_simp
      exact hK _ _ (Below.refl _ _) (Eq.refl _)
    refine And.intro ?_ ?_
    · intro a W hR hf ho K hK
      replace hR := ext_drew hR
      have F : a.tmps[27]?.getD undef = _ ∧ a.tmps[26]?.getD undef = _ ∧ True := hf
      obtain ⟨f24, f23, -⟩ := F
      clear ho hf
      go_simp
      exact hK _ _ (Below.refl _ _) (Eq.refl _)
    refine And.intro ?_ ?_
    · intro a W hR hf ho K hK
      replace hR := ext_drew hR
      have G : a.tmps[1]?.getD undef = _ ∧ True := ho
      obtain ⟨g1, -⟩ := G
      have F : a.tmps[28]?.getD undef = _ ∧ True := hf
      obtain ⟨f25, -⟩ := F
      clear ho hf
      go_simp
      exact hK _ _ (Below.refl _ _) (Eq.refl _)
    refine And.intro ?_ ?_
    · intro a W hR hf ho K hK
      replace hR := ext_drew hR
      have F : a.tmps[29]?.getD undef = _ ∧ a.tmps[28]?.getD undef = _ ∧ True := hf
      obtain ⟨f26, f25, -⟩ := F
      clear ho hf
      obtain ⟨z0, z1, z2, z3, z4, z5⟩ := lie6 (heap_alloc_new w _) hR
      go_simp
      exact hK _ _ (Below.refl _ _) (Eq.refl _)
    refine And.intro ?_ ?_
    · intro a W hR hf ho K hK
      replace hR := ext_drew hR
      have G : a.tmps[1]?.getD undef = _ ∧ True := ho
      obtain ⟨g1, -⟩ := G
      have F : a.tmps[28]?.getD undef = _ ∧ True := hf
      obtain ⟨f25, -⟩ := F
      clear ho hf
      go_simp
      exact hK _ _ (Below.refl _ _) (Eq.refl _)
    refine And.intro ?_ ?_
    · intro a W hR hf ho K hK
      replace hR := ext_drew hR
      have F : a.tmps[30]?.getD undef = _ ∧ a.tmps[31]?.getD undef = _ ∧ a.tmps[28]?.getD undef = _ ∧ a.tmps[28]?.getD undef = _ ∧ True := hf
      obtain ⟨f27, f28, f25, -, -⟩ := F
      clear ho hf
      go_simp
      refine (allLink1 x.Al x.cl x.links 53 (.pointer (some ⟨w.heap.size, 0, none⟩)) (linkOk x.d.comps) W (h.links.ext ((Ext.alloc (Below.refl _ w) _).then hR)) hll (fun args w => by kernel_rfl) (fun W' l hl hW => formL_any w.heap.size x l W' (h.ext ((Ext.alloc (Below.refl _ w) _).then (hR.then hW))) (new_at rfl (hR.then hW)))).mono ?_; rintro e W1 ⟨he, hb⟩; rw [HG2.out] at he; subst he; exact hK _ _ hb (Eq.refl _)
    refine And.intro ?_ ?_
    · intro a W hR hf ho K hK
      replace hR := ext_drew hR
      have F : a.tmps[28]?.getD undef = _ ∧ a.tmps[32]?.getD undef = _ ∧ True := hf
      obtain ⟨f25, f29, -⟩ := F
      clear ho hf
      go_simp
      exact hK _ _ (Below.refl _ _) (Eq.refl _)
    refine And.intro ?_ ?_
    · intro a W hR hf ho K hK
      replace hR := ext_drew hR
      have F : a.tmps[33]?.getD undef = _ ∧ a.tmps[32]?.getD undef = _ ∧ True := hf
      obtain ⟨f30, f29, -⟩ := F
      clear ho hf
      go_simp
      exact hK _ _ (Below.refl _ _) (Eq.refl _)
    refine And.intro ?_ ?_
    · intro a W hR hf ho K hK
      replace hR := ext_drew hR
      have G : a.tmps[1]?.getD undef = _ ∧ True := ho
      obtain ⟨g1, -⟩ := G
      have F : a.tmps[34]?.getD undef = _ ∧ True := hf
      obtain ⟨f31, -⟩ := F
      clear ho hf
      go_simp
      exact hK _ _ (Below.refl _ _) (Eq.refl _)
    refine And.intro ?_ ?_
    · intro a W hR hf ho K hK
      replace hR := ext_drew hR
      have F : a.tmps[35]?.getD undef = _ ∧ a.tmps[34]?.getD undef = _ ∧ True := hf
      obtain ⟨f32, f31, -⟩ := F
      clear ho hf
      obtain ⟨z0, z1, z2, z3, z4, z5⟩ := lie6 (heap_alloc_new w _) hR
      go_simp
      exact hK _ _ (Below.refl _ _) (Eq.refl _)
    refine And.intro ?_ ?_
    · intro a W hR hf ho K hK
      replace hR := ext_drew hR
      have F : a.tmps[36]?.getD undef = _ ∧ a.tmps[34]?.getD undef = _ ∧ a.tmps[34]?.getD undef = _ ∧ True := hf
      obtain ⟨f33, f31, -, -⟩ := F
      clear ho hf
      go_simp
      refine (many_any x.Al x.cl x.links W (h.links.ext ((Ext.alloc (Below.refl _ w) _).then hR)) hfr hll).mono ?_; rintro e W1 ⟨he, hb⟩; rw [HG3.out] at he; subst he; exact hK _ _ hb (Eq.refl _)
    refine And.intro ?_ ?_
    · intro a W hR hf ho K hK
      replace hR := ext_drew hR
      have F : a.tmps[34]?.getD undef = _ ∧ a.tmps[37]?.getD undef = _ ∧ True := hf
      obtain ⟨f31, f34, -⟩ := F
      clear ho hf
      go_simp
      exact hK _ _ (Below.refl _ _) (Eq.refl _)
    refine And.intro ?_ ?_
    · intro a W hR hf ho K hK
      replace hR := ext_drew hR
      have F : a.tmps[38]?.getD undef = _ ∧ a.tmps[37]?.getD undef = _ ∧ True := hf
      obtain ⟨f35, f34, -⟩ := F
      clear ho hf
      go_simp
      exact hK _ _ (Below.refl _ _) (Eq.refl _)
    refine And.intro ?_ ?_
    · intro a W hR hf ho K hK
      replace hR := ext_drew hR
      have G : a.tmps[1]?.getD undef = _ ∧ True := ho
      obtain ⟨g1, -⟩ := G
      have F : a.tmps[39]?.getD undef = _ ∧ True := hf
      obtain ⟨f36, -⟩ := F
      clear ho hf
      go_simp
      exact hK _ _ (Below.refl _ _) (Eq.refl _)
    refine And.intro ?_ ?_
    · intro a W hR hf ho K hK
      replace hR := ext_drew hR
      have F : a.tmps[40]?.getD undef = _ ∧ a.tmps[39]?.getD undef = _ ∧ True := hf
      obtain ⟨f37, f36, -⟩ := F
      clear ho hf
      obtain ⟨z0, z1, z2, z3, z4, z5⟩ := lie6 (heap_alloc_new w _) hR
      go_simp
      exact hK _ _ (Below.refl _ _) (Eq.refl _)
    refine And.intro ?_ ?_
    · intro a W hR hf ho K hK
      replace hR := ext_drew hR
      have G : a.tmps[1]?.getD undef = _ ∧ True := ho
      obtain ⟨g1, -⟩ := G
      have F : a.tmps[39]?.getD undef = _ ∧ True := hf
      obtain ⟨f36, -⟩ := F
      clear ho hf
      go_simp
      exact hK _ _ (Below.refl _ _) (Eq.refl _)
    refine And.intro ?_ ?_
    · intro a W hR hf ho K hK
      replace hR := ext_drew hR
      have F : a.tmps[41]?.getD undef = _ ∧ a.tmps[42]?.getD undef = _ ∧ a.tmps[39]?.getD undef = _ ∧ a.tmps[39]?.getD undef = _ ∧ True := hf
      obtain ⟨f38, f39, f36, -, -⟩ := F
      clear ho hf
      go_simp
      refine (allShare1 x.As x.cs x.shares 57 (.pointer (some ⟨w.heap.size, 0, none⟩)) (shareOk x.comps.length) W (h.shares.ext ((Ext.alloc (Below.refl _ w) _).then hR)) hls (fun args w => by kernel_rfl) (fun W' s hs hW => formS_any w.heap.size x s W' hn4 (new_at rfl (hR.then hW)))).mono ?_; rintro e W1 ⟨rfl, hb⟩; exact hK _ _ hb (Eq.refl _)
    refine And.intro ?_ ?_
    · intro a W hR hf ho K hK
      replace hR := ext_drew hR
      have F : a.tmps[39]?.getD undef = _ ∧ a.tmps[43]?.getD undef = _ ∧ True := hf
      obtain ⟨f36, f40, -⟩ := F
      clear ho hf
      go_simp
      exact hK _ _ (Below.refl _ _) (Eq.refl _)
    refine And.intro ?_ ?_
    · intro a W hR hf ho K hK
      replace hR := ext_drew hR
      have F : a.tmps[44]?.getD undef = _ ∧ a.tmps[43]?.getD undef = _ ∧ a.tmps[3]?.getD undef = _ ∧ a.tmps[4]?.getD undef = _ ∧ a.tmps[5]?.getD undef = _ ∧ a.tmps[6]?.getD undef = _ ∧ a.tmps[7]?.getD undef = _ ∧ a.tmps[8]?.getD undef = _ ∧ a.tmps[9]?.getD undef = _ ∧ a.tmps[10]?.getD undef = _ ∧ a.tmps[11]?.getD undef = _ ∧ a.tmps[12]?.getD undef = _ ∧ a.tmps[13]?.getD undef = _ ∧ a.tmps[14]?.getD undef = _ ∧ a.tmps[15]?.getD undef = _ ∧ a.tmps[16]?.getD undef = _ ∧ a.tmps[17]?.getD undef = _ ∧ a.tmps[18]?.getD undef = _ ∧ a.tmps[19]?.getD undef = _ ∧ a.tmps[20]?.getD undef = _ ∧ (fun v W => ∃ b, v = .slice (some ⟨b, 0, none⟩) 5 5 ∧ W.heap[b]? = some (.cells #[.bool (inB x.heap 1 64), .bool (inB x.full 1 4096), .bool (inB x.comps.length 1 4), .bool (decide ((x.links.length : Int) ≤ 16)), .bool (decide ((x.shares.length : Int) ≤ 4))] 4)) (a.tmps[21]?.getD undef) W ∧ a.tmps[22]?.getD undef = _ ∧ a.tmps[23]?.getD undef = _ ∧ a.tmps[24]?.getD undef = _ ∧ a.tmps[25]?.getD undef = _ ∧ a.tmps[26]?.getD undef = _ ∧ a.tmps[27]?.getD undef = _ ∧ a.tmps[28]?.getD undef = _ ∧ a.tmps[29]?.getD undef = _ ∧ a.tmps[30]?.getD undef = _ ∧ a.tmps[31]?.getD undef = _ ∧ a.tmps[32]?.getD undef = _ ∧ a.tmps[33]?.getD undef = _ ∧ a.tmps[34]?.getD undef = _ ∧ a.tmps[35]?.getD undef = _ ∧ a.tmps[36]?.getD undef = _ ∧ a.tmps[37]?.getD undef = _ ∧ a.tmps[38]?.getD undef = _ ∧ a.tmps[39]?.getD undef = _ ∧ a.tmps[40]?.getD undef = _ ∧ a.tmps[41]?.getD undef = _ ∧ a.tmps[42]?.getD undef = _ ∧ a.tmps[43]?.getD undef = _ ∧ a.tmps[44]?.getD undef = _ ∧ True := hf
      obtain ⟨f41, f40, f0, f1, f2, f3, f4, f5, f6, f7, f8, f9, f10, f11, f12, f13, f14, f15, f16, f17, f18, f19, f20, f21, f22, f23, f24, f25, f26, f27, f28, f29, f30, f31, f32, f33, f34, f35, f36, f37, f38, f39, -, -, -⟩ := F
      clear ho hf
      go_simp
      exact hK _ _ (Below.refl _ _) (Eq.refl _)
    exact trivial
  case stab =>
    refine And.intro is_stable ?_
    refine And.intro is_stable ?_
    refine And.intro is_stable ?_
    refine And.intro is_stable ?_
    refine And.intro is_stable ?_
    refine And.intro is_stable ?_
    refine And.intro is_stable ?_
    refine And.intro is_stable ?_
    refine And.intro is_stable ?_
    refine And.intro is_stable ?_
    refine And.intro is_stable ?_
    refine And.intro is_stable ?_
    refine And.intro is_stable ?_
    refine And.intro is_stable ?_
    refine And.intro is_stable ?_
    refine And.intro is_stable ?_
    refine And.intro is_stable ?_
    refine And.intro is_stable ?_
    refine And.intro (fun v w w' hh he => hh.elim fun b hb => ⟨b, hb.1, (he.block b (Array.getElem?_eq_some_iff.1 hb.2).1).trans hb.2⟩) ?_
    refine And.intro is_stable ?_
    refine And.intro is_stable ?_
    refine And.intro is_stable ?_
    refine And.intro is_stable ?_
    refine And.intro is_stable ?_
    refine And.intro is_stable ?_
    refine And.intro is_stable ?_
    refine And.intro is_stable ?_
    refine And.intro is_stable ?_
    refine And.intro is_stable ?_
    refine And.intro is_stable ?_
    refine And.intro is_stable ?_
    refine And.intro is_stable ?_
    refine And.intro is_stable ?_
    refine And.intro is_stable ?_
    refine And.intro is_stable ?_
    refine And.intro is_stable ?_
    refine And.intro is_stable ?_
    refine And.intro is_stable ?_
    refine And.intro is_stable ?_
    refine And.intro is_stable ?_
    refine And.intro is_stable ?_
    refine And.intro is_stable ?_
    refine And.intro is_stable ?_
    exact trivial
  case ends =>
    intro vals W hR hall
    replace hR := ext_drew hR
    have e2 : vals 2 = _ := hall 42 (by decide)
    clear hall
    simp only [fill, List.setIfInBounds_toArray, List.set_cons_succ, List.set_cons_zero, e2]
    go_wp2_with fail
    go_ret
    exact ⟨rfl, (Ext.alloc (Below.refl _ w) _).then hR⟩
end Go.Proofs.Ytgfnpcoigooblaa

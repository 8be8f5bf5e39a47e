
/- Package quar: Put. Printed by tool/gen_quarb.py. -/
import Derived.Test.YtpjlhkepdiajjaaQuarA
set_option linter.all false
namespace Go.Proofs.Ytpjlhkepdiajjaa
open Go.RowKit Go.Shelf
attribute [local go_sem] seen dstOf boolOf

def PutQ (p : Nat) (full bytes : Int) (base : Nat) (v : Value) (L : List HeldD) (h : HeldD) (w : World) (e : Ending) (w' : World) : Prop :=
  e = .returned (.bool true) ∧ ∃ v', QuarAt w' p full (bytes + h.n) base v' (L ++ [h]) ∧ Kept p v.ownBlock w w' ∧ (v'.ownBlock = v.ownBlock ∨ ∃ g, v'.ownBlock = some g ∧ w.heap.size ≤ g)
set_option maxHeartbeats 2000000 in
set_option maxRecDepth 40000 in
theorem put_any (p : Nat) (full bytes : Int) (base : Nat) (v : Value) (L : List HeldD) (h : HeldD) (w : World) (H : QuarAt w p full bytes base v L) (hL : L.length ≤ 100000) (hb0 : 0 ≤ bytes) (hb1 : bytes ≤ 1125899906842624) (hbase : base ≤ w.heap.size)
    (ha0 : 0 ≤ h.at') (ha1 : h.at' ≤ 16777216) (hn0 : 0 ≤ h.n) (hn1 : h.n ≤ 16777216) (ht0 : 0 ≤ h.time) (ht1 : h.time ≤ 2199023255552) (hl : ∀ x, L.getLast? = some x → x.time ≤ h.time) :
    Calls Try.prog 32 #[.pointer (some ⟨p, 0, none⟩), h.val] w (PutQ p full bytes base v L h w) := by
  obtain ⟨ci, hci, hci0, hci1, hci2⟩ := info_parts infoHeld
  obtain ⟨A, c, rfl, hc0, hc1, hA⟩ := H.row.arr
  obtain ⟨r, hr⟩ : ∃ r, r = Value.ownBlock (.slice A L.length c) := ⟨_, rfl⟩
  have hne : r ≠ some p := by rw [hr]; exact H.row.ne H.blk (by decide)
  obtain ⟨at', hN, time⟩ := h
  simp only at ha0 ha1 hn0 hn1 ht0 ht1 hl
  have hw : IntKind.i64.wrap (bytes + hN) = bytes + hN := IntWalk.i64_in _ (by omega)
  have hp := H.lt
  have HH := Lib.hid (And.intro H (And.intro hr (And.intro hA hne)))
  have W1 := Lib.hid (fun w => within_any at' w)
  have W2 := Lib.hid (fun w => within_any hN w)
  have ew1 : withinB at' = true := by simp [withinB, ha0, ha1]
  have ew2 : withinB hN = true := by simp [withinB, hn0, hn1]
  rw [ew1] at W1
  rw [ew2] at W2
  have hrow := H.blk
  have hmid := H.row
  generalize hn : L.length = n at hrow hmid hA hc0 hL hr
  have HM := Lib.hid (And.intro hrow (And.intro hmid (And.intro hbase hr)))
  have hlt5 := hmid.lt
  obtain ⟨x0, x1, x2⟩ := lie3 hrow (Below.refl _ w)
  clear H hr hA hne hmid
  by_cases h0 : L = []
  · obtain rfl : n = 0 := by rw [← hn, h0]; rfl
    clear h0 hl
    have HN := Lib.hid hn
    clear hn
    go_enter Try.func32, Try.ntmps32
    go_wp2_with fail
    refine wp_region_obl Ext [11, 12, 13, 14, 15, 16, 17, 18, 19, 20, 21, 22, 23, 24, 25, 26, 27, 28, 29, 30, 31, 32, 33, 34, 35, 36, 37, 38, 39, 40, 41, 42, 43, 44, 45, 46, 47, 48] (by kernel_rfl) (fun _ => Below.refl _ _) (fun _ _ _ => Ext.then) (by kernel_rfl) (by kernel_rfl) ?_
    apply ex_is; apply Exists.intro
    apply ex_is; apply Exists.intro
    apply ex_is; apply Exists.intro
    apply ex_is; apply Exists.intro
    apply ex_is; apply Exists.intro
    apply ex_is; apply Exists.intro
    apply ex_is; apply Exists.intro
    apply ex_is; apply Exists.intro
    apply ex_is; apply Exists.intro
    apply ex_is; apply Exists.intro
    apply ex_is; apply Exists.intro
    apply ex_is; apply Exists.intro
    apply ex_is; apply Exists.intro
    apply ex_is; apply Exists.intro
    apply ex_is; apply Exists.intro
    apply ex_is; apply Exists.intro
    apply ex_is; apply Exists.intro
    apply ex_is; apply Exists.intro
    apply ex_is; apply Exists.intro
    apply ex_is; apply Exists.intro
    apply ex_is; apply Exists.intro
    apply ex_is; apply Exists.intro
    apply ex_is; apply Exists.intro
    apply ex_is; apply Exists.intro
    apply ex_is; apply Exists.intro
    apply ex_is; apply Exists.intro
    apply ex_is; apply Exists.intro
    apply ex_is; apply Exists.intro
    apply ex_is; apply Exists.intro
    apply ex_is; apply Exists.intro
    apply ex_is; apply Exists.intro
    apply ex_is; apply Exists.intro
    apply ex_is; apply Exists.intro
    apply ex_is; apply Exists.intro
    apply ex_is; apply Exists.intro
    apply ex_is; apply Exists.intro
    apply ex_is; apply Exists.intro
    apply ex_is; apply Exists.intro
    refine ⟨[], ⟨?steps, ?stab, ?ends⟩⟩
    case steps =>
      refine And.intro ?_ ?_
      · intro a W hR hf ho K hK
        replace hR := ext_drew hR
        have G : a.tmps[3]?.getD undef = _ ∧ True := ho
        obtain ⟨g3, -⟩ := G
        clear ho hf
        go_simp
        exact hK _ _ (Below.refl _ _) (Eq.refl _)
      refine And.intro ?_ ?_
      · intro a W hR hf ho K hK
        replace hR := ext_drew hR
        have F : a.tmps[11]?.getD undef = _ ∧ True := hf
        obtain ⟨f0, -⟩ := F
        clear ho hf
        obtain ⟨y0, y1, y2⟩ := lie3 (heap_alloc_new w (.cells #[.int .i64 at', .int .i64 hN, .int .i64 time] 79)) hR; obtain ⟨z0, z1, z2⟩ := lie3 HM.out.1 ((Ext.alloc (Below.refl _ w) _).then hR)
        go_simp
        exact hK _ _ (Below.refl _ _) (Eq.refl _)
      refine And.intro ?_ ?_
      · intro a W hR hf ho K hK
        replace hR := ext_drew hR
        have F : a.tmps[12]?.getD undef = _ ∧ True := hf
        obtain ⟨f1, -⟩ := F
        clear ho hf
        go_simp
        refine (W1.out _).mono ?_; rintro e W1 ⟨rfl, hE⟩; exact hK _ _ hE (Eq.refl _)
      refine And.intro ?_ ?_
      · intro a W hR hf ho K hK
        replace hR := ext_drew hR
        have F : a.tmps[13]?.getD undef = _ ∧ True := hf
        obtain ⟨f2, -⟩ := F
        clear ho hf
        go_simp
        exact hK _ _ (Below.refl _ _) (Eq.refl _)
      refine And.intro ?_ ?_
      · intro a W hR hf ho K hK
        replace hR := ext_drew hR
        have F : a.tmps[14]?.getD undef = _ ∧ a.tmps[13]?.getD undef = _ ∧ True := hf
        obtain ⟨f3, f2, -⟩ := F
        clear ho hf
        go_simp
        exact hK _ _ (Below.refl _ _) (Eq.refl _)
      refine And.intro ?_ ?_
      · intro a W hR hf ho K hK
        replace hR := ext_drew hR
        have G : a.tmps[3]?.getD undef = _ ∧ True := ho
        obtain ⟨g3, -⟩ := G
        have F : a.tmps[15]?.getD undef = _ ∧ True := hf
        obtain ⟨f4, -⟩ := F
        clear ho hf
        go_simp
        exact hK _ _ (Below.refl _ _) (Eq.refl _)
      refine And.intro ?_ ?_
      · intro a W hR hf ho K hK
        replace hR := ext_drew hR
        have F : a.tmps[16]?.getD undef = _ ∧ a.tmps[15]?.getD undef = _ ∧ True := hf
        obtain ⟨f5, f4, -⟩ := F
        clear ho hf
        obtain ⟨y0, y1, y2⟩ := lie3 (heap_alloc_new w (.cells #[.int .i64 at', .int .i64 hN, .int .i64 time] 79)) hR; obtain ⟨z0, z1, z2⟩ := lie3 HM.out.1 ((Ext.alloc (Below.refl _ w) _).then hR)
        go_simp
        exact hK _ _ (Below.refl _ _) (Eq.refl _)
      refine And.intro ?_ ?_
      · intro a W hR hf ho K hK
        replace hR := ext_drew hR
        have F : a.tmps[17]?.getD undef = _ ∧ a.tmps[15]?.getD undef = _ ∧ a.tmps[15]?.getD undef = _ ∧ True := hf
        obtain ⟨f6, f4, -, -⟩ := F
        clear ho hf
        go_simp
        refine (W2.out _).mono ?_; rintro e W1 ⟨rfl, hE⟩; exact hK _ _ hE (Eq.refl _)
      refine And.intro ?_ ?_
      · intro a W hR hf ho K hK
        replace hR := ext_drew hR
        have F : a.tmps[18]?.getD undef = _ ∧ a.tmps[15]?.getD undef = _ ∧ True := hf
        obtain ⟨f7, f4, -⟩ := F
        clear ho hf
        go_simp
        exact hK _ _ (Below.refl _ _) (Eq.refl _)
      refine And.intro ?_ ?_
      · intro a W hR hf ho K hK
        replace hR := ext_drew hR
        have F : a.tmps[15]?.getD undef = _ ∧ a.tmps[19]?.getD undef = _ ∧ True := hf
        obtain ⟨f4, f8, -⟩ := F
        clear ho hf
        go_simp
        exact hK _ _ (Below.refl _ _) (Eq.refl _)
      refine And.intro ?_ ?_
      · intro a W hR hf ho K hK
        replace hR := ext_drew hR
        have F : a.tmps[20]?.getD undef = _ ∧ a.tmps[18]?.getD undef = _ ∧ True := hf
        obtain ⟨f9, f7, -⟩ := F
        clear ho hf
        go_simp
        exact hK _ _ (Below.refl _ _) (Eq.refl _)
      refine And.intro ?_ ?_
      · intro a W hR hf ho K hK
        replace hR := ext_drew hR
        have G : a.tmps[3]?.getD undef = _ ∧ True := ho
        obtain ⟨g3, -⟩ := G
        have F : a.tmps[21]?.getD undef = _ ∧ True := hf
        obtain ⟨f10, -⟩ := F
        clear ho hf
        go_simp
        exact hK _ _ (Below.refl _ _) (Eq.refl _)
      refine And.intro ?_ ?_
      · intro a W hR hf ho K hK
        replace hR := ext_drew hR
        have F : a.tmps[22]?.getD undef = _ ∧ a.tmps[21]?.getD undef = _ ∧ True := hf
        obtain ⟨f11, f10, -⟩ := F
        clear ho hf
        obtain ⟨y0, y1, y2⟩ := lie3 (heap_alloc_new w (.cells #[.int .i64 at', .int .i64 hN, .int .i64 time] 79)) hR; obtain ⟨z0, z1, z2⟩ := lie3 HM.out.1 ((Ext.alloc (Below.refl _ w) _).then hR)
        go_simp
        exact hK _ _ (Below.refl _ _) (Eq.refl _)
      refine And.intro ?_ ?_
      · intro a W hR hf ho K hK
        replace hR := ext_drew hR
        have F : a.tmps[23]?.getD undef = _ ∧ a.tmps[21]?.getD undef = _ ∧ True := hf
        obtain ⟨f12, f10, -⟩ := F
        clear ho hf
        go_simp
        exact hK _ _ (Below.refl _ _) (Eq.refl _)
      refine And.intro ?_ ?_
      · intro a W hR hf ho K hK
        replace hR := ext_drew hR
        have F : a.tmps[21]?.getD undef = _ ∧ a.tmps[24]?.getD undef = _ ∧ True := hf
        obtain ⟨f10, f13, -⟩ := F
        clear ho hf
        go_simp
        exact hK _ _ (Below.refl _ _) (Eq.refl _)
      refine And.intro ?_ ?_
      · intro a W hR hf ho K hK
        replace hR := ext_drew hR
        have F : a.tmps[25]?.getD undef = _ ∧ a.tmps[21]?.getD undef = _ ∧ True := hf
        obtain ⟨f14, f10, -⟩ := F
        clear ho hf
        go_simp
        exact hK _ _ (Below.refl _ _) (Eq.refl _)
      refine And.intro ?_ ?_
      · intro a W hR hf ho K hK
        replace hR := ext_drew hR
        have G : a.tmps[3]?.getD undef = _ ∧ True := ho
        obtain ⟨g3, -⟩ := G
        have F : a.tmps[26]?.getD undef = _ ∧ True := hf
        obtain ⟨f15, -⟩ := F
        clear ho hf
        go_simp
        exact hK _ _ (Below.refl _ _) (Eq.refl _)
      refine And.intro ?_ ?_
      · intro a W hR hf ho K hK
        replace hR := ext_drew hR
        have F : a.tmps[27]?.getD undef = _ ∧ a.tmps[26]?.getD undef = _ ∧ True := hf
        obtain ⟨f16, f15, -⟩ := F
        clear ho hf
        obtain ⟨y0, y1, y2⟩ := lie3 (heap_alloc_new w (.cells #[.int .i64 at', .int .i64 hN, .int .i64 time] 79)) hR; obtain ⟨z0, z1, z2⟩ := lie3 HM.out.1 ((Ext.alloc (Below.refl _ w) _).then hR)
        go_simp
        exact hK _ _ (Below.refl _ _) (Eq.refl _)
      refine And.intro ?_ ?_
      · intro a W hR hf ho K hK
        replace hR := ext_drew hR
        have F : a.tmps[28]?.getD undef = _ ∧ a.tmps[26]?.getD undef = _ ∧ True := hf
        obtain ⟨f17, f15, -⟩ := F
        clear ho hf
        go_simp
        exact hK _ _ (Below.refl _ _) (Eq.refl _)
      refine And.intro ?_ ?_
      · intro a W hR hf ho K hK
        replace hR := ext_drew hR
        have F : a.tmps[26]?.getD undef = _ ∧ a.tmps[29]?.getD undef = _ ∧ True := hf
        obtain ⟨f15, f18, -⟩ := F
        clear ho hf
        go_simp
        exact hK _ _ (Below.refl _ _) (Eq.refl _)
      refine And.intro ?_ ?_
      · intro a W hR hf ho K hK
        replace hR := ext_drew hR
        have F : a.tmps[30]?.getD undef = _ ∧ a.tmps[26]?.getD undef = _ ∧ True := hf
        obtain ⟨f19, f15, -⟩ := F
        clear ho hf
        go_simp
        exact hK _ _ (Below.refl _ _) (Eq.refl _)
      refine And.intro ?_ ?_
      · intro a W hR hf ho K hK
        replace hR := ext_drew hR
        have G : a.tmps[5]?.getD undef = _ ∧ True := ho
        obtain ⟨g5, -⟩ := G
        have F : a.tmps[31]?.getD undef = _ ∧ True := hf
        obtain ⟨f20, -⟩ := F
        clear ho hf
        go_simp
        exact hK _ _ (Below.refl _ _) (Eq.refl _)
      refine And.intro ?_ ?_
      · intro a W hR hf ho K hK
        replace hR := ext_drew hR
        have F : a.tmps[32]?.getD undef = _ ∧ a.tmps[31]?.getD undef = _ ∧ True := hf
        obtain ⟨f21, f20, -⟩ := F
        clear ho hf
        go_simp
        exact hK _ _ (Below.refl _ _) (Eq.refl _)
      refine And.intro ?_ ?_
      · intro a W hR hf ho K hK
        replace hR := ext_drew hR
        have F : a.tmps[33]?.getD undef = _ ∧ a.tmps[31]?.getD undef = _ ∧ a.tmps[31]?.getD undef = _ ∧ True := hf
        obtain ⟨f22, f20, -, -⟩ := F
        clear ho hf
        go_simp
        exact hK _ _ (Below.refl _ _) (Eq.refl _)
      refine And.intro ?_ ?_
      · intro a W hR hf ho K hK
        replace hR := ext_drew hR
        have G : a.tmps[3]?.getD undef = _ ∧ True := ho
        obtain ⟨g3, -⟩ := G
        have F : a.tmps[34]?.getD undef = _ ∧ True := hf
        obtain ⟨f23, -⟩ := F
        clear ho hf
        go_simp
        exact hK _ _ (Below.refl _ _) (Eq.refl _)
      refine And.intro ?_ ?_
      · intro a W hR hf ho K hK
        replace hR := ext_drew hR
        have F : a.tmps[35]?.getD undef = _ ∧ a.tmps[34]?.getD undef = _ ∧ True := hf
        obtain ⟨f24, f23, -⟩ := F
        clear ho hf
        obtain ⟨y0, y1, y2⟩ := lie3 (heap_alloc_new w (.cells #[.int .i64 at', .int .i64 hN, .int .i64 time] 79)) hR; obtain ⟨z0, z1, z2⟩ := lie3 HM.out.1 ((Ext.alloc (Below.refl _ w) _).then hR)
        go_simp
        exact hK _ _ (Below.refl _ _) (Eq.refl _)
      refine And.intro ?_ ?_
      · intro a W hR hf ho K hK
        replace hR := ext_drew hR
        have G : a.tmps[0]?.getD undef = _ ∧ True := ho
        obtain ⟨g0, -⟩ := G
        have F : a.tmps[34]?.getD undef = _ ∧ True := hf
        obtain ⟨f23, -⟩ := F
        clear ho hf
        go_simp
        exact hK _ _ (Below.refl _ _) (Eq.refl _)
      refine And.intro ?_ ?_
      · intro a W hR hf ho K hK
        replace hR := ext_drew hR
        have F : a.tmps[37]?.getD undef = _ ∧ a.tmps[34]?.getD undef = _ ∧ True := hf
        obtain ⟨f26, f23, -⟩ := F
        clear ho hf
        go_simp
        exact hK _ _ (Below.refl _ _) (Eq.refl _)
      refine And.intro ?_ ?_
      · intro a W hR hf ho K hK
        replace hR := ext_drew hR
        have F : a.tmps[38]?.getD undef = _ ∧ a.tmps[34]?.getD undef = _ ∧ True := hf
        obtain ⟨f27, f23, -⟩ := F
        clear ho hf
        go_simp
        exact hK _ _ (Below.refl _ _) (Eq.refl _)
      refine And.intro ?_ ?_
      · intro a W hR hf ho K hK
        replace hR := ext_drew hR
        have F : a.tmps[39]?.getD undef = _ ∧ a.tmps[34]?.getD undef = _ ∧ True := hf
        obtain ⟨f28, f23, -⟩ := F
        clear ho hf
        obtain ⟨y0, y1, y2⟩ := lie3 (heap_alloc_new w (.cells #[.int .i64 at', .int .i64 hN, .int .i64 time] 79)) hR; obtain ⟨z0, z1, z2⟩ := lie3 HM.out.1 ((Ext.alloc (Below.refl _ w) _).then hR)
        go_simp
        exact hK _ _ (Below.refl _ _) (Eq.refl _)
      refine And.intro ?_ ?_
      · intro a W hR hf ho K hK
        replace hR := ext_drew hR
        have G : a.tmps[5]?.getD undef = _ ∧ True := ho
        obtain ⟨g5, -⟩ := G
        have F : a.tmps[34]?.getD undef = _ ∧ True := hf
        obtain ⟨f23, -⟩ := F
        clear ho hf
        go_simp
        exact hK _ _ (Below.refl _ _) (Eq.refl _)
      refine And.intro ?_ ?_
      · intro a W hR hf ho K hK
        replace hR := ext_drew hR
        have F : a.tmps[41]?.getD undef = _ ∧ a.tmps[34]?.getD undef = _ ∧ True := hf
        obtain ⟨f30, f23, -⟩ := F
        clear ho hf
        go_simp
        exact hK _ _ (Below.refl _ _) (Eq.refl _)
      refine And.intro ?_ ?_
      · intro a W hR hf ho K hK
        replace hR := ext_drew hR
        have F : a.tmps[40]?.getD undef = _ ∧ a.tmps[42]?.getD undef = _ ∧ a.tmps[34]?.getD undef = _ ∧ True := hf
        obtain ⟨f29, f31, f23, -⟩ := F
        clear ho hf
        go_simp
        exact hK _ _ (Below.refl _ _) (Eq.refl _)
      refine And.intro ?_ ?_
      · intro a W hR hf ho K hK
        replace hR := ext_drew hR
        have F : a.tmps[43]?.getD undef = _ ∧ a.tmps[34]?.getD undef = _ ∧ True := hf
        obtain ⟨f32, f23, -⟩ := F
        clear ho hf
        go_simp
        exact hK _ _ (Below.refl _ _) (Eq.refl _)
      refine And.intro ?_ ?_
      · intro a W hR hf ho K hK
        replace hR := ext_drew hR
        have F : a.tmps[44]?.getD undef = _ ∧ a.tmps[34]?.getD undef = _ ∧ True := hf
        obtain ⟨f33, f23, -⟩ := F
        clear ho hf
        obtain ⟨y0, y1, y2⟩ := lie3 (heap_alloc_new w (.cells #[.int .i64 at', .int .i64 hN, .int .i64 time] 79)) hR; obtain ⟨z0, z1, z2⟩ := lie3 HM.out.1 ((Ext.alloc (Below.refl _ w) _).then hR)
        go_simp
        exact hK _ _ (Below.refl _ _) (Eq.refl _)
      refine And.intro ?_ ?_
      · intro a W hR hf ho K hK
        replace hR := ext_drew hR
        have F : a.tmps[36]?.getD undef = _ ∧ a.tmps[45]?.getD undef = _ ∧ a.tmps[34]?.getD undef = _ ∧ True := hf
        obtain ⟨f25, f34, f23, -⟩ := F
        clear ho hf
        go_simp
        exact hK _ _ (Below.refl _ _) (Eq.refl _)
      refine And.intro ?_ ?_
      · intro a W hR hf ho K hK
        replace hR := ext_drew hR
        have F : a.tmps[34]?.getD undef = _ ∧ a.tmps[46]?.getD undef = _ ∧ a.tmps[31]?.getD undef = _ ∧ True := hf
        obtain ⟨f23, f35, f20, -⟩ := F
        clear ho hf
        go_simp
        exact hK _ _ (Below.refl _ _) (Eq.refl _)
      refine And.intro ?_ ?_
      · intro a W hR hf ho K hK
        replace hR := ext_drew hR
        have F : a.tmps[31]?.getD undef = _ ∧ a.tmps[47]?.getD undef = _ ∧ True := hf
        obtain ⟨f20, f36, -⟩ := F
        clear ho hf
        go_simp
        exact hK _ _ (Below.refl _ _) (Eq.refl _)
      exact trivial
    case stab =>
      refine And.intro is_stable ?_
      refine And.intro is_stable ?_
      refine And.intro is_stable ?_
      refine And.intro is_stable ?_
      refine And.intro is_stable ?_
      refine And.intro is_stable ?_
      refine And.intro is_stable ?_
      refine And.intro is_stable ?_
      refine And.intro is_stable ?_
      refine And.intro is_stable ?_
      refine And.intro is_stable ?_
      refine And.intro is_stable ?_
      refine And.intro is_stable ?_
      refine And.intro is_stable ?_
      refine And.intro is_stable ?_
      refine And.intro is_stable ?_
      refine And.intro is_stable ?_
      refine And.intro is_stable ?_
      refine And.intro is_stable ?_
      refine And.intro is_stable ?_
      refine And.intro is_stable ?_
      refine And.intro is_stable ?_
      refine And.intro is_stable ?_
      refine And.intro is_stable ?_
      refine And.intro is_stable ?_
      refine And.intro is_stable ?_
      refine And.intro is_stable ?_
      refine And.intro is_stable ?_
      refine And.intro is_stable ?_
      refine And.intro is_stable ?_
      refine And.intro is_stable ?_
      refine And.intro is_stable ?_
      refine And.intro is_stable ?_
      refine And.intro is_stable ?_
      refine And.intro is_stable ?_
      refine And.intro is_stable ?_
      refine And.intro is_stable ?_
      refine And.intro is_stable ?_
      exact trivial
    case ends =>
      intro vals W hR hall
      replace hR := ext_drew hR
      have e48 : vals 48 = _ := hall 37 (by decide)
      clear hall
      simp only [fill, List.setIfInBounds_toArray, List.set_cons_succ, List.set_cons_zero, e48]
      have HE := Lib.hid (And.intro ((((Ext.alloc (Below.refl _ w) (.cells #[.int .i64 at', .int .i64 hN, .int .i64 time] 79)).then hR).block _ hp).trans HM.out.1) (And.intro ((hR.block w.heap.size (by simp)).trans (heap_alloc_new w _)) (And.intro (HM.out.2.1.ext ((Ext.alloc (Below.refl _ w) _).then hR)) ((Ext.alloc (Below.refl _ w) _).then hR))))
      clear hR
      go_wp2_with fail
      have fz := frozen_row' HE.out.1
      refine wp_region_res (Kept p r) [⟨none, [], [7]⟩, ⟨none, [], [4, 10]⟩, ⟨none, [], [5]⟩, ⟨some 6, [(6, [])], [7]⟩, ⟨some 7, [(7, [])], [10]⟩, ⟨some 10, [(7, [7])], []⟩] [(fun (u : Nat → Value) (W : World) => (fun (_ : Value) (W : World) => MidRow W base 79 3 (.slice A 0 c) 0 (heldC L)) (undef) W), (fun (u : Nat → Value) (W : World) => (fun (_ : Value) (W : World) => W.heap[p]? = some (.cells #[.int .i64 full, .int .i64 bytes, .slice A 0 c] 96)) (undef) W), (fun (u : Nat → Value) (W : World) => (fun (_ : Value) (W : World) => W.heap[w.heap.size]? = some (.cells #[.int .i64 at', .int .i64 hN, .int .i64 time] 79)) (undef) W), (fun (u : Nat → Value) (W : World) => (NewLit 0 1 (HeldD.cells ⟨at', hN, time⟩) 79) (u 6) W), (fun (u : Nat → Value) (W : World) => (fun (v : Value) (W : World) => MidRow W base 79 3 v (0 + 1) (heldC L ++ HeldD.cells ⟨at', hN, time⟩) ∧ (v.ownBlock = r ∨ ∃ g, v.ownBlock = some g ∧ w.heap.size ≤ g)) (u 7) W), (fun (u : Nat → Value) (W : World) => W.heap[p]? = some (.cells #[.int .i64 full, .int .i64 bytes, u 7] 96) ∧ MidRow W base 79 3 (u 7) (0 + 1) (heldC L ++ HeldD.cells ⟨at', hN, time⟩) ∧ ((u 7).ownBlock = r ∨ ∃ g, (u 7).ownBlock = some g ∧ w.heap.size ≤ g))] [⟨[], [.keep, .keep, .keep, .keep, .keep, .early [0]]⟩, ⟨[], [.keep, .keep, .keep, .keep, .early [4, 3, 2, 1], .early [1]]⟩, ⟨[], [.keep, .keep, .keep, .keep, .early [4, 3, 2], .early [2]]⟩, ⟨[], [.keep, .keep, .keep, .keep, .early [4, 3], .early [3]]⟩, ⟨[(1, [])], [.keep, .keep, .keep, .keep, .early [4], .early [4]]⟩, ⟨[(2, [])], [.keep, .keep, .late [[]], .early [5], .early [6, 5], .early [5]]⟩, ⟨[], [.keep, .keep, .late [[5]], .last, .early [6], .early [6]]⟩, ⟨[(0, []), (3, [6])], [.late [[]], .keep, .late [[6, 5]], .late [[]], .last, .early [7]]⟩, ⟨[], [.late [[7]], .keep, .late [[5]], .late [[7]], .keep, .early [9, 8]]⟩, ⟨[], [.late [[7]], .keep, .late [[5]], .late [[7]], .keep, .early [9]]⟩, ⟨[(1, []), (4, [7])], [.late [[7]], .late [[4], []], .late [[5]], .late [[7]], .late [[]], .last]⟩] [49, 50, 51, 52, 53, 54, 55, 56, 57, 58] (by kernel_rfl) (fun _ => Kept.of_ext (Below.refl _ _)) (fun _ _ _ h k => Kept.trans h k (.inl rfl)) (by kernel_rfl) (by kernel_rfl) (by kernel_rfl) (by kernel_rfl) (by kernel_rfl) ?start ?_
      case start =>
        refine And.intro ?_ ?_
        · exact HE.out.2.2.1.ext (Ext.drew (Below.refl _ _))
        refine And.intro ?_ ?_
        · exact HE.out.1
        refine And.intro ?_ ?_
        · exact HE.out.2.1
        exact trivial
      apply ex_is; apply Exists.intro
      apply ex_is; apply Exists.intro
      apply ex_is; apply Exists.intro
      apply ex_is; apply Exists.intro
      apply ex_is; apply Exists.intro
      apply ex_is; apply Exists.intro
      refine ex_phi (fun _ _ => True) ?_
      refine ex_phi (fun _ _ => True) ?_
      apply ex_is; apply Exists.intro
      apply ex_is; apply Exists.intro
      refine ex_phi (fun _ _ => True) ?_
      refine ⟨[], ⟨?steps, ?stab, ?ends⟩⟩
      case steps =>
        refine And.intro (obX_pure (fun _ => Kept.of_ext (Below.refl _ _)) ?_) ?_
        · intro act W hR hf ho hu K hK
          replace hK := fun v h2 => hK v W rfl h2 trivial
          have G : act.tmps[0]?.getD undef = _ ∧ True := ho
          obtain ⟨g0, -⟩ := G
          clear ho hf hu
          go_simp
          exact hK _ (Eq.refl _)
        refine And.intro (obX_pure (fun _ => Kept.of_ext (Below.refl _ _)) ?_) ?_
        · intro act W hR hf ho hu K hK
          replace hK := fun v h2 => hK v W rfl h2 trivial
          have G : act.tmps[0]?.getD undef = _ ∧ True := ho
          obtain ⟨g0, -⟩ := G
          clear ho hf hu
          go_simp
          exact hK _ (Eq.refl _)
        refine And.intro (obX_pure (fun _ => Kept.of_ext (Below.refl _ _)) ?_) ?_
        · intro act W hR hf ho hu K hK
          replace hK := fun v h2 => hK v W rfl h2 trivial
          have F : act.tmps[50]?.getD undef = _ ∧ True := hf
          obtain ⟨f1, -⟩ := F
          clear ho hf hu
          go_simp
          exact hK _ (Eq.refl _)
        refine And.intro (obX_pure (fun _ => Kept.of_ext (Below.refl _ _)) ?_) ?_
        · intro act W hR hf ho hu K hK
          replace hK := fun v h2 => hK v W rfl h2 trivial
          have F : act.tmps[51]?.getD undef = _ ∧ True := hf
          obtain ⟨f2, -⟩ := F
          clear ho hf hu
          go_simp
          exact hK _ (Eq.refl _)
        refine And.intro (obX_pure (fun _ => Kept.of_ext (Below.refl _ _)) ?_) ?_
        · intro act W hR hf ho hu K hK
          replace hK := fun v h2 => hK v W rfl h2 trivial
          have F : act.tmps[52]?.getD undef = _ ∧ True := hf
          obtain ⟨f3, -⟩ := F
          have U : (fun (_ : Value) (W : World) => W.heap[p]? = some (.cells #[.int .i64 full, .int .i64 bytes, .slice A 0 c] 96)) (undef) W ∧ True := hu
          obtain ⟨r_row, -⟩ := U
          clear ho hf hu
          have q5 := cellAt r_row 2 (.slice A 0 c) rfl
          go_simp
          exact hK _ (Eq.refl _)
        refine And.intro (obX_pure (fun _ => Kept.of_ext (Below.refl _ _)) ?_) ?_
        · intro act W hR hf ho hu K hK
          replace hK := fun v h2 => hK v W rfl h2 trivial
          have G : act.tmps[3]?.getD undef = _ ∧ True := ho
          obtain ⟨g3, -⟩ := G
          have U : (fun (_ : Value) (W : World) => W.heap[w.heap.size]? = some (.cells #[.int .i64 at', .int .i64 hN, .int .i64 time] 79)) (undef) W ∧ True := hu
          obtain ⟨r_cap, -⟩ := U
          clear ho hf hu
          obtain ⟨y0, y1, y2⟩ := lie3 r_cap (Below.refl _ W)
          go_simp
          exact hK _ (Eq.refl _)
        refine And.intro (obX_eff (Ext) (fun _ _ h => Kept.of_ext h) (And.intro (fun _ _ _ h e => h.ext e) (And.intro (fun _ _ _ h e => (e.block _ (Array.getElem?_eq_some_iff.1 h).1).trans h) (trivial))) ?_) ?_
        · intro act W hR hf ho hu K hK
          replace hK := fun v (w' : World) (h1 : (Ext) W w') (b3 : (NewLit 0 1 (HeldD.cells ⟨at', hN, time⟩) 79) (v) w') => hK v w' h1 trivial ⟨b3, trivial⟩
          have F : act.tmps[54]?.getD undef = _ ∧ True := hf
          obtain ⟨f5, -⟩ := F
          clear ho hf hu
          go_simp
          exact hK _ _ (by repeat first | (with_reducible exact Below.refl _ _) | (with_reducible apply Ext.alloc) | (with_reducible apply Ext.drew) | (with_reducible apply Ext.drewN) | (with_reducible refine Ext.set ?_ (by simp))) (NewLit.new (Nat.zero_le _))
        refine And.intro (obX_eff (fun x y => x.grownBy y r) (fun _ _ h => Kept.of_grown h) (And.intro (fun _ _ _ h e => (e.block _ (Array.getElem?_eq_some_iff.1 h).1 (fun e' => HH.out.2.2.2 e'.symm)).trans h) (trivial)) ?_) ?_
        · intro act W hR hf ho hu K hK
          replace hK := fun v (w' : World) (h1 : (fun x y => x.grownBy y r) W w') (b4 : (fun (v : Value) (W : World) => MidRow W base 79 3 v (0 + 1) (heldC L ++ HeldD.cells ⟨at', hN, time⟩) ∧ (v.ownBlock = r ∨ ∃ g, v.ownBlock = some g ∧ w.heap.size ≤ g)) (v) w') => hK v w' h1 trivial ⟨b4, trivial⟩
          have F : act.tmps[53]?.getD undef = _ ∧ (fun _ _ => True) (act.tmps[55]?.getD undef) W ∧ True := hf
          obtain ⟨f4, -, -⟩ := F
          have U : (fun (_ : Value) (W : World) => MidRow W base 79 3 (.slice A 0 c) 0 (heldC L)) (undef) W ∧ (NewLit 0 1 (HeldD.cells ⟨at', hN, time⟩) 79) (act.tmps[55]?.getD undef) W ∧ True := hu
          obtain ⟨r_own, r_n6, -⟩ := U
          generalize f6 : act.tmps[55]?.getD undef = v6 at r_n6
          clear ho hf hu
          obtain ⟨b3, rfl, -, hl3⟩ := r_n6
          dsimp only [Option.elim] at f4
          rw [← seen_eq]; refine step_append_mid W rfl (.tmp 53) (.tmp 55) 80 rfl base 79 ci (.agg #[.int .i64 0, .int .i64 0, .int .i64 0]) 3 24 Try.underlying80 hci hci0 hci1 hci2 rfl (by decide) _ _ _ (eval_get f4) r_own ⟨b3, 0, none⟩ 1 1 (HeldD.cells ⟨at', hN, time⟩) (eval_get f6) rfl (lit_cells' hl3) (by simp [Value.oneCell']) (by unfold maxLen; omega) (by omega) (Nat.le_trans (Nat.le_trans HM.out.2.2.1 HE.out.2.2.2.size) hR.size) ?_; intro v' w' ho' hg' hw'; exact hK _ _ (by rw [HM.out.2.2.2]; exact hg') ⟨ho', hw'.imp (fun e => by rw [e, HM.out.2.2.2]) (fun e => ⟨_, e, Nat.le_trans HE.out.2.2.2.size hR.size⟩)⟩
        refine And.intro (obX_pure (fun _ => Kept.of_ext (Below.refl _ _)) ?_) ?_
        · intro act W hR hf ho hu K hK
          replace hK := fun v h2 => hK v W rfl h2 trivial
          have F : act.tmps[49]?.getD undef = _ ∧ act.tmps[49]?.getD undef = _ ∧ act.tmps[50]?.getD undef = _ ∧ act.tmps[51]?.getD undef = _ ∧ act.tmps[52]?.getD undef = _ ∧ act.tmps[53]?.getD undef = _ ∧ act.tmps[54]?.getD undef = _ ∧ (fun _ _ => True) (act.tmps[55]?.getD undef) W ∧ (fun _ _ => True) (act.tmps[56]?.getD undef) W ∧ True := hf
          obtain ⟨f0, -, f1, f2, f3, f4, f5, -, -, -⟩ := F
          generalize f6 : act.tmps[55]?.getD undef = v6
          generalize f7 : act.tmps[56]?.getD undef = v7
          clear ho hf hu
          go_simp
          exact hK _ (Eq.refl _)
        refine And.intro (obX_pure (fun _ => Kept.of_ext (Below.refl _ _)) ?_) ?_
        · intro act W hR hf ho hu K hK
          replace hK := fun v h2 => hK v W rfl h2 trivial
          have F : act.tmps[57]?.getD undef = _ ∧ act.tmps[49]?.getD undef = _ ∧ act.tmps[50]?.getD undef = _ ∧ act.tmps[51]?.getD undef = _ ∧ act.tmps[52]?.getD undef = _ ∧ act.tmps[53]?.getD undef = _ ∧ act.tmps[54]?.getD undef = _ ∧ (fun _ _ => True) (act.tmps[55]?.getD undef) W ∧ (fun _ _ => True) (act.tmps[56]?.getD undef) W ∧ True := hf
          obtain ⟨f8, f0, f1, f2, f3, f4, f5, -, -, -⟩ := F
          generalize f6 : act.tmps[55]?.getD undef = v6
          generalize f7 : act.tmps[56]?.getD undef = v7
          clear ho hf hu
          go_simp
          exact hK _ (Eq.refl _)
        refine And.intro (obX_eff (Kept p r) (fun _ _ h => h) (trivial) ?_) ?_
        · intro act W hR hf ho hu K hK
          replace hK := fun (w' : World) (h1 : (Kept p r) W w') (b5 : (fun (W : World) => W.heap[p]? = some (.cells #[.int .i64 full, .int .i64 bytes, (act.tmps[56]?.getD undef)] 96) ∧ MidRow W base 79 3 ((act.tmps[56]?.getD undef)) (0 + 1) (heldC L ++ HeldD.cells ⟨at', hN, time⟩) ∧ (((act.tmps[56]?.getD undef)).ownBlock = r ∨ ∃ g, ((act.tmps[56]?.getD undef)).ownBlock = some g ∧ w.heap.size ≤ g)) w') => hK undef w' h1 trivial ⟨b5, trivial⟩
          have F : act.tmps[58]?.getD undef = _ ∧ (fun _ _ => True) (act.tmps[56]?.getD undef) W ∧ (fun _ _ => True) (act.tmps[56]?.getD undef) W ∧ act.tmps[49]?.getD undef = _ ∧ act.tmps[50]?.getD undef = _ ∧ act.tmps[51]?.getD undef = _ ∧ act.tmps[52]?.getD undef = _ ∧ act.tmps[53]?.getD undef = _ ∧ act.tmps[54]?.getD undef = _ ∧ (fun _ _ => True) (act.tmps[55]?.getD undef) W ∧ (fun _ _ => True) (act.tmps[56]?.getD undef) W ∧ True := hf
          obtain ⟨f9, -, -, f0, f1, f2, f3, f4, f5, -, -, -⟩ := F
          have U : (fun (_ : Value) (W : World) => W.heap[p]? = some (.cells #[.int .i64 full, .int .i64 bytes, .slice A 0 c] 96)) (undef) W ∧ (fun (v : Value) (W : World) => MidRow W base 79 3 v (0 + 1) (heldC L ++ HeldD.cells ⟨at', hN, time⟩) ∧ (v.ownBlock = r ∨ ∃ g, v.ownBlock = some g ∧ w.heap.size ≤ g)) (act.tmps[56]?.getD undef) W ∧ True := hu
          obtain ⟨r_row, r_r7, -⟩ := U
          generalize f7 : act.tmps[56]?.getD undef = v7 at r_r7 hK
          generalize f6 : act.tmps[55]?.getD undef = v6
          clear ho hf hu
          obtain ⟨A7, c7, rfl, -, -, -⟩ := r_r7.1.arr; have fz := frozen_row' r_row; have q6 := cellAt r_row 2 (.slice A 0 c) rfl; have HF := Lib.hid (And.intro (Kept.set (p := p) (r := r) W 2 none (.slice A7 (0 + 1) c7)) (And.intro (set_row (o := 2) r_row (.slice A7 (0 + 1) c7)) (And.intro (MidRow.kept r_r7.1 (set_gr (w := W) (b := p) (o := 2) (v := .slice A7 (0 + 1) c7)) (fun b hb e => r_r7.1.ne r_row (by decide) (by rw [hb, e]))) r_r7.2)))
          go_simp
          exact hK _ HF.out.1 ⟨HF.out.2.1, HF.out.2.2.1, HF.out.2.2.2⟩
        exact trivial
      case stab =>
        refine And.intro is_stable ?_
        refine And.intro is_stable ?_
        refine And.intro is_stable ?_
        refine And.intro is_stable ?_
        refine And.intro is_stable ?_
        refine And.intro is_stable ?_
        refine And.intro (fun _ _ _ h _ => h) ?_
        refine And.intro (fun _ _ _ h _ => h) ?_
        refine And.intro is_stable ?_
        refine And.intro is_stable ?_
        refine And.intro (fun _ _ _ h _ => h) ?_
        exact trivial
      case ends =>
        intro vals W hR hE hall
        have E : (fun (W : World) => W.heap[p]? = some (.cells #[.int .i64 full, .int .i64 bytes, (vals 56)] 96) ∧ MidRow W base 79 3 ((vals 56)) (0 + 1) (heldC L ++ HeldD.cells ⟨at', hN, time⟩) ∧ (((vals 56)).ownBlock = r ∨ ∃ g, ((vals 56)).ownBlock = some g ∧ w.heap.size ≤ g)) W ∧ True := hE
        obtain ⟨e_fin, -⟩ := E
        clear hE
        clear hall
        generalize ev56 : vals 56 = x56 at e_fin
        simp only [fill, List.setIfInBounds_toArray, List.set_cons_succ, List.set_cons_zero, ev56]
        obtain ⟨h1, h2, h3⟩ := e_fin
        have K1 : Kept p r w W := (Kept.of_ext (Ext.drew HE.out.2.2.2)).trans hR (.inl rfl)
        have hb7 : W.heap[w.heap.size]? = some (.cells #[.int .i64 at', .int .i64 hN, .int .i64 time] 79) := (hR.block _ (Array.getElem?_eq_some_iff.1 HE.out.2.1).1 (by omega) (fun e => by have := hlt5 w.heap.size (by rw [← HM.out.2.2.2, e]); omega)).trans HE.out.2.1
        have fz7 := frozen_row' h1
        obtain ⟨y0, y1, y2⟩ := lie3 h1 (Below.refl _ W)
        obtain ⟨z0, z1, z2⟩ := lie3 hb7 (Below.refl _ W)
        have H7 := Lib.hid (And.intro h1 (And.intro h2 (And.intro h3 K1)))
        have hl1 := cell_lt y0
        have hl2 := cell_lt z0
        simp only at hl1 hl2
        clear h1 h2 h3 K1 hR HE hb7
        go_wp2_with fail
        go_region
        go_wp2_with fail
        go_ret
        have hl9 : (L ++ [(⟨at', hN, time⟩ : HeldD)]).length = 0 + 1 := by rw [List.length_append, HN.out]; rfl
        have hc9 : heldC (L ++ [(⟨at', hN, time⟩ : HeldD)]) = heldC L ++ HeldD.cells ⟨at', hN, time⟩ := by rw [heldC_app]; rfl
        refine ⟨rfl, _, ⟨set_row (o := 1) H7.out.1 _, ?_⟩, ?_, ?_⟩
        · rw [hl9, hc9]
          exact (MidRow.kept H7.out.2.1 (set_gr (b := p) (o := 1)) (fun b hb e => H7.out.2.1.ne H7.out.1 (by decide) (by rw [hb, e]))).ext (Ext.drew (Below.refl _ _))
        · rw [← HM.out.2.2.2]
          exact (H7.out.2.2.2.trans (Kept.set (r := r) _ _ none _) (.inl rfl)).trans (Kept.of_ext (Ext.drew (Below.refl _ _))) (.inl rfl)
        · rw [← HM.out.2.2.2]
          exact H7.out.2.2.1
  · obtain ⟨k, rfl⟩ : ∃ k, n = k + 1 := ⟨n - 1, by have := List.length_pos_iff.2 h0; omega⟩
    have hkL : k < L.length := by omega
    obtain ⟨g, o, rfl, -, -, -, hc⟩ := held_row HH.out.2.2.1 hkL
    have hlk : L[k].time ≤ time := hl _ (by rw [List.getLast?_eq_getElem?, hn]; simp [hkL])
    have hk1 : (k : Int) < (k : Int) + 1 := by omega
    have hwk : IntKind.i64.wrap (k : Int) = (k : Int) := IntWalk.i64_in _ (by omega)
    generalize L[k].time = tk at hc hlk
    have hgl := cell_lt hc
    simp only at hgl
    clear hl
    have HN := Lib.hid hn
    clear hn
    go_enter Try.func32, Try.ntmps32
    go_wp2_with fail
    refine wp_region_obl Ext [11, 12, 13, 14, 15, 16, 17, 18, 19, 20, 21, 22, 23, 24, 25, 26, 27, 28, 29, 30, 31, 32, 33, 34, 35, 36, 37, 38, 39, 40, 41, 42, 43, 44, 45, 46, 47, 48] (by kernel_rfl) (fun _ => Below.refl _ _) (fun _ _ _ => Ext.then) (by kernel_rfl) (by kernel_rfl) ?_
    apply ex_is; apply Exists.intro
    apply ex_is; apply Exists.intro
    apply ex_is; apply Exists.intro
    apply ex_is; apply Exists.intro
    apply ex_is; apply Exists.intro
    apply ex_is; apply Exists.intro
    apply ex_is; apply Exists.intro
    apply ex_is; apply Exists.intro
    apply ex_is; apply Exists.intro
    apply ex_is; apply Exists.intro
    apply ex_is; apply Exists.intro
    apply ex_is; apply Exists.intro
    apply ex_is; apply Exists.intro
    apply ex_is; apply Exists.intro
    apply ex_is; apply Exists.intro
    apply ex_is; apply Exists.intro
    apply ex_is; apply Exists.intro
    apply ex_is; apply Exists.intro
    apply ex_is; apply Exists.intro
    apply ex_is; apply Exists.intro
    apply ex_is; apply Exists.intro
    apply ex_is; apply Exists.intro
    apply ex_is; apply Exists.intro
    apply ex_is; apply Exists.intro
    apply ex_is; apply Exists.intro
    apply ex_is; apply Exists.intro
    apply ex_is; apply Exists.intro
    apply ex_is; apply Exists.intro
    apply ex_is; apply Exists.intro
    apply ex_is; apply Exists.intro
    apply ex_is; apply Exists.intro
    apply ex_is; apply Exists.intro
    apply ex_is; apply Exists.intro
    apply ex_is; apply Exists.intro
    apply ex_is; apply Exists.intro
    apply ex_is; apply Exists.intro
    apply ex_is; apply Exists.intro
    apply ex_is; apply Exists.intro
    refine ⟨[], ⟨?steps, ?stab, ?ends⟩⟩
    case steps =>
      refine And.intro ?_ ?_
      · intro a W hR hf ho K hK
        replace hR := ext_drew hR
        have G : a.tmps[3]?.getD undef = _ ∧ True := ho
        obtain ⟨g3, -⟩ := G
        clear ho hf
        go_simp
        exact hK _ _ (Below.refl _ _) (Eq.refl _)
      refine And.intro ?_ ?_
      · intro a W hR hf ho K hK
        replace hR := ext_drew hR
        have F : a.tmps[11]?.getD undef = _ ∧ True := hf
        obtain ⟨f0, -⟩ := F
        clear ho hf
        obtain ⟨y0, y1, y2⟩ := lie3 (heap_alloc_new w (.cells #[.int .i64 at', .int .i64 hN, .int .i64 time] 79)) hR; obtain ⟨z0, z1, z2⟩ := lie3 HM.out.1 ((Ext.alloc (Below.refl _ w) _).then hR); have zc := ext_cell ((Ext.alloc (Below.refl _ w) _).then hR) _ _ hc
        go_simp
        exact hK _ _ (Below.refl _ _) (Eq.refl _)
      refine And.intro ?_ ?_
      · intro a W hR hf ho K hK
        replace hR := ext_drew hR
        have F : a.tmps[12]?.getD undef = _ ∧ True := hf
        obtain ⟨f1, -⟩ := F
        clear ho hf
        go_simp
        refine (W1.out _).mono ?_; rintro e W1 ⟨rfl, hE⟩; exact hK _ _ hE (Eq.refl _)
      refine And.intro ?_ ?_
      · intro a W hR hf ho K hK
        replace hR := ext_drew hR
        have F : a.tmps[13]?.getD undef = _ ∧ True := hf
        obtain ⟨f2, -⟩ := F
        clear ho hf
        go_simp
        exact hK _ _ (Below.refl _ _) (Eq.refl _)
      refine And.intro ?_ ?_
      · intro a W hR hf ho K hK
        replace hR := ext_drew hR
        have F : a.tmps[14]?.getD undef = _ ∧ a.tmps[13]?.getD undef = _ ∧ True := hf
        obtain ⟨f3, f2, -⟩ := F
        clear ho hf
        go_simp
        exact hK _ _ (Below.refl _ _) (Eq.refl _)
      refine And.intro ?_ ?_
      · intro a W hR hf ho K hK
        replace hR := ext_drew hR
        have G : a.tmps[3]?.getD undef = _ ∧ True := ho
        obtain ⟨g3, -⟩ := G
        have F : a.tmps[15]?.getD undef = _ ∧ True := hf
        obtain ⟨f4, -⟩ := F
        clear ho hf
        go_simp
        exact hK _ _ (Below.refl _ _) (Eq.refl _)
      refine And.intro ?_ ?_
      · intro a W hR hf ho K hK
        replace hR := ext_drew hR
        have F : a.tmps[16]?.getD undef = _ ∧ a.tmps[15]?.getD undef = _ ∧ True := hf
        obtain ⟨f5, f4, -⟩ := F
        clear ho hf
        obtain ⟨y0, y1, y2⟩ := lie3 (heap_alloc_new w (.cells #[.int .i64 at', .int .i64 hN, .int .i64 time] 79)) hR; obtain ⟨z0, z1, z2⟩ := lie3 HM.out.1 ((Ext.alloc (Below.refl _ w) _).then hR); have zc := ext_cell ((Ext.alloc (Below.refl _ w) _).then hR) _ _ hc
        go_simp
        exact hK _ _ (Below.refl _ _) (Eq.refl _)
      refine And.intro ?_ ?_
      · intro a W hR hf ho K hK
        replace hR := ext_drew hR
        have F : a.tmps[17]?.getD undef = _ ∧ a.tmps[15]?.getD undef = _ ∧ a.tmps[15]?.getD undef = _ ∧ True := hf
        obtain ⟨f6, f4, -, -⟩ := F
        clear ho hf
        go_simp
        refine (W2.out _).mono ?_; rintro e W1 ⟨rfl, hE⟩; exact hK _ _ hE (Eq.refl _)
      refine And.intro ?_ ?_
      · intro a W hR hf ho K hK
        replace hR := ext_drew hR
        have F : a.tmps[18]?.getD undef = _ ∧ a.tmps[15]?.getD undef = _ ∧ True := hf
        obtain ⟨f7, f4, -⟩ := F
        clear ho hf
        go_simp
        exact hK _ _ (Below.refl _ _) (Eq.refl _)
      refine And.intro ?_ ?_
      · intro a W hR hf ho K hK
        replace hR := ext_drew hR
        have F : a.tmps[15]?.getD undef = _ ∧ a.tmps[19]?.getD undef = _ ∧ True := hf
        obtain ⟨f4, f8, -⟩ := F
        clear ho hf
        go_simp
        exact hK _ _ (Below.refl _ _) (Eq.refl _)
      refine And.intro ?_ ?_
      · intro a W hR hf ho K hK
        replace hR := ext_drew hR
        have F : a.tmps[20]?.getD undef = _ ∧ a.tmps[18]?.getD undef = _ ∧ True := hf
        obtain ⟨f9, f7, -⟩ := F
        clear ho hf
        go_simp
        exact hK _ _ (Below.refl _ _) (Eq.refl _)
      refine And.intro ?_ ?_
      · intro a W hR hf ho K hK
        replace hR := ext_drew hR
        have G : a.tmps[3]?.getD undef = _ ∧ True := ho
        obtain ⟨g3, -⟩ := G
        have F : a.tmps[21]?.getD undef = _ ∧ True := hf
        obtain ⟨f10, -⟩ := F
        clear ho hf
        go_simp
        exact hK _ _ (Below.refl _ _) (Eq.refl _)
      refine And.intro ?_ ?_
      · intro a W hR hf ho K hK
        replace hR := ext_drew hR
        have F : a.tmps[22]?.getD undef = _ ∧ a.tmps[21]?.getD undef = _ ∧ True := hf
        obtain ⟨f11, f10, -⟩ := F
        clear ho hf
        obtain ⟨y0, y1, y2⟩ := lie3 (heap_alloc_new w (.cells #[.int .i64 at', .int .i64 hN, .int .i64 time] 79)) hR; obtain ⟨z0, z1, z2⟩ := lie3 HM.out.1 ((Ext.alloc (Below.refl _ w) _).then hR); have zc := ext_cell ((Ext.alloc (Below.refl _ w) _).then hR) _ _ hc
        go_simp
        exact hK _ _ (Below.refl _ _) (Eq.refl _)
      refine And.intro ?_ ?_
      · intro a W hR hf ho K hK
        replace hR := ext_drew hR
        have F : a.tmps[23]?.getD undef = _ ∧ a.tmps[21]?.getD undef = _ ∧ True := hf
        obtain ⟨f12, f10, -⟩ := F
        clear ho hf
        go_simp
        exact hK _ _ (Below.refl _ _) (Eq.refl _)
      refine And.intro ?_ ?_
      · intro a W hR hf ho K hK
        replace hR := ext_drew hR
        have F : a.tmps[21]?.getD undef = _ ∧ a.tmps[24]?.getD undef = _ ∧ True := hf
        obtain ⟨f10, f13, -⟩ := F
        clear ho hf
        go_simp
        exact hK _ _ (Below.refl _ _) (Eq.refl _)
      refine And.intro ?_ ?_
      · intro a W hR hf ho K hK
        replace hR := ext_drew hR
        have F : a.tmps[25]?.getD undef = _ ∧ a.tmps[21]?.getD undef = _ ∧ True := hf
        obtain ⟨f14, f10, -⟩ := F
        clear ho hf
        go_simp
        exact hK _ _ (Below.refl _ _) (Eq.refl _)
      refine And.intro ?_ ?_
      · intro a W hR hf ho K hK
        replace hR := ext_drew hR
        have G : a.tmps[3]?.getD undef = _ ∧ True := ho
        obtain ⟨g3, -⟩ := G
        have F : a.tmps[26]?.getD undef = _ ∧ True := hf
        obtain ⟨f15, -⟩ := F
        clear ho hf
        go_simp
        exact hK _ _ (Below.refl _ _) (Eq.refl _)
      refine And.intro ?_ ?_
      · intro a W hR hf ho K hK
        replace hR := ext_drew hR
        have F : a.tmps[27]?.getD undef = _ ∧ a.tmps[26]?.getD undef = _ ∧ True := hf
        obtain ⟨f16, f15, -⟩ := F
        clear ho hf
        obtain ⟨y0, y1, y2⟩ := lie3 (heap_alloc_new w (.cells #[.int .i64 at', .int .i64 hN, .int .i64 time] 79)) hR; obtain ⟨z0, z1, z2⟩ := lie3 HM.out.1 ((Ext.alloc (Below.refl _ w) _).then hR); have zc := ext_cell ((Ext.alloc (Below.refl _ w) _).then hR) _ _ hc
        go_simp
        exact hK _ _ (Below.refl _ _) (Eq.refl _)
      refine And.intro ?_ ?_
      · intro a W hR hf ho K hK
        replace hR := ext_drew hR
        have F : a.tmps[28]?.getD undef = _ ∧ a.tmps[26]?.getD undef = _ ∧ True := hf
        obtain ⟨f17, f15, -⟩ := F
        clear ho hf
        go_simp
        exact hK _ _ (Below.refl _ _) (Eq.refl _)
      refine And.intro ?_ ?_
      · intro a W hR hf ho K hK
        replace hR := ext_drew hR
        have F : a.tmps[26]?.getD undef = _ ∧ a.tmps[29]?.getD undef = _ ∧ True := hf
        obtain ⟨f15, f18, -⟩ := F
        clear ho hf
        go_simp
        exact hK _ _ (Below.refl _ _) (Eq.refl _)
      refine And.intro ?_ ?_
      · intro a W hR hf ho K hK
        replace hR := ext_drew hR
        have F : a.tmps[30]?.getD undef = _ ∧ a.tmps[26]?.getD undef = _ ∧ True := hf
        obtain ⟨f19, f15, -⟩ := F
        clear ho hf
        go_simp
        exact hK _ _ (Below.refl _ _) (Eq.refl _)
      refine And.intro ?_ ?_
      · intro a W hR hf ho K hK
        replace hR := ext_drew hR
        have G : a.tmps[5]?.getD undef = _ ∧ True := ho
        obtain ⟨g5, -⟩ := G
        have F : a.tmps[31]?.getD undef = _ ∧ True := hf
        obtain ⟨f20, -⟩ := F
        clear ho hf
        go_simp
        exact hK _ _ (Below.refl _ _) (Eq.refl _)
      refine And.intro ?_ ?_
      · intro a W hR hf ho K hK
        replace hR := ext_drew hR
        have F : a.tmps[32]?.getD undef = _ ∧ a.tmps[31]?.getD undef = _ ∧ True := hf
        obtain ⟨f21, f20, -⟩ := F
        clear ho hf
        go_simp
        exact hK _ _ (Below.refl _ _) (Eq.refl _)
      refine And.intro ?_ ?_
      · intro a W hR hf ho K hK
        replace hR := ext_drew hR
        have F : a.tmps[33]?.getD undef = _ ∧ a.tmps[31]?.getD undef = _ ∧ a.tmps[31]?.getD undef = _ ∧ True := hf
        obtain ⟨f22, f20, -, -⟩ := F
        clear ho hf
        go_simp
        exact hK _ _ (Below.refl _ _) (Eq.refl _)
      refine And.intro ?_ ?_
      · intro a W hR hf ho K hK
        replace hR := ext_drew hR
        have G : a.tmps[3]?.getD undef = _ ∧ True := ho
        obtain ⟨g3, -⟩ := G
        have F : a.tmps[34]?.getD undef = _ ∧ True := hf
        obtain ⟨f23, -⟩ := F
        clear ho hf
        go_simp
        exact hK _ _ (Below.refl _ _) (Eq.refl _)
      refine And.intro ?_ ?_
      · intro a W hR hf ho K hK
        replace hR := ext_drew hR
        have F : a.tmps[35]?.getD undef = _ ∧ a.tmps[34]?.getD undef = _ ∧ True := hf
        obtain ⟨f24, f23, -⟩ := F
        clear ho hf
        obtain ⟨y0, y1, y2⟩ := lie3 (heap_alloc_new w (.cells #[.int .i64 at', .int .i64 hN, .int .i64 time] 79)) hR; obtain ⟨z0, z1, z2⟩ := lie3 HM.out.1 ((Ext.alloc (Below.refl _ w) _).then hR); have zc := ext_cell ((Ext.alloc (Below.refl _ w) _).then hR) _ _ hc
        go_simp
        exact hK _ _ (Below.refl _ _) (Eq.refl _)
      refine And.intro ?_ ?_
      · intro a W hR hf ho K hK
        replace hR := ext_drew hR
        have G : a.tmps[0]?.getD undef = _ ∧ True := ho
        obtain ⟨g0, -⟩ := G
        have F : a.tmps[34]?.getD undef = _ ∧ True := hf
        obtain ⟨f23, -⟩ := F
        clear ho hf
        go_simp
        exact hK _ _ (Below.refl _ _) (Eq.refl _)
      refine And.intro ?_ ?_
      · intro a W hR hf ho K hK
        replace hR := ext_drew hR
        have F : a.tmps[37]?.getD undef = _ ∧ a.tmps[34]?.getD undef = _ ∧ True := hf
        obtain ⟨f26, f23, -⟩ := F
        clear ho hf
        go_simp
        exact hK _ _ (Below.refl _ _) (Eq.refl _)
      refine And.intro ?_ ?_
      · intro a W hR hf ho K hK
        replace hR := ext_drew hR
        have F : a.tmps[38]?.getD undef = _ ∧ a.tmps[34]?.getD undef = _ ∧ True := hf
        obtain ⟨f27, f23, -⟩ := F
        clear ho hf
        go_simp
        exact hK _ _ (Below.refl _ _) (Eq.refl _)
      refine And.intro ?_ ?_
      · intro a W hR hf ho K hK
        replace hR := ext_drew hR
        have F : a.tmps[39]?.getD undef = _ ∧ a.tmps[34]?.getD undef = _ ∧ True := hf
        obtain ⟨f28, f23, -⟩ := F
        clear ho hf
        obtain ⟨y0, y1, y2⟩ := lie3 (heap_alloc_new w (.cells #[.int .i64 at', .int .i64 hN, .int .i64 time] 79)) hR; obtain ⟨z0, z1, z2⟩ := lie3 HM.out.1 ((Ext.alloc (Below.refl _ w) _).then hR); have zc := ext_cell ((Ext.alloc (Below.refl _ w) _).then hR) _ _ hc
        go_simp
        exact hK _ _ (Below.refl _ _) (Eq.refl _)
      refine And.intro ?_ ?_
      · intro a W hR hf ho K hK
        replace hR := ext_drew hR
        have G : a.tmps[5]?.getD undef = _ ∧ True := ho
        obtain ⟨g5, -⟩ := G
        have F : a.tmps[34]?.getD undef = _ ∧ True := hf
        obtain ⟨f23, -⟩ := F
        clear ho hf
        go_simp
        exact hK _ _ (Below.refl _ _) (Eq.refl _)
      refine And.intro ?_ ?_
      · intro a W hR hf ho K hK
        replace hR := ext_drew hR
        have F : a.tmps[41]?.getD undef = _ ∧ a.tmps[34]?.getD undef = _ ∧ True := hf
        obtain ⟨f30, f23, -⟩ := F
        clear ho hf
        go_simp
        exact hK _ _ (Below.refl _ _) (Eq.refl _)
      refine And.intro ?_ ?_
      · intro a W hR hf ho K hK
        replace hR := ext_drew hR
        have F : a.tmps[40]?.getD undef = _ ∧ a.tmps[42]?.getD undef = _ ∧ a.tmps[34]?.getD undef = _ ∧ True := hf
        obtain ⟨f29, f31, f23, -⟩ := F
        clear ho hf
        go_simp
        exact hK _ _ (Below.refl _ _) (Eq.refl _)
      refine And.intro ?_ ?_
      · intro a W hR hf ho K hK
        replace hR := ext_drew hR
        have F : a.tmps[43]?.getD undef = _ ∧ a.tmps[34]?.getD undef = _ ∧ True := hf
        obtain ⟨f32, f23, -⟩ := F
        clear ho hf
        go_simp
        exact hK _ _ (Below.refl _ _) (Eq.refl _)
      refine And.intro ?_ ?_
      · intro a W hR hf ho K hK
        replace hR := ext_drew hR
        have F : a.tmps[44]?.getD undef = _ ∧ a.tmps[34]?.getD undef = _ ∧ True := hf
        obtain ⟨f33, f23, -⟩ := F
        clear ho hf
        obtain ⟨y0, y1, y2⟩ := lie3 (heap_alloc_new w (.cells #[.int .i64 at', .int .i64 hN, .int .i64 time] 79)) hR; obtain ⟨z0, z1, z2⟩ := lie3 HM.out.1 ((Ext.alloc (Below.refl _ w) _).then hR); have zc := ext_cell ((Ext.alloc (Below.refl _ w) _).then hR) _ _ hc
        go_simp
        exact hK _ _ (Below.refl _ _) (Eq.refl _)
      refine And.intro ?_ ?_
      · intro a W hR hf ho K hK
        replace hR := ext_drew hR
        have F : a.tmps[36]?.getD undef = _ ∧ a.tmps[45]?.getD undef = _ ∧ a.tmps[34]?.getD undef = _ ∧ True := hf
        obtain ⟨f25, f34, f23, -⟩ := F
        clear ho hf
        go_simp
        exact hK _ _ (Below.refl _ _) (Eq.refl _)
      refine And.intro ?_ ?_
      · intro a W hR hf ho K hK
        replace hR := ext_drew hR
        have F : a.tmps[34]?.getD undef = _ ∧ a.tmps[46]?.getD undef = _ ∧ a.tmps[31]?.getD undef = _ ∧ True := hf
        obtain ⟨f23, f35, f20, -⟩ := F
        clear ho hf
        go_simp
        exact hK _ _ (Below.refl _ _) (Eq.refl _)
      refine And.intro ?_ ?_
      · intro a W hR hf ho K hK
        replace hR := ext_drew hR
        have F : a.tmps[31]?.getD undef = _ ∧ a.tmps[47]?.getD undef = _ ∧ True := hf
        obtain ⟨f20, f36, -⟩ := F
        clear ho hf
        go_simp
        exact hK _ _ (Below.refl _ _) (Eq.refl _)
      exact trivial
    case stab =>
      refine And.intro is_stable ?_
      refine And.intro is_stable ?_
      refine And.intro is_stable ?_
      refine And.intro is_stable ?_
      refine And.intro is_stable ?_
      refine And.intro is_stable ?_
      refine And.intro is_stable ?_
      refine And.intro is_stable ?_
      refine And.intro is_stable ?_
      refine And.intro is_stable ?_
      refine And.intro is_stable ?_
      refine And.intro is_stable ?_
      refine And.intro is_stable ?_
      refine And.intro is_stable ?_
      refine And.intro is_stable ?_
      refine And.intro is_stable ?_
      refine And.intro is_stable ?_
      refine And.intro is_stable ?_
      refine And.intro is_stable ?_
      refine And.intro is_stable ?_
      refine And.intro is_stable ?_
      refine And.intro is_stable ?_
      refine And.intro is_stable ?_
      refine And.intro is_stable ?_
      refine And.intro is_stable ?_
      refine And.intro is_stable ?_
      refine And.intro is_stable ?_
      refine And.intro is_stable ?_
      refine And.intro is_stable ?_
      refine And.intro is_stable ?_
      refine And.intro is_stable ?_
      refine And.intro is_stable ?_
      refine And.intro is_stable ?_
      refine And.intro is_stable ?_
      refine And.intro is_stable ?_
      refine And.intro is_stable ?_
      refine And.intro is_stable ?_
      refine And.intro is_stable ?_
      exact trivial
    case ends =>
      intro vals W hR hall
      replace hR := ext_drew hR
      have e48 : vals 48 = _ := hall 37 (by decide)
      clear hall
      simp only [fill, List.setIfInBounds_toArray, List.set_cons_succ, List.set_cons_zero, e48]
      have HE := Lib.hid (And.intro ((((Ext.alloc (Below.refl _ w) (.cells #[.int .i64 at', .int .i64 hN, .int .i64 time] 79)).then hR).block _ hp).trans HM.out.1) (And.intro ((hR.block w.heap.size (by simp)).trans (heap_alloc_new w _)) (And.intro (HM.out.2.1.ext ((Ext.alloc (Below.refl _ w) _).then hR)) ((Ext.alloc (Below.refl _ w) _).then hR))))
      clear hR
      go_wp2_with fail
      have fz := frozen_row' HE.out.1
      refine wp_region_res (Kept p r) [⟨none, [], [7]⟩, ⟨none, [], [4, 10]⟩, ⟨none, [], [5]⟩, ⟨some 6, [(6, [])], [7]⟩, ⟨some 7, [(7, [])], [10]⟩, ⟨some 10, [(7, [7])], []⟩] [(fun (u : Nat → Value) (W : World) => (fun (_ : Value) (W : World) => MidRow W base 79 3 (.slice (some ⟨g, o, none⟩) (k + 1) c) (k + 1) (heldC L)) (undef) W), (fun (u : Nat → Value) (W : World) => (fun (_ : Value) (W : World) => W.heap[p]? = some (.cells #[.int .i64 full, .int .i64 bytes, .slice (some ⟨g, o, none⟩) (k + 1) c] 96)) (undef) W), (fun (u : Nat → Value) (W : World) => (fun (_ : Value) (W : World) => W.heap[w.heap.size]? = some (.cells #[.int .i64 at', .int .i64 hN, .int .i64 time] 79)) (undef) W), (fun (u : Nat → Value) (W : World) => (NewLit 0 1 (HeldD.cells ⟨at', hN, time⟩) 79) (u 6) W), (fun (u : Nat → Value) (W : World) => (fun (v : Value) (W : World) => MidRow W base 79 3 v ((k + 1) + 1) (heldC L ++ HeldD.cells ⟨at', hN, time⟩) ∧ (v.ownBlock = r ∨ ∃ g, v.ownBlock = some g ∧ w.heap.size ≤ g)) (u 7) W), (fun (u : Nat → Value) (W : World) => W.heap[p]? = some (.cells #[.int .i64 full, .int .i64 bytes, u 7] 96) ∧ MidRow W base 79 3 (u 7) ((k + 1) + 1) (heldC L ++ HeldD.cells ⟨at', hN, time⟩) ∧ ((u 7).ownBlock = r ∨ ∃ g, (u 7).ownBlock = some g ∧ w.heap.size ≤ g))] [⟨[], [.keep, .keep, .keep, .keep, .keep, .early [0]]⟩, ⟨[], [.keep, .keep, .keep, .keep, .early [4, 3, 2, 1], .early [1]]⟩, ⟨[], [.keep, .keep, .keep, .keep, .early [4, 3, 2], .early [2]]⟩, ⟨[], [.keep, .keep, .keep, .keep, .early [4, 3], .early [3]]⟩, ⟨[(1, [])], [.keep, .keep, .keep, .keep, .early [4], .early [4]]⟩, ⟨[(2, [])], [.keep, .keep, .late [[]], .early [5], .early [6, 5], .early [5]]⟩, ⟨[], [.keep, .keep, .late [[5]], .last, .early [6], .early [6]]⟩, ⟨[(0, []), (3, [6])], [.late [[]], .keep, .late [[6, 5]], .late [[]], .last, .early [7]]⟩, ⟨[], [.late [[7]], .keep, .late [[5]], .late [[7]], .keep, .early [9, 8]]⟩, ⟨[], [.late [[7]], .keep, .late [[5]], .late [[7]], .keep, .early [9]]⟩, ⟨[(1, []), (4, [7])], [.late [[7]], .late [[4], []], .late [[5]], .late [[7]], .late [[]], .last]⟩] [49, 50, 51, 52, 53, 54, 55, 56, 57, 58] (by kernel_rfl) (fun _ => Kept.of_ext (Below.refl _ _)) (fun _ _ _ h k => Kept.trans h k (.inl rfl)) (by kernel_rfl) (by kernel_rfl) (by kernel_rfl) (by kernel_rfl) (by kernel_rfl) ?start ?_
      case start =>
        refine And.intro ?_ ?_
        · exact HE.out.2.2.1.ext (Ext.drew (Below.refl _ _))
        refine And.intro ?_ ?_
        · exact HE.out.1
        refine And.intro ?_ ?_
        · exact HE.out.2.1
        exact trivial
      apply ex_is; apply Exists.intro
      apply ex_is; apply Exists.intro
      apply ex_is; apply Exists.intro
      apply ex_is; apply Exists.intro
      apply ex_is; apply Exists.intro
      apply ex_is; apply Exists.intro
      refine ex_phi (fun _ _ => True) ?_
      refine ex_phi (fun _ _ => True) ?_
      apply ex_is; apply Exists.intro
      apply ex_is; apply Exists.intro
      refine ex_phi (fun _ _ => True) ?_
      refine ⟨[], ⟨?steps, ?stab, ?ends⟩⟩
      case steps =>
        refine And.intro (obX_pure (fun _ => Kept.of_ext (Below.refl _ _)) ?_) ?_
        · intro act W hR hf ho hu K hK
          replace hK := fun v h2 => hK v W rfl h2 trivial
          have G : act.tmps[0]?.getD undef = _ ∧ True := ho
          obtain ⟨g0, -⟩ := G
          clear ho hf hu
          go_simp
          exact hK _ (Eq.refl _)
        refine And.intro (obX_pure (fun _ => Kept.of_ext (Below.refl _ _)) ?_) ?_
        · intro act W hR hf ho hu K hK
          replace hK := fun v h2 => hK v W rfl h2 trivial
          have G : act.tmps[0]?.getD undef = _ ∧ True := ho
          obtain ⟨g0, -⟩ := G
          clear ho hf hu
          go_simp
          exact hK _ (Eq.refl _)
        refine And.intro (obX_pure (fun _ => Kept.of_ext (Below.refl _ _)) ?_) ?_
        · intro act W hR hf ho hu K hK
          replace hK := fun v h2 => hK v W rfl h2 trivial
          have F : act.tmps[50]?.getD undef = _ ∧ True := hf
          obtain ⟨f1, -⟩ := F
          clear ho hf hu
          go_simp
          exact hK _ (Eq.refl _)
        refine And.intro (obX_pure (fun _ => Kept.of_ext (Below.refl _ _)) ?_) ?_
        · intro act W hR hf ho hu K hK
          replace hK := fun v h2 => hK v W rfl h2 trivial
          have F : act.tmps[51]?.getD undef = _ ∧ True := hf
          obtain ⟨f2, -⟩ := F
          clear ho hf hu
          go_simp
          exact hK _ (Eq.refl _)
        refine And.intro (obX_pure (fun _ => Kept.of_ext (Below.refl _ _)) ?_) ?_
        · intro act W hR hf ho hu K hK
          replace hK := fun v h2 => hK v W rfl h2 trivial
          have F : act.tmps[52]?.getD undef = _ ∧ True := hf
          obtain ⟨f3, -⟩ := F
          have U : (fun (_ : Value) (W : World) => W.heap[p]? = some (.cells #[.int .i64 full, .int .i64 bytes, .slice (some ⟨g, o, none⟩) (k + 1) c] 96)) (undef) W ∧ True := hu
          obtain ⟨r_row, -⟩ := U
          clear ho hf hu
          have q5 := cellAt r_row 2 (.slice (some ⟨g, o, none⟩) (k + 1) c) rfl
          go_simp
          exact hK _ (Eq.refl _)
        refine And.intro (obX_pure (fun _ => Kept.of_ext (Below.refl _ _)) ?_) ?_
        · intro act W hR hf ho hu K hK
          replace hK := fun v h2 => hK v W rfl h2 trivial
          have G : act.tmps[3]?.getD undef = _ ∧ True := ho
          obtain ⟨g3, -⟩ := G
          have U : (fun (_ : Value) (W : World) => W.heap[w.heap.size]? = some (.cells #[.int .i64 at', .int .i64 hN, .int .i64 time] 79)) (undef) W ∧ True := hu
          obtain ⟨r_cap, -⟩ := U
          clear ho hf hu
          obtain ⟨y0, y1, y2⟩ := lie3 r_cap (Below.refl _ W)
          go_simp
          exact hK _ (Eq.refl _)
        refine And.intro (obX_eff (Ext) (fun _ _ h => Kept.of_ext h) (And.intro (fun _ _ _ h e => h.ext e) (And.intro (fun _ _ _ h e => (e.block _ (Array.getElem?_eq_some_iff.1 h).1).trans h) (trivial))) ?_) ?_
        · intro act W hR hf ho hu K hK
          replace hK := fun v (w' : World) (h1 : (Ext) W w') (b3 : (NewLit 0 1 (HeldD.cells ⟨at', hN, time⟩) 79) (v) w') => hK v w' h1 trivial ⟨b3, trivial⟩
          have F : act.tmps[54]?.getD undef = _ ∧ True := hf
          obtain ⟨f5, -⟩ := F
          clear ho hf hu
          go_simp
          exact hK _ _ (by repeat first | (with_reducible exact Below.refl _ _) | (with_reducible apply Ext.alloc) | (with_reducible apply Ext.drew) | (with_reducible apply Ext.drewN) | (with_reducible refine Ext.set ?_ (by simp))) (NewLit.new (Nat.zero_le _))
        refine And.intro (obX_eff (fun x y => x.grownBy y r) (fun _ _ h => Kept.of_grown h) (And.intro (fun _ _ _ h e => (e.block _ (Array.getElem?_eq_some_iff.1 h).1 (fun e' => HH.out.2.2.2 e'.symm)).trans h) (trivial)) ?_) ?_
        · intro act W hR hf ho hu K hK
          replace hK := fun v (w' : World) (h1 : (fun x y => x.grownBy y r) W w') (b4 : (fun (v : Value) (W : World) => MidRow W base 79 3 v ((k + 1) + 1) (heldC L ++ HeldD.cells ⟨at', hN, time⟩) ∧ (v.ownBlock = r ∨ ∃ g, v.ownBlock = some g ∧ w.heap.size ≤ g)) (v) w') => hK v w' h1 trivial ⟨b4, trivial⟩
          have F : act.tmps[53]?.getD undef = _ ∧ (fun _ _ => True) (act.tmps[55]?.getD undef) W ∧ True := hf
          obtain ⟨f4, -, -⟩ := F
          have U : (fun (_ : Value) (W : World) => MidRow W base 79 3 (.slice (some ⟨g, o, none⟩) (k + 1) c) (k + 1) (heldC L)) (undef) W ∧ (NewLit 0 1 (HeldD.cells ⟨at', hN, time⟩) 79) (act.tmps[55]?.getD undef) W ∧ True := hu
          obtain ⟨r_own, r_n6, -⟩ := U
          generalize f6 : act.tmps[55]?.getD undef = v6 at r_n6
          clear ho hf hu
          obtain ⟨b3, rfl, -, hl3⟩ := r_n6
          dsimp only [Option.elim] at f4
          rw [← seen_eq]; refine step_append_mid W rfl (.tmp 53) (.tmp 55) 80 rfl base 79 ci (.agg #[.int .i64 0, .int .i64 0, .int .i64 0]) 3 24 Try.underlying80 hci hci0 hci1 hci2 rfl (by decide) _ _ _ (eval_get f4) r_own ⟨b3, 0, none⟩ 1 1 (HeldD.cells ⟨at', hN, time⟩) (eval_get f6) rfl (lit_cells' hl3) (by simp [Value.oneCell']) (by unfold maxLen; omega) (by omega) (Nat.le_trans (Nat.le_trans HM.out.2.2.1 HE.out.2.2.2.size) hR.size) ?_; intro v' w' ho' hg' hw'; exact hK _ _ (by rw [HM.out.2.2.2]; exact hg') ⟨ho', hw'.imp (fun e => by rw [e, HM.out.2.2.2]) (fun e => ⟨_, e, Nat.le_trans HE.out.2.2.2.size hR.size⟩)⟩
        refine And.intro (obX_pure (fun _ => Kept.of_ext (Below.refl _ _)) ?_) ?_
        · intro act W hR hf ho hu K hK
          replace hK := fun v h2 => hK v W rfl h2 trivial
          have F : act.tmps[49]?.getD undef = _ ∧ act.tmps[49]?.getD undef = _ ∧ act.tmps[50]?.getD undef = _ ∧ act.tmps[51]?.getD undef = _ ∧ act.tmps[52]?.getD undef = _ ∧ act.tmps[53]?.getD undef = _ ∧ act.tmps[54]?.getD undef = _ ∧ (fun _ _ => True) (act.tmps[55]?.getD undef) W ∧ (fun _ _ => True) (act.tmps[56]?.getD undef) W ∧ True := hf
          obtain ⟨f0, -, f1, f2, f3, f4, f5, -, -, -⟩ := F
          generalize f6 : act.tmps[55]?.getD undef = v6
          generalize f7 : act.tmps[56]?.getD undef = v7
          clear ho hf hu
          go_simp
          exact hK _ (Eq.refl _)
        refine And.intro (obX_pure (fun _ => Kept.of_ext (Below.refl _ _)) ?_) ?_
        · intro act W hR hf ho hu K hK
          replace hK := fun v h2 => hK v W rfl h2 trivial
          have F : act.tmps[57]?.getD undef = _ ∧ act.tmps[49]?.getD undef = _ ∧ act.tmps[50]?.getD undef = _ ∧ act.tmps[51]?.getD undef = _ ∧ act.tmps[52]?.getD undef = _ ∧ act.tmps[53]?.getD undef = _ ∧ act.tmps[54]?.getD undef = _ ∧ (fun _ _ => True) (act.tmps[55]?.getD undef) W ∧ (fun _ _ => True) (act.tmps[56]?.getD undef) W ∧ True := hf
          obtain ⟨f8, f0, f1, f2, f3, f4, f5, -, -, -⟩ := F
          generalize f6 : act.tmps[55]?.getD undef = v6
          generalize f7 : act.tmps[56]?.getD undef = v7
          clear ho hf hu
          go_simp
          exact hK _ (Eq.refl _)
        refine And.intro (obX_eff (Kept p r) (fun _ _ h => h) (trivial) ?_) ?_
        · intro act W hR hf ho hu K hK
          replace hK := fun (w' : World) (h1 : (Kept p r) W w') (b5 : (fun (W : World) => W.heap[p]? = some (.cells #[.int .i64 full, .int .i64 bytes, (act.tmps[56]?.getD undef)] 96) ∧ MidRow W base 79 3 ((act.tmps[56]?.getD undef)) ((k + 1) + 1) (heldC L ++ HeldD.cells ⟨at', hN, time⟩) ∧ (((act.tmps[56]?.getD undef)).ownBlock = r ∨ ∃ g, ((act.tmps[56]?.getD undef)).ownBlock = some g ∧ w.heap.size ≤ g)) w') => hK undef w' h1 trivial ⟨b5, trivial⟩
          have F : act.tmps[58]?.getD undef = _ ∧ (fun _ _ => True) (act.tmps[56]?.getD undef) W ∧ (fun _ _ => True) (act.tmps[56]?.getD undef) W ∧ act.tmps[49]?.getD undef = _ ∧ act.tmps[50]?.getD undef = _ ∧ act.tmps[51]?.getD undef = _ ∧ act.tmps[52]?.getD undef = _ ∧ act.tmps[53]?.getD undef = _ ∧ act.tmps[54]?.getD undef = _ ∧ (fun _ _ => True) (act.tmps[55]?.getD undef) W ∧ (fun _ _ => True) (act.tmps[56]?.getD undef) W ∧ True := hf
          obtain ⟨f9, -, -, f0, f1, f2, f3, f4, f5, -, -, -⟩ := F
          have U : (fun (_ : Value) (W : World) => W.heap[p]? = some (.cells #[.int .i64 full, .int .i64 bytes, .slice (some ⟨g, o, none⟩) (k + 1) c] 96)) (undef) W ∧ (fun (v : Value) (W : World) => MidRow W base 79 3 v ((k + 1) + 1) (heldC L ++ HeldD.cells ⟨at', hN, time⟩) ∧ (v.ownBlock = r ∨ ∃ g, v.ownBlock = some g ∧ w.heap.size ≤ g)) (act.tmps[56]?.getD undef) W ∧ True := hu
          obtain ⟨r_row, r_r7, -⟩ := U
          generalize f7 : act.tmps[56]?.getD undef = v7 at r_r7 hK
          generalize f6 : act.tmps[55]?.getD undef = v6
          clear ho hf hu
          obtain ⟨A7, c7, rfl, -, -, -⟩ := r_r7.1.arr; have fz := frozen_row' r_row; have q6 := cellAt r_row 2 (.slice (some ⟨g, o, none⟩) (k + 1) c) rfl; have HF := Lib.hid (And.intro (Kept.set (p := p) (r := r) W 2 none (.slice A7 ((k + 1) + 1) c7)) (And.intro (set_row (o := 2) r_row (.slice A7 ((k + 1) + 1) c7)) (And.intro (MidRow.kept r_r7.1 (set_gr (w := W) (b := p) (o := 2) (v := .slice A7 ((k + 1) + 1) c7)) (fun b hb e => r_r7.1.ne r_row (by decide) (by rw [hb, e]))) r_r7.2)))
          go_simp
          exact hK _ HF.out.1 ⟨HF.out.2.1, HF.out.2.2.1, HF.out.2.2.2⟩
        exact trivial
      case stab =>
        refine And.intro is_stable ?_
        refine And.intro is_stable ?_
        refine And.intro is_stable ?_
        refine And.intro is_stable ?_
        refine And.intro is_stable ?_
        refine And.intro is_stable ?_
        refine And.intro (fun _ _ _ h _ => h) ?_
        refine And.intro (fun _ _ _ h _ => h) ?_
        refine And.intro is_stable ?_
        refine And.intro is_stable ?_
        refine And.intro (fun _ _ _ h _ => h) ?_
        exact trivial
      case ends =>
        intro vals W hR hE hall
        have E : (fun (W : World) => W.heap[p]? = some (.cells #[.int .i64 full, .int .i64 bytes, (vals 56)] 96) ∧ MidRow W base 79 3 ((vals 56)) ((k + 1) + 1) (heldC L ++ HeldD.cells ⟨at', hN, time⟩) ∧ (((vals 56)).ownBlock = r ∨ ∃ g, ((vals 56)).ownBlock = some g ∧ w.heap.size ≤ g)) W ∧ True := hE
        obtain ⟨e_fin, -⟩ := E
        clear hE
        clear hall
        generalize ev56 : vals 56 = x56 at e_fin
        simp only [fill, List.setIfInBounds_toArray, List.set_cons_succ, List.set_cons_zero, ev56]
        obtain ⟨h1, h2, h3⟩ := e_fin
        have K1 : Kept p r w W := (Kept.of_ext (Ext.drew HE.out.2.2.2)).trans hR (.inl rfl)
        have hb7 : W.heap[w.heap.size]? = some (.cells #[.int .i64 at', .int .i64 hN, .int .i64 time] 79) := (hR.block _ (Array.getElem?_eq_some_iff.1 HE.out.2.1).1 (by omega) (fun e => by have := hlt5 w.heap.size (by rw [← HM.out.2.2.2, e]); omega)).trans HE.out.2.1
        have fz7 := frozen_row' h1
        obtain ⟨y0, y1, y2⟩ := lie3 h1 (Below.refl _ W)
        obtain ⟨z0, z1, z2⟩ := lie3 hb7 (Below.refl _ W)
        have H7 := Lib.hid (And.intro h1 (And.intro h2 (And.intro h3 K1)))
        have hl1 := cell_lt y0
        have hl2 := cell_lt z0
        simp only at hl1 hl2
        clear h1 h2 h3 K1 hR HE hb7
        go_wp2_with fail
        go_region
        go_wp2_with fail
        go_ret
        have hl9 : (L ++ [(⟨at', hN, time⟩ : HeldD)]).length = (k + 1) + 1 := by rw [List.length_append, HN.out]; rfl
        have hc9 : heldC (L ++ [(⟨at', hN, time⟩ : HeldD)]) = heldC L ++ HeldD.cells ⟨at', hN, time⟩ := by rw [heldC_app]; rfl
        refine ⟨rfl, _, ⟨set_row (o := 1) H7.out.1 _, ?_⟩, ?_, ?_⟩
        · rw [hl9, hc9]
          exact (MidRow.kept H7.out.2.1 (set_gr (b := p) (o := 1)) (fun b hb e => H7.out.2.1.ne H7.out.1 (by decide) (by rw [hb, e]))).ext (Ext.drew (Below.refl _ _))
        · rw [← HM.out.2.2.2]
          exact (H7.out.2.2.2.trans (Kept.set (r := r) _ _ none _) (.inl rfl)).trans (Kept.of_ext (Ext.drew (Below.refl _ _))) (.inl rfl)
        · rw [← HM.out.2.2.2]
          exact H7.out.2.2.1
end Go.Proofs.Ytpjlhkepdiajjaa

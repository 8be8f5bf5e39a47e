
/- HeapSums: the walk. -/
import Derived.Test.YtpjlhkepdiajjaaHead14
import Derived.Test.YtpjlhkepdiajjaaOps14
import Derived.Deep.DeepCutAuto
set_option linter.all false
namespace Go.Proofs.Ytpjlhkepdiajjaa
open Go.RowKit Go.Shelf
attribute [local go_sem] seen dstOf boolOf

theorem newOk_rootS {f g full : Int} (hf : 0 ≤ f ∧ f % 16 = 0) (hg : 0 ≤ g) (ht : f + 16 * g ≤ 16777216) (h1 : 1 ≤ full) (h2 : full ≤ 16777216) : newOk (rootC f g) full := by
  refine ⟨by unfold mayBe rootC; simp only; omega, h1, h2, ?_, rfl, rfl⟩
  unfold rightC rootC addrB permB
  simp only [Bool.not_true, Bool.false_or]
  simp
  omega
theorem wf_rootS {f g : Int} (hf : 0 ≤ f) (hg : 0 ≤ g) (ht : f + 16 * g ≤ 16777216) : CapWf (rootC f g) := ⟨by unfold i64ok' rootC; simp only; omega, by unfold i64ok' rootC; simp only; omega, by unfold i64ok' rootC; simp only; omega, by unfold i64ok' rootC; simp only; omega, by unfold i64ok' rootC; simp only; omega⟩
/-- What stays as it is. -/
def Same (X Y : HeapD) : Prop := Y.root = X.root ∧ Y.full = X.full
theorem same_alloc (X : HeapD) (n : Int) : Same X (allocD X n).1 := by
  unfold allocD
  split
  · exact ⟨rfl, rfl⟩
  · split <;> exact ⟨rfl, rfl⟩
theorem same_free (X : HeapD) (c : Cap) : Same X (freeD X c) := by
  unfold freeD
  split <;> exact ⟨rfl, rfl⟩
theorem same_begin (X : HeapD) : Same X (beginD X) := by
  unfold beginD
  split <;> exact ⟨rfl, rfl⟩
theorem same_end (X : HeapD) : Same X (endD X) := by
  unfold endD
  split <;> exact ⟨rfl, rfl⟩
theorem cap_wf {X : HeapD} (ok : HeapOk X) (n : Int) : CapWf (allocD X n).2.1 := by
  have hz : CapWf Cap.zero := ⟨by unfold i64ok' Cap.zero; simp, by unfold i64ok' Cap.zero; simp, by unfold i64ok' Cap.zero; simp, by unfold i64ok' Cap.zero; simp, by unfold i64ok' Cap.zero; simp⟩
  cases h1 : (roundD n).2 with
  | false => unfold allocD; rw [if_pos h1]; exact hz
  | true =>
    cases h2 : (takeR X.R (roundD n).1).2.2 with
    | false => unfold allocD; rw [if_neg (by rw [h1]; simp), if_pos h2]; exact hz
    | true =>
      have ht := take_new ok h2
      have hf := round_fits h1
      have he := ok.ends
      unfold mayBe at he
      rw [alloc_fits h1 h2]
      exact ⟨by unfold i64ok'; simp only; omega, by unfold i64ok'; simp only; omega, by unfold i64ok'; simp only; omega, ok.wf.perms, ok.wf.ty⟩
theorem code_cases (X : HeapD) (n : Int) : (allocD X n).2.2 = 0 ∨ (allocD X n).2.2 = 1 ∨ (allocD X n).2.2 = 5 := by
  unfold allocD
  split
  · exact .inr (.inl rfl)
  · split
    · exact .inr (.inr rfl)
    · exact .inl rfl
/-- What stands between two calls. -/
structure SumsIn (w : World) (s hp : Nat) (g : Int) (k : Nat) (X : HeapD) (v : Value) (L : List Cap) (W : World) : Prop where
  run : RunAt w hp s X W
  ok : HeapOk X
  root : X.root = rootC 512 g
  full : X.full = 64
  own : W.ownsRow w.heap.size 27 6 v L.length (capCells L)
  wf : ∀ c ∈ L, CapWf c
  len : L.length ≤ k
theorem SumsIn.ext {w W W' : World} {s hp k : Nat} {g : Int} {X : HeapD} {v : Value} {L : List Cap} (h : SumsIn w s hp g k X v L W) (e : Ext W W') : SumsIn w s hp g k X v L W' :=
  ⟨h.run.ext e, h.ok, h.root, h.full, own_ext h.own e, h.wf, h.len⟩
theorem SumsIn.turn {w W W' : World} {s hp k : Nat} {g : Int} {X Y : HeapD} {v : Value} {L : List Cap} (h : SumsIn w s hp g k X v L W) (r : RunAt w hp s Y W') (c : Calm W W') (ok : HeapOk Y) (sm : Same X Y) : SumsIn w s hp g k Y v L W' :=
  ⟨r, ok, sm.1.trans h.root, sm.2.trans h.full, c.own h.own (by decide), h.wf, h.len⟩
theorem SumsIn.next {w W : World} {s hp k : Nat} {g : Int} {X : HeapD} {v : Value} {L : List Cap} (h : SumsIn w s hp g k X v L W) : SumsIn w s hp g (k + 1) X v L W := ⟨h.run, h.ok, h.root, h.full, h.own, h.wf, Nat.le_succ_of_le h.len⟩
set_option maxHeartbeats 8000000 in
set_option maxRecDepth 40000 in
theorem sums14_any (g : Int) (A : Option Addr) (c : Nat) (l : List OpD) (w : World) (hg : 0 ≤ g ∧ g ≤ 255) (hA : Arr w A (opCells l)) (hlc : l.length ≤ c) (hcm : c ≤ maxLen) (hwf : ∀ x ∈ l, OpWf x) : Calls Try.prog 6 #[.int .u8 g, .slice A l.length c] w fun e w' => e = .returned (.bool true) ∧ Ext w w' := by
  obtain ⟨ci, hci, hci0, hci1, hci2⟩ := info_parts infoCap
  obtain ⟨G, rfl⟩ := Int.eq_ofNat_of_zero_le hg.1
  have hlm : l.length ≤ 9223372036854775807 := by unfold maxLen at hcm; omega
  have HA := Lib.hid (And.intro hA hwf)
  have hw0 : IntKind.i64.wrap (G : Int) = (G : Int) := IntWalk.i64_in _ (by omega)
  have hw16 : IntKind.i64.wrap (16 * (G : Int)) = 16 * (G : Int) := IntWalk.i64_in _ (by omega)
  clear hA hwf hcm
  go_enter Try.func6, Try.ntmps6
  go_wp2_with fail
  refine (head14 _).mono ?_
  rintro _ w1 ⟨rfl, hE⟩
  have H1 := Lib.hid hE
  clear hE
  go_wp2_with fail
  refine (newS_any 400 w1).mono ?_
  rintro _ w2 (⟨hb, -⟩ | ⟨-, rfl, hS, hE⟩)
  · omega
  obtain ⟨ws0, hS⟩ : ∃ ws0, ShadAt w2 (w1.heap.size + 1) w1.heap.size 400 ws0 := ⟨_, hS⟩
  have H2 := Lib.hid (And.intro (H1.out.then hE) hS)
  clear hE hS
  by_cases hl : l.length ≤ 200
  · have hl' : ¬ (200 < (l.length : Int)) := by omega
    go_wp2_with fail
    refine (root_any 512 (G : Int) _ (by omega) (by omega)).mono ?_
    rintro _ w3 ⟨rfl, hE⟩
    have H3 := Lib.hid (And.intro (H2.out.1.then hE) (H2.out.2.ext hE))
    clear hE
    go_wp2_with fail
    refine (new_run (w0 := w) (rootC 512 (G : Int)) (w1.heap.size + 1) w1.heap.size 400 ws0 64 H3.out.1 H1.out.size H3.out.2 (wf_rootS (by omega) (by omega) (by omega)) (newOk_rootS (by omega) (by omega) (by omega) (by omega) (by omega))).mono ?_
    rintro _ w4 ⟨hE, hp, rfl, hR⟩
    have ok0 : HeapOk (startD (rootC 512 (G : Int)) 64 400 ws0) := heap_start (wf_rootS (by omega) (by omega) (by omega)) (newOk_rootS (by omega) (by omega) (by omega) (by omega) (by omega)) (by unfold rootC; simp only; omega) (by unfold rootC; simp only; omega)
    have h4 : SumsIn w (w1.heap.size + 1) hp (G : Int) 0 (startD (rootC 512 (G : Int)) 64 400 ws0) (.slice none 0 0) [] w4 := ⟨hR, ok0, rfl, rfl, World.ownsRow_nil _ _ _ _, by simp, Nat.le_refl _⟩
    have H4 := Lib.hid h4
    clear hE hR ok0 h4
    go_wp2_with fail
    go_loopw [8, 9] (fun v i wr => ∃ (k : Nat) (X : HeapD) (L : List Cap), k ≤ l.length ∧ i = .int .i64 (k : Int) ∧ SumsIn w (w1.heap.size + 1) hp (G : Int) k X v L wr) (fun _ i _ => l.length - (intOf i).toNat)
    case atStart => exact ⟨0, _, _, Nat.zero_le _, rfl, H4.out⟩
    case round =>
      obtain ⟨k, X, L, hk, rfl, hI⟩ := hrel
      by_cases hlt : k < l.length
      · obtain ⟨b, o, rfl, hb, x0, x1, x2, x3, x4, x5, x6, x7⟩ := op_row (HA.out.1.ext hI.run.from) hlt
        have hx := HA.out.2 l[k] (List.getElem_mem hlt)
        generalize l[k] = op at x0 x1 x2 x3 x4 x5 x6 x7 hx
        obtain ⟨what, N, tg, bs, tp, at', pe, ty⟩ := op
        simp only at x0 x1 x2 x3 x4 x5 x6 x7
        obtain ⟨Al, cl, rfl, hcl, hAl⟩ := Arr.own hI.own
        have HI := Lib.hid (And.intro hI (And.intro hx hAl))
        clear hI hx hAl
        -- CASES
        have hbx : (wr.alloc (.cells #[.int .i64 what, .int .i64 N, .bool tg, .int .i64 bs, .int .i64 tp, .int .i64 at', .int .i64 pe, .int .i64 ty] 33)).heap[wr.heap.size]? = some (.cells #[.int .i64 what, .int .i64 N, .bool tg, .int .i64 bs, .int .i64 tp, .int .i64 at', .int .i64 pe, .int .i64 ty] 33) := heap_alloc_new wr _
        have hE0 : Ext wr (wr.alloc (.cells #[.int .i64 what, .int .i64 N, .bool tg, .int .i64 bs, .int .i64 tp, .int .i64 at', .int .i64 pe, .int .i64 ty] 33)) := (by repeat first | (with_reducible exact Below.refl _ _) | (with_reducible apply Ext.alloc) | (with_reducible apply Ext.drew) | (with_reducible apply Ext.drewN) | (with_reducible refine Ext.set ?_ (by simp)))
        have HB := Lib.hid (And.intro hbx hE0)
        clear hbx hE0
        by_cases hw3 : what = 3
        · subst hw3
          go_wp2_with fail
          refine (pick_any Al cl L N _ (HI.out.2.2.ext HB.out.2) (by have := HI.out.1.len; omega) HI.out.2.1.n).mono ?_
          rintro _ w5 ⟨rfl, hE⟩
          have HP := Lib.hid (HI.out.1.ext (HB.out.2.then hE))
          clear hE
          go_wp2_with fail
          refine (free_run HP.out.run HP.out.ok (pickD L N) (pick_mem HP.out.wf)).mono ?_
          rintro _ w6 ⟨rfl, hR6, hc6⟩
          have HT := Lib.hid (HP.out.turn hR6 hc6 (heap_free HP.out.ok (pickD L N)) (same_free X (pickD L N))).next
          clear hR6 hc6
          obtain ⟨X5, hX5⟩ : ∃ X5, X5 = freeD X (pickD L N) := ⟨_, rfl⟩
          rw [← hX5] at HT
          clear hX5
          go_wp2_with fail
          refine (live_run HT.out.run HT.out.ok).mono ?_
          rintro _ wa ⟨rfl, hE⟩
          have HU := Lib.hid (HT.out.ext hE)
          clear hE
          have htot := HU.out.ok.total
          rw [HU.out.root] at htot
          have hbb := HU.out.ok.bytes
          have hbf := HU.out.ok.free0
          have hbl := HU.out.ok.livesum
          have hst0 : 0 ≤ sumT X5.L := Int.le_trans (leftT_le (L := X5.L) (fun l hl => by have := HU.out.ok.live hl; omega) (fun _ => true)).1 (leftT_le (L := X5.L) (fun l hl => by have := HU.out.ok.live hl; omega) (fun _ => true)).2
          simp only [rootC] at htot
          have hw1 : IntKind.i64.wrap (sumT X5.L + sumN X5.Q) = sumT X5.L + sumN X5.Q := IntWalk.i64_in _ (by omega)
          have hw2 : IntKind.i64.wrap (sumT X5.L + sumN X5.Q + sumR X5.R) = 16 * (G : Int) := by rw [IntWalk.i64_in _ (by omega)]; omega
          obtain ⟨ck, c8, hck⟩ := HU.out.run.clock
          have hwd : wantsD X5 = (!runsB X5.time && decide (64 ≤ sumN X5.Q)) := by unfold wantsD; rw [HU.out.full]
          have hc8l := cell_lt c8
          simp only at hc8l
          cases hru : runsB X5.time with
          | false =>
            rw [hru] at hwd
            have HWD := Lib.hid hwd
            have HRU := Lib.hid hru
            clear hwd hru htot
            go_wp2_with fail
            refine wp_region_obl Ext [89, 90, 91, 92, 93, 94, 95, 96, 97, 98, 99, 100, 101, 102, 103, 104, 105, 106, 107, 108, 109, 110, 111, 112, 113, 114, 115, 116] (by kernel_rfl) (fun _ => Below.refl _ _) (fun _ _ _ => Ext.then) (by kernel_rfl) (by kernel_rfl) ?_
            apply ex_is; apply Exists.intro
            apply ex_is; apply Exists.intro
            apply ex_is; apply Exists.intro
            apply ex_is; apply Exists.intro
            apply ex_is; apply Exists.intro
            apply ex_is; apply Exists.intro
            apply ex_is; apply Exists.intro
            apply ex_is; apply Exists.intro
            apply ex_is; apply Exists.intro
            apply ex_is; apply Exists.intro
            apply ex_is; apply Exists.intro
            apply ex_is; apply Exists.intro
            apply ex_is; apply Exists.intro
            apply ex_is; apply Exists.intro
            apply ex_is; apply Exists.intro
            apply ex_is; apply Exists.intro
            apply ex_is; apply Exists.intro
            apply ex_is; apply Exists.intro
            apply ex_is; apply Exists.intro
            apply ex_is; apply Exists.intro
            apply ex_is; apply Exists.intro
            apply ex_is; apply Exists.intro
            apply ex_is; apply Exists.intro
            apply ex_is; apply Exists.intro
            apply ex_is; apply Exists.intro
            apply ex_is; apply Exists.intro
            apply ex_is; apply Exists.intro
            apply ex_is; apply Exists.intro
            refine ⟨[], ⟨?steps, ?stab, ?ends⟩⟩
            case steps =>
              refine And.intro ?_ ?_
              · intro a W hR hf ho K hK
                replace hR := ext_drew hR
                have G : a.tmps[14]?.getD undef = _ ∧ True := ho
                obtain ⟨g14, -⟩ := G
                clear ho hf
                go_simp
                exact hK _ _ (Below.refl _ _) (Eq.refl _)
              refine And.intro ?_ ?_
              · intro a W hR hf ho K hK
                replace hR := ext_drew hR
                have G : a.tmps[7]?.getD undef = _ ∧ True := ho
                obtain ⟨g7, -⟩ := G
                clear ho hf
                go_simp
                exact hK _ _ (Below.refl _ _) (Eq.refl _)
              refine And.intro ?_ ?_
              · intro a W hR hf ho K hK
                replace hR := ext_drew hR
                have F : a.tmps[90]?.getD undef = _ ∧ True := hf
                obtain ⟨f1, -⟩ := F
                clear ho hf
                go_simp
                refine (apart_run (HU.out.run.ext hR)).mono ?_; rintro e W1 ⟨rfl, hE⟩; exact hK _ _ hE (Eq.refl _)
              refine And.intro ?_ ?_
              · intro a W hR hf ho K hK
                replace hR := ext_drew hR
                have F : a.tmps[89]?.getD undef = _ ∧ a.tmps[91]?.getD undef = _ ∧ True := hf
                obtain ⟨f0, f2, -⟩ := F
                clear ho hf
                go_simp
                exact hK _ _ (Below.refl _ _) (Eq.refl _)
              refine And.intro ?_ ?_
              · intro a W hR hf ho K hK
                replace hR := ext_drew hR
                have G : a.tmps[7]?.getD undef = _ ∧ True := ho
                obtain ⟨g7, -⟩ := G
                clear ho hf
                go_simp
                exact hK _ _ (Below.refl _ _) (Eq.refl _)
              refine And.intro ?_ ?_
              · intro a W hR hf ho K hK
                replace hR := ext_drew hR
                have F : a.tmps[93]?.getD undef = _ ∧ a.tmps[91]?.getD undef = _ ∧ True := hf
                obtain ⟨f4, f2, -⟩ := F
                clear ho hf
                go_simp
                refine (left_run (HU.out.run.ext hR)).mono ?_; rintro e W1 ⟨rfl, hE⟩; exact hK _ _ hE (Eq.refl _)
              refine And.intro ?_ ?_
              · intro a W hR hf ho K hK
                replace hR := ext_drew hR
                have F : a.tmps[92]?.getD undef = _ ∧ a.tmps[94]?.getD undef = _ ∧ True := hf
                obtain ⟨f3, f5, -⟩ := F
                clear ho hf
                go_simp
                exact hK _ _ (Below.refl _ _) (Eq.refl _)
              refine And.intro ?_ ?_
              · intro a W hR hf ho K hK
                replace hR := ext_drew hR
                have G : a.tmps[0]?.getD undef = _ ∧ True := ho
                obtain ⟨g0, -⟩ := G
                clear ho hf
                go_simp
                exact hK _ _ (Below.refl _ _) (Eq.refl _)
              refine And.intro ?_ ?_
              · intro a W hR hf ho K hK
                replace hR := ext_drew hR
                have F : a.tmps[96]?.getD undef = _ ∧ True := hf
                obtain ⟨f7, -⟩ := F
                clear ho hf
                go_simp
                exact hK _ _ (Below.refl _ _) (Eq.refl _)
              refine And.intro ?_ ?_
              · intro a W hR hf ho K hK
                replace hR := ext_drew hR
                have F : a.tmps[97]?.getD undef = _ ∧ True := hf
                obtain ⟨f8, -⟩ := F
                clear ho hf
                go_simp
                exact hK _ _ (Below.refl _ _) (Eq.refl _)
              refine And.intro ?_ ?_
              · intro a W hR hf ho K hK
                replace hR := ext_drew hR
                have F : a.tmps[95]?.getD undef = _ ∧ a.tmps[98]?.getD undef = _ ∧ True := hf
                obtain ⟨f6, f9, -⟩ := F
                clear ho hf
                go_simp
                exact hK _ _ (Below.refl _ _) (Eq.refl _)
              refine And.intro ?_ ?_
              · intro a W hR hf ho K hK
                replace hR := ext_drew hR
                have F : a.tmps[99]?.getD undef = _ ∧ a.tmps[94]?.getD undef = _ ∧ True := hf
                obtain ⟨f10, f5, -⟩ := F
                clear ho hf
                go_simp
                exact hK _ _ (Below.refl _ _) (Eq.refl _)
              refine And.intro ?_ ?_
              · intro a W hR hf ho K hK
                replace hR := ext_drew hR
                have G : a.tmps[7]?.getD undef = _ ∧ True := ho
                obtain ⟨g7, -⟩ := G
                have F : a.tmps[100]?.getD undef = _ ∧ True := hf
                obtain ⟨f11, -⟩ := F
                clear ho hf
                go_simp
                exact hK _ _ (Below.refl _ _) (Eq.refl _)
              refine And.intro ?_ ?_
              · intro a W hR hf ho K hK
                replace hR := ext_drew hR
                have F : a.tmps[101]?.getD undef = _ ∧ a.tmps[100]?.getD undef = _ ∧ a.tmps[100]?.getD undef = _ ∧ True := hf
                obtain ⟨f12, f11, -, -⟩ := F
                clear ho hf
                go_simp
                have hwd := wants_run (HU.out.run.ext hR) HU.out.ok; rw [HWD.out] at hwd; refine hwd.mono ?_; rintro e W1 ⟨rfl, hE⟩; exact hK _ _ hE (Eq.refl _)
              refine And.intro ?_ ?_
              · intro a W hR hf ho K hK
                replace hR := ext_drew hR
                have G : a.tmps[7]?.getD undef = _ ∧ True := ho
                obtain ⟨g7, -⟩ := G
                have F : a.tmps[100]?.getD undef = _ ∧ True := hf
                obtain ⟨f11, -⟩ := F
                clear ho hf
                go_simp
                exact hK _ _ (Below.refl _ _) (Eq.refl _)
              refine And.intro ?_ ?_
              · intro a W hR hf ho K hK
                replace hR := ext_drew hR
                have F : a.tmps[103]?.getD undef = _ ∧ a.tmps[100]?.getD undef = _ ∧ True := hf
                obtain ⟨f14, f11, -⟩ := F
                clear ho hf
                go_simp
                exact hK _ _ (Below.refl _ _) (Eq.refl _)
              refine And.intro ?_ ?_
              · intro a W hR hf ho K hK
                replace hR := ext_drew hR
                have F : a.tmps[104]?.getD undef = _ ∧ a.tmps[100]?.getD undef = _ ∧ True := hf
                obtain ⟨f15, f11, -⟩ := F
                clear ho hf
                go_simp
                exact hK _ _ (Below.refl _ _) (Eq.refl _)
              refine And.intro ?_ ?_
              · intro a W hR hf ho K hK
                replace hR := ext_drew hR
                have F : a.tmps[105]?.getD undef = _ ∧ a.tmps[100]?.getD undef = _ ∧ True := hf
                obtain ⟨f16, f11, -⟩ := F
                clear ho hf
                go_simp
                exact hK _ _ (Below.refl _ _) (Eq.refl _)
              refine And.intro ?_ ?_
              · intro a W hR hf ho K hK
                replace hR := ext_drew hR
                have F : a.tmps[106]?.getD undef = _ ∧ a.tmps[100]?.getD undef = _ ∧ True := hf
                obtain ⟨f17, f11, -⟩ := F
                clear ho hf
                have q8 := ext_cell hR _ _ c8
                go_simp
                exact hK _ _ (Below.refl _ _) (Eq.refl _)
              refine And.intro ?_ ?_
              · intro a W hR hf ho K hK
                replace hR := ext_drew hR
                have F : a.tmps[107]?.getD undef = _ ∧ a.tmps[102]?.getD undef = _ ∧ a.tmps[100]?.getD undef = _ ∧ True := hf
                obtain ⟨f18, f13, f11, -⟩ := F
                clear ho hf
                go_simp
                have hru := runs_any ck X5.time W ((hR.block _ (Array.getElem?_eq_some_iff.1 hck).1).trans hck) HU.out.ok.time.1 (Int.le_trans HU.out.ok.time.2 (by decide)); rw [HRU.out] at hru; refine hru.mono ?_; rintro e W1 ⟨rfl, hE⟩; exact hK _ _ hE (Eq.refl _)
              refine And.intro ?_ ?_
              · intro a W hR hf ho K hK
                replace hR := ext_drew hR
                have F : a.tmps[108]?.getD undef = _ ∧ a.tmps[100]?.getD undef = _ ∧ True := hf
                obtain ⟨f19, f11, -⟩ := F
                clear ho hf
                go_simp
                exact hK _ _ (Below.refl _ _) (Eq.refl _)
              refine And.intro ?_ ?_
              · intro a W hR hf ho K hK
                replace hR := ext_drew hR
                have F : a.tmps[109]?.getD undef = _ ∧ a.tmps[108]?.getD undef = _ ∧ a.tmps[100]?.getD undef = _ ∧ True := hf
                obtain ⟨f20, f19, f11, -⟩ := F
                clear ho hf
                go_simp
                exact hK _ _ (Below.refl _ _) (Eq.refl _)
              refine And.intro ?_ ?_
              · intro a W hR hf ho K hK
                replace hR := ext_drew hR
                have G : a.tmps[7]?.getD undef = _ ∧ True := ho
                obtain ⟨g7, -⟩ := G
                have F : a.tmps[110]?.getD undef = _ ∧ True := hf
                obtain ⟨f21, -⟩ := F
                clear ho hf
                go_simp
                exact hK _ _ (Below.refl _ _) (Eq.refl _)
              refine And.intro ?_ ?_
              · intro a W hR hf ho K hK
                replace hR := ext_drew hR
                have F : a.tmps[111]?.getD undef = _ ∧ a.tmps[110]?.getD undef = _ ∧ a.tmps[110]?.getD undef = _ ∧ True := hf
                obtain ⟨f22, f21, -, -⟩ := F
                clear ho hf
                go_simp
                refine (apart_run (HU.out.run.ext hR)).mono ?_; rintro e W1 ⟨rfl, hE⟩; exact hK _ _ hE (Eq.refl _)
              refine And.intro ?_ ?_
              · intro a W hR hf ho K hK
                replace hR := ext_drew hR
                have F : a.tmps[112]?.getD undef = _ ∧ a.tmps[110]?.getD undef = _ ∧ True := hf
                obtain ⟨f23, f21, -⟩ := F
                clear ho hf
                go_simp
                exact hK _ _ (Below.refl _ _) (Eq.refl _)
              refine And.intro ?_ ?_
              · intro a W hR hf ho K hK
                replace hR := ext_drew hR
                have F : a.tmps[110]?.getD undef = _ ∧ a.tmps[113]?.getD undef = _ ∧ a.tmps[100]?.getD undef = _ ∧ True := hf
                obtain ⟨f21, f24, f11, -⟩ := F
                clear ho hf
                go_simp
                exact hK _ _ (Below.refl _ _) (Eq.refl _)
              refine And.intro ?_ ?_
              · intro a W hR hf ho K hK
                replace hR := ext_drew hR
                have F : a.tmps[102]?.getD undef = _ ∧ a.tmps[114]?.getD undef = _ ∧ a.tmps[100]?.getD undef = _ ∧ True := hf
                obtain ⟨f13, f25, f11, -⟩ := F
                clear ho hf
                go_simp
                exact hK _ _ (Below.refl _ _) (Eq.refl _)
              refine And.intro ?_ ?_
              · intro a W hR hf ho K hK
                replace hR := ext_drew hR
                have F : a.tmps[100]?.getD undef = _ ∧ a.tmps[115]?.getD undef = _ ∧ True := hf
                obtain ⟨f11, f26, -⟩ := F
                clear ho hf
                go_simp
                exact hK _ _ (Below.refl _ _) (Eq.refl _)
              exact trivial
            case stab =>
              refine And.intro is_stable ?_
              refine And.intro is_stable ?_
              refine And.intro is_stable ?_
              refine And.intro is_stable ?_
              refine And.intro is_stable ?_
              refine And.intro is_stable ?_
              refine And.intro is_stable ?_
              refine And.intro is_stable ?_
              refine And.intro is_stable ?_
              refine And.intro is_stable ?_
              refine And.intro is_stable ?_
              refine And.intro is_stable ?_
              refine And.intro is_stable ?_
              refine And.intro is_stable ?_
              refine And.intro is_stable ?_
              refine And.intro is_stable ?_
              refine And.intro is_stable ?_
              refine And.intro is_stable ?_
              refine And.intro is_stable ?_
              refine And.intro is_stable ?_
              refine And.intro is_stable ?_
              refine And.intro is_stable ?_
              refine And.intro is_stable ?_
              refine And.intro is_stable ?_
              refine And.intro is_stable ?_
              refine And.intro is_stable ?_
              refine And.intro is_stable ?_
              refine And.intro is_stable ?_
              exact trivial
            case ends =>
              intro vals W hR hall
              replace hR := ext_drew hR
              have e116 : vals 116 = _ := hall 27 (by decide)
              clear hall
              simp only [fill, List.setIfInBounds_toArray, List.set_cons_succ, List.set_cons_zero, e116]
              go_wp2_with fail
              exact ⟨⟨k + 1, X5, _, by omega, by go_num, HU.out.ext hR⟩, by simp [intOf]; omega⟩
          | true =>
            rw [hru] at hwd
            have HWD := Lib.hid hwd
            have HRU := Lib.hid hru
            clear hwd hru htot
            go_wp2_with fail
            refine wp_region_obl Ext [89, 90, 91, 92, 93, 94, 95, 96, 97, 98, 99, 100, 101, 102, 103, 104, 105, 106, 107, 108, 109, 110, 111, 112, 113, 114, 115, 116] (by kernel_rfl) (fun _ => Below.refl _ _) (fun _ _ _ => Ext.then) (by kernel_rfl) (by kernel_rfl) ?_
            apply ex_is; apply Exists.intro
            apply ex_is; apply Exists.intro
            apply ex_is; apply Exists.intro
            apply ex_is; apply Exists.intro
            apply ex_is; apply Exists.intro
            apply ex_is; apply Exists.intro
            apply ex_is; apply Exists.intro
            apply ex_is; apply Exists.intro
            apply ex_is; apply Exists.intro
            apply ex_is; apply Exists.intro
            apply ex_is; apply Exists.intro
            apply ex_is; apply Exists.intro
            apply ex_is; apply Exists.intro
            apply ex_is; apply Exists.intro
            apply ex_is; apply Exists.intro
            apply ex_is; apply Exists.intro
            apply ex_is; apply Exists.intro
            apply ex_is; apply Exists.intro
            apply ex_is; apply Exists.intro
            apply ex_is; apply Exists.intro
            apply ex_is; apply Exists.intro
            apply ex_is; apply Exists.intro
            apply ex_is; apply Exists.intro
            apply ex_is; apply Exists.intro
            apply ex_is; apply Exists.intro
            apply ex_is; apply Exists.intro
            apply ex_is; apply Exists.intro
            apply ex_is; apply Exists.intro
            refine ⟨[], ⟨?steps, ?stab, ?ends⟩⟩
            case steps =>
              refine And.intro ?_ ?_
              · intro a W hR hf ho K hK
                replace hR := ext_drew hR
                have G : a.tmps[14]?.getD undef = _ ∧ True := ho
                obtain ⟨g14, -⟩ := G
                clear ho hf
                go_simp
                exact hK _ _ (Below.refl _ _) (Eq.refl _)
              refine And.intro ?_ ?_
              · intro a W hR hf ho K hK
                replace hR := ext_drew hR
                have G : a.tmps[7]?.getD undef = _ ∧ True := ho
                obtain ⟨g7, -⟩ := G
                clear ho hf
                go_simp
                exact hK _ _ (Below.refl _ _) (Eq.refl _)
              refine And.intro ?_ ?_
              · intro a W hR hf ho K hK
                replace hR := ext_drew hR
                have F : a.tmps[90]?.getD undef = _ ∧ True := hf
                obtain ⟨f1, -⟩ := F
                clear ho hf
                go_simp
                refine (apart_run (HU.out.run.ext hR)).mono ?_; rintro e W1 ⟨rfl, hE⟩; exact hK _ _ hE (Eq.refl _)
              refine And.intro ?_ ?_
              · intro a W hR hf ho K hK
                replace hR := ext_drew hR
                have F : a.tmps[89]?.getD undef = _ ∧ a.tmps[91]?.getD undef = _ ∧ True := hf
                obtain ⟨f0, f2, -⟩ := F
                clear ho hf
                go_simp
                exact hK _ _ (Below.refl _ _) (Eq.refl _)
              refine And.intro ?_ ?_
              · intro a W hR hf ho K hK
                replace hR := ext_drew hR
                have G : a.tmps[7]?.getD undef = _ ∧ True := ho
                obtain ⟨g7, -⟩ := G
                clear ho hf
                go_simp
                exact hK _ _ (Below.refl _ _) (Eq.refl _)
              refine And.intro ?_ ?_
              · intro a W hR hf ho K hK
                replace hR := ext_drew hR
                have F : a.tmps[93]?.getD undef = _ ∧ a.tmps[91]?.getD undef = _ ∧ True := hf
                obtain ⟨f4, f2, -⟩ := F
                clear ho hf
                go_simp
                refine (left_run (HU.out.run.ext hR)).mono ?_; rintro e W1 ⟨rfl, hE⟩; exact hK _ _ hE (Eq.refl _)
              refine And.intro ?_ ?_
              · intro a W hR hf ho K hK
                replace hR := ext_drew hR
                have F : a.tmps[92]?.getD undef = _ ∧ a.tmps[94]?.getD undef = _ ∧ True := hf
                obtain ⟨f3, f5, -⟩ := F
                clear ho hf
                go_simp
                exact hK _ _ (Below.refl _ _) (Eq.refl _)
              refine And.intro ?_ ?_
              · intro a W hR hf ho K hK
                replace hR := ext_drew hR
                have G : a.tmps[0]?.getD undef = _ ∧ True := ho
                obtain ⟨g0, -⟩ := G
                clear ho hf
                go_simp
                exact hK _ _ (Below.refl _ _) (Eq.refl _)
              refine And.intro ?_ ?_
              · intro a W hR hf ho K hK
                replace hR := ext_drew hR
                have F : a.tmps[96]?.getD undef = _ ∧ True := hf
                obtain ⟨f7, -⟩ := F
                clear ho hf
                go_simp
                exact hK _ _ (Below.refl _ _) (Eq.refl _)
              refine And.intro ?_ ?_
              · intro a W hR hf ho K hK
                replace hR := ext_drew hR
                have F : a.tmps[97]?.getD undef = _ ∧ True := hf
                obtain ⟨f8, -⟩ := F
                clear ho hf
                go_simp
                exact hK _ _ (Below.refl _ _) (Eq.refl _)
              refine And.intro ?_ ?_
              · intro a W hR hf ho K hK
                replace hR := ext_drew hR
                have F : a.tmps[95]?.getD undef = _ ∧ a.tmps[98]?.getD undef = _ ∧ True := hf
                obtain ⟨f6, f9, -⟩ := F
                clear ho hf
                go_simp
                exact hK _ _ (Below.refl _ _) (Eq.refl _)
              refine And.intro ?_ ?_
              · intro a W hR hf ho K hK
                replace hR := ext_drew hR
                have F : a.tmps[99]?.getD undef = _ ∧ a.tmps[94]?.getD undef = _ ∧ True := hf
                obtain ⟨f10, f5, -⟩ := F
                clear ho hf
                go_simp
                exact hK _ _ (Below.refl _ _) (Eq.refl _)
              refine And.intro ?_ ?_
              · intro a W hR hf ho K hK
                replace hR := ext_drew hR
                have G : a.tmps[7]?.getD undef = _ ∧ True := ho
                obtain ⟨g7, -⟩ := G
                have F : a.tmps[100]?.getD undef = _ ∧ True := hf
                obtain ⟨f11, -⟩ := F
                clear ho hf
                go_simp
                exact hK _ _ (Below.refl _ _) (Eq.refl _)
              refine And.intro ?_ ?_
              · intro a W hR hf ho K hK
                replace hR := ext_drew hR
                have F : a.tmps[101]?.getD undef = _ ∧ a.tmps[100]?.getD undef = _ ∧ a.tmps[100]?.getD undef = _ ∧ True := hf
                obtain ⟨f12, f11, -, -⟩ := F
                clear ho hf
                go_simp
                have hwd := wants_run (HU.out.run.ext hR) HU.out.ok; rw [HWD.out] at hwd; refine hwd.mono ?_; rintro e W1 ⟨rfl, hE⟩; exact hK _ _ hE (Eq.refl _)
              refine And.intro ?_ ?_
              · intro a W hR hf ho K hK
                replace hR := ext_drew hR
                have G : a.tmps[7]?.getD undef = _ ∧ True := ho
                obtain ⟨g7, -⟩ := G
                have F : a.tmps[100]?.getD undef = _ ∧ True := hf
                obtain ⟨f11, -⟩ := F
                clear ho hf
                go_simp
                exact hK _ _ (Below.refl _ _) (Eq.refl _)
              refine And.intro ?_ ?_
              · intro a W hR hf ho K hK
                replace hR := ext_drew hR
                have F : a.tmps[103]?.getD undef = _ ∧ a.tmps[100]?.getD undef = _ ∧ True := hf
                obtain ⟨f14, f11, -⟩ := F
                clear ho hf
                go_simp
                exact hK _ _ (Below.refl _ _) (Eq.refl _)
              refine And.intro ?_ ?_
              · intro a W hR hf ho K hK
                replace hR := ext_drew hR
                have F : a.tmps[104]?.getD undef = _ ∧ a.tmps[100]?.getD undef = _ ∧ True := hf
                obtain ⟨f15, f11, -⟩ := F
                clear ho hf
                go_simp
                exact hK _ _ (Below.refl _ _) (Eq.refl _)
              refine And.intro ?_ ?_
              · intro a W hR hf ho K hK
                replace hR := ext_drew hR
                have F : a.tmps[105]?.getD undef = _ ∧ a.tmps[100]?.getD undef = _ ∧ True := hf
                obtain ⟨f16, f11, -⟩ := F
                clear ho hf
                go_simp
                exact hK _ _ (Below.refl _ _) (Eq.refl _)
              refine And.intro ?_ ?_
              · intro a W hR hf ho K hK
                replace hR := ext_drew hR
                have F : a.tmps[106]?.getD undef = _ ∧ a.tmps[100]?.getD undef = _ ∧ True := hf
                obtain ⟨f17, f11, -⟩ := F
                clear ho hf
                have q8 := ext_cell hR _ _ c8
                go_simp
                exact hK _ _ (Below.refl _ _) (Eq.refl _)
              refine And.intro ?_ ?_
              · intro a W hR hf ho K hK
                replace hR := ext_drew hR
                have F : a.tmps[107]?.getD undef = _ ∧ a.tmps[102]?.getD undef = _ ∧ a.tmps[100]?.getD undef = _ ∧ True := hf
                obtain ⟨f18, f13, f11, -⟩ := F
                clear ho hf
                go_simp
                have hru := runs_any ck X5.time W ((hR.block _ (Array.getElem?_eq_some_iff.1 hck).1).trans hck) HU.out.ok.time.1 (Int.le_trans HU.out.ok.time.2 (by decide)); rw [HRU.out] at hru; refine hru.mono ?_; rintro e W1 ⟨rfl, hE⟩; exact hK _ _ hE (Eq.refl _)
              refine And.intro ?_ ?_
              · intro a W hR hf ho K hK
                replace hR := ext_drew hR
                have F : a.tmps[108]?.getD undef = _ ∧ a.tmps[100]?.getD undef = _ ∧ True := hf
                obtain ⟨f19, f11, -⟩ := F
                clear ho hf
                go_simp
                exact hK _ _ (Below.refl _ _) (Eq.refl _)
              refine And.intro ?_ ?_
              · intro a W hR hf ho K hK
                replace hR := ext_drew hR
                have F : a.tmps[109]?.getD undef = _ ∧ a.tmps[108]?.getD undef = _ ∧ a.tmps[100]?.getD undef = _ ∧ True := hf
                obtain ⟨f20, f19, f11, -⟩ := F
                clear ho hf
                go_simp
                exact hK _ _ (Below.refl _ _) (Eq.refl _)
              refine And.intro ?_ ?_
              · intro a W hR hf ho K hK
                replace hR := ext_drew hR
                have G : a.tmps[7]?.getD undef = _ ∧ True := ho
                obtain ⟨g7, -⟩ := G
                have F : a.tmps[110]?.getD undef = _ ∧ True := hf
                obtain ⟨f21, -⟩ := F
                clear ho hf
                go_simp
                exact hK _ _ (Below.refl _ _) (Eq.refl _)
              refine And.intro ?_ ?_
              · intro a W hR hf ho K hK
                replace hR := ext_drew hR
                have F : a.tmps[111]?.getD undef = _ ∧ a.tmps[110]?.getD undef = _ ∧ a.tmps[110]?.getD undef = _ ∧ True := hf
                obtain ⟨f22, f21, -, -⟩ := F
                clear ho hf
                go_simp
                exact hK _ _ (Below.refl _ _) (Eq.refl _)
              refine And.intro ?_ ?_
              · intro a W hR hf ho K hK
                replace hR := ext_drew hR
                have F : a.tmps[112]?.getD undef = _ ∧ a.tmps[110]?.getD undef = _ ∧ True := hf
                obtain ⟨f23, f21, -⟩ := F
                clear ho hf
                go_simp
                exact hK _ _ (Below.refl _ _) (Eq.refl _)
              refine And.intro ?_ ?_
              · intro a W hR hf ho K hK
                replace hR := ext_drew hR
                have F : a.tmps[110]?.getD undef = _ ∧ a.tmps[113]?.getD undef = _ ∧ a.tmps[100]?.getD undef = _ ∧ True := hf
                obtain ⟨f21, f24, f11, -⟩ := F
                clear ho hf
                go_simp
                exact hK _ _ (Below.refl _ _) (Eq.refl _)
              refine And.intro ?_ ?_
              · intro a W hR hf ho K hK
                replace hR := ext_drew hR
                have F : a.tmps[102]?.getD undef = _ ∧ a.tmps[114]?.getD undef = _ ∧ a.tmps[100]?.getD undef = _ ∧ True := hf
                obtain ⟨f13, f25, f11, -⟩ := F
                clear ho hf
                go_simp
                exact hK _ _ (Below.refl _ _) (Eq.refl _)
              refine And.intro ?_ ?_
              · intro a W hR hf ho K hK
                replace hR := ext_drew hR
                have F : a.tmps[100]?.getD undef = _ ∧ a.tmps[115]?.getD undef = _ ∧ True := hf
                obtain ⟨f11, f26, -⟩ := F
                clear ho hf
                go_simp
                exact hK _ _ (Below.refl _ _) (Eq.refl _)
              exact trivial
            case stab =>
              refine And.intro is_stable ?_
              refine And.intro is_stable ?_
              refine And.intro is_stable ?_
              refine And.intro is_stable ?_
              refine And.intro is_stable ?_
              refine And.intro is_stable ?_
              refine And.intro is_stable ?_
              refine And.intro is_stable ?_
              refine And.intro is_stable ?_
              refine And.intro is_stable ?_
              refine And.intro is_stable ?_
              refine And.intro is_stable ?_
              refine And.intro is_stable ?_
              refine And.intro is_stable ?_
              refine And.intro is_stable ?_
              refine And.intro is_stable ?_
              refine And.intro is_stable ?_
              refine And.intro is_stable ?_
              refine And.intro is_stable ?_
              refine And.intro is_stable ?_
              refine And.intro is_stable ?_
              refine And.intro is_stable ?_
              refine And.intro is_stable ?_
              refine And.intro is_stable ?_
              refine And.intro is_stable ?_
              refine And.intro is_stable ?_
              refine And.intro is_stable ?_
              refine And.intro is_stable ?_
              exact trivial
            case ends =>
              intro vals W hR hall
              replace hR := ext_drew hR
              have e116 : vals 116 = _ := hall 27 (by decide)
              clear hall
              simp only [fill, List.setIfInBounds_toArray, List.set_cons_succ, List.set_cons_zero, e116]
              go_wp2_with fail
              exact ⟨⟨k + 1, X5, _, by omega, by go_num, HU.out.ext hR⟩, by simp [intOf]; omega⟩
        · have hq3 : (what == 3) = false := by simpa using hw3
          by_cases hw4 : what = 4
          · subst hw4
            go_wp2_with fail
            refine (pick_any Al cl L N _ (HI.out.2.2.ext HB.out.2) (by have := HI.out.1.len; omega) HI.out.2.1.n).mono ?_
            rintro _ w5 ⟨rfl, hE⟩
            have HP := Lib.hid (HI.out.1.ext (HB.out.2.then hE))
            clear hE
            go_wp2_with fail
            refine (free_run HP.out.run HP.out.ok (pickD L N) (pick_mem HP.out.wf)).mono ?_
            rintro _ w6 ⟨rfl, hR6, hc6⟩
            have HT := Lib.hid (HP.out.turn hR6 hc6 (heap_free HP.out.ok (pickD L N)) (same_free X (pickD L N))).next
            clear hR6 hc6
            obtain ⟨X5, hX5⟩ : ∃ X5, X5 = freeD X (pickD L N) := ⟨_, rfl⟩
            rw [← hX5] at HT
            clear hX5
            go_wp2_with fail
            refine (live_run HT.out.run HT.out.ok).mono ?_
            rintro _ wa ⟨rfl, hE⟩
            have HU := Lib.hid (HT.out.ext hE)
            clear hE
            have htot := HU.out.ok.total
            rw [HU.out.root] at htot
            have hbb := HU.out.ok.bytes
            have hbf := HU.out.ok.free0
            have hbl := HU.out.ok.livesum
            have hst0 : 0 ≤ sumT X5.L := Int.le_trans (leftT_le (L := X5.L) (fun l hl => by have := HU.out.ok.live hl; omega) (fun _ => true)).1 (leftT_le (L := X5.L) (fun l hl => by have := HU.out.ok.live hl; omega) (fun _ => true)).2
            simp only [rootC] at htot
            have hw1 : IntKind.i64.wrap (sumT X5.L + sumN X5.Q) = sumT X5.L + sumN X5.Q := IntWalk.i64_in _ (by omega)
            have hw2 : IntKind.i64.wrap (sumT X5.L + sumN X5.Q + sumR X5.R) = 16 * (G : Int) := by rw [IntWalk.i64_in _ (by omega)]; omega
            obtain ⟨ck, c8, hck⟩ := HU.out.run.clock
            have hwd : wantsD X5 = (!runsB X5.time && decide (64 ≤ sumN X5.Q)) := by unfold wantsD; rw [HU.out.full]
            have hc8l := cell_lt c8
            simp only at hc8l
            cases hru : runsB X5.time with
            | false =>
              rw [hru] at hwd
              have HWD := Lib.hid hwd
              have HRU := Lib.hid hru
              clear hwd hru htot
              go_wp2_with fail
              refine wp_region_obl Ext [89, 90, 91, 92, 93, 94, 95, 96, 97, 98, 99, 100, 101, 102, 103, 104, 105, 106, 107, 108, 109, 110, 111, 112, 113, 114, 115, 116] (by kernel_rfl) (fun _ => Below.refl _ _) (fun _ _ _ => Ext.then) (by kernel_rfl) (by kernel_rfl) ?_
              apply ex_is; apply Exists.intro
              apply ex_is; apply Exists.intro
              apply ex_is; apply Exists.intro
              apply ex_is; apply Exists.intro
              apply ex_is; apply Exists.intro
              apply ex_is; apply Exists.intro
              apply ex_is; apply Exists.intro
              apply ex_is; apply Exists.intro
              apply ex_is; apply Exists.intro
              apply ex_is; apply Exists.intro
              apply ex_is; apply Exists.intro
              apply ex_is; apply Exists.intro
              apply ex_is; apply Exists.intro
              apply ex_is; apply Exists.intro
              apply ex_is; apply Exists.intro
              apply ex_is; apply Exists.intro
              apply ex_is; apply Exists.intro
              apply ex_is; apply Exists.intro
              apply ex_is; apply Exists.intro
              apply ex_is; apply Exists.intro
              apply ex_is; apply Exists.intro
              apply ex_is; apply Exists.intro
              apply ex_is; apply Exists.intro
              apply ex_is; apply Exists.intro
              apply ex_is; apply Exists.intro
              apply ex_is; apply Exists.intro
              apply ex_is; apply Exists.intro
              apply ex_is; apply Exists.intro
              refine ⟨[], ⟨?steps, ?stab, ?ends⟩⟩
              case steps =>
                refine And.intro ?_ ?_
                · intro a W hR hf ho K hK
                  replace hR := ext_drew hR
                  have G : a.tmps[14]?.getD undef = _ ∧ True := ho
                  obtain ⟨g14, -⟩ := G
                  clear ho hf
                  go_simp
                  exact hK _ _ (Below.refl _ _) (Eq.refl _)
                refine And.intro ?_ ?_
                · intro a W hR hf ho K hK
                  replace hR := ext_drew hR
                  have G : a.tmps[7]?.getD undef = _ ∧ True := ho
                  obtain ⟨g7, -⟩ := G
                  clear ho hf
                  go_simp
                  exact hK _ _ (Below.refl _ _) (Eq.refl _)
                refine And.intro ?_ ?_
                · intro a W hR hf ho K hK
                  replace hR := ext_drew hR
                  have F : a.tmps[90]?.getD undef = _ ∧ True := hf
                  obtain ⟨f1, -⟩ := F
                  clear ho hf
                  go_simp
                  refine (apart_run (HU.out.run.ext hR)).mono ?_; rintro e W1 ⟨rfl, hE⟩; exact hK _ _ hE (Eq.refl _)
                refine And.intro ?_ ?_
                · intro a W hR hf ho K hK
                  replace hR := ext_drew hR
                  have F : a.tmps[89]?.getD undef = _ ∧ a.tmps[91]?.getD undef = _ ∧ True := hf
                  obtain ⟨f0, f2, -⟩ := F
                  clear ho hf
                  go_simp
                  exact hK _ _ (Below.refl _ _) (Eq.refl _)
                refine And.intro ?_ ?_
                · intro a W hR hf ho K hK
                  replace hR := ext_drew hR
                  have G : a.tmps[7]?.getD undef = _ ∧ True := ho
                  obtain ⟨g7, -⟩ := G
                  clear ho hf
                  go_simp
                  exact hK _ _ (Below.refl _ _) (Eq.refl _)
                refine And.intro ?_ ?_
                · intro a W hR hf ho K hK
                  replace hR := ext_drew hR
                  have F : a.tmps[93]?.getD undef = _ ∧ a.tmps[91]?.getD undef = _ ∧ True := hf
                  obtain ⟨f4, f2, -⟩ := F
                  clear ho hf
                  go_simp
                  refine (left_run (HU.out.run.ext hR)).mono ?_; rintro e W1 ⟨rfl, hE⟩; exact hK _ _ hE (Eq.refl _)
                refine And.intro ?_ ?_
                · intro a W hR hf ho K hK
                  replace hR := ext_drew hR
                  have F : a.tmps[92]?.getD undef = _ ∧ a.tmps[94]?.getD undef = _ ∧ True := hf
                  obtain ⟨f3, f5, -⟩ := F
                  clear ho hf
                  go_simp
                  exact hK _ _ (Below.refl _ _) (Eq.refl _)
                refine And.intro ?_ ?_
                · intro a W hR hf ho K hK
                  replace hR := ext_drew hR
                  have G : a.tmps[0]?.getD undef = _ ∧ True := ho
                  obtain ⟨g0, -⟩ := G
                  clear ho hf
                  go_simp
                  exact hK _ _ (Below.refl _ _) (Eq.refl _)
                refine And.intro ?_ ?_
                · intro a W hR hf ho K hK
                  replace hR := ext_drew hR
                  have F : a.tmps[96]?.getD undef = _ ∧ True := hf
                  obtain ⟨f7, -⟩ := F
                  clear ho hf
                  go_simp
                  exact hK _ _ (Below.refl _ _) (Eq.refl _)
                refine And.intro ?_ ?_
                · intro a W hR hf ho K hK
                  replace hR := ext_drew hR
                  have F : a.tmps[97]?.getD undef = _ ∧ True := hf
                  obtain ⟨f8, -⟩ := F
                  clear ho hf
                  go_simp
                  exact hK _ _ (Below.refl _ _) (Eq.refl _)
                refine And.intro ?_ ?_
                · intro a W hR hf ho K hK
                  replace hR := ext_drew hR
                  have F : a.tmps[95]?.getD undef = _ ∧ a.tmps[98]?.getD undef = _ ∧ True := hf
                  obtain ⟨f6, f9, -⟩ := F
                  clear ho hf
                  go_simp
                  exact hK _ _ (Below.refl _ _) (Eq.refl _)
                refine And.intro ?_ ?_
                · intro a W hR hf ho K hK
                  replace hR := ext_drew hR
                  have F : a.tmps[99]?.getD undef = _ ∧ a.tmps[94]?.getD undef = _ ∧ True := hf
                  obtain ⟨f10, f5, -⟩ := F
                  clear ho hf
                  go_simp
                  exact hK _ _ (Below.refl _ _) (Eq.refl _)
                refine And.intro ?_ ?_
                · intro a W hR hf ho K hK
                  replace hR := ext_drew hR
                  have G : a.tmps[7]?.getD undef = _ ∧ True := ho
                  obtain ⟨g7, -⟩ := G
                  have F : a.tmps[100]?.getD undef = _ ∧ True := hf
                  obtain ⟨f11, -⟩ := F
                  clear ho hf
                  go_simp
                  exact hK _ _ (Below.refl _ _) (Eq.refl _)
                refine And.intro ?_ ?_
                · intro a W hR hf ho K hK
                  replace hR := ext_drew hR
                  have F : a.tmps[101]?.getD undef = _ ∧ a.tmps[100]?.getD undef = _ ∧ a.tmps[100]?.getD undef = _ ∧ True := hf
                  obtain ⟨f12, f11, -, -⟩ := F
                  clear ho hf
                  go_simp
                  have hwd := wants_run (HU.out.run.ext hR) HU.out.ok; rw [HWD.out] at hwd; refine hwd.mono ?_; rintro e W1 ⟨rfl, hE⟩; exact hK _ _ hE (Eq.refl _)
                refine And.intro ?_ ?_
                · intro a W hR hf ho K hK
                  replace hR := ext_drew hR
                  have G : a.tmps[7]?.getD undef = _ ∧ True := ho
                  obtain ⟨g7, -⟩ := G
                  have F : a.tmps[100]?.getD undef = _ ∧ True := hf
                  obtain ⟨f11, -⟩ := F
                  clear ho hf
                  go_simp
                  exact hK _ _ (Below.refl _ _) (Eq.refl _)
                refine And.intro ?_ ?_
                · intro a W hR hf ho K hK
                  replace hR := ext_drew hR
                  have F : a.tmps[103]?.getD undef = _ ∧ a.tmps[100]?.getD undef = _ ∧ True := hf
                  obtain ⟨f14, f11, -⟩ := F
                  clear ho hf
                  go_simp
                  exact hK _ _ (Below.refl _ _) (Eq.refl _)
                refine And.intro ?_ ?_
                · intro a W hR hf ho K hK
                  replace hR := ext_drew hR
                  have F : a.tmps[104]?.getD undef = _ ∧ a.tmps[100]?.getD undef = _ ∧ True := hf
                  obtain ⟨f15, f11, -⟩ := F
                  clear ho hf
                  go_simp
                  exact hK _ _ (Below.refl _ _) (Eq.refl _)
                refine And.intro ?_ ?_
                · intro a W hR hf ho K hK
                  replace hR := ext_drew hR
                  have F : a.tmps[105]?.getD undef = _ ∧ a.tmps[100]?.getD undef = _ ∧ True := hf
                  obtain ⟨f16, f11, -⟩ := F
                  clear ho hf
                  go_simp
                  exact hK _ _ (Below.refl _ _) (Eq.refl _)
                refine And.intro ?_ ?_
                · intro a W hR hf ho K hK
                  replace hR := ext_drew hR
                  have F : a.tmps[106]?.getD undef = _ ∧ a.tmps[100]?.getD undef = _ ∧ True := hf
                  obtain ⟨f17, f11, -⟩ := F
                  clear ho hf
                  have q8 := ext_cell hR _ _ c8
                  go_simp
                  exact hK _ _ (Below.refl _ _) (Eq.refl _)
                refine And.intro ?_ ?_
                · intro a W hR hf ho K hK
                  replace hR := ext_drew hR
                  have F : a.tmps[107]?.getD undef = _ ∧ a.tmps[102]?.getD undef = _ ∧ a.tmps[100]?.getD undef = _ ∧ True := hf
                  obtain ⟨f18, f13, f11, -⟩ := F
                  clear ho hf
                  go_simp
                  have hru := runs_any ck X5.time W ((hR.block _ (Array.getElem?_eq_some_iff.1 hck).1).trans hck) HU.out.ok.time.1 (Int.le_trans HU.out.ok.time.2 (by decide)); rw [HRU.out] at hru; refine hru.mono ?_; rintro e W1 ⟨rfl, hE⟩; exact hK _ _ hE (Eq.refl _)
                refine And.intro ?_ ?_
                · intro a W hR hf ho K hK
                  replace hR := ext_drew hR
                  have F : a.tmps[108]?.getD undef = _ ∧ a.tmps[100]?.getD undef = _ ∧ True := hf
                  obtain ⟨f19, f11, -⟩ := F
                  clear ho hf
                  go_simp
                  exact hK _ _ (Below.refl _ _) (Eq.refl _)
                refine And.intro ?_ ?_
                · intro a W hR hf ho K hK
                  replace hR := ext_drew hR
                  have F : a.tmps[109]?.getD undef = _ ∧ a.tmps[108]?.getD undef = _ ∧ a.tmps[100]?.getD undef = _ ∧ True := hf
                  obtain ⟨f20, f19, f11, -⟩ := F
                  clear ho hf
                  go_simp
                  exact hK _ _ (Below.refl _ _) (Eq.refl _)
                refine And.intro ?_ ?_
                · intro a W hR hf ho K hK
                  replace hR := ext_drew hR
                  have G : a.tmps[7]?.getD undef = _ ∧ True := ho
                  obtain ⟨g7, -⟩ := G
                  have F : a.tmps[110]?.getD undef = _ ∧ True := hf
                  obtain ⟨f21, -⟩ := F
                  clear ho hf
                  go_simp
                  exact hK _ _ (Below.refl _ _) (Eq.refl _)
                refine And.intro ?_ ?_
                · intro a W hR hf ho K hK
                  replace hR := ext_drew hR
                  have F : a.tmps[111]?.getD undef = _ ∧ a.tmps[110]?.getD undef = _ ∧ a.tmps[110]?.getD undef = _ ∧ True := hf
                  obtain ⟨f22, f21, -, -⟩ := F
                  clear ho hf
                  go_simp
                  refine (apart_run (HU.out.run.ext hR)).mono ?_; rintro e W1 ⟨rfl, hE⟩; exact hK _ _ hE (Eq.refl _)
                refine And.intro ?_ ?_
                · intro a W hR hf ho K hK
                  replace hR := ext_drew hR
                  have F : a.tmps[112]?.getD undef = _ ∧ a.tmps[110]?.getD undef = _ ∧ True := hf
                  obtain ⟨f23, f21, -⟩ := F
                  clear ho hf
                  go_simp
                  exact hK _ _ (Below.refl _ _) (Eq.refl _)
                refine And.intro ?_ ?_
                · intro a W hR hf ho K hK
                  replace hR := ext_drew hR
                  have F : a.tmps[110]?.getD undef = _ ∧ a.tmps[113]?.getD undef = _ ∧ a.tmps[100]?.getD undef = _ ∧ True := hf
                  obtain ⟨f21, f24, f11, -⟩ := F
                  clear ho hf
                  go_simp
                  exact hK _ _ (Below.refl _ _) (Eq.refl _)
                refine And.intro ?_ ?_
                · intro a W hR hf ho K hK
                  replace hR := ext_drew hR
                  have F : a.tmps[102]?.getD undef = _ ∧ a.tmps[114]?.getD undef = _ ∧ a.tmps[100]?.getD undef = _ ∧ True := hf
                  obtain ⟨f13, f25, f11, -⟩ := F
                  clear ho hf
                  go_simp
                  exact hK _ _ (Below.refl _ _) (Eq.refl _)
                refine And.intro ?_ ?_
                · intro a W hR hf ho K hK
                  replace hR := ext_drew hR
                  have F : a.tmps[100]?.getD undef = _ ∧ a.tmps[115]?.getD undef = _ ∧ True := hf
                  obtain ⟨f11, f26, -⟩ := F
                  clear ho hf
                  go_simp
                  exact hK _ _ (Below.refl _ _) (Eq.refl _)
                exact trivial
              case stab =>
                refine And.intro is_stable ?_
                refine And.intro is_stable ?_
                refine And.intro is_stable ?_
                refine And.intro is_stable ?_
                refine And.intro is_stable ?_
                refine And.intro is_stable ?_
                refine And.intro is_stable ?_
                refine And.intro is_stable ?_
                refine And.intro is_stable ?_
                refine And.intro is_stable ?_
                refine And.intro is_stable ?_
                refine And.intro is_stable ?_
                refine And.intro is_stable ?_
                refine And.intro is_stable ?_
                refine And.intro is_stable ?_
                refine And.intro is_stable ?_
                refine And.intro is_stable ?_
                refine And.intro is_stable ?_
                refine And.intro is_stable ?_
                refine And.intro is_stable ?_
                refine And.intro is_stable ?_
                refine And.intro is_stable ?_
                refine And.intro is_stable ?_
                refine And.intro is_stable ?_
                refine And.intro is_stable ?_
                refine And.intro is_stable ?_
                refine And.intro is_stable ?_
                refine And.intro is_stable ?_
                exact trivial
              case ends =>
                intro vals W hR hall
                replace hR := ext_drew hR
                have e116 : vals 116 = _ := hall 27 (by decide)
                clear hall
                simp only [fill, List.setIfInBounds_toArray, List.set_cons_succ, List.set_cons_zero, e116]
                go_wp2_with fail
                exact ⟨⟨k + 1, X5, _, by omega, by go_num, HU.out.ext hR⟩, by simp [intOf]; omega⟩
            | true =>
              rw [hru] at hwd
              have HWD := Lib.hid hwd
              have HRU := Lib.hid hru
              clear hwd hru htot
              go_wp2_with fail
              refine wp_region_obl Ext [89, 90, 91, 92, 93, 94, 95, 96, 97, 98, 99, 100, 101, 102, 103, 104, 105, 106, 107, 108, 109, 110, 111, 112, 113, 114, 115, 116] (by kernel_rfl) (fun _ => Below.refl _ _) (fun _ _ _ => Ext.then) (by kernel_rfl) (by kernel_rfl) ?_
              apply ex_is; apply Exists.intro
              apply ex_is; apply Exists.intro
              apply ex_is; apply Exists.intro
              apply ex_is; apply Exists.intro
              apply ex_is; apply Exists.intro
              apply ex_is; apply Exists.intro
              apply ex_is; apply Exists.intro
              apply ex_is; apply Exists.intro
              apply ex_is; apply Exists.intro
              apply ex_is; apply Exists.intro
              apply ex_is; apply Exists.intro
              apply ex_is; apply Exists.intro
              apply ex_is; apply Exists.intro
              apply ex_is; apply Exists.intro
              apply ex_is; apply Exists.intro
              apply ex_is; apply Exists.intro
              apply ex_is; apply Exists.intro
              apply ex_is; apply Exists.intro
              apply ex_is; apply Exists.intro
              apply ex_is; apply Exists.intro
              apply ex_is; apply Exists.intro
              apply ex_is; apply Exists.intro
              apply ex_is; apply Exists.intro
              apply ex_is; apply Exists.intro
              apply ex_is; apply Exists.intro
              apply ex_is; apply Exists.intro
              apply ex_is; apply Exists.intro
              apply ex_is; apply Exists.intro
              refine ⟨[], ⟨?steps, ?stab, ?ends⟩⟩
              case steps =>
                refine And.intro ?_ ?_
                · intro a W hR hf ho K hK
                  replace hR := ext_drew hR
                  have G : a.tmps[14]?.getD undef = _ ∧ True := ho
                  obtain ⟨g14, -⟩ := G
                  clear ho hf
                  go_simp
                  exact hK _ _ (Below.refl _ _) (Eq.refl _)
                refine And.intro ?_ ?_
                · intro a W hR hf ho K hK
                  replace hR := ext_drew hR
                  have G : a.tmps[7]?.getD undef = _ ∧ True := ho
                  obtain ⟨g7, -⟩ := G
                  clear ho hf
                  go_simp
                  exact hK _ _ (Below.refl _ _) (Eq.refl _)
                refine And.intro ?_ ?_
                · intro a W hR hf ho K hK
                  replace hR := ext_drew hR
                  have F : a.tmps[90]?.getD undef = _ ∧ True := hf
                  obtain ⟨f1, -⟩ := F
                  clear ho hf
                  go_simp
                  refine (apart_run (HU.out.run.ext hR)).mono ?_; rintro e W1 ⟨rfl, hE⟩; exact hK _ _ hE (Eq.refl _)
                refine And.intro ?_ ?_
                · intro a W hR hf ho K hK
                  replace hR := ext_drew hR
                  have F : a.tmps[89]?.getD undef = _ ∧ a.tmps[91]?.getD undef = _ ∧ True := hf
                  obtain ⟨f0, f2, -⟩ := F
                  clear ho hf
                  go_simp
                  exact hK _ _ (Below.refl _ _) (Eq.refl _)
                refine And.intro ?_ ?_
                · intro a W hR hf ho K hK
                  replace hR := ext_drew hR
                  have G : a.tmps[7]?.getD undef = _ ∧ True := ho
                  obtain ⟨g7, -⟩ := G
                  clear ho hf
                  go_simp
                  exact hK _ _ (Below.refl _ _) (Eq.refl _)
                refine And.intro ?_ ?_
                · intro a W hR hf ho K hK
                  replace hR := ext_drew hR
                  have F : a.tmps[93]?.getD undef = _ ∧ a.tmps[91]?.getD undef = _ ∧ True := hf
                  obtain ⟨f4, f2, -⟩ := F
                  clear ho hf
                  go_simp
                  refine (left_run (HU.out.run.ext hR)).mono ?_; rintro e W1 ⟨rfl, hE⟩; exact hK _ _ hE (Eq.refl _)
                refine And.intro ?_ ?_
                · intro a W hR hf ho K hK
                  replace hR := ext_drew hR
                  have F : a.tmps[92]?.getD undef = _ ∧ a.tmps[94]?.getD undef = _ ∧ True := hf
                  obtain ⟨f3, f5, -⟩ := F
                  clear ho hf
                  go_simp
                  exact hK _ _ (Below.refl _ _) (Eq.refl _)
                refine And.intro ?_ ?_
                · intro a W hR hf ho K hK
                  replace hR := ext_drew hR
                  have G : a.tmps[0]?.getD undef = _ ∧ True := ho
                  obtain ⟨g0, -⟩ := G
                  clear ho hf
                  go_simp
                  exact hK _ _ (Below.refl _ _) (Eq.refl _)
                refine And.intro ?_ ?_
                · intro a W hR hf ho K hK
                  replace hR := ext_drew hR
                  have F : a.tmps[96]?.getD undef = _ ∧ True := hf
                  obtain ⟨f7, -⟩ := F
                  clear ho hf
                  go_simp
                  exact hK _ _ (Below.refl _ _) (Eq.refl _)
                refine And.intro ?_ ?_
                · intro a W hR hf ho K hK
                  replace hR := ext_drew hR
                  have F : a.tmps[97]?.getD undef = _ ∧ True := hf
                  obtain ⟨f8, -⟩ := F
                  clear ho hf
                  go_simp
                  exact hK _ _ (Below.refl _ _) (Eq.refl _)
                refine And.intro ?_ ?_
                · intro a W hR hf ho K hK
                  replace hR := ext_drew hR
                  have F : a.tmps[95]?.getD undef = _ ∧ a.tmps[98]?.getD undef = _ ∧ True := hf
                  obtain ⟨f6, f9, -⟩ := F
                  clear ho hf
                  go_simp
                  exact hK _ _ (Below.refl _ _) (Eq.refl _)
                refine And.intro ?_ ?_
                · intro a W hR hf ho K hK
                  replace hR := ext_drew hR
                  have F : a.tmps[99]?.getD undef = _ ∧ a.tmps[94]?.getD undef = _ ∧ True := hf
                  obtain ⟨f10, f5, -⟩ := F
                  clear ho hf
                  go_simp
                  exact hK _ _ (Below.refl _ _) (Eq.refl _)
                refine And.intro ?_ ?_
                · intro a W hR hf ho K hK
                  replace hR := ext_drew hR
                  have G : a.tmps[7]?.getD undef = _ ∧ True := ho
                  obtain ⟨g7, -⟩ := G
                  have F : a.tmps[100]?.getD undef = _ ∧ True := hf
                  obtain ⟨f11, -⟩ := F
                  clear ho hf
                  go_simp
                  exact hK _ _ (Below.refl _ _) (Eq.refl _)
                refine And.intro ?_ ?_
                · intro a W hR hf ho K hK
                  replace hR := ext_drew hR
                  have F : a.tmps[101]?.getD undef = _ ∧ a.tmps[100]?.getD undef = _ ∧ a.tmps[100]?.getD undef = _ ∧ True := hf
                  obtain ⟨f12, f11, -, -⟩ := F
                  clear ho hf
                  go_simp
                  have hwd := wants_run (HU.out.run.ext hR) HU.out.ok; rw [HWD.out] at hwd; refine hwd.mono ?_; rintro e W1 ⟨rfl, hE⟩; exact hK _ _ hE (Eq.refl _)
                refine And.intro ?_ ?_
                · intro a W hR hf ho K hK
                  replace hR := ext_drew hR
                  have G : a.tmps[7]?.getD undef = _ ∧ True := ho
                  obtain ⟨g7, -⟩ := G
                  have F : a.tmps[100]?.getD undef = _ ∧ True := hf
                  obtain ⟨f11, -⟩ := F
                  clear ho hf
                  go_simp
                  exact hK _ _ (Below.refl _ _) (Eq.refl _)
                refine And.intro ?_ ?_
                · intro a W hR hf ho K hK
                  replace hR := ext_drew hR
                  have F : a.tmps[103]?.getD undef = _ ∧ a.tmps[100]?.getD undef = _ ∧ True := hf
                  obtain ⟨f14, f11, -⟩ := F
                  clear ho hf
                  go_simp
                  exact hK _ _ (Below.refl _ _) (Eq.refl _)
                refine And.intro ?_ ?_
                · intro a W hR hf ho K hK
                  replace hR := ext_drew hR
                  have F : a.tmps[104]?.getD undef = _ ∧ a.tmps[100]?.getD undef = _ ∧ True := hf
                  obtain ⟨f15, f11, -⟩ := F
                  clear ho hf
                  go_simp
                  exact hK _ _ (Below.refl _ _) (Eq.refl _)
                refine And.intro ?_ ?_
                · intro a W hR hf ho K hK
                  replace hR := ext_drew hR
                  have F : a.tmps[105]?.getD undef = _ ∧ a.tmps[100]?.getD undef = _ ∧ True := hf
                  obtain ⟨f16, f11, -⟩ := F
                  clear ho hf
                  go_simp
                  exact hK _ _ (Below.refl _ _) (Eq.refl _)
                refine And.intro ?_ ?_
                · intro a W hR hf ho K hK
                  replace hR := ext_drew hR
                  have F : a.tmps[106]?.getD undef = _ ∧ a.tmps[100]?.getD undef = _ ∧ True := hf
                  obtain ⟨f17, f11, -⟩ := F
                  clear ho hf
                  have q8 := ext_cell hR _ _ c8
                  go_simp
                  exact hK _ _ (Below.refl _ _) (Eq.refl _)
                refine And.intro ?_ ?_
                · intro a W hR hf ho K hK
                  replace hR := ext_drew hR
                  have F : a.tmps[107]?.getD undef = _ ∧ a.tmps[102]?.getD undef = _ ∧ a.tmps[100]?.getD undef = _ ∧ True := hf
                  obtain ⟨f18, f13, f11, -⟩ := F
                  clear ho hf
                  go_simp
                  have hru := runs_any ck X5.time W ((hR.block _ (Array.getElem?_eq_some_iff.1 hck).1).trans hck) HU.out.ok.time.1 (Int.le_trans HU.out.ok.time.2 (by decide)); rw [HRU.out] at hru; refine hru.mono ?_; rintro e W1 ⟨rfl, hE⟩; exact hK _ _ hE (Eq.refl _)
                refine And.intro ?_ ?_
                · intro a W hR hf ho K hK
                  replace hR := ext_drew hR
                  have F : a.tmps[108]?.getD undef = _ ∧ a.tmps[100]?.getD undef = _ ∧ True := hf
                  obtain ⟨f19, f11, -⟩ := F
                  clear ho hf
                  go_simp
                  exact hK _ _ (Below.refl _ _) (Eq.refl _)
                refine And.intro ?_ ?_
                · intro a W hR hf ho K hK
                  replace hR := ext_drew hR
                  have F : a.tmps[109]?.getD undef = _ ∧ a.tmps[108]?.getD undef = _ ∧ a.tmps[100]?.getD undef = _ ∧ True := hf
                  obtain ⟨f20, f19, f11, -⟩ := F
                  clear ho hf
                  go_simp
                  exact hK _ _ (Below.refl _ _) (Eq.refl _)
                refine And.intro ?_ ?_
                · intro a W hR hf ho K hK
                  replace hR := ext_drew hR
                  have G : a.tmps[7]?.getD undef = _ ∧ True := ho
                  obtain ⟨g7, -⟩ := G
                  have F : a.tmps[110]?.getD undef = _ ∧ True := hf
                  obtain ⟨f21, -⟩ := F
                  clear ho hf
                  go_simp
                  exact hK _ _ (Below.refl _ _) (Eq.refl _)
                refine And.intro ?_ ?_
                · intro a W hR hf ho K hK
                  replace hR := ext_drew hR
                  have F : a.tmps[111]?.getD undef = _ ∧ a.tmps[110]?.getD undef = _ ∧ a.tmps[110]?.getD undef = _ ∧ True := hf
                  obtain ⟨f22, f21, -, -⟩ := F
                  clear ho hf
                  go_simp
                  exact hK _ _ (Below.refl _ _) (Eq.refl _)
                refine And.intro ?_ ?_
                · intro a W hR hf ho K hK
                  replace hR := ext_drew hR
                  have F : a.tmps[112]?.getD undef = _ ∧ a.tmps[110]?.getD undef = _ ∧ True := hf
                  obtain ⟨f23, f21, -⟩ := F
                  clear ho hf
                  go_simp
                  exact hK _ _ (Below.refl _ _) (Eq.refl _)
                refine And.intro ?_ ?_
                · intro a W hR hf ho K hK
                  replace hR := ext_drew hR
                  have F : a.tmps[110]?.getD undef = _ ∧ a.tmps[113]?.getD undef = _ ∧ a.tmps[100]?.getD undef = _ ∧ True := hf
                  obtain ⟨f21, f24, f11, -⟩ := F
                  clear ho hf
                  go_simp
                  exact hK _ _ (Below.refl _ _) (Eq.refl _)
                refine And.intro ?_ ?_
                · intro a W hR hf ho K hK
                  replace hR := ext_drew hR
                  have F : a.tmps[102]?.getD undef = _ ∧ a.tmps[114]?.getD undef = _ ∧ a.tmps[100]?.getD undef = _ ∧ True := hf
                  obtain ⟨f13, f25, f11, -⟩ := F
                  clear ho hf
                  go_simp
                  exact hK _ _ (Below.refl _ _) (Eq.refl _)
                refine And.intro ?_ ?_
                · intro a W hR hf ho K hK
                  replace hR := ext_drew hR
                  have F : a.tmps[100]?.getD undef = _ ∧ a.tmps[115]?.getD undef = _ ∧ True := hf
                  obtain ⟨f11, f26, -⟩ := F
                  clear ho hf
                  go_simp
                  exact hK _ _ (Below.refl _ _) (Eq.refl _)
                exact trivial
              case stab =>
                refine And.intro is_stable ?_
                refine And.intro is_stable ?_
                refine And.intro is_stable ?_
                refine And.intro is_stable ?_
                refine And.intro is_stable ?_
                refine And.intro is_stable ?_
                refine And.intro is_stable ?_
                refine And.intro is_stable ?_
                refine And.intro is_stable ?_
                refine And.intro is_stable ?_
                refine And.intro is_stable ?_
                refine And.intro is_stable ?_
                refine And.intro is_stable ?_
                refine And.intro is_stable ?_
                refine And.intro is_stable ?_
                refine And.intro is_stable ?_
                refine And.intro is_stable ?_
                refine And.intro is_stable ?_
                refine And.intro is_stable ?_
                refine And.intro is_stable ?_
                refine And.intro is_stable ?_
                refine And.intro is_stable ?_
                refine And.intro is_stable ?_
                refine And.intro is_stable ?_
                refine And.intro is_stable ?_
                refine And.intro is_stable ?_
                refine And.intro is_stable ?_
                refine And.intro is_stable ?_
                exact trivial
              case ends =>
                intro vals W hR hall
                replace hR := ext_drew hR
                have e116 : vals 116 = _ := hall 27 (by decide)
                clear hall
                simp only [fill, List.setIfInBounds_toArray, List.set_cons_succ, List.set_cons_zero, e116]
                go_wp2_with fail
                exact ⟨⟨k + 1, X5, _, by omega, by go_num, HU.out.ext hR⟩, by simp [intOf]; omega⟩
          · have hq4 : (what == 4) = false := by simpa using hw4
            by_cases hw5 : what = 5
            · subst hw5
              go_wp2_with fail
              refine (free_run (HI.out.1.run.ext HB.out.2) HI.out.1.ok ⟨tg, bs, tp, at', pe, ty⟩ HI.out.2.1.c).mono ?_
              rintro _ w6 ⟨rfl, hR6, hc6⟩
              have HT := Lib.hid ((HI.out.1.ext HB.out.2).turn hR6 hc6 (heap_free HI.out.1.ok ⟨tg, bs, tp, at', pe, ty⟩) (same_free X ⟨tg, bs, tp, at', pe, ty⟩)).next
              clear hR6 hc6
              obtain ⟨X5, hX5⟩ : ∃ X5, X5 = freeD X ⟨tg, bs, tp, at', pe, ty⟩ := ⟨_, rfl⟩
              rw [← hX5] at HT
              clear hX5
              go_wp2_with fail
              refine (live_run HT.out.run HT.out.ok).mono ?_
              rintro _ wa ⟨rfl, hE⟩
              have HU := Lib.hid (HT.out.ext hE)
              clear hE
              have htot := HU.out.ok.total
              rw [HU.out.root] at htot
              have hbb := HU.out.ok.bytes
              have hbf := HU.out.ok.free0
              have hbl := HU.out.ok.livesum
              have hst0 : 0 ≤ sumT X5.L := Int.le_trans (leftT_le (L := X5.L) (fun l hl => by have := HU.out.ok.live hl; omega) (fun _ => true)).1 (leftT_le (L := X5.L) (fun l hl => by have := HU.out.ok.live hl; omega) (fun _ => true)).2
              simp only [rootC] at htot
              have hw1 : IntKind.i64.wrap (sumT X5.L + sumN X5.Q) = sumT X5.L + sumN X5.Q := IntWalk.i64_in _ (by omega)
              have hw2 : IntKind.i64.wrap (sumT X5.L + sumN X5.Q + sumR X5.R) = 16 * (G : Int) := by rw [IntWalk.i64_in _ (by omega)]; omega
              obtain ⟨ck, c8, hck⟩ := HU.out.run.clock
              have hwd : wantsD X5 = (!runsB X5.time && decide (64 ≤ sumN X5.Q)) := by unfold wantsD; rw [HU.out.full]
              have hc8l := cell_lt c8
              simp only at hc8l
              cases hru : runsB X5.time with
              | false =>
                rw [hru] at hwd
                have HWD := Lib.hid hwd
                have HRU := Lib.hid hru
                clear hwd hru htot
                go_wp2_with fail
                refine wp_region_obl Ext [89, 90, 91, 92, 93, 94, 95, 96, 97, 98, 99, 100, 101, 102, 103, 104, 105, 106, 107, 108, 109, 110, 111, 112, 113, 114, 115, 116] (by kernel_rfl) (fun _ => Below.refl _ _) (fun _ _ _ => Ext.then) (by kernel_rfl) (by kernel_rfl) ?_
                apply ex_is; apply Exists.intro
                apply ex_is; apply Exists.intro
                apply ex_is; apply Exists.intro
                apply ex_is; apply Exists.intro
                apply ex_is; apply Exists.intro
                apply ex_is; apply Exists.intro
                apply ex_is; apply Exists.intro
                apply ex_is; apply Exists.intro
                apply ex_is; apply Exists.intro
                apply ex_is; apply Exists.intro
                apply ex_is; apply Exists.intro
                apply ex_is; apply Exists.intro
                apply ex_is; apply Exists.intro
                apply ex_is; apply Exists.intro
                apply ex_is; apply Exists.intro
                apply ex_is; apply Exists.intro
                apply ex_is; apply Exists.intro
                apply ex_is; apply Exists.intro
                apply ex_is; apply Exists.intro
                apply ex_is; apply Exists.intro
                apply ex_is; apply Exists.intro
                apply ex_is; apply Exists.intro
                apply ex_is; apply Exists.intro
                apply ex_is; apply Exists.intro
                apply ex_is; apply Exists.intro
                apply ex_is; apply Exists.intro
                apply ex_is; apply Exists.intro
                apply ex_is; apply Exists.intro
                refine ⟨[], ⟨?steps, ?stab, ?ends⟩⟩
                case steps =>
                  refine And.intro ?_ ?_
                  · intro a W hR hf ho K hK
                    replace hR := ext_drew hR
                    have G : a.tmps[14]?.getD undef = _ ∧ True := ho
                    obtain ⟨g14, -⟩ := G
                    clear ho hf
                    go_simp
                    exact hK _ _ (Below.refl _ _) (Eq.refl _)
                  refine And.intro ?_ ?_
                  · intro a W hR hf ho K hK
                    replace hR := ext_drew hR
                    have G : a.tmps[7]?.getD undef = _ ∧ True := ho
                    obtain ⟨g7, -⟩ := G
                    clear ho hf
                    go_simp
                    exact hK _ _ (Below.refl _ _) (Eq.refl _)
                  refine And.intro ?_ ?_
                  · intro a W hR hf ho K hK
                    replace hR := ext_drew hR
                    have F : a.tmps[90]?.getD undef = _ ∧ True := hf
                    obtain ⟨f1, -⟩ := F
                    clear ho hf
                    go_simp
                    refine (apart_run (HU.out.run.ext hR)).mono ?_; rintro e W1 ⟨rfl, hE⟩; exact hK _ _ hE (Eq.refl _)
                  refine And.intro ?_ ?_
                  · intro a W hR hf ho K hK
                    replace hR := ext_drew hR
                    have F : a.tmps[89]?.getD undef = _ ∧ a.tmps[91]?.getD undef = _ ∧ True := hf
                    obtain ⟨f0, f2, -⟩ := F
                    clear ho hf
                    go_simp
                    exact hK _ _ (Below.refl _ _) (Eq.refl _)
                  refine And.intro ?_ ?_
                  · intro a W hR hf ho K hK
                    replace hR := ext_drew hR
                    have G : a.tmps[7]?.getD undef = _ ∧ True := ho
                    obtain ⟨g7, -⟩ := G
                    clear ho hf
                    go_simp
                    exact hK _ _ (Below.refl _ _) (Eq.refl _)
                  refine And.intro ?_ ?_
                  · intro a W hR hf ho K hK
                    replace hR := ext_drew hR
                    have F : a.tmps[93]?.getD undef = _ ∧ a.tmps[91]?.getD undef = _ ∧ True := hf
                    obtain ⟨f4, f2, -⟩ := F
                    clear ho hf
                    go_simp
                    refine (left_run (HU.out.run.ext hR)).mono ?_; rintro e W1 ⟨rfl, hE⟩; exact hK _ _ hE (Eq.refl _)
                  refine And.intro ?_ ?_
                  · intro a W hR hf ho K hK
                    replace hR := ext_drew hR
                    have F : a.tmps[92]?.getD undef = _ ∧ a.tmps[94]?.getD undef = _ ∧ True := hf
                    obtain ⟨f3, f5, -⟩ := F
                    clear ho hf
                    go_simp
                    exact hK _ _ (Below.refl _ _) (Eq.refl _)
                  refine And.intro ?_ ?_
                  · intro a W hR hf ho K hK
                    replace hR := ext_drew hR
                    have G : a.tmps[0]?.getD undef = _ ∧ True := ho
                    obtain ⟨g0, -⟩ := G
                    clear ho hf
                    go_simp
                    exact hK _ _ (Below.refl _ _) (Eq.refl _)
                  refine And.intro ?_ ?_
                  · intro a W hR hf ho K hK
                    replace hR := ext_drew hR
                    have F : a.tmps[96]?.getD undef = _ ∧ True := hf
                    obtain ⟨f7, -⟩ := F
                    clear ho hf
                    go_simp
                    exact hK _ _ (Below.refl _ _) (Eq.refl _)
                  refine And.intro ?_ ?_
                  · intro a W hR hf ho K hK
                    replace hR := ext_drew hR
                    have F : a.tmps[97]?.getD undef = _ ∧ True := hf
                    obtain ⟨f8, -⟩ := F
                    clear ho hf
                    go_simp
                    exact hK _ _ (Below.refl _ _) (Eq.refl _)
                  refine And.intro ?_ ?_
                  · intro a W hR hf ho K hK
                    replace hR := ext_drew hR
                    have F : a.tmps[95]?.getD undef = _ ∧ a.tmps[98]?.getD undef = _ ∧ True := hf
                    obtain ⟨f6, f9, -⟩ := F
                    clear ho hf
                    go_simp
                    exact hK _ _ (Below.refl _ _) (Eq.refl _)
                  refine And.intro ?_ ?_
                  · intro a W hR hf ho K hK
                    replace hR := ext_drew hR
                    have F : a.tmps[99]?.getD undef = _ ∧ a.tmps[94]?.getD undef = _ ∧ True := hf
                    obtain ⟨f10, f5, -⟩ := F
                    clear ho hf
                    go_simp
                    exact hK _ _ (Below.refl _ _) (Eq.refl _)
                  refine And.intro ?_ ?_
                  · intro a W hR hf ho K hK
                    replace hR := ext_drew hR
                    have G : a.tmps[7]?.getD undef = _ ∧ True := ho
                    obtain ⟨g7, -⟩ := G
                    have F : a.tmps[100]?.getD undef = _ ∧ True := hf
                    obtain ⟨f11, -⟩ := F
                    clear ho hf
                    go_simp
                    exact hK _ _ (Below.refl _ _) (Eq.refl _)
                  refine And.intro ?_ ?_
                  · intro a W hR hf ho K hK
                    replace hR := ext_drew hR
                    have F : a.tmps[101]?.getD undef = _ ∧ a.tmps[100]?.getD undef = _ ∧ a.tmps[100]?.getD undef = _ ∧ True := hf
                    obtain ⟨f12, f11, -, -⟩ := F
                    clear ho hf
                    go_simp
                    have hwd := wants_run (HU.out.run.ext hR) HU.out.ok; rw [HWD.out] at hwd; refine hwd.mono ?_; rintro e W1 ⟨rfl, hE⟩; exact hK _ _ hE (Eq.refl _)
                  refine And.intro ?_ ?_
                  · intro a W hR hf ho K hK
                    replace hR := ext_drew hR
                    have G : a.tmps[7]?.getD undef = _ ∧ True := ho
                    obtain ⟨g7, -⟩ := G
                    have F : a.tmps[100]?.getD undef = _ ∧ True := hf
                    obtain ⟨f11, -⟩ := F
                    clear ho hf
                    go_simp
                    exact hK _ _ (Below.refl _ _) (Eq.refl _)
                  refine And.intro ?_ ?_
                  · intro a W hR hf ho K hK
                    replace hR := ext_drew hR
                    have F : a.tmps[103]?.getD undef = _ ∧ a.tmps[100]?.getD undef = _ ∧ True := hf
                    obtain ⟨f14, f11, -⟩ := F
                    clear ho hf
                    go_simp
                    exact hK _ _ (Below.refl _ _) (Eq.refl _)
                  refine And.intro ?_ ?_
                  · intro a W hR hf ho K hK
                    replace hR := ext_drew hR
                    have F : a.tmps[104]?.getD undef = _ ∧ a.tmps[100]?.getD undef = _ ∧ True := hf
                    obtain ⟨f15, f11, -⟩ := F
                    clear ho hf
                    go_simp
                    exact hK _ _ (Below.refl _ _) (Eq.refl _)
                  refine And.intro ?_ ?_
                  · intro a W hR hf ho K hK
                    replace hR := ext_drew hR
                    have F : a.tmps[105]?.getD undef = _ ∧ a.tmps[100]?.getD undef = _ ∧ True := hf
                    obtain ⟨f16, f11, -⟩ := F
                    clear ho hf
                    go_simp
                    exact hK _ _ (Below.refl _ _) (Eq.refl _)
                  refine And.intro ?_ ?_
                  · intro a W hR hf ho K hK
                    replace hR := ext_drew hR
                    have F : a.tmps[106]?.getD undef = _ ∧ a.tmps[100]?.getD undef = _ ∧ True := hf
                    obtain ⟨f17, f11, -⟩ := F
                    clear ho hf
                    have q8 := ext_cell hR _ _ c8
                    go_simp
                    exact hK _ _ (Below.refl _ _) (Eq.refl _)
                  refine And.intro ?_ ?_
                  · intro a W hR hf ho K hK
                    replace hR := ext_drew hR
                    have F : a.tmps[107]?.getD undef = _ ∧ a.tmps[102]?.getD undef = _ ∧ a.tmps[100]?.getD undef = _ ∧ True := hf
                    obtain ⟨f18, f13, f11, -⟩ := F
                    clear ho hf
                    go_simp
                    have hru := runs_any ck X5.time W ((hR.block _ (Array.getElem?_eq_some_iff.1 hck).1).trans hck) HU.out.ok.time.1 (Int.le_trans HU.out.ok.time.2 (by decide)); rw [HRU.out] at hru; refine hru.mono ?_; rintro e W1 ⟨rfl, hE⟩; exact hK _ _ hE (Eq.refl _)
                  refine And.intro ?_ ?_
                  · intro a W hR hf ho K hK
                    replace hR := ext_drew hR
                    have F : a.tmps[108]?.getD undef = _ ∧ a.tmps[100]?.getD undef = _ ∧ True := hf
                    obtain ⟨f19, f11, -⟩ := F
                    clear ho hf
                    go_simp
                    exact hK _ _ (Below.refl _ _) (Eq.refl _)
                  refine And.intro ?_ ?_
                  · intro a W hR hf ho K hK
                    replace hR := ext_drew hR
                    have F : a.tmps[109]?.getD undef = _ ∧ a.tmps[108]?.getD undef = _ ∧ a.tmps[100]?.getD undef = _ ∧ True := hf
                    obtain ⟨f20, f19, f11, -⟩ := F
                    clear ho hf
                    go_simp
                    exact hK _ _ (Below.refl _ _) (Eq.refl _)
                  refine And.intro ?_ ?_
                  · intro a W hR hf ho K hK
                    replace hR := ext_drew hR
                    have G : a.tmps[7]?.getD undef = _ ∧ True := ho
                    obtain ⟨g7, -⟩ := G
                    have F : a.tmps[110]?.getD undef = _ ∧ True := hf
                    obtain ⟨f21, -⟩ := F
                    clear ho hf
                    go_simp
                    exact hK _ _ (Below.refl _ _) (Eq.refl _)
                  refine And.intro ?_ ?_
                  · intro a W hR hf ho K hK
                    replace hR := ext_drew hR
                    have F : a.tmps[111]?.getD undef = _ ∧ a.tmps[110]?.getD undef = _ ∧ a.tmps[110]?.getD undef = _ ∧ True := hf
                    obtain ⟨f22, f21, -, -⟩ := F
                    clear ho hf
                    go_simp
                    refine (apart_run (HU.out.run.ext hR)).mono ?_; rintro e W1 ⟨rfl, hE⟩; exact hK _ _ hE (Eq.refl _)
                  refine And.intro ?_ ?_
                  · intro a W hR hf ho K hK
                    replace hR := ext_drew hR
                    have F : a.tmps[112]?.getD undef = _ ∧ a.tmps[110]?.getD undef = _ ∧ True := hf
                    obtain ⟨f23, f21, -⟩ := F
                    clear ho hf
                    go_simp
                    exact hK _ _ (Below.refl _ _) (Eq.refl _)
                  refine And.intro ?_ ?_
                  · intro a W hR hf ho K hK
                    replace hR := ext_drew hR
                    have F : a.tmps[110]?.getD undef = _ ∧ a.tmps[113]?.getD undef = _ ∧ a.tmps[100]?.getD undef = _ ∧ True := hf
                    obtain ⟨f21, f24, f11, -⟩ := F
                    clear ho hf
                    go_simp
                    exact hK _ _ (Below.refl _ _) (Eq.refl _)
                  refine And.intro ?_ ?_
                  · intro a W hR hf ho K hK
                    replace hR := ext_drew hR
                    have F : a.tmps[102]?.getD undef = _ ∧ a.tmps[114]?.getD undef = _ ∧ a.tmps[100]?.getD undef = _ ∧ True := hf
                    obtain ⟨f13, f25, f11, -⟩ := F
                    clear ho hf
                    go_simp
                    exact hK _ _ (Below.refl _ _) (Eq.refl _)
                  refine And.intro ?_ ?_
                  · intro a W hR hf ho K hK
                    replace hR := ext_drew hR
                    have F : a.tmps[100]?.getD undef = _ ∧ a.tmps[115]?.getD undef = _ ∧ True := hf
                    obtain ⟨f11, f26, -⟩ := F
                    clear ho hf
                    go_simp
                    exact hK _ _ (Below.refl _ _) (Eq.refl _)
                  exact trivial
                case stab =>
                  refine And.intro is_stable ?_
                  refine And.intro is_stable ?_
                  refine And.intro is_stable ?_
                  refine And.intro is_stable ?_
                  refine And.intro is_stable ?_
                  refine And.intro is_stable ?_
                  refine And.intro is_stable ?_
                  refine And.intro is_stable ?_
                  refine And.intro is_stable ?_
                  refine And.intro is_stable ?_
                  refine And.intro is_stable ?_
                  refine And.intro is_stable ?_
                  refine And.intro is_stable ?_
                  refine And.intro is_stable ?_
                  refine And.intro is_stable ?_
                  refine And.intro is_stable ?_
                  refine And.intro is_stable ?_
                  refine And.intro is_stable ?_
                  refine And.intro is_stable ?_
                  refine And.intro is_stable ?_
                  refine And.intro is_stable ?_
                  refine And.intro is_stable ?_
                  refine And.intro is_stable ?_
                  refine And.intro is_stable ?_
                  refine And.intro is_stable ?_
                  refine And.intro is_stable ?_
                  refine And.intro is_stable ?_
                  refine And.intro is_stable ?_
                  exact trivial
                case ends =>
                  intro vals W hR hall
                  replace hR := ext_drew hR
                  have e116 : vals 116 = _ := hall 27 (by decide)
                  clear hall
                  simp only [fill, List.setIfInBounds_toArray, List.set_cons_succ, List.set_cons_zero, e116]
                  go_wp2_with fail
                  exact ⟨⟨k + 1, X5, _, by omega, by go_num, HU.out.ext hR⟩, by simp [intOf]; omega⟩
              | true =>
                rw [hru] at hwd
                have HWD := Lib.hid hwd
                have HRU := Lib.hid hru
                clear hwd hru htot
                go_wp2_with fail
                refine wp_region_obl Ext [89, 90, 91, 92, 93, 94, 95, 96, 97, 98, 99, 100, 101, 102, 103, 104, 105, 106, 107, 108, 109, 110, 111, 112, 113, 114, 115, 116] (by kernel_rfl) (fun _ => Below.refl _ _) (fun _ _ _ => Ext.then) (by kernel_rfl) (by kernel_rfl) ?_
                apply ex_is; apply Exists.intro
                apply ex_is; apply Exists.intro
                apply ex_is; apply Exists.intro
                apply ex_is; apply Exists.intro
                apply ex_is; apply Exists.intro
                apply ex_is; apply Exists.intro
                apply ex_is; apply Exists.intro
                apply ex_is; apply Exists.intro
                apply ex_is; apply Exists.intro
                apply ex_is; apply Exists.intro
                apply ex_is; apply Exists.intro
                apply ex_is; apply Exists.intro
                apply ex_is; apply Exists.intro
                apply ex_is; apply Exists.intro
                apply ex_is; apply Exists.intro
                apply ex_is; apply Exists.intro
                apply ex_is; apply Exists.intro
                apply ex_is; apply Exists.intro
                apply ex_is; apply Exists.intro
                apply ex_is; apply Exists.intro
                apply ex_is; apply Exists.intro
                apply ex_is; apply Exists.intro
                apply ex_is; apply Exists.intro
                apply ex_is; apply Exists.intro
                apply ex_is; apply Exists.intro
                apply ex_is; apply Exists.intro
                apply ex_is; apply Exists.intro
                apply ex_is; apply Exists.intro
                refine ⟨[], ⟨?steps, ?stab, ?ends⟩⟩
                case steps =>
                  refine And.intro ?_ ?_
                  · intro a W hR hf ho K hK
                    replace hR := ext_drew hR
                    have G : a.tmps[14]?.getD undef = _ ∧ True := ho
                    obtain ⟨g14, -⟩ := G
                    clear ho hf
                    go_simp
                    exact hK _ _ (Below.refl _ _) (Eq.refl _)
                  refine And.intro ?_ ?_
                  · intro a W hR hf ho K hK
                    replace hR := ext_drew hR
                    have G : a.tmps[7]?.getD undef = _ ∧ True := ho
                    obtain ⟨g7, -⟩ := G
                    clear ho hf
                    go_simp
                    exact hK _ _ (Below.refl _ _) (Eq.refl _)
                  refine And.intro ?_ ?_
                  · intro a W hR hf ho K hK
                    replace hR := ext_drew hR
                    have F : a.tmps[90]?.getD undef = _ ∧ True := hf
                    obtain ⟨f1, -⟩ := F
                    clear ho hf
                    go_simp
                    refine (apart_run (HU.out.run.ext hR)).mono ?_; rintro e W1 ⟨rfl, hE⟩; exact hK _ _ hE (Eq.refl _)
                  refine And.intro ?_ ?_
                  · intro a W hR hf ho K hK
                    replace hR := ext_drew hR
                    have F : a.tmps[89]?.getD undef = _ ∧ a.tmps[91]?.getD undef = _ ∧ True := hf
                    obtain ⟨f0, f2, -⟩ := F
                    clear ho hf
                    go_simp
                    exact hK _ _ (Below.refl _ _) (Eq.refl _)
                  refine And.intro ?_ ?_
                  · intro a W hR hf ho K hK
                    replace hR := ext_drew hR
                    have G : a.tmps[7]?.getD undef = _ ∧ True := ho
                    obtain ⟨g7, -⟩ := G
                    clear ho hf
                    go_simp
                    exact hK _ _ (Below.refl _ _) (Eq.refl _)
                  refine And.intro ?_ ?_
                  · intro a W hR hf ho K hK
                    replace hR := ext_drew hR
                    have F : a.tmps[93]?.getD undef = _ ∧ a.tmps[91]?.getD undef = _ ∧ True := hf
                    obtain ⟨f4, f2, -⟩ := F
                    clear ho hf
                    go_simp
                    refine (left_run (HU.out.run.ext hR)).mono ?_; rintro e W1 ⟨rfl, hE⟩; exact hK _ _ hE (Eq.refl _)
                  refine And.intro ?_ ?_
                  · intro a W hR hf ho K hK
                    replace hR := ext_drew hR
                    have F : a.tmps[92]?.getD undef = _ ∧ a.tmps[94]?.getD undef = _ ∧ True := hf
                    obtain ⟨f3, f5, -⟩ := F
                    clear ho hf
                    go_simp
                    exact hK _ _ (Below.refl _ _) (Eq.refl _)
                  refine And.intro ?_ ?_
                  · intro a W hR hf ho K hK
                    replace hR := ext_drew hR
                    have G : a.tmps[0]?.getD undef = _ ∧ True := ho
                    obtain ⟨g0, -⟩ := G
                    clear ho hf
                    go_simp
                    exact hK _ _ (Below.refl _ _) (Eq.refl _)
                  refine And.intro ?_ ?_
                  · intro a W hR hf ho K hK
                    replace hR := ext_drew hR
                    have F : a.tmps[96]?.getD undef = _ ∧ True := hf
                    obtain ⟨f7, -⟩ := F
                    clear ho hf
                    go_simp
                    exact hK _ _ (Below.refl _ _) (Eq.refl _)
                  refine And.intro ?_ ?_
                  · intro a W hR hf ho K hK
                    replace hR := ext_drew hR
                    have F : a.tmps[97]?.getD undef = _ ∧ True := hf
                    obtain ⟨f8, -⟩ := F
                    clear ho hf
                    go_simp
                    exact hK _ _ (Below.refl _ _) (Eq.refl _)
                  refine And.intro ?_ ?_
                  · intro a W hR hf ho K hK
                    replace hR := ext_drew hR
                    have F : a.tmps[95]?.getD undef = _ ∧ a.tmps[98]?.getD undef = _ ∧ True := hf
                    obtain ⟨f6, f9, -⟩ := F
                    clear ho hf
                    go_simp
                    exact hK _ _ (Below.refl _ _) (Eq.refl _)
                  refine And.intro ?_ ?_
                  · intro a W hR hf ho K hK
                    replace hR := ext_drew hR
                    have F : a.tmps[99]?.getD undef = _ ∧ a.tmps[94]?.getD undef = _ ∧ True := hf
                    obtain ⟨f10, f5, -⟩ := F
                    clear ho hf
                    go_simp
                    exact hK _ _ (Below.refl _ _) (Eq.refl _)
                  refine And.intro ?_ ?_
                  · intro a W hR hf ho K hK
                    replace hR := ext_drew hR
                    have G : a.tmps[7]?.getD undef = _ ∧ True := ho
                    obtain ⟨g7, -⟩ := G
                    have F : a.tmps[100]?.getD undef = _ ∧ True := hf
                    obtain ⟨f11, -⟩ := F
                    clear ho hf
                    go_simp
                    exact hK _ _ (Below.refl _ _) (Eq.refl _)
                  refine And.intro ?_ ?_
                  · intro a W hR hf ho K hK
                    replace hR := ext_drew hR
                    have F : a.tmps[101]?.getD undef = _ ∧ a.tmps[100]?.getD undef = _ ∧ a.tmps[100]?.getD undef = _ ∧ True := hf
                    obtain ⟨f12, f11, -, -⟩ := F
                    clear ho hf
                    go_simp
                    have hwd := wants_run (HU.out.run.ext hR) HU.out.ok; rw [HWD.out] at hwd; refine hwd.mono ?_; rintro e W1 ⟨rfl, hE⟩; exact hK _ _ hE (Eq.refl _)
                  refine And.intro ?_ ?_
                  · intro a W hR hf ho K hK
                    replace hR := ext_drew hR
                    have G : a.tmps[7]?.getD undef = _ ∧ True := ho
                    obtain ⟨g7, -⟩ := G
                    have F : a.tmps[100]?.getD undef = _ ∧ True := hf
                    obtain ⟨f11, -⟩ := F
                    clear ho hf
                    go_simp
                    exact hK _ _ (Below.refl _ _) (Eq.refl _)
                  refine And.intro ?_ ?_
                  · intro a W hR hf ho K hK
                    replace hR := ext_drew hR
                    have F : a.tmps[103]?.getD undef = _ ∧ a.tmps[100]?.getD undef = _ ∧ True := hf
                    obtain ⟨f14, f11, -⟩ := F
                    clear ho hf
                    go_simp
                    exact hK _ _ (Below.refl _ _) (Eq.refl _)
                  refine And.intro ?_ ?_
                  · intro a W hR hf ho K hK
                    replace hR := ext_drew hR
                    have F : a.tmps[104]?.getD undef = _ ∧ a.tmps[100]?.getD undef = _ ∧ True := hf
                    obtain ⟨f15, f11, -⟩ := F
                    clear ho hf
                    go_simp
                    exact hK _ _ (Below.refl _ _) (Eq.refl _)
                  refine And.intro ?_ ?_
                  · intro a W hR hf ho K hK
                    replace hR := ext_drew hR
                    have F : a.tmps[105]?.getD undef = _ ∧ a.tmps[100]?.getD undef = _ ∧ True := hf
                    obtain ⟨f16, f11, -⟩ := F
                    clear ho hf
                    go_simp
                    exact hK _ _ (Below.refl _ _) (Eq.refl _)
                  refine And.intro ?_ ?_
                  · intro a W hR hf ho K hK
                    replace hR := ext_drew hR
                    have F : a.tmps[106]?.getD undef = _ ∧ a.tmps[100]?.getD undef = _ ∧ True := hf
                    obtain ⟨f17, f11, -⟩ := F
                    clear ho hf
                    have q8 := ext_cell hR _ _ c8
                    go_simp
                    exact hK _ _ (Below.refl _ _) (Eq.refl _)
                  refine And.intro ?_ ?_
                  · intro a W hR hf ho K hK
                    replace hR := ext_drew hR
                    have F : a.tmps[107]?.getD undef = _ ∧ a.tmps[102]?.getD undef = _ ∧ a.tmps[100]?.getD undef = _ ∧ True := hf
                    obtain ⟨f18, f13, f11, -⟩ := F
                    clear ho hf
                    go_simp
                    have hru := runs_any ck X5.time W ((hR.block _ (Array.getElem?_eq_some_iff.1 hck).1).trans hck) HU.out.ok.time.1 (Int.le_trans HU.out.ok.time.2 (by decide)); rw [HRU.out] at hru; refine hru.mono ?_; rintro e W1 ⟨rfl, hE⟩; exact hK _ _ hE (Eq.refl _)
                  refine And.intro ?_ ?_
                  · intro a W hR hf ho K hK
                    replace hR := ext_drew hR
                    have F : a.tmps[108]?.getD undef = _ ∧ a.tmps[100]?.getD undef = _ ∧ True := hf
                    obtain ⟨f19, f11, -⟩ := F
                    clear ho hf
                    go_simp
                    exact hK _ _ (Below.refl _ _) (Eq.refl _)
                  refine And.intro ?_ ?_
                  · intro a W hR hf ho K hK
                    replace hR := ext_drew hR
                    have F : a.tmps[109]?.getD undef = _ ∧ a.tmps[108]?.getD undef = _ ∧ a.tmps[100]?.getD undef = _ ∧ True := hf
                    obtain ⟨f20, f19, f11, -⟩ := F
                    clear ho hf
                    go_simp
                    exact hK _ _ (Below.refl _ _) (Eq.refl _)
                  refine And.intro ?_ ?_
                  · intro a W hR hf ho K hK
                    replace hR := ext_drew hR
                    have G : a.tmps[7]?.getD undef = _ ∧ True := ho
                    obtain ⟨g7, -⟩ := G
                    have F : a.tmps[110]?.getD undef = _ ∧ True := hf
                    obtain ⟨f21, -⟩ := F
                    clear ho hf
                    go_simp
                    exact hK _ _ (Below.refl _ _) (Eq.refl _)
                  refine And.intro ?_ ?_
                  · intro a W hR hf ho K hK
                    replace hR := ext_drew hR
                    have F : a.tmps[111]?.getD undef = _ ∧ a.tmps[110]?.getD undef = _ ∧ a.tmps[110]?.getD undef = _ ∧ True := hf
                    obtain ⟨f22, f21, -, -⟩ := F
                    clear ho hf
                    go_simp
                    exact hK _ _ (Below.refl _ _) (Eq.refl _)
                  refine And.intro ?_ ?_
                  · intro a W hR hf ho K hK
                    replace hR := ext_drew hR
                    have F : a.tmps[112]?.getD undef = _ ∧ a.tmps[110]?.getD undef = _ ∧ True := hf
                    obtain ⟨f23, f21, -⟩ := F
                    clear ho hf
                    go_simp
                    exact hK _ _ (Below.refl _ _) (Eq.refl _)
                  refine And.intro ?_ ?_
                  · intro a W hR hf ho K hK
                    replace hR := ext_drew hR
                    have F : a.tmps[110]?.getD undef = _ ∧ a.tmps[113]?.getD undef = _ ∧ a.tmps[100]?.getD undef = _ ∧ True := hf
                    obtain ⟨f21, f24, f11, -⟩ := F
                    clear ho hf
                    go_simp
                    exact hK _ _ (Below.refl _ _) (Eq.refl _)
                  refine And.intro ?_ ?_
                  · intro a W hR hf ho K hK
                    replace hR := ext_drew hR
                    have F : a.tmps[102]?.getD undef = _ ∧ a.tmps[114]?.getD undef = _ ∧ a.tmps[100]?.getD undef = _ ∧ True := hf
                    obtain ⟨f13, f25, f11, -⟩ := F
                    clear ho hf
                    go_simp
                    exact hK _ _ (Below.refl _ _) (Eq.refl _)
                  refine And.intro ?_ ?_
                  · intro a W hR hf ho K hK
                    replace hR := ext_drew hR
                    have F : a.tmps[100]?.getD undef = _ ∧ a.tmps[115]?.getD undef = _ ∧ True := hf
                    obtain ⟨f11, f26, -⟩ := F
                    clear ho hf
                    go_simp
                    exact hK _ _ (Below.refl _ _) (Eq.refl _)
                  exact trivial
                case stab =>
                  refine And.intro is_stable ?_
                  refine And.intro is_stable ?_
                  refine And.intro is_stable ?_
                  refine And.intro is_stable ?_
                  refine And.intro is_stable ?_
                  refine And.intro is_stable ?_
                  refine And.intro is_stable ?_
                  refine And.intro is_stable ?_
                  refine And.intro is_stable ?_
                  refine And.intro is_stable ?_
                  refine And.intro is_stable ?_
                  refine And.intro is_stable ?_
                  refine And.intro is_stable ?_
                  refine And.intro is_stable ?_
                  refine And.intro is_stable ?_
                  refine And.intro is_stable ?_
                  refine And.intro is_stable ?_
                  refine And.intro is_stable ?_
                  refine And.intro is_stable ?_
                  refine And.intro is_stable ?_
                  refine And.intro is_stable ?_
                  refine And.intro is_stable ?_
                  refine And.intro is_stable ?_
                  refine And.intro is_stable ?_
                  refine And.intro is_stable ?_
                  refine And.intro is_stable ?_
                  refine And.intro is_stable ?_
                  refine And.intro is_stable ?_
                  exact trivial
                case ends =>
                  intro vals W hR hall
                  replace hR := ext_drew hR
                  have e116 : vals 116 = _ := hall 27 (by decide)
                  clear hall
                  simp only [fill, List.setIfInBounds_toArray, List.set_cons_succ, List.set_cons_zero, e116]
                  go_wp2_with fail
                  exact ⟨⟨k + 1, X5, _, by omega, by go_num, HU.out.ext hR⟩, by simp [intOf]; omega⟩
            · have hq5 : (what == 5) = false := by simpa using hw5
              by_cases hw7 : what = 7
              · subst hw7
                go_wp2_with fail
                refine (begin_run (HI.out.1.run.ext HB.out.2) HI.out.1.ok).mono ?_
                rintro _ w6 ⟨rfl, hR6, hc6⟩
                have HT := Lib.hid ((HI.out.1.ext HB.out.2).turn hR6 hc6 (heap_begin HI.out.1.ok) (same_begin X)).next
                clear hR6 hc6
                obtain ⟨X5, hX5⟩ : ∃ X5, X5 = beginD X := ⟨_, rfl⟩
                rw [← hX5] at HT
                clear hX5
                go_wp2_with fail
                refine (live_run HT.out.run HT.out.ok).mono ?_
                rintro _ wa ⟨rfl, hE⟩
                have HU := Lib.hid (HT.out.ext hE)
                clear hE
                have htot := HU.out.ok.total
                rw [HU.out.root] at htot
                have hbb := HU.out.ok.bytes
                have hbf := HU.out.ok.free0
                have hbl := HU.out.ok.livesum
                have hst0 : 0 ≤ sumT X5.L := Int.le_trans (leftT_le (L := X5.L) (fun l hl => by have := HU.out.ok.live hl; omega) (fun _ => true)).1 (leftT_le (L := X5.L) (fun l hl => by have := HU.out.ok.live hl; omega) (fun _ => true)).2
                simp only [rootC] at htot
                have hw1 : IntKind.i64.wrap (sumT X5.L + sumN X5.Q) = sumT X5.L + sumN X5.Q := IntWalk.i64_in _ (by omega)
                have hw2 : IntKind.i64.wrap (sumT X5.L + sumN X5.Q + sumR X5.R) = 16 * (G : Int) := by rw [IntWalk.i64_in _ (by omega)]; omega
                obtain ⟨ck, c8, hck⟩ := HU.out.run.clock
                have hwd : wantsD X5 = (!runsB X5.time && decide (64 ≤ sumN X5.Q)) := by unfold wantsD; rw [HU.out.full]
                have hc8l := cell_lt c8
                simp only at hc8l
                cases hru : runsB X5.time with
                | false =>
                  rw [hru] at hwd
                  have HWD := Lib.hid hwd
                  have HRU := Lib.hid hru
                  clear hwd hru htot
                  go_wp2_with fail
                  refine wp_region_obl Ext [89, 90, 91, 92, 93, 94, 95, 96, 97, 98, 99, 100, 101, 102, 103, 104, 105, 106, 107, 108, 109, 110, 111, 112, 113, 114, 115, 116] (by kernel_rfl) (fun _ => Below.refl _ _) (fun _ _ _ => Ext.then) (by kernel_rfl) (by kernel_rfl) ?_
                  apply ex_is; apply Exists.intro
                  apply ex_is; apply Exists.intro
                  apply ex_is; apply Exists.intro
                  apply ex_is; apply Exists.intro
                  apply ex_is; apply Exists.intro
                  apply ex_is; apply Exists.intro
                  apply ex_is; apply Exists.intro
                  apply ex_is; apply Exists.intro
                  apply ex_is; apply Exists.intro
                  apply ex_is; apply Exists.intro
                  apply ex_is; apply Exists.intro
                  apply ex_is; apply Exists.intro
                  apply ex_is; apply Exists.intro
                  apply ex_is; apply Exists.intro
                  apply ex_is; apply Exists.intro
                  apply ex_is; apply Exists.intro
                  apply ex_is; apply Exists.intro
                  apply ex_is; apply Exists.intro
                  apply ex_is; apply Exists.intro
                  apply ex_is; apply Exists.intro
                  apply ex_is; apply Exists.intro
                  apply ex_is; apply Exists.intro
                  apply ex_is; apply Exists.intro
                  apply ex_is; apply Exists.intro
                  apply ex_is; apply Exists.intro
                  apply ex_is; apply Exists.intro
                  apply ex_is; apply Exists.intro
                  apply ex_is; apply Exists.intro
                  refine ⟨[], ⟨?steps, ?stab, ?ends⟩⟩
                  case steps =>
                    refine And.intro ?_ ?_
                    · intro a W hR hf ho K hK
                      replace hR := ext_drew hR
                      have G : a.tmps[14]?.getD undef = _ ∧ True := ho
                      obtain ⟨g14, -⟩ := G
                      clear ho hf
                      go_simp
                      exact hK _ _ (Below.refl _ _) (Eq.refl _)
                    refine And.intro ?_ ?_
                    · intro a W hR hf ho K hK
                      replace hR := ext_drew hR
                      have G : a.tmps[7]?.getD undef = _ ∧ True := ho
                      obtain ⟨g7, -⟩ := G
                      clear ho hf
                      go_simp
                      exact hK _ _ (Below.refl _ _) (Eq.refl _)
                    refine And.intro ?_ ?_
                    · intro a W hR hf ho K hK
                      replace hR := ext_drew hR
                      have F : a.tmps[90]?.getD undef = _ ∧ True := hf
                      obtain ⟨f1, -⟩ := F
                      clear ho hf
                      go_simp
                      refine (apart_run (HU.out.run.ext hR)).mono ?_; rintro e W1 ⟨rfl, hE⟩; exact hK _ _ hE (Eq.refl _)
                    refine And.intro ?_ ?_
                    · intro a W hR hf ho K hK
                      replace hR := ext_drew hR
                      have F : a.tmps[89]?.getD undef = _ ∧ a.tmps[91]?.getD undef = _ ∧ True := hf
                      obtain ⟨f0, f2, -⟩ := F
                      clear ho hf
                      go_simp
                      exact hK _ _ (Below.refl _ _) (Eq.refl _)
                    refine And.intro ?_ ?_
                    · intro a W hR hf ho K hK
                      replace hR := ext_drew hR
                      have G : a.tmps[7]?.getD undef = _ ∧ True := ho
                      obtain ⟨g7, -⟩ := G
                      clear ho hf
                      go_simp
                      exact hK _ _ (Below.refl _ _) (Eq.refl _)
                    refine And.intro ?_ ?_
                    · intro a W hR hf ho K hK
                      replace hR := ext_drew hR
                      have F : a.tmps[93]?.getD undef = _ ∧ a.tmps[91]?.getD undef = _ ∧ True := hf
                      obtain ⟨f4, f2, -⟩ := F
                      clear ho hf
                      go_simp
                      refine (left_run (HU.out.run.ext hR)).mono ?_; rintro e W1 ⟨rfl, hE⟩; exact hK _ _ hE (Eq.refl _)
                    refine And.intro ?_ ?_
                    · intro a W hR hf ho K hK
                      replace hR := ext_drew hR
                      have F : a.tmps[92]?.getD undef = _ ∧ a.tmps[94]?.getD undef = _ ∧ True := hf
                      obtain ⟨f3, f5, -⟩ := F
                      clear ho hf
                      go_simp
                      exact hK _ _ (Below.refl _ _) (Eq.refl _)
                    refine And.intro ?_ ?_
                    · intro a W hR hf ho K hK
                      replace hR := ext_drew hR
                      have G : a.tmps[0]?.getD undef = _ ∧ True := ho
                      obtain ⟨g0, -⟩ := G
                      clear ho hf
                      go_simp
                      exact hK _ _ (Below.refl _ _) (Eq.refl _)
                    refine And.intro ?_ ?_
                    · intro a W hR hf ho K hK
                      replace hR := ext_drew hR
                      have F : a.tmps[96]?.getD undef = _ ∧ True := hf
                      obtain ⟨f7, -⟩ := F
                      clear ho hf
                      go_simp
                      exact hK _ _ (Below.refl _ _) (Eq.refl _)
                    refine And.intro ?_ ?_
                    · intro a W hR hf ho K hK
                      replace hR := ext_drew hR
                      have F : a.tmps[97]?.getD undef = _ ∧ True := hf
                      obtain ⟨f8, -⟩ := F
                      clear ho hf
                      go_simp
                      exact hK _ _ (Below.refl _ _) (Eq.refl _)
                    refine And.intro ?_ ?_
                    · intro a W hR hf ho K hK
                      replace hR := ext_drew hR
                      have F : a.tmps[95]?.getD undef = _ ∧ a.tmps[98]?.getD undef = _ ∧ True := hf
                      obtain ⟨f6, f9, -⟩ := F
                      clear ho hf
                      go_simp
                      exact hK _ _ (Below.refl _ _) (Eq.refl _)
                    refine And.intro ?_ ?_
                    · intro a W hR hf ho K hK
                      replace hR := ext_drew hR
                      have F : a.tmps[99]?.getD undef = _ ∧ a.tmps[94]?.getD undef = _ ∧ True := hf
                      obtain ⟨f10, f5, -⟩ := F
                      clear ho hf
                      go_simp
                      exact hK _ _ (Below.refl _ _) (Eq.refl _)
                    refine And.intro ?_ ?_
                    · intro a W hR hf ho K hK
                      replace hR := ext_drew hR
                      have G : a.tmps[7]?.getD undef = _ ∧ True := ho
                      obtain ⟨g7, -⟩ := G
                      have F : a.tmps[100]?.getD undef = _ ∧ True := hf
                      obtain ⟨f11, -⟩ := F
                      clear ho hf
                      go_simp
                      exact hK _ _ (Below.refl _ _) (Eq.refl _)
                    refine And.intro ?_ ?_
                    · intro a W hR hf ho K hK
                      replace hR := ext_drew hR
                      have F : a.tmps[101]?.getD undef = _ ∧ a.tmps[100]?.getD undef = _ ∧ a.tmps[100]?.getD undef = _ ∧ True := hf
                      obtain ⟨f12, f11, -, -⟩ := F
                      clear ho hf
                      go_simp
                      have hwd := wants_run (HU.out.run.ext hR) HU.out.ok; rw [HWD.out] at hwd; refine hwd.mono ?_; rintro e W1 ⟨rfl, hE⟩; exact hK _ _ hE (Eq.refl _)
                    refine And.intro ?_ ?_
                    · intro a W hR hf ho K hK
                      replace hR := ext_drew hR
                      have G : a.tmps[7]?.getD undef = _ ∧ True := ho
                      obtain ⟨g7, -⟩ := G
                      have F : a.tmps[100]?.getD undef = _ ∧ True := hf
                      obtain ⟨f11, -⟩ := F
                      clear ho hf
                      go_simp
                      exact hK _ _ (Below.refl _ _) (Eq.refl _)
                    refine And.intro ?_ ?_
                    · intro a W hR hf ho K hK
                      replace hR := ext_drew hR
                      have F : a.tmps[103]?.getD undef = _ ∧ a.tmps[100]?.getD undef = _ ∧ True := hf
                      obtain ⟨f14, f11, -⟩ := F
                      clear ho hf
                      go_simp
                      exact hK _ _ (Below.refl _ _) (Eq.refl _)
                    refine And.intro ?_ ?_
                    · intro a W hR hf ho K hK
                      replace hR := ext_drew hR
                      have F : a.tmps[104]?.getD undef = _ ∧ a.tmps[100]?.getD undef = _ ∧ True := hf
                      obtain ⟨f15, f11, -⟩ := F
                      clear ho hf
                      go_simp
                      exact hK _ _ (Below.refl _ _) (Eq.refl _)
                    refine And.intro ?_ ?_
                    · intro a W hR hf ho K hK
                      replace hR := ext_drew hR
                      have F : a.tmps[105]?.getD undef = _ ∧ a.tmps[100]?.getD undef = _ ∧ True := hf
                      obtain ⟨f16, f11, -⟩ := F
                      clear ho hf
                      go_simp
                      exact hK _ _ (Below.refl _ _) (Eq.refl _)
                    refine And.intro ?_ ?_
                    · intro a W hR hf ho K hK
                      replace hR := ext_drew hR
                      have F : a.tmps[106]?.getD undef = _ ∧ a.tmps[100]?.getD undef = _ ∧ True := hf
                      obtain ⟨f17, f11, -⟩ := F
                      clear ho hf
                      have q8 := ext_cell hR _ _ c8
                      go_simp
                      exact hK _ _ (Below.refl _ _) (Eq.refl _)
                    refine And.intro ?_ ?_
                    · intro a W hR hf ho K hK
                      replace hR := ext_drew hR
                      have F : a.tmps[107]?.getD undef = _ ∧ a.tmps[102]?.getD undef = _ ∧ a.tmps[100]?.getD undef = _ ∧ True := hf
                      obtain ⟨f18, f13, f11, -⟩ := F
                      clear ho hf
                      go_simp
                      have hru := runs_any ck X5.time W ((hR.block _ (Array.getElem?_eq_some_iff.1 hck).1).trans hck) HU.out.ok.time.1 (Int.le_trans HU.out.ok.time.2 (by decide)); rw [HRU.out] at hru; refine hru.mono ?_; rintro e W1 ⟨rfl, hE⟩; exact hK _ _ hE (Eq.refl _)
                    refine And.intro ?_ ?_
                    · intro a W hR hf ho K hK
                      replace hR := ext_drew hR
                      have F : a.tmps[108]?.getD undef = _ ∧ a.tmps[100]?.getD undef = _ ∧ True := hf
                      obtain ⟨f19, f11, -⟩ := F
                      clear ho hf
                      go_simp
                      exact hK _ _ (Below.refl _ _) (Eq.refl _)
                    refine And.intro ?_ ?_
                    · intro a W hR hf ho K hK
                      replace hR := ext_drew hR
                      have F : a.tmps[109]?.getD undef = _ ∧ a.tmps[108]?.getD undef = _ ∧ a.tmps[100]?.getD undef = _ ∧ True := hf
                      obtain ⟨f20, f19, f11, -⟩ := F
                      clear ho hf
                      go_simp
                      exact hK _ _ (Below.refl _ _) (Eq.refl _)
                    refine And.intro ?_ ?_
                    · intro a W hR hf ho K hK
                      replace hR := ext_drew hR
                      have G : a.tmps[7]?.getD undef = _ ∧ True := ho
                      obtain ⟨g7, -⟩ := G
                      have F : a.tmps[110]?.getD undef = _ ∧ True := hf
                      obtain ⟨f21, -⟩ := F
                      clear ho hf
                      go_simp
                      exact hK _ _ (Below.refl _ _) (Eq.refl _)
                    refine And.intro ?_ ?_
                    · intro a W hR hf ho K hK
                      replace hR := ext_drew hR
                      have F : a.tmps[111]?.getD undef = _ ∧ a.tmps[110]?.getD undef = _ ∧ a.tmps[110]?.getD undef = _ ∧ True := hf
                      obtain ⟨f22, f21, -, -⟩ := F
                      clear ho hf
                      go_simp
                      refine (apart_run (HU.out.run.ext hR)).mono ?_; rintro e W1 ⟨rfl, hE⟩; exact hK _ _ hE (Eq.refl _)
                    refine And.intro ?_ ?_
                    · intro a W hR hf ho K hK
                      replace hR := ext_drew hR
                      have F : a.tmps[112]?.getD undef = _ ∧ a.tmps[110]?.getD undef = _ ∧ True := hf
                      obtain ⟨f23, f21, -⟩ := F
                      clear ho hf
                      go_simp
                      exact hK _ _ (Below.refl _ _) (Eq.refl _)
                    refine And.intro ?_ ?_
                    · intro a W hR hf ho K hK
                      replace hR := ext_drew hR
                      have F : a.tmps[110]?.getD undef = _ ∧ a.tmps[113]?.getD undef = _ ∧ a.tmps[100]?.getD undef = _ ∧ True := hf
                      obtain ⟨f21, f24, f11, -⟩ := F
                      clear ho hf
                      go_simp
                      exact hK _ _ (Below.refl _ _) (Eq.refl _)
                    refine And.intro ?_ ?_
                    · intro a W hR hf ho K hK
                      replace hR := ext_drew hR
                      have F : a.tmps[102]?.getD undef = _ ∧ a.tmps[114]?.getD undef = _ ∧ a.tmps[100]?.getD undef = _ ∧ True := hf
                      obtain ⟨f13, f25, f11, -⟩ := F
                      clear ho hf
                      go_simp
                      exact hK _ _ (Below.refl _ _) (Eq.refl _)
                    refine And.intro ?_ ?_
                    · intro a W hR hf ho K hK
                      replace hR := ext_drew hR
                      have F : a.tmps[100]?.getD undef = _ ∧ a.tmps[115]?.getD undef = _ ∧ True := hf
                      obtain ⟨f11, f26, -⟩ := F
                      clear ho hf
                      go_simp
                      exact hK _ _ (Below.refl _ _) (Eq.refl _)
                    exact trivial
                  case stab =>
                    refine And.intro is_stable ?_
                    refine And.intro is_stable ?_
                    refine And.intro is_stable ?_
                    refine And.intro is_stable ?_
                    refine And.intro is_stable ?_
                    refine And.intro is_stable ?_
                    refine And.intro is_stable ?_
                    refine And.intro is_stable ?_
                    refine And.intro is_stable ?_
                    refine And.intro is_stable ?_
                    refine And.intro is_stable ?_
                    refine And.intro is_stable ?_
                    refine And.intro is_stable ?_
                    refine And.intro is_stable ?_
                    refine And.intro is_stable ?_
                    refine And.intro is_stable ?_
                    refine And.intro is_stable ?_
                    refine And.intro is_stable ?_
                    refine And.intro is_stable ?_
                    refine And.intro is_stable ?_
                    refine And.intro is_stable ?_
                    refine And.intro is_stable ?_
                    refine And.intro is_stable ?_
                    refine And.intro is_stable ?_
                    refine And.intro is_stable ?_
                    refine And.intro is_stable ?_
                    refine And.intro is_stable ?_
                    refine And.intro is_stable ?_
                    exact trivial
                  case ends =>
                    intro vals W hR hall
                    replace hR := ext_drew hR
                    have e116 : vals 116 = _ := hall 27 (by decide)
                    clear hall
                    simp only [fill, List.setIfInBounds_toArray, List.set_cons_succ, List.set_cons_zero, e116]
                    go_wp2_with fail
                    exact ⟨⟨k + 1, X5, _, by omega, by go_num, HU.out.ext hR⟩, by simp [intOf]; omega⟩
                | true =>
                  rw [hru] at hwd
                  have HWD := Lib.hid hwd
                  have HRU := Lib.hid hru
                  clear hwd hru htot
                  go_wp2_with fail
                  refine wp_region_obl Ext [89, 90, 91, 92, 93, 94, 95, 96, 97, 98, 99, 100, 101, 102, 103, 104, 105, 106, 107, 108, 109, 110, 111, 112, 113, 114, 115, 116] (by kernel_rfl) (fun _ => Below.refl _ _) (fun _ _ _ => Ext.then) (by kernel_rfl) (by kernel_rfl) ?_
                  apply ex_is; apply Exists.intro
                  apply ex_is; apply Exists.intro
                  apply ex_is; apply Exists.intro
                  apply ex_is; apply Exists.intro
                  apply ex_is; apply Exists.intro
                  apply ex_is; apply Exists.intro
                  apply ex_is; apply Exists.intro
                  apply ex_is; apply Exists.intro
                  apply ex_is; apply Exists.intro
                  apply ex_is; apply Exists.intro
                  apply ex_is; apply Exists.intro
                  apply ex_is; apply Exists.intro
                  apply ex_is; apply Exists.intro
                  apply ex_is; apply Exists.intro
                  apply ex_is; apply Exists.intro
                  apply ex_is; apply Exists.intro
                  apply ex_is; apply Exists.intro
                  apply ex_is; apply Exists.intro
                  apply ex_is; apply Exists.intro
                  apply ex_is; apply Exists.intro
                  apply ex_is; apply Exists.intro
                  apply ex_is; apply Exists.intro
                  apply ex_is; apply Exists.intro
                  apply ex_is; apply Exists.intro
                  apply ex_is; apply Exists.intro
                  apply ex_is; apply Exists.intro
                  apply ex_is; apply Exists.intro
                  apply ex_is; apply Exists.intro
                  refine ⟨[], ⟨?steps, ?stab, ?ends⟩⟩
                  case steps =>
                    refine And.intro ?_ ?_
                    · intro a W hR hf ho K hK
                      replace hR := ext_drew hR
                      have G : a.tmps[14]?.getD undef = _ ∧ True := ho
                      obtain ⟨g14, -⟩ := G
                      clear ho hf
                      go_simp
                      exact hK _ _ (Below.refl _ _) (Eq.refl _)
                    refine And.intro ?_ ?_
                    · intro a W hR hf ho K hK
                      replace hR := ext_drew hR
                      have G : a.tmps[7]?.getD undef = _ ∧ True := ho
                      obtain ⟨g7, -⟩ := G
                      clear ho hf
                      go_simp
                      exact hK _ _ (Below.refl _ _) (Eq.refl _)
                    refine And.intro ?_ ?_
                    · intro a W hR hf ho K hK
                      replace hR := ext_drew hR
                      have F : a.tmps[90]?.getD undef = _ ∧ True := hf
                      obtain ⟨f1, -⟩ := F
                      clear ho hf
                      go_simp
                      refine (apart_run (HU.out.run.ext hR)).mono ?_; rintro e W1 ⟨rfl, hE⟩; exact hK _ _ hE (Eq.refl _)
                    refine And.intro ?_ ?_
                    · intro a W hR hf ho K hK
                      replace hR := ext_drew hR
                      have F : a.tmps[89]?.getD undef = _ ∧ a.tmps[91]?.getD undef = _ ∧ True := hf
                      obtain ⟨f0, f2, -⟩ := F
                      clear ho hf
                      go_simp
                      exact hK _ _ (Below.refl _ _) (Eq.refl _)
                    refine And.intro ?_ ?_
                    · intro a W hR hf ho K hK
                      replace hR := ext_drew hR
                      have G : a.tmps[7]?.getD undef = _ ∧ True := ho
                      obtain ⟨g7, -⟩ := G
                      clear ho hf
                      go_simp
                      exact hK _ _ (Below.refl _ _) (Eq.refl _)
                    refine And.intro ?_ ?_
                    · intro a W hR hf ho K hK
                      replace hR := ext_drew hR
                      have F : a.tmps[93]?.getD undef = _ ∧ a.tmps[91]?.getD undef = _ ∧ True := hf
                      obtain ⟨f4, f2, -⟩ := F
                      clear ho hf
                      go_simp
                      refine (left_run (HU.out.run.ext hR)).mono ?_; rintro e W1 ⟨rfl, hE⟩; exact hK _ _ hE (Eq.refl _)
                    refine And.intro ?_ ?_
                    · intro a W hR hf ho K hK
                      replace hR := ext_drew hR
                      have F : a.tmps[92]?.getD undef = _ ∧ a.tmps[94]?.getD undef = _ ∧ True := hf
                      obtain ⟨f3, f5, -⟩ := F
                      clear ho hf
                      go_simp
                      exact hK _ _ (Below.refl _ _) (Eq.refl _)
                    refine And.intro ?_ ?_
                    · intro a W hR hf ho K hK
                      replace hR := ext_drew hR
                      have G : a.tmps[0]?.getD undef = _ ∧ True := ho
                      obtain ⟨g0, -⟩ := G
                      clear ho hf
                      go_simp
                      exact hK _ _ (Below.refl _ _) (Eq.refl _)
                    refine And.intro ?_ ?_
                    · intro a W hR hf ho K hK
                      replace hR := ext_drew hR
                      have F : a.tmps[96]?.getD undef = _ ∧ True := hf
                      obtain ⟨f7, -⟩ := F
                      clear ho hf
                      go_simp
                      exact hK _ _ (Below.refl _ _) (Eq.refl _)
                    refine And.intro ?_ ?_
                    · intro a W hR hf ho K hK
                      replace hR := ext_drew hR
                      have F : a.tmps[97]?.getD undef = _ ∧ True := hf
                      obtain ⟨f8, -⟩ := F
                      clear ho hf
                      go_simp
                      exact hK _ _ (Below.refl _ _) (Eq.refl _)
                    refine And.intro ?_ ?_
                    · intro a W hR hf ho K hK
                      replace hR := ext_drew hR
                      have F : a.tmps[95]?.getD undef = _ ∧ a.tmps[98]?.getD undef = _ ∧ True := hf
                      obtain ⟨f6, f9, -⟩ := F
                      clear ho hf
                      go_simp
                      exact hK _ _ (Below.refl _ _) (Eq.refl _)
                    refine And.intro ?_ ?_
                    · intro a W hR hf ho K hK
                      replace hR := ext_drew hR
                      have F : a.tmps[99]?.getD undef = _ ∧ a.tmps[94]?.getD undef = _ ∧ True := hf
                      obtain ⟨f10, f5, -⟩ := F
                      clear ho hf
                      go_simp
                      exact hK _ _ (Below.refl _ _) (Eq.refl _)
                    refine And.intro ?_ ?_
                    · intro a W hR hf ho K hK
                      replace hR := ext_drew hR
                      have G : a.tmps[7]?.getD undef = _ ∧ True := ho
                      obtain ⟨g7, -⟩ := G
                      have F : a.tmps[100]?.getD undef = _ ∧ True := hf
                      obtain ⟨f11, -⟩ := F
                      clear ho hf
                      go_simp
                      exact hK _ _ (Below.refl _ _) (Eq.refl _)
                    refine And.intro ?_ ?_
                    · intro a W hR hf ho K hK
                      replace hR := ext_drew hR
                      have F : a.tmps[101]?.getD undef = _ ∧ a.tmps[100]?.getD undef = _ ∧ a.tmps[100]?.getD undef = _ ∧ True := hf
                      obtain ⟨f12, f11, -, -⟩ := F
                      clear ho hf
                      go_simp
                      have hwd := wants_run (HU.out.run.ext hR) HU.out.ok; rw [HWD.out] at hwd; refine hwd.mono ?_; rintro e W1 ⟨rfl, hE⟩; exact hK _ _ hE (Eq.refl _)
                    refine And.intro ?_ ?_
                    · intro a W hR hf ho K hK
                      replace hR := ext_drew hR
                      have G : a.tmps[7]?.getD undef = _ ∧ True := ho
                      obtain ⟨g7, -⟩ := G
                      have F : a.tmps[100]?.getD undef = _ ∧ True := hf
                      obtain ⟨f11, -⟩ := F
                      clear ho hf
                      go_simp
                      exact hK _ _ (Below.refl _ _) (Eq.refl _)
                    refine And.intro ?_ ?_
                    · intro a W hR hf ho K hK
                      replace hR := ext_drew hR
                      have F : a.tmps[103]?.getD undef = _ ∧ a.tmps[100]?.getD undef = _ ∧ True := hf
                      obtain ⟨f14, f11, -⟩ := F
                      clear ho hf
                      go_simp
                      exact hK _ _ (Below.refl _ _) (Eq.refl _)
                    refine And.intro ?_ ?_
                    · intro a W hR hf ho K hK
                      replace hR := ext_drew hR
                      have F : a.tmps[104]?.getD undef = _ ∧ a.tmps[100]?.getD undef = _ ∧ True := hf
                      obtain ⟨f15, f11, -⟩ := F
                      clear ho hf
                      go_simp
                      exact hK _ _ (Below.refl _ _) (Eq.refl _)
                    refine And.intro ?_ ?_
                    · intro a W hR hf ho K hK
                      replace hR := ext_drew hR
                      have F : a.tmps[105]?.getD undef = _ ∧ a.tmps[100]?.getD undef = _ ∧ True := hf
                      obtain ⟨f16, f11, -⟩ := F
                      clear ho hf
                      go_simp
                      exact hK _ _ (Below.refl _ _) (Eq.refl _)
                    refine And.intro ?_ ?_
                    · intro a W hR hf ho K hK
                      replace hR := ext_drew hR
                      have F : a.tmps[106]?.getD undef = _ ∧ a.tmps[100]?.getD undef = _ ∧ True := hf
                      obtain ⟨f17, f11, -⟩ := F
                      clear ho hf
                      have q8 := ext_cell hR _ _ c8
                      go_simp
                      exact hK _ _ (Below.refl _ _) (Eq.refl _)
                    refine And.intro ?_ ?_
                    · intro a W hR hf ho K hK
                      replace hR := ext_drew hR
                      have F : a.tmps[107]?.getD undef = _ ∧ a.tmps[102]?.getD undef = _ ∧ a.tmps[100]?.getD undef = _ ∧ True := hf
                      obtain ⟨f18, f13, f11, -⟩ := F
                      clear ho hf
                      go_simp
                      have hru := runs_any ck X5.time W ((hR.block _ (Array.getElem?_eq_some_iff.1 hck).1).trans hck) HU.out.ok.time.1 (Int.le_trans HU.out.ok.time.2 (by decide)); rw [HRU.out] at hru; refine hru.mono ?_; rintro e W1 ⟨rfl, hE⟩; exact hK _ _ hE (Eq.refl _)
                    refine And.intro ?_ ?_
                    · intro a W hR hf ho K hK
                      replace hR := ext_drew hR
                      have F : a.tmps[108]?.getD undef = _ ∧ a.tmps[100]?.getD undef = _ ∧ True := hf
                      obtain ⟨f19, f11, -⟩ := F
                      clear ho hf
                      go_simp
                      exact hK _ _ (Below.refl _ _) (Eq.refl _)
                    refine And.intro ?_ ?_
                    · intro a W hR hf ho K hK
                      replace hR := ext_drew hR
                      have F : a.tmps[109]?.getD undef = _ ∧ a.tmps[108]?.getD undef = _ ∧ a.tmps[100]?.getD undef = _ ∧ True := hf
                      obtain ⟨f20, f19, f11, -⟩ := F
                      clear ho hf
                      go_simp
                      exact hK _ _ (Below.refl _ _) (Eq.refl _)
                    refine And.intro ?_ ?_
                    · intro a W hR hf ho K hK
                      replace hR := ext_drew hR
                      have G : a.tmps[7]?.getD undef = _ ∧ True := ho
                      obtain ⟨g7, -⟩ := G
                      have F : a.tmps[110]?.getD undef = _ ∧ True := hf
                      obtain ⟨f21, -⟩ := F
                      clear ho hf
                      go_simp
                      exact hK _ _ (Below.refl _ _) (Eq.refl _)
                    refine And.intro ?_ ?_
                    · intro a W hR hf ho K hK
                      replace hR := ext_drew hR
                      have F : a.tmps[111]?.getD undef = _ ∧ a.tmps[110]?.getD undef = _ ∧ a.tmps[110]?.getD undef = _ ∧ True := hf
                      obtain ⟨f22, f21, -, -⟩ := F
                      clear ho hf
                      go_simp
                      exact hK _ _ (Below.refl _ _) (Eq.refl _)
                    refine And.intro ?_ ?_
                    · intro a W hR hf ho K hK
                      replace hR := ext_drew hR
                      have F : a.tmps[112]?.getD undef = _ ∧ a.tmps[110]?.getD undef = _ ∧ True := hf
                      obtain ⟨f23, f21, -⟩ := F
                      clear ho hf
                      go_simp
                      exact hK _ _ (Below.refl _ _) (Eq.refl _)
                    refine And.intro ?_ ?_
                    · intro a W hR hf ho K hK
                      replace hR := ext_drew hR
                      have F : a.tmps[110]?.getD undef = _ ∧ a.tmps[113]?.getD undef = _ ∧ a.tmps[100]?.getD undef = _ ∧ True := hf
                      obtain ⟨f21, f24, f11, -⟩ := F
                      clear ho hf
                      go_simp
                      exact hK _ _ (Below.refl _ _) (Eq.refl _)
                    refine And.intro ?_ ?_
                    · intro a W hR hf ho K hK
                      replace hR := ext_drew hR
                      have F : a.tmps[102]?.getD undef = _ ∧ a.tmps[114]?.getD undef = _ ∧ a.tmps[100]?.getD undef = _ ∧ True := hf
                      obtain ⟨f13, f25, f11, -⟩ := F
                      clear ho hf
                      go_simp
                      exact hK _ _ (Below.refl _ _) (Eq.refl _)
                    refine And.intro ?_ ?_
                    · intro a W hR hf ho K hK
                      replace hR := ext_drew hR
                      have F : a.tmps[100]?.getD undef = _ ∧ a.tmps[115]?.getD undef = _ ∧ True := hf
                      obtain ⟨f11, f26, -⟩ := F
                      clear ho hf
                      go_simp
                      exact hK _ _ (Below.refl _ _) (Eq.refl _)
                    exact trivial
                  case stab =>
                    refine And.intro is_stable ?_
                    refine And.intro is_stable ?_
                    refine And.intro is_stable ?_
                    refine And.intro is_stable ?_
                    refine And.intro is_stable ?_
                    refine And.intro is_stable ?_
                    refine And.intro is_stable ?_
                    refine And.intro is_stable ?_
                    refine And.intro is_stable ?_
                    refine And.intro is_stable ?_
                    refine And.intro is_stable ?_
                    refine And.intro is_stable ?_
                    refine And.intro is_stable ?_
                    refine And.intro is_stable ?_
                    refine And.intro is_stable ?_
                    refine And.intro is_stable ?_
                    refine And.intro is_stable ?_
                    refine And.intro is_stable ?_
                    refine And.intro is_stable ?_
                    refine And.intro is_stable ?_
                    refine And.intro is_stable ?_
                    refine And.intro is_stable ?_
                    refine And.intro is_stable ?_
                    refine And.intro is_stable ?_
                    refine And.intro is_stable ?_
                    refine And.intro is_stable ?_
                    refine And.intro is_stable ?_
                    refine And.intro is_stable ?_
                    exact trivial
                  case ends =>
                    intro vals W hR hall
                    replace hR := ext_drew hR
                    have e116 : vals 116 = _ := hall 27 (by decide)
                    clear hall
                    simp only [fill, List.setIfInBounds_toArray, List.set_cons_succ, List.set_cons_zero, e116]
                    go_wp2_with fail
                    exact ⟨⟨k + 1, X5, _, by omega, by go_num, HU.out.ext hR⟩, by simp [intOf]; omega⟩
              · have hq7 : (what == 7) = false := by simpa using hw7
                by_cases hw8 : what = 8
                · subst hw8
                  go_wp2_with fail
                  refine (end_run (HI.out.1.run.ext HB.out.2) HI.out.1.ok).mono ?_
                  rintro _ w6 ⟨rfl, hR6, hc6⟩
                  have HT := Lib.hid ((HI.out.1.ext HB.out.2).turn hR6 hc6 (heap_end HI.out.1.ok) (same_end X)).next
                  clear hR6 hc6
                  obtain ⟨X5, hX5⟩ : ∃ X5, X5 = endD X := ⟨_, rfl⟩
                  rw [← hX5] at HT
                  clear hX5
                  go_wp2_with fail
                  refine (live_run HT.out.run HT.out.ok).mono ?_
                  rintro _ wa ⟨rfl, hE⟩
                  have HU := Lib.hid (HT.out.ext hE)
                  clear hE
                  have htot := HU.out.ok.total
                  rw [HU.out.root] at htot
                  have hbb := HU.out.ok.bytes
                  have hbf := HU.out.ok.free0
                  have hbl := HU.out.ok.livesum
                  have hst0 : 0 ≤ sumT X5.L := Int.le_trans (leftT_le (L := X5.L) (fun l hl => by have := HU.out.ok.live hl; omega) (fun _ => true)).1 (leftT_le (L := X5.L) (fun l hl => by have := HU.out.ok.live hl; omega) (fun _ => true)).2
                  simp only [rootC] at htot
                  have hw1 : IntKind.i64.wrap (sumT X5.L + sumN X5.Q) = sumT X5.L + sumN X5.Q := IntWalk.i64_in _ (by omega)
                  have hw2 : IntKind.i64.wrap (sumT X5.L + sumN X5.Q + sumR X5.R) = 16 * (G : Int) := by rw [IntWalk.i64_in _ (by omega)]; omega
                  obtain ⟨ck, c8, hck⟩ := HU.out.run.clock
                  have hwd : wantsD X5 = (!runsB X5.time && decide (64 ≤ sumN X5.Q)) := by unfold wantsD; rw [HU.out.full]
                  have hc8l := cell_lt c8
                  simp only at hc8l
                  cases hru : runsB X5.time with
                  | false =>
                    rw [hru] at hwd
                    have HWD := Lib.hid hwd
                    have HRU := Lib.hid hru
                    clear hwd hru htot
                    go_wp2_with fail
                    refine wp_region_obl Ext [89, 90, 91, 92, 93, 94, 95, 96, 97, 98, 99, 100, 101, 102, 103, 104, 105, 106, 107, 108, 109, 110, 111, 112, 113, 114, 115, 116] (by kernel_rfl) (fun _ => Below.refl _ _) (fun _ _ _ => Ext.then) (by kernel_rfl) (by kernel_rfl) ?_
                    apply ex_is; apply Exists.intro
                    apply ex_is; apply Exists.intro
                    apply ex_is; apply Exists.intro
                    apply ex_is; apply Exists.intro
                    apply ex_is; apply Exists.intro
                    apply ex_is; apply Exists.intro
                    apply ex_is; apply Exists.intro
                    apply ex_is; apply Exists.intro
                    apply ex_is; apply Exists.intro
                    apply ex_is; apply Exists.intro
                    apply ex_is; apply Exists.intro
                    apply ex_is; apply Exists.intro
                    apply ex_is; apply Exists.intro
                    apply ex_is; apply Exists.intro
                    apply ex_is; apply Exists.intro
                    apply ex_is; apply Exists.intro
                    apply ex_is; apply Exists.intro
                    apply ex_is; apply Exists.intro
                    apply ex_is; apply Exists.intro
                    apply ex_is; apply Exists.intro
                    apply ex_is; apply Exists.intro
                    apply ex_is; apply Exists.intro
                    apply ex_is; apply Exists.intro
                    apply ex_is; apply Exists.intro
                    apply ex_is; apply Exists.intro
                    apply ex_is; apply Exists.intro
                    apply ex_is; apply Exists.intro
                    apply ex_is; apply Exists.intro
                    refine ⟨[], ⟨?steps, ?stab, ?ends⟩⟩
                    case steps =>
                      refine And.intro ?_ ?_
                      · intro a W hR hf ho K hK
                        replace hR := ext_drew hR
                        have G : a.tmps[14]?.getD undef = _ ∧ True := ho
                        obtain ⟨g14, -⟩ := G
                        clear ho hf
                        go_simp
                        exact hK _ _ (Below.refl _ _) (Eq.refl _)
                      refine And.intro ?_ ?_
                      · intro a W hR hf ho K hK
                        replace hR := ext_drew hR
                        have G : a.tmps[7]?.getD undef = _ ∧ True := ho
                        obtain ⟨g7, -⟩ := G
                        clear ho hf
                        go_simp
                        exact hK _ _ (Below.refl _ _) (Eq.refl _)
                      refine And.intro ?_ ?_
                      · intro a W hR hf ho K hK
                        replace hR := ext_drew hR
                        have F : a.tmps[90]?.getD undef = _ ∧ True := hf
                        obtain ⟨f1, -⟩ := F
                        clear ho hf
                        go_simp
                        refine (apart_run (HU.out.run.ext hR)).mono ?_; rintro e W1 ⟨rfl, hE⟩; exact hK _ _ hE (Eq.refl _)
                      refine And.intro ?_ ?_
                      · intro a W hR hf ho K hK
                        replace hR := ext_drew hR
                        have F : a.tmps[89]?.getD undef = _ ∧ a.tmps[91]?.getD undef = _ ∧ True := hf
                        obtain ⟨f0, f2, -⟩ := F
                        clear ho hf
                        go_simp
                        exact hK _ _ (Below.refl _ _) (Eq.refl _)
                      refine And.intro ?_ ?_
                      · intro a W hR hf ho K hK
                        replace hR := ext_drew hR
                        have G : a.tmps[7]?.getD undef = _ ∧ True := ho
                        obtain ⟨g7, -⟩ := G
                        clear ho hf
                        go_simp
                        exact hK _ _ (Below.refl _ _) (Eq.refl _)
                      refine And.intro ?_ ?_
                      · intro a W hR hf ho K hK
                        replace hR := ext_drew hR
                        have F : a.tmps[93]?.getD undef = _ ∧ a.tmps[91]?.getD undef = _ ∧ True := hf
                        obtain ⟨f4, f2, -⟩ := F
                        clear ho hf
                        go_simp
                        refine (left_run (HU.out.run.ext hR)).mono ?_; rintro e W1 ⟨rfl, hE⟩; exact hK _ _ hE (Eq.refl _)
                      refine And.intro ?_ ?_
                      · intro a W hR hf ho K hK
                        replace hR := ext_drew hR
                        have F : a.tmps[92]?.getD undef = _ ∧ a.tmps[94]?.getD undef = _ ∧ True := hf
                        obtain ⟨f3, f5, -⟩ := F
                        clear ho hf
                        go_simp
                        exact hK _ _ (Below.refl _ _) (Eq.refl _)
                      refine And.intro ?_ ?_
                      · intro a W hR hf ho K hK
                        replace hR := ext_drew hR
                        have G : a.tmps[0]?.getD undef = _ ∧ True := ho
                        obtain ⟨g0, -⟩ := G
                        clear ho hf
                        go_simp
                        exact hK _ _ (Below.refl _ _) (Eq.refl _)
                      refine And.intro ?_ ?_
                      · intro a W hR hf ho K hK
                        replace hR := ext_drew hR
                        have F : a.tmps[96]?.getD undef = _ ∧ True := hf
                        obtain ⟨f7, -⟩ := F
                        clear ho hf
                        go_simp
                        exact hK _ _ (Below.refl _ _) (Eq.refl _)
                      refine And.intro ?_ ?_
                      · intro a W hR hf ho K hK
                        replace hR := ext_drew hR
                        have F : a.tmps[97]?.getD undef = _ ∧ True := hf
                        obtain ⟨f8, -⟩ := F
                        clear ho hf
                        go_simp
                        exact hK _ _ (Below.refl _ _) (Eq.refl _)
                      refine And.intro ?_ ?_
                      · intro a W hR hf ho K hK
                        replace hR := ext_drew hR
                        have F : a.tmps[95]?.getD undef = _ ∧ a.tmps[98]?.getD undef = _ ∧ True := hf
                        obtain ⟨f6, f9, -⟩ := F
                        clear ho hf
                        go_simp
                        exact hK _ _ (Below.refl _ _) (Eq.refl _)
                      refine And.intro ?_ ?_
                      · intro a W hR hf ho K hK
                        replace hR := ext_drew hR
                        have F : a.tmps[99]?.getD undef = _ ∧ a.tmps[94]?.getD undef = _ ∧ True := hf
                        obtain ⟨f10, f5, -⟩ := F
                        clear ho hf
                        go_simp
                        exact hK _ _ (Below.refl _ _) (Eq.refl _)
                      refine And.intro ?_ ?_
                      · intro a W hR hf ho K hK
                        replace hR := ext_drew hR
                        have G : a.tmps[7]?.getD undef = _ ∧ True := ho
                        obtain ⟨g7, -⟩ := G
                        have F : a.tmps[100]?.getD undef = _ ∧ True := hf
                        obtain ⟨f11, -⟩ := F
                        clear ho hf
                        go_simp
                        exact hK _ _ (Below.refl _ _) (Eq.refl _)
                      refine And.intro ?_ ?_
                      · intro a W hR hf ho K hK
                        replace hR := ext_drew hR
                        have F : a.tmps[101]?.getD undef = _ ∧ a.tmps[100]?.getD undef = _ ∧ a.tmps[100]?.getD undef = _ ∧ True := hf
                        obtain ⟨f12, f11, -, -⟩ := F
                        clear ho hf
                        go_simp
                        have hwd := wants_run (HU.out.run.ext hR) HU.out.ok; rw [HWD.out] at hwd; refine hwd.mono ?_; rintro e W1 ⟨rfl, hE⟩; exact hK _ _ hE (Eq.refl _)
                      refine And.intro ?_ ?_
                      · intro a W hR hf ho K hK
                        replace hR := ext_drew hR
                        have G : a.tmps[7]?.getD undef = _ ∧ True := ho
                        obtain ⟨g7, -⟩ := G
                        have F : a.tmps[100]?.getD undef = _ ∧ True := hf
                        obtain ⟨f11, -⟩ := F
                        clear ho hf
                        go_simp
                        exact hK _ _ (Below.refl _ _) (Eq.refl _)
                      refine And.intro ?_ ?_
                      · intro a W hR hf ho K hK
                        replace hR := ext_drew hR
                        have F : a.tmps[103]?.getD undef = _ ∧ a.tmps[100]?.getD undef = _ ∧ True := hf
                        obtain ⟨f14, f11, -⟩ := F
                        clear ho hf
                        go_simp
                        exact hK _ _ (Below.refl _ _) (Eq.refl _)
                      refine And.intro ?_ ?_
                      · intro a W hR hf ho K hK
                        replace hR := ext_drew hR
                        have F : a.tmps[104]?.getD undef = _ ∧ a.tmps[100]?.getD undef = _ ∧ True := hf
                        obtain ⟨f15, f11, -⟩ := F
                        clear ho hf
                        go_simp
                        exact hK _ _ (Below.refl _ _) (Eq.refl _)
                      refine And.intro ?_ ?_
                      · intro a W hR hf ho K hK
                        replace hR := ext_drew hR
                        have F : a.tmps[105]?.getD undef = _ ∧ a.tmps[100]?.getD undef = _ ∧ True := hf
                        obtain ⟨f16, f11, -⟩ := F
                        clear ho hf
                        go_simp
                        exact hK _ _ (Below.refl _ _) (Eq.refl _)
                      refine And.intro ?_ ?_
                      · intro a W hR hf ho K hK
                        replace hR := ext_drew hR
                        have F : a.tmps[106]?.getD undef = _ ∧ a.tmps[100]?.getD undef = _ ∧ True := hf
                        obtain ⟨f17, f11, -⟩ := F
                        clear ho hf
                        have q8 := ext_cell hR _ _ c8
                        go_simp
                        exact hK _ _ (Below.refl _ _) (Eq.refl _)
                      refine And.intro ?_ ?_
                      · intro a W hR hf ho K hK
                        replace hR := ext_drew hR
                        have F : a.tmps[107]?.getD undef = _ ∧ a.tmps[102]?.getD undef = _ ∧ a.tmps[100]?.getD undef = _ ∧ True := hf
                        obtain ⟨f18, f13, f11, -⟩ := F
                        clear ho hf
                        go_simp
                        have hru := runs_any ck X5.time W ((hR.block _ (Array.getElem?_eq_some_iff.1 hck).1).trans hck) HU.out.ok.time.1 (Int.le_trans HU.out.ok.time.2 (by decide)); rw [HRU.out] at hru; refine hru.mono ?_; rintro e W1 ⟨rfl, hE⟩; exact hK _ _ hE (Eq.refl _)
                      refine And.intro ?_ ?_
                      · intro a W hR hf ho K hK
                        replace hR := ext_drew hR
                        have F : a.tmps[108]?.getD undef = _ ∧ a.tmps[100]?.getD undef = _ ∧ True := hf
                        obtain ⟨f19, f11, -⟩ := F
                        clear ho hf
                        go_simp
                        exact hK _ _ (Below.refl _ _) (Eq.refl _)
                      refine And.intro ?_ ?_
                      · intro a W hR hf ho K hK
                        replace hR := ext_drew hR
                        have F : a.tmps[109]?.getD undef = _ ∧ a.tmps[108]?.getD undef = _ ∧ a.tmps[100]?.getD undef = _ ∧ True := hf
                        obtain ⟨f20, f19, f11, -⟩ := F
                        clear ho hf
                        go_simp
                        exact hK _ _ (Below.refl _ _) (Eq.refl _)
                      refine And.intro ?_ ?_
                      · intro a W hR hf ho K hK
                        replace hR := ext_drew hR
                        have G : a.tmps[7]?.getD undef = _ ∧ True := ho
                        obtain ⟨g7, -⟩ := G
                        have F : a.tmps[110]?.getD undef = _ ∧ True := hf
                        obtain ⟨f21, -⟩ := F
                        clear ho hf
                        go_simp
                        exact hK _ _ (Below.refl _ _) (Eq.refl _)
                      refine And.intro ?_ ?_
                      · intro a W hR hf ho K hK
                        replace hR := ext_drew hR
                        have F : a.tmps[111]?.getD undef = _ ∧ a.tmps[110]?.getD undef = _ ∧ a.tmps[110]?.getD undef = _ ∧ True := hf
                        obtain ⟨f22, f21, -, -⟩ := F
                        clear ho hf
                        go_simp
                        refine (apart_run (HU.out.run.ext hR)).mono ?_; rintro e W1 ⟨rfl, hE⟩; exact hK _ _ hE (Eq.refl _)
                      refine And.intro ?_ ?_
                      · intro a W hR hf ho K hK
                        replace hR := ext_drew hR
                        have F : a.tmps[112]?.getD undef = _ ∧ a.tmps[110]?.getD undef = _ ∧ True := hf
                        obtain ⟨f23, f21, -⟩ := F
                        clear ho hf
                        go_simp
                        exact hK _ _ (Below.refl _ _) (Eq.refl _)
                      refine And.intro ?_ ?_
                      · intro a W hR hf ho K hK
                        replace hR := ext_drew hR
                        have F : a.tmps[110]?.getD undef = _ ∧ a.tmps[113]?.getD undef = _ ∧ a.tmps[100]?.getD undef = _ ∧ True := hf
                        obtain ⟨f21, f24, f11, -⟩ := F
                        clear ho hf
                        go_simp
                        exact hK _ _ (Below.refl _ _) (Eq.refl _)
                      refine And.intro ?_ ?_
                      · intro a W hR hf ho K hK
                        replace hR := ext_drew hR
                        have F : a.tmps[102]?.getD undef = _ ∧ a.tmps[114]?.getD undef = _ ∧ a.tmps[100]?.getD undef = _ ∧ True := hf
                        obtain ⟨f13, f25, f11, -⟩ := F
                        clear ho hf
                        go_simp
                        exact hK _ _ (Below.refl _ _) (Eq.refl _)
                      refine And.intro ?_ ?_
                      · intro a W hR hf ho K hK
                        replace hR := ext_drew hR
                        have F : a.tmps[100]?.getD undef = _ ∧ a.tmps[115]?.getD undef = _ ∧ True := hf
                        obtain ⟨f11, f26, -⟩ := F
                        clear ho hf
                        go_simp
                        exact hK _ _ (Below.refl _ _) (Eq.refl _)
                      exact trivial
                    case stab =>
                      refine And.intro is_stable ?_
                      refine And.intro is_stable ?_
                      refine And.intro is_stable ?_
                      refine And.intro is_stable ?_
                      refine And.intro is_stable ?_
                      refine And.intro is_stable ?_
                      refine And.intro is_stable ?_
                      refine And.intro is_stable ?_
                      refine And.intro is_stable ?_
                      refine And.intro is_stable ?_
                      refine And.intro is_stable ?_
                      refine And.intro is_stable ?_
                      refine And.intro is_stable ?_
                      refine And.intro is_stable ?_
                      refine And.intro is_stable ?_
                      refine And.intro is_stable ?_
                      refine And.intro is_stable ?_
                      refine And.intro is_stable ?_
                      refine And.intro is_stable ?_
                      refine And.intro is_stable ?_
                      refine And.intro is_stable ?_
                      refine And.intro is_stable ?_
                      refine And.intro is_stable ?_
                      refine And.intro is_stable ?_
                      refine And.intro is_stable ?_
                      refine And.intro is_stable ?_
                      refine And.intro is_stable ?_
                      refine And.intro is_stable ?_
                      exact trivial
                    case ends =>
                      intro vals W hR hall
                      replace hR := ext_drew hR
                      have e116 : vals 116 = _ := hall 27 (by decide)
                      clear hall
                      simp only [fill, List.setIfInBounds_toArray, List.set_cons_succ, List.set_cons_zero, e116]
                      go_wp2_with fail
                      exact ⟨⟨k + 1, X5, _, by omega, by go_num, HU.out.ext hR⟩, by simp [intOf]; omega⟩
                  | true =>
                    rw [hru] at hwd
                    have HWD := Lib.hid hwd
                    have HRU := Lib.hid hru
                    clear hwd hru htot
                    go_wp2_with fail
                    refine wp_region_obl Ext [89, 90, 91, 92, 93, 94, 95, 96, 97, 98, 99, 100, 101, 102, 103, 104, 105, 106, 107, 108, 109, 110, 111, 112, 113, 114, 115, 116] (by kernel_rfl) (fun _ => Below.refl _ _) (fun _ _ _ => Ext.then) (by kernel_rfl) (by kernel_rfl) ?_
                    apply ex_is; apply Exists.intro
                    apply ex_is; apply Exists.intro
                    apply ex_is; apply Exists.intro
                    apply ex_is; apply Exists.intro
                    apply ex_is; apply Exists.intro
                    apply ex_is; apply Exists.intro
                    apply ex_is; apply Exists.intro
                    apply ex_is; apply Exists.intro
                    apply ex_is; apply Exists.intro
                    apply ex_is; apply Exists.intro
                    apply ex_is; apply Exists.intro
                    apply ex_is; apply Exists.intro
                    apply ex_is; apply Exists.intro
                    apply ex_is; apply Exists.intro
                    apply ex_is; apply Exists.intro
                    apply ex_is; apply Exists.intro
                    apply ex_is; apply Exists.intro
                    apply ex_is; apply Exists.intro
                    apply ex_is; apply Exists.intro
                    apply ex_is; apply Exists.intro
                    apply ex_is; apply Exists.intro
                    apply ex_is; apply Exists.intro
                    apply ex_is; apply Exists.intro
                    apply ex_is; apply Exists.intro
                    apply ex_is; apply Exists.intro
                    apply ex_is; apply Exists.intro
                    apply ex_is; apply Exists.intro
                    apply ex_is; apply Exists.intro
                    refine ⟨[], ⟨?steps, ?stab, ?ends⟩⟩
                    case steps =>
                      refine And.intro ?_ ?_
                      · intro a W hR hf ho K hK
                        replace hR := ext_drew hR
                        have G : a.tmps[14]?.getD undef = _ ∧ True := ho
                        obtain ⟨g14, -⟩ := G
                        clear ho hf
                        go_simp
                        exact hK _ _ (Below.refl _ _) (Eq.refl _)
                      refine And.intro ?_ ?_
                      · intro a W hR hf ho K hK
                        replace hR := ext_drew hR
                        have G : a.tmps[7]?.getD undef = _ ∧ True := ho
                        obtain ⟨g7, -⟩ := G
                        clear ho hf
                        go_simp
                        exact hK _ _ (Below.refl _ _) (Eq.refl _)
                      refine And.intro ?_ ?_
                      · intro a W hR hf ho K hK
                        replace hR := ext_drew hR
                        have F : a.tmps[90]?.getD undef = _ ∧ True := hf
                        obtain ⟨f1, -⟩ := F
                        clear ho hf
                        go_simp
                        refine (apart_run (HU.out.run.ext hR)).mono ?_; rintro e W1 ⟨rfl, hE⟩; exact hK _ _ hE (Eq.refl _)
                      refine And.intro ?_ ?_
                      · intro a W hR hf ho K hK
                        replace hR := ext_drew hR
                        have F : a.tmps[89]?.getD undef = _ ∧ a.tmps[91]?.getD undef = _ ∧ True := hf
                        obtain ⟨f0, f2, -⟩ := F
                        clear ho hf
                        go_simp
                        exact hK _ _ (Below.refl _ _) (Eq.refl _)
                      refine And.intro ?_ ?_
                      · intro a W hR hf ho K hK
                        replace hR := ext_drew hR
                        have G : a.tmps[7]?.getD undef = _ ∧ True := ho
                        obtain ⟨g7, -⟩ := G
                        clear ho hf
                        go_simp
                        exact hK _ _ (Below.refl _ _) (Eq.refl _)
                      refine And.intro ?_ ?_
                      · intro a W hR hf ho K hK
                        replace hR := ext_drew hR
                        have F : a.tmps[93]?.getD undef = _ ∧ a.tmps[91]?.getD undef = _ ∧ True := hf
                        obtain ⟨f4, f2, -⟩ := F
                        clear ho hf
                        go_simp
                        refine (left_run (HU.out.run.ext hR)).mono ?_; rintro e W1 ⟨rfl, hE⟩; exact hK _ _ hE (Eq.refl _)
                      refine And.intro ?_ ?_
                      · intro a W hR hf ho K hK
                        replace hR := ext_drew hR
                        have F : a.tmps[92]?.getD undef = _ ∧ a.tmps[94]?.getD undef = _ ∧ True := hf
                        obtain ⟨f3, f5, -⟩ := F
                        clear ho hf
                        go_simp
                        exact hK _ _ (Below.refl _ _) (Eq.refl _)
                      refine And.intro ?_ ?_
                      · intro a W hR hf ho K hK
                        replace hR := ext_drew hR
                        have G : a.tmps[0]?.getD undef = _ ∧ True := ho
                        obtain ⟨g0, -⟩ := G
                        clear ho hf
                        go_simp
                        exact hK _ _ (Below.refl _ _) (Eq.refl _)
                      refine And.intro ?_ ?_
                      · intro a W hR hf ho K hK
                        replace hR := ext_drew hR
                        have F : a.tmps[96]?.getD undef = _ ∧ True := hf
                        obtain ⟨f7, -⟩ := F
                        clear ho hf
                        go_simp
                        exact hK _ _ (Below.refl _ _) (Eq.refl _)
                      refine And.intro ?_ ?_
                      · intro a W hR hf ho K hK
                        replace hR := ext_drew hR
                        have F : a.tmps[97]?.getD undef = _ ∧ True := hf
                        obtain ⟨f8, -⟩ := F
                        clear ho hf
                        go_simp
                        exact hK _ _ (Below.refl _ _) (Eq.refl _)
                      refine And.intro ?_ ?_
                      · intro a W hR hf ho K hK
                        replace hR := ext_drew hR
                        have F : a.tmps[95]?.getD undef = _ ∧ a.tmps[98]?.getD undef = _ ∧ True := hf
                        obtain ⟨f6, f9, -⟩ := F
                        clear ho hf
                        go_simp
                        exact hK _ _ (Below.refl _ _) (Eq.refl _)
                      refine And.intro ?_ ?_
                      · intro a W hR hf ho K hK
                        replace hR := ext_drew hR
                        have F : a.tmps[99]?.getD undef = _ ∧ a.tmps[94]?.getD undef = _ ∧ True := hf
                        obtain ⟨f10, f5, -⟩ := F
                        clear ho hf
                        go_simp
                        exact hK _ _ (Below.refl _ _) (Eq.refl _)
                      refine And.intro ?_ ?_
                      · intro a W hR hf ho K hK
                        replace hR := ext_drew hR
                        have G : a.tmps[7]?.getD undef = _ ∧ True := ho
                        obtain ⟨g7, -⟩ := G
                        have F : a.tmps[100]?.getD undef = _ ∧ True := hf
                        obtain ⟨f11, -⟩ := F
                        clear ho hf
                        go_simp
                        exact hK _ _ (Below.refl _ _) (Eq.refl _)
                      refine And.intro ?_ ?_
                      · intro a W hR hf ho K hK
                        replace hR := ext_drew hR
                        have F : a.tmps[101]?.getD undef = _ ∧ a.tmps[100]?.getD undef = _ ∧ a.tmps[100]?.getD undef = _ ∧ True := hf
                        obtain ⟨f12, f11, -, -⟩ := F
                        clear ho hf
                        go_simp
                        have hwd := wants_run (HU.out.run.ext hR) HU.out.ok; rw [HWD.out] at hwd; refine hwd.mono ?_; rintro e W1 ⟨rfl, hE⟩; exact hK _ _ hE (Eq.refl _)
                      refine And.intro ?_ ?_
                      · intro a W hR hf ho K hK
                        replace hR := ext_drew hR
                        have G : a.tmps[7]?.getD undef = _ ∧ True := ho
                        obtain ⟨g7, -⟩ := G
                        have F : a.tmps[100]?.getD undef = _ ∧ True := hf
                        obtain ⟨f11, -⟩ := F
                        clear ho hf
                        go_simp
                        exact hK _ _ (Below.refl _ _) (Eq.refl _)
                      refine And.intro ?_ ?_
                      · intro a W hR hf ho K hK
                        replace hR := ext_drew hR
                        have F : a.tmps[103]?.getD undef = _ ∧ a.tmps[100]?.getD undef = _ ∧ True := hf
                        obtain ⟨f14, f11, -⟩ := F
                        clear ho hf
                        go_simp
                        exact hK _ _ (Below.refl _ _) (Eq.refl _)
                      refine And.intro ?_ ?_
                      · intro a W hR hf ho K hK
                        replace hR := ext_drew hR
                        have F : a.tmps[104]?.getD undef = _ ∧ a.tmps[100]?.getD undef = _ ∧ True := hf
                        obtain ⟨f15, f11, -⟩ := F
                        clear ho hf
                        go_simp
                        exact hK _ _ (Below.refl _ _) (Eq.refl _)
                      refine And.intro ?_ ?_
                      · intro a W hR hf ho K hK
                        replace hR := ext_drew hR
                        have F : a.tmps[105]?.getD undef = _ ∧ a.tmps[100]?.getD undef = _ ∧ True := hf
                        obtain ⟨f16, f11, -⟩ := F
                        clear ho hf
                        go_simp
                        exact hK _ _ (Below.refl _ _) (Eq.refl _)
                      refine And.intro ?_ ?_
                      · intro a W hR hf ho K hK
                        replace hR := ext_drew hR
                        have F : a.tmps[106]?.getD undef = _ ∧ a.tmps[100]?.getD undef = _ ∧ True := hf
                        obtain ⟨f17, f11, -⟩ := F
                        clear ho hf
                        have q8 := ext_cell hR _ _ c8
                        go_simp
                        exact hK _ _ (Below.refl _ _) (Eq.refl _)
                      refine And.intro ?_ ?_
                      · intro a W hR hf ho K hK
                        replace hR := ext_drew hR
                        have F : a.tmps[107]?.getD undef = _ ∧ a.tmps[102]?.getD undef = _ ∧ a.tmps[100]?.getD undef = _ ∧ True := hf
                        obtain ⟨f18, f13, f11, -⟩ := F
                        clear ho hf
                        go_simp
                        have hru := runs_any ck X5.time W ((hR.block _ (Array.getElem?_eq_some_iff.1 hck).1).trans hck) HU.out.ok.time.1 (Int.le_trans HU.out.ok.time.2 (by decide)); rw [HRU.out] at hru; refine hru.mono ?_; rintro e W1 ⟨rfl, hE⟩; exact hK _ _ hE (Eq.refl _)
                      refine And.intro ?_ ?_
                      · intro a W hR hf ho K hK
                        replace hR := ext_drew hR
                        have F : a.tmps[108]?.getD undef = _ ∧ a.tmps[100]?.getD undef = _ ∧ True := hf
                        obtain ⟨f19, f11, -⟩ := F
                        clear ho hf
                        go_simp
                        exact hK _ _ (Below.refl _ _) (Eq.refl _)
                      refine And.intro ?_ ?_
                      · intro a W hR hf ho K hK
                        replace hR := ext_drew hR
                        have F : a.tmps[109]?.getD undef = _ ∧ a.tmps[108]?.getD undef = _ ∧ a.tmps[100]?.getD undef = _ ∧ True := hf
                        obtain ⟨f20, f19, f11, -⟩ := F
                        clear ho hf
                        go_simp
                        exact hK _ _ (Below.refl _ _) (Eq.refl _)
                      refine And.intro ?_ ?_
                      · intro a W hR hf ho K hK
                        replace hR := ext_drew hR
                        have G : a.tmps[7]?.getD undef = _ ∧ True := ho
                        obtain ⟨g7, -⟩ := G
                        have F : a.tmps[110]?.getD undef = _ ∧ True := hf
                        obtain ⟨f21, -⟩ := F
                        clear ho hf
                        go_simp
                        exact hK _ _ (Below.refl _ _) (Eq.refl _)
                      refine And.intro ?_ ?_
                      · intro a W hR hf ho K hK
                        replace hR := ext_drew hR
                        have F : a.tmps[111]?.getD undef = _ ∧ a.tmps[110]?.getD undef = _ ∧ a.tmps[110]?.getD undef = _ ∧ True := hf
                        obtain ⟨f22, f21, -, -⟩ := F
                        clear ho hf
                        go_simp
                        exact hK _ _ (Below.refl _ _) (Eq.refl _)
                      refine And.intro ?_ ?_
                      · intro a W hR hf ho K hK
                        replace hR := ext_drew hR
                        have F : a.tmps[112]?.getD undef = _ ∧ a.tmps[110]?.getD undef = _ ∧ True := hf
                        obtain ⟨f23, f21, -⟩ := F
                        clear ho hf
                        go_simp
                        exact hK _ _ (Below.refl _ _) (Eq.refl _)
                      refine And.intro ?_ ?_
                      · intro a W hR hf ho K hK
                        replace hR := ext_drew hR
                        have F : a.tmps[110]?.getD undef = _ ∧ a.tmps[113]?.getD undef = _ ∧ a.tmps[100]?.getD undef = _ ∧ True := hf
                        obtain ⟨f21, f24, f11, -⟩ := F
                        clear ho hf
                        go_simp
                        exact hK _ _ (Below.refl _ _) (Eq.refl _)
                      refine And.intro ?_ ?_
                      · intro a W hR hf ho K hK
                        replace hR := ext_drew hR
                        have F : a.tmps[102]?.getD undef = _ ∧ a.tmps[114]?.getD undef = _ ∧ a.tmps[100]?.getD undef = _ ∧ True := hf
                        obtain ⟨f13, f25, f11, -⟩ := F
                        clear ho hf
                        go_simp
                        exact hK _ _ (Below.refl _ _) (Eq.refl _)
                      refine And.intro ?_ ?_
                      · intro a W hR hf ho K hK
                        replace hR := ext_drew hR
                        have F : a.tmps[100]?.getD undef = _ ∧ a.tmps[115]?.getD undef = _ ∧ True := hf
                        obtain ⟨f11, f26, -⟩ := F
                        clear ho hf
                        go_simp
                        exact hK _ _ (Below.refl _ _) (Eq.refl _)
                      exact trivial
                    case stab =>
                      refine And.intro is_stable ?_
                      refine And.intro is_stable ?_
                      refine And.intro is_stable ?_
                      refine And.intro is_stable ?_
                      refine And.intro is_stable ?_
                      refine And.intro is_stable ?_
                      refine And.intro is_stable ?_
                      refine And.intro is_stable ?_
                      refine And.intro is_stable ?_
                      refine And.intro is_stable ?_
                      refine And.intro is_stable ?_
                      refine And.intro is_stable ?_
                      refine And.intro is_stable ?_
                      refine And.intro is_stable ?_
                      refine And.intro is_stable ?_
                      refine And.intro is_stable ?_
                      refine And.intro is_stable ?_
                      refine And.intro is_stable ?_
                      refine And.intro is_stable ?_
                      refine And.intro is_stable ?_
                      refine And.intro is_stable ?_
                      refine And.intro is_stable ?_
                      refine And.intro is_stable ?_
                      refine And.intro is_stable ?_
                      refine And.intro is_stable ?_
                      refine And.intro is_stable ?_
                      refine And.intro is_stable ?_
                      refine And.intro is_stable ?_
                      exact trivial
                    case ends =>
                      intro vals W hR hall
                      replace hR := ext_drew hR
                      have e116 : vals 116 = _ := hall 27 (by decide)
                      clear hall
                      simp only [fill, List.setIfInBounds_toArray, List.set_cons_succ, List.set_cons_zero, e116]
                      go_wp2_with fail
                      exact ⟨⟨k + 1, X5, _, by omega, by go_num, HU.out.ext hR⟩, by simp [intOf]; omega⟩
                · have hq8 : (what == 8) = false := by simpa using hw8
                  go_wp2_with fail
                  refine (alloc_run (HI.out.1.run.ext HB.out.2) HI.out.1.ok N HI.out.2.1.n).mono ?_
                  rintro _ w6 ⟨rfl, hR6, hc6⟩
                  have h6 := ((HI.out.1.ext HB.out.2).turn hR6 hc6 (heap_alloc HI.out.1.ok N) (same_alloc X N)).next
                  have hcw := cap_wf HI.out.1.ok N
                  have hcd := code_cases X N
                  obtain ⟨X5, hX5⟩ : ∃ X5, X5 = (allocD X N).1 := ⟨_, rfl⟩
                  rw [← hX5] at h6
                  obtain ⟨cp, hcp⟩ : ∃ cp, cp = (allocD X N).2.1 := ⟨_, rfl⟩
                  rw [← hcp] at hcw ⊢
                  obtain ⟨cd, hcde⟩ : ∃ cd, cd = (allocD X N).2.2 := ⟨_, rfl⟩
                  rw [← hcde] at hcd ⊢
                  clear hX5 hcp hcde hR6 hc6
                  obtain ⟨qt, qb, qp, qa, qe, qy⟩ := cp
                  have H6 := Lib.hid (And.intro h6 hcw)
                  have hl6 := h6.len
                  have hsz6 := h6.run.from.size
                  clear h6 hcw
                  by_cases hcd0 : cd = 0
                  · subst hcd0
                    clear hcd
                    have hsz6' : w.heap.size ≤ w6.heap.size + 1 := by omega
                    go_wp2_with (first
                      | (at_builtin; (refine wpList_append_src _ rfl (.tmp 57) (.tmp 59) 48 rfl w.heap.size 27 ci (.agg #[.bool false, .int .i64 0, .int .i64 0, .int .i64 0, .int .i64 0, .int .i64 0]) 6 48 Try.underlying48 hci hci0 hci1 hci2 rfl (by decide) _ _ _ rfl (own_ext H6.out.1.own (by repeat first | (with_reducible exact Below.refl _ _) | (with_reducible apply Ext.alloc) | (with_reducible apply Ext.drew) | (with_reducible apply Ext.drewN) | (with_reducible refine Ext.set ?_ (by simp)))) _ 1 (Cap.cells ⟨qt, qb, qp, qa, qe, qy⟩) rfl (lies_lit (cs := Cap.cells ⟨qt, qb, qp, qa, qe, qy⟩) (new_at (o := .cells (Cap.cells ⟨qt, qb, qp, qa, qe, qy⟩).toArray 27) (w := w6.alloc (.cells #[.bool qt, .int .i64 qb, .int .i64 qp, .int .i64 qa, .int .i64 qe, .int .i64 qy] 27)) (by simp) (Below.refl _ _))) rfl (by simp [Value.oneCell']) (by unfold maxLen; omega) (by omega) (by simp; omega) ?_); intro v' w7 ho7 hg7 _))
                    have e6 : Ext w6 ((w6.alloc (.cells #[.bool qt, .int .i64 qb, .int .i64 qp, .int .i64 qa, .int .i64 qe, .int .i64 qy] 27)).alloc (.cells (Cap.cells ⟨qt, qb, qp, qa, qe, qy⟩).toArray 27)) := (by repeat first | (with_reducible exact Below.refl _ _) | (with_reducible apply Ext.alloc) | (with_reducible apply Ext.drew) | (with_reducible apply Ext.drewN) | (with_reducible refine Ext.set ?_ (by simp)))
                    have hO := Only.grown (T := [27]) (own_ext H6.out.1.own e6) hg7 (by simp)
                    have h7 : SumsIn w (w1.heap.size + 1) hp (G : Int) (k + 1) X5 v' (L ++ [⟨qt, qb, qp, qa, qe, qy⟩]) w7 := ⟨(H6.out.1.run.ext e6).only hO (Nat.le_refl _) (by decide), H6.out.1.ok, H6.out.1.root, H6.out.1.full, by rw [List.length_append, capCells_app]; exact ho7, fun c hc => by
                      rcases List.mem_append.1 hc with hc | hc
                      · exact H6.out.1.wf c hc
                      · rw [List.mem_singleton.1 hc]; exact H6.out.2, by rw [List.length_append]; have := HI.out.1.len; simp only [List.length_cons, List.length_nil]; omega⟩
                    have HT := Lib.hid h7
                    clear h7 hO e6 ho7 hg7
                    go_wp2_with fail
                    refine (live_run HT.out.run HT.out.ok).mono ?_
                    rintro _ wa ⟨rfl, hE⟩
                    have HU := Lib.hid (HT.out.ext hE)
                    clear hE
                    have htot := HU.out.ok.total
                    rw [HU.out.root] at htot
                    have hbb := HU.out.ok.bytes
                    have hbf := HU.out.ok.free0
                    have hbl := HU.out.ok.livesum
                    have hst0 : 0 ≤ sumT X5.L := Int.le_trans (leftT_le (L := X5.L) (fun l hl => by have := HU.out.ok.live hl; omega) (fun _ => true)).1 (leftT_le (L := X5.L) (fun l hl => by have := HU.out.ok.live hl; omega) (fun _ => true)).2
                    simp only [rootC] at htot
                    have hw1 : IntKind.i64.wrap (sumT X5.L + sumN X5.Q) = sumT X5.L + sumN X5.Q := IntWalk.i64_in _ (by omega)
                    have hw2 : IntKind.i64.wrap (sumT X5.L + sumN X5.Q + sumR X5.R) = 16 * (G : Int) := by rw [IntWalk.i64_in _ (by omega)]; omega
                    obtain ⟨ck, c8, hck⟩ := HU.out.run.clock
                    have hwd : wantsD X5 = (!runsB X5.time && decide (64 ≤ sumN X5.Q)) := by unfold wantsD; rw [HU.out.full]
                    have hc8l := cell_lt c8
                    simp only at hc8l
                    cases hru : runsB X5.time with
                    | false =>
                      rw [hru] at hwd
                      have HWD := Lib.hid hwd
                      have HRU := Lib.hid hru
                      clear hwd hru htot
                      go_wp2_with fail
                      refine wp_region_obl Ext [89, 90, 91, 92, 93, 94, 95, 96, 97, 98, 99, 100, 101, 102, 103, 104, 105, 106, 107, 108, 109, 110, 111, 112, 113, 114, 115, 116] (by kernel_rfl) (fun _ => Below.refl _ _) (fun _ _ _ => Ext.then) (by kernel_rfl) (by kernel_rfl) ?_
                      apply ex_is; apply Exists.intro
                      apply ex_is; apply Exists.intro
                      apply ex_is; apply Exists.intro
                      apply ex_is; apply Exists.intro
                      apply ex_is; apply Exists.intro
                      apply ex_is; apply Exists.intro
                      apply ex_is; apply Exists.intro
                      apply ex_is; apply Exists.intro
                      apply ex_is; apply Exists.intro
                      apply ex_is; apply Exists.intro
                      apply ex_is; apply Exists.intro
                      apply ex_is; apply Exists.intro
                      apply ex_is; apply Exists.intro
                      apply ex_is; apply Exists.intro
                      apply ex_is; apply Exists.intro
                      apply ex_is; apply Exists.intro
                      apply ex_is; apply Exists.intro
                      apply ex_is; apply Exists.intro
                      apply ex_is; apply Exists.intro
                      apply ex_is; apply Exists.intro
                      apply ex_is; apply Exists.intro
                      apply ex_is; apply Exists.intro
                      apply ex_is; apply Exists.intro
                      apply ex_is; apply Exists.intro
                      apply ex_is; apply Exists.intro
                      apply ex_is; apply Exists.intro
                      apply ex_is; apply Exists.intro
                      apply ex_is; apply Exists.intro
                      refine ⟨[], ⟨?steps, ?stab, ?ends⟩⟩
                      case steps =>
                        refine And.intro ?_ ?_
                        · intro a W hR hf ho K hK
                          replace hR := ext_drew hR
                          have G : a.tmps[14]?.getD undef = _ ∧ True := ho
                          obtain ⟨g14, -⟩ := G
                          clear ho hf
                          go_simp
                          exact hK _ _ (Below.refl _ _) (Eq.refl _)
                        refine And.intro ?_ ?_
                        · intro a W hR hf ho K hK
                          replace hR := ext_drew hR
                          have G : a.tmps[7]?.getD undef = _ ∧ True := ho
                          obtain ⟨g7, -⟩ := G
                          clear ho hf
                          go_simp
                          exact hK _ _ (Below.refl _ _) (Eq.refl _)
                        refine And.intro ?_ ?_
                        · intro a W hR hf ho K hK
                          replace hR := ext_drew hR
                          have F : a.tmps[90]?.getD undef = _ ∧ True := hf
                          obtain ⟨f1, -⟩ := F
                          clear ho hf
                          go_simp
                          refine (apart_run (HU.out.run.ext hR)).mono ?_; rintro e W1 ⟨rfl, hE⟩; exact hK _ _ hE (Eq.refl _)
                        refine And.intro ?_ ?_
                        · intro a W hR hf ho K hK
                          replace hR := ext_drew hR
                          have F : a.tmps[89]?.getD undef = _ ∧ a.tmps[91]?.getD undef = _ ∧ True := hf
                          obtain ⟨f0, f2, -⟩ := F
                          clear ho hf
                          go_simp
                          exact hK _ _ (Below.refl _ _) (Eq.refl _)
                        refine And.intro ?_ ?_
                        · intro a W hR hf ho K hK
                          replace hR := ext_drew hR
                          have G : a.tmps[7]?.getD undef = _ ∧ True := ho
                          obtain ⟨g7, -⟩ := G
                          clear ho hf
                          go_simp
                          exact hK _ _ (Below.refl _ _) (Eq.refl _)
                        refine And.intro ?_ ?_
                        · intro a W hR hf ho K hK
                          replace hR := ext_drew hR
                          have F : a.tmps[93]?.getD undef = _ ∧ a.tmps[91]?.getD undef = _ ∧ True := hf
                          obtain ⟨f4, f2, -⟩ := F
                          clear ho hf
                          go_simp
                          refine (left_run (HU.out.run.ext hR)).mono ?_; rintro e W1 ⟨rfl, hE⟩; exact hK _ _ hE (Eq.refl _)
                        refine And.intro ?_ ?_
                        · intro a W hR hf ho K hK
                          replace hR := ext_drew hR
                          have F : a.tmps[92]?.getD undef = _ ∧ a.tmps[94]?.getD undef = _ ∧ True := hf
                          obtain ⟨f3, f5, -⟩ := F
                          clear ho hf
                          go_simp
                          exact hK _ _ (Below.refl _ _) (Eq.refl _)
                        refine And.intro ?_ ?_
                        · intro a W hR hf ho K hK
                          replace hR := ext_drew hR
                          have G : a.tmps[0]?.getD undef = _ ∧ True := ho
                          obtain ⟨g0, -⟩ := G
                          clear ho hf
                          go_simp
                          exact hK _ _ (Below.refl _ _) (Eq.refl _)
                        refine And.intro ?_ ?_
                        · intro a W hR hf ho K hK
                          replace hR := ext_drew hR
                          have F : a.tmps[96]?.getD undef = _ ∧ True := hf
                          obtain ⟨f7, -⟩ := F
                          clear ho hf
                          go_simp
                          exact hK _ _ (Below.refl _ _) (Eq.refl _)
                        refine And.intro ?_ ?_
                        · intro a W hR hf ho K hK
                          replace hR := ext_drew hR
                          have F : a.tmps[97]?.getD undef = _ ∧ True := hf
                          obtain ⟨f8, -⟩ := F
                          clear ho hf
                          go_simp
                          exact hK _ _ (Below.refl _ _) (Eq.refl _)
                        refine And.intro ?_ ?_
                        · intro a W hR hf ho K hK
                          replace hR := ext_drew hR
                          have F : a.tmps[95]?.getD undef = _ ∧ a.tmps[98]?.getD undef = _ ∧ True := hf
                          obtain ⟨f6, f9, -⟩ := F
                          clear ho hf
                          go_simp
                          exact hK _ _ (Below.refl _ _) (Eq.refl _)
                        refine And.intro ?_ ?_
                        · intro a W hR hf ho K hK
                          replace hR := ext_drew hR
                          have F : a.tmps[99]?.getD undef = _ ∧ a.tmps[94]?.getD undef = _ ∧ True := hf
                          obtain ⟨f10, f5, -⟩ := F
                          clear ho hf
                          go_simp
                          exact hK _ _ (Below.refl _ _) (Eq.refl _)
                        refine And.intro ?_ ?_
                        · intro a W hR hf ho K hK
                          replace hR := ext_drew hR
                          have G : a.tmps[7]?.getD undef = _ ∧ True := ho
                          obtain ⟨g7, -⟩ := G
                          have F : a.tmps[100]?.getD undef = _ ∧ True := hf
                          obtain ⟨f11, -⟩ := F
                          clear ho hf
                          go_simp
                          exact hK _ _ (Below.refl _ _) (Eq.refl _)
                        refine And.intro ?_ ?_
                        · intro a W hR hf ho K hK
                          replace hR := ext_drew hR
                          have F : a.tmps[101]?.getD undef = _ ∧ a.tmps[100]?.getD undef = _ ∧ a.tmps[100]?.getD undef = _ ∧ True := hf
                          obtain ⟨f12, f11, -, -⟩ := F
                          clear ho hf
                          go_simp
                          have hwd := wants_run (HU.out.run.ext hR) HU.out.ok; rw [HWD.out] at hwd; refine hwd.mono ?_; rintro e W1 ⟨rfl, hE⟩; exact hK _ _ hE (Eq.refl _)
                        refine And.intro ?_ ?_
                        · intro a W hR hf ho K hK
                          replace hR := ext_drew hR
                          have G : a.tmps[7]?.getD undef = _ ∧ True := ho
                          obtain ⟨g7, -⟩ := G
                          have F : a.tmps[100]?.getD undef = _ ∧ True := hf
                          obtain ⟨f11, -⟩ := F
                          clear ho hf
                          go_simp
                          exact hK _ _ (Below.refl _ _) (Eq.refl _)
                        refine And.intro ?_ ?_
                        · intro a W hR hf ho K hK
                          replace hR := ext_drew hR
                          have F : a.tmps[103]?.getD undef = _ ∧ a.tmps[100]?.getD undef = _ ∧ True := hf
                          obtain ⟨f14, f11, -⟩ := F
                          clear ho hf
                          go_simp
                          exact hK _ _ (Below.refl _ _) (Eq.refl _)
                        refine And.intro ?_ ?_
                        · intro a W hR hf ho K hK
                          replace hR := ext_drew hR
                          have F : a.tmps[104]?.getD undef = _ ∧ a.tmps[100]?.getD undef = _ ∧ True := hf
                          obtain ⟨f15, f11, -⟩ := F
                          clear ho hf
                          go_simp
                          exact hK _ _ (Below.refl _ _) (Eq.refl _)
                        refine And.intro ?_ ?_
                        · intro a W hR hf ho K hK
                          replace hR := ext_drew hR
                          have F : a.tmps[105]?.getD undef = _ ∧ a.tmps[100]?.getD undef = _ ∧ True := hf
                          obtain ⟨f16, f11, -⟩ := F
                          clear ho hf
                          go_simp
                          exact hK _ _ (Below.refl _ _) (Eq.refl _)
                        refine And.intro ?_ ?_
                        · intro a W hR hf ho K hK
                          replace hR := ext_drew hR
                          have F : a.tmps[106]?.getD undef = _ ∧ a.tmps[100]?.getD undef = _ ∧ True := hf
                          obtain ⟨f17, f11, -⟩ := F
                          clear ho hf
                          have q8 := ext_cell hR _ _ c8
                          go_simp
                          exact hK _ _ (Below.refl _ _) (Eq.refl _)
                        refine And.intro ?_ ?_
                        · intro a W hR hf ho K hK
                          replace hR := ext_drew hR
                          have F : a.tmps[107]?.getD undef = _ ∧ a.tmps[102]?.getD undef = _ ∧ a.tmps[100]?.getD undef = _ ∧ True := hf
                          obtain ⟨f18, f13, f11, -⟩ := F
                          clear ho hf
                          go_simp
                          have hru := runs_any ck X5.time W ((hR.block _ (Array.getElem?_eq_some_iff.1 hck).1).trans hck) HU.out.ok.time.1 (Int.le_trans HU.out.ok.time.2 (by decide)); rw [HRU.out] at hru; refine hru.mono ?_; rintro e W1 ⟨rfl, hE⟩; exact hK _ _ hE (Eq.refl _)
                        refine And.intro ?_ ?_
                        · intro a W hR hf ho K hK
                          replace hR := ext_drew hR
                          have F : a.tmps[108]?.getD undef = _ ∧ a.tmps[100]?.getD undef = _ ∧ True := hf
                          obtain ⟨f19, f11, -⟩ := F
                          clear ho hf
                          go_simp
                          exact hK _ _ (Below.refl _ _) (Eq.refl _)
                        refine And.intro ?_ ?_
                        · intro a W hR hf ho K hK
                          replace hR := ext_drew hR
                          have F : a.tmps[109]?.getD undef = _ ∧ a.tmps[108]?.getD undef = _ ∧ a.tmps[100]?.getD undef = _ ∧ True := hf
                          obtain ⟨f20, f19, f11, -⟩ := F
                          clear ho hf
                          go_simp
                          exact hK _ _ (Below.refl _ _) (Eq.refl _)
                        refine And.intro ?_ ?_
                        · intro a W hR hf ho K hK
                          replace hR := ext_drew hR
                          have G : a.tmps[7]?.getD undef = _ ∧ True := ho
                          obtain ⟨g7, -⟩ := G
                          have F : a.tmps[110]?.getD undef = _ ∧ True := hf
                          obtain ⟨f21, -⟩ := F
                          clear ho hf
                          go_simp
                          exact hK _ _ (Below.refl _ _) (Eq.refl _)
                        refine And.intro ?_ ?_
                        · intro a W hR hf ho K hK
                          replace hR := ext_drew hR
                          have F : a.tmps[111]?.getD undef = _ ∧ a.tmps[110]?.getD undef = _ ∧ a.tmps[110]?.getD undef = _ ∧ True := hf
                          obtain ⟨f22, f21, -, -⟩ := F
                          clear ho hf
                          go_simp
                          refine (apart_run (HU.out.run.ext hR)).mono ?_; rintro e W1 ⟨rfl, hE⟩; exact hK _ _ hE (Eq.refl _)
                        refine And.intro ?_ ?_
                        · intro a W hR hf ho K hK
                          replace hR := ext_drew hR
                          have F : a.tmps[112]?.getD undef = _ ∧ a.tmps[110]?.getD undef = _ ∧ True := hf
                          obtain ⟨f23, f21, -⟩ := F
                          clear ho hf
                          go_simp
                          exact hK _ _ (Below.refl _ _) (Eq.refl _)
                        refine And.intro ?_ ?_
                        · intro a W hR hf ho K hK
                          replace hR := ext_drew hR
                          have F : a.tmps[110]?.getD undef = _ ∧ a.tmps[113]?.getD undef = _ ∧ a.tmps[100]?.getD undef = _ ∧ True := hf
                          obtain ⟨f21, f24, f11, -⟩ := F
                          clear ho hf
                          go_simp
                          exact hK _ _ (Below.refl _ _) (Eq.refl _)
                        refine And.intro ?_ ?_
                        · intro a W hR hf ho K hK
                          replace hR := ext_drew hR
                          have F : a.tmps[102]?.getD undef = _ ∧ a.tmps[114]?.getD undef = _ ∧ a.tmps[100]?.getD undef = _ ∧ True := hf
                          obtain ⟨f13, f25, f11, -⟩ := F
                          clear ho hf
                          go_simp
                          exact hK _ _ (Below.refl _ _) (Eq.refl _)
                        refine And.intro ?_ ?_
                        · intro a W hR hf ho K hK
                          replace hR := ext_drew hR
                          have F : a.tmps[100]?.getD undef = _ ∧ a.tmps[115]?.getD undef = _ ∧ True := hf
                          obtain ⟨f11, f26, -⟩ := F
                          clear ho hf
                          go_simp
                          exact hK _ _ (Below.refl _ _) (Eq.refl _)
                        exact trivial
                      case stab =>
                        refine And.intro is_stable ?_
                        refine And.intro is_stable ?_
                        refine And.intro is_stable ?_
                        refine And.intro is_stable ?_
                        refine And.intro is_stable ?_
                        refine And.intro is_stable ?_
                        refine And.intro is_stable ?_
                        refine And.intro is_stable ?_
                        refine And.intro is_stable ?_
                        refine And.intro is_stable ?_
                        refine And.intro is_stable ?_
                        refine And.intro is_stable ?_
                        refine And.intro is_stable ?_
                        refine And.intro is_stable ?_
                        refine And.intro is_stable ?_
                        refine And.intro is_stable ?_
                        refine And.intro is_stable ?_
                        refine And.intro is_stable ?_
                        refine And.intro is_stable ?_
                        refine And.intro is_stable ?_
                        refine And.intro is_stable ?_
                        refine And.intro is_stable ?_
                        refine And.intro is_stable ?_
                        refine And.intro is_stable ?_
                        refine And.intro is_stable ?_
                        refine And.intro is_stable ?_
                        refine And.intro is_stable ?_
                        refine And.intro is_stable ?_
                        exact trivial
                      case ends =>
                        intro vals W hR hall
                        replace hR := ext_drew hR
                        have e116 : vals 116 = _ := hall 27 (by decide)
                        clear hall
                        simp only [fill, List.setIfInBounds_toArray, List.set_cons_succ, List.set_cons_zero, e116]
                        go_wp2_with fail
                        exact ⟨⟨k + 1, X5, _, by omega, by go_num, HU.out.ext hR⟩, by simp [intOf]; omega⟩
                    | true =>
                      rw [hru] at hwd
                      have HWD := Lib.hid hwd
                      have HRU := Lib.hid hru
                      clear hwd hru htot
                      go_wp2_with fail
                      refine wp_region_obl Ext [89, 90, 91, 92, 93, 94, 95, 96, 97, 98, 99, 100, 101, 102, 103, 104, 105, 106, 107, 108, 109, 110, 111, 112, 113, 114, 115, 116] (by kernel_rfl) (fun _ => Below.refl _ _) (fun _ _ _ => Ext.then) (by kernel_rfl) (by kernel_rfl) ?_
                      apply ex_is; apply Exists.intro
                      apply ex_is; apply Exists.intro
                      apply ex_is; apply Exists.intro
                      apply ex_is; apply Exists.intro
                      apply ex_is; apply Exists.intro
                      apply ex_is; apply Exists.intro
                      apply ex_is; apply Exists.intro
                      apply ex_is; apply Exists.intro
                      apply ex_is; apply Exists.intro
                      apply ex_is; apply Exists.intro
                      apply ex_is; apply Exists.intro
                      apply ex_is; apply Exists.intro
                      apply ex_is; apply Exists.intro
                      apply ex_is; apply Exists.intro
                      apply ex_is; apply Exists.intro
                      apply ex_is; apply Exists.intro
                      apply ex_is; apply Exists.intro
                      apply ex_is; apply Exists.intro
                      apply ex_is; apply Exists.intro
                      apply ex_is; apply Exists.intro
                      apply ex_is; apply Exists.intro
                      apply ex_is; apply Exists.intro
                      apply ex_is; apply Exists.intro
                      apply ex_is; apply Exists.intro
                      apply ex_is; apply Exists.intro
                      apply ex_is; apply Exists.intro
                      apply ex_is; apply Exists.intro
                      apply ex_is; apply Exists.intro
                      refine ⟨[], ⟨?steps, ?stab, ?ends⟩⟩
                      case steps =>
                        refine And.intro ?_ ?_
                        · intro a W hR hf ho K hK
                          replace hR := ext_drew hR
                          have G : a.tmps[14]?.getD undef = _ ∧ True := ho
                          obtain ⟨g14, -⟩ := G
                          clear ho hf
                          go_simp
                          exact hK _ _ (Below.refl _ _) (Eq.refl _)
                        refine And.intro ?_ ?_
                        · intro a W hR hf ho K hK
                          replace hR := ext_drew hR
                          have G : a.tmps[7]?.getD undef = _ ∧ True := ho
                          obtain ⟨g7, -⟩ := G
                          clear ho hf
                          go_simp
                          exact hK _ _ (Below.refl _ _) (Eq.refl _)
                        refine And.intro ?_ ?_
                        · intro a W hR hf ho K hK
                          replace hR := ext_drew hR
                          have F : a.tmps[90]?.getD undef = _ ∧ True := hf
                          obtain ⟨f1, -⟩ := F
                          clear ho hf
                          go_simp
                          refine (apart_run (HU.out.run.ext hR)).mono ?_; rintro e W1 ⟨rfl, hE⟩; exact hK _ _ hE (Eq.refl _)
                        refine And.intro ?_ ?_
                        · intro a W hR hf ho K hK
                          replace hR := ext_drew hR
                          have F : a.tmps[89]?.getD undef = _ ∧ a.tmps[91]?.getD undef = _ ∧ True := hf
                          obtain ⟨f0, f2, -⟩ := F
                          clear ho hf
                          go_simp
                          exact hK _ _ (Below.refl _ _) (Eq.refl _)
                        refine And.intro ?_ ?_
                        · intro a W hR hf ho K hK
                          replace hR := ext_drew hR
                          have G : a.tmps[7]?.getD undef = _ ∧ True := ho
                          obtain ⟨g7, -⟩ := G
                          clear ho hf
                          go_simp
                          exact hK _ _ (Below.refl _ _) (Eq.refl _)
                        refine And.intro ?_ ?_
                        · intro a W hR hf ho K hK
                          replace hR := ext_drew hR
                          have F : a.tmps[93]?.getD undef = _ ∧ a.tmps[91]?.getD undef = _ ∧ True := hf
                          obtain ⟨f4, f2, -⟩ := F
                          clear ho hf
                          go_simp
                          refine (left_run (HU.out.run.ext hR)).mono ?_; rintro e W1 ⟨rfl, hE⟩; exact hK _ _ hE (Eq.refl _)
                        refine And.intro ?_ ?_
                        · intro a W hR hf ho K hK
                          replace hR := ext_drew hR
                          have F : a.tmps[92]?.getD undef = _ ∧ a.tmps[94]?.getD undef = _ ∧ True := hf
                          obtain ⟨f3, f5, -⟩ := F
                          clear ho hf
                          go_simp
                          exact hK _ _ (Below.refl _ _) (Eq.refl _)
                        refine And.intro ?_ ?_
                        · intro a W hR hf ho K hK
                          replace hR := ext_drew hR
                          have G : a.tmps[0]?.getD undef = _ ∧ True := ho
                          obtain ⟨g0, -⟩ := G
                          clear ho hf
                          go_simp
                          exact hK _ _ (Below.refl _ _) (Eq.refl _)
                        refine And.intro ?_ ?_
                        · intro a W hR hf ho K hK
                          replace hR := ext_drew hR
                          have F : a.tmps[96]?.getD undef = _ ∧ True := hf
                          obtain ⟨f7, -⟩ := F
                          clear ho hf
                          go_simp
                          exact hK _ _ (Below.refl _ _) (Eq.refl _)
                        refine And.intro ?_ ?_
                        · intro a W hR hf ho K hK
                          replace hR := ext_drew hR
                          have F : a.tmps[97]?.getD undef = _ ∧ True := hf
                          obtain ⟨f8, -⟩ := F
                          clear ho hf
                          go_simp
                          exact hK _ _ (Below.refl _ _) (Eq.refl _)
                        refine And.intro ?_ ?_
                        · intro a W hR hf ho K hK
                          replace hR := ext_drew hR
                          have F : a.tmps[95]?.getD undef = _ ∧ a.tmps[98]?.getD undef = _ ∧ True := hf
                          obtain ⟨f6, f9, -⟩ := F
                          clear ho hf
                          go_simp
                          exact hK _ _ (Below.refl _ _) (Eq.refl _)
                        refine And.intro ?_ ?_
                        · intro a W hR hf ho K hK
                          replace hR := ext_drew hR
                          have F : a.tmps[99]?.getD undef = _ ∧ a.tmps[94]?.getD undef = _ ∧ True := hf
                          obtain ⟨f10, f5, -⟩ := F
                          clear ho hf
                          go_simp
                          exact hK _ _ (Below.refl _ _) (Eq.refl _)
                        refine And.intro ?_ ?_
                        · intro a W hR hf ho K hK
                          replace hR := ext_drew hR
                          have G : a.tmps[7]?.getD undef = _ ∧ True := ho
                          obtain ⟨g7, -⟩ := G
                          have F : a.tmps[100]?.getD undef = _ ∧ True := hf
                          obtain ⟨f11, -⟩ := F
                          clear ho hf
                          go_simp
                          exact hK _ _ (Below.refl _ _) (Eq.refl _)
                        refine And.intro ?_ ?_
                        · intro a W hR hf ho K hK
                          replace hR := ext_drew hR
                          have F : a.tmps[101]?.getD undef = _ ∧ a.tmps[100]?.getD undef = _ ∧ a.tmps[100]?.getD undef = _ ∧ True := hf
                          obtain ⟨f12, f11, -, -⟩ := F
                          clear ho hf
                          go_simp
                          have hwd := wants_run (HU.out.run.ext hR) HU.out.ok; rw [HWD.out] at hwd; refine hwd.mono ?_; rintro e W1 ⟨rfl, hE⟩; exact hK _ _ hE (Eq.refl _)
                        refine And.intro ?_ ?_
                        · intro a W hR hf ho K hK
                          replace hR := ext_drew hR
                          have G : a.tmps[7]?.getD undef = _ ∧ True := ho
                          obtain ⟨g7, -⟩ := G
                          have F : a.tmps[100]?.getD undef = _ ∧ True := hf
                          obtain ⟨f11, -⟩ := F
                          clear ho hf
                          go_simp
                          exact hK _ _ (Below.refl _ _) (Eq.refl _)
                        refine And.intro ?_ ?_
                        · intro a W hR hf ho K hK
                          replace hR := ext_drew hR
                          have F : a.tmps[103]?.getD undef = _ ∧ a.tmps[100]?.getD undef = _ ∧ True := hf
                          obtain ⟨f14, f11, -⟩ := F
                          clear ho hf
                          go_simp
                          exact hK _ _ (Below.refl _ _) (Eq.refl _)
                        refine And.intro ?_ ?_
                        · intro a W hR hf ho K hK
                          replace hR := ext_drew hR
                          have F : a.tmps[104]?.getD undef = _ ∧ a.tmps[100]?.getD undef = _ ∧ True := hf
                          obtain ⟨f15, f11, -⟩ := F
                          clear ho hf
                          go_simp
                          exact hK _ _ (Below.refl _ _) (Eq.refl _)
                        refine And.intro ?_ ?_
                        · intro a W hR hf ho K hK
                          replace hR := ext_drew hR
                          have F : a.tmps[105]?.getD undef = _ ∧ a.tmps[100]?.getD undef = _ ∧ True := hf
                          obtain ⟨f16, f11, -⟩ := F
                          clear ho hf
                          go_simp
                          exact hK _ _ (Below.refl _ _) (Eq.refl _)
                        refine And.intro ?_ ?_
                        · intro a W hR hf ho K hK
                          replace hR := ext_drew hR
                          have F : a.tmps[106]?.getD undef = _ ∧ a.tmps[100]?.getD undef = _ ∧ True := hf
                          obtain ⟨f17, f11, -⟩ := F
                          clear ho hf
                          have q8 := ext_cell hR _ _ c8
                          go_simp
                          exact hK _ _ (Below.refl _ _) (Eq.refl _)
                        refine And.intro ?_ ?_
                        · intro a W hR hf ho K hK
                          replace hR := ext_drew hR
                          have F : a.tmps[107]?.getD undef = _ ∧ a.tmps[102]?.getD undef = _ ∧ a.tmps[100]?.getD undef = _ ∧ True := hf
                          obtain ⟨f18, f13, f11, -⟩ := F
                          clear ho hf
                          go_simp
                          have hru := runs_any ck X5.time W ((hR.block _ (Array.getElem?_eq_some_iff.1 hck).1).trans hck) HU.out.ok.time.1 (Int.le_trans HU.out.ok.time.2 (by decide)); rw [HRU.out] at hru; refine hru.mono ?_; rintro e W1 ⟨rfl, hE⟩; exact hK _ _ hE (Eq.refl _)
                        refine And.intro ?_ ?_
                        · intro a W hR hf ho K hK
                          replace hR := ext_drew hR
                          have F : a.tmps[108]?.getD undef = _ ∧ a.tmps[100]?.getD undef = _ ∧ True := hf
                          obtain ⟨f19, f11, -⟩ := F
                          clear ho hf
                          go_simp
                          exact hK _ _ (Below.refl _ _) (Eq.refl _)
                        refine And.intro ?_ ?_
                        · intro a W hR hf ho K hK
                          replace hR := ext_drew hR
                          have F : a.tmps[109]?.getD undef = _ ∧ a.tmps[108]?.getD undef = _ ∧ a.tmps[100]?.getD undef = _ ∧ True := hf
                          obtain ⟨f20, f19, f11, -⟩ := F
                          clear ho hf
                          go_simp
                          exact hK _ _ (Below.refl _ _) (Eq.refl _)
                        refine And.intro ?_ ?_
                        · intro a W hR hf ho K hK
                          replace hR := ext_drew hR
                          have G : a.tmps[7]?.getD undef = _ ∧ True := ho
                          obtain ⟨g7, -⟩ := G
                          have F : a.tmps[110]?.getD undef = _ ∧ True := hf
                          obtain ⟨f21, -⟩ := F
                          clear ho hf
                          go_simp
                          exact hK _ _ (Below.refl _ _) (Eq.refl _)
                        refine And.intro ?_ ?_
                        · intro a W hR hf ho K hK
                          replace hR := ext_drew hR
                          have F : a.tmps[111]?.getD undef = _ ∧ a.tmps[110]?.getD undef = _ ∧ a.tmps[110]?.getD undef = _ ∧ True := hf
                          obtain ⟨f22, f21, -, -⟩ := F
                          clear ho hf
                          go_simp
                          exact hK _ _ (Below.refl _ _) (Eq.refl _)
                        refine And.intro ?_ ?_
                        · intro a W hR hf ho K hK
                          replace hR := ext_drew hR
                          have F : a.tmps[112]?.getD undef = _ ∧ a.tmps[110]?.getD undef = _ ∧ True := hf
                          obtain ⟨f23, f21, -⟩ := F
                          clear ho hf
                          go_simp
                          exact hK _ _ (Below.refl _ _) (Eq.refl _)
                        refine And.intro ?_ ?_
                        · intro a W hR hf ho K hK
                          replace hR := ext_drew hR
                          have F : a.tmps[110]?.getD undef = _ ∧ a.tmps[113]?.getD undef = _ ∧ a.tmps[100]?.getD undef = _ ∧ True := hf
                          obtain ⟨f21, f24, f11, -⟩ := F
                          clear ho hf
                          go_simp
                          exact hK _ _ (Below.refl _ _) (Eq.refl _)
                        refine And.intro ?_ ?_
                        · intro a W hR hf ho K hK
                          replace hR := ext_drew hR
                          have F : a.tmps[102]?.getD undef = _ ∧ a.tmps[114]?.getD undef = _ ∧ a.tmps[100]?.getD undef = _ ∧ True := hf
                          obtain ⟨f13, f25, f11, -⟩ := F
                          clear ho hf
                          go_simp
                          exact hK _ _ (Below.refl _ _) (Eq.refl _)
                        refine And.intro ?_ ?_
                        · intro a W hR hf ho K hK
                          replace hR := ext_drew hR
                          have F : a.tmps[100]?.getD undef = _ ∧ a.tmps[115]?.getD undef = _ ∧ True := hf
                          obtain ⟨f11, f26, -⟩ := F
                          clear ho hf
                          go_simp
                          exact hK _ _ (Below.refl _ _) (Eq.refl _)
                        exact trivial
                      case stab =>
                        refine And.intro is_stable ?_
                        refine And.intro is_stable ?_
                        refine And.intro is_stable ?_
                        refine And.intro is_stable ?_
                        refine And.intro is_stable ?_
                        refine And.intro is_stable ?_
                        refine And.intro is_stable ?_
                        refine And.intro is_stable ?_
                        refine And.intro is_stable ?_
                        refine And.intro is_stable ?_
                        refine And.intro is_stable ?_
                        refine And.intro is_stable ?_
                        refine And.intro is_stable ?_
                        refine And.intro is_stable ?_
                        refine And.intro is_stable ?_
                        refine And.intro is_stable ?_
                        refine And.intro is_stable ?_
                        refine And.intro is_stable ?_
                        refine And.intro is_stable ?_
                        refine And.intro is_stable ?_
                        refine And.intro is_stable ?_
                        refine And.intro is_stable ?_
                        refine And.intro is_stable ?_
                        refine And.intro is_stable ?_
                        refine And.intro is_stable ?_
                        refine And.intro is_stable ?_
                        refine And.intro is_stable ?_
                        refine And.intro is_stable ?_
                        exact trivial
                      case ends =>
                        intro vals W hR hall
                        replace hR := ext_drew hR
                        have e116 : vals 116 = _ := hall 27 (by decide)
                        clear hall
                        simp only [fill, List.setIfInBounds_toArray, List.set_cons_succ, List.set_cons_zero, e116]
                        go_wp2_with fail
                        exact ⟨⟨k + 1, X5, _, by omega, by go_num, HU.out.ext hR⟩, by simp [intOf]; omega⟩
                  · have hcd1 : (cd == 0) = false := by simpa using hcd0
                    clear hcd
                    have HT := Lib.hid (H6.out.1.ext (Ext.alloc (Below.refl _ _) (.cells (Cap.cells ⟨qt, qb, qp, qa, qe, qy⟩).toArray 27)))
                    go_wp2_with fail
                    refine (live_run HT.out.run HT.out.ok).mono ?_
                    rintro _ wa ⟨rfl, hE⟩
                    have HU := Lib.hid (HT.out.ext hE)
                    clear hE
                    have htot := HU.out.ok.total
                    rw [HU.out.root] at htot
                    have hbb := HU.out.ok.bytes
                    have hbf := HU.out.ok.free0
                    have hbl := HU.out.ok.livesum
                    have hst0 : 0 ≤ sumT X5.L := Int.le_trans (leftT_le (L := X5.L) (fun l hl => by have := HU.out.ok.live hl; omega) (fun _ => true)).1 (leftT_le (L := X5.L) (fun l hl => by have := HU.out.ok.live hl; omega) (fun _ => true)).2
                    simp only [rootC] at htot
                    have hw1 : IntKind.i64.wrap (sumT X5.L + sumN X5.Q) = sumT X5.L + sumN X5.Q := IntWalk.i64_in _ (by omega)
                    have hw2 : IntKind.i64.wrap (sumT X5.L + sumN X5.Q + sumR X5.R) = 16 * (G : Int) := by rw [IntWalk.i64_in _ (by omega)]; omega
                    obtain ⟨ck, c8, hck⟩ := HU.out.run.clock
                    have hwd : wantsD X5 = (!runsB X5.time && decide (64 ≤ sumN X5.Q)) := by unfold wantsD; rw [HU.out.full]
                    have hc8l := cell_lt c8
                    simp only at hc8l
                    cases hru : runsB X5.time with
                    | false =>
                      rw [hru] at hwd
                      have HWD := Lib.hid hwd
                      have HRU := Lib.hid hru
                      clear hwd hru htot
                      go_wp2_with fail
                      refine wp_region_obl Ext [89, 90, 91, 92, 93, 94, 95, 96, 97, 98, 99, 100, 101, 102, 103, 104, 105, 106, 107, 108, 109, 110, 111, 112, 113, 114, 115, 116] (by kernel_rfl) (fun _ => Below.refl _ _) (fun _ _ _ => Ext.then) (by kernel_rfl) (by kernel_rfl) ?_
                      apply ex_is; apply Exists.intro
                      apply ex_is; apply Exists.intro
                      apply ex_is; apply Exists.intro
                      apply ex_is; apply Exists.intro
                      apply ex_is; apply Exists.intro
                      apply ex_is; apply Exists.intro
                      apply ex_is; apply Exists.intro
                      apply ex_is; apply Exists.intro
                      apply ex_is; apply Exists.intro
                      apply ex_is; apply Exists.intro
                      apply ex_is; apply Exists.intro
                      apply ex_is; apply Exists.intro
                      apply ex_is; apply Exists.intro
                      apply ex_is; apply Exists.intro
                      apply ex_is; apply Exists.intro
                      apply ex_is; apply Exists.intro
                      apply ex_is; apply Exists.intro
                      apply ex_is; apply Exists.intro
                      apply ex_is; apply Exists.intro
                      apply ex_is; apply Exists.intro
                      apply ex_is; apply Exists.intro
                      apply ex_is; apply Exists.intro
                      apply ex_is; apply Exists.intro
                      apply ex_is; apply Exists.intro
                      apply ex_is; apply Exists.intro
                      apply ex_is; apply Exists.intro
                      apply ex_is; apply Exists.intro
                      apply ex_is; apply Exists.intro
                      refine ⟨[], ⟨?steps, ?stab, ?ends⟩⟩
                      case steps =>
                        refine And.intro ?_ ?_
                        · intro a W hR hf ho K hK
                          replace hR := ext_drew hR
                          have G : a.tmps[14]?.getD undef = _ ∧ True := ho
                          obtain ⟨g14, -⟩ := G
                          clear ho hf
                          go_simp
                          exact hK _ _ (Below.refl _ _) (Eq.refl _)
                        refine And.intro ?_ ?_
                        · intro a W hR hf ho K hK
                          replace hR := ext_drew hR
                          have G : a.tmps[7]?.getD undef = _ ∧ True := ho
                          obtain ⟨g7, -⟩ := G
                          clear ho hf
                          go_simp
                          exact hK _ _ (Below.refl _ _) (Eq.refl _)
                        refine And.intro ?_ ?_
                        · intro a W hR hf ho K hK
                          replace hR := ext_drew hR
                          have F : a.tmps[90]?.getD undef = _ ∧ True := hf
                          obtain ⟨f1, -⟩ := F
                          clear ho hf
                          go_simp
                          refine (apart_run (HU.out.run.ext hR)).mono ?_; rintro e W1 ⟨rfl, hE⟩; exact hK _ _ hE (Eq.refl _)
                        refine And.intro ?_ ?_
                        · intro a W hR hf ho K hK
                          replace hR := ext_drew hR
                          have F : a.tmps[89]?.getD undef = _ ∧ a.tmps[91]?.getD undef = _ ∧ True := hf
                          obtain ⟨f0, f2, -⟩ := F
                          clear ho hf
                          go_simp
                          exact hK _ _ (Below.refl _ _) (Eq.refl _)
                        refine And.intro ?_ ?_
                        · intro a W hR hf ho K hK
                          replace hR := ext_drew hR
                          have G : a.tmps[7]?.getD undef = _ ∧ True := ho
                          obtain ⟨g7, -⟩ := G
                          clear ho hf
                          go_simp
                          exact hK _ _ (Below.refl _ _) (Eq.refl _)
                        refine And.intro ?_ ?_
                        · intro a W hR hf ho K hK
                          replace hR := ext_drew hR
                          have F : a.tmps[93]?.getD undef = _ ∧ a.tmps[91]?.getD undef = _ ∧ True := hf
                          obtain ⟨f4, f2, -⟩ := F
                          clear ho hf
                          go_simp
                          refine (left_run (HU.out.run.ext hR)).mono ?_; rintro e W1 ⟨rfl, hE⟩; exact hK _ _ hE (Eq.refl _)
                        refine And.intro ?_ ?_
                        · intro a W hR hf ho K hK
                          replace hR := ext_drew hR
                          have F : a.tmps[92]?.getD undef = _ ∧ a.tmps[94]?.getD undef = _ ∧ True := hf
                          obtain ⟨f3, f5, -⟩ := F
                          clear ho hf
                          go_simp
                          exact hK _ _ (Below.refl _ _) (Eq.refl _)
                        refine And.intro ?_ ?_
                        · intro a W hR hf ho K hK
                          replace hR := ext_drew hR
                          have G : a.tmps[0]?.getD undef = _ ∧ True := ho
                          obtain ⟨g0, -⟩ := G
                          clear ho hf
                          go_simp
                          exact hK _ _ (Below.refl _ _) (Eq.refl _)
                        refine And.intro ?_ ?_
                        · intro a W hR hf ho K hK
                          replace hR := ext_drew hR
                          have F : a.tmps[96]?.getD undef = _ ∧ True := hf
                          obtain ⟨f7, -⟩ := F
                          clear ho hf
                          go_simp
                          exact hK _ _ (Below.refl _ _) (Eq.refl _)
                        refine And.intro ?_ ?_
                        · intro a W hR hf ho K hK
                          replace hR := ext_drew hR
                          have F : a.tmps[97]?.getD undef = _ ∧ True := hf
                          obtain ⟨f8, -⟩ := F
                          clear ho hf
                          go_simp
                          exact hK _ _ (Below.refl _ _) (Eq.refl _)
                        refine And.intro ?_ ?_
                        · intro a W hR hf ho K hK
                          replace hR := ext_drew hR
                          have F : a.tmps[95]?.getD undef = _ ∧ a.tmps[98]?.getD undef = _ ∧ True := hf
                          obtain ⟨f6, f9, -⟩ := F
                          clear ho hf
                          go_simp
                          exact hK _ _ (Below.refl _ _) (Eq.refl _)
                        refine And.intro ?_ ?_
                        · intro a W hR hf ho K hK
                          replace hR := ext_drew hR
                          have F : a.tmps[99]?.getD undef = _ ∧ a.tmps[94]?.getD undef = _ ∧ True := hf
                          obtain ⟨f10, f5, -⟩ := F
                          clear ho hf
                          go_simp
                          exact hK _ _ (Below.refl _ _) (Eq.refl _)
                        refine And.intro ?_ ?_
                        · intro a W hR hf ho K hK
                          replace hR := ext_drew hR
                          have G : a.tmps[7]?.getD undef = _ ∧ True := ho
                          obtain ⟨g7, -⟩ := G
                          have F : a.tmps[100]?.getD undef = _ ∧ True := hf
                          obtain ⟨f11, -⟩ := F
                          clear ho hf
                          go_simp
                          exact hK _ _ (Below.refl _ _) (Eq.refl _)
                        refine And.intro ?_ ?_
                        · intro a W hR hf ho K hK
                          replace hR := ext_drew hR
                          have F : a.tmps[101]?.getD undef = _ ∧ a.tmps[100]?.getD undef = _ ∧ a.tmps[100]?.getD undef = _ ∧ True := hf
                          obtain ⟨f12, f11, -, -⟩ := F
                          clear ho hf
                          go_simp
                          have hwd := wants_run (HU.out.run.ext hR) HU.out.ok; rw [HWD.out] at hwd; refine hwd.mono ?_; rintro e W1 ⟨rfl, hE⟩; exact hK _ _ hE (Eq.refl _)
                        refine And.intro ?_ ?_
                        · intro a W hR hf ho K hK
                          replace hR := ext_drew hR
                          have G : a.tmps[7]?.getD undef = _ ∧ True := ho
                          obtain ⟨g7, -⟩ := G
                          have F : a.tmps[100]?.getD undef = _ ∧ True := hf
                          obtain ⟨f11, -⟩ := F
                          clear ho hf
                          go_simp
                          exact hK _ _ (Below.refl _ _) (Eq.refl _)
                        refine And.intro ?_ ?_
                        · intro a W hR hf ho K hK
                          replace hR := ext_drew hR
                          have F : a.tmps[103]?.getD undef = _ ∧ a.tmps[100]?.getD undef = _ ∧ True := hf
                          obtain ⟨f14, f11, -⟩ := F
                          clear ho hf
                          go_simp
                          exact hK _ _ (Below.refl _ _) (Eq.refl _)
                        refine And.intro ?_ ?_
                        · intro a W hR hf ho K hK
                          replace hR := ext_drew hR
                          have F : a.tmps[104]?.getD undef = _ ∧ a.tmps[100]?.getD undef = _ ∧ True := hf
                          obtain ⟨f15, f11, -⟩ := F
                          clear ho hf
                          go_simp
                          exact hK _ _ (Below.refl _ _) (Eq.refl _)
                        refine And.intro ?_ ?_
                        · intro a W hR hf ho K hK
                          replace hR := ext_drew hR
                          have F : a.tmps[105]?.getD undef = _ ∧ a.tmps[100]?.getD undef = _ ∧ True := hf
                          obtain ⟨f16, f11, -⟩ := F
                          clear ho hf
                          go_simp
                          exact hK _ _ (Below.refl _ _) (Eq.refl _)
                        refine And.intro ?_ ?_
                        · intro a W hR hf ho K hK
                          replace hR := ext_drew hR
                          have F : a.tmps[106]?.getD undef = _ ∧ a.tmps[100]?.getD undef = _ ∧ True := hf
                          obtain ⟨f17, f11, -⟩ := F
                          clear ho hf
                          have q8 := ext_cell hR _ _ c8
                          go_simp
                          exact hK _ _ (Below.refl _ _) (Eq.refl _)
                        refine And.intro ?_ ?_
                        · intro a W hR hf ho K hK
                          replace hR := ext_drew hR
                          have F : a.tmps[107]?.getD undef = _ ∧ a.tmps[102]?.getD undef = _ ∧ a.tmps[100]?.getD undef = _ ∧ True := hf
                          obtain ⟨f18, f13, f11, -⟩ := F
                          clear ho hf
                          go_simp
                          have hru := runs_any ck X5.time W ((hR.block _ (Array.getElem?_eq_some_iff.1 hck).1).trans hck) HU.out.ok.time.1 (Int.le_trans HU.out.ok.time.2 (by decide)); rw [HRU.out] at hru; refine hru.mono ?_; rintro e W1 ⟨rfl, hE⟩; exact hK _ _ hE (Eq.refl _)
                        refine And.intro ?_ ?_
                        · intro a W hR hf ho K hK
                          replace hR := ext_drew hR
                          have F : a.tmps[108]?.getD undef = _ ∧ a.tmps[100]?.getD undef = _ ∧ True := hf
                          obtain ⟨f19, f11, -⟩ := F
                          clear ho hf
                          go_simp
                          exact hK _ _ (Below.refl _ _) (Eq.refl _)
                        refine And.intro ?_ ?_
                        · intro a W hR hf ho K hK
                          replace hR := ext_drew hR
                          have F : a.tmps[109]?.getD undef = _ ∧ a.tmps[108]?.getD undef = _ ∧ a.tmps[100]?.getD undef = _ ∧ True := hf
                          obtain ⟨f20, f19, f11, -⟩ := F
                          clear ho hf
                          go_simp
                          exact hK _ _ (Below.refl _ _) (Eq.refl _)
                        refine And.intro ?_ ?_
                        · intro a W hR hf ho K hK
                          replace hR := ext_drew hR
                          have G : a.tmps[7]?.getD undef = _ ∧ True := ho
                          obtain ⟨g7, -⟩ := G
                          have F : a.tmps[110]?.getD undef = _ ∧ True := hf
                          obtain ⟨f21, -⟩ := F
                          clear ho hf
                          go_simp
                          exact hK _ _ (Below.refl _ _) (Eq.refl _)
                        refine And.intro ?_ ?_
                        · intro a W hR hf ho K hK
                          replace hR := ext_drew hR
                          have F : a.tmps[111]?.getD undef = _ ∧ a.tmps[110]?.getD undef = _ ∧ a.tmps[110]?.getD undef = _ ∧ True := hf
                          obtain ⟨f22, f21, -, -⟩ := F
                          clear ho hf
                          go_simp
                          refine (apart_run (HU.out.run.ext hR)).mono ?_; rintro e W1 ⟨rfl, hE⟩; exact hK _ _ hE (Eq.refl _)
                        refine And.intro ?_ ?_
                        · intro a W hR hf ho K hK
                          replace hR := ext_drew hR
                          have F : a.tmps[112]?.getD undef = _ ∧ a.tmps[110]?.getD undef = _ ∧ True := hf
                          obtain ⟨f23, f21, -⟩ := F
                          clear ho hf
                          go_simp
                          exact hK _ _ (Below.refl _ _) (Eq.refl _)
                        refine And.intro ?_ ?_
                        · intro a W hR hf ho K hK
                          replace hR := ext_drew hR
                          have F : a.tmps[110]?.getD undef = _ ∧ a.tmps[113]?.getD undef = _ ∧ a.tmps[100]?.getD undef = _ ∧ True := hf
                          obtain ⟨f21, f24, f11, -⟩ := F
                          clear ho hf
                          go_simp
                          exact hK _ _ (Below.refl _ _) (Eq.refl _)
                        refine And.intro ?_ ?_
                        · intro a W hR hf ho K hK
                          replace hR := ext_drew hR
                          have F : a.tmps[102]?.getD undef = _ ∧ a.tmps[114]?.getD undef = _ ∧ a.tmps[100]?.getD undef = _ ∧ True := hf
                          obtain ⟨f13, f25, f11, -⟩ := F
                          clear ho hf
                          go_simp
                          exact hK _ _ (Below.refl _ _) (Eq.refl _)
                        refine And.intro ?_ ?_
                        · intro a W hR hf ho K hK
                          replace hR := ext_drew hR
                          have F : a.tmps[100]?.getD undef = _ ∧ a.tmps[115]?.getD undef = _ ∧ True := hf
                          obtain ⟨f11, f26, -⟩ := F
                          clear ho hf
                          go_simp
                          exact hK _ _ (Below.refl _ _) (Eq.refl _)
                        exact trivial
                      case stab =>
                        refine And.intro is_stable ?_
                        refine And.intro is_stable ?_
                        refine And.intro is_stable ?_
                        refine And.intro is_stable ?_
                        refine And.intro is_stable ?_
                        refine And.intro is_stable ?_
                        refine And.intro is_stable ?_
                        refine And.intro is_stable ?_
                        refine And.intro is_stable ?_
                        refine And.intro is_stable ?_
                        refine And.intro is_stable ?_
                        refine And.intro is_stable ?_
                        refine And.intro is_stable ?_
                        refine And.intro is_stable ?_
                        refine And.intro is_stable ?_
                        refine And.intro is_stable ?_
                        refine And.intro is_stable ?_
                        refine And.intro is_stable ?_
                        refine And.intro is_stable ?_
                        refine And.intro is_stable ?_
                        refine And.intro is_stable ?_
                        refine And.intro is_stable ?_
                        refine And.intro is_stable ?_
                        refine And.intro is_stable ?_
                        refine And.intro is_stable ?_
                        refine And.intro is_stable ?_
                        refine And.intro is_stable ?_
                        refine And.intro is_stable ?_
                        exact trivial
                      case ends =>
                        intro vals W hR hall
                        replace hR := ext_drew hR
                        have e116 : vals 116 = _ := hall 27 (by decide)
                        clear hall
                        simp only [fill, List.setIfInBounds_toArray, List.set_cons_succ, List.set_cons_zero, e116]
                        go_wp2_with fail
                        exact ⟨⟨k + 1, X5, _, by omega, by go_num, HU.out.ext hR⟩, by simp [intOf]; omega⟩
                    | true =>
                      rw [hru] at hwd
                      have HWD := Lib.hid hwd
                      have HRU := Lib.hid hru
                      clear hwd hru htot
                      go_wp2_with fail
                      refine wp_region_obl Ext [89, 90, 91, 92, 93, 94, 95, 96, 97, 98, 99, 100, 101, 102, 103, 104, 105, 106, 107, 108, 109, 110, 111, 112, 113, 114, 115, 116] (by kernel_rfl) (fun _ => Below.refl _ _) (fun _ _ _ => Ext.then) (by kernel_rfl) (by kernel_rfl) ?_
                      apply ex_is; apply Exists.intro
                      apply ex_is; apply Exists.intro
                      apply ex_is; apply Exists.intro
                      apply ex_is; apply Exists.intro
                      apply ex_is; apply Exists.intro
                      apply ex_is; apply Exists.intro
                      apply ex_is; apply Exists.intro
                      apply ex_is; apply Exists.intro
                      apply ex_is; apply Exists.intro
                      apply ex_is; apply Exists.intro
                      apply ex_is; apply Exists.intro
                      apply ex_is; apply Exists.intro
                      apply ex_is; apply Exists.intro
                      apply ex_is; apply Exists.intro
                      apply ex_is; apply Exists.intro
                      apply ex_is; apply Exists.intro
                      apply ex_is; apply Exists.intro
                      apply ex_is; apply Exists.intro
                      apply ex_is; apply Exists.intro
                      apply ex_is; apply Exists.intro
                      apply ex_is; apply Exists.intro
                      apply ex_is; apply Exists.intro
                      apply ex_is; apply Exists.intro
                      apply ex_is; apply Exists.intro
                      apply ex_is; apply Exists.intro
                      apply ex_is; apply Exists.intro
                      apply ex_is; apply Exists.intro
                      apply ex_is; apply Exists.intro
                      refine ⟨[], ⟨?steps, ?stab, ?ends⟩⟩
                      case steps =>
                        refine And.intro ?_ ?_
                        · intro a W hR hf ho K hK
                          replace hR := ext_drew hR
                          have G : a.tmps[14]?.getD undef = _ ∧ True := ho
                          obtain ⟨g14, -⟩ := G
                          clear ho hf
                          go_simp
                          exact hK _ _ (Below.refl _ _) (Eq.refl _)
                        refine And.intro ?_ ?_
                        · intro a W hR hf ho K hK
                          replace hR := ext_drew hR
                          have G : a.tmps[7]?.getD undef = _ ∧ True := ho
                          obtain ⟨g7, -⟩ := G
                          clear ho hf
                          go_simp
                          exact hK _ _ (Below.refl _ _) (Eq.refl _)
                        refine And.intro ?_ ?_
                        · intro a W hR hf ho K hK
                          replace hR := ext_drew hR
                          have F : a.tmps[90]?.getD undef = _ ∧ True := hf
                          obtain ⟨f1, -⟩ := F
                          clear ho hf
                          go_simp
                          refine (apart_run (HU.out.run.ext hR)).mono ?_; rintro e W1 ⟨rfl, hE⟩; exact hK _ _ hE (Eq.refl _)
                        refine And.intro ?_ ?_
                        · intro a W hR hf ho K hK
                          replace hR := ext_drew hR
                          have F : a.tmps[89]?.getD undef = _ ∧ a.tmps[91]?.getD undef = _ ∧ True := hf
                          obtain ⟨f0, f2, -⟩ := F
                          clear ho hf
                          go_simp
                          exact hK _ _ (Below.refl _ _) (Eq.refl _)
                        refine And.intro ?_ ?_
                        · intro a W hR hf ho K hK
                          replace hR := ext_drew hR
                          have G : a.tmps[7]?.getD undef = _ ∧ True := ho
                          obtain ⟨g7, -⟩ := G
                          clear ho hf
                          go_simp
                          exact hK _ _ (Below.refl _ _) (Eq.refl _)
                        refine And.intro ?_ ?_
                        · intro a W hR hf ho K hK
                          replace hR := ext_drew hR
                          have F : a.tmps[93]?.getD undef = _ ∧ a.tmps[91]?.getD undef = _ ∧ True := hf
                          obtain ⟨f4, f2, -⟩ := F
                          clear ho hf
                          go_simp
                          refine (left_run (HU.out.run.ext hR)).mono ?_; rintro e W1 ⟨rfl, hE⟩; exact hK _ _ hE (Eq.refl _)
                        refine And.intro ?_ ?_
                        · intro a W hR hf ho K hK
                          replace hR := ext_drew hR
                          have F : a.tmps[92]?.getD undef = _ ∧ a.tmps[94]?.getD undef = _ ∧ True := hf
                          obtain ⟨f3, f5, -⟩ := F
                          clear ho hf
                          go_simp
                          exact hK _ _ (Below.refl _ _) (Eq.refl _)
                        refine And.intro ?_ ?_
                        · intro a W hR hf ho K hK
                          replace hR := ext_drew hR
                          have G : a.tmps[0]?.getD undef = _ ∧ True := ho
                          obtain ⟨g0, -⟩ := G
                          clear ho hf
                          go_simp
                          exact hK _ _ (Below.refl _ _) (Eq.refl _)
                        refine And.intro ?_ ?_
                        · intro a W hR hf ho K hK
                          replace hR := ext_drew hR
                          have F : a.tmps[96]?.getD undef = _ ∧ True := hf
                          obtain ⟨f7, -⟩ := F
                          clear ho hf
                          go_simp
                          exact hK _ _ (Below.refl _ _) (Eq.refl _)
                        refine And.intro ?_ ?_
                        · intro a W hR hf ho K hK
                          replace hR := ext_drew hR
                          have F : a.tmps[97]?.getD undef = _ ∧ True := hf
                          obtain ⟨f8, -⟩ := F
                          clear ho hf
                          go_simp
                          exact hK _ _ (Below.refl _ _) (Eq.refl _)
                        refine And.intro ?_ ?_
                        · intro a W hR hf ho K hK
                          replace hR := ext_drew hR
                          have F : a.tmps[95]?.getD undef = _ ∧ a.tmps[98]?.getD undef = _ ∧ True := hf
                          obtain ⟨f6, f9, -⟩ := F
                          clear ho hf
                          go_simp
                          exact hK _ _ (Below.refl _ _) (Eq.refl _)
                        refine And.intro ?_ ?_
                        · intro a W hR hf ho K hK
                          replace hR := ext_drew hR
                          have F : a.tmps[99]?.getD undef = _ ∧ a.tmps[94]?.getD undef = _ ∧ True := hf
                          obtain ⟨f10, f5, -⟩ := F
                          clear ho hf
                          go_simp
                          exact hK _ _ (Below.refl _ _) (Eq.refl _)
                        refine And.intro ?_ ?_
                        · intro a W hR hf ho K hK
                          replace hR := ext_drew hR
                          have G : a.tmps[7]?.getD undef = _ ∧ True := ho
                          obtain ⟨g7, -⟩ := G
                          have F : a.tmps[100]?.getD undef = _ ∧ True := hf
                          obtain ⟨f11, -⟩ := F
                          clear ho hf
                          go_simp
                          exact hK _ _ (Below.refl _ _) (Eq.refl _)
                        refine And.intro ?_ ?_
                        · intro a W hR hf ho K hK
                          replace hR := ext_drew hR
                          have F : a.tmps[101]?.getD undef = _ ∧ a.tmps[100]?.getD undef = _ ∧ a.tmps[100]?.getD undef = _ ∧ True := hf
                          obtain ⟨f12, f11, -, -⟩ := F
                          clear ho hf
                          go_simp
                          have hwd := wants_run (HU.out.run.ext hR) HU.out.ok; rw [HWD.out] at hwd; refine hwd.mono ?_; rintro e W1 ⟨rfl, hE⟩; exact hK _ _ hE (Eq.refl _)
                        refine And.intro ?_ ?_
                        · intro a W hR hf ho K hK
                          replace hR := ext_drew hR
                          have G : a.tmps[7]?.getD undef = _ ∧ True := ho
                          obtain ⟨g7, -⟩ := G
                          have F : a.tmps[100]?.getD undef = _ ∧ True := hf
                          obtain ⟨f11, -⟩ := F
                          clear ho hf
                          go_simp
                          exact hK _ _ (Below.refl _ _) (Eq.refl _)
                        refine And.intro ?_ ?_
                        · intro a W hR hf ho K hK
                          replace hR := ext_drew hR
                          have F : a.tmps[103]?.getD undef = _ ∧ a.tmps[100]?.getD undef = _ ∧ True := hf
                          obtain ⟨f14, f11, -⟩ := F
                          clear ho hf
                          go_simp
                          exact hK _ _ (Below.refl _ _) (Eq.refl _)
                        refine And.intro ?_ ?_
                        · intro a W hR hf ho K hK
                          replace hR := ext_drew hR
                          have F : a.tmps[104]?.getD undef = _ ∧ a.tmps[100]?.getD undef = _ ∧ True := hf
                          obtain ⟨f15, f11, -⟩ := F
                          clear ho hf
                          go_simp
                          exact hK _ _ (Below.refl _ _) (Eq.refl _)
                        refine And.intro ?_ ?_
                        · intro a W hR hf ho K hK
                          replace hR := ext_drew hR
                          have F : a.tmps[105]?.getD undef = _ ∧ a.tmps[100]?.getD undef = _ ∧ True := hf
                          obtain ⟨f16, f11, -⟩ := F
                          clear ho hf
                          go_simp
                          exact hK _ _ (Below.refl _ _) (Eq.refl _)
                        refine And.intro ?_ ?_
                        · intro a W hR hf ho K hK
                          replace hR := ext_drew hR
                          have F : a.tmps[106]?.getD undef = _ ∧ a.tmps[100]?.getD undef = _ ∧ True := hf
                          obtain ⟨f17, f11, -⟩ := F
                          clear ho hf
                          have q8 := ext_cell hR _ _ c8
                          go_simp
                          exact hK _ _ (Below.refl _ _) (Eq.refl _)
                        refine And.intro ?_ ?_
                        · intro a W hR hf ho K hK
                          replace hR := ext_drew hR
                          have F : a.tmps[107]?.getD undef = _ ∧ a.tmps[102]?.getD undef = _ ∧ a.tmps[100]?.getD undef = _ ∧ True := hf
                          obtain ⟨f18, f13, f11, -⟩ := F
                          clear ho hf
                          go_simp
                          have hru := runs_any ck X5.time W ((hR.block _ (Array.getElem?_eq_some_iff.1 hck).1).trans hck) HU.out.ok.time.1 (Int.le_trans HU.out.ok.time.2 (by decide)); rw [HRU.out] at hru; refine hru.mono ?_; rintro e W1 ⟨rfl, hE⟩; exact hK _ _ hE (Eq.refl _)
                        refine And.intro ?_ ?_
                        · intro a W hR hf ho K hK
                          replace hR := ext_drew hR
                          have F : a.tmps[108]?.getD undef = _ ∧ a.tmps[100]?.getD undef = _ ∧ True := hf
                          obtain ⟨f19, f11, -⟩ := F
                          clear ho hf
                          go_simp
                          exact hK _ _ (Below.refl _ _) (Eq.refl _)
                        refine And.intro ?_ ?_
                        · intro a W hR hf ho K hK
                          replace hR := ext_drew hR
                          have F : a.tmps[109]?.getD undef = _ ∧ a.tmps[108]?.getD undef = _ ∧ a.tmps[100]?.getD undef = _ ∧ True := hf
                          obtain ⟨f20, f19, f11, -⟩ := F
                          clear ho hf
                          go_simp
                          exact hK _ _ (Below.refl _ _) (Eq.refl _)
                        refine And.intro ?_ ?_
                        · intro a W hR hf ho K hK
                          replace hR := ext_drew hR
                          have G : a.tmps[7]?.getD undef = _ ∧ True := ho
                          obtain ⟨g7, -⟩ := G
                          have F : a.tmps[110]?.getD undef = _ ∧ True := hf
                          obtain ⟨f21, -⟩ := F
                          clear ho hf
                          go_simp
                          exact hK _ _ (Below.refl _ _) (Eq.refl _)
                        refine And.intro ?_ ?_
                        · intro a W hR hf ho K hK
                          replace hR := ext_drew hR
                          have F : a.tmps[111]?.getD undef = _ ∧ a.tmps[110]?.getD undef = _ ∧ a.tmps[110]?.getD undef = _ ∧ True := hf
                          obtain ⟨f22, f21, -, -⟩ := F
                          clear ho hf
                          go_simp
                          exact hK _ _ (Below.refl _ _) (Eq.refl _)
                        refine And.intro ?_ ?_
                        · intro a W hR hf ho K hK
                          replace hR := ext_drew hR
                          have F : a.tmps[112]?.getD undef = _ ∧ a.tmps[110]?.getD undef = _ ∧ True := hf
                          obtain ⟨f23, f21, -⟩ := F
                          clear ho hf
                          go_simp
                          exact hK _ _ (Below.refl _ _) (Eq.refl _)
                        refine And.intro ?_ ?_
                        · intro a W hR hf ho K hK
                          replace hR := ext_drew hR
                          have F : a.tmps[110]?.getD undef = _ ∧ a.tmps[113]?.getD undef = _ ∧ a.tmps[100]?.getD undef = _ ∧ True := hf
                          obtain ⟨f21, f24, f11, -⟩ := F
                          clear ho hf
                          go_simp
                          exact hK _ _ (Below.refl _ _) (Eq.refl _)
                        refine And.intro ?_ ?_
                        · intro a W hR hf ho K hK
                          replace hR := ext_drew hR
                          have F : a.tmps[102]?.getD undef = _ ∧ a.tmps[114]?.getD undef = _ ∧ a.tmps[100]?.getD undef = _ ∧ True := hf
                          obtain ⟨f13, f25, f11, -⟩ := F
                          clear ho hf
                          go_simp
                          exact hK _ _ (Below.refl _ _) (Eq.refl _)
                        refine And.intro ?_ ?_
                        · intro a W hR hf ho K hK
                          replace hR := ext_drew hR
                          have F : a.tmps[100]?.getD undef = _ ∧ a.tmps[115]?.getD undef = _ ∧ True := hf
                          obtain ⟨f11, f26, -⟩ := F
                          clear ho hf
                          go_simp
                          exact hK _ _ (Below.refl _ _) (Eq.refl _)
                        exact trivial
                      case stab =>
                        refine And.intro is_stable ?_
                        refine And.intro is_stable ?_
                        refine And.intro is_stable ?_
                        refine And.intro is_stable ?_
                        refine And.intro is_stable ?_
                        refine And.intro is_stable ?_
                        refine And.intro is_stable ?_
                        refine And.intro is_stable ?_
                        refine And.intro is_stable ?_
                        refine And.intro is_stable ?_
                        refine And.intro is_stable ?_
                        refine And.intro is_stable ?_
                        refine And.intro is_stable ?_
                        refine And.intro is_stable ?_
                        refine And.intro is_stable ?_
                        refine And.intro is_stable ?_
                        refine And.intro is_stable ?_
                        refine And.intro is_stable ?_
                        refine And.intro is_stable ?_
                        refine And.intro is_stable ?_
                        refine And.intro is_stable ?_
                        refine And.intro is_stable ?_
                        refine And.intro is_stable ?_
                        refine And.intro is_stable ?_
                        refine And.intro is_stable ?_
                        refine And.intro is_stable ?_
                        refine And.intro is_stable ?_
                        refine And.intro is_stable ?_
                        exact trivial
                      case ends =>
                        intro vals W hR hall
                        replace hR := ext_drew hR
                        have e116 : vals 116 = _ := hall 27 (by decide)
                        clear hall
                        simp only [fill, List.setIfInBounds_toArray, List.set_cons_succ, List.set_cons_zero, e116]
                        go_wp2_with fail
                        exact ⟨⟨k + 1, X5, _, by omega, by go_num, HU.out.ext hR⟩, by simp [intOf]; omega⟩
      · obtain rfl : k = l.length := by omega
        have HI := Lib.hid hI.run.from
        clear hI
        go_wp2_with fail
        go_ret
        exact ⟨rfl, HI.out⟩
  · have hl' : (200 < (l.length : Int)) := by omega
    go_wp2_with fail
    go_ret
    exact ⟨rfl, H2.out.1⟩
end Go.Proofs.Ytpjlhkepdiajjaa

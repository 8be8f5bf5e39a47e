
/- ClosTypes: the walk of the law. -/
import Derived.Test.YtalndcjbnedigaaHead06
import Derived.Test.YtalndcjbnedigaaSameR
set_option linter.all false
namespace Go.Proofs.Ytalndcjbnedigaa
open Go.RowKit Go.Shelf
attribute [local go_sem] seen dstOf boolOf

theorem mem_typesS {O : List Cap} {p t : Int} : t ∈ typesS O p ↔ 2 ≤ t ∧ t ≤ 255 ∧ authL O t p = true := by
  unfold typesS
  rw [List.mem_filter, List.mem_map]
  constructor
  · rintro ⟨⟨i, hi, rfl⟩, h⟩
    rw [List.mem_range] at hi
    exact ⟨by omega, by omega, h⟩
  · rintro ⟨h1, h2, h3⟩
    refine ⟨⟨(t - 2).toNat, ?_, by omega⟩, h3⟩
    rw [List.mem_range]
    omega
theorem typesS_len (O : List Cap) (p : Int) : (typesS O p).length ≤ 254 := typesK_len O p 254
theorem typesS_rise (O : List Cap) (p : Int) : (typesS O p).Pairwise (· < ·) := by
  unfold typesS
  refine List.Pairwise.filter _ ?_
  rw [List.pairwise_map]
  exact List.pairwise_lt_range.imp fun h => by omega
def byC (t : Int) : Cap := ⟨true, t, t + 1, t, 32, 0⟩
/-- Something can be sealed with a type just if it is one of the types. -/
theorem has_by {l G O : List Cap} (h : SetOk l G O) {t : Int} (h1 : 2 ≤ t) (h2 : t ≤ 255) : hasS G O (byC t) = decide (t ∈ typesS O 32) := by
  rw [hasS_open h rfl, Bool.eq_iff_iff, decide_eq_true_eq, mem_typesS]
  have hr : rightC (byC t) = true := rightC_iff.2 ⟨⟨by show 0 ≤ t; omega, by show t ≤ _; omega⟩, ⟨by show 0 ≤ t + 1; omega, by show t + 1 ≤ _; omega⟩, ⟨by show 0 ≤ t; omega, by show t ≤ _; omega⟩, rfl, Int.le_refl _, by show (0 : Int) ≤ 255; decide, fun _ => ⟨by show t ≤ t + 1; omega, by show t + 1 ≤ _; omega⟩⟩
  rw [hr, Bool.true_and, Bool.or_eq_true]
  constructor
  · rintro (h3 | h3)
    · cases h3
    · refine ⟨h1, h2, ?_⟩
      obtain ⟨o, ho, hu⟩ := List.any_eq_true.1 h3
      obtain ⟨a1, a2, a3, a4⟩ := underC_iff.1 hu
      refine authL_iff.2 ⟨o, ho, ?_⟩
      unfold overC
      have a1' : o.base ≤ t := a1
      have a3' : t + 1 ≤ o.top := a3
      rw [decide_eq_true h1, decide_eq_true h2, show hasP o.perms 32 = true from a4, inC_iff.2 ⟨by omega, by omega, a1', by omega, by omega⟩]
      rfl
  · rintro ⟨-, -, h3⟩
    obtain ⟨o, ho, hu⟩ := authL_iff.1 h3
    unfold overC at hu
    rw [Bool.and_eq_true, Bool.and_eq_true] at hu
    obtain ⟨⟨-, a1⟩, a2⟩ := hu
    obtain ⟨b1, b2, b3, b4, b5⟩ := inC_iff.1 a2
    exact .inr (List.any_eq_true.2 ⟨o, ho, underC_iff.2 ⟨b3, by show t ≤ t + 1; omega, by show t + 1 ≤ o.top; omega, a1⟩⟩)
set_option maxHeartbeats 2000000 in
set_option maxRecDepth 20000 in
theorem types06_any (A : Option Addr) (c : Nat) (l : List Cap) (t : Int) (w : World) (hA : Arr w A (capCells l)) (hw : ∀ x ∈ l, CapWf x) (h1 : 0 ≤ t) (h2 : t ≤ 255) : Calls Try.prog 6 #[.slice A l.length c, .int .u8 t] w (Tell w true) := by
  by_cases hl : 40 < l.length
  · go_enter Try.func6, Try.ntmps6
    go_wp2_with fail
    refine (head06 _).mono ?_
    rintro _ w1 ⟨rfl, hE⟩
    go_wp2_with fail
    go_ret
    exact ⟨rfl, hE⟩
  · go_enter Try.func6, Try.ntmps6
    go_wp2_with fail
    refine (head06 _).mono ?_
    rintro _ w1 ⟨rfl, hE1⟩
    have E1 := Lib.hid hE1
    clear hE1
    go_wp2_with fail
    refine (new_is A c l w1 (hA.ext E1.out) hw (by omega)).mono ?_
    rintro _ w2 ⟨s, G, O, rfl, hs, hp, hE⟩
    have E2 : Hid (Ext w w2) := Lib.hid (E1.out.then hE)
    have S2 := Lib.hid hs
    clear hs hE hp
    go_wp2_with fail
    refine (types_set 32 S2.out (by omega) hw (by unfold i64ok'; omega)).mono ?_
    rintro _ w3 ⟨v3, rfl, ho, hE⟩
    have hT := typesS_len O 32
    have HR := Lib.hid (typesS_rise O 32)
    have HM : Hid (∀ x ∈ typesS O 32, 2 ≤ x ∧ x ≤ 255) := Lib.hid fun x hx => ⟨(mem_typesS.1 hx).1, (mem_typesS.1 hx).2.1⟩
    have HB : Hid (2 ≤ t → hasS G O (byC t) = decide (t ∈ typesS O 32)) := Lib.hid fun h => has_by S2.out.ok h h2
    obtain ⟨ts, hts⟩ : ∃ ts, ts = typesS O 32 := ⟨_, rfl⟩
    rw [← hts] at ho hT HR HM HB
    obtain ⟨A3, c3, rfl, -, ha3⟩ := Arr.own ho
    have HA := Lib.hid ha3
    have E3 : Hid (Ext w w3) := Lib.hid (E2.out.then hE)
    have S3 := Lib.hid (S2.out.ext hE)
    clear ho hts hE ha3
    go_wp2_with fail
    go_loopw [8, 9] (fun v i wr => ∃ k : Nat, k ≤ ts.length ∧ v = .bool (decide (t ∈ ts.take k)) ∧ i = .int .i64 (k : Int) ∧ Hid (Ext w3 wr)) (fun _ i _ => ts.length - (intOf i).toNat)
    case atStart => exact ⟨0, Nat.zero_le _, by simp, rfl, Lib.hid (Below.refl _ _)⟩
    case round =>
      obtain ⟨k, hk, rfl, rfl, hE⟩ := hrel
      by_cases hlt : k < ts.length
      · obtain ⟨x, hx⟩ : ∃ x, x = ts[k] := ⟨_, rfl⟩
        obtain ⟨b1, o1, rfl, -, x1⟩ := int_row (HA.out.ext hE.out) hlt
        rw [← hx] at x1
        have hb := HM.out x (by rw [hx]; exact List.getElem_mem hlt)
        have htk : decide (t ∈ ts.take (k + 1)) = (decide (t ∈ ts.take k) || (x == t)) := by
          rw [List.take_add_one, List.getElem?_eq_getElem hlt, ← hx]
          simp only [Option.toList_some, List.mem_append, List.mem_singleton, Bool.decide_or]
          congr 1
          rw [Bool.eq_iff_iff, decide_eq_true_eq, beq_iff_eq]
          exact eq_comm
        have HT := Lib.hid htk
        clear htk
        obtain ⟨b, hbb⟩ : ∃ b, b = decide (t ∈ ts.take k) := ⟨_, rfl⟩
        rw [← hbb] at HT ⊢
        have HX := Lib.hid hx
        clear hbb hx
        have d1 : decide (x < 2) = false := decide_eq_false (by omega)
        have d2 : decide (255 < x) = false := decide_eq_false (by omega)
        cases k with
        | zero =>
          simp only [Nat.add_zero] at x1
          go_wp2_with fail
          refine wp_region_obl Eq [28, 29, 30, 31, 32, 33, 34, 35, 36, 37, 38, 39, 40, 41, 42, 43, 44, 45, 46, 47, 48, 49, 50, 51, 52, 53, 54, 55] (by kernel_rfl) (fun _ => rfl) (fun _ _ _ => Eq.trans) (by kernel_rfl) (by kernel_rfl) ?_
          apply ex_is; apply Exists.intro
          apply ex_is; apply Exists.intro
          apply ex_is; apply Exists.intro
          apply ex_is; apply Exists.intro
          apply ex_is; apply Exists.intro
          apply ex_is; apply Exists.intro
          apply ex_is; apply Exists.intro
          apply ex_is; apply Exists.intro
          apply ex_is; apply Exists.intro
          apply ex_is; apply Exists.intro
          apply ex_is; apply Exists.intro
          apply ex_is; apply Exists.intro
          apply ex_is; apply Exists.intro
          apply ex_is; apply Exists.intro
          apply ex_is; apply Exists.intro
          apply ex_is; apply Exists.intro
          apply ex_is; apply Exists.intro
          apply ex_is; apply Exists.intro
          apply ex_is; apply Exists.intro
          apply ex_is; apply Exists.intro
          apply ex_is; apply Exists.intro
          apply ex_is; apply Exists.intro
          apply ex_is; apply Exists.intro
          apply ex_is; apply Exists.intro
          apply ex_is; apply Exists.intro
          apply ex_is; apply Exists.intro
          apply ex_is; apply Exists.intro
          apply ex_is; apply Exists.intro
          refine ⟨[], ⟨?steps, ?stab, ?ends⟩⟩
          case steps =>
            refine And.intro ?_ ?_
            · intro a W hR hf ho K hK
              subst hR
              have G : a.tmps[7]?.getD undef = _ ∧ True := ho
              obtain ⟨g7, -⟩ := G
              clear ho hf
              go_simp
              exact hK _ _ (rfl) (Eq.refl _)
            refine And.intro ?_ ?_
            · intro a W hR hf ho K hK
              subst hR
              have G : a.tmps[9]?.getD undef = _ ∧ True := ho
              obtain ⟨g9, -⟩ := G
              clear ho hf
              go_simp
              exact hK _ _ (rfl) (Eq.refl _)
            refine And.intro ?_ ?_
            · intro a W hR hf ho K hK
              subst hR
              have F : a.tmps[28]?.getD undef = _ ∧ a.tmps[29]?.getD undef = _ ∧ True := hf
              obtain ⟨f0, f1, -⟩ := F
              clear ho hf
              go_simp
              exact hK _ _ (rfl) (Eq.refl _)
            refine And.intro ?_ ?_
            · intro a W hR hf ho K hK
              subst hR
              have F : a.tmps[30]?.getD undef = _ ∧ True := hf
              obtain ⟨f2, -⟩ := F
              clear ho hf
              go_simp
              exact hK _ _ (rfl) (Eq.refl _)
            refine And.intro ?_ ?_
            · intro a W hR hf ho K hK
              subst hR
              have F : a.tmps[31]?.getD undef = _ ∧ True := hf
              obtain ⟨f3, -⟩ := F
              clear ho hf
              go_simp
              exact hK _ _ (rfl) (Eq.refl _)
            refine And.intro ?_ ?_
            · intro a W hR hf ho K hK
              subst hR
              have F : a.tmps[32]?.getD undef = _ ∧ True := hf
              obtain ⟨f4, -⟩ := F
              clear ho hf
              go_simp
              exact hK _ _ (rfl) (Eq.refl _)
            refine And.intro ?_ ?_
            · intro a W hR hf ho K hK
              subst hR
              have G : a.tmps[7]?.getD undef = _ ∧ True := ho
              obtain ⟨g7, -⟩ := G
              have F : a.tmps[33]?.getD undef = _ ∧ True := hf
              obtain ⟨f5, -⟩ := F
              clear ho hf
              go_simp
              exact hK _ _ (rfl) (Eq.refl _)
            refine And.intro ?_ ?_
            · intro a W hR hf ho K hK
              subst hR
              have G : a.tmps[9]?.getD undef = _ ∧ True := ho
              obtain ⟨g9, -⟩ := G
              have F : a.tmps[33]?.getD undef = _ ∧ True := hf
              obtain ⟨f5, -⟩ := F
              clear ho hf
              go_simp
              exact hK _ _ (rfl) (Eq.refl _)
            refine And.intro ?_ ?_
            · intro a W hR hf ho K hK
              subst hR
              have F : a.tmps[34]?.getD undef = _ ∧ a.tmps[35]?.getD undef = _ ∧ a.tmps[33]?.getD undef = _ ∧ True := hf
              obtain ⟨f6, f7, f5, -⟩ := F
              clear ho hf
              go_simp
              exact hK _ _ (rfl) (Eq.refl _)
            refine And.intro ?_ ?_
            · intro a W hR hf ho K hK
              subst hR
              have F : a.tmps[36]?.getD undef = _ ∧ a.tmps[33]?.getD undef = _ ∧ True := hf
              obtain ⟨f8, f5, -⟩ := F
              clear ho hf
              go_simp
              exact hK _ _ (rfl) (Eq.refl _)
            refine And.intro ?_ ?_
            · intro a W hR hf ho K hK
              subst hR
              have F : a.tmps[37]?.getD undef = _ ∧ a.tmps[33]?.getD undef = _ ∧ True := hf
              obtain ⟨f9, f5, -⟩ := F
              clear ho hf
              go_simp
              exact hK _ _ (rfl) (Eq.refl _)
            refine And.intro ?_ ?_
            · intro a W hR hf ho K hK
              subst hR
              have F : a.tmps[33]?.getD undef = _ ∧ a.tmps[38]?.getD undef = _ ∧ True := hf
              obtain ⟨f5, f10, -⟩ := F
              clear ho hf
              go_simp
              exact hK _ _ (rfl) (Eq.refl _)
            refine And.intro ?_ ?_
            · intro a W hR hf ho K hK
              subst hR
              have F : a.tmps[39]?.getD undef = _ ∧ a.tmps[33]?.getD undef = _ ∧ True := hf
              obtain ⟨f11, f5, -⟩ := F
              clear ho hf
              go_simp
              exact hK _ _ (rfl) (Eq.refl _)
            refine And.intro ?_ ?_
            · intro a W hR hf ho K hK
              subst hR
              have G : a.tmps[9]?.getD undef = _ ∧ True := ho
              obtain ⟨g9, -⟩ := G
              have F : a.tmps[40]?.getD undef = _ ∧ True := hf
              obtain ⟨f12, -⟩ := F
              clear ho hf
              go_simp
              exact hK _ _ (rfl) (Eq.refl _)
            refine And.intro ?_ ?_
            · intro a W hR hf ho K hK
              subst hR
              have F : a.tmps[41]?.getD undef = _ ∧ a.tmps[40]?.getD undef = _ ∧ True := hf
              obtain ⟨f13, f12, -⟩ := F
              clear ho hf
              go_simp
              exact hK _ _ (rfl) (Eq.refl _)
            refine And.intro ?_ ?_
            · intro a W hR hf ho K hK
              subst hR
              have F : a.tmps[42]?.getD undef = _ ∧ a.tmps[40]?.getD undef = _ ∧ a.tmps[40]?.getD undef = _ ∧ True := hf
              obtain ⟨f14, f12, -, -⟩ := F
              clear ho hf
              go_simp
              exact hK _ _ (rfl) (Eq.refl _)
            refine And.intro ?_ ?_
            · intro a W hR hf ho K hK
              subst hR
              have G : a.tmps[7]?.getD undef = _ ∧ True := ho
              obtain ⟨g7, -⟩ := G
              have F : a.tmps[43]?.getD undef = _ ∧ True := hf
              obtain ⟨f15, -⟩ := F
              clear ho hf
              go_simp
              exact hK _ _ (rfl) (Eq.refl _)
            refine And.intro ?_ ?_
            · intro a W hR hf ho K hK
              subst hR
              have G : a.tmps[9]?.getD undef = _ ∧ True := ho
              obtain ⟨g9, -⟩ := G
              have F : a.tmps[43]?.getD undef = _ ∧ True := hf
              obtain ⟨f15, -⟩ := F
              clear ho hf
              go_simp
              exact hK _ _ (rfl) (Eq.refl _)
            refine And.intro ?_ ?_
            · intro a W hR hf ho K hK
              subst hR
              have F : a.tmps[44]?.getD undef = _ ∧ a.tmps[45]?.getD undef = _ ∧ a.tmps[43]?.getD undef = _ ∧ True := hf
              obtain ⟨f16, f17, f15, -⟩ := F
              clear ho hf
              go_simp
              exact hK _ _ (rfl) (Eq.refl _)
            refine And.intro ?_ ?_
            · intro a W hR hf ho K hK
              subst hR
              have F : a.tmps[46]?.getD undef = _ ∧ a.tmps[43]?.getD undef = _ ∧ True := hf
              obtain ⟨f18, f15, -⟩ := F
              clear ho hf
              go_simp
              exact hK _ _ (rfl) (Eq.refl _)
            refine And.intro ?_ ?_
            · intro a W hR hf ho K hK
              subst hR
              have G : a.tmps[7]?.getD undef = _ ∧ True := ho
              obtain ⟨g7, -⟩ := G
              have F : a.tmps[43]?.getD undef = _ ∧ True := hf
              obtain ⟨f15, -⟩ := F
              clear ho hf
              go_simp
              exact hK _ _ (rfl) (Eq.refl _)
            refine And.intro ?_ ?_
            · intro a W hR hf ho K hK
              subst hR
              have G : a.tmps[9]?.getD undef = _ ∧ True := ho
              obtain ⟨g9, -⟩ := G
              have F : a.tmps[43]?.getD undef = _ ∧ True := hf
              obtain ⟨f15, -⟩ := F
              clear ho hf
              go_simp
              exact hK _ _ (rfl) (Eq.refl _)
            refine And.intro ?_ ?_
            · intro a W hR hf ho K hK
              subst hR
              have F : a.tmps[49]?.getD undef = _ ∧ a.tmps[43]?.getD undef = _ ∧ True := hf
              obtain ⟨f21, f15, -⟩ := F
              clear ho hf
              go_simp
              exact hK _ _ (rfl) (Eq.refl _)
            refine And.intro ?_ ?_
            · intro a W hR hf ho K hK
              subst hR
              have F : a.tmps[48]?.getD undef = _ ∧ a.tmps[50]?.getD undef = _ ∧ a.tmps[43]?.getD undef = _ ∧ True := hf
              obtain ⟨f20, f22, f15, -⟩ := F
              clear ho hf
              go_simp
              exact hK _ _ (rfl) (Eq.refl _)
            refine And.intro ?_ ?_
            · intro a W hR hf ho K hK
              subst hR
              have F : a.tmps[51]?.getD undef = _ ∧ a.tmps[43]?.getD undef = _ ∧ True := hf
              obtain ⟨f23, f15, -⟩ := F
              clear ho hf
              go_simp
              exact hK _ _ (rfl) (Eq.refl _)
            refine And.intro ?_ ?_
            · intro a W hR hf ho K hK
              subst hR
              have F : a.tmps[47]?.getD undef = _ ∧ a.tmps[52]?.getD undef = _ ∧ a.tmps[43]?.getD undef = _ ∧ True := hf
              obtain ⟨f19, f24, f15, -⟩ := F
              clear ho hf
              go_simp
              exact hK _ _ (rfl) (Eq.refl _)
            refine And.intro ?_ ?_
            · intro a W hR hf ho K hK
              subst hR
              have F : a.tmps[43]?.getD undef = _ ∧ a.tmps[53]?.getD undef = _ ∧ a.tmps[40]?.getD undef = _ ∧ True := hf
              obtain ⟨f15, f25, f12, -⟩ := F
              clear ho hf
              go_simp
              exact hK _ _ (rfl) (Eq.refl _)
            refine And.intro ?_ ?_
            · intro a W hR hf ho K hK
              subst hR
              have F : a.tmps[40]?.getD undef = _ ∧ a.tmps[54]?.getD undef = _ ∧ True := hf
              obtain ⟨f12, f26, -⟩ := F
              clear ho hf
              go_simp
              exact hK _ _ (rfl) (Eq.refl _)
            exact trivial
          case stab =>
            refine And.intro is_stable ?_
            refine And.intro is_stable ?_
            refine And.intro is_stable ?_
            refine And.intro is_stable ?_
            refine And.intro is_stable ?_
            refine And.intro is_stable ?_
            refine And.intro is_stable ?_
            refine And.intro is_stable ?_
            refine And.intro is_stable ?_
            refine And.intro is_stable ?_
            refine And.intro is_stable ?_
            refine And.intro is_stable ?_
            refine And.intro is_stable ?_
            refine And.intro is_stable ?_
            refine And.intro is_stable ?_
            refine And.intro is_stable ?_
            refine And.intro is_stable ?_
            refine And.intro is_stable ?_
            refine And.intro is_stable ?_
            refine And.intro is_stable ?_
            refine And.intro is_stable ?_
            refine And.intro is_stable ?_
            refine And.intro is_stable ?_
            refine And.intro is_stable ?_
            refine And.intro is_stable ?_
            refine And.intro is_stable ?_
            refine And.intro is_stable ?_
            refine And.intro is_stable ?_
            exact trivial
          case ends =>
            intro vals W hR hall
            subst hR
            have e55 : vals 55 = _ := hall 27 (by decide)
            clear hall
            simp only [fill, List.setIfInBounds_toArray, List.set_cons_succ, List.set_cons_zero, e55]
            cases b
            · by_cases he : x = t
              · have hq : (x == t) = true := beq_iff_eq.2 he
                clear he
                go_wp2_with fail
                exact ⟨⟨0 + 1, by omega, by rw [HT.out, hq]; rfl, by rfl, Lib.hid (by repeat first | (with_reducible exact Below.refl _ _) | (with_reducible apply Ext.alloc) | (with_reducible apply Ext.drew) | (with_reducible apply Ext.drewN) | (with_reducible refine Ext.set ?_ (by simp)) | (with_reducible refine Ext.then ?_ hE.out))⟩, by simp [intOf]; omega⟩
              · have hq : (x == t) = false := beq_eq_false_iff_ne.2 he
                clear he
                go_wp2_with fail
                exact ⟨⟨0 + 1, by omega, by rw [HT.out, hq]; rfl, by rfl, Lib.hid (by repeat first | (with_reducible exact Below.refl _ _) | (with_reducible apply Ext.alloc) | (with_reducible apply Ext.drew) | (with_reducible apply Ext.drewN) | (with_reducible refine Ext.set ?_ (by simp)) | (with_reducible refine Ext.then ?_ hE.out))⟩, by simp [intOf]; omega⟩
            · go_wp2_with fail
              exact ⟨⟨0 + 1, by omega, by rw [HT.out]; rfl, by rfl, Lib.hid (by repeat first | (with_reducible exact Below.refl _ _) | (with_reducible apply Ext.alloc) | (with_reducible apply Ext.drew) | (with_reducible apply Ext.drewN) | (with_reducible refine Ext.set ?_ (by simp)) | (with_reducible refine Ext.then ?_ hE.out))⟩, by simp [intOf]; omega⟩
        | succ j =>
          obtain ⟨y, hy⟩ : ∃ y, y = ts[j] := ⟨_, rfl⟩
          obtain ⟨b2, o2, e2, -, x2⟩ := int_row (HA.out.ext hE.out) (show j < ts.length by omega)
          simp only [Option.some.injEq, Addr.mk.injEq, and_true] at e2
          obtain ⟨rfl, rfl⟩ := e2
          rw [← hy] at x2
          have hyx : y < x := by
            rw [hy, HX.out]
            exact List.pairwise_iff_getElem.1 HR.out j (j + 1) (by omega) hlt (by omega)
          have d3 : decide ((x : Int) ≤ y) = false := decide_eq_false (by omega)
          clear hy
          have hjl : j < ts.length := by omega
          have hw1 : IntKind.i64.wrap (j : Int) = (j : Int) := IntWalk.i64_in _ (by omega)
          go_wp2_with fail
          refine wp_region_obl Eq [28, 29, 30, 31, 32, 33, 34, 35, 36, 37, 38, 39, 40, 41, 42, 43, 44, 45, 46, 47, 48, 49, 50, 51, 52, 53, 54, 55] (by kernel_rfl) (fun _ => rfl) (fun _ _ _ => Eq.trans) (by kernel_rfl) (by kernel_rfl) ?_
          apply ex_is; apply Exists.intro
          apply ex_is; apply Exists.intro
          apply ex_is; apply Exists.intro
          apply ex_is; apply Exists.intro
          apply ex_is; apply Exists.intro
          apply ex_is; apply Exists.intro
          apply ex_is; apply Exists.intro
          apply ex_is; apply Exists.intro
          apply ex_is; apply Exists.intro
          apply ex_is; apply Exists.intro
          apply ex_is; apply Exists.intro
          apply ex_is; apply Exists.intro
          apply ex_is; apply Exists.intro
          apply ex_is; apply Exists.intro
          apply ex_is; apply Exists.intro
          apply ex_is; apply Exists.intro
          apply ex_is; apply Exists.intro
          apply ex_is; apply Exists.intro
          apply ex_is; apply Exists.intro
          apply ex_is; apply Exists.intro
          apply ex_is; apply Exists.intro
          apply ex_is; apply Exists.intro
          apply ex_is; apply Exists.intro
          apply ex_is; apply Exists.intro
          apply ex_is; apply Exists.intro
          apply ex_is; apply Exists.intro
          apply ex_is; apply Exists.intro
          apply ex_is; apply Exists.intro
          refine ⟨[], ⟨?steps, ?stab, ?ends⟩⟩
          case steps =>
            refine And.intro ?_ ?_
            · intro a W hR hf ho K hK
              subst hR
              have G : a.tmps[7]?.getD undef = _ ∧ True := ho
              obtain ⟨g7, -⟩ := G
              clear ho hf
              go_simp
              exact hK _ _ (rfl) (Eq.refl _)
            refine And.intro ?_ ?_
            · intro a W hR hf ho K hK
              subst hR
              have G : a.tmps[9]?.getD undef = _ ∧ True := ho
              obtain ⟨g9, -⟩ := G
              clear ho hf
              go_simp
              exact hK _ _ (rfl) (Eq.refl _)
            refine And.intro ?_ ?_
            · intro a W hR hf ho K hK
              subst hR
              have F : a.tmps[28]?.getD undef = _ ∧ a.tmps[29]?.getD undef = _ ∧ True := hf
              obtain ⟨f0, f1, -⟩ := F
              clear ho hf
              go_simp
              exact hK _ _ (rfl) (Eq.refl _)
            refine And.intro ?_ ?_
            · intro a W hR hf ho K hK
              subst hR
              have F : a.tmps[30]?.getD undef = _ ∧ True := hf
              obtain ⟨f2, -⟩ := F
              clear ho hf
              go_simp
              exact hK _ _ (rfl) (Eq.refl _)
            refine And.intro ?_ ?_
            · intro a W hR hf ho K hK
              subst hR
              have F : a.tmps[31]?.getD undef = _ ∧ True := hf
              obtain ⟨f3, -⟩ := F
              clear ho hf
              go_simp
              exact hK _ _ (rfl) (Eq.refl _)
            refine And.intro ?_ ?_
            · intro a W hR hf ho K hK
              subst hR
              have F : a.tmps[32]?.getD undef = _ ∧ True := hf
              obtain ⟨f4, -⟩ := F
              clear ho hf
              go_simp
              exact hK _ _ (rfl) (Eq.refl _)
            refine And.intro ?_ ?_
            · intro a W hR hf ho K hK
              subst hR
              have G : a.tmps[7]?.getD undef = _ ∧ True := ho
              obtain ⟨g7, -⟩ := G
              have F : a.tmps[33]?.getD undef = _ ∧ True := hf
              obtain ⟨f5, -⟩ := F
              clear ho hf
              go_simp
              exact hK _ _ (rfl) (Eq.refl _)
            refine And.intro ?_ ?_
            · intro a W hR hf ho K hK
              subst hR
              have G : a.tmps[9]?.getD undef = _ ∧ True := ho
              obtain ⟨g9, -⟩ := G
              have F : a.tmps[33]?.getD undef = _ ∧ True := hf
              obtain ⟨f5, -⟩ := F
              clear ho hf
              go_simp
              exact hK _ _ (rfl) (Eq.refl _)
            refine And.intro ?_ ?_
            · intro a W hR hf ho K hK
              subst hR
              have F : a.tmps[34]?.getD undef = _ ∧ a.tmps[35]?.getD undef = _ ∧ a.tmps[33]?.getD undef = _ ∧ True := hf
              obtain ⟨f6, f7, f5, -⟩ := F
              clear ho hf
              go_simp
              exact hK _ _ (rfl) (Eq.refl _)
            refine And.intro ?_ ?_
            · intro a W hR hf ho K hK
              subst hR
              have F : a.tmps[36]?.getD undef = _ ∧ a.tmps[33]?.getD undef = _ ∧ True := hf
              obtain ⟨f8, f5, -⟩ := F
              clear ho hf
              go_simp
              exact hK _ _ (rfl) (Eq.refl _)
            refine And.intro ?_ ?_
            · intro a W hR hf ho K hK
              subst hR
              have F : a.tmps[37]?.getD undef = _ ∧ a.tmps[33]?.getD undef = _ ∧ True := hf
              obtain ⟨f9, f5, -⟩ := F
              clear ho hf
              go_simp
              exact hK _ _ (rfl) (Eq.refl _)
            refine And.intro ?_ ?_
            · intro a W hR hf ho K hK
              subst hR
              have F : a.tmps[33]?.getD undef = _ ∧ a.tmps[38]?.getD undef = _ ∧ True := hf
              obtain ⟨f5, f10, -⟩ := F
              clear ho hf
              go_simp
              exact hK _ _ (rfl) (Eq.refl _)
            refine And.intro ?_ ?_
            · intro a W hR hf ho K hK
              subst hR
              have F : a.tmps[39]?.getD undef = _ ∧ a.tmps[33]?.getD undef = _ ∧ True := hf
              obtain ⟨f11, f5, -⟩ := F
              clear ho hf
              go_simp
              exact hK _ _ (rfl) (Eq.refl _)
            refine And.intro ?_ ?_
            · intro a W hR hf ho K hK
              subst hR
              have G : a.tmps[9]?.getD undef = _ ∧ True := ho
              obtain ⟨g9, -⟩ := G
              have F : a.tmps[40]?.getD undef = _ ∧ True := hf
              obtain ⟨f12, -⟩ := F
              clear ho hf
              go_simp
              exact hK _ _ (rfl) (Eq.refl _)
            refine And.intro ?_ ?_
            · intro a W hR hf ho K hK
              subst hR
              have F : a.tmps[41]?.getD undef = _ ∧ a.tmps[40]?.getD undef = _ ∧ True := hf
              obtain ⟨f13, f12, -⟩ := F
              clear ho hf
              go_simp
              exact hK _ _ (rfl) (Eq.refl _)
            refine And.intro ?_ ?_
            · intro a W hR hf ho K hK
              subst hR
              have F : a.tmps[42]?.getD undef = _ ∧ a.tmps[40]?.getD undef = _ ∧ a.tmps[40]?.getD undef = _ ∧ True := hf
              obtain ⟨f14, f12, -, -⟩ := F
              clear ho hf
              go_simp
              exact hK _ _ (rfl) (Eq.refl _)
            refine And.intro ?_ ?_
            · intro a W hR hf ho K hK
              subst hR
              have G : a.tmps[7]?.getD undef = _ ∧ True := ho
              obtain ⟨g7, -⟩ := G
              have F : a.tmps[43]?.getD undef = _ ∧ True := hf
              obtain ⟨f15, -⟩ := F
              clear ho hf
              go_simp
              exact hK _ _ (rfl) (Eq.refl _)
            refine And.intro ?_ ?_
            · intro a W hR hf ho K hK
              subst hR
              have G : a.tmps[9]?.getD undef = _ ∧ True := ho
              obtain ⟨g9, -⟩ := G
              have F : a.tmps[43]?.getD undef = _ ∧ True := hf
              obtain ⟨f15, -⟩ := F
              clear ho hf
              go_simp
              exact hK _ _ (rfl) (Eq.refl _)
            refine And.intro ?_ ?_
            · intro a W hR hf ho K hK
              subst hR
              have F : a.tmps[44]?.getD undef = _ ∧ a.tmps[45]?.getD undef = _ ∧ a.tmps[43]?.getD undef = _ ∧ True := hf
              obtain ⟨f16, f17, f15, -⟩ := F
              clear ho hf
              go_simp
              exact hK _ _ (rfl) (Eq.refl _)
            refine And.intro ?_ ?_
            · intro a W hR hf ho K hK
              subst hR
              have F : a.tmps[46]?.getD undef = _ ∧ a.tmps[43]?.getD undef = _ ∧ True := hf
              obtain ⟨f18, f15, -⟩ := F
              clear ho hf
              go_simp
              exact hK _ _ (rfl) (Eq.refl _)
            refine And.intro ?_ ?_
            · intro a W hR hf ho K hK
              subst hR
              have G : a.tmps[7]?.getD undef = _ ∧ True := ho
              obtain ⟨g7, -⟩ := G
              have F : a.tmps[43]?.getD undef = _ ∧ True := hf
              obtain ⟨f15, -⟩ := F
              clear ho hf
              go_simp
              exact hK _ _ (rfl) (Eq.refl _)
            refine And.intro ?_ ?_
            · intro a W hR hf ho K hK
              subst hR
              have G : a.tmps[9]?.getD undef = _ ∧ True := ho
              obtain ⟨g9, -⟩ := G
              have F : a.tmps[43]?.getD undef = _ ∧ True := hf
              obtain ⟨f15, -⟩ := F
              clear ho hf
              go_simp
              exact hK _ _ (rfl) (Eq.refl _)
            refine And.intro ?_ ?_
            · intro a W hR hf ho K hK
              subst hR
              have F : a.tmps[49]?.getD undef = _ ∧ a.tmps[43]?.getD undef = _ ∧ True := hf
              obtain ⟨f21, f15, -⟩ := F
              clear ho hf
              go_simp
              exact hK _ _ (rfl) (Eq.refl _)
            refine And.intro ?_ ?_
            · intro a W hR hf ho K hK
              subst hR
              have F : a.tmps[48]?.getD undef = _ ∧ a.tmps[50]?.getD undef = _ ∧ a.tmps[43]?.getD undef = _ ∧ True := hf
              obtain ⟨f20, f22, f15, -⟩ := F
              clear ho hf
              go_simp
              exact hK _ _ (rfl) (Eq.refl _)
            refine And.intro ?_ ?_
            · intro a W hR hf ho K hK
              subst hR
              have F : a.tmps[51]?.getD undef = _ ∧ a.tmps[43]?.getD undef = _ ∧ True := hf
              obtain ⟨f23, f15, -⟩ := F
              clear ho hf
              go_simp
              exact hK _ _ (rfl) (Eq.refl _)
            refine And.intro ?_ ?_
            · intro a W hR hf ho K hK
              subst hR
              have F : a.tmps[47]?.getD undef = _ ∧ a.tmps[52]?.getD undef = _ ∧ a.tmps[43]?.getD undef = _ ∧ True := hf
              obtain ⟨f19, f24, f15, -⟩ := F
              clear ho hf
              go_simp
              exact hK _ _ (rfl) (Eq.refl _)
            refine And.intro ?_ ?_
            · intro a W hR hf ho K hK
              subst hR
              have F : a.tmps[43]?.getD undef = _ ∧ a.tmps[53]?.getD undef = _ ∧ a.tmps[40]?.getD undef = _ ∧ True := hf
              obtain ⟨f15, f25, f12, -⟩ := F
              clear ho hf
              go_simp
              exact hK _ _ (rfl) (Eq.refl _)
            refine And.intro ?_ ?_
            · intro a W hR hf ho K hK
              subst hR
              have F : a.tmps[40]?.getD undef = _ ∧ a.tmps[54]?.getD undef = _ ∧ True := hf
              obtain ⟨f12, f26, -⟩ := F
              clear ho hf
              go_simp
              exact hK _ _ (rfl) (Eq.refl _)
            exact trivial
          case stab =>
            refine And.intro is_stable ?_
            refine And.intro is_stable ?_
            refine And.intro is_stable ?_
            refine And.intro is_stable ?_
            refine And.intro is_stable ?_
            refine And.intro is_stable ?_
            refine And.intro is_stable ?_
            refine And.intro is_stable ?_
            refine And.intro is_stable ?_
            refine And.intro is_stable ?_
            refine And.intro is_stable ?_
            refine And.intro is_stable ?_
            refine And.intro is_stable ?_
            refine And.intro is_stable ?_
            refine And.intro is_stable ?_
            refine And.intro is_stable ?_
            refine And.intro is_stable ?_
            refine And.intro is_stable ?_
            refine And.intro is_stable ?_
            refine And.intro is_stable ?_
            refine And.intro is_stable ?_
            refine And.intro is_stable ?_
            refine And.intro is_stable ?_
            refine And.intro is_stable ?_
            refine And.intro is_stable ?_
            refine And.intro is_stable ?_
            refine And.intro is_stable ?_
            refine And.intro is_stable ?_
            exact trivial
          case ends =>
            intro vals W hR hall
            subst hR
            have e55 : vals 55 = _ := hall 27 (by decide)
            clear hall
            simp only [fill, List.setIfInBounds_toArray, List.set_cons_succ, List.set_cons_zero, e55]
            cases b
            · by_cases he : x = t
              · have hq : (x == t) = true := beq_iff_eq.2 he
                clear he
                go_wp2_with fail
                exact ⟨⟨j + 1 + 1, by omega, by rw [HT.out, hq]; rfl, by rfl, Lib.hid (by repeat first | (with_reducible exact Below.refl _ _) | (with_reducible apply Ext.alloc) | (with_reducible apply Ext.drew) | (with_reducible apply Ext.drewN) | (with_reducible refine Ext.set ?_ (by simp)) | (with_reducible refine Ext.then ?_ hE.out))⟩, by simp [intOf]; omega⟩
              · have hq : (x == t) = false := beq_eq_false_iff_ne.2 he
                clear he
                go_wp2_with fail
                exact ⟨⟨j + 1 + 1, by omega, by rw [HT.out, hq]; rfl, by rfl, Lib.hid (by repeat first | (with_reducible exact Below.refl _ _) | (with_reducible apply Ext.alloc) | (with_reducible apply Ext.drew) | (with_reducible apply Ext.drewN) | (with_reducible refine Ext.set ?_ (by simp)) | (with_reducible refine Ext.then ?_ hE.out))⟩, by simp [intOf]; omega⟩
            · go_wp2_with fail
              exact ⟨⟨j + 1 + 1, by omega, by rw [HT.out]; rfl, by rfl, Lib.hid (by repeat first | (with_reducible exact Below.refl _ _) | (with_reducible apply Ext.alloc) | (with_reducible apply Ext.drew) | (with_reducible apply Ext.drewN) | (with_reducible refine Ext.set ?_ (by simp)) | (with_reducible refine Ext.then ?_ hE.out))⟩, by simp [intOf]; omega⟩
      · obtain rfl : k = ts.length := by omega
        rw [List.take_length]
        by_cases ht : 2 ≤ t
        · have HB2 := HB.out ht
          have d1 : decide (t < 2) = false := decide_eq_false (by omega)
          obtain ⟨r, hr⟩ : ∃ r, r = decide (t ∈ ts) := ⟨_, rfl⟩
          rw [← hr] at HB2 ⊢
          clear hr
          have HH := Lib.hid HB2
          have hwc : CapWf (byC t) := ⟨by unfold i64ok'; exact ⟨by show _ ≤ t; omega, by show t ≤ _; omega⟩, by unfold i64ok'; exact ⟨by show _ ≤ t + 1; omega, by show t + 1 ≤ _; omega⟩, by unfold i64ok'; exact ⟨by show _ ≤ t; omega, by show t ≤ _; omega⟩, by unfold i64ok'; exact ⟨by show _ ≤ (32 : Int); omega, by show (32 : Int) ≤ _; omega⟩, by unfold i64ok'; exact ⟨by show _ ≤ (0 : Int); omega, by show (0 : Int) ≤ _; omega⟩⟩
          clear HB2
          go_wp2_with fail
          refine (has_set (byC t) (S3.out.ext (Ext.then hE.out (by repeat first | (with_reducible exact Below.refl _ _) | (with_reducible apply Ext.alloc) | (with_reducible apply Ext.drew) | (with_reducible apply Ext.drewN) | (with_reducible refine Ext.set ?_ (by simp))))) (by omega) hw hwc).mono ?_
          rintro e w5 ⟨rfl, hE5⟩
          rw [HH.out]
          have E5 := Lib.hid hE5
          clear hE5
          cases r
          all_goals
            go_wp2_with fail
            go_ret
            exact ⟨rfl, (E3.out.then hE.out).then (Ext.then (by repeat first | (with_reducible exact Below.refl _ _) | (with_reducible apply Ext.alloc) | (with_reducible apply Ext.drew) | (with_reducible apply Ext.drewN) | (with_reducible refine Ext.set ?_ (by simp))) E5.out)⟩
        · have d1 : decide (t < 2) = true := decide_eq_true (by omega)
          go_wp2_with fail
          go_ret
          exact ⟨rfl, (E3.out.then hE.out).then (by repeat first | (with_reducible exact Below.refl _ _) | (with_reducible apply Ext.alloc) | (with_reducible apply Ext.drew) | (with_reducible apply Ext.drewN) | (with_reducible refine Ext.set ?_ (by simp)))⟩
end Go.Proofs.Ytalndcjbnedigaa

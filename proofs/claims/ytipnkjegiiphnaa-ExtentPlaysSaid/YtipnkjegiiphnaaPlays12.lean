/- ExtentPlays: its walk. -/
import Derived.Test.YtipnkjegiiphnaaRef12D
import Derived.Test.YtipnkjegiiphnaaOpenOps
set_option linter.all false
namespace Go.Proofs.Ytipnkjegiiphnaa
open Go.RowKit

structure Both (w0 W : World) (p : Nat) (a b : Int) (v : Value) (B : Nat) (R : List Run) (q g : Nat) (F : List Bool) : Prop where
  f : FreeAt W p a b v B R
  r : RefAt W q a g F
  e : Ext w0 W
  b1 : w0.heap.size ≤ B
  q1 : w0.heap.size ≤ q
  g1 : w0.heap.size ≤ g
section
variable {w0 W W' : World} {p : Nat} {a b : Int} {v : Value} {B : Nat} {R : List Run} {q g : Nat} {F : List Bool}
theorem Both.ext (h : Both w0 W p a b v B R q g F) (he : Ext W W') : Both w0 W' p a b v B R q g F := ⟨h.f.ext he, h.r.ext he, h.e.then he, h.b1, h.q1, h.g1⟩
theorem Both.turnF (h : Both w0 W p a b v B R q g F) {v' : Value} {S : List Run} (hF : FreeAt W' p a b v' B S) (K : Kept p v.ownBlock W W') : Both w0 W' p a b v' B S q g F := by
  have hpq : q ≠ p := by
    rintro rfl
    have := h.r.blk
    rw [h.f.blk] at this
    simp at this
  have hpg : g ≠ p := by
    rintro rfl
    have := h.r.row
    rw [h.f.blk] at this
    simp at this
  have hvq : some q ≠ v.ownBlock := fun e => by
    obtain ⟨C, hC⟩ := row_block h.f.row e.symm
    rw [h.r.blk] at hC
    simp at hC
  have hvg : some g ≠ v.ownBlock := fun e => by
    obtain ⟨C, hC⟩ := row_block h.f.row e.symm
    rw [h.r.row] at hC
    simp at hC
  exact ⟨hF, ⟨(K.block q h.r.lt.1 hpq hvq).trans h.r.blk, (K.block g h.r.lt.2 hpg hvg).trans h.r.row⟩, Below.trans h.e (free_below h.f K h.b1), h.b1, h.q1, h.g1⟩
theorem Both.turnR (h : Both w0 W p a b v B R q g F) {F' : List Bool} (hA : RefAt W' q a g F') (K : Kept g none W W') : Both w0 W' p a b v B R q g F' := by
  have hpg : p ≠ g := by
    rintro rfl
    have := h.r.row
    rw [h.f.blk] at this
    simp at this
  have hvg : v.ownBlock ≠ some g := fun e => by
    obtain ⟨C, hC⟩ := row_block h.f.row e
    rw [h.r.row] at hC
    simp at hC
  refine ⟨⟨(K.block p h.f.lt hpg (by simp)).trans h.f.blk, row_kept K h.f.row hvg (fun _ _ => by simp), h.f.low, h.f.fine, h.f.len, h.f.ends⟩, hA, Below.trans h.e (K.below h.g1 (fun _ e => by cases e) h.e.size), h.b1, h.q1, h.g1⟩
theorem take_f (h : Both w0 W p a b v B R q g F) (n : Int) :
    Calls Try.prog 11 #[.pointer (some ⟨p, 0, none⟩), .int .i64 n] W fun e w' => e = .returned (.tuple #[.int .i64 (takeR R n).2.1, .bool (takeR R n).2.2]) ∧ ∃ v', Both w0 w' p a b v' B (takeR R n).1 q g F := by
  refine (take_any p a b v _ R n W h.f).mono ?_
  intro e w' hg
  unfold TakePost at hg
  obtain ⟨rfl, v', hF, K, O⟩ := hg
  exact ⟨rfl, v', h.turnF hF K⟩
theorem give_f (h : Both w0 W p a b v B R q g F) (hW : WF a b R) (z k : Int) :
    Calls Try.prog 13 #[.pointer (some ⟨p, 0, none⟩), .int .i64 z, .int .i64 k] W fun e w' => e = .returned (.bool (giveR a b R z k).2) ∧ ∃ v', Both w0 w' p a b v' B (giveR a b R z k).1 q g F := by
  refine (give_any p a b v _ R z k W h.f (give_len hW h.f.ends.2.1 h.f.ends.1 h.f.ends.2.2 _ _)).mono ?_
  intro e w' hg
  unfold GivePost at hg
  obtain ⟨rfl, v', hF, K, O⟩ := hg
  exact ⟨rfl, v', h.turnF hF K⟩
theorem take_r {S : List Run} (h : Both w0 W p a b v B S q g F) (hR : Rep a F R) (hb : b = a + 16 * F.length) (n : Int) (hn : -9223372036854775808 ≤ n ∧ n ≤ 9223372036854775807) :
    Calls Try.prog 12 #[.pointer (some ⟨q, 0, none⟩), .int .i64 n] W fun e w' => e = .returned (.tuple #[.int .i64 (takeR R n).2.1, .bool (takeR R n).2.2]) ∧ ∃ F', Both w0 w' p a b v B S q g F' ∧ Rep a F' (takeR R n).1 ∧ b = a + 16 * F'.length := by
  refine (ref_take q a g F R n W h.r hR h.f.ends.1 (by rw [← hb]; exact h.f.ends.2.2) hn).mono ?_
  intro e w' hg
  unfold RefTake at hg
  obtain ⟨rfl, F', hA, hR', hl, K⟩ := hg
  exact ⟨rfl, F', h.turnR hA K, hR', by rw [hl]; exact hb⟩
theorem give_r {S : List Run} (h : Both w0 W p a b v B S q g F) (hR : Rep a F R) (hb : b = a + 16 * F.length) (z n : Int) (hz : -9223372036854775808 ≤ z ∧ z ≤ 9223372036854775807) (hn : -9223372036854775808 ≤ n ∧ n ≤ 9223372036854775807) :
    Calls Try.prog 14 #[.pointer (some ⟨q, 0, none⟩), .int .i64 z, .int .i64 n] W fun e w' => e = .returned (.bool (giveR a b R z n).2) ∧ ∃ F', Both w0 w' p a b v B S q g F' ∧ Rep a F' (giveR a b R z n).1 ∧ b = a + 16 * F'.length := by
  refine (ref_give q a g F R z n W h.r hR h.f.ends.1 (by rw [← hb]; exact h.f.ends.2.2) hz hn).mono ?_
  intro e w' hg
  unfold RefGive at hg
  rw [← hb] at hg
  obtain ⟨rfl, F', hA, hR', hl, K⟩ := hg
  exact ⟨rfl, F', h.turnR hA K, hR', by rw [hl]; exact hb⟩
end

attribute [local go_sem] seen dstOf boolOf
set_option maxHeartbeats 4000000 in
set_option maxRecDepth 20000 in
theorem plays_main (a b : Int) (A : Option Addr) (c : Nat) (l : List Op12) (w : World) (h : Arr w A (opCells l)) (hmb : mayBe a b) (hb : b ≤ 20000) (hwf : ∀ x ∈ l, OpWf x) (hl : l.length ≤ 200) :
    Calls Try.prog 3 #[.int .i64 a, .int .i64 b, .slice A l.length c] w fun e w' => e = .returned (.bool true) ∧ Ext w w' := by
  have hg1 : decide (b > 20000) = false := decide_eq_false (by omega)
  have hg2 : decide ((l.length : Int) > 200) = false := decide_eq_false (by omega)
  go_enter Try.func3, Try.ntmps3
  go_wp2_with fail
  refine (head_any _).mono ?_
  rintro e w1 ⟨rfl, b1⟩
  go_wp2_with fail
  refine (new_yes a b _ hmb).mono ?_
  rintro e w2 ⟨b2, p, v, rfl, hF⟩
  have s1 := b1.size
  have E2 : Ext w w2 := b1.then b2
  clear b1 b2
  go_wp2_with fail
  refine (ref_yes a b _ hmb).mono ?_
  rintro e w3 ⟨b3, q, g, F, rfl, hA, hR, hbe, hq, hgg⟩
  have P3 : Both w w3 p a b v w1.heap.size (startR a b) q g F := ⟨hF.ext b3, hA, E2.then b3, s1, Nat.le_trans E2.size hq, Nat.le_trans E2.size hgg⟩
  have HBE := Lib.hid hbe
  have HR := Lib.hid hR
  clear b3 E2 hF hA hbe hR hq hgg s1
  go_wp2_with fail
  go_loopw [10] (fun i wr => ∃ (j : Nat) (v : Value) (R : List Run) (F : List Bool), j ≤ l.length ∧ i = .int .i64 (j : Int) ∧ Both w wr p a b v w1.heap.size R q g F ∧ Hid (Rep a F R) ∧ Hid (b = a + 16 * F.length)) (fun i _ => l.length - (intOf i).toNat)
  case atStart => exact ⟨0, v, _, F, Nat.zero_le _, rfl, P3, HR, HBE⟩
  case round =>
    clear P3 HBE HR
    obtain ⟨j, v, R, F, hj, rfl, hP, HR, HBE⟩ := hrel
    by_cases hlt : j < l.length
    · obtain ⟨b1, o1, rfl, -, q1⟩ := h.flat (s := 3) (fun _ => rfl) (by decide) hlt
      obtain ⟨wf0, wf1, wf2⟩ := hwf l[j] (List.getElem_mem hlt)
      have bT := bounds_i64 wf1
      have bN := bounds_i64 wf2
      obtain ⟨X, hX⟩ : ∃ X, X = l[j] := ⟨_, rfl⟩
      have q0 := q1 0 _ rfl
      have q2 := q1 1 _ rfl
      have q3 := q1 2 _ rfl
      rw [← hX] at q0 q2 q3 bT bN
      clear hX wf0 wf1 wf2 q1
      have q0' : w.cell? ⟨b1, o1 + j * 3, none⟩ = some (.int .i64 X.what) := by simpa using q0
      have Q := Lib.hid (And.intro q0' (And.intro q2 q3))
      clear q0 q0' q2 q3
      have x0 := ext_cell hP.e _ _ Q.out.1
      have x1 := ext_cell hP.e _ _ Q.out.2.1
      have x2 := ext_cell hP.e _ _ Q.out.2.2
      go_upto_if 57 with fail
      go_cut [11, 12] (fun is it wx => ∃ (v : Value) (R : List Run) (F : List Bool) (r : Bool), is = .bool r ∧ it = .bool r ∧ Both w wx p a b v w1.heap.size R q g F ∧ Hid (Rep a F R) ∧ Hid (b = a + 16 * F.length))
      case first =>
        by_cases hd : X.what < 3
        · have hd' : decide (X.what < 3) = true := decide_eq_true hd
          have T1 := Lib.hid (take_f hP X.n)
          go_wp2_with fail
          refine T1.out.mono ?_
          rintro e w4 ⟨rfl, v4, P4⟩
          have y2 := ext_cell P4.e _ _ Q.out.2.2
          have T2 := Lib.hid (take_r P4 HR.out HBE.out X.n ⟨by omega, by omega⟩)
          clear T1 hP
          go_wp2_with fail
          refine T2.out.mono ?_
          rintro e w5 ⟨rfl, F5, P5, hR5, hb5⟩
          have HX5 := Lib.hid (And.intro hR5 hb5)
          clear T2 P4 hR5 hb5 HR HBE
          generalize takeR R X.n = Y at *
          obtain ⟨R', at', is⟩ := Y
          simp only at *
          cases is <;> (go_wp2_with fail; go_meet; exact ⟨v4, R', F5, _, rfl, rfl, P5, Lib.hid HX5.out.1, Lib.hid HX5.out.2⟩)
        · have hd' : decide (X.what < 3) = false := decide_eq_false hd
          have C1 := Lib.hid fun W (hw : Ext wr W) => give_f (hP.ext hw) (by rw [HBE.out]; exact HR.out.wf) X.at' X.n
          go_wp2_with fail
          refine wp_region_stage (fun _ _ : World => True) [11] [(fun (_ : Nat → Value) (W : World) => Ext wr W), (fun (_ : Nat → Value) (W : World) => ∃ v4, Both w W p a b v4 w1.heap.size (giveR a b R X.at' X.n).1 q g F)] [85, 86, 87, 88, 89, 90, 91, 92, 93, 94, 95, 96, 11] (by kernel_rfl) (fun _ => trivial) (fun _ _ _ _ _ => trivial) (by kernel_rfl) (by kernel_rfl) (by kernel_rfl) ?start ?_
          case start => show Ext wr wr.drew; exact (by repeat first | (with_reducible exact Below.refl _ _) | (with_reducible apply Ext.alloc) | (with_reducible apply Ext.drew) | (with_reducible apply Ext.drewN) | (with_reducible refine Ext.set ?_ (by simp)))
          apply ex_is; apply Exists.intro
          apply ex_is; apply Exists.intro
          apply ex_is; apply Exists.intro
          apply ex_is; apply Exists.intro
          apply ex_is; apply Exists.intro
          apply ex_is; apply Exists.intro
          apply ex_is; apply Exists.intro
          apply ex_is; apply Exists.intro
          apply ex_is; apply Exists.intro
          apply ex_is; apply Exists.intro
          apply ex_is; apply Exists.intro
          apply ex_is; apply Exists.intro
          apply ex_is; apply Exists.intro
          refine ⟨[], ⟨?steps, ?stab, ?ends⟩⟩
          case steps =>
            refine And.intro (stepC_pure (fun _ => trivial) (by kernel_rfl) ?_) ?_
            · intro act W hR hf ho K hK
              have G : act.tmps[8]?.getD undef = _ ∧ True := ho
              obtain ⟨g8, -⟩ := G
              clear ho hf
              go_simp
              exact hK _ (Eq.refl _)
            refine And.intro (stepC_pure (fun _ => trivial) (by kernel_rfl) ?_) ?_
            · intro act W hR hf ho K hK
              have G : act.tmps[2]?.getD undef = _ ∧ True := ho
              obtain ⟨g2, -⟩ := G
              clear ho hf
              go_simp
              exact hK _ (Eq.refl _)
            refine And.intro (stepC_pure (fun _ => trivial) (by kernel_rfl) ?_) ?_
            · intro act W hR hf ho K hK
              have G : act.tmps[10]?.getD undef = _ ∧ True := ho
              obtain ⟨g10, -⟩ := G
              clear ho hf
              go_simp
              exact hK _ (Eq.refl _)
            refine And.intro (stepC_pure (fun _ => trivial) (by kernel_rfl) ?_) ?_
            · intro act W hR hf ho K hK
              have F : act.tmps[86]?.getD undef = _ ∧ act.tmps[87]?.getD undef = _ ∧ True := hf
              obtain ⟨f1, f2, -⟩ := F
              clear ho hf
              go_simp
              exact hK _ (Eq.refl _)
            refine And.intro (stepC_pure (fun _ => trivial) (by kernel_rfl) ?_) ?_
            · intro act W hR hf ho K hK
              have F : act.tmps[88]?.getD undef = _ ∧ True := hf
              obtain ⟨f3, -⟩ := F
              clear ho hf
              go_simp
              exact hK _ (Eq.refl _)
            refine And.intro (stepC_stay (pss := []) (by kernel_rfl) rfl 0 [] [5] (by kernel_rfl) (by kernel_rfl) ?_) ?_
            · intro act W uu hu hR hS hf ho K hK
              replace hS : (fun (_ : Nat → Value) (W : World) => Ext wr W) uu W := hS
              replace hK := fun (v : Value) (w' : World) (h1 : (fun _ _ : World => True) W w') h2 (h3 : (fun (_ : Nat → Value) (W : World) => Ext wr W) uu w') => hK v w' h1 h2 h3
              have F : act.tmps[89]?.getD undef = _ ∧ True := hf
              obtain ⟨f4, -⟩ := F
              clear hu
              clear ho hf
              have c0 := ext_cell hS _ _ x1; have c1 := ext_cell hS _ _ x2
              go_simp
              exact hK _ _ (trivial) (Eq.refl _) hS
            refine And.intro (stepC_pure (fun _ => trivial) (by kernel_rfl) ?_) ?_
            · intro act W hR hf ho K hK
              have G : act.tmps[2]?.getD undef = _ ∧ True := ho
              obtain ⟨g2, -⟩ := G
              clear ho hf
              go_simp
              exact hK _ (Eq.refl _)
            refine And.intro (stepC_pure (fun _ => trivial) (by kernel_rfl) ?_) ?_
            · intro act W hR hf ho K hK
              have G : act.tmps[10]?.getD undef = _ ∧ True := ho
              obtain ⟨g10, -⟩ := G
              clear ho hf
              go_simp
              exact hK _ (Eq.refl _)
            refine And.intro (stepC_pure (fun _ => trivial) (by kernel_rfl) ?_) ?_
            · intro act W hR hf ho K hK
              have F : act.tmps[91]?.getD undef = _ ∧ act.tmps[92]?.getD undef = _ ∧ True := hf
              obtain ⟨f6, f7, -⟩ := F
              clear ho hf
              go_simp
              exact hK _ (Eq.refl _)
            refine And.intro (stepC_pure (fun _ => trivial) (by kernel_rfl) ?_) ?_
            · intro act W hR hf ho K hK
              have F : act.tmps[93]?.getD undef = _ ∧ True := hf
              obtain ⟨f8, -⟩ := F
              clear ho hf
              go_simp
              exact hK _ (Eq.refl _)
            refine And.intro (stepC_stay (pss := []) (by kernel_rfl) rfl 0 [] [10] (by kernel_rfl) (by kernel_rfl) ?_) ?_
            · intro act W uu hu hR hS hf ho K hK
              replace hS : (fun (_ : Nat → Value) (W : World) => Ext wr W) uu W := hS
              replace hK := fun (v : Value) (w' : World) (h1 : (fun _ _ : World => True) W w') h2 (h3 : (fun (_ : Nat → Value) (W : World) => Ext wr W) uu w') => hK v w' h1 h2 h3
              have F : act.tmps[94]?.getD undef = _ ∧ True := hf
              obtain ⟨f9, -⟩ := F
              clear hu
              clear ho hf
              have c0 := ext_cell hS _ _ x1; have c1 := ext_cell hS _ _ x2
              go_simp
              exact hK _ _ (trivial) (Eq.refl _) hS
            refine And.intro (stepC_mark (pss := []) (by kernel_rfl) (by decide) rfl 0 [] (by kernel_rfl) rfl ?_) ?_
            · intro act W uu hu hR hS hf ho K hK
              replace hS : (fun (_ : Nat → Value) (W : World) => Ext wr W) uu W := hS
              replace hK := fun (v : Value) (w' : World) (h1 : (fun _ _ : World => True) W w') h2 (h3 : (fun (_ : Nat → Value) (W : World) => ∃ v4, Both w W p a b v4 w1.heap.size (giveR a b R X.at' X.n).1 q g F) (upd uu 11 v) w') => hK v w' h1 h2 h3
              have F : act.tmps[85]?.getD undef = _ ∧ act.tmps[90]?.getD undef = _ ∧ act.tmps[95]?.getD undef = _ ∧ True := hf
              obtain ⟨f0, f5, f10, -⟩ := F
              clear hu
              clear ho hf
              go_simp
              refine (C1.out W hS).mono ?_; rintro e W1 ⟨rfl, v4, P4⟩; exact hK _ _ trivial (Eq.refl _) ⟨v4, P4⟩
            refine And.intro (stepC_pure (fun _ => trivial) (by kernel_rfl) ?_) ?_
            · intro act W hR hf ho K hK
              have F : act.tmps[96]?.getD undef = _ ∧ act.tmps[96]?.getD undef = _ ∧ act.tmps[85]?.getD undef = _ ∧ act.tmps[86]?.getD undef = _ ∧ act.tmps[87]?.getD undef = _ ∧ act.tmps[88]?.getD undef = _ ∧ act.tmps[89]?.getD undef = _ ∧ act.tmps[90]?.getD undef = _ ∧ act.tmps[91]?.getD undef = _ ∧ act.tmps[92]?.getD undef = _ ∧ act.tmps[93]?.getD undef = _ ∧ act.tmps[94]?.getD undef = _ ∧ act.tmps[95]?.getD undef = _ ∧ act.tmps[96]?.getD undef = _ ∧ True := hf
              obtain ⟨f11, -, f0, f1, f2, f3, f4, f5, f6, f7, f8, f9, f10, -, -⟩ := F
              clear ho hf
              go_simp
              exact hK _ (Eq.refl _)
            exact trivial
          case stab =>
            refine And.intro is_stable ?_
            refine And.intro is_stable ?_
            refine And.intro is_stable ?_
            refine And.intro is_stable ?_
            refine And.intro is_stable ?_
            refine And.intro is_stable ?_
            refine And.intro is_stable ?_
            refine And.intro is_stable ?_
            refine And.intro is_stable ?_
            refine And.intro is_stable ?_
            refine And.intro is_stable ?_
            refine And.intro is_stable ?_
            refine And.intro is_stable ?_
            exact trivial
          case ends =>
            intro vals W uu hu hR hS hall
            replace hS : (fun (_ : Nat → Value) (W : World) => ∃ v4, Both w W p a b v4 w1.heap.size (giveR a b R X.at' X.n).1 q g F) uu W := hS
            clear hu
            have e11 : vals 11 = _ := hall 12 (by decide)
            clear hall
            simp only [fill, List.setIfInBounds_toArray, List.set_cons_succ, List.set_cons_zero, e11]
            obtain ⟨v4, P4⟩ := hS
            obtain ⟨wg, rfl⟩ : ∃ wg, wg = W := ⟨_, rfl⟩
            have y1 := ext_cell P4.e _ _ Q.out.2.1
            have y2 := ext_cell P4.e _ _ Q.out.2.2
            have C2 := Lib.hid fun W (hw : Ext wg W) => give_r (P4.ext hw) HR.out HBE.out X.at' X.n ⟨by omega, by omega⟩ ⟨by omega, by omega⟩
            clear C1 x0 x1 x2
            go_wp2_with fail
            refine wp_region_stage (fun _ _ : World => True) [11] [(fun (_ : Nat → Value) (W : World) => Ext wg W), (fun (_ : Nat → Value) (W : World) => ∃ F5, Both w W p a b v4 w1.heap.size (giveR a b R X.at' X.n).1 q g F5 ∧ Hid (Rep a F5 (giveR a b R X.at' X.n).1) ∧ Hid (b = a + 16 * F5.length))] [97, 98, 99, 100, 101, 102, 103, 104, 105, 106, 107, 108, 12] (by kernel_rfl) (fun _ => trivial) (fun _ _ _ _ _ => trivial) (by kernel_rfl) (by kernel_rfl) (by kernel_rfl) ?start ?_
            case start => show Ext wg wg.drew; exact (by repeat first | (with_reducible exact Below.refl _ _) | (with_reducible apply Ext.alloc) | (with_reducible apply Ext.drew) | (with_reducible apply Ext.drewN) | (with_reducible refine Ext.set ?_ (by simp)))
            apply ex_is; apply Exists.intro
            apply ex_is; apply Exists.intro
            apply ex_is; apply Exists.intro
            apply ex_is; apply Exists.intro
            apply ex_is; apply Exists.intro
            apply ex_is; apply Exists.intro
            apply ex_is; apply Exists.intro
            apply ex_is; apply Exists.intro
            apply ex_is; apply Exists.intro
            apply ex_is; apply Exists.intro
            apply ex_is; apply Exists.intro
            apply ex_is; apply Exists.intro
            apply ex_is; apply Exists.intro
            refine ⟨[], ⟨?steps, ?stab, ?ends⟩⟩
            case steps =>
              refine And.intro (stepC_pure (fun _ => trivial) (by kernel_rfl) ?_) ?_
              · intro act W hR hf ho K hK
                have G : act.tmps[9]?.getD undef = _ ∧ True := ho
                obtain ⟨g9, -⟩ := G
                clear ho hf
                go_simp
                exact hK _ (Eq.refl _)
              refine And.intro (stepC_pure (fun _ => trivial) (by kernel_rfl) ?_) ?_
              · intro act W hR hf ho K hK
                have G : act.tmps[2]?.getD undef = _ ∧ True := ho
                obtain ⟨g2, -⟩ := G
                clear ho hf
                go_simp
                exact hK _ (Eq.refl _)
              refine And.intro (stepC_pure (fun _ => trivial) (by kernel_rfl) ?_) ?_
              · intro act W hR hf ho K hK
                have G : act.tmps[10]?.getD undef = _ ∧ True := ho
                obtain ⟨g10, -⟩ := G
                clear ho hf
                go_simp
                exact hK _ (Eq.refl _)
              refine And.intro (stepC_pure (fun _ => trivial) (by kernel_rfl) ?_) ?_
              · intro act W hR hf ho K hK
                have F : act.tmps[98]?.getD undef = _ ∧ act.tmps[99]?.getD undef = _ ∧ True := hf
                obtain ⟨f1, f2, -⟩ := F
                clear ho hf
                go_simp
                exact hK _ (Eq.refl _)
              refine And.intro (stepC_pure (fun _ => trivial) (by kernel_rfl) ?_) ?_
              · intro act W hR hf ho K hK
                have F : act.tmps[100]?.getD undef = _ ∧ True := hf
                obtain ⟨f3, -⟩ := F
                clear ho hf
                go_simp
                exact hK _ (Eq.refl _)
              refine And.intro (stepC_stay (pss := []) (by kernel_rfl) rfl 0 [] [5] (by kernel_rfl) (by kernel_rfl) ?_) ?_
              · intro act W uu hu hR hS hf ho K hK
                replace hS : (fun (_ : Nat → Value) (W : World) => Ext wg W) uu W := hS
                replace hK := fun (v : Value) (w' : World) (h1 : (fun _ _ : World => True) W w') h2 (h3 : (fun (_ : Nat → Value) (W : World) => Ext wg W) uu w') => hK v w' h1 h2 h3
                have F : act.tmps[101]?.getD undef = _ ∧ True := hf
                obtain ⟨f4, -⟩ := F
                clear hu
                clear ho hf
                have c0 := ext_cell hS _ _ y1; have c1 := ext_cell hS _ _ y2
                go_simp
                exact hK _ _ (trivial) (Eq.refl _) hS
              refine And.intro (stepC_pure (fun _ => trivial) (by kernel_rfl) ?_) ?_
              · intro act W hR hf ho K hK
                have G : act.tmps[2]?.getD undef = _ ∧ True := ho
                obtain ⟨g2, -⟩ := G
                clear ho hf
                go_simp
                exact hK _ (Eq.refl _)
              refine And.intro (stepC_pure (fun _ => trivial) (by kernel_rfl) ?_) ?_
              · intro act W hR hf ho K hK
                have G : act.tmps[10]?.getD undef = _ ∧ True := ho
                obtain ⟨g10, -⟩ := G
                clear ho hf
                go_simp
                exact hK _ (Eq.refl _)
              refine And.intro (stepC_pure (fun _ => trivial) (by kernel_rfl) ?_) ?_
              · intro act W hR hf ho K hK
                have F : act.tmps[103]?.getD undef = _ ∧ act.tmps[104]?.getD undef = _ ∧ True := hf
                obtain ⟨f6, f7, -⟩ := F
                clear ho hf
                go_simp
                exact hK _ (Eq.refl _)
              refine And.intro (stepC_pure (fun _ => trivial) (by kernel_rfl) ?_) ?_
              · intro act W hR hf ho K hK
                have F : act.tmps[105]?.getD undef = _ ∧ True := hf
                obtain ⟨f8, -⟩ := F
                clear ho hf
                go_simp
                exact hK _ (Eq.refl _)
              refine And.intro (stepC_stay (pss := []) (by kernel_rfl) rfl 0 [] [10] (by kernel_rfl) (by kernel_rfl) ?_) ?_
              · intro act W uu hu hR hS hf ho K hK
                replace hS : (fun (_ : Nat → Value) (W : World) => Ext wg W) uu W := hS
                replace hK := fun (v : Value) (w' : World) (h1 : (fun _ _ : World => True) W w') h2 (h3 : (fun (_ : Nat → Value) (W : World) => Ext wg W) uu w') => hK v w' h1 h2 h3
                have F : act.tmps[106]?.getD undef = _ ∧ True := hf
                obtain ⟨f9, -⟩ := F
                clear hu
                clear ho hf
                have c0 := ext_cell hS _ _ y1; have c1 := ext_cell hS _ _ y2
                go_simp
                exact hK _ _ (trivial) (Eq.refl _) hS
              refine And.intro (stepC_mark (pss := []) (by kernel_rfl) (by decide) rfl 0 [] (by kernel_rfl) rfl ?_) ?_
              · intro act W uu hu hR hS hf ho K hK
                replace hS : (fun (_ : Nat → Value) (W : World) => Ext wg W) uu W := hS
                replace hK := fun (v : Value) (w' : World) (h1 : (fun _ _ : World => True) W w') h2 (h3 : (fun (_ : Nat → Value) (W : World) => ∃ F5, Both w W p a b v4 w1.heap.size (giveR a b R X.at' X.n).1 q g F5 ∧ Hid (Rep a F5 (giveR a b R X.at' X.n).1) ∧ Hid (b = a + 16 * F5.length)) (upd uu 11 v) w') => hK v w' h1 h2 h3
                have F : act.tmps[97]?.getD undef = _ ∧ act.tmps[102]?.getD undef = _ ∧ act.tmps[107]?.getD undef = _ ∧ True := hf
                obtain ⟨f0, f5, f10, -⟩ := F
                clear hu
                clear ho hf
                go_simp
                refine (C2.out W hS).mono ?_; rintro e W1 ⟨rfl, F5, P5, hR5, hb5⟩; exact hK _ _ trivial (Eq.refl _) ⟨F5, P5, Lib.hid hR5, Lib.hid hb5⟩
              refine And.intro (stepC_pure (fun _ => trivial) (by kernel_rfl) ?_) ?_
              · intro act W hR hf ho K hK
                have F : act.tmps[108]?.getD undef = _ ∧ act.tmps[108]?.getD undef = _ ∧ act.tmps[97]?.getD undef = _ ∧ act.tmps[98]?.getD undef = _ ∧ act.tmps[99]?.getD undef = _ ∧ act.tmps[100]?.getD undef = _ ∧ act.tmps[101]?.getD undef = _ ∧ act.tmps[102]?.getD undef = _ ∧ act.tmps[103]?.getD undef = _ ∧ act.tmps[104]?.getD undef = _ ∧ act.tmps[105]?.getD undef = _ ∧ act.tmps[106]?.getD undef = _ ∧ act.tmps[107]?.getD undef = _ ∧ act.tmps[108]?.getD undef = _ ∧ True := hf
                obtain ⟨f11, -, f0, f1, f2, f3, f4, f5, f6, f7, f8, f9, f10, -, -⟩ := F
                clear ho hf
                go_simp
                exact hK _ (Eq.refl _)
              exact trivial
            case stab =>
              refine And.intro is_stable ?_
              refine And.intro is_stable ?_
              refine And.intro is_stable ?_
              refine And.intro is_stable ?_
              refine And.intro is_stable ?_
              refine And.intro is_stable ?_
              refine And.intro is_stable ?_
              refine And.intro is_stable ?_
              refine And.intro is_stable ?_
              refine And.intro is_stable ?_
              refine And.intro is_stable ?_
              refine And.intro is_stable ?_
              refine And.intro is_stable ?_
              exact trivial
            case ends =>
              intro vals W uu hu hR hS hall
              replace hS : (fun (_ : Nat → Value) (W : World) => ∃ F5, Both w W p a b v4 w1.heap.size (giveR a b R X.at' X.n).1 q g F5 ∧ Hid (Rep a F5 (giveR a b R X.at' X.n).1) ∧ Hid (b = a + 16 * F5.length)) uu W := hS
              clear hu
              have e12 : vals 12 = _ := hall 12 (by decide)
              clear hall
              simp only [fill, List.setIfInBounds_toArray, List.set_cons_succ, List.set_cons_zero, e12]
              obtain ⟨F5, P5, HR5, HB5⟩ := hS
              go_wp2_with fail
              go_meet
              exact ⟨v4, _, F5, _, rfl, rfl, P5, HR5, HB5⟩
      case rest =>
        clear x0 x1 x2 hP HR HBE v R F
        obtain ⟨v, R, F, r, rfl, rfl, hP, HR, HBE⟩ := hcut
        have ha0 := hP.f.ends.1
        have hbm := hP.f.ends.2.2
        have hF6 : F.length ≤ 1100000 := by have := HBE.out; omega
        have hab : a + 16 * F.length ≤ 16777216 := by have := HBE.out; omega
        cases r <;>
        · go_wp2_with fail
          refine (all_free _ _ _ _ _ _ _ hP.f).mono ?_
          rintro e w4 ⟨rfl, e4⟩
          have P4 := hP.ext e4
          go_wp2_with fail
          refine (ref_all q a g F R _ P4.r HR.out hF6).mono ?_
          rintro e w5 ⟨rfl, e5⟩
          have P5 := P4.ext e5
          go_wp2_with fail
          refine (most_free _ _ _ _ _ _ _ P5.f).mono ?_
          rintro e w6 ⟨rfl, e6⟩
          have P6 := P5.ext e6
          go_wp2_with fail
          refine (ref_most q a g F R _ P6.r HR.out ha0 hab).mono ?_
          rintro e w7 ⟨rfl, e7⟩
          have P7 := P6.ext e7
          go_wp2_with fail
          refine (runs_free _ _ _ _ _ _ _ P7.f).mono ?_
          rintro e w8 ⟨v8, rfl, ho8, e8⟩
          have P8 := P7.ext e8
          obtain ⟨A8, c8, rfl, hc8, -⟩ := Arr.own ho8
          go_wp2_with fail
          refine (ref_runs q a g F R _ P8.r HR.out ha0 hab).mono ?_
          rintro e w9 ⟨v9, rfl, ho9, e9⟩
          have P9 := P8.ext e9
          have a8 := own_arr (own_ext ho8 e9)
          obtain ⟨A9, c9, rfl, hc9, -⟩ := Arr.own ho9
          have a9 := own_arr ho9
          have hRl := P9.f.len
          clear ho8 ho9 hP P4 P5 P6 P7 P8 e4 e5 e6 e7 e8 e9
          go_wp2_with fail
          refine (same_any A8 A9 c8 c9 R R _ a8 a9 (by omega) (by omega)).mono ?_
          rintro e wa ⟨rfl, ea⟩
          rw [decide_eq_true rfl]
          have Pa := P9.ext ea
          clear P9 ea a8 a9
          go_wp2_with fail
          exact ⟨⟨j + 1, v, R, F, by omega, by simp, Pa, HR, HBE⟩, by simp [intOf]; omega⟩
    · obtain rfl : j = l.length := by omega
      go_wp2_with fail
      go_ret
      exact ⟨rfl, hP.e⟩
set_option maxHeartbeats 4000000 in
set_option maxRecDepth 20000 in
theorem plays_not (a b : Int) (A : Option Addr) (c : Nat) (l : List Op12) (w : World) (hmb : ¬ mayBe a b) (hb : b ≤ 20000) (hl : l.length ≤ 200) :
    Calls Try.prog 3 #[.int .i64 a, .int .i64 b, .slice A l.length c] w fun e w' => e = .returned (.bool true) ∧ Ext w w' := by
  have hg1 : decide (b > 20000) = false := decide_eq_false (by omega)
  have hg2 : decide ((l.length : Int) > 200) = false := decide_eq_false (by omega)
  go_enter Try.func3, Try.ntmps3
  go_wp2_with fail
  refine (head_any _).mono ?_
  rintro e w1 ⟨rfl, b1⟩
  go_wp2_with fail
  refine (new_no a b _ hmb).mono ?_
  rintro e w2 ⟨rfl, b2⟩
  go_wp2_with fail
  refine (ref_no a b _ hmb).mono ?_
  rintro e w3 ⟨rfl, b3⟩
  go_wp2_with fail
  go_ret
  exact ⟨rfl, b1.then (b2.then b3)⟩
set_option maxHeartbeats 4000000 in
set_option maxRecDepth 20000 in
theorem plays_great (a b : Int) (A : Option Addr) (c n : Nat) (w : World) (hl : 20000 < b ∨ 200 < n) (hn : n ≤ 9223372036854775807) :
    Calls Try.prog 3 #[.int .i64 a, .int .i64 b, .slice A n c] w fun e w' => e = .returned (.bool true) ∧ Ext w w' := by
  by_cases hb : 20000 < b
  · have hg1 : decide (b > 20000) = true := decide_eq_true hb
    clear hl
    go_enter Try.func3, Try.ntmps3
    go_wp2_with fail
    refine (head_any _).mono ?_
    rintro e w1 ⟨rfl, b1⟩
    go_wp2_with fail
    go_ret
    exact ⟨rfl, b1⟩
  · have hg1 : decide (b > 20000) = false := decide_eq_false (by omega)
    have hg2 : decide ((n : Int) > 200) = true := decide_eq_true (by omega)
    clear hl
    go_enter Try.func3, Try.ntmps3
    go_wp2_with fail
    refine (head_any _).mono ?_
    rintro e w1 ⟨rfl, b1⟩
    go_wp2_with fail
    go_ret
    exact ⟨rfl, b1⟩
theorem plays_any (a b : Int) (A : Option Addr) (c : Nat) (l : List Op12) (w : World) (h : Arr w A (opCells l)) (hlc : l.length ≤ c) (hcm : c ≤ maxLen) (hwf : ∀ x ∈ l, OpWf x) :
    Calls Try.prog 3 #[.int .i64 a, .int .i64 b, .slice A l.length c] w fun e w' => e = .returned (.bool true) ∧ Ext w w' := by
  by_cases hg : 20000 < b ∨ 200 < l.length
  · exact plays_great a b A c l.length w hg (by unfold maxLen at hcm; omega)
  · by_cases hmb : mayBe a b
    · exact plays_main a b A c l w h hmb (by omega) hwf (by omega)
    · exact plays_not a b A c l w hmb (by omega) (by omega)
end Go.Proofs.Ytipnkjegiiphnaa


/- Package image: within, must, comp, share, link, all. -/
import Derived.Test.YtgfnpcoigooblaaIdx17
import Derived.Test.YtgfnpcoigooblaaPhi3
set_option linter.all false
namespace Go.Proofs.Ytgfnpcoigooblaa
open Go.RowKit

attribute [local go_sem] seen dstOf boolOf
set_option maxHeartbeats 400000 in
theorem within_any (n a b : Int) (w : World) : Calls Try.prog 50 #[.int .i64 n, .int .i64 a, .int .i64 b] w fun e w' => e = .returned (.bool (inB n a b)) ∧ w = w' := by
  unfold inB
  by_cases h1 : a ≤ n
  · by_cases h2 : n ≤ b
    · have f1 : decide (n ≥ a) = true := decide_eq_true h1
      have f2 : decide (n ≤ b) = true := decide_eq_true h2
      rw [decide_eq_true (show a ≤ n ∧ n ≤ b from ⟨h1, h2⟩)]
      go_enter Try.func50, Try.ntmps50
      go_wp2_with fail
      go_ret
      exact ⟨rfl, rfl⟩
    · have f1 : decide (n ≥ a) = true := decide_eq_true h1
      have f2 : decide (n ≤ b) = false := decide_eq_false h2
      rw [decide_eq_false (show ¬ (a ≤ n ∧ n ≤ b) from fun h => h2 h.2)]
      go_enter Try.func50, Try.ntmps50
      go_wp2_with fail
      go_ret
      exact ⟨rfl, rfl⟩
  · have f1 : decide (n ≥ a) = false := decide_eq_false h1
    rw [decide_eq_false (show ¬ (a ≤ n ∧ n ≤ b) from fun h => h1 h.1)]
    go_enter Try.func50, Try.ntmps50
    go_wp2_with fail
    go_ret
    exact ⟨rfl, rfl⟩
set_option maxHeartbeats 400000 in
theorem bindex_any (A : Option Addr) (c : Nat) (l : List Bool) (v : Bool) (w : World) (hA : Arr w A (l.map Value.bool)) (hl : l.length ≤ 140737488351232) :
    Calls Try.prog 79 #[.slice A l.length c, .bool v] w fun e w' => e = .returned (.int .i64 (idxP (· == v) l)) ∧ w = w' := by
  go_enter Try.func79, Try.ntmps79
  go_wp2_with fail
  go_loop [5, 8] (fun _ i => ∃ k : Nat, k ≤ l.length ∧ i = .int .i64 (k : Int) ∧ Hid (∀ j (hj : j < l.length), j < k → (l[j] == v) = false)) (fun _ i => l.length - (intOf i).toNat)
  case atStart => exact ⟨0, Nat.zero_le _, rfl, fun j _ hj => by omega⟩
  case round =>
    obtain ⟨k, hk, rfl, hs⟩ := hrel
    by_cases hlt : k < l.length
    · obtain ⟨b1, o1, rfl, -, q1⟩ := hA.open (by simp; omega)
      obtain ⟨x, hx⟩ : ∃ x, x = l[k] := ⟨_, rfl⟩
      have x0 : w.cell? ⟨b1, o1 + k, none⟩ = some (.bool x) := by rw [hx]; have := q1 k (by simpa using hlt); rw [List.getElem_map] at this; exact this
      have HX := Lib.hid hx
      clear q1 hx
      cases he : x == v
      · have he' : (v == x) = false := by rw [← he]; exact Bool.beq_comm
        have HE := Lib.hid he
        clear he
        go_wp2_with fail
        go_round
        case rel => exact ⟨k + 1, by omega, by go_num, fun j h hj => by rcases Nat.lt_succ_iff_lt_or_eq.1 hj with hj | rfl; exact hs.out j h hj; rw [← HX.out]; exact HE.out⟩
        case measure => simp [intOf]; omega
      · have he' : (v == x) = true := by rw [← he]; exact Bool.beq_comm
        have HE := Lib.hid he
        clear he
        go_wp2_with fail
        go_ret
        exact ⟨ret_int (idxP_hit hlt (by rw [← HX.out]; exact HE.out) fun j hj h => hs.out j hj h).symm, rfl⟩
    · go_wp2_with fail
      go_ret
      exact ⟨ret_int (idxP_miss fun j hj => hs.out j hj (by omega)).symm, rfl⟩
set_option maxHeartbeats 400000 in
theorem bcontains_any (A : Option Addr) (c : Nat) (l : List Bool) (v : Bool) (w : World) (hA : Arr w A (l.map Value.bool)) (hl : l.length ≤ 140737488351232) :
    Calls Try.prog 67 #[.slice A l.length c, .bool v] w fun e w' => e = .returned (.bool (l.any (· == v))) ∧ w = w' := by
  have HC := Lib.hid (bindex_any A c l v w hA hl)
  go_enter Try.func67, Try.ntmps67
  go_wp2_with fail
  refine HC.out.mono ?_
  rintro e w2 ⟨rfl, rfl⟩
  obtain ⟨z, hz⟩ : ∃ z, z = idxP (· == v) l := ⟨_, rfl⟩
  have hd := @idxP_any _ (· == v) l
  rw [← hz] at hd ⊢
  have HD := Lib.hid hd
  clear hd hz
  go_wp2_with fail
  go_ret
  exact ⟨ret_bool (by rw [← HD.out]), rfl⟩
theorem any_not (l : List Bool) : (!(l.any (· == false))) = l.all id := by
  induction l with
  | nil => rfl
  | cons b l ih =>
    rw [List.any_cons, List.all_cons, ← ih]
    cases b <;> simp
set_option maxHeartbeats 400000 in
theorem must_any (A : Option Addr) (c : Nat) (l : List Bool) (w : World) (hA : Arr w A (l.map Value.bool)) (hl : l.length ≤ 140737488351232) :
    Calls Try.prog 49 #[.slice A l.length c] w fun e w' => e = .returned (.bool (l.all id)) ∧ w = w' := by
  have HC := Lib.hid (bcontains_any A c l false w hA hl)
  have HD := Lib.hid (any_not l)
  go_enter Try.func49, Try.ntmps49
  go_wp2_with fail
  refine HC.out.mono ?_
  rintro e w2 ⟨rfl, rfl⟩
  rw [show (l.any (· == false)) = !(l.all id) by rw [← HD.out]; simp]
  go_wp2_with fail
  go_ret
  all_goals first | exact ⟨rfl, rfl⟩ | exact ⟨ret_bool (by simp), rfl⟩
theorem arr_lit {w : World} {b : Nat} {cs : List Value} {t : TypeId} (h : w.heap[b]? = some (.cells cs.toArray t)) : Arr w (some ⟨b, 0, none⟩) cs := by
  refine .inr ⟨_, 0, rfl, fun j hj => ?_⟩
  rw [cell_of_row _ _ _ _ _ _ h]
  simp
theorem must3 (x y z : Bool) (w : World) (b : Nat) (hb : w.heap[b]? = some (.cells #[.bool x, .bool y, .bool z] 4)) : Calls Try.prog 49 #[.slice (some ⟨b, 0, none⟩) 3 3] w fun e w' => e = .returned (.bool (x && y && z)) ∧ w = w' :=
  (must_any (some ⟨b, 0, none⟩) 3 [x, y, z] w (arr_lit hb) (by simp)).mono fun e w' h => ⟨by rw [h.1]; simp [Bool.and_assoc], h.2⟩
theorem must5 (x y z u v : Bool) (w : World) (b : Nat) (hb : w.heap[b]? = some (.cells #[.bool x, .bool y, .bool z, .bool u, .bool v] 4)) : Calls Try.prog 49 #[.slice (some ⟨b, 0, none⟩) 5 5] w fun e w' => e = .returned (.bool (x && y && z && u && v)) ∧ w = w' :=
  (must_any (some ⟨b, 0, none⟩) 5 [x, y, z, u, v] w (arr_lit hb) (by simp)).mono fun e w' h => ⟨by rw [h.1]; simp [Bool.and_assoc], h.2⟩
set_option maxHeartbeats 1000000 in
set_option maxRecDepth 20000 in
theorem comp_any (x : CompM) (w : World) (hl : x.code.length ≤ 140737488351232) : Calls Try.prog 51 #[.agg #[.slice x.A x.code.length x.cap, .int .i64 x.data]] w fun e w' => e = .returned (.bool (compOk x.d)) ∧ Ext w w' := by
  have hm : ((x.code.length : Int).tmod 4 == 0) = decide (x.code.length % 4 = 0) := by
    rw [Int.tmod_eq_emod_of_nonneg (by omega), Bool.eq_iff_iff, beq_iff_eq, decide_eq_true_iff]
    omega
  have hm' : ((x.code.length : Int) % 4 == 0) = decide (x.code.length % 4 = 0) := by
    rw [Bool.eq_iff_iff, beq_iff_eq, decide_eq_true_iff]
    omega
  go_enter Try.func51, Try.ntmps51
  go_wp2_with fail
  refine wp_region_stage (fun _ _ : World => True) [8] [(fun (_ : Nat → Value) (W : World) => W = (w.alloc (.cells #[.slice x.A x.code.length x.cap, .int .i64 x.data] 53)).drew), (fun (_ : Nat → Value) (W : World) => W = ((w.alloc (.cells #[.slice x.A x.code.length x.cap, .int .i64 x.data] 53)).alloc (.cells #[.bool (inB x.code.length 4 4096), .bool (decide (x.code.length % 4 = 0)), .bool (inB x.data 1 8)] 4)).drew)] [7, 8, 9, 10, 11, 12, 13, 14, 15, 16, 2] (by kernel_rfl) (fun _ => trivial) (fun _ _ _ _ _ => trivial) (by kernel_rfl) (by kernel_rfl) (by kernel_rfl) ?start ?_
  case start => rfl
  apply ex_is; apply Exists.intro
  apply ex_is; apply Exists.intro
  apply ex_is; apply Exists.intro
  apply ex_is; apply Exists.intro
  apply ex_is; apply Exists.intro
  apply ex_is; apply Exists.intro
  apply ex_is; apply Exists.intro
  apply ex_is; apply Exists.intro
  apply ex_is; apply Exists.intro
  apply ex_is; apply Exists.intro
  apply ex_is; apply Exists.intro
  refine ⟨[], ⟨?steps, ?stab, ?ends⟩⟩
  case steps =>
    refine And.intro (stepC_pure (fun _ => trivial) (by kernel_rfl) ?_) ?_
    · intro act W hR hf ho K hK
      have G : act.tmps[3]?.getD undef = _ ∧ True := ho
      obtain ⟨g3, -⟩ := G
      clear ho hf
      go_simp
      exact hK _ (Eq.refl _)
    refine And.intro (stepC_stay (pss := []) (by kernel_rfl) rfl 0 [] [1] (by kernel_rfl) (by kernel_rfl) ?_) ?_
    · intro act W uu hu hR hS hf ho K hK
      replace hS : (fun (_ : Nat → Value) (W : World) => W = (w.alloc (.cells #[.slice x.A x.code.length x.cap, .int .i64 x.data] 53)).drew) uu W := hS
      replace hK := fun (v : Value) (w' : World) (h1 : (fun _ _ : World => True) W w') h2 (h3 : (fun (_ : Nat → Value) (W : World) => W = (w.alloc (.cells #[.slice x.A x.code.length x.cap, .int .i64 x.data] 53)).drew) uu w') => hK v w' h1 h2 h3
      have F : act.tmps[7]?.getD undef = _ ∧ True := hf
      obtain ⟨f0, -⟩ := F
      clear hu
      clear ho hf
      go_simp
      refine (within_any _ _ _ _).mono ?_; subst hS; rintro e W1 ⟨rfl, rfl⟩; exact hK _ _ trivial (Eq.refl _) rfl
    refine And.intro (stepC_pure (fun _ => trivial) (by kernel_rfl) ?_) ?_
    · intro act W hR hf ho K hK
      have G : act.tmps[3]?.getD undef = _ ∧ True := ho
      obtain ⟨g3, -⟩ := G
      clear ho hf
      go_simp
      exact hK _ (Eq.refl _)
    refine And.intro (stepC_pure (fun _ => trivial) (by kernel_rfl) ?_) ?_
    · intro act W hR hf ho K hK
      have F : act.tmps[9]?.getD undef = _ ∧ True := hf
      obtain ⟨f2, -⟩ := F
      clear ho hf
      go_simp
      exact hK _ (Eq.refl _)
    refine And.intro (stepC_pure (fun _ => trivial) (by kernel_rfl) ?_) ?_
    · intro act W hR hf ho K hK
      have F : act.tmps[10]?.getD undef = _ ∧ True := hf
      obtain ⟨f3, -⟩ := F
      clear ho hf
      go_simp
      exact hK _ (Eq.refl _)
    refine And.intro (stepC_pure (fun _ => trivial) (by kernel_rfl) ?_) ?_
    · intro act W hR hf ho K hK
      have G : act.tmps[1]?.getD undef = _ ∧ True := ho
      obtain ⟨g1, -⟩ := G
      clear ho hf
      go_simp
      exact hK _ (Eq.refl _)
    refine And.intro (stepC_stay (pss := []) (by kernel_rfl) rfl 0 [] [7, 6] (by kernel_rfl) (by kernel_rfl) ?_) ?_
    · intro act W uu hu hR hS hf ho K hK
      replace hS : (fun (_ : Nat → Value) (W : World) => W = (w.alloc (.cells #[.slice x.A x.code.length x.cap, .int .i64 x.data] 53)).drew) uu W := hS
      replace hK := fun (v : Value) (w' : World) (h1 : (fun _ _ : World => True) W w') h2 (h3 : (fun (_ : Nat → Value) (W : World) => W = (w.alloc (.cells #[.slice x.A x.code.length x.cap, .int .i64 x.data] 53)).drew) uu w') => hK v w' h1 h2 h3
      have F : act.tmps[12]?.getD undef = _ ∧ True := hf
      obtain ⟨f5, -⟩ := F
      clear hu
      clear ho hf
      obtain rfl := hS
      go_simp
      exact hK _ _ trivial (Eq.refl _) rfl
    refine And.intro (stepC_stay (pss := []) (by kernel_rfl) rfl 0 [] [7] (by kernel_rfl) (by kernel_rfl) ?_) ?_
    · intro act W uu hu hR hS hf ho K hK
      replace hS : (fun (_ : Nat → Value) (W : World) => W = (w.alloc (.cells #[.slice x.A x.code.length x.cap, .int .i64 x.data] 53)).drew) uu W := hS
      replace hK := fun (v : Value) (w' : World) (h1 : (fun _ _ : World => True) W w') h2 (h3 : (fun (_ : Nat → Value) (W : World) => W = (w.alloc (.cells #[.slice x.A x.code.length x.cap, .int .i64 x.data] 53)).drew) uu w') => hK v w' h1 h2 h3
      have F : act.tmps[13]?.getD undef = _ ∧ act.tmps[8]?.getD undef = _ ∧ True := hf
      obtain ⟨f6, f1, -⟩ := F
      clear hu
      clear ho hf
      go_simp
      refine (within_any _ _ _ _).mono ?_; subst hS; rintro e W1 ⟨rfl, rfl⟩; exact hK _ _ trivial (Eq.refl _) rfl
    refine And.intro (stepC_mark (pss := []) (by kernel_rfl) (by decide) rfl 0 [] (by kernel_rfl) rfl ?_) ?_
    · intro act W uu hu hR hS hf ho K hK
      replace hS : (fun (_ : Nat → Value) (W : World) => W = (w.alloc (.cells #[.slice x.A x.code.length x.cap, .int .i64 x.data] 53)).drew) uu W := hS
      replace hK := fun (v : Value) (w' : World) (h1 : (fun _ _ : World => True) W w') h2 (h3 : (fun (_ : Nat → Value) (W : World) => W = ((w.alloc (.cells #[.slice x.A x.code.length x.cap, .int .i64 x.data] 53)).alloc (.cells #[.bool (inB x.code.length 4 4096), .bool (decide (x.code.length % 4 = 0)), .bool (inB x.data 1 8)] 4)).drew) (upd uu 8 v) w') => hK v w' h1 h2 h3
      have F : act.tmps[8]?.getD undef = _ ∧ act.tmps[11]?.getD undef = _ ∧ act.tmps[14]?.getD undef = _ ∧ True := hf
      obtain ⟨f1, f4, f7, -⟩ := F
      clear hu
      clear ho hf
      go_simp
      subst hS; exact hK _ _ trivial (Eq.refl _) rfl
    refine And.intro (stepC_stay (pss := []) (by kernel_rfl) rfl 1 [8] [] (by kernel_rfl) (by kernel_rfl) ?_) ?_
    · intro act W uu hu hR hS hf ho K hK
      replace hS : (fun (_ : Nat → Value) (W : World) => W = ((w.alloc (.cells #[.slice x.A x.code.length x.cap, .int .i64 x.data] 53)).alloc (.cells #[.bool (inB x.code.length 4 4096), .bool (decide (x.code.length % 4 = 0)), .bool (inB x.data 1 8)] 4)).drew) uu W := hS
      replace hK := fun (v : Value) (w' : World) (h1 : (fun _ _ : World => True) W w') h2 (h3 : (fun (_ : Nat → Value) (W : World) => W = ((w.alloc (.cells #[.slice x.A x.code.length x.cap, .int .i64 x.data] 53)).alloc (.cells #[.bool (inB x.code.length 4 4096), .bool (decide (x.code.length % 4 = 0)), .bool (inB x.data 1 8)] 4)).drew) uu w') => hK v w' h1 h2 h3
      have F : act.tmps[15]?.getD undef = _ ∧ act.tmps[14]?.getD undef = _ ∧ True := hf
      obtain ⟨f8, f7, -⟩ := F
      clear hu
      clear ho hf
      go_simp
      subst hS; refine (must3 _ _ _ _ _ (new_at (w := w.alloc (.cells #[.slice x.A x.code.length x.cap, .int .i64 x.data] 53)) (by simp) (by repeat first | (with_reducible exact Below.refl _ _) | (with_reducible apply Ext.alloc) | (with_reducible apply Ext.drew) | (with_reducible apply Ext.drewN) | (with_reducible refine Ext.set ?_ (by simp))))).mono ?_; rintro e W1 ⟨rfl, rfl⟩; exact hK _ _ trivial (Eq.refl _) rfl
    refine And.intro (stepC_pure (fun _ => trivial) (by kernel_rfl) ?_) ?_
    · intro act W hR hf ho K hK
      have F : act.tmps[16]?.getD undef = _ ∧ act.tmps[16]?.getD undef = _ ∧ act.tmps[7]?.getD undef = _ ∧ act.tmps[8]?.getD undef = _ ∧ act.tmps[9]?.getD undef = _ ∧ act.tmps[10]?.getD undef = _ ∧ act.tmps[11]?.getD undef = _ ∧ act.tmps[12]?.getD undef = _ ∧ act.tmps[13]?.getD undef = _ ∧ act.tmps[14]?.getD undef = _ ∧ act.tmps[15]?.getD undef = _ ∧ act.tmps[16]?.getD undef = _ ∧ True := hf
      obtain ⟨f9, -, f0, f1, f2, f3, f4, f5, f6, f7, f8, -, -⟩ := F
      clear ho hf
      go_simp
      exact hK _ (Eq.refl _)
    exact trivial
  case stab =>
    refine And.intro is_stable ?_
    refine And.intro is_stable ?_
    refine And.intro is_stable ?_
    refine And.intro is_stable ?_
    refine And.intro is_stable ?_
    refine And.intro is_stable ?_
    refine And.intro is_stable ?_
    refine And.intro is_stable ?_
    refine And.intro is_stable ?_
    refine And.intro is_stable ?_
    refine And.intro is_stable ?_
    exact trivial
  case ends =>
    intro vals W uu hu hR hS hall
    replace hS : (fun (_ : Nat → Value) (W : World) => W = ((w.alloc (.cells #[.slice x.A x.code.length x.cap, .int .i64 x.data] 53)).alloc (.cells #[.bool (inB x.code.length 4 4096), .bool (decide (x.code.length % 4 = 0)), .bool (inB x.data 1 8)] 4)).drew) uu W := hS
    clear hu
    have e2 : vals 2 = _ := hall 10 (by decide)
    clear hall
    simp only [fill, List.setIfInBounds_toArray, List.set_cons_succ, List.set_cons_zero, e2]
    obtain rfl := hS
    go_wp2_with fail
    go_ret
    exact ⟨rfl, (by repeat first | (with_reducible exact Below.refl _ _) | (with_reducible apply Ext.alloc) | (with_reducible apply Ext.drew) | (with_reducible apply Ext.drewN) | (with_reducible refine Ext.set ?_ (by simp)))⟩
end Go.Proofs.Ytgfnpcoigooblaa

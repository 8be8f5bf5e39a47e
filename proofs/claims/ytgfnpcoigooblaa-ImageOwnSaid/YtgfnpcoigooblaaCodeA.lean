
/- Package code: what its functions answer. -/
import Derived.Test.YtgfnpcoigooblaaProg
import Derived.Test.YtgfnpcoigooblaaBase
set_option linter.all false
namespace Go.Proofs.Ytgfnpcoigooblaa
open Go.RowKit

def ints (xs : List Int) : List Value := xs.map fun x => .int .i64 x
theorem ints_length (xs : List Int) : (ints xs).length = xs.length := by simp [ints]

def idx (xs : List Int) (v : Int) : Int := if xs.idxOf v < xs.length then (xs.idxOf v : Int) else -1
theorem idx_hit {xs : List Int} {v : Int} {k : Nat} (hk : k < xs.length) (h : k ≤ xs.idxOf v) (he : (v == xs[k]) = true) : idx xs v = k := by
  have he' : v = xs[k] := by simpa using he
  have : xs.idxOf v ≤ k := by
    rcases Nat.lt_or_ge k (xs.idxOf v) with hlt | hge
    · have := List.not_of_lt_findIdx (xs := xs) (p := (· == v)) (i := k) hlt
      simp [← he'] at this
    · exact hge
  have e : xs.idxOf v = k := by omega
  simp [idx, e, hk]
theorem idx_miss {xs : List Int} {v : Int} {k : Nat} (hk : k < xs.length) (h : k ≤ xs.idxOf v) (he : (v == xs[k]) = false) : k + 1 ≤ xs.idxOf v := by
  rcases Nat.lt_or_ge k (xs.idxOf v) with hlt | hge
  · exact hlt
  · have e : xs.idxOf v = k := by omega
    have := List.getElem_idxOf (xs := xs) (x := v) (by omega)
    simp [e] at this
    simp [this] at he
theorem idx_none {xs : List Int} {v : Int} {k : Nat} (hk : xs.length ≤ k) (h : k ≤ xs.idxOf v) : idx xs v = -1 := by
  unfold idx; rw [if_neg (by omega)]
theorem idx_contains (xs : List Int) (v : Int) : decide (idx xs v ≥ 0) = decide (v ∈ xs) := by
  unfold idx
  by_cases h : v ∈ xs
  · rw [if_pos (List.idxOf_lt_length_iff.2 h)]; simp [h]
  · rw [if_neg (fun e => h (List.idxOf_lt_length_iff.1 e))]; simp [h]

set_option maxHeartbeats 400000 in
theorem index_any (A : Option Addr) (c : Nat) (xs : List Int) (v : Int) (w : World) (h : Arr w A (ints xs)) (hl : xs.length ≤ 140737488351232) :
    Calls Try.prog 90 #[.slice A xs.length c, .int .i64 v] w fun e w' => e = .returned (.int .i64 (idx xs v)) ∧ w = w' := by
  have hn : 0 < xs.length → ∃ b o, A = some ⟨b, o, none⟩ ∧ ∀ j (h : j < xs.length), w.cell? ⟨b, o + j, none⟩ = some (.int .i64 xs[j]) := by
    intro hn
    obtain ⟨b, o, rfl, -, hc⟩ := h.open (by rw [ints_length]; exact hn)
    exact ⟨b, o, rfl, fun j hj => by rw [hc j (by rw [ints_length]; exact hj)]; simp [ints]⟩
  have HN := Lib.hid hn
  clear hn h
  go_enter Try.func90, Try.ntmps90
  go_wp2
  go_loop [8] (fun i => ∃ k : Nat, k ≤ xs.length ∧ k ≤ xs.idxOf v ∧ i = .int .i64 k) (fun i => xs.length - (intOf i).toNat)
  case atStart => exact ⟨0, by omega, by omega, rfl⟩
  case round =>
    obtain ⟨k, hk, hx, rfl⟩ := hrel
    by_cases hlt : k < xs.length
    · obtain ⟨b, o, rfl, hc⟩ := HN.out (by omega)
      have hck := hc k hlt
      have h1 := idx_hit (v := v) hlt hx
      have h2 := idx_miss (v := v) hlt hx
      clear hc
      have H1 := Lib.hid h1
      have H2 := Lib.hid h2
      clear h1 h2
      go_wp2
      · go_ret
        exact ⟨ret_int (H1.out (by assumption)).symm, rfl⟩
      · go_round
        case rel => exact ⟨k + 1, by omega, H2.out (by assumption), by go_num⟩
        case measure => simp [intOf]; omega
    · go_wp2
      go_ret
      exact ⟨ret_int (idx_none (by omega) hx).symm, rfl⟩

set_option maxHeartbeats 400000 in
theorem contains_any (A : Option Addr) (c : Nat) (xs : List Int) (v : Int) (w : World) (h : Arr w A (ints xs)) (hl : xs.length ≤ 140737488351232) :
    Calls Try.prog 89 #[.slice A xs.length c, .int .i64 v] w fun e w' => e = .returned (.bool (decide (v ∈ xs))) ∧ w = w' := by
  have HN := Lib.hid h
  clear h
  go_enter Try.func89, Try.ntmps89
  go_wp2_with (go_at_call 90; refine (index_any _ _ _ _ _ HN.out hl).mono ?_; rintro e w' ⟨rfl, rfl⟩)
  go_ret
  exact ⟨ret_bool (idx_contains xs v), rfl⟩

set_option maxHeartbeats 400000 in
theorem among_any (A : Option Addr) (c : Nat) (xs : List Int) (v : Int) (w : World) (h : Arr w A (ints xs)) (hl : xs.length ≤ 140737488351232) :
    Calls Try.prog 88 #[.int .i64 v, .slice A xs.length c] w fun e w' => e = .returned (.bool (decide (v ∈ xs))) ∧ w = w' := by
  have HN := Lib.hid h
  clear h
  go_enter Try.func88, Try.ntmps88
  go_wp2_with (go_at_call 89; refine (contains_any _ _ _ _ _ HN.out hl).mono ?_; rintro e w' ⟨rfl, rfl⟩)
  go_ret
  exact ⟨rfl, rfl⟩

/-- What stands in a list that the call has just written out. -/
theorem Arr.lit (w : World) (xs : List Value) (e : TypeId) : Arr (w.alloc (.cells xs.toArray e)) (some ⟨w.heap.size, 0, none⟩) xs := by
  refine .inr ⟨_, _, rfl, fun j hj => ?_⟩
  simp [cell_of_row _ _ _ _ _ _ (heap_alloc_new w (.cells xs.toArray e))]

def kindsS (n : Int) : ByteArray :=
  if n < 0 ∨ n > 29 then ⟨#[]⟩ else
  if n = 0 ∨ n = 24 then ⟨#[45, 45, 45]⟩ else
  if n = 1 ∨ n = 10 then ⟨#[114, 119, 118]⟩ else
  if n = 9 then ⟨#[45, 119, 118]⟩ else
  if n = 29 then ⟨#[105, 45, 45]⟩ else
  if n = 2 ∨ n = 22 ∨ n = 23 ∨ n = 25 ∨ n = 26 ∨ n = 27 ∨ n = 28 then ⟨#[114, 114, 45]⟩ else
  if n = 11 ∨ n = 12 ∨ n = 13 ∨ n = 14 ∨ n = 15 ∨ n = 16 ∨ n = 19 then ⟨#[114, 114, 105]⟩ else ⟨#[114, 114, 114]⟩

theorem among2 (v x y : Int) (w : World) (b : Nat) (hb : b = w.heap.size) : Calls Try.prog 88 #[.int .i64 v, .slice (some ⟨b, 0, none⟩) 2 2] (w.alloc (.cells #[.int .i64 x, .int .i64 y] 3)) fun e w' => e = .returned (.bool (decide (v ∈ [x, y]))) ∧ (w.alloc (.cells #[.int .i64 x, .int .i64 y] 3)) = w' :=
  hb ▸ among_any _ 2 [x, y] v _ (Arr.lit w (ints [x, y]) _) (by simp)
theorem among7 (v x0 x1 x2 x3 x4 x5 x6 : Int) (w : World) (b : Nat) (hb : b = w.heap.size) : Calls Try.prog 88 #[.int .i64 v, .slice (some ⟨b, 0, none⟩) 7 7] (w.alloc (.cells #[.int .i64 x0, .int .i64 x1, .int .i64 x2, .int .i64 x3, .int .i64 x4, .int .i64 x5, .int .i64 x6] 3)) fun e w' => e = .returned (.bool (decide (v ∈ [x0, x1, x2, x3, x4, x5, x6]))) ∧ (w.alloc (.cells #[.int .i64 x0, .int .i64 x1, .int .i64 x2, .int .i64 x3, .int .i64 x4, .int .i64 x5, .int .i64 x6] 3)) = w' :=
  hb ▸ among_any _ 7 [x0, x1, x2, x3, x4, x5, x6] v _ (Arr.lit w (ints [x0, x1, x2, x3, x4, x5, x6]) _) (by simp)

set_option maxHeartbeats 1000000 in
theorem kinds_any (n : Int) (w : World) :
    Calls Try.prog 86 #[.int .i64 n] w fun e w' => e = .returned (.string (kindsS n)) ∧ Ext w w' := by
  go_enter Try.func86, Try.ntmps86
  go_wp2_with (go_at_call 88; (first | (with_reducible refine (among2 _ _ _ _ _ (by simp)).mono ?_) | (with_reducible refine (among7 _ _ _ _ _ _ _ _ _ _ (by simp)).mono ?_)); rintro e w' ⟨rfl, rfl⟩)
  all_goals go_ret
  all_goals try simp only [beq_iff_eq, beq_eq_false_iff_ne, ne_eq] at *
  all_goals exact ⟨ret_str (by unfold kindsS; (repeat' split) <;> first | omega | rfl), by repeat (first | exact Below.refl _ _ | apply Ext.alloc)⟩

def bnd (k : Int) : Int × Int := if k == 114 then (0, 7) else if k == 105 then (0, 255) else if k == 119 then (-32768, 32767) else (0, 0)
set_option maxHeartbeats 400000 in
theorem bounds_any (k : Int) (w : World) :
    Calls Try.prog 87 #[.int .i32 k] w fun e w' => e = .returned (.tuple #[.int .i64 (bnd k).1, .int .i64 (bnd k).2]) ∧ w = w' := by
  go_enter Try.func87, Try.ntmps87
  go_wp2
  all_goals go_ret2
  all_goals exact ⟨ret_pair (by simp [bnd, *]) (by simp [bnd, *]), rfl⟩

def str3 (c0 c1 c2 : UInt8) : ByteArray := ⟨#[c0, c1, c2]⟩
theorem str3_size (c0 c1 c2 : UInt8) : (str3 c0 c1 c2).size = 3 := rfl
def kch (n : Int) (i : Nat) : Int := ((kindsS n).data.toList.getD i 0).toNat
theorem kinds_form (n : Int) (h0 : 0 ≤ n) (h1 : n ≤ 29) : ∃ c0 c1 c2 : UInt8, kindsS n = str3 c0 c1 c2 ∧ c0.toNat < 128 ∧ c1.toNat < 128 ∧ c2.toNat < 128 ∧ kch n 0 = c0.toNat ∧ kch n 1 = c1.toNat ∧ kch n 2 = c2.toNat := by
  have : ∃ c0 c1 c2 : UInt8, kindsS n = str3 c0 c1 c2 ∧ c0.toNat < 128 ∧ c1.toNat < 128 ∧ c2.toNat < 128 := by
    unfold kindsS
    rw [if_neg (by omega)]
    (repeat' split) <;> exact ⟨_, _, _, rfl, by decide, by decide, by decide⟩
  obtain ⟨c0, c1, c2, h, a0, a1, a2⟩ := this
  exact ⟨c0, c1, c2, h, a0, a1, a2, by unfold kch; rw [h]; rfl, by unfold kch; rw [h]; rfl, by unfold kch; rw [h]; rfl⟩
theorem kinds_out (n : Int) (h : n < 0 ∨ 29 < n) : kindsS n = ⟨#[]⟩ := by unfold kindsS; rw [if_pos (by omega)]

def fineB (k n : Int) : Bool := decide ((bnd k).1 ≤ n) && decide (n ≤ (bnd k).2)
/-- An instruction may be so. -/
def rightB (op a b c : Int) : Bool := decide (0 ≤ op) && decide (op ≤ 29) && fineB (kch op 0) a && fineB (kch op 1) b && fineB (kch op 2) c
theorem fine_lo {k n : Int} (h : n < (bnd k).1) : fineB k n = false := by unfold fineB; rw [decide_eq_false (by omega)]; rfl
theorem fine_hi {k n : Int} (h : (bnd k).2 < n) : fineB k n = false := by unfold fineB; rw [Bool.and_eq_false_iff]; right; exact decide_eq_false (by omega)
theorem fine_in {k n : Int} (h : (bnd k).1 ≤ n) (h' : n ≤ (bnd k).2) : fineB k n = true := by unfold fineB; simp [h, h']

theorem fine_bad {k n : Int} (h : n < (bnd k).1 ∨ (bnd k).2 < n) : fineB k n = false := h.elim fine_lo fine_hi
theorem fine_and {k n : Int} (h : (bnd k).1 ≤ n ∧ n ≤ (bnd k).2) : fineB k n = true := fine_in h.1 h.2

set_option maxHeartbeats 1000000 in
theorem right_any (op a b c : Int) (w : World) :
    Calls Try.prog 84 #[.agg #[.int .i64 op, .int .i64 a, .int .i64 b, .int .i64 c]] w fun e w' => e = .returned (.bool (rightB op a b c)) ∧ Ext w w' := by
  by_cases hop : 0 ≤ op ∧ op ≤ 29
  · obtain ⟨o0, o1⟩ := hop
    obtain ⟨c0, c1, c2, hk, h0, h1, h2, k0, k1, k2⟩ := kinds_form op o0 o1
    have hr : rightB op a b c = (fineB c0.toNat a && fineB c1.toNat b && fineB c2.toNat c) := by
      unfold rightB; rw [k0, k1, k2]; simp [o0, o1]
    have HR := Lib.hid hr
    have HK := Lib.hid hk
    clear hr hk k0 k1 k2
    go_enter Try.func84, Try.ntmps84
    go_wp2_with (go_at_call 86; refine (kinds_any _ _).mono ?_; rw [HK.out]; rintro e w' ⟨rfl, hb⟩)
    have n0 : ∀ ty, (Instr.next (.pointer (some ⟨w'.heap.size, 0, none⟩)) true ty).run Try.prog (w'.iter (str3 c0 c1 c2) 0) = .ok (.tuple #[.bool true, .int .i64 0, .int .i32 c0.toNat]) (w'.iter (str3 c0 c1 c2) 1) := fun ty => run_next_ascii (P := Try.prog) w' (str3 c0 c1 c2) 0 ty (by rw [str3_size]; decide) h0
    have n1 : ∀ ty, (Instr.next (.pointer (some ⟨w'.heap.size, 0, none⟩)) true ty).run Try.prog (w'.iter (str3 c0 c1 c2) 1) = .ok (.tuple #[.bool true, .int .i64 1, .int .i32 c1.toNat]) (w'.iter (str3 c0 c1 c2) 2) := fun ty => run_next_ascii (P := Try.prog) w' (str3 c0 c1 c2) 1 ty (by rw [str3_size]; decide) h1
    have n2 : ∀ ty, (Instr.next (.pointer (some ⟨w'.heap.size, 0, none⟩)) true ty).run Try.prog (w'.iter (str3 c0 c1 c2) 2) = .ok (.tuple #[.bool true, .int .i64 2, .int .i32 c2.toNat]) (w'.iter (str3 c0 c1 c2) 3) := fun ty => run_next_ascii (P := Try.prog) w' (str3 c0 c1 c2) 2 ty (by rw [str3_size]; decide) h2
    have n3 : ∀ ty, (Instr.next (.pointer (some ⟨w'.heap.size, 0, none⟩)) true ty).run Try.prog (w'.iter (str3 c0 c1 c2) 3) = .ok (.tuple #[.bool false]) (w'.iter (str3 c0 c1 c2) 3) := fun ty => run_next_end (P := Try.prog) w' (str3 c0 c1 c2) 3 ty (by rw [str3_size]; decide)
    clear h0 h1 h2
    obtain ⟨hc, hf, hz⟩ := bcell hb
    have hi := cell_iter
    have HB : ∀ p, Ext w (w'.iter (str3 c0 c1 c2) p) := fun p => (((Ext.alloc (Ext.alloc (Below.refl _ w) _) _).then hb).alloc _ : Ext w (World.alloc _ _))
    have HB' := Lib.hid HB
    clear HB hb
    refine wp_loop_rounds 4 ?_
    rw [rounds_succ]
    go_wp2_with (go_at_call 87; refine (bounds_any _ _).mono ?_; rintro e w' ⟨rfl, rfl⟩)
    all_goals first
      | rw [rounds_succ]
      | (go_ret; exact ⟨ret_bool (by rw [HR.out]; rw [show fineB c0.toNat a = false by first | exact fine_lo (by assumption) | exact fine_bad (by assumption)]; rfl), HB'.out _⟩)
    have f0 : Hid (fineB c0.toNat a = true) := fine_and (by assumption)
    go_wp2_with (go_at_call 87; refine (bounds_any _ _).mono ?_; rintro e w' ⟨rfl, rfl⟩)
    all_goals first
      | rw [rounds_succ]
      | (go_ret; exact ⟨ret_bool (by rw [HR.out, f0.out]; rw [show fineB c1.toNat b = false by first | exact fine_lo (by assumption) | exact fine_bad (by assumption)]; rfl), HB'.out _⟩)
    have f1 : Hid (fineB c1.toNat b = true) := fine_and (by assumption)
    go_wp2_with (go_at_call 87; refine (bounds_any _ _).mono ?_; rintro e w' ⟨rfl, rfl⟩)
    all_goals first
      | rw [rounds_succ]
      | (go_ret; exact ⟨ret_bool (by rw [HR.out, f0.out, f1.out]; rw [show fineB c2.toNat c = false by first | exact fine_lo (by assumption) | exact fine_bad (by assumption)]; rfl), HB'.out _⟩)
    have f2 : Hid (fineB c2.toNat c = true) := fine_and (by assumption)
    go_wp2_with fail
    go_ret
    exact ⟨ret_bool (by rw [HR.out, f0.out, f1.out, f2.out]; simp), HB'.out _⟩
  · have hk := kinds_out op (by omega)
    have hr : rightB op a b c = false := by
      unfold rightB
      by_cases h : 0 ≤ op
      · rw [decide_eq_false (p := op ≤ 29) (by omega)]; simp
      · rw [decide_eq_false (p := 0 ≤ op) (by omega)]; simp
    have HR := Lib.hid hr
    have HK := Lib.hid hk
    clear hr hk
    go_enter Try.func84, Try.ntmps84
    go_wp2_with (go_at_call 86; refine (kinds_any _ _).mono ?_; rw [HK.out]; rintro e w' ⟨rfl, hb⟩)
    have n0 : ∀ ty, (Instr.next (.pointer (some ⟨w'.heap.size, 0, none⟩)) true ty).run Try.prog (w'.iter ⟨#[]⟩ 0) = .ok (.tuple #[.bool false]) (w'.iter ⟨#[]⟩ 0) := fun ty => run_next_end (P := Try.prog) w' ⟨#[]⟩ 0 ty (by decide)
    obtain ⟨hc, hf, hz⟩ := bcell hb
    have hi := cell_iter
    have HB : ∀ p, Ext w (w'.iter ⟨#[]⟩ p) := fun p => (((Ext.alloc (Ext.alloc (Below.refl _ w) _) _).then hb).alloc _ : Ext w (World.alloc _ _))
    have HB' := Lib.hid HB
    clear HB hb
    refine wp_loop_rounds 1 ?_
    rw [rounds_succ]
    go_wp2_with fail
    · go_ret
      exact ⟨ret_bool (by rw [HR.out] <;> first | rfl | (simp; done) | (simp; omega)), HB'.out _⟩
    · go_ret
      exact ⟨ret_bool (by rw [HR.out] <;> first | rfl | (simp; done) | (simp; omega)), HB'.out _⟩

end Go.Proofs.Ytgfnpcoigooblaa

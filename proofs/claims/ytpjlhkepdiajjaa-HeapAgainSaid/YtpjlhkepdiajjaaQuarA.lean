
/- Package quar: New, within, Put, Bytes, Full, Many, All. -/
import Derived.Test.YtpjlhkepdiajjaaMidRow
import Derived.Test.YtpjlhkepdiajjaaEpoch09
import Derived.Test.YtpjlhkepdiajjaaExtE
import Derived.Test.YtpjlhkepdiajjaaPhiR
set_option linter.all false
namespace Go.Proofs.Ytpjlhkepdiajjaa
open Go.RowKit Go.Shelf
attribute [local go_sem] seen dstOf boolOf

/-- What is kept apart: where, how much, since when. -/
structure HeldD where
  at' : Int
  n : Int
  time : Int
deriving DecidableEq, Inhabited
abbrev HeldD.cells (h : HeldD) : List Value := [.int .i64 h.at', .int .i64 h.n, .int .i64 h.time]
abbrev HeldD.val (h : HeldD) : Value := .agg #[.int .i64 h.at', .int .i64 h.n, .int .i64 h.time]
abbrev heldC (L : List HeldD) : List Value := L.flatMap HeldD.cells
theorem infoHeld : (Try.prog.info? 79).map (fun i => (i.zero, i.size, i.bytes)) = some (some (.agg #[.int .i64 0, .int .i64 0, .int .i64 0]), 3, 24) := by kernel_rfl
theorem heldC_len (l : List HeldD) : (heldC l).length = l.length * 3 := flat_length HeldD.cells 3 (fun _ => rfl) l
theorem heldC_one (l : List HeldD) : ∀ u ∈ heldC l, u.oneCell' = true := by
  intro u hu
  obtain ⟨x, -, hx⟩ := List.mem_flatMap.1 hu
  simp only [List.mem_cons, List.not_mem_nil, or_false] at hx
  rcases hx with rfl | rfl | rfl <;> rfl
theorem heldC_app (a b : List HeldD) : heldC (a ++ b) = heldC a ++ heldC b := List.flatMap_append
theorem heldC_drop (R : List HeldD) (k : Nat) : (heldC R).drop (k * 3) = heldC (R.drop k) := by
  induction R generalizing k with
  | nil => simp
  | cons r R ih =>
    cases k with
    | zero => simp
    | succ k =>
      have e : (k + 1) * 3 = k * 3 + 3 := by omega
      rw [e]
      show List.drop (k * 3 + 3) (.int .i64 r.at' :: .int .i64 r.n :: .int .i64 r.time :: heldC R) = _
      simp only [List.drop_succ_cons]
      exact ih k
theorem held_row {w : World} {A : Option Addr} {l : List HeldD} (h : Arr w A (heldC l)) {k : Nat} (hk : k < l.length) :
    ∃ b o, A = some ⟨b, o, none⟩ ∧ b < w.heap.size ∧ w.cell? ⟨b, o + k * 3, none⟩ = some (.int .i64 l[k].at') ∧ w.cell? ⟨b, o + k * 3 + 1, none⟩ = some (.int .i64 l[k].n) ∧ w.cell? ⟨b, o + k * 3 + 2, none⟩ = some (.int .i64 l[k].time) := by
  obtain ⟨b, o, e, hb, q⟩ := h.flat (s := 3) (f := HeldD.cells) (fun _ => rfl) (by decide) hk
  exact ⟨b, o, e, hb, q 0 _ rfl, q 1 _ rfl, q 2 _ rfl⟩
theorem lit_cells' {w : World} {b : Nat} {cs : List Value} {t : TypeId} (h : w.heap[b]? = some (.cells cs.toArray t)) : ∀ j u, cs[j]? = some u → w.cell? ((⟨b, 0, none⟩ : Addr).add j) = some u := fun j u hu => by
  have ha : (⟨b, 0, none⟩ : Addr).add j = ⟨b, j, none⟩ := by unfold Addr.add; split <;> simp_all
  rw [ha]
  simp [World.cell?, h, hu]
theorem lie3 {w W : World} {b : Nat} {v0 v1 v2 : Value} {t : TypeId} (hB : w.heap[b]? = some (.cells #[v0, v1, v2] t)) (hE : Ext w W) :
    W.cell? ⟨b, 0, none⟩ = some v0 ∧ W.cell? ⟨b, 1, none⟩ = some v1 ∧ W.cell? ⟨b, 2, none⟩ = some v2 := by
  have h := (hE.block b (Array.getElem?_eq_some_iff.1 hB).1).trans hB
  exact ⟨by simp [World.cell?, h], by simp [World.cell?, h], by simp [World.cell?, h]⟩

/-- A Quar as it lies. -/
structure QuarAt (W : World) (p : Nat) (full bytes : Int) (base : Nat) (v : Value) (L : List HeldD) : Prop where
  blk : W.heap[p]? = some (.cells #[.int .i64 full, .int .i64 bytes, v] 96)
  row : MidRow W base 79 3 v L.length (heldC L)
section
variable {W W' : World} {p : Nat} {full bytes : Int} {base : Nat} {v : Value} {L : List HeldD}
theorem QuarAt.ext (h : QuarAt W p full bytes base v L) (e : Ext W W') : QuarAt W' p full bytes base v L := ⟨(e.block _ (Array.getElem?_eq_some_iff.1 h.blk).1).trans h.blk, h.row.ext e⟩
theorem QuarAt.lt (h : QuarAt W p full bytes base v L) : p < W.heap.size := (Array.getElem?_eq_some_iff.1 h.blk).1
theorem MidRow.low {e : TypeId} {size n base' : Nat} {xs : List Value} (h : MidRow W base e size v n xs) (hb : base' ≤ base) : MidRow W base' e size v n xs := by
  refine ⟨h.1, ?_⟩
  rcases h.2 with h1 | ⟨g, o, cap, cur, h1, h2, h3, h4⟩
  · exact .inl h1
  · exact .inr ⟨g, o, cap, cur, h1, Nat.le_trans hb h2, h3, h4⟩
/-- A row that begins in the middle of its block is not the block of another type. -/
theorem MidRow.ne {e f : TypeId} {size n g : Nat} {xs : List Value} {C : Array Value} {x : Nat × Nat} (h : MidRow W base e size v n xs) (hg : W.heap[g]? = some (.cells C f x)) (hef : e ≠ f) : v.ownBlock ≠ some g := by
  rcases h.2 with ⟨rfl, -⟩ | ⟨g', o, cap, cur, rfl, h2, h3, h4⟩
  · simp [Value.ownBlock]
  · intro he
    simp only [Value.ownBlock, Option.some.injEq] at he
    subst he
    rw [hg] at h3
    cases h3
    exact hef rfl
theorem MidRow.lt {e : TypeId} {size n : Nat} {xs : List Value} (h : MidRow W base e size v n xs) : ∀ g, v.ownBlock = some g → base ≤ g ∧ g < W.heap.size := by
  rcases h.2 with ⟨rfl, -⟩ | ⟨g', o, cap, cur, rfl, h2, h3, h4⟩
  · simp [Value.ownBlock]
  · intro g he
    simp only [Value.ownBlock, Option.some.injEq] at he
    subst he
    exact ⟨h2, (Array.getElem?_eq_some_iff.1 h3).1⟩
end

def NewQ (full : Int) (w : World) (e : Ending) (w' : World) : Prop := ((full < 1 ∨ 16777216 < full) ∧ e = .returned (.pointer none) ∧ Ext w w') ∨ (¬ (full < 1 ∨ 16777216 < full) ∧ e = .returned (.pointer (some ⟨w.heap.size, 0, none⟩)) ∧ w' = w.alloc (.cells #[.int .i64 full, .int .i64 0, .slice none 0 0] 96))
theorem newQ_any (full : Int) (w : World) : Calls Try.prog 28 #[.int .i64 full] w (NewQ full w) := by
  by_cases h1 : full < 1
  · go_enter Try.func28, Try.ntmps28
    go_wp2_with fail
    go_ret
    exact .inl ⟨.inl h1, rfl, (by repeat first | (with_reducible exact Below.refl _ _) | (with_reducible apply Ext.alloc) | (with_reducible apply Ext.drew) | (with_reducible apply Ext.drewN) | (with_reducible refine Ext.set ?_ (by simp)))⟩
  · by_cases h2 : 16777216 < full
    · go_enter Try.func28, Try.ntmps28
      go_wp2_with fail
      go_ret
      exact .inl ⟨.inr h2, rfl, (by repeat first | (with_reducible exact Below.refl _ _) | (with_reducible apply Ext.alloc) | (with_reducible apply Ext.drew) | (with_reducible apply Ext.drewN) | (with_reducible refine Ext.set ?_ (by simp)))⟩
    · go_enter Try.func28, Try.ntmps28
      go_wp2_with fail
      go_ret
      exact .inr ⟨by omega, rfl, rfl⟩
def withinB (n : Int) : Bool := decide (0 ≤ n) && decide (n ≤ 16777216)
theorem within_any (n : Int) (w : World) : Calls Try.prog 51 #[.int .i64 n] w fun e w' => e = .returned (.bool (withinB n)) ∧ Ext w w' := by
  unfold withinB
  by_cases h : 0 ≤ n
  · go_enter Try.func51, Try.ntmps51
    go_wp2_with fail
    go_ret
    exact ⟨by simp [h], (by repeat first | (with_reducible exact Below.refl _ _) | (with_reducible apply Ext.alloc) | (with_reducible apply Ext.drew) | (with_reducible apply Ext.drewN) | (with_reducible refine Ext.set ?_ (by simp)))⟩
  · have e : (decide (0 ≤ n) && decide (n ≤ 16777216)) = false := by rw [decide_eq_false h]; rfl
    have h' : n < 0 := by omega
    rw [e]
    go_enter Try.func51, Try.ntmps51
    go_wp2_with fail
    go_ret
    exact ⟨rfl, (by repeat first | (with_reducible exact Below.refl _ _) | (with_reducible apply Ext.alloc) | (with_reducible apply Ext.drew) | (with_reducible apply Ext.drewN) | (with_reducible refine Ext.set ?_ (by simp)))⟩
theorem bytes_any (p : Nat) (full bytes : Int) (base : Nat) (v : Value) (L : List HeldD) (w : World) (h : QuarAt w p full bytes base v L) : Calls Try.prog 43 #[.pointer (some ⟨p, 0, none⟩)] w fun e w' => e = .returned (.int .i64 bytes) ∧ Ext w w' := by
  obtain ⟨x0, x1, x2⟩ := lie3 h.blk (Below.refl _ w)
  go_enter Try.func43, Try.ntmps43
  go_wp2_with fail
  go_ret
  exact ⟨rfl, (by repeat first | (with_reducible exact Below.refl _ _) | (with_reducible apply Ext.alloc) | (with_reducible apply Ext.drew) | (with_reducible apply Ext.drewN) | (with_reducible refine Ext.set ?_ (by simp)))⟩
theorem full_any (p : Nat) (full bytes : Int) (base : Nat) (v : Value) (L : List HeldD) (w : World) (h : QuarAt w p full bytes base v L) : Calls Try.prog 44 #[.pointer (some ⟨p, 0, none⟩)] w fun e w' => e = .returned (.bool (decide (full ≤ bytes))) ∧ Ext w w' := by
  obtain ⟨x0, x1, x2⟩ := lie3 h.blk (Below.refl _ w)
  go_enter Try.func44, Try.ntmps44
  go_wp2_with fail
  go_region
  go_wp2_with fail
  go_ret
  exact ⟨rfl, (by repeat first | (with_reducible exact Below.refl _ _) | (with_reducible apply Ext.alloc) | (with_reducible apply Ext.drew) | (with_reducible apply Ext.drewN) | (with_reducible refine Ext.set ?_ (by simp)))⟩
theorem lit0H (w : World) (base k : Nat) (hk : k = w.heap.size) (hb : base ≤ k) : (w.alloc (.cells #[] 79)).ownsRow base 79 3 (.slice (some ⟨k, 0, none⟩) 0 0) 0 [] := by
  subst hk
  exact own_lit w base 79 3 0 [] hb (by simp) (by simp [maxLen])
set_option maxHeartbeats 1000000 in
set_option maxRecDepth 20000 in
theorem cloneH (A : Option Addr) (c : Nat) (l : List HeldD) (w : World) (hA : Arr w A (heldC l)) (hl : l.length ≤ 100000) :
    Calls Try.prog 54 #[.slice A l.length c] w (Gives w 79 3 l.length (heldC l)) := by
  obtain ⟨ci, hci, hci0, hci1, hci2⟩ := info_parts infoHeld
  rcases hA with hA | ⟨b, o, rfl, hA⟩
  · have hn : l = [] := by
      have := congrArg List.length hA
      rw [heldC_len] at this
      simp only [List.length_nil] at this
      exact List.length_eq_zero_iff.1 (by omega)
    subst hn
    cases A with
    | none =>
      have hnil := Lib.run_eql_slice_nil (P := Try.prog) w 80 79 none 0 c 0 0 Try.underlying80
      go_enter Try.func54, Try.ntmps54
      go_wp2_with fail
      go_ret
      exact ⟨_, rfl, World.ownsRow_nil _ _ _ _, Below.refl _ _⟩
    | some a =>
      have hnil := Lib.run_eql_slice_nil (P := Try.prog) w 80 79 (some a) 0 c 0 0 Try.underlying80
      have hL : Lies w.heap.size (w.alloc (.cells #[] 79)) (.slice (some a) 0 c) 0 [] := .inr ⟨a, c, rfl, (fun h => absurd h (by simp)), (fun j u h => by simp at h)⟩
      go_enter Try.func54, Try.ntmps54
      go_wp2_with (first
        | (at_builtin; refine wpList_append_src _ rfl (.tmp 5) (.tmp 6) 80 rfl w.heap.size 79 ci (.agg #[.int .i64 0, .int .i64 0, .int .i64 0]) 3 24 Try.underlying80 hci hci0 hci1 hci2 rfl (by decide) _ _ _ rfl (lit0H w w.heap.size _ rfl (Nat.le_refl _)) _ 0 [] rfl hL rfl (by simp) (by simp [maxLen]) (by omega) (by simp) ?_; intro v2 w4 ho hg _))
      go_ret
      exact ⟨_, rfl, ho, Below.grown (by repeat first | (with_reducible exact Below.refl _ _) | (with_reducible apply Ext.alloc) | (with_reducible apply Ext.drew) | (with_reducible apply Ext.drewN) | (with_reducible refine Ext.set ?_ (by simp))) hg (by simp) (fun r hr => ((lit0H w w.heap.size _ rfl (Nat.le_refl _)).lt r hr).1)⟩
  · have hA' : Arr w (some ⟨b, o, none⟩) (heldC l) := .inr ⟨b, o, rfl, hA⟩
    have hnil := Lib.run_eql_slice_nil (P := Try.prog) w 80 79 (some ⟨b, o, none⟩) l.length c 0 0 Try.underlying80
    clear hA
    go_enter Try.func54, Try.ntmps54
    go_wp2_with (first
      | (at_builtin; refine wpList_append_src _ rfl (.tmp 5) (.tmp 6) 80 rfl w.heap.size 79 ci (.agg #[.int .i64 0, .int .i64 0, .int .i64 0]) 3 24 Try.underlying80 hci hci0 hci1 hci2 rfl (by decide) _ _ _ rfl (lit0H w w.heap.size _ rfl (Nat.le_refl _)) _ l.length (heldC l) rfl ((Lies.arr hA').ext (by repeat first | (with_reducible exact Below.refl _ _) | (with_reducible apply Ext.alloc) | (with_reducible apply Ext.drew) | (with_reducible apply Ext.drewN) | (with_reducible refine Ext.set ?_ (by simp)))) (heldC_len l) (heldC_one l) (by simp only [maxLen]; omega) (by omega) (by simp) ?_; intro v2 w4 ho hg _))
    go_ret
    have e : [] ++ heldC l = heldC l := rfl
    rw [Nat.zero_add, e] at ho
    exact ⟨_, rfl, ho, Below.grown (by repeat first | (with_reducible exact Below.refl _ _) | (with_reducible apply Ext.alloc) | (with_reducible apply Ext.drew) | (with_reducible apply Ext.drewN) | (with_reducible refine Ext.set ?_ (by simp))) hg (by simp) (fun r hr => ((lit0H w w.heap.size _ rfl (Nat.le_refl _)).lt r hr).1)⟩
theorem allQ_any (p : Nat) (full bytes : Int) (base : Nat) (v : Value) (L : List HeldD) (w : World) (h : QuarAt w p full bytes base v L) (hL : L.length ≤ 100000) : Calls Try.prog 34 #[.pointer (some ⟨p, 0, none⟩)] w (Gives w 79 3 L.length (heldC L)) := by
  obtain ⟨x0, x1, x2⟩ := lie3 h.blk (Below.refl _ w)
  obtain ⟨A, c, rfl, -, -, hA⟩ := h.row.arr
  have HC := Lib.hid (cloneH A c L w hA hL)
  clear h hA
  go_enter Try.func34, Try.ntmps34
  go_wp2_with fail
  refine HC.out.mono ?_
  rintro _ w1 ⟨u, rfl, h1, h2⟩
  have H1 := Lib.hid (And.intro h1 h2)
  clear h1 h2
  obtain ⟨A, c, rfl, -, -⟩ := Arr.own H1.out.1
  go_wp2_with fail
  go_ret
  exact ⟨_, rfl, H1.out.1, H1.out.2⟩
end Go.Proofs.Ytpjlhkepdiajjaa

/- Two memories side by side: what one does leaves the other; a list of numbers, of bools, that came in. -/
import Derived.Test.YtipnkjegiiphnaaHead12
import Derived.Test.YtipnkjegiiphnaaHeldP
import Derived.BigQuiet
set_option linter.all false
namespace Go.Proofs.Ytipnkjegiiphnaa
open Go.RowKit

def apartV (v u : Value) : Prop := ∀ g, v.ownBlock = some g → u.ownBlock ≠ some g
theorem apartV.symm {v u : Value} (h : apartV v u) : apartV u v := fun g hu hv => h g hv hu
theorem row_lt {w : World} {base n : Nat} {e : TypeId} {sz : Nat} {v : Value} {xs : List Value} (h : w.ownsRow base e sz v n xs) {g : Nat} (hg : v.ownBlock = some g) : base ≤ g ∧ g < w.heap.size := by
  rcases h.2 with ⟨rfl, -⟩ | ⟨g', cap, C, rfl, hb, hh, -⟩
  · simp [Value.ownBlock] at hg
  · simp only [Value.ownBlock, Option.some.injEq] at hg
    subst hg
    exact ⟨hb, (Array.getElem?_eq_some_iff.1 hh).1⟩
theorem apart_new {w : World} {v v' u : Value} {b n : Nat} {e : TypeId} {sz : Nat} {xs : List Value} (h : apartV v u) (hv : v'.ownBlock = v.ownBlock ∨ ∃ g, v'.ownBlock = some g ∧ w.heap.size ≤ g) (hu : w.ownsRow b e sz u n xs) : apartV v' u := by
  intro g hg hu'
  rcases hv with hv | ⟨g', hg', hl⟩
  · exact h g (hv ▸ hg) hu'
  · rw [hg] at hg'
    cases hg'
    have := (row_lt hu hu').2
    omega
theorem row_block {w : World} {base n : Nat} {e : TypeId} {sz : Nat} {v : Value} {xs : List Value} (h : w.ownsRow base e sz v n xs) {g : Nat} (hg : v.ownBlock = some g) : ∃ C, w.heap[g]? = some (.cells C e (0, 0)) := by
  rcases h.2 with ⟨rfl, -⟩ | ⟨g', cap, C, rfl, hb, hh, -⟩
  · simp [Value.ownBlock] at hg
  · simp only [Value.ownBlock, Option.some.injEq] at hg
    subst hg
    exact ⟨C, hh⟩
/-- A row of another kind, or of another block, is as it was. -/
theorem row_kept {w w' : World} {p : Nat} {r : Option Nat} (K : Kept p r w w') {B n : Nat} {e : TypeId} {sz : Nat} {u : Value} {xs : List Value} (h : w.ownsRow B e sz u n xs) (hp : u.ownBlock ≠ some p) (hr : ∀ g, u.ownBlock = some g → r ≠ some g) : w'.ownsRow B e sz u n xs := by
  rcases h with ⟨hl, ⟨rfl, h0⟩ | ⟨g, cap, C, rfl, hb, hg, h1, h2, h3, h4⟩⟩
  · exact ⟨hl, .inl ⟨rfl, h0⟩⟩
  · have hgl : g < w.heap.size := (Array.getElem?_eq_some_iff.1 hg).1
    refine ⟨hl, .inr ⟨g, cap, C, rfl, hb, (K.block g hgl ?_ ?_).trans hg, h1, h2, h3, h4⟩⟩
    · rintro rfl
      exact hp rfl
    · intro e
      exact hr g rfl e.symm
theorem free_kept {w w' : World} {p q : Nat} {a b c d : Int} {v u : Value} {B B' : Nat} {R S : List Run} (hp : FreeAt w p a b v B R) (K : Kept p v.ownBlock w w') (hq : FreeAt w q c d u B' S) (hne : p ≠ q) (hd : apartV v u) : FreeAt w' q c d u B' S := by
  have hqr : v.ownBlock ≠ some q := fun e => by
    obtain ⟨C, hC⟩ := row_block hp.row e
    rw [hq.blk] at hC
    simp at hC
  have hpu : u.ownBlock ≠ some p := fun e => by
    obtain ⟨C, hC⟩ := row_block hq.row e
    rw [hp.blk] at hC
    simp at hC
  exact ⟨(K.block q hq.lt (fun e => hne e.symm) (fun e => hqr e.symm)).trans hq.blk, row_kept K hq.row hpu (fun g hu hv => hd g hv hu), hq.low, hq.fine, hq.len, hq.ends⟩
theorem free_ne {w : World} {p q : Nat} {a b c d : Int} {v u : Value} {B B' : Nat} {R S : List Run} (hp : FreeAt w p a b v B R) (hB : w.heap.size ≤ B') {w' : World} (hq : FreeAt w' q c d u B' S) : p ≠ q ∧ apartV v u := by
  refine ⟨fun e => ?_, fun g hv hu => ?_⟩
  · have := hp.lt
    have := hq.low
    omega
  · have := (row_lt hp.row hv).2
    have := (row_lt hq.row hu).1
    omega
abbrev cell1b (b : Bool) : List Value := [.bool b]
theorem i64_num {a b : Int} (h : a = b) : Value.int .i64 a = .int .i64 b := by rw [h]
/-- The pairs of a row of one's own, at a place. -/
theorem own_at {w : World} {A : Option Addr} {H : List Run} (hA : Arr w A (rowC H)) {k : Nat} (hk : k < H.length) : ∃ b o, A = some ⟨b, o, none⟩ ∧ b < w.heap.size ∧ w.cell? ⟨b, o + k * 2, none⟩ = some (.int .i64 H[k].1) ∧ w.cell? ⟨b, o + k * 2 + 1, none⟩ = some (.int .i64 H[k].2) := by
  obtain ⟨b1, o1, rfl, hb, q1⟩ := hA.flat (s := 2) (fun _ => rfl) (by decide) hk
  exact ⟨b1, o1, rfl, hb, by simpa using q1 0 _ rfl, q1 1 _ rfl⟩
/-- A memory is as it was, when a row of pairs grows. -/
theorem free_grown {w w' : World} {p : Nat} {a b : Int} {v : Value} {base : Nat} {R : List Run} (h : FreeAt w p a b v base R) {B n : Nat} {u : Value} {xs : List Value} (k : w.ownsRow B 38 2 u n xs) (hg : w.grownBy w' u.ownBlock) : FreeAt w' p a b v base R := by
  have hne : some p ≠ u.ownBlock := fun e => by
    obtain ⟨C, hC⟩ := row_block k e.symm
    rw [h.blk] at hC
    simp at hC
  exact ⟨(hg.block p h.lt hne).trans h.blk, own_other h.row k (by decide) hg, h.low, h.fine, h.len, h.ends⟩
theorem row_grown_ext {w W w' : World} {B n : Nat} {e : TypeId} {sz : Nat} {u : Value} {xs : List Value} (hE : Ext w W) (k : W.ownsRow B e sz u n xs) (hB : w.heap.size ≤ B) (o : Obj) (hg : (W.alloc o).grownBy w' u.ownBlock) : Ext w w' :=
  Below.grown (hE.alloc o) hg (hE.alloc o).size (fun r hr => by have := (row_lt k hr).1; omega)
theorem own_arr {w : World} {base n m c : Nat} {e : TypeId} {size : Nat} {A : Option Addr} {cs : List Value} (h : w.ownsRow base e size (.slice A m c) n cs) : Arr w A cs := by
  obtain ⟨A', c', he, -, hA⟩ := Arr.own h
  cases he
  exact hA
theorem own_cells {w : World} {b o : Nat} {H : List Run} (hA : Arr w (some ⟨b, o, none⟩) (rowC H)) {k : Nat} (hk : k < H.length) : w.cell? ⟨b, o + k * 2, none⟩ = some (.int .i64 H[k].1) ∧ w.cell? ⟨b, o + k * 2 + 1, none⟩ = some (.int .i64 H[k].2) := by
  obtain ⟨b1, o1, he, -, x0, x1⟩ := own_at hA hk
  cases he
  exact ⟨x0, x1⟩
/-- Two memories, and a row of pairs. -/
structure Pair2 (w0 W : World) (p q : Nat) (a b : Int) (v u : Value) (B1 B2 : Nat) (Q Q' : List Run) (hv : Value) (H : List Run) : Prop where
  f : FreeAt W p a b v B1 Q
  g : FreeAt W q a b u B2 Q'
  ne : p ≠ q
  ap : apartV v u
  row : W.ownsRow w0.heap.size 38 2 hv H.length (rowC H)
  e : Ext w0 W
  b1 : w0.heap.size ≤ B1
  b2 : w0.heap.size ≤ B2
section
variable {w0 W W' : World} {p q : Nat} {a b : Int} {v u : Value} {B1 B2 : Nat} {Q Q' : List Run} {hv : Value} {H : List Run}
theorem Pair2.ext (h : Pair2 w0 W p q a b v u B1 B2 Q Q' hv H) (he : Ext W W') : Pair2 w0 W' p q a b v u B1 B2 Q Q' hv H :=
  ⟨h.f.ext he, h.g.ext he, h.ne, h.ap, own_ext h.row he, h.e.then he, h.b1, h.b2⟩
theorem Pair2.swap (h : Pair2 w0 W p q a b v u B1 B2 Q Q' hv H) : Pair2 w0 W q p a b u v B2 B1 Q' Q hv H := ⟨h.g, h.f, fun e => h.ne e.symm, h.ap.symm, h.row, h.e, h.b2, h.b1⟩
theorem Pair2.grown (h : Pair2 w0 W p q a b v u B1 B2 Q Q' hv H) {o : Obj} {hv' : Value} {x : Run} (hg : (W.alloc o).grownBy W' hv.ownBlock) (hr : W'.ownsRow w0.heap.size 38 2 hv' (H.length + 1) (rowC H ++ cell2 x)) : Pair2 w0 W' p q a b v u B1 B2 Q Q' hv' (H ++ [x]) :=
  have hx : Ext W (W.alloc o) := Ext.alloc (Below.refl _ W) o
  ⟨free_grown (h.f.ext hx) (own_ext h.row hx) hg, free_grown (h.g.ext hx) (own_ext h.row hx) hg, h.ne, h.ap, by rw [List.length_append, rowC_append]; exact hr, row_grown_ext h.e h.row (Nat.le_refl _) _ hg, h.b1, h.b2⟩
theorem Pair2.turn (h : Pair2 w0 W p q a b v u B1 B2 Q Q' hv H) {v' : Value} {S : List Run} (hF : FreeAt W' p a b v' B1 S) (K : Kept p v.ownBlock W W') (O : v'.ownBlock = v.ownBlock ∨ ∃ g, v'.ownBlock = some g ∧ W.heap.size ≤ g) : Pair2 w0 W' p q a b v' u B1 B2 S Q' hv H :=
  ⟨hF, free_kept h.f K h.g h.ne h.ap, h.ne, apart_new (w := W) h.ap O h.g.row, pair_kept h.f K h.row, Below.trans h.e (free_below h.f K h.b1), h.b1, h.b2⟩
theorem give_two (h : Pair2 w0 W p q a b v u B1 B2 Q Q' hv H) (hW : WF a b Q) {z n : Int} (ht : (giveR a b Q z n).2 = true) :
    Calls Try.prog 13 #[.pointer (some ⟨p, 0, none⟩), .int .i64 z, .int .i64 n] W fun e w' => e = .returned (.bool true) ∧ ∃ v', Pair2 w0 w' p q a b v' u B1 B2 (giveR a b Q z n).1 Q' hv H := by
  refine (give_any p a b v _ Q z n W h.f (give_len hW h.f.ends.2.1 h.f.ends.1 h.f.ends.2.2 _ _)).mono ?_
  intro e w' hg
  unfold GivePost at hg
  rw [ht] at hg
  obtain ⟨rfl, v', hF, K, O⟩ := hg
  exact ⟨rfl, v', h.turn hF K O⟩
theorem take_two (h : Pair2 w0 W p q a b v u B1 B2 Q Q' hv H) (n : Int) :
    Calls Try.prog 11 #[.pointer (some ⟨p, 0, none⟩), .int .i64 n] W fun e w' => e = .returned (.tuple #[.int .i64 (takeR Q n).2.1, .bool (takeR Q n).2.2]) ∧ ∃ v', Pair2 w0 w' p q a b v' u B1 B2 (takeR Q n).1 Q' hv H := by
  refine (take_any p a b v _ Q n W h.f).mono ?_
  intro e w' hg
  unfold TakePost at hg
  obtain ⟨rfl, v', hF, K, O⟩ := hg
  exact ⟨rfl, v', h.turn hF K (.inl O)⟩
end
theorem lies_take2 {w : World} {g k d : Nat} {U : List Run} (hA : Arr w (some ⟨g, 0, none⟩) (rowC U)) : Lies w.heap.size w (.slice (some ⟨g, 0, none⟩) k d) k (rowC (U.take k)) := by
  rw [← rowC_take]
  have h := Lies.arr (m := k) (c := d) hA
  rcases h with ⟨h, -, -⟩ | ⟨ad, c', h, hlt, hc⟩
  · simp at h
  · simp at h
    obtain ⟨rfl, rfl⟩ := h
    refine .inr ⟨_, d, rfl, fun hp => hlt (by simp at hp; omega), fun j v hv => hc j v ?_⟩
    rw [List.getElem?_take] at hv
    split at hv
    · exact hv
    · simp at hv
theorem lies_drop2 {w : World} {g k m d : Nat} {U : List Run} {A : Option Addr} (hA : Arr w (some ⟨g, 0, none⟩) (rowC U)) (h : k < U.length → A = some ⟨g, k * 2, none⟩) (hA' : A ≠ none) : Lies w.heap.size w (.slice A m d) m (rowC (U.drop k)) := by
  cases A with
  | none => exact absurd rfl hA'
  | some ad =>
    by_cases hk : k < U.length
    · obtain rfl : ad = ⟨g, k * 2, none⟩ := by simpa using h hk
      have hl := Lies.arr (m := m) (c := d) hA
      rcases hl with ⟨h', -, -⟩ | ⟨ad, c', h', hlt, hc⟩
      · simp at h'
      · simp at h'
        obtain ⟨rfl, rfl⟩ := h'
        refine .inr ⟨_, d, rfl, fun _ => hlt (by rw [rowC_len]; omega), fun j v hv => ?_⟩
        rw [← rowC_drop, List.getElem?_drop] at hv
        have := hc _ _ hv
        rw [add_none, Nat.zero_add] at this
        rw [add_none]
        exact this
    · rw [List.drop_eq_nil_of_le (by omega)]
      exact .inr ⟨_, d, rfl, fun hp => by simp [rowC] at hp, fun j v hv => by simp [rowC] at hv⟩
theorem lit0_own (w : World) (base k : Nat) (hk : k = w.heap.size) (hb : base ≤ k) : (w.alloc (.cells #[] 38)).ownsRow base 38 2 (.slice (some ⟨k, 0, none⟩) 0 0) 0 [] := by
  subst hk
  exact own_lit w base 38 2 0 [] hb (by simp) (by simp [maxLen])
theorem own_low {w : World} {B B' n : Nat} {e : TypeId} {sz : Nat} {u : Value} {xs : List Value} (h : w.ownsRow B e sz u n xs) (hB : B' ≤ B) : w.ownsRow B' e sz u n xs := by
  rcases h with ⟨hl, h0 | ⟨g, cap, C, hv, hb, hg⟩⟩
  · exact ⟨hl, .inl h0⟩
  · exact ⟨hl, .inr ⟨g, cap, C, hv, Nat.le_trans hB hb, hg⟩⟩
end Go.Proofs.Ytipnkjegiiphnaa

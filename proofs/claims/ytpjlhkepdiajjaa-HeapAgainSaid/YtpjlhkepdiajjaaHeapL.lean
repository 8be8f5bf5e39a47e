
/- Package heap: Live. -/
import Derived.Test.YtpjlhkepdiajjaaHeapP
set_option linter.all false
namespace Go.Proofs.Ytpjlhkepdiajjaa
open Go.RowKit Go.Shelf
attribute [local go_sem] seen dstOf boolOf

def sumT (L : List LiveD) : Int := (L.map fun l => l.takes).sum
def leftT (L : List LiveD) (left : Lit → Bool) : Int := (L.map fun l => if left (.int .i64 l.at') then 0 else l.takes).sum
theorem leftT_cons (l : LiveD) (L : List LiveD) (left : Lit → Bool) : leftT (l :: L) left = (if left (.int .i64 l.at') then 0 else l.takes) + leftT L left := by simp [leftT]
theorem sumT_cons (l : LiveD) (L : List LiveD) : sumT (l :: L) = l.takes + sumT L := by simp [sumT]
theorem leftT_le {L : List LiveD} (h : ∀ l ∈ L, 0 ≤ l.takes) (left : Lit → Bool) : 0 ≤ leftT L left ∧ leftT L left ≤ sumT L := by
  induction L with
  | nil => simp [leftT, sumT]
  | cons l L ih =>
    have h1 := h l List.mem_cons_self
    have h2 := ih fun m hm => h m (List.mem_cons_of_mem _ hm)
    rw [leftT_cons, sumT_cons]
    split <;> omega
theorem leftT_all {L : List LiveD} {left : Lit → Bool} (h : ∀ l ∈ L, left (.int .i64 l.at') = true) : leftT L left = 0 := by
  induction L with
  | nil => rfl
  | cons l L ih =>
    rw [leftT_cons, if_pos (h l List.mem_cons_self), ih fun m hm => h m (List.mem_cons_of_mem _ hm)]
    rfl
theorem leftT_none {L : List LiveD} {left : Lit → Bool} (h : ∀ z, left z = false) : leftT L left = sumT L := by
  induction L with
  | nil => rfl
  | cons l L ih =>
    rw [leftT_cons, sumT_cons, ih, h]
    rfl
theorem leftT_other {L : List LiveD} {left : Lit → Bool} {x : Int} (h : ∀ l ∈ L, l.at' ≠ x) : leftT L (fun z => left z && !z.sameKey (.int .i64 x)) = leftT L left := by
  induction L with
  | nil => rfl
  | cons l L ih =>
    have hs : (Lit.int .i64 l.at').sameKey (.int .i64 x) = false := Maps.sameKey_ne (by simpa using h l List.mem_cons_self)
    rw [leftT_cons, leftT_cons, ih fun m hm => h m (List.mem_cons_of_mem _ hm), hs]
    simp
theorem leftT_step {L : List LiveD} (ho : L.Pairwise fun l m => l.at' ≠ m.at') {left : Lit → Bool} {l : LiveD} (hl : l ∈ L) (hx : left (.int .i64 l.at') = true) : leftT L (fun z => left z && !z.sameKey (.int .i64 l.at')) = leftT L left + l.takes := by
  induction L with
  | nil => cases hl
  | cons m L ih =>
    obtain ⟨h1, h2⟩ := List.pairwise_cons.1 ho
    rcases List.mem_cons.1 hl with rfl | hl
    · have hs : (Lit.int .i64 l.at').sameKey (.int .i64 l.at') = true := WideAt.sameKey_self trivial
      rw [leftT_cons, leftT_cons, leftT_other fun m hm => (h1 m hm).symm, hs, hx]
      simp
      omega
    · have hs : (Lit.int .i64 m.at').sameKey (.int .i64 l.at') = false := Maps.sameKey_ne (by simpa using h1 l hl)
      rw [leftT_cons, leftT_cons, ih h2 hl, hs]
      simp
      omega
theorem HeapAt.far {w w' : World} {hp : Nat} {B : HeapB} {X : HeapD} {row : Option Nat} (h : HeapAt w hp B X) (hg : w.grownBy w' row) (hr : ∀ r, row = some r → (∃ o : Obj, w.heap[r]? = some o ∧ o.isCells = false) ∧ r ≠ B.m) : HeapAt w' hp B X := by
  have hr' : ∀ r, row = some r → ∃ o : Obj, w.heap[r]? = some o ∧ o.isCells = false := fun r e => (hr r e).1
  exact ⟨far_row h.blk hg hr', ⟨far_row h.free.blk hg hr', far_own h.free.row hg hr', h.free.low, h.free.fine, h.free.len, h.free.ends⟩, ⟨far_row h.shad.blk hg hr', far_row h.shad.row hg hr', h.shad.len, h.shad.lt, h.shad.big⟩, far_row h.clk hg hr', ⟨far_row h.quar.blk hg hr', far_mid h.quar.row hg hr'⟩, h.live.at (hg.block _ h.live.lt (fun e => (hr _ e.symm).2 rfl)) (fun k C f hk => far_row hk hg hr'), h.low⟩
theorem HeapOk.total {X : HeapD} (h : HeapOk X) : sumR X.R + sumT X.L + sumN X.Q = X.root.top - X.root.base := by
  have h1 := h.sum
  rw [sumH_heldL] at h1
  have h2 : sumH (X.L.map fun l => (l.at', l.takes)) = sumT X.L := by simp [sumH, sumT, Function.comp_def]
  omega
theorem HeapOk.livesum {X : HeapD} (h : HeapOk X) : sumT X.L ≤ 1600000 := by
  have h1 := h.total
  have h2 := h.bytes
  have h3 := h.free0
  have h4 := h.big
  omega
set_option maxHeartbeats 2000000 in
set_option maxRecDepth 40000 in
theorem live_any (hp : Nat) (B : HeapB) (X : HeapD) (w : World) (h : HeapAt w hp B X) (ok : HeapOk X) : Calls Try.prog 20 #[.pointer (some ⟨hp, 0, none⟩)] w fun e w' => e = .returned (.tuple #[.int .i64 (X.L.length : Int), .int .i64 (sumT X.L)]) ∧ Ext w w' := by
  obtain ⟨D, d1, d2, d3, d4⟩ := h.live.map
  have x10 := cellAt h.blk 10 (.map (some B.m)) rfl
  have hlt := h.lt
  have HH := Lib.hid (And.intro h ok)
  have HD := Lib.hid (And.intro d1 (And.intro d2 (And.intro d3 d4)))
  clear h ok d1 d2 d3 d4
  go_enter Try.func20, Try.ntmps20
  go_wp2_with (first | (at_range; refine wpList_range_own _ rfl _ 57 rfl 3 72 keyInt Try.underlying57 blkR B.m X.L.length D rfl HD.out.1 ?_; intro w0 hrg0 hg0 hs0))
  go_frame
  have e0 : Ext w w0 := ⟨hg0.os, hg0.tape, hg0.output, hg0.size, fun k hk => hg0.block k hk (by simp)⟩
  have H0 := Lib.hid (And.intro hrg0 e0)
  clear hrg0 hg0 hs0 e0
  go_loopw [4] (fun t wr => ∃ (left : Lit → Bool) (cnt : Nat), wr.ranges Try.prog 3 blkR B.m w.heap.size X.L.length D left cnt ∧ t = .int .i64 (leftT X.L left) ∧ Ext w wr) (fun _ wr => wr.rangeLeft B.m w.heap.size)
  case atStart =>
    refine ⟨Maps.has D, _, H0.out.1, ?_, H0.out.2⟩
    rw [leftT_all fun l hl => ?_]
    rw [HD.out.2.2.1 _ (HH.out.1.live.wf l hl)]
    exact hasL_iff.2 ⟨l, hl, rfl⟩
  case round =>
    obtain ⟨left, cnt, hrg, rfl, hE⟩ := hrel
    have hle := leftT_le (L := X.L) (fun l hl => by have := HH.out.2.live hl; omega) left
    have HR := Lib.hid (And.intro hrg hE)
    clear hE
    obtain ⟨T, hT⟩ : ∃ T, T = leftT X.L left := ⟨_, rfl⟩
    rw [← hT] at hle ⊢
    have HT := Lib.hid hT
    clear hT
    go_wp2_with (first | (at_next; refine wpList_next_ranges _ rfl _ rfl 3 keyInt blkR (Value.int .i64) (fun a : Option Nat => .pointer (a.map fun b => ⟨b, 0, none⟩)) (fun key kl hk => by obtain ⟨x, h1, _⟩ := Maps.keyOf_int_inv Try.underlying3 hk; exact ⟨x, h1⟩) (fun v y hy => by obtain ⟨a, h1, _⟩ := blkR_shape hy; exact ⟨a, h1⟩) B.m w.heap.size X.L.length D left cnt rfl hrg ?_ ?_))
    · intro hc0 hl0
      have hh := HH.out.1.ext HR.out.2
      have x10' := cellAt hh.blk 10 (.map (some B.m)) rfl
      have hlr := hh.lt
      have hlen := hh.live.len 3
      have hTs : T = sumT X.L := HT.out.trans (leftT_none hl0)
      have HS := Lib.hid hTs
      clear hrg hc0 hl0 hh hTs
      go_wp2_with fail
      go_ret2
      exact ⟨by rw [HS.out]; rfl, HR.out.2⟩
    · intro x c kl ya yb w1 cnt1 hk hlk hR hat hrg1 hlt1 hg1 hs1 hen
      obtain ⟨x', e, rfl, hwx⟩ := Maps.keyOf_int_inv Try.underlying3 hk
      cases e
      have hxw : i64ok' x := by
        simp [Lit.wf] at hwx
        exact hwx
      have hhas := Maps.has_true_of_atKey hat
      rw [HD.out.2.2.1 x hxw] at hhas
      obtain ⟨l, hl, rfl⟩ := hasL_iff.1 hhas
      obtain ⟨k, h6, f, h7⟩ := HD.out.2.2.2 l hl
      have hya : ya = .lit (.int .i64 (k : Int)) := (hat (.lit (.int .i64 0))).symm.trans (h6 _)
      subst hya
      obtain rfl : c = some k := by
        have h9 := blkR_is hR
        cases c with
        | none => simp at h9
        | some c => simpa using h9
      have hE1 : Ext w w1 := ext_far HR.out.2 hg1 (fun r e => by cases e; exact Nat.le_refl _)
      have hkw := (hE1.block _ (Array.getElem?_eq_some_iff.1 h7).1).trans h7
      have x1 := cellAt hkw 1 (.int .i64 l.takes) rfl
      have hk1 := cell_lt x1
      simp only at hk1
      have hlv := HH.out.2.live hl
      have hstep := leftT_step HH.out.1.live.once hl hlk
      rw [← HT.out] at hstep
      have hle2 := leftT_le (L := X.L) (fun l hl => by have := HH.out.2.live hl; omega) (fun z => left z && !z.sameKey (.int .i64 l.at'))
      have hsm : sumT X.L ≤ 1600000 := HH.out.2.livesum
      have hw : IntKind.i64.wrap (T + l.takes) = T + l.takes := IntWalk.i64_in _ (by omega)
      have H9 := Lib.hid (And.intro hrg1 (And.intro hE1 (And.intro hstep hlt1)))
      simp only [Option.map_some] at hen
      clear hrg1 hE1 hstep hle2 hlk hat hrg hhas h6 h7 hR hk hkw hlt1 hg1
      go_wp2_with fail
      refine ⟨⟨_, _, H9.out.1, by rw [H9.out.2.2.1], H9.out.2.1⟩, ?_⟩
      rw [H9.out.1.left_eq, HR.out.1.left_eq]
      exact H9.out.2.2.2
end Go.Proofs.Ytpjlhkepdiajjaa

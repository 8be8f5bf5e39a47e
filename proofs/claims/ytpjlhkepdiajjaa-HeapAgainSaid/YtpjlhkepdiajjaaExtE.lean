
/- Package extent: what a Free is in memory; All, Most, Runs. -/
import Derived.Test.YtpjlhkepdiajjaaExtD
set_option linter.all false
namespace Go.Proofs.Ytpjlhkepdiajjaa
open Go.RowKit

/-- A Free in memory: its block, and the row of its runs. -/
structure FreeAt (w : World) (p : Nat) (a b : Int) (v : Value) (base : Nat) (R : List Run) : Prop where
  blk : w.heap[p]? = some (.cells #[.int .i64 a, .int .i64 b, v] 94)
  row : OwnR w base v R
  low : base ≤ p
  fine : AllFine R
  len : R.length ≤ 2000000
  ends : 0 ≤ a ∧ a ≤ b ∧ b ≤ 16777216
theorem FreeAt.ext {w w' : World} {p : Nat} {a b : Int} {v : Value} {base : Nat} {R : List Run} (h : FreeAt w p a b v base R) (he : Ext w w') : FreeAt w' p a b v base R :=
  ⟨(he.block p (Array.getElem?_eq_some_iff.1 h.blk).1).trans h.blk, own_ext h.row he, h.low, h.fine, h.len, h.ends⟩
theorem FreeAt.lt {w : World} {p : Nat} {a b : Int} {v : Value} {base : Nat} {R : List Run} (h : FreeAt w p a b v base R) : p < w.heap.size := (Array.getElem?_eq_some_iff.1 h.blk).1
theorem FreeAt.c0 {w : World} {p : Nat} {a b : Int} {v : Value} {base : Nat} {R : List Run} (h : FreeAt w p a b v base R) : w.cell? ⟨p, 0, none⟩ = some (.int .i64 a) := by simp [World.cell?, h.blk]
theorem FreeAt.c1 {w : World} {p : Nat} {a b : Int} {v : Value} {base : Nat} {R : List Run} (h : FreeAt w p a b v base R) : w.cell? ⟨p, 1, none⟩ = some (.int .i64 b) := by simp [World.cell?, h.blk]
theorem FreeAt.c2 {w : World} {p : Nat} {a b : Int} {v : Value} {base : Nat} {R : List Run} (h : FreeAt w p a b v base R) : w.cell? ⟨p, 2, none⟩ = some v := by simp [World.cell?, h.blk]

/-- All but two blocks are as they were. -/
structure Kept (p : Nat) (r : Option Nat) (w w' : World) : Prop where
  os : w'.os = w.os
  tape : w'.tape = w.tape
  output : w'.output = w.output
  size : w.heap.size ≤ w'.heap.size
  block : ∀ k, k < w.heap.size → k ≠ p → some k ≠ r → w'.heap[k]? = w.heap[k]?
theorem Kept.of_ext {p : Nat} {r : Option Nat} {w w' : World} (h : Ext w w') : Kept p r w w' := ⟨h.os, h.tape, h.output, h.size, fun k hk _ _ => h.block k hk⟩
theorem Kept.of_grown {p : Nat} {r : Option Nat} {w w' : World} (h : w.grownBy w' r) : Kept p r w w' := ⟨h.os, h.tape, h.output, h.size, fun k hk _ hr => h.block k hk hr⟩
theorem Kept.set {p : Nat} {r : Option Nat} (w : World) (o : Nat) (s : Option Nat) (u : Value) : Kept p r w (w.setCell ⟨p, o, none⟩ u) := ⟨rfl, rfl, rfl, by simp, fun k _ hp _ => Below.heap_setCell w ⟨p, o, none⟩ u k hp⟩
theorem Kept.trans {p : Nat} {r s : Option Nat} {a b c : World} (h : Kept p r a b) (k : Kept p s b c) (hs : s = r ∨ ∀ g, s = some g → a.heap.size ≤ g) : Kept p r a c :=
  ⟨k.os.trans h.os, k.tape.trans h.tape, k.output.trans h.output, Nat.le_trans h.size k.size, fun i hi hp hr => (k.block i (Nat.lt_of_lt_of_le hi h.size) hp (by
    rcases hs with rfl | hs
    · exact hr
    · intro e; have := hs i e.symm; omega)).trans (h.block i hi hp hr)⟩
theorem Kept.below {p B : Nat} {r : Option Nat} {w w' : World} (h : Kept p r w w') (hp : B ≤ p) (hr : ∀ g, r = some g → B ≤ g) (hB : B ≤ w.heap.size) : Below B w w' :=
  ⟨h.os, h.tape, h.output, h.size, fun k hk => h.block k (by omega) (by omega) (fun e => by have := hr k e.symm; omega)⟩

def sumR (R : List Run) : Int := (R.map fun r => r.2 - r.1).sum
def mostR (R : List Run) : Int := R.foldl (fun n r => max n (r.2 - r.1)) 0
theorem sumR_take {R : List Run} {k : Nat} (hk : k < R.length) : sumR (R.take (k + 1)) = sumR (R.take k) + (R[k].2 - R[k].1) := by
  unfold sumR
  rw [List.take_add_one, List.getElem?_eq_getElem hk, List.map_append, List.sum_append]
  simp
theorem mostR_take {R : List Run} {k : Nat} (hk : k < R.length) : mostR (R.take (k + 1)) = max (mostR (R.take k)) (R[k].2 - R[k].1) := by
  unfold mostR
  rw [List.take_add_one, List.getElem?_eq_getElem hk, List.foldl_append]
  simp
theorem sumR_small {R : List Run} (h : AllFine R) : -(16777216 * (R.length : Int)) ≤ sumR R ∧ sumR R ≤ 16777216 * R.length := by
  induction R with
  | nil => simp [sumR]
  | cons x R ih =>
    obtain ⟨h0, h1, h2, h3⟩ := h x (List.mem_cons_self)
    have := ih fun r hr => h r (List.mem_cons_of_mem _ hr)
    unfold sumR at *
    simp only [List.map_cons, List.sum_cons, List.length_cons]
    push_cast
    omega
theorem AllFine.take {R : List Run} (h : AllFine R) (k : Nat) : AllFine (R.take k) := fun r hr => h r (List.mem_of_mem_take hr)
theorem rowC_succ {R : List Run} {k : Nat} (hk : k < R.length) : rowC (R.take (k + 1)) = rowC (R.take k) ++ cell2 R[k] := by
  unfold rowC
  rw [List.take_add_one, List.getElem?_eq_getElem hk, List.flatMap_append]
  simp

set_option maxHeartbeats 4000000 in
theorem all_free (p : Nat) (a b : Int) (v : Value) (base : Nat) (R : List Run) (w : World) (h : FreeAt w p a b v base R) : Calls Try.prog 42 #[.pointer (some ⟨p, 0, none⟩)] w fun e w' => e = .returned (.int .i64 (sumR R)) ∧ Ext w w' := by
  have c2 := h.c2
  obtain ⟨A, c, rfl, hc, hA⟩ := Arr.own h.row
  have H := Lib.hid h
  have hR := h.len
  clear h
  go_enter Try.func42, Try.ntmps42
  go_wp2_with fail
  go_loopw [3, 11] (fun s i wr => ∃ k : Nat, k ≤ R.length ∧ i = .int .i64 (k : Int) ∧ s = .int .i64 (sumR (R.take k)) ∧ Ext w wr) (fun _ i _ => R.length - (intOf i).toNat)
  case atStart => exact ⟨0, Nat.zero_le _, rfl, rfl, Below.refl _ _⟩
  case round =>
    obtain ⟨k, hk, rfl, rfl, hE⟩ := hrel
    by_cases hlt : k < R.length
    · obtain ⟨b1, o1, rfl, -, q1⟩ := (hA.ext hE).flat (s := 2) (fun _ => rfl) (by decide) hlt
      have x0 : wr.cell? ⟨b1, o1 + k * 2, none⟩ = some (.int .i64 R[k].1) := by simpa using q1 0 _ rfl
      have x1 := q1 1 _ rfl
      clear q1
      have hs := sumR_take hlt
      have hb := sumR_small (H.out.fine.take k)
      have hf := H.out.fine R[k] (List.getElem_mem hlt)
      have hl : ((R.take k).length : Int) ≤ 2000000 := by simp; omega
      have hw : IntKind.i64.wrap (sumR (R.take k) + (R[k].2 - R[k].1)) = sumR (R.take k) + (R[k].2 - R[k].1) := IntWalk.i64_in _ (by obtain ⟨f0, f1, f2, f3⟩ := hf; omega)
      have HS := Lib.hid hs
      have hcall := size_any R[k].1 R[k].2 (wr.alloc (.cells #[.int .i64 R[k].1, .int .i64 R[k].2] 91)) hf
      have HC := Lib.hid hcall
      clear hs hb hf hl hcall
      go_wp2_with fail
      refine HC.out.mono ?_
      rintro e w2 ⟨rfl, hb2⟩
      go_wp2_with fail
      exact ⟨⟨k + 1, by omega, by simp, by rw [HS.out], (hE.alloc _).then hb2⟩, by simp [intOf]; omega⟩
    · have : k = R.length := by omega
      subst this
      rw [List.take_length]
      go_wp2_with fail
      go_ret
      exact ⟨rfl, hE⟩
theorem infoPair : (Try.prog.info? 90).map (fun i => (i.zero, i.size, i.bytes)) = some (some (.agg #[.int .i64 0, .int .i64 0]), 2, 16) := by kernel_rfl
end Go.Proofs.Ytpjlhkepdiajjaa

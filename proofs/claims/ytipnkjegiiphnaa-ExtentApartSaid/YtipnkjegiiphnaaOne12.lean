/- A memory, and a row of pairs beside it. -/
import Derived.Test.YtipnkjegiiphnaaTwo12
set_option linter.all false
namespace Go.Proofs.Ytipnkjegiiphnaa
open Go.RowKit

structure Mem1 (w0 W : World) (p : Nat) (a b : Int) (v : Value) (B : Nat) (Q : List Run) (hv : Value) (n : Nat) (L : List Run) : Prop where
  f : FreeAt W p a b v B Q
  row : W.ownsRow w0.heap.size 38 2 hv n (rowC L)
  e : Ext w0 W
  b1 : w0.heap.size ≤ B
section
variable {w0 W W' : World} {p : Nat} {a b : Int} {v : Value} {B : Nat} {Q : List Run} {hv : Value} {n : Nat} {L : List Run}
theorem Mem1.ext (h : Mem1 w0 W p a b v B Q hv n L) (he : Ext W W') : Mem1 w0 W' p a b v B Q hv n L := ⟨h.f.ext he, own_ext h.row he, h.e.then he, h.b1⟩
theorem Mem1.grown (h : Mem1 w0 W p a b v B Q hv n L) {o : Obj} {hv' : Value} {x : Run} (hg : (W.alloc o).grownBy W' hv.ownBlock) (hr : W'.ownsRow w0.heap.size 38 2 hv' (n + 1) (rowC L ++ cell2 x)) : Mem1 w0 W' p a b v B Q hv' (n + 1) (L ++ [x]) :=
  have hx : Ext W (W.alloc o) := Ext.alloc (Below.refl _ W) o
  ⟨free_grown (h.f.ext hx) (own_ext h.row hx) hg, by rw [rowC_append]; exact hr, row_grown_ext h.e h.row (Nat.le_refl _) _ hg, h.b1⟩
theorem Mem1.turn (h : Mem1 w0 W p a b v B Q hv n L) {v' : Value} {S : List Run} (hF : FreeAt W' p a b v' B S) (K : Kept p v.ownBlock W W') : Mem1 w0 W' p a b v' B S hv n L :=
  ⟨hF, pair_kept h.f K h.row, Below.trans h.e (free_below h.f K h.b1), h.b1⟩
theorem give_one (h : Mem1 w0 W p a b v B Q hv n L) (hW : WF a b Q) (z k : Int) :
    Calls Try.prog 13 #[.pointer (some ⟨p, 0, none⟩), .int .i64 z, .int .i64 k] W fun e w' => e = .returned (.bool (giveR a b Q z k).2) ∧ ∃ v', Mem1 w0 w' p a b v' B (giveR a b Q z k).1 hv n L := by
  refine (give_any p a b v _ Q z k W h.f (give_len hW h.f.ends.2.1 h.f.ends.1 h.f.ends.2.2 _ _)).mono ?_
  intro e w' hg
  unfold GivePost at hg
  obtain ⟨rfl, v', hF, K, O⟩ := hg
  exact ⟨rfl, v', h.turn hF K⟩
theorem take_one (h : Mem1 w0 W p a b v B Q hv n L) (k : Int) :
    Calls Try.prog 11 #[.pointer (some ⟨p, 0, none⟩), .int .i64 k] W fun e w' => e = .returned (.tuple #[.int .i64 (takeR Q k).2.1, .bool (takeR Q k).2.2]) ∧ ∃ v', Mem1 w0 w' p a b v' B (takeR Q k).1 hv n L := by
  refine (take_any p a b v _ Q k W h.f).mono ?_
  intro e w' hg
  unfold TakePost at hg
  obtain ⟨rfl, v', hF, K, O⟩ := hg
  exact ⟨rfl, v', h.turn hF K⟩
end
theorem mostR_one (s : Int) (h : 0 ≤ s) : mostR [(0, s)] = s := by simp [mostR]; omega
theorem wf_beside {a b : Int} {R : List Run} (h : WF a b R) {k : Nat} (hk : k + 1 < R.length) : ¬ R[k + 1].1 ≤ R[k].2 := by
  have := List.pairwise_iff_getElem.1 h.1 k (k + 1) (by omega) hk (by omega)
  omega
theorem wf_each {a b : Int} {R : List Run} (h : WF a b R) {k : Nat} (hk : k < R.length) : a ≤ R[k].1 ∧ R[k].1 < R[k].2 ∧ R[k].2 ≤ b := by
  obtain ⟨h1, h2, h3, -⟩ := h.2 R[k] (List.getElem_mem hk)
  exact ⟨h1, h2, h3⟩
theorem and_small (x m : Int) (h0 : 0 ≤ m) (h1 : m < 9223372036854775808) : 0 ≤ bits .and .i64 x m ∧ bits .and .i64 x m ≤ m := by
  have h : (BitVec.ofInt 64 x &&& BitVec.ofInt 64 m).toNat ≤ m.toNat := by
    rw [BitVec.toNat_and]
    refine Nat.le_trans Nat.and_le_right ?_
    rw [BitVec.toNat_ofInt]
    omega
  have e : bits .and .i64 x m = IntKind.i64.wrap ((BitVec.ofInt 64 x &&& BitVec.ofInt 64 m).toNat : Int) := rfl
  rw [e, IntWalk.i64_in _ (by omega)]
  omega
end Go.Proofs.Ytipnkjegiiphnaa

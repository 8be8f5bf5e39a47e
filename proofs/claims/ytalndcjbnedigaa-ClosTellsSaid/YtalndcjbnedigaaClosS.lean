
/- Package clos: a set in memory. -/
import Derived.Test.YtalndcjbnedigaaClosA
import Derived.Test.YtalndcjbnedigaaFar
import Derived.RangeFuncBound
import Derived.RangeFuncLeaves
import Derived.RangeFuncBox
import Derived.Shelf.RegionOpen
import Derived.TacticsInMore
import Derived.LoopNIn
import Derived.LoopIn
import Derived.RegionIn
set_option linter.all false
namespace Go.Proofs.Ytalndcjbnedigaa
open Go.RowKit Go.Shelf
attribute [local go_sem] Oper.semAt_some

set_option maxRecDepth 20000 in
theorem opens_any (sp : Nat) (w : World) : Calls Try.prog 25 #[.pointer (some ⟨sp, 0, none⟩)] w fun e w' => e = .returned (.func (.func 58) #[] #[.pointer (some ⟨w.heap.size, 0, none⟩)]) ∧ w' = w.alloc (.cells #[.pointer (some ⟨sp, 0, none⟩)] 26) := by
  go_enter Try.func25, Try.ntmps25
  go_wp2
  go_ret
  exact ⟨rfl, rfl⟩
/-- A set as it lies: its two rows, each of the call's own. -/
structure SetAt (B : Nat) (W : World) (sp : Nat) (vg vo : Value) (G O : List Cap) : Prop where
  row : W.heap[sp]? = some (.cells #[vg, vo] 48)
  g : W.ownsRow B 24 6 vg G.length (capCells G)
  o : W.ownsRow B 24 6 vo O.length (capCells O)
  dis : Dis vg vo
theorem SetAt.ext {B : Nat} {W W' : World} {sp : Nat} {vg vo : Value} {G O : List Cap} (h : SetAt B W sp vg vo G O) (e : Ext W W') : SetAt B W' sp vg vo G O :=
  ⟨(e.block _ (Array.getElem?_eq_some_iff.1 h.row).1).trans h.row, own_ext h.g e, own_ext h.o e, h.dis⟩
theorem abides_ext {β : Type} {B : Nat} {J : β → World → Prop} (hJ : AbidesFrom B J) {s : β} {W W' : World} (h : J s W) (e : Ext W W') : J s W' :=
  hJ s W W' none h ⟨e.os, e.tape, e.output, e.size, fun k hk _ => e.block k hk⟩ (fun r e => by cases e)
theorem arrOwn {w : World} {base n c : Nat} {e : TypeId} {size : Nat} {A : Option Addr} {cs : List Value} (h : w.ownsRow base e size (.slice A n c) n cs) : Arr w A cs := by
  obtain ⟨A', c', he, -, hA⟩ := Arr.own h
  simp only [Value.slice.injEq] at he
  rw [he.1]
  exact hA
theorem any_contains {O : List Cap} {c : Cap} : O.contains c = O.any fun x => decide (c = x) := by
  rw [Bool.eq_iff_iff, List.contains_iff_mem, List.any_eq_true]
  constructor
  · exact fun h => ⟨c, h, by simp⟩
  · rintro ⟨x, hx, he⟩
    obtain rfl := of_decide_eq_true he
    exact hx
theorem fold_succ {G : List Cap} {k : Nat} (hk : k < G.length) (O : List Cap) : (G.take (k + 1)).foldl openStep O = openStep ((G.take k).foldl openStep O) G[k] := by
  rw [List.take_add_one, List.getElem?_eq_getElem hk, List.foldl_append]
  rfl
end Go.Proofs.Ytalndcjbnedigaa


/- Capabilities as they lie. -/
import Derived.Test.YtpjlhkepdiajjaaOnly
set_option linter.all false
namespace Go.Proofs.Ytpjlhkepdiajjaa
open Go.RowKit

structure Cap where
  tag : Bool
  base : Int
  top : Int
  at' : Int
  perms : Int
  ty : Int
deriving DecidableEq, Inhabited
abbrev Cap.cells (c : Cap) : List Value := [.bool c.tag, .int .i64 c.base, .int .i64 c.top, .int .i64 c.at', .int .i64 c.perms, .int .i64 c.ty]
abbrev Cap.val (c : Cap) : Value := .agg #[.bool c.tag, .int .i64 c.base, .int .i64 c.top, .int .i64 c.at', .int .i64 c.perms, .int .i64 c.ty]
def Cap.zero : Cap := ⟨false, 0, 0, 0, 0, 0⟩
abbrev capCells (l : List Cap) : List Value := l.flatMap Cap.cells
theorem infoCap : (Try.prog.info? 27).map (fun i => (i.zero, i.size, i.bytes)) = some (some (.agg #[.bool false, .int .i64 0, .int .i64 0, .int .i64 0, .int .i64 0, .int .i64 0]), 6, 48) := by kernel_rfl
theorem capCells_len (l : List Cap) : (capCells l).length = l.length * 6 := flat_length Cap.cells 6 (fun _ => rfl) l
theorem capCells_one (l : List Cap) : ∀ u ∈ capCells l, u.oneCell' = true := by
  intro u hu
  obtain ⟨x, -, hx⟩ := List.mem_flatMap.1 hu
  simp only [List.mem_cons, List.not_mem_nil, or_false] at hx
  rcases hx with rfl | rfl | rfl | rfl | rfl | rfl <;> rfl
theorem capCells_app (a b : List Cap) : capCells (a ++ b) = capCells a ++ capCells b := List.flatMap_append
theorem lie6' {w W : World} {b : Nat} {v0 v1 v2 v3 v4 v5 : Value} {t : TypeId} (hB : w.heap[b]? = some (.cells #[v0, v1, v2, v3, v4, v5] t)) (hE : Ext w W) :
    W.cell? ⟨b, 0, none⟩ = some v0 ∧ W.cell? ⟨b, 1, none⟩ = some v1 ∧ W.cell? ⟨b, 2, none⟩ = some v2 ∧ W.cell? ⟨b, 3, none⟩ = some v3 ∧ W.cell? ⟨b, 4, none⟩ = some v4 ∧ W.cell? ⟨b, 5, none⟩ = some v5 := by
  have h := (hE.block b (Array.getElem?_eq_some_iff.1 hB).1).trans hB
  exact ⟨by simp [World.cell?, h], by simp [World.cell?, h], by simp [World.cell?, h], by simp [World.cell?, h], by simp [World.cell?, h], by simp [World.cell?, h]⟩
/-- A row of capabilities of the call's own. -/
def GivesC (w : World) (l : List Cap) (x : Ending) (w' : World) : Prop := ∃ v, x = .returned v ∧ w'.ownsRow w.heap.size 27 6 v l.length (capCells l) ∧ Ext w w'
/-- Capabilities that lie in a row. -/
theorem cap_row {w : World} {A : Option Addr} {l : List Cap} (h : Arr w A (capCells l)) {k : Nat} (hk : k < l.length) :
    ∃ b o, A = some ⟨b, o, none⟩ ∧ b < w.heap.size ∧ w.cell? ⟨b, o + k * 6, none⟩ = some (.bool l[k].tag) ∧ w.cell? ⟨b, o + k * 6 + 1, none⟩ = some (.int .i64 l[k].base) ∧ w.cell? ⟨b, o + k * 6 + 2, none⟩ = some (.int .i64 l[k].top) ∧ w.cell? ⟨b, o + k * 6 + 3, none⟩ = some (.int .i64 l[k].at') ∧ w.cell? ⟨b, o + k * 6 + 4, none⟩ = some (.int .i64 l[k].perms) ∧ w.cell? ⟨b, o + k * 6 + 5, none⟩ = some (.int .i64 l[k].ty) := by
  obtain ⟨b, o, e, hb, q⟩ := h.flat (s := 6) (f := Cap.cells) (fun _ => rfl) (by decide) hk
  exact ⟨b, o, e, hb, q 0 _ rfl, q 1 _ rfl, q 2 _ rfl, q 3 _ rfl, q 4 _ rfl, q 5 _ rfl⟩
end Go.Proofs.Ytpjlhkepdiajjaa

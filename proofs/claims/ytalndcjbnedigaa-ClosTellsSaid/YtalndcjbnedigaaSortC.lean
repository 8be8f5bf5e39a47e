
/- slices.SortFunc over the open ones, in a row of the call's own. -/
import Derived.Test.YtalndcjbnedigaaCmpC
import Derived.Test.YtalndcjbnedigaaSortL
import Derived.Test.YtalndcjbnedigaaPhiR
import Derived.Sort.OwnSortedInts
set_option linter.all false
namespace Go.Proofs.Ytalndcjbnedigaa
open Go.RowKit Go.Shelf Go.Sort
attribute [local go_sem] seen dstOf boolOf

/-- What a call has laid, and drawn. -/
def Grows (w w' : World) : Prop := ∃ q os, w' = grow (w.drewN q) os
theorem Grows.refl (w : World) : Grows w w := ⟨0, #[], by rw [grow_empty]; rfl⟩
theorem Grows.trans {a b c : World} (h : Grows a b) (k : Grows b c) : Grows a c := by
  obtain ⟨q, os, rfl⟩ := h
  obtain ⟨q', os', rfl⟩ := k
  exact ⟨q + q', os ++ os', by simp [grow, World.drewN, Nat.add_assoc]⟩
theorem Grows.alloc {a b : World} (h : Grows a b) (o : Obj) : Grows a (b.alloc o) := h.trans ⟨0, #[o], by rw [alloc_eq_grow]; rfl⟩
theorem Grows.drew {a b : World} (h : Grows a b) : Grows a b.drew := h.trans ⟨1, #[], by rw [grow_empty]; rfl⟩
theorem Grows.ext {w w' : World} (h : Grows w w') : Ext w w' := by
  obtain ⟨q, os, rfl⟩ := h
  exact ⟨rfl, rfl, rfl, by simp [grow, World.drewN], fun k hk => by simp [grow, World.drewN, Array.getElem?_append, hk]⟩
/-- A row of three numbers. -/
def Row3 (x : Tri) : Pr := fun v W => ∃ b, v = .slice (some ⟨b, 0, none⟩) 3 3 ∧ W.heap[b]? = some (.cells #[.int .i64 x.1, .int .i64 x.2.1, .int .i64 x.2.2] 3)
theorem Row3.ext {x : Tri} {v : Value} {W W' : World} (h : Row3 x v W) (e : Ext W W') : Row3 x v W' := by
  obtain ⟨b, h1, h2⟩ := h
  exact ⟨b, h1, (e.block _ (Array.getElem?_eq_some_iff.1 h2).1).trans h2⟩
theorem row3_at {x : Tri} {b : Nat} {W : World} (h : W.heap[b]? = some (.cells #[.int .i64 x.1, .int .i64 x.2.1, .int .i64 x.2.2] 3)) : ∀ j (g : j < (triL x).length), W.cell? ⟨b, 0 + j, none⟩ = some (.int .i64 (triL x)[j]) := by
  intro j g
  have : j < 3 := g
  match j, this with
  | 0, _ => simp [World.cell?, h, triL]
  | 1, _ => simp [World.cell?, h, triL]
  | 2, _ => simp [World.cell?, h, triL]
set_option maxHeartbeats 1000000 in
set_option maxRecDepth 20000 in
theorem open2_any (a b : Cap) (w : World) : Calls Try.prog 41 #[a.val, b.val] w fun e w' => e = .returned (.int .i64 (cmpT (tri a) (tri b))) ∧ Grows w w' := by
  obtain ⟨r, hr⟩ : ∃ r, r = cmpT (tri a) (tri b) := ⟨_, rfl⟩
  have HR := Lib.hid hr
  rw [← hr]
  clear hr
  go_enter Try.func41, Try.ntmps41
  go_wp2_with fail
  refine (compare_any (w.heap.size + 1 + 1) (w.heap.size + 1 + 1 + 1) (tri a) (tri b) _ ?h1 ?h2).mono ?_
  case h1 => exact row3_at (new_at (w := (w.alloc _).alloc _) (by simp) (Ext.alloc (Below.refl _ _) _))
  case h2 => exact row3_at (new_at (w := ((w.alloc _).alloc _).alloc _) (by simp) (Below.refl _ _))
  rintro e w1 ⟨rfl, rfl⟩
  go_wp2_with fail
  go_ret
  exact ⟨by rw [HR.out]; rfl, (((((Grows.refl w).alloc _).alloc _).alloc _).alloc _)⟩
def encT (x : Tri) : List Value := (unt x).cells
theorem encT_len (x : Tri) : (encT x).length = 6 := rfl
theorem cmpLays (blk off size : Nat) (w : World) : CmpLays Try.prog 41 #[] encT 6 cmpT blk off size w :=
  fun m os dk _ x y => (open2_any (unt x) (unt y) _).mono fun _ _ ⟨he, hw⟩ => ⟨he, hw⟩
theorem capCells_unt (l : List Tri) : capCells (l.map unt) = l.flatMap encT := by
  unfold capCells
  rw [List.flatMap_map]
  rfl
theorem flat_encT (l : List Tri) : (flatK encT 6 l.toArray).toList = capCells (l.map unt) := by
  rw [capCells_unt]
  refine List.ext_getElem? fun j => ?_
  by_cases hj : j < l.length * 6
  · have h1 : j / 6 < l.length := by omega
    have h2 := flat_get encT 6 encT_len l (j / 6) (j % 6) h1 (by omega)
    rw [show j / 6 * 6 + j % 6 = j by omega] at h2
    rw [h2]
    have h3 : j % 6 < (encT l[j / 6]).length := by rw [encT_len]; omega
    rw [List.getElem?_eq_getElem h3, Array.getElem?_toList]
    have h4 : j < (flatK encT 6 l.toArray).size := by rw [size_flatK]; simpa using hj
    rw [Array.getElem?_eq_getElem h4]
    have h5 := get_flatK encT 6 l.toArray j (by simpa using hj)
    rw [getElem!_pos _ j h4] at h5
    rw [h5]
    rw [getElem!_pos _ (j / 6) (by simpa using h1)]
    simp only [List.getElem_toArray]
    rw [getElem!_pos _ (j % 6) h3]
  · rw [List.getElem?_eq_none (by rw [Array.length_toList, size_flatK]; simpa using hj), List.getElem?_eq_none (by rw [flat_length encT 6 encT_len]; omega)]
theorem heap_sortC {w : World} {g n : Nat} {os : Array Obj} {cur : Array Value} {e : TypeId} {fr : Nat × Nat} (d : Array Value) (hb : w.heap[g]? = some (.cells cur e fr)) :
    (grow (putRow (id : Value → Value) (Sort.ahead w n) g 0 d) os).heap[g]? = some (.cells (putCells id 0 d cur) e fr) := by
  have hg : g < w.heap.size := (Array.getElem?_eq_some_iff.1 hb).1
  rw [heap_grow_old _ _ (by simpa using hg)]
  simp [putRow, mapBlock, Sort.ahead, Array.getElem?_modify, hb, onCells]
theorem take_sortC (cur : Array Value) (d : Array Value) (h : d.size ≤ cur.size) : (putCells id 0 d cur).toList.take d.size = d.toList := by
  refine List.ext_getElem? fun j => ?_
  by_cases hj : j < d.size
  · rw [List.getElem?_take_of_lt hj, Array.getElem?_toList, Array.getElem?_toList, Array.getElem?_eq_getElem hj]
    simp [putCells, hj, show j < cur.size by omega]
  · rw [List.getElem?_take_eq_none (by omega), Array.getElem?_toList, Array.getElem?_eq_none (by omega)]
theorem below_sortC {B : Nat} {w : World} {g n : Nat} {os : Array Obj} (d : Array Value) (hg : B ≤ g) (hB : B ≤ w.heap.size) : Below B w (grow (putRow (id : Value → Value) (Sort.ahead w n) g 0 d) os) := by
  refine ⟨rfl, rfl, rfl, by simp [grow, putRow, mapBlock, Sort.ahead], fun k hk => ?_⟩
  rw [heap_grow_old _ _ (by simp; omega)]
  have : g ≠ k := by omega
  simp [putRow, mapBlock, Sort.ahead, Array.getElem?_modify, this]
theorem encT_one (x : Tri) : ∀ v ∈ encT x, v.oneCell' = true := capCells_one1 (unt x)
/-- A row of the call's own is sorted. -/
theorem sort_own {B : Nat} {v : Value} {l : List Tri} {w : World} (h : w.ownsRow B 24 6 v l.length (capCells (l.map unt))) (hB : B ≤ w.heap.size) (hl : l.length ≤ 1000) :
    Calls Try.prog 40 #[v, .func (.func 41) #[] #[]] w fun e w' => e = .returned (.tuple #[]) ∧ w'.ownsRow B 24 6 v l.length (capCells ((l.mergeSort fun x y => !ltT y x).map unt)) ∧ Below B w w' := by
  have none : ∀ (A : Option Addr) (c : Nat), l = [] → v = .slice A 0 c → Calls Try.prog 40 #[v, .func (.func 41) #[] #[]] w fun e w' => e = .returned (.tuple #[]) ∧ w'.ownsRow B 24 6 v l.length (capCells ((l.mergeSort fun x y => !ltT y x).map unt)) ∧ Below B w w' := by
    intro A c h0 hv
    subst h0 hv
    have := AnyF.slices_SortFunc_none sortC A c (.func (.func 41) #[] #[]) w
    refine Calls.mono (f := 40) this ?_
    rintro e w' ⟨rfl, rfl⟩
    exact ⟨rfl, by simpa using h, Below.refl _ _⟩
  have hr := h
  rcases hr.2 with ⟨h1, h2⟩ | ⟨g, c, cur, rfl, hg, hb, hn, hc, hs, ht⟩
  · exact none _ _ (List.eq_nil_of_length_eq_zero h2) h1
  by_cases h0 : l = []
  · exact none (some ⟨g, 0, .none⟩) c h0 (by rw [h0]; rfl)
  rw [← flat_encT] at ht
  have hF : (flatK encT 6 l.toArray).size = l.length * 6 := by rw [size_flatK]; rfl
  have hH : HoldsK encT 6 w g 0 l.toArray := by
    intro j hj
    rw [hF] at hj
    refine ⟨?_, by simp [World.frozen?, hb]⟩
    have h1 : (cur.toList.take (l.length * 6))[j]? = (flatK encT 6 l.toArray).toList[j]? := by rw [ht]
    rw [List.getElem?_take_of_lt hj, Array.getElem?_toList, Array.getElem?_toList] at h1
    have h2 : j < (flatK encT 6 l.toArray).size := by omega
    rw [getElem!_pos _ j h2]
    rw [Array.getElem?_eq_getElem h2] at h1
    simp [World.cell?, hb, h1]
  have hcon := AnyQ.slices_SortFunc_total sortC 6 (fun w => Try.isAgg24 w) (fun w => Try.sizeOf24 w) encT encT_len encT_one cmpT swoT 41 #[] g 0 c l.toArray w (enters_of Try.func41 (by kernel_rfl) rfl) (cmpLays g 0 l.toArray.size w) hH (Array.getElem?_eq_some_iff.1 hb).1 (by simp; omega) partsT
  refine Calls.mono (f := 40) hcon ?_
  rintro e w' ⟨rfl, n, os, rfl⟩
  have hm : (l.mergeSort fun x y => !ltT y x).length = l.length := List.length_mergeSort _
  rw [ltOf_cmpT]
  show _ ∧ _ ∧ _
  unfold sortWorldK putRowK
  refine ⟨rfl, ⟨by rw [capCells_len, List.length_map, hm], .inr ⟨g, c, _, rfl, hg, heap_sortC _ hb, hn, hc, by simp [putCells, hs], ?_⟩⟩, below_sortC _ hg hB⟩
  rw [← flat_encT]
  have hz : (flatK encT 6 (l.mergeSort fun x y => !ltT y x).toArray).size = l.length * 6 := by rw [size_flatK, ← hm]; rfl
  rw [← hz]
  exact take_sortC cur _ (by rw [hz, hs]; exact Nat.mul_le_mul_right 6 hn)
end Go.Proofs.Ytalndcjbnedigaa


/- slices.DeleteFunc over capabilities in a row of one's own. -/
import Derived.Test.YtalndcjbnedigaaClosO
set_option linter.all false
namespace Go.Proofs.Ytalndcjbnedigaa
open Go.RowKit Go.Shelf
attribute [local go_sem] seen dstOf boolOf
attribute [local go_sem high] eqCap

theorem capCells_take (l : List Cap) (k : Nat) (hk : k ≤ l.length) : (capCells l).take (k * 6) = capCells (l.take k) := by
  have h : capCells l = capCells (l.take k) ++ capCells (l.drop k) := by rw [← capCells_app, List.take_append_drop]
  rw [h, List.take_append_of_le_length (by rw [capCells_len, List.length_take]; omega), List.take_of_length_le (by rw [capCells_len, List.length_take]; omega)]
theorem capCells_drop (l : List Cap) (k : Nat) (hk : k ≤ l.length) : (capCells l).drop (k * 6) = capCells (l.drop k) := by
  have h : capCells l = capCells (l.take k) ++ capCells (l.drop k) := by rw [← capCells_app, List.take_append_drop]
  have hl : (capCells (l.take k)).length = k * 6 := by rw [capCells_len, List.length_take]; omega
  rw [h, ← hl, List.drop_left]
theorem capCells_set (L : List Cap) (i : Nat) (c : Cap) (hi : i < L.length) : capCells (L.set i c) = capCells (L.take i) ++ (Cap.cells c ++ capCells (L.drop (i + 1))) := by
  rw [List.set_eq_take_append_cons_drop, if_pos hi, capCells_app]
  rfl
theorem take_mid {α : Type} (A C B : List α) (n m : Nat) (h : n = A.length + (C.length + m)) : (A ++ (C ++ B)).take n = A ++ (C ++ B.take m) := by
  subst h
  rw [List.take_append, Nat.add_sub_cancel_left, List.take_append, Nat.add_sub_cancel_left]
  rw [List.take_of_length_le (l := A) (by omega), List.take_of_length_le (l := C) (by omega)]
theorem splice_caps {cur : List Value} {L : List Cap} (h : cur.take (L.length * 6) = capCells L) (i : Nat) (c : Cap) (hi : i < L.length) : (splice cur (i * 6) (Cap.cells c)).take (L.length * 6) = capCells (L.set i c) := by
  have hlen : L.length * 6 ≤ cur.length := by
    have := congrArg List.length h
    rw [capCells_len, List.length_take] at this
    omega
  have h1 : cur.take (i * 6) = capCells (L.take i) := by
    rw [← capCells_take L i (by omega), ← h, List.take_take, Nat.min_eq_left (by omega)]
  have h2 : (cur.drop (i * 6 + 6)).take (L.length * 6 - i * 6 - 6) = capCells (L.drop (i + 1)) := by
    rw [← capCells_drop L (i + 1) (by omega), ← h, List.drop_take]
    congr 1
    · omega
    · congr 1; omega
  have hl1 : (cur.take (i * 6)).length = i * 6 := by rw [List.length_take]; omega
  have e1 : L.length * 6 = i * 6 + ((Cap.cells c).length + (L.length * 6 - i * 6 - 6)) := by
    show _ = i * 6 + (6 + _)
    omega
  rw [capCells_set L i c hi, splice, ← h1, ← h2]
  exact take_mid _ _ _ _ _ (by rw [hl1]; exact e1)
theorem splice_head {cur : List Value} {L : List Cap} (h : cur.take (L.length * 6) = capCells L) (i : Nat) (zs : List Value) (hi : i ≤ L.length) : (splice cur (i * 6) zs).take (i * 6) = capCells (L.take i) := by
  have hlen : L.length * 6 ≤ cur.length := by
    have := congrArg List.length h
    rw [capCells_len, List.length_take] at this
    omega
  rw [splice, List.take_append_of_le_length (by rw [List.length_take]; omega), List.take_of_length_le (by rw [List.length_take]; omega)]
  rw [← capCells_take L i hi, ← h, List.take_take, Nat.min_eq_left (by omega)]
/-- How far DeleteFunc has come: i kept of the first j. -/
structure Del (p : Cap → Bool) (l : List Cap) (j i : Nat) (L : List Cap) : Prop where
  len : L.length = l.length
  le : i < j
  lj : j ≤ l.length
  done : L.take i = (l.take j).filter fun x => !p x
  rest : L.drop j = l.drop j
theorem Del.at {p : Cap → Bool} {l L : List Cap} {j i : Nat} (h : Del p l j i L) (hj : j < l.length) : ∃ hL : j < L.length, L[j] = l[j] := by
  refine ⟨by rw [h.len]; exact hj, ?_⟩
  have := congrArg (fun x => x[0]?) h.rest
  simp only [List.getElem?_drop, Nat.add_zero] at this
  rw [List.getElem?_eq_getElem hj, List.getElem?_eq_getElem (by rw [h.len]; exact hj)] at this
  exact Option.some.inj this
theorem Del.count {p : Cap → Bool} {l L : List Cap} {j i : Nat} (h : Del p l j i L) : i = ((l.take j).filter fun x => !p x).length := by
  rw [← h.done, List.length_take, h.len, Nat.min_eq_left (Nat.le_of_lt (Nat.lt_of_lt_of_le h.le h.lj))]
theorem Del.keep {p : Cap → Bool} {l L : List Cap} {j i : Nat} (h : Del p l j i L) (hj : j < l.length) (hp : p l[j] = false) : Del p l (j + 1) (i + 1) (L.set i l[j]) := by
  obtain ⟨h1, h2, h3, h4, h5⟩ := h
  refine ⟨by simp [h1], by omega, hj, ?_, ?_⟩
  · have e1 : (L.set i l[j]).take (i + 1) = L.take i ++ [l[j]] := by
      rw [List.take_add_one, List.take_set_of_le (Nat.le_refl _), List.getElem?_set_self (by omega)]
      rfl
    have e2 : (l.take (j + 1)).filter (fun x => !p x) = (l.take j).filter (fun x => !p x) ++ [l[j]] := by
      rw [List.take_add_one, List.getElem?_eq_getElem hj, List.filter_append]
      simp [hp]
    rw [e1, e2, h4]
  · rw [List.drop_set_of_lt (by omega), ← List.drop_drop, h5, List.drop_drop]
theorem Del.skip {p : Cap → Bool} {l L : List Cap} {j i : Nat} (h : Del p l j i L) (hj : j < l.length) (hp : p l[j] = true) : Del p l (j + 1) i L := by
  obtain ⟨h1, h2, h3, h4, h5⟩ := h
  refine ⟨h1, by omega, hj, ?_, ?_⟩
  · rw [List.take_add_one, List.getElem?_eq_getElem hj, List.filter_append, ← h4]
    simp [hp]
  · rw [← List.drop_drop, h5, List.drop_drop]
theorem Del.start {p : Cap → Bool} {l : List Cap} {k : Nat} (hk : k < l.length) (hp : p l[k] = true) (h : ∀ j (hj : j < l.length), j < k → p l[j] = false) : Del p l (k + 1) k l := by
  refine ⟨rfl, by omega, hk, ?_, rfl⟩
  rw [List.take_add_one, List.getElem?_eq_getElem hk, List.filter_append]
  have : (l.take k).filter (fun x => !p x) = l.take k := by
    rw [List.filter_eq_self]
    intro x hx
    obtain ⟨j, hj, rfl⟩ := List.getElem_of_mem hx
    rw [List.length_take] at hj
    rw [List.getElem_take, h j (by omega) (by omega)]
    rfl
  rw [this]
  simp [hp]
theorem ends_first {α : Type} (p : α → Bool) (l : List α) : (idxP p l = -1 ∧ ∀ x ∈ l, p x = false) ∨ ∃ k, ∃ hk : k < l.length, idxP p l = (k : Int) ∧ p l[k] = true ∧ ∀ j (hj : j < l.length), j < k → p l[j] = false := by
  unfold idxP
  cases h : l.findIdx? p with
  | none => exact .inl ⟨rfl, List.findIdx?_eq_none_iff.1 h⟩
  | some i =>
    obtain ⟨hi, hp, hn⟩ := List.findIdx?_eq_some_iff_getElem.1 h
    exact .inr ⟨i, hi, rfl, hp, fun j hj hji => by simpa using hn j hji⟩
theorem Low.then {B : Nat} {a b c : World} (h : Below B a b) (hB : B ≤ a.heap.size) (k : Ext b c) : Below B a c := h.trans (k.mono (Nat.le_trans hB h.size))
theorem capCells_one1 (y : Cap) : ∀ v ∈ y.cells, v.oneCell' = true := by
  intro v hv
  simp only [List.mem_cons, List.not_mem_nil, or_false] at hv
  rcases hv with rfl | rfl | rfl | rfl | rfl | rfl <;> rfl
theorem row_open {B gb n c : Nat} {xs : List Value} {W : World} (h : W.ownsRow B 24 6 (.slice (some ⟨gb, 0, none⟩) n c) n xs) : ∃ cur : List Value, W.heap[gb]? = some (.cells cur.toArray 24 (0, 0)) ∧ cur.length = c * 6 ∧ cur.take (n * 6) = xs ∧ B ≤ gb ∧ n ≤ c ∧ c ≤ maxLen := by
  rcases h with ⟨-, ⟨h1, -⟩ | ⟨g, cap, cur, h1, h2, h3, h4, h5, h6, h7⟩⟩
  · simp at h1
  · simp only [Value.slice.injEq, Option.some.injEq, Addr.mk.injEq, and_true, true_and] at h1
    obtain ⟨rfl, rfl⟩ := h1
    exact ⟨cur.toList, by simpa using h3, by simpa using h6, h7, h2, h4, h5⟩
theorem row_cell {gb : Nat} {cur : List Value} {W : World} (h : W.heap[gb]? = some (.cells cur.toArray 24 (0, 0))) (o : Nat) (ho : o < cur.length) : (∃ v, W.cell? ⟨gb, o, none⟩ = some v) ∧ W.frozen? ⟨gb, o, none⟩ = false := by
  constructor
  · exact ⟨cur[o], by simp [World.cell?, h, ho]⟩
  · simp [World.frozen?, h]
theorem row_store {P : Program} {gb : Nat} {cur : List Value} {W : World} (h : W.heap[gb]? = some (.cells cur.toArray 24 (0, 0))) (a : Nat) (y : Cap) (ha : a * 6 + 6 ≤ cur.length) :
    Sem.run P (storeCells ⟨gb, a * 6, none⟩ y.cells 0) W = .ok () (W.setRow gb (splice cur (a * 6) y.cells).toArray) := by
  have := run_storeCells_at P gb (a * 6) 24 y.cells 0 cur.toArray W h (by simpa using ha) (capCells_one1 y)
  simp only [Nat.add_zero, ← splice_eq] at this
  exact this
theorem row_six {gb : Nat} {cur : List Value} {W : World} (h : W.heap[gb]? = some (.cells cur.toArray 24 (0, 0))) (a : Nat) (y : Cap) (ha : a * 6 + 6 ≤ cur.length) :
    ((((((W.setCell ⟨gb, a * 6, none⟩ (.bool y.tag)).setCell ⟨gb, a * 6 + 1, none⟩ (.int .i64 y.base)).setCell ⟨gb, a * 6 + 2, none⟩ (.int .i64 y.top)).setCell ⟨gb, a * 6 + 3, none⟩ (.int .i64 y.at')).setCell ⟨gb, a * 6 + 4, none⟩ (.int .i64 y.perms)).setCell ⟨gb, a * 6 + 5, none⟩ (.int .i64 y.ty)) = W.setRow gb (splice cur (a * 6) y.cells).toArray := by
  have h1 := row_store (P := Try.prog) h a y ha
  have h2 := run_storeCells_cells (P := Try.prog) gb (a * 6) y.cells 0 W (fun j hj => by rw [Nat.add_zero]; obtain ⟨⟨v, hv⟩, -⟩ := row_cell h (a * 6 + j) (by have : j < 6 := hj; omega); rw [hv]; rfl) (fun j hj => by rw [Nat.add_zero]; exact (row_cell h (a * 6 + j) (by have : j < 6 := hj; omega)).2) (capCells_one1 y)
  rw [h1] at h2
  simp only [Result.ok.injEq, true_and] at h2
  rw [h2]
  rfl
theorem low_setRow {B gb : Nat} {W : World} (cs : Array Value) (h : B ≤ gb) : Below B W (W.setRow gb cs) :=
  ⟨rfl, rfl, rfl, by simp [World.setRow], fun k hk => setRow_other W gb k cs (by omega)⟩
theorem own_row_set {B gb c n : Nat} {cur : List Value} {W : World} {L : List Cap} (h : W.heap[gb]? = some (.cells cur.toArray 24 (0, 0)) ∧ cur.length = c * 6 ∧ cur.take (n * 6) = capCells L) (hn : n ≤ c) (hB : B ≤ gb) (hc : c ≤ maxLen) (hL : L.length = n) {a : Nat} (ha : a < n) (y : Cap) :
    (W.setRow gb (splice cur (a * 6) y.cells).toArray).ownsRow B 24 6 (.slice (some ⟨gb, 0, none⟩) n c) n (capCells (L.set a y)) := by
  obtain ⟨h1, h2, h3⟩ := h
  have hs : (splice cur (a * 6) y.cells).length = cur.length := length_splice _ _ _ (by show a * 6 + 6 ≤ _; omega)
  subst hL
  refine ⟨by rw [capCells_len, List.length_set], .inr ⟨gb, c, _, rfl, hB, setRow_heap W gb cur.toArray _ _ _ h1, hn, hc, by simpa [h2] using hs, by simpa using splice_caps h3 a y ha⟩⟩
set_option maxHeartbeats 4000000 in
set_option maxRecDepth 20000 in
theorem deleteC (B : Nat) (v : Value) (l : List Cap) (w : World) (g : Nat) (q : Array Value) (p : Cap → Bool) (h : w.ownsRow B 24 6 v l.length (capCells l)) (hB : B ≤ w.heap.size) (hl : l.length ≤ 1000) (eg : ∀ args w, (callFunc g args).run Try.prog w = .ok (.enter g args) w)
    (hp : ∀ (W : World) (x : Cap), x ∈ l → Below B w W → Calls Try.prog g (#[x.val] ++ q) W (Tell W (p x))) :
    Calls Try.prog 36 #[v, .func (.func g) #[] q] w fun e w' => ∃ v', e = .returned v' ∧ w'.ownsRow B 24 6 v' (l.filter fun x => !p x).length (capCells (l.filter fun x => !p x)) ∧ Below B w w' := by
  obtain ⟨A, c, rfl, hc, hA⟩ := Arr.own h
  have HI := Lib.hid (indexCap A c l g q p w hA (Nat.le_trans hl (by decide)) eg (fun W x hx hW => hp W x hx (hW.mono hB)))
  have HP := Lib.hid hp
  have HO := Lib.hid h
  clear hp h hA
  rcases ends_first p l with ⟨he, hn⟩ | ⟨k, hk, he, hk1, hk2⟩
  · rw [he] at HI
    have hf : (l.filter fun x => !p x) = l := by
      rw [List.filter_eq_self]
      intro x hx
      rw [hn x hx]
      rfl
    rw [hf]
    clear he hn hf
    go_enter Try.func36, Try.ntmps36
    go_wp2_with fail
    refine HI.out.mono ?_
    rintro e w1 ⟨rfl, hE⟩
    go_wp2_with fail
    go_ret
    exact ⟨_, rfl, own_ext HO.out hE, hE.mono hB⟩
  · rw [he] at HI
    have hne : ((k : Int) == -1) = false := beq_eq_false_iff_ne.2 (by omega)
    have hw1 : IntKind.i64.wrap ((k : Int) + 1) = (k : Int) + 1 := IntWalk.i64_in _ (by omega)
    have HS := Lib.hid (Del.start hk hk1 hk2)
    obtain ⟨gb, hA⟩ : ∃ gb, A = some ⟨gb, 0, none⟩ := by
      rcases HO.out.2 with ⟨h1, h2⟩ | ⟨gb, cap, cur, h1, -⟩
      · omega
      · simp only [Value.slice.injEq] at h1
        exact ⟨gb, h1.1⟩
    subst hA
    clear he hk1 hk2
    go_enter Try.func36, Try.ntmps36
    go_wp2_with fail
    refine HI.out.mono ?_
    rintro e w1 ⟨rfl, hE⟩
    have H1 := Lib.hid (And.intro (own_ext HO.out hE) (hE.mono hB))
    clear hE
    go_wp2_with fail
    go_loopw [5, 6, 7] (fun i j _ wr => ∃ (a b : Nat) (L : List Cap), b ≤ l.length ∧ i = .int .i64 (a : Int) ∧ j = .int .i64 (b : Int) ∧ Hid (Del p l b a L ∧ wr.ownsRow B 24 6 (.slice (some ⟨gb, 0, none⟩) l.length c) l.length (capCells L) ∧ Below B w wr)) (fun _ j _ _ => l.length - (intOf j).toNat)
    case atStart => exact ⟨k, k + 1, l, hk, rfl, by rfl, Lib.hid ⟨HS.out, H1.out⟩⟩
    case round =>
      obtain ⟨a, b, L, hb, rfl, rfl, HD⟩ := hrel
      by_cases hlt : b < l.length
      · obtain ⟨hL, hLb⟩ := HD.out.1.at hlt
        have hwr : B ≤ wr.heap.size := Nat.le_trans hB HD.out.2.2.size
        obtain ⟨b1, o1, e1, -, q1⟩ := (arrOwn HD.out.2.1).flat (f := Cap.cells) (s := 6) (fun _ => rfl) (by decide) hL
        simp only [Option.some.injEq, Addr.mk.injEq, and_true] at e1
        obtain ⟨rfl, rfl⟩ := e1
        have x0 : wr.cell? ⟨gb, 0 + b * 6, none⟩ = some (.bool L[b].tag) := by simpa using q1 0 _ rfl
        have x1 := q1 1 _ rfl
        have x2 := q1 2 _ rfl
        have x3 := q1 3 _ rfl
        have x4 := q1 4 _ rfl
        have x5 := q1 5 _ rfl
        rw [hLb] at x0 x1 x2 x3 x4 x5
        simp only [Nat.zero_add] at x0 x1 x2 x3 x4 x5
        obtain ⟨y, hy⟩ : ∃ y, y = l[b] := ⟨_, rfl⟩
        have hym : y ∈ l := by rw [hy]; exact List.getElem_mem hlt
        obtain ⟨U, hU⟩ : ∃ U, U = wr.alloc (.cells y.cells.toArray 24) := ⟨_, rfl⟩
        have EU : Ext wr U := by rw [hU]; exact (by repeat first | (with_reducible exact Below.refl _ _) | (with_reducible apply Ext.alloc) | (with_reducible apply Ext.drew) | (with_reducible apply Ext.drewN) | (with_reducible refine Ext.set ?_ (by simp)))
        have hr : U.heap[wr.heap.size]? = some (.cells y.cells.toArray 24) := by rw [hU]; exact heap_alloc_new wr _
        have hcl := HP.out U y hym (Low.then HD.out.2.2 hB EU)
        rw [← hy] at x0 x1 x2 x3 x4 x5
        have HY := Lib.hid hy
        have HU := Lib.hid (And.intro EU hr)
        have HC := Lib.hid hcl
        clear q1 hLb hy EU hr hcl
        cases hx : p y
        · go_wp2_with fail
          rw [← hU]
          refine HC.out.mono ?_
          rw [hx]
          rintro e w2 ⟨rfl, hE⟩
          obtain ⟨z0, z1, z2, z3, z4, z5⟩ := lie6' HU.out.2 hE
          have hai : a < l.length := by have := HD.out.1.le; have := HD.out.1.count; omega
          obtain ⟨cur, hg2, hcl, hct, hbg, hcn, hcm⟩ := row_open (own_ext HD.out.2.1 (HU.out.1.then hE))
          obtain ⟨⟨v0, c0⟩, f0⟩ := row_cell hg2 (a * 6) (by omega)
          obtain ⟨⟨v1, c1⟩, f1⟩ := row_cell hg2 (a * 6 + 1) (by omega)
          obtain ⟨⟨v2, c2⟩, f2⟩ := row_cell hg2 (a * 6 + 2) (by omega)
          obtain ⟨⟨v3, c3⟩, f3⟩ := row_cell hg2 (a * 6 + 3) (by omega)
          obtain ⟨⟨v4, c4⟩, f4⟩ := row_cell hg2 (a * 6 + 4) (by omega)
          obtain ⟨⟨v5, c5⟩, f5⟩ := row_cell hg2 (a * 6 + 5) (by omega)
          have HM := Lib.hid (And.intro hbg hcm)
          clear hbg hcm
          have HR := Lib.hid (And.intro hg2 (And.intro hcl hct))
          clear hg2 hcl hct
          have hne0 : wr.heap.size ≠ gb := by
            intro e
            have := cell_lt x0
            simp only at this
            omega
          go_wp2_with fail
          refine ⟨⟨a + 1, b + 1, L.set a y, hlt, by rfl, by rfl, Lib.hid ⟨by rw [HY.out]; exact HD.out.1.keep hlt (by rw [← HY.out]; exact hx), ?_⟩⟩, by simp [intOf]; omega⟩
          rw [row_six HR.out.1 a y (by rw [HR.out.2.1]; omega)]
          exact ⟨own_row_set HR.out hcn HM.out.1 HM.out.2 HD.out.1.len hai y, (Low.then HD.out.2.2 hB (HU.out.1.then hE)).trans (low_setRow _ HM.out.1)⟩
        · go_wp2_with fail
          rw [← hU]
          refine HC.out.mono ?_
          rw [hx]
          rintro e w2 ⟨rfl, hE⟩
          obtain ⟨z0, z1, z2, z3, z4, z5⟩ := lie6' HU.out.2 hE
          go_wp2_with fail
          exact ⟨⟨a, b + 1, L, hlt, rfl, by rfl, Lib.hid ⟨HD.out.1.skip hlt (by rw [← HY.out]; exact hx), own_ext HD.out.2.1 (HU.out.1.then hE), Low.then HD.out.2.2 hB (HU.out.1.then hE)⟩⟩, by simp [intOf]; omega⟩
      · obtain rfl : b = l.length := by omega
        have hal : a < l.length := HD.out.1.le
        obtain ⟨cur, hg2, hcl, hct, hbg, hcn, hcm⟩ := row_open HD.out.2.1
        obtain ⟨ci, hci, hci0, hci1, hci2⟩ := info_parts infoCap
        have hcnt := HD.out.1.count
        rw [List.take_length] at hcnt
        have HF := Lib.hid (And.intro hcnt HD.out.1.done)
        have HR := Lib.hid (And.intro hcl (And.intro hct (And.intro hbg hcm)))
        clear hcnt hcl hct hbg hcm
        have hne2 : ¬ c = a := by omega
        go_wp2_with (with_reducible refine at_clear ?_; refine wpList_clear_row _ rfl (.tmp 38) 22 rfl 24 ci (.agg #[.bool false, .int .i64 0, .int .i64 0, .int .i64 0, .int .i64 0, .int .i64 0]) 6 Try.underlying22 hci hci0 rfl (by decide) (by decide) (some ⟨gb, a * 6, none⟩) (l.length - a) (c - a) (by simp [Act.eval, Act.put]) gb (a * 6) (fun _ => rfl) cur hg2 (by have := HR.out.1; omega) ?_; intro w3 hw3 hgr)
        go_ret
        obtain ⟨g1, g2, g3, g4⟩ := HR.out
        have hfil : (l.filter fun x => !p x) = L.take a := by rw [HF.out.2, List.take_length]
        have hlL := HD.out.1.len
        refine ⟨_, rfl, ?_, HD.out.2.2.trans (Below.grown (Below.refl _ _) hgr (Nat.le_trans hB HD.out.2.2.size) (fun r hr => by cases hr; exact g3))⟩
        rw [hfil]
        have hla : (L.take a).length = a := by rw [List.length_take]; omega
        rw [hla]
        have hsp : (splice cur (a * 6) (zeros (.agg #[.bool false, .int .i64 0, .int .i64 0, .int .i64 0, .int .i64 0, .int .i64 0]) (l.length - a))).length = cur.length := length_splice _ _ _ (by rw [zeros_len]; show a * 6 + (l.length - a) * 6 ≤ _; omega)
        refine ⟨by rw [capCells_len, hla], .inr ⟨gb, c, _, rfl, g3, hw3, by omega, g4, by simpa [g1] using hsp, ?_⟩⟩
        rw [← hlL] at g2
        simpa using splice_head g2 a _ (by omega)
end Go.Proofs.Ytalndcjbnedigaa

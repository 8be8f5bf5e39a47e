
/- How an image that came in is opened. -/
import Derived.Test.YtgfnpcoigooblaaSaidKit
import Derived.Test.YtgfnpcoigooblaaMore
import Derived.Test.YtgfnpcoigooblaaImgE
import Derived.SizedLaws
set_option linter.all false
namespace Go.Proofs.Ytgfnpcoigooblaa
open Go.ChangeShapes Go.WideShapes Go.ChangeAt Go.RowKit Go.Joins

section
variable {H : Type} {enc : TypeId × Value → H} {P : Program} {W : World}
theorem trod_struct6 {t : TypeId} {f0 f1 f2 f3 f4 f5 : Field} {fuel : Nat} {cs : List Value} {x : DataW H × List MemPlace} {base : Nat} {spare : Nat → Bool} {held : Bool} (ht : P.underlying t = some (.struct #[f0, f1, f2, f3, f4, f5])) (h : DataW.trod enc P W base spare held fuel t cs = some x) :
    ∃ y0 y1 y2 y3 y4 y5 n, x.1 = .agg [y0.1, y1.1, y2.1, y3.1, y4.1, y5.1] ∧ cs.length = P.cellsOf t ∧ DataW.trod enc P W base spare held n f0.type ((cs.drop f0.offset).take (P.cellsOf f0.type)) = some y0 ∧
      DataW.trod enc P W base spare held n f1.type ((cs.drop f1.offset).take (P.cellsOf f1.type)) = some y1 ∧ DataW.trod enc P W base spare held n f2.type ((cs.drop f2.offset).take (P.cellsOf f2.type)) = some y2 ∧
      DataW.trod enc P W base spare held n f3.type ((cs.drop f3.offset).take (P.cellsOf f3.type)) = some y3 ∧ DataW.trod enc P W base spare held n f4.type ((cs.drop f4.offset).take (P.cellsOf f4.type)) = some y4 ∧
      DataW.trod enc P W base spare held n f5.type ((cs.drop f5.offset).take (P.cellsOf f5.type)) = some y5 := by
  obtain ⟨xs, n, _, rfl, hl, hlen, hf⟩ := DataW.trod_struct ht h
  match xs, hlen with
  | [y0, y1, y2, y3, y4, y5], _ => exact ⟨y0, y1, y2, y3, y4, y5, n, by simp, hl, by simpa using hf 0 f0 rfl, by simpa using hf 1 f1 rfl, by simpa using hf 2 f2 rfl, by simpa using hf 3 f3 rfl, by simpa using hf 4 f4 rfl, by simpa using hf 5 f5 rfl⟩
theorem weightsAll_mem' {e : TypeId} : ∀ {l : List (DataW H)} {d : DataW H}, d ∈ l → ∀ k ∈ d.weights P e, k ∈ DataW.weightsAll P e l
  | a :: l, d, h, k, hk => by
    simp only [DataW.weightsAll, List.mem_append]
    rcases List.mem_cons.1 h with rfl | h
    · exact .inl hk
    · exact .inr (weightsAll_mem' h k hk)
/-- All that is reached is of a size that memory may have. -/
def Wt (P : Program) (t : TypeId) (d : DataW H) : Prop := ∀ k ∈ d.weights P t, k ≤ reachBytes
/-- A slice, wherever it lies, as it came in. -/
theorem trod_row {α : Type} [Inhabited α] (f : α → List Value) (p : α → Prop) {s : Nat} (hf : ∀ x, (f x).length = s) (hs : 0 < s) {t e : TypeId} {n : Nat} {cs : List Value} {y : DataW H × List MemPlace} (ht : P.underlying t = some (.slice e)) (hc : P.cellsOf e = s)
    (hel : ∀ n cs y, cs.length = s → DataW.trod enc P W 0 (fun _ => true) true n e cs = some y → Wt P e y.1 → ∃ x, cs = f x ∧ p x)
    (h : DataW.trod enc P W 0 (fun _ => true) true n t cs = some y) (hw : Wt P t y.1) :
    ∃ (A : Option Addr) (c : Nat) (l : List α), cs = [.slice A l.length c] ∧ l.length ≤ c ∧ c ≤ maxLen ∧ c * P.bytesOf e ≤ reachBytes ∧ Arr W A (l.flatMap f) ∧ ∀ x ∈ l, p x := by
  rcases Go.Deep.open_slice ht h with ⟨hcs, _⟩ | ⟨a, len, cap, m, k, D, Pl, hcs, _, hl, hm, hmm, hy, hi⟩
  · exact ⟨none, 0, [], hcs, Nat.le_refl _, by simp [maxLen], by simp, .inl rfl, by simp⟩
  · rw [hc] at hi
    simp only [if_true] at hmm
    subst hmm
    have hwt : y.1 = .slice ((List.range len).map D) ((List.range (m - len)).map fun j => D (len + j)) := by rw [hy]
    have hw1 : m * P.bytesOf e ≤ reachBytes := by
      refine hw _ ?_
      rw [hwt]
      simp only [DataW.weights, ht, List.mem_cons, List.length_map, List.length_range]
      left
      congr 1
      omega
    obtain ⟨F, hF⟩ := Go.Deep.choose_lt (n := len) (p := fun i x => W.cells? 0 (a.add (i * s)) s = some (f x) ∧ p x) (fun i hin => by
      obtain ⟨cs', h1, h2⟩ := hi i (by omega)
      obtain ⟨x, rfl, hx⟩ := hel _ _ _ (World.cells?_some h1).2.1 h2 (fun q hq => hw q (by
        rw [hwt]
        simp only [DataW.weights, ht, List.mem_cons, List.mem_append]
        exact .inr (.inl (weightsAll_mem' (List.mem_map.2 ⟨i, List.mem_range.2 hin, rfl⟩) q hq))))
      exact ⟨x, h1, hx⟩)
    refine ⟨some a, m, (List.range len).map F, by simpa using hcs, by simpa using hl, hm, hw1, ?_, by simpa using fun i hin => (hF i hin).2⟩
    by_cases h0 : len = 0
    · subst h0; exact .inl rfl
    · obtain ⟨b, o, spot⟩ := a
      have hc0 := (World.cells?_some (hF 0 (by omega)).1).2.2 0 (by omega)
      have hspot : spot = none := by
        rw [List.getElem?_eq_getElem (by rw [hf]; omega)] at hc0
        simpa [Addr.add] using World.cell?_spot hc0
      subst hspot
      refine arr_flat hf hs fun i hin q hq => ?_
      have hin' : i < len := by simpa using hin
      have := (World.cells?_some (hF i hin').1).2.2 q hq
      rw [add_none, add_none] at this
      rw [← Nat.add_assoc, this]
      simp
end
section
variable {H : Type} {enc : TypeId × Value → H} {W : World}
theorem ok_i64 {n : Int} (h : (Lit.int .i64 n).wf = true) : i64ok n := bounds_i64 h
theorem flat_one : ∀ l : List Int, l.flatMap (fun b : Int => [Value.int .u8 b]) = bs l
  | [] => rfl
  | a :: l => by rw [List.flatMap_cons, flat_one l]; rfl
set_option maxRecDepth 100000 in
theorem trod_bytes {n : Nat} {cs : List Value} {y : DataW H × List MemPlace} (h : DataW.trod enc Try.prog W 0 (fun _ => true) true n 27 cs = some y) (hw : Wt Try.prog 27 y.1) :
    ∃ (A : Option Addr) (c : Nat) (l : List Int), cs = [.slice A l.length c] ∧ l.length ≤ c ∧ c ≤ maxLen ∧ c ≤ 140737488351232 ∧ Arr W A (bs l) ∧ ∀ b ∈ l, 0 ≤ b ∧ b < 256 := by
  obtain ⟨A, c, l, h1, h2, h3, h4, h5, h6⟩ := trod_row (fun b : Int => [Value.int .u8 b]) (fun b => 0 ≤ b ∧ b < 256) (s := 1) (fun _ => rfl) (by decide) Try.underlying27 (by kernel_rfl) (fun n cs y hl ht _ => by
    match cs, hl with
    | [c0], _ =>
      obtain ⟨b, e0, -, w0⟩ := DataW.trod_int Try.underlying5 ht
      have := bounds_u8 w0
      exact ⟨b, by simpa using e0, by omega⟩) h hw
  refine ⟨A, c, l, h1, h2, h3, ?_, ?_, h6⟩
  · have hb : Try.prog.bytesOf 5 = 1 := by kernel_rfl
    rw [hb] at h4
    unfold reachBytes at h4
    omega
  · rw [show l.flatMap (fun b : Int => [Value.int .u8 b]) = bs l from flat_one l] at h5
    exact h5
set_option maxRecDepth 100000 in
theorem trod_comp {n : Nat} {cs : List Value} {y : DataW H × List MemPlace} (hl : cs.length = 2) (h : DataW.trod enc Try.prog W 0 (fun _ => true) true n 53 cs = some y) (hw : Wt Try.prog 53 y.1) :
    ∃ c : CompM, cs = c.cells ∧ (Arr W c.A (bs c.code) ∧ (∀ b ∈ c.code, 0 ≤ b ∧ b < 256) ∧ c.code.length ≤ c.cap ∧ c.code.length ≤ 140737488351232 ∧ i64ok c.data) := by
  obtain ⟨y0, y1, m, hy, -, h0, h1⟩ := trod_struct2 Try.underlying53 h
  match cs, hl with
  | [c0, c1], _ =>
    have hc : Try.prog.cellsOf 27 = 1 := by kernel_rfl
    have hc1 : Try.prog.cellsOf 3 = 1 := by kernel_rfl
    obtain ⟨A, c, l, e0, k1, k2, k3, k4, k5⟩ := trod_bytes h0 (fun k hk => hw k (by
      rw [hy]
      simp only [DataW.weights, Try.underlying53, List.map, DataW.weightsEach, List.mem_append]
      exact .inl hk))
    obtain ⟨b, e1, -, w1⟩ := DataW.trod_int Try.underlying3 h1
    simp [hc] at e0
    simp [hc1] at e1
    subst e0 e1
    exact ⟨⟨A, c, l, b⟩, rfl, k4, k5, k1, Nat.le_trans k1 k3, ok_i64 w1⟩
set_option maxRecDepth 100000 in
theorem trod_link {n : Nat} {cs : List Value} {y : DataW H × List MemPlace} (hl : cs.length = 3) (h : DataW.trod enc Try.prog W 0 (fun _ => true) true n 68 cs = some y) :
    ∃ c : LinkM, cs = c.cells ∧ (i64ok c.fr ∧ i64ok c.to ∧ i64ok c.at') := by
  obtain ⟨y0, y1, y2, m, -, -, h0, h1, h2⟩ := Go.Deep.trod_struct3 Try.underlying68 h
  match cs, hl with
  | [c0, c1, c2], _ =>
    have hc1 : Try.prog.cellsOf 3 = 1 := by kernel_rfl
    obtain ⟨a, e0, -, w0⟩ := DataW.trod_int Try.underlying3 h0
    obtain ⟨b, e1, -, w1⟩ := DataW.trod_int Try.underlying3 h1
    obtain ⟨c, e2, -, w2⟩ := DataW.trod_int Try.underlying3 h2
    simp [hc1] at e0 e1 e2
    subst e0 e1 e2
    exact ⟨⟨a, b, c⟩, rfl, ok_i64 w0, ok_i64 w1, ok_i64 w2⟩
set_option maxRecDepth 100000 in
theorem trod_share {n : Nat} {cs : List Value} {y : DataW H × List MemPlace} (hl : cs.length = 2) (h : DataW.trod enc Try.prog W 0 (fun _ => true) true n 70 cs = some y) :
    ∃ c : ShareM, cs = c.cells ∧ (i64ok c.rd ∧ i64ok c.wr) := by
  obtain ⟨y0, y1, m, -, -, h0, h1⟩ := trod_struct2 Try.underlying70 h
  match cs, hl with
  | [c0, c1], _ =>
    have hc1 : Try.prog.cellsOf 3 = 1 := by kernel_rfl
    obtain ⟨a, e0, -, w0⟩ := DataW.trod_int Try.underlying3 h0
    obtain ⟨b, e1, -, w1⟩ := DataW.trod_int Try.underlying3 h1
    simp [hc1] at e0 e1
    subst e0 e1
    exact ⟨⟨a, b⟩, rfl, ok_i64 w0, ok_i64 w1⟩
instance : Inhabited CompM := ⟨⟨none, 0, [], 0⟩⟩
/-- Room is less than a slice's bytes. -/
theorem reach_le {c b : Nat} (h : c * b ≤ reachBytes) (hb : 16 ≤ b) : c ≤ 8796093021952 := by
  unfold reachBytes at h
  have := Nat.mul_le_mul_left c hb
  omega
set_option maxRecDepth 100000 in
theorem open_img {base : Nat} {v : Value} {d : DataW H} {p : List MemPlace} (hval : Value.okWide Try.prog W .any base 26 v) (h : DataW.Trod enc Try.prog W 0 (fun _ => true) true 26 v d p) (hw : Wt Try.prog 26 d) :
    ∃ x : ImgM, v = x.val ∧ ImgAt W x ∧ x.comps.length ≤ 8796093021952 ∧ x.links.length ≤ 8796093021952 ∧ x.shares.length ≤ 8796093021952 := by
  unfold Value.okWide at hval
  rw [Try.underlying26] at hval
  obtain ⟨cs, rfl, -, -⟩ := hval
  obtain ⟨fuel, hf⟩ := h
  obtain ⟨y0, y1, y2, y3, y4, y5, n, hy, hl, h0, h1, h2, h3, h4, h5⟩ := trod_struct6 Try.underlying26 hf
  have hc6 : Try.prog.cellsOf 26 = 6 := by kernel_rfl
  rw [hc6] at hl
  simp only at hy
  subst hy
  obtain ⟨cs⟩ := cs
  match cs, hl with
  | [c0, c1, c2, c3, c4, c5], _ =>
    have kb : Try.prog.cellsOf 4 = 1 := by kernel_rfl
    have ki : Try.prog.cellsOf 3 = 1 := by kernel_rfl
    have kc : Try.prog.cellsOf 22 = 1 := by kernel_rfl
    have kl : Try.prog.cellsOf 23 = 1 := by kernel_rfl
    have ks : Try.prog.cellsOf 24 = 1 := by kernel_rfl
    have hwe : ∀ k, (k ∈ y3.1.weights Try.prog 22 ∨ k ∈ y4.1.weights Try.prog 23 ∨ k ∈ y5.1.weights Try.prog 24) → k ≤ reachBytes := fun k hk => hw k (by
      simp only [DataW.weights, Try.underlying26, List.map, DataW.weightsEach, List.mem_append]
      rcases hk with hk | hk | hk
      · exact .inr (.inr (.inr (.inl hk)))
      · exact .inr (.inr (.inr (.inr (.inl hk))))
      · exact .inr (.inr (.inr (.inr (.inr (.inl hk))))))
    obtain ⟨b0, e0, -⟩ := DataW.trod_bool Try.underlying4 h0
    obtain ⟨n1, e1, -, w1⟩ := DataW.trod_int Try.underlying3 h1
    obtain ⟨n2, e2, -, w2⟩ := DataW.trod_int Try.underlying3 h2
    obtain ⟨Ac, cc, lc, e3, a1, -, a3, a4, a5⟩ := trod_row CompM.cells (fun c => Arr W c.A (bs c.code) ∧ (∀ b ∈ c.code, 0 ≤ b ∧ b < 256) ∧ c.code.length ≤ c.cap ∧ c.code.length ≤ 140737488351232 ∧ i64ok c.data) (s := 2) (fun _ => rfl) (by decide) Try.underlying22 (by kernel_rfl) (fun n cs y hl ht hw => trod_comp hl ht hw) h3 (fun k hk => hwe k (.inl hk))
    obtain ⟨Al, cl, ll, e4, d1, -, d3, d4, d5⟩ := trod_row LinkM.cells (fun c => i64ok c.fr ∧ i64ok c.to ∧ i64ok c.at') (s := 3) (fun _ => rfl) (by decide) Try.underlying23 (by kernel_rfl) (fun n cs y hl ht _ => trod_link hl ht) h4 (fun k hk => hwe k (.inr (.inl hk)))
    obtain ⟨As, cS, ls, e5, g1, -, g3, g4, g5⟩ := trod_row ShareM.cells (fun c => i64ok c.rd ∧ i64ok c.wr) (s := 2) (fun _ => rfl) (by decide) Try.underlying24 (by kernel_rfl) (fun n cs y hl ht _ => trod_share hl ht) h5 (fun k hk => hwe k (.inr (.inr hk)))
    simp [kb, Value.cells] at e0
    simp [ki, Value.cells] at e1 e2
    simp [kc, Value.cells] at e3
    simp [kl, Value.cells] at e4
    simp [ks, Value.cells] at e5
    subst e0 e1 e2 e3 e4 e5
    have x3 := reach_le a3 (by have : Try.prog.bytesOf 53 = 32 := by kernel_rfl
                               omega)
    have x4 := reach_le d3 (by have : Try.prog.bytesOf 68 = 24 := by kernel_rfl
                               omega)
    have x5 := reach_le g3 (by have : Try.prog.bytesOf 70 = 16 := by kernel_rfl
                               omega)
    exact ⟨⟨b0, n1, n2, Ac, cc, lc, Al, cl, ll, As, cS, ls⟩, rfl, ⟨a4, a5, d4, d5, g4, g5, ⟨ok_i64 w1, ok_i64 w2⟩, ⟨a1, Nat.le_trans (Nat.le_trans a1 x3) (by decide), d1, Nat.le_trans (Nat.le_trans d1 x4) (by decide), g1, Nat.le_trans (Nat.le_trans g1 x5) (by decide)⟩⟩, Nat.le_trans a1 x3, Nat.le_trans d1 x4, Nat.le_trans g1 x5⟩
end
end Go.Proofs.Ytgfnpcoigooblaa


/- Images: what is written is read, what is read is written (plain). -/
import Derived.Test.YtgfnpcoigooblaaGetP
import Derived.Test.YtgfnpcoigooblaaPutA
set_option linter.all false
namespace Go.Proofs.Ytgfnpcoigooblaa

theorem some_ok {n : Nat} {s : StR} (h : (someS n s).2.2 = false) : s.2 = false ∧ s.1 = (someS n s).1 ++ (someS n s).2.1 ∧ ∀ t, someS n (s.1 ++ t, s.2) = ((someS n s).1, ((someS n s).2.1 ++ t, (someS n s).2.2)) := by
  unfold someS at h ⊢
  split at h
  · rename_i hn
    rw [if_pos hn]
    refine ⟨h, (List.take_append_drop n s.1).symm, fun t => ?_⟩
    rw [if_pos (by simp only [List.length_append]; omega), List.take_append_of_le_length hn, List.drop_append_of_le_length hn]
  · cases h
theorem one_ok {s : StR} (h : (oneS s).2.2 = false) : s.2 = false ∧ s.1 = [(oneS s).1] ++ (oneS s).2.1 ∧ ∀ t, oneS (s.1 ++ t, s.2) = ((oneS s).1, ((oneS s).2.1 ++ t, (oneS s).2.2)) := by
  obtain ⟨h1, h2, h3⟩ := some_ok (n := 1) (s := s) h
  have hl := someS_len 1 s
  refine ⟨h1, ?_, fun t => by unfold oneS; rw [h3 t]⟩
  obtain ⟨x, hx⟩ := List.length_eq_one_iff.1 hl
  unfold oneS
  rw [hx] at h2 ⊢
  exact h2
theorem two_parts {a b : Int} (ha : 0 ≤ a ∧ a < 256) (hb : 0 ≤ b ∧ b < 256) : twoB (a * 256 + b) = [a, b] := by
  unfold twoB
  rw [show (a * 256 + b) / 256 % 256 = a by omega, show (a * 256 + b) % 256 = b by omega]
theorem two_ok {s : StR} (h : (twoS s).2.2 = false) : s.2 = false ∧ (BytesIn s.1 → s.1 = twoB (twoS s).1 ++ (twoS s).2.1 ∧ 0 ≤ (twoS s).1 ∧ (twoS s).1 < 65536) ∧ ∀ t, twoS (s.1 ++ t, s.2) = ((twoS s).1, ((twoS s).2.1 ++ t, (twoS s).2.2)) := by
  obtain ⟨h1, h2, h3⟩ := some_ok (n := 2) (s := s) h
  have hl := someS_len 2 s
  refine ⟨h1, fun hb => ?_, fun t => by unfold twoS; rw [h3 t]⟩
  have hi := (someS_in (n := 2) hb).1
  unfold twoS
  generalize someS 2 s = r at h2 hl hi ⊢
  obtain ⟨x, y, hx⟩ : ∃ x y, r.1 = [x, y] := by
    match hr : r.1, hl with
    | [x, y], _ => exact ⟨x, y, rfl⟩
  have h0 := hi x (by simp [hx])
  have h4 := hi y (by simp [hx])
  have h5 := two_parts h0 h4
  simp only [hx, List.headD_cons, List.getD_cons_succ, List.getD_cons_zero]
  rw [h5, h2, hx]
  exact ⟨rfl, by omega, by omega⟩
theorem in_app {a b : List Int} (h : BytesIn (a ++ b)) : BytesIn a ∧ BytesIn b := ⟨fun x hx => h x (List.mem_append_left _ hx), fun x hx => h x (List.mem_append_right _ hx)⟩

def encC (p : Int × Int) : List Int := twoB p.1 ++ [p.2]
def encL (l : LinkM) : List Int := [l.fr, l.to] ++ twoB l.at'
def encS (s : ShareM) : List Int := [s.rd, s.wr]
theorem comps_ok {s : StR} : ∀ k, (compsP s k).2.2 = false → s.2 = false ∧ (BytesIn s.1 → s.1 = (compsP s k).1.flatMap encC ++ (compsP s k).2.1) ∧ ∀ t, compsP (s.1 ++ t, s.2) k = ((compsP s k).1, ((compsP s k).2.1 ++ t, (compsP s k).2.2))
  | 0, h => ⟨h, fun _ => rfl, fun t => rfl⟩
  | k + 1, h => by
    obtain ⟨h1, h2, h3⟩ := one_ok (s := (twoS (compsP s k).2).2) h
    obtain ⟨h4, h5, h6⟩ := two_ok (s := (compsP s k).2) h1
    obtain ⟨h7, h8, h9⟩ := comps_ok (s := s) k h4
    refine ⟨h7, fun hb => ?_, fun t => ?_⟩
    · have e1 := h8 hb
      have hb2 : BytesIn (compsP s k).2.1 := by rw [e1] at hb; exact (in_app hb).2
      have e2 := (h5 hb2).1
      have e3 : s.1 = (compsP s k).1.flatMap encC ++ (twoB (twoS (compsP s k).2).1 ++ ([(oneS (twoS (compsP s k).2).2).1] ++ (oneS (twoS (compsP s k).2).2).2.1)) := by rw [← h2, ← e2]; exact e1
      simpa [compsP, encC] using e3
    · simp only [compsP]
      rw [h9 t]
      simp only [h6 t, h3 t]
theorem links_ok {s : StR} : ∀ k, (linksP s k).2.2 = false → s.2 = false ∧ (BytesIn s.1 → s.1 = (linksP s k).1.flatMap encL ++ (linksP s k).2.1) ∧ ∀ t, linksP (s.1 ++ t, s.2) k = ((linksP s k).1, ((linksP s k).2.1 ++ t, (linksP s k).2.2))
  | 0, h => ⟨h, fun _ => rfl, fun t => rfl⟩
  | k + 1, h => by
    obtain ⟨h1, h2, h3⟩ := two_ok (s := (oneS (oneS (linksP s k).2).2).2) h
    obtain ⟨h4, h5, h6⟩ := one_ok (s := (oneS (linksP s k).2).2) h1
    obtain ⟨h7, h8, h9⟩ := one_ok (s := (linksP s k).2) h4
    obtain ⟨i1, i2, i3⟩ := links_ok (s := s) k h7
    refine ⟨i1, fun hb => ?_, fun t => ?_⟩
    · have e1 := i2 hb
      have hb2 : BytesIn (linksP s k).2.1 := by rw [e1] at hb; exact (in_app hb).2
      have hb3 : BytesIn (oneS (linksP s k).2).2.1 := by rw [h8] at hb2; exact (in_app hb2).2
      have hb4 : BytesIn (oneS (oneS (linksP s k).2).2).2.1 := by rw [h5] at hb3; exact (in_app hb3).2
      have e2 := (h2 hb4).1
      have e3 : s.1 = (linksP s k).1.flatMap encL ++ ([(oneS (linksP s k).2).1] ++ ([(oneS (oneS (linksP s k).2).2).1] ++ (twoB (twoS (oneS (oneS (linksP s k).2).2).2).1 ++ (twoS (oneS (oneS (linksP s k).2).2).2).2.1))) := by rw [← e2, ← h5, ← h8]; exact e1
      simpa [linksP, encL] using e3
    · simp only [linksP]
      rw [i3 t]
      simp only [h9 t, h6 t, h3 t]
theorem shares_ok {s : StR} : ∀ k, (sharesP s k).2.2 = false → s.2 = false ∧ (BytesIn s.1 → s.1 = (sharesP s k).1.flatMap encS ++ (sharesP s k).2.1) ∧ ∀ t, sharesP (s.1 ++ t, s.2) k = ((sharesP s k).1, ((sharesP s k).2.1 ++ t, (sharesP s k).2.2))
  | 0, h => ⟨h, fun _ => rfl, fun t => rfl⟩
  | k + 1, h => by
    obtain ⟨h4, h5, h6⟩ := one_ok (s := (oneS (sharesP s k).2).2) h
    obtain ⟨h7, h8, h9⟩ := one_ok (s := (sharesP s k).2) h4
    obtain ⟨i1, i2, i3⟩ := shares_ok (s := s) k h7
    refine ⟨i1, fun hb => ?_, fun t => ?_⟩
    · have e1 := i2 hb
      have e3 : s.1 = (sharesP s k).1.flatMap encS ++ ([(oneS (sharesP s k).2).1] ++ ([(oneS (oneS (sharesP s k).2).2).1] ++ (oneS (oneS (sharesP s k).2).2).2.1)) := by rw [← h5, ← h8]; exact e1
      simpa [sharesP, encS] using e3
    · simp only [sharesP]
      rw [i3 t]
      simp only [h9 t, h6 t]
theorem codes_ok {z : List Int} {s : StR} : ∀ k, (codesP z s k).2.2 = false → s.2 = false ∧ s.1 = (codesP z s k).1.flatten ++ (codesP z s k).2.1 ∧ ∀ t, codesP z (s.1 ++ t, s.2) k = ((codesP z s k).1, ((codesP z s k).2.1 ++ t, (codesP z s k).2.2))
  | 0, h => ⟨h, rfl, fun t => rfl⟩
  | k + 1, h => by
    obtain ⟨h7, h8, h9⟩ := some_ok (s := (codesP z s k).2) h
    obtain ⟨i1, i2, i3⟩ := codes_ok (z := z) (s := s) k h7
    refine ⟨i1, ?_, fun t => ?_⟩
    · have e3 : s.1 = (codesP z s k).1.flatten ++ ((someS (z.getD k 0).toNat (codesP z s k).2).1 ++ (someS (z.getD k 0).toNat (codesP z s k).2).2.1) := by rw [← h8]; exact i2
      simpa [codesP] using e3
    · simp only [codesP]
      rw [i3 t]
      simp only [h9 t]
theorem codes_lens (z : List Int) (s : StR) : ∀ k, (codesP z s k).1.map List.length = (List.range k).map fun i => (z.getD i 0).toNat
  | 0 => rfl
  | k + 1 => by simp [codesP, codes_lens z s k, someS_len, List.range_succ]
theorem codes_n (z : List Int) (s : StR) (k : Nat) : (codesP z s k).1.length = k := by
  have := congrArg List.length (codes_lens z s k)
  simpa using this
theorem comps_n (s : StR) : ∀ k, (compsP s k).1.length = k
  | 0 => rfl
  | k + 1 => by simp [compsP, comps_n s k]
theorem links_n (s : StR) : ∀ k, (linksP s k).1.length = k
  | 0 => rfl
  | k + 1 => by simp [linksP, links_n s k]
theorem shares_n (s : StR) : ∀ k, (sharesP s k).1.length = k
  | 0 => rfl
  | k + 1 => by simp [sharesP, shares_n s k]

def encH (h : HeadR) : List Int := h.name ++ [h.strict, h.heap] ++ twoB h.full ++ [h.comps, h.links, h.shares]
theorem head_ok {l : List Int} (h : (headP l).2.2 = false) : (BytesIn l → l = encH (headP l).1 ++ (headP l).2.1 ∧ 0 ≤ (headP l).1.full ∧ (headP l).1.full < 65536) ∧ ∀ t, headP (l ++ t) = ((headP l).1, ((headP l).2.1 ++ t, (headP l).2.2)) := by
  unfold headP at h ⊢
  simp only at h ⊢
  obtain ⟨a7, b7, c7⟩ := one_ok h
  obtain ⟨a6, b6, c6⟩ := one_ok a7
  obtain ⟨a5, b5, c5⟩ := one_ok a6
  obtain ⟨a4, b4, c4⟩ := two_ok a5
  obtain ⟨a3, b3, c3⟩ := one_ok a4
  obtain ⟨a2, b2, c2⟩ := one_ok a3
  obtain ⟨a1, b1, c1⟩ := some_ok a2
  refine ⟨fun hb => ?_, fun t => ?_⟩
  · have hb' : BytesIn (l, false).1 := hb
    have g1 : BytesIn (someS 2 (l, false)).2.1 := by rw [b1] at hb'; exact (in_app hb').2
    have g2 := g1
    rw [b2] at g2
    have g3 := (in_app g2).2
    rw [b3] at g3
    have g4 := b4 (in_app g3).2
    refine ⟨?_, g4.2⟩
    have e : l = (someS 2 (l, false)).1 ++ ([(oneS (someS 2 (l, false)).2).1] ++ ([(oneS (oneS (someS 2 (l, false)).2).2).1] ++ (twoB (twoS (oneS (oneS (someS 2 (l, false)).2).2).2).1 ++ ([(oneS (twoS (oneS (oneS (someS 2 (l, false)).2).2).2).2).1] ++ ([(oneS (oneS (twoS (oneS (oneS (someS 2 (l, false)).2).2).2).2).2).1] ++ ([(oneS (oneS (oneS (twoS (oneS (oneS (someS 2 (l, false)).2).2).2).2).2).2).1] ++ (oneS (oneS (oneS (twoS (oneS (oneS (someS 2 (l, false)).2).2).2).2).2).2).2.1)))))) := by
      rw [← b7, ← b6, ← b5, ← g4.1, ← b3, ← b2]; exact b1
    simpa [encH] using e
  · have d1 : someS 2 (l ++ t, false) = _ := c1 t
    rw [d1]
    simp only [c2 t, c3 t, c4 t, c5 t, c6 t, c7 t]
/-- What is read without fault is read with more behind. -/
theorem read_ok {l : List Int} (h : (readP l).2.2 = false) : ∀ t, headP (l ++ t) = ((headP l).1, ((headP l).2.1 ++ t, (headP l).2.2)) ∧ readP (l ++ t) = ((readP l).1, ((readP l).2.1 ++ t, false)) := by
  have h0 := h
  unfold readP at h0
  simp only at h0
  obtain ⟨a5, b5, c5⟩ := codes_ok _ h0
  obtain ⟨a4, b4, c4⟩ := shares_ok _ a5
  obtain ⟨a3, b3, c3⟩ := links_ok _ a4
  obtain ⟨a2, b2, c2⟩ := comps_ok _ a3
  obtain ⟨b1, c1⟩ := head_ok a2
  refine fun t => ⟨c1 t, ?_⟩
  have hf : (readP l).2.2 = false := h
  rw [← hf]
  unfold readP
  simp only [c1 t, c2 t, c3 t, c4 t, c5 t]
/-- What is read of bytes without fault is all that they tell. -/
theorem read_had {l : List Int} (h : (readP l).2.2 = false) (hb : BytesIn l) :
    l = encH (headP l).1 ++ (compsP (headP l).2 (headP l).1.comps.toNat).1.flatMap encC ++ (linksP (compsP (headP l).2 (headP l).1.comps.toNat).2 (headP l).1.links.toNat).1.flatMap encL ++ (sharesP (linksP (compsP (headP l).2 (headP l).1.comps.toNat).2 (headP l).1.links.toNat).2 (headP l).1.shares.toNat).1.flatMap encS ++ ((codesP ((compsP (headP l).2 (headP l).1.comps.toNat).1.map Prod.fst) (sharesP (linksP (compsP (headP l).2 (headP l).1.comps.toNat).2 (headP l).1.links.toNat).2 (headP l).1.shares.toNat).2 (headP l).1.comps.toNat).1.flatten ++ (readP l).2.1) ∧ 0 ≤ (headP l).1.full ∧ (headP l).1.full < 65536 ∧ (headP l).1.full = (readP l).1.full := by
  have h0 := h
  unfold readP at h0 ⊢
  simp only at h0 ⊢
  obtain ⟨a5, b5, c5⟩ := codes_ok _ h0
  obtain ⟨a4, b4, c4⟩ := shares_ok _ a5
  obtain ⟨a3, b3, c3⟩ := links_ok _ a4
  obtain ⟨a2, b2, c2⟩ := comps_ok _ a3
  obtain ⟨b1, c1⟩ := head_ok a2
  have e1 := b1 hb
  refine ⟨?_, e1.2.1, e1.2.2, trivial⟩
  have g1 : BytesIn (headP l).2.1 := by have g := hb; rw [e1.1] at g; exact (in_app g).2
  have e2 := b2 g1
  have g2 := g1
  rw [e2] at g2
  have e3 := b3 (in_app g2).2
  have g3 := (in_app g2).2
  rw [e3] at g3
  have e4 := b4 (in_app g3).2
  simp only [List.append_assoc]
  rw [← b5, ← e4, ← e3, ← e2]
  exact e1.1
end Go.Proofs.Ytgfnpcoigooblaa

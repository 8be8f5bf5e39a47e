
/- P6.2: whatever is made of two that a set has, it has (plain). -/
import Derived.Test.YtalndcjbnedigaaDerP
import Derived.Test.YtalndcjbnedigaaOpenP
set_option linter.all false
namespace Go.Proofs.Ytalndcjbnedigaa

/-- What is made of two, in some way. -/
def madeC (c d : Cap) (n k : Int) : Cap :=
  if k = 0 then (boundsD c n).1 else if k = 1 then (permsD c n).1 else if k = 2 then (moveD c n).1 else if k = 3 then (sealD c d).1 else if k = 4 then (unsealD c d).1 else if k = 5 then (enterD c).1 else if k = 6 then (buildD (clearD c) d).1 else if c.ty = 1 then ⟨c.tag, c.base, c.top, c.at', c.perms, 0⟩ else c
theorem firstE_cons {b : Bool} {e : Int} {l : List Must} (he : e ≠ 0) : firstE ((b, e) :: l) = 0 ↔ b = true ∧ firstE l = 0 := by
  rw [firstE]
  cases b
  · simp [he]
  · simp
theorem firstE_nil : firstE [] = 0 := rfl
theorem has_zero (G O : List Cap) : hasS G O Cap.zero = true := by
  unfold hasS
  rw [show rightC Cap.zero = true by decide]
  rfl
theorem has_made {G O : List Cap} {f : Cap → Cap} {c : Cap} {l : List Must} (h : firstE l = 0 → hasS G O (f c) = true) : hasS G O (madeD f c l).1 = true := by
  unfold madeD
  split
  · rename_i h0; exact h h0
  · exact has_zero G O
theorem has_right {G O : List Cap} {c : Cap} (h : hasS G O c = true) : rightC c = true := by
  unfold hasS at h
  rw [Bool.and_eq_true] at h
  exact h.1
/-- One that is not tagged. -/
theorem has_bare {G O : List Cap} {c : Cap} (hr : rightC c = true) (ht : c.tag = false) : hasS G O c = true := by
  unfold hasS
  rw [hr, ht]
  rfl
/-- One that is tagged, and not sealed, is under one that is open. -/
theorem has_under {l G O : List Cap} (h : SetOk l G O) {c : Cap} (hc : hasS G O c = true) (ht : c.tag = true) (h0 : c.ty = 0) : ∃ o ∈ O, underC c o = true := by
  rw [hasS_open h h0, ht] at hc
  simp only [Bool.not_true, Bool.false_or, Bool.and_eq_true] at hc
  exact List.any_eq_true.1 hc.2
theorem has_of_under {l G O : List Cap} (h : SetOk l G O) {c o : Cap} (hr : rightC c = true) (h0 : c.ty = 0) (ho : o ∈ O) (hu : underC c o = true) : hasS G O c = true := by
  rw [hasS_open h h0, hr, Bool.true_and, Bool.or_eq_true]
  exact .inr (List.any_eq_true.2 ⟨o, ho, hu⟩)
theorem used_iff {c : Cap} {l : List Must} : firstE (usedL c ++ l) = 0 ↔ rightC c = true ∧ c.tag = true ∧ c.ty = 0 ∧ firstE l = 0 := by
  unfold usedL
  rw [List.cons_append, List.cons_append, List.cons_append, List.nil_append, firstE_cons (by decide), firstE_cons (by decide), firstE_cons (by decide)]
  unfold sealB
  have : ((c.ty != 0) == false) = true ↔ c.ty = 0 := by
    rw [beq_iff_eq]
    simp
  rw [this]
theorem autho_iff {c : Cap} {p : Int} {l : List Must} : firstE (authoL c p ++ l) = 0 ↔ rightC c = true ∧ c.tag = true ∧ c.ty = 0 ∧ hasP c.perms p = true ∧ inC c c.at' 1 = true ∧ typeB c = true ∧ firstE l = 0 := by
  unfold authoL
  rw [List.append_assoc, used_iff, List.cons_append, List.cons_append, List.cons_append, List.nil_append, firstE_cons (by decide), firstE_cons (by decide), firstE_cons (by decide)]
/-- One that has authority gives it to the open ones. -/
theorem autho_open {l G O : List Cap} (h : SetOk l G O) {d : Cap} {p : Int} (hd : hasS G O d = true) (ht : d.tag = true) (h0 : d.ty = 0) (hp : hasP d.perms p = true) (hi : inC d d.at' 1 = true) (hy : typeB d = true) : authL O d.at' p = true := by
  obtain ⟨o, ho, hu⟩ := has_under h hd ht h0
  obtain ⟨a1, a2, a3, a4⟩ := underC_iff.1 hu
  obtain ⟨b1, b2, b3, b4, b5⟩ := inC_iff.1 hi
  unfold typeB at hy
  rw [Bool.and_eq_true] at hy
  refine authL_iff.2 ⟨o, ho, ?_⟩
  unfold overC
  rw [hy.1, hy.2, hasP_trans a4 hp, inC_iff.2 ⟨b1, b2, by omega, by omega, by omega⟩]
  rfl
theorem bit_and {a b : Int} (ha : permB a = true) (hb : permB b = true) : permB (bits .and .i64 a b) = true ∧ hasP a (bits .and .i64 a b) = true := by
  have ha' := ha
  unfold permB at ha' hb
  rw [Bool.and_eq_true, decide_eq_true_eq, decide_eq_true_eq] at ha' hb
  have e := i64_and a b (by omega) (by omega) (by omega) (by omega)
  have hl := Nat.and_le_right (n := a.toNat) (m := b.toNat)
  have hp : permB (bits .and .i64 a b) = true := by
    unfold permB
    rw [e, Bool.and_eq_true, decide_eq_true_eq, decide_eq_true_eq]
    omega
  refine ⟨hp, hasP_iff.2 ⟨ha, hp, fun i hi => ?_⟩⟩
  rw [e, Int.toNat_natCast, Nat.testBit_and, Bool.and_eq_true] at hi
  exact hi.1
theorem and_addr (n : Int) : 0 ≤ bits .and .i64 n 4294967295 ∧ bits .and .i64 n 4294967295 ≤ 4294967295 := by
  have h := Nat.and_le_right (n := (BitVec.ofInt 64 n).toNat) (m := 4294967295)
  show 0 ≤ IntKind.i64.wrap ((BitVec.ofInt 64 n &&& BitVec.ofInt 64 4294967295).toNat : Int) ∧ IntKind.i64.wrap ((BitVec.ofInt 64 n &&& BitVec.ofInt 64 4294967295).toNat : Int) ≤ 4294967295
  rw [BitVec.toNat_and, show (BitVec.ofInt 64 4294967295).toNat = 4294967295 by decide, wrap_i64 _ (by omega)]
  omega
/-- THEOREM: whatever is made of two that a set has, it has. -/
theorem has_madeC {l G O : List Cap} (h : SetOk l G O) {c d : Cap} (hc : hasS G O c = true) (hd : hasS G O d = true) (n k : Int) : hasS G O (madeC c d n k) = true := by
  have hrc := rightC_iff.1 (has_right hc)
  obtain ⟨r1, r2, r3, r4, r5, r6, r7⟩ := hrc
  unfold madeC
  split
  · refine has_made fun h0 => ?_
    obtain ⟨-, a2, a3, a4⟩ := used_iff.1 h0
    rw [firstE_cons (by decide)] at a4
    obtain ⟨b1, b2, b3, b4, b5⟩ := inC_iff.1 a4.1
    obtain ⟨o, ho, hu⟩ := has_under h hc a2 a3
    have r7 := r7 a2
    have hw : IntKind.i64.wrap (c.at' + n) = c.at' + n := IntWalk.i64_in _ (by omega)
    unfold boundsF
    rw [hw]
    refine has_of_under h (rightC_iff.2 ⟨r3, ⟨by show 0 ≤ c.at' + n; omega, by show c.at' + n ≤ _; omega⟩, r3, r4, r5, r6, fun _ => ⟨by show c.at' ≤ c.at' + n; omega, by show c.at' + n ≤ _; omega⟩⟩) a3 ho ?_
    refine underC_trans (b := c) (underC_iff.2 ⟨b3, by show c.at' ≤ c.at' + n; omega, by show c.at' + n ≤ c.top; omega, hasP_refl r4⟩) hu
  split
  · refine has_made fun h0 => ?_
    obtain ⟨-, a2, a3, a4⟩ := used_iff.1 h0
    rw [firstE_cons (by decide)] at a4
    obtain ⟨o, ho, hu⟩ := has_under h hc a2 a3
    obtain ⟨q1, q2⟩ := bit_and r4 a4.1
    refine has_of_under h (rightC_iff.2 ⟨r1, r2, r3, q1, r5, r6, r7⟩) a3 ho ?_
    exact underC_trans (b := c) (underC_iff.2 ⟨Int.le_refl _, (r7 a2).1, Int.le_refl _, q2⟩) hu
  split
  · refine has_made fun h0 => ?_
    rw [firstE_cons (by decide), firstE_cons (by decide)] at h0
    have hx : rightC (moveF n c) = true := rightC_iff.2 ⟨r1, r2, and_addr n, r4, r5, r6, r7⟩
    cases ht : c.tag with
    | false => exact has_bare hx ht
    | true =>
      have h2 := h0.2.1
      unfold looseB at h2
      rw [ht] at h2
      have h3 : c.ty = 0 := by simpa using h2
      obtain ⟨o, ho, hu⟩ := has_under h hc ht h3
      exact has_of_under h hx h3 ho hu
  split
  · refine has_made fun h0 => ?_
    obtain ⟨-, a2, a3, a4⟩ := used_iff.1 h0
    rw [← List.append_nil (authoL d 32), autho_iff] at a4
    obtain ⟨b1, b2, b3, b4, b5, b6, -⟩ := a4
    obtain ⟨o, ho, hu⟩ := has_under h hc a2 a3
    have hau := autho_open h hd b2 b3 b4 b5 b6
    unfold typeB at b6
    rw [Bool.and_eq_true, decide_eq_true_eq, decide_eq_true_eq] at b6
    unfold hasS
    have hx : rightC (typeF d.at' c) = true := rightC_iff.2 ⟨r1, r2, r3, r4, by show 0 ≤ d.at'; omega, b6.2, r7⟩
    rw [hx, Bool.true_and, Bool.or_eq_true, Bool.and_eq_true]
    refine .inr ⟨List.any_eq_true.2 ⟨o, ho, hu⟩, ?_⟩
    show (if d.at' = 1 then _ else d.at' == 0 || authL O d.at' 32) = true
    rw [if_neg (by omega), hau, Bool.or_true]
  split
  · refine has_made fun h0 => ?_
    unfold unsealL at h0
    rw [List.append_assoc, List.cons_append, List.cons_append, List.cons_append, List.nil_append, firstE_cons (by decide), firstE_cons (by decide), firstE_cons (by decide), autho_iff, firstE_cons (by decide)] at h0
    obtain ⟨-, a2, a3, b1, b2, b3, b4, b5, b6, b7, -⟩ := h0
    have hau := autho_open h hd b2 b3 b4 b5 b6
    have he : d.at' = c.ty := by simpa using b7
    rw [he] at hau
    have hx : rightC (typeF 0 c) = true := rightC_iff.2 ⟨r1, r2, r3, r4, by show (0 : Int) ≤ 0; omega, by show (0 : Int) ≤ 255; omega, r7⟩
    have : ∃ o ∈ O, underC c o = true := by
      unfold hasS at hc
      rw [Bool.and_eq_true, Bool.or_eq_true, Bool.or_eq_true, Bool.and_eq_true, a2] at hc
      rcases hc.2 with (h1 | h1) | ⟨h1, -⟩
      · cases h1
      · unfold ownB at h1
        obtain ⟨g, hg, he⟩ := List.any_eq_true.1 h1
        have he := of_decide_eq_true he
        have hty : g.ty = c.ty := by rw [← he]
        obtain ⟨o, ho, hov⟩ := authL_iff.1 hau
        refine ⟨bareC g, (h.opens _).2 (.under g hg o ((h.opens o).1 ho) (by rw [hty]; exact hov)), ?_⟩
        have h2 := under_refl hc.1 a2
        show underC c g = true
        rw [← he] at h2 ⊢
        exact h2
      · exact List.any_eq_true.1 h1
    obtain ⟨o, ho, hu⟩ := this
    exact has_of_under h hx rfl ho hu
  split
  · refine has_made fun h0 => ?_
    obtain ⟨-, a2, a3, a4⟩ := used_iff.1 h0
    rw [firstE_cons (by decide)] at a4
    obtain ⟨o, ho, hu⟩ := has_under h hc a2 a3
    unfold hasS
    have hx : rightC (typeF 1 c) = true := rightC_iff.2 ⟨r1, r2, r3, r4, by show (0 : Int) ≤ 1; omega, by show (1 : Int) ≤ 255; omega, r7⟩
    rw [hx, Bool.true_and, Bool.or_eq_true, Bool.and_eq_true]
    refine .inr ⟨List.any_eq_true.2 ⟨o, ho, hu⟩, ?_⟩
    show (if (1 : Int) = 1 then hasP c.perms 4 else _) = true
    rw [if_pos rfl]
    exact a4.1
  split
  · refine has_made fun h0 => ?_
    unfold buildL at h0
    rw [List.append_assoc, List.cons_append, List.nil_append, firstE_cons (by decide), used_iff, firstE_cons (by decide), firstE_cons (by decide), firstE_cons (by decide)] at h0
    obtain ⟨a1, b1, b2, b3, c1, c2, c3, -⟩ := h0
    obtain ⟨o, ho, hu⟩ := has_under h hd b2 b3
    have h0 : c.ty = 0 := by
      unfold sealB at c1
      have h5 : c.ty = 0 := by simpa [clearD] using c1
      exact h5
    obtain ⟨u1, u2, u3, u4⟩ := underC_iff.1 c3
    obtain ⟨-, -, -, -, -, -, d7⟩ := rightC_iff.1 b1
    have d7 := d7 b2
    have u2' : c.base ≤ c.top := u2
    have u3' : c.top ≤ d.top := u3
    refine has_of_under h (rightC_iff.2 ⟨r1, r2, r3, r4, r5, r6, fun _ => ⟨u2', by show c.top ≤ _; omega⟩⟩) h0 ho ?_
    exact underC_trans (b := d) c3 hu
  split
  · rename_i h1
    have hx : rightC ⟨c.tag, c.base, c.top, c.at', c.perms, 0⟩ = true := rightC_iff.2 ⟨r1, r2, r3, r4, by show (0 : Int) ≤ 0; omega, by show (0 : Int) ≤ 255; omega, r7⟩
    cases ht : c.tag with
    | false => rw [ht] at hx; exact has_bare hx rfl
    | true =>
      have : ∃ o ∈ O, underC c o = true := by
        unfold hasS at hc
        rw [Bool.and_eq_true, Bool.or_eq_true, Bool.or_eq_true, Bool.and_eq_true, ht] at hc
        rcases hc.2 with (h2 | h2) | ⟨h2, -⟩
        · cases h2
        · unfold ownB at h2
          obtain ⟨g, hg, he⟩ := List.any_eq_true.1 h2
          have he := of_decide_eq_true he
          have hty : g.ty = c.ty := by rw [← he]
          refine ⟨bareC g, (h.opens _).2 (.own g hg (by omega)), ?_⟩
          have h2 := under_refl hc.1 ht
          show underC c g = true
          rw [← he] at h2 ⊢
          exact h2
        · exact List.any_eq_true.1 h2
      obtain ⟨o, ho, hu⟩ := this
      rw [ht] at hx
      exact has_of_under h hx rfl ho hu
  · exact hc
end Go.Proofs.Ytalndcjbnedigaa

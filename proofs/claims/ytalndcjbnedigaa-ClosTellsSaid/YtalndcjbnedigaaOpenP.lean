
/- The open ones that are under no other one, in order (plain). -/
import Derived.Test.YtalndcjbnedigaaClosP
set_option linter.all false
namespace Go.Proofs.Ytalndcjbnedigaa

/-- Is one under another one? -/
def lessB (c o : Cap) : Bool := !decide (o = c) && underC c o
def mostL (O : List Cap) : List Cap := O.filter fun c => !(O.any fun o => lessB c o)
abbrev Tri : Type := Int × Int × Int
def tri (c : Cap) : Tri := (c.base, c.top, c.perms)
def unt (x : Tri) : Cap := ⟨true, x.1, x.2.1, x.1, x.2.2, 0⟩
def ltT (x y : Tri) : Bool := decide (x.1 < y.1 ∨ x.1 = y.1 ∧ (x.2.1 < y.2.1 ∨ x.2.1 = y.2.1 ∧ x.2.2 < y.2.2))
def openS (O : List Cap) : List Cap := (((mostL O).map tri).mergeSort fun x y => !ltT y x).map unt
/-- One that is open. -/
def IsOpen (c : Cap) : Prop := c.tag = true ∧ c.at' = c.base ∧ c.ty = 0 ∧ rightC c = true
theorem unt_tri {c : Cap} (h : IsOpen c) : unt (tri c) = c := by
  obtain ⟨h1, h2, h3, -⟩ := h
  obtain ⟨a, b, d, e, f, g⟩ := c
  simp only at h1 h2 h3
  subst h1 h2 h3
  rfl
theorem tri_unt (x : Tri) : tri (unt x) = x := rfl
theorem ltT_iff {x y : Tri} : ltT x y = true ↔ (x.1 < y.1 ∨ x.1 = y.1 ∧ (x.2.1 < y.2.1 ∨ x.2.1 = y.2.1 ∧ x.2.2 < y.2.2)) := by unfold ltT; rw [decide_eq_true_eq]
theorem leT_iff {x y : Tri} : (!ltT y x) = true ↔ (x.1 < y.1 ∨ x.1 = y.1 ∧ (x.2.1 < y.2.1 ∨ x.2.1 = y.2.1 ∧ x.2.2 ≤ y.2.2)) := by
  rw [Bool.not_eq_true', ← Bool.not_eq_true, ltT_iff]
  omega
theorem leT_trans (a b c : Tri) (h1 : (!ltT b a) = true) (h2 : (!ltT c b) = true) : (!ltT c a) = true := by
  rw [leT_iff] at *
  omega
theorem leT_total (a b : Tri) : ((!ltT b a) || (!ltT a b)) = true := by
  rw [Bool.or_eq_true, leT_iff, leT_iff]
  omega
theorem leT_anti (a b : Tri) (h1 : (!ltT b a) = true) (h2 : (!ltT a b) = true) : a = b := by
  rw [leT_iff] at *
  obtain ⟨a1, a2, a3⟩ := a
  obtain ⟨b1, b2, b3⟩ := b
  simp only at h1 h2
  obtain ⟨rfl, rfl, rfl⟩ : a1 = b1 ∧ a2 = b2 ∧ a3 = b3 := by omega
  rfl
/-- Whatever is sorted, and of the same members, is the same. -/
theorem sorted_only {l l' : List Tri} (h : l.Perm l') (h1 : l.Pairwise fun x y => (!ltT y x) = true) : l'.mergeSort (fun x y => !ltT y x) = l :=
  (List.Perm.eq_of_pairwise (fun a b _ _ => leT_anti a b) (List.pairwise_mergeSort leT_trans leT_total l') h1 ((List.mergeSort_perm _ _).trans h.symm))
theorem openS_perm {O O' : List Cap} (h : ∀ c, c ∈ O ↔ c ∈ O') (hn : O.Nodup) (hn' : O'.Nodup) : openS O = openS O' := by
  have hp : O.Perm O' := (List.perm_ext_iff_of_nodup hn hn').2 h
  have hany : ∀ c, (O.any fun o => lessB c o) = (O'.any fun o => lessB c o) := fun c => by
    rw [Bool.eq_iff_iff, List.any_eq_true, List.any_eq_true]
    exact ⟨fun ⟨x, hx, hf⟩ => ⟨x, (h x).1 hx, hf⟩, fun ⟨x, hx, hf⟩ => ⟨x, (h x).2 hx, hf⟩⟩
  have hm : (mostL O).Perm (mostL O') := by
    unfold mostL
    simp only [hany]
    exact hp.filter _
  unfold openS
  rw [sorted_only (l := ((mostL O).map tri).mergeSort fun x y => !ltT y x) ((List.mergeSort_perm _ _).trans (hm.map tri)) (List.pairwise_mergeSort leT_trans leT_total _)]
theorem openS_len (O : List Cap) : (openS O).length = (mostL O).length := by
  unfold openS
  rw [List.length_map, List.length_mergeSort, List.length_map]
theorem mem_openS {O : List Cap} (hO : ∀ o ∈ O, IsOpen o) {c : Cap} : c ∈ openS O ↔ c ∈ mostL O := by
  unfold openS
  rw [List.mem_map]
  constructor
  · rintro ⟨x, hx, rfl⟩
    rw [List.mem_mergeSort, List.mem_map] at hx
    obtain ⟨o, ho, rfl⟩ := hx
    rw [unt_tri (hO o (List.mem_filter.1 ho).1)]
    exact ho
  · intro hc
    exact ⟨tri c, by rw [List.mem_mergeSort, List.mem_map]; exact ⟨c, hc, rfl⟩, unt_tri (hO c (List.mem_filter.1 hc).1)⟩
theorem mem_mostL {O : List Cap} {c : Cap} : c ∈ mostL O ↔ c ∈ O ∧ ∀ o ∈ O, underC c o = true → o = c := by
  unfold mostL
  rw [List.mem_filter, Bool.not_eq_true', List.any_eq_false]
  refine and_congr_right fun _ => ⟨fun h o ho hu => ?_, fun h o ho hl => ?_⟩
  · have h1 := h o ho
    unfold lessB at h1
    rw [hu, Bool.and_true, Bool.not_eq_true', decide_eq_false_iff_not, Decidable.not_not] at h1
    exact h1
  · unfold lessB at hl
    rw [Bool.and_eq_true, Bool.not_eq_true', decide_eq_false_iff_not] at hl
    exact hl.1 (h o ho hl.2)
theorem openS_nodup {O : List Cap} (hO : ∀ o ∈ O, IsOpen o) (hn : O.Nodup) : (openS O).Nodup := by
  have h1 : (mostL O).Nodup := hn.filter _
  unfold openS
  have h2 : (((mostL O).map tri).mergeSort fun x y => !ltT y x).Perm ((mostL O).map tri) := List.mergeSort_perm _ _
  have h3 := h2.map unt
  rw [List.map_map] at h3
  have h4 : (mostL O).map (unt ∘ tri) = mostL O := by
    conv => rhs; rw [← List.map_id (mostL O)]
    refine List.map_congr_left fun c hc => ?_
    exact unt_tri (hO c (List.mem_filter.1 hc).1)
  rw [h4] at h3
  exact h3.nodup_iff.2 h1
theorem openS_open {O : List Cap} (hO : ∀ o ∈ O, IsOpen o) {c : Cap} (hc : c ∈ openS O) : IsOpen c := hO c (mem_mostL.1 ((mem_openS hO).1 hc)).1
theorem under_anti {c d : Cap} (hc : IsOpen c) (hd : IsOpen d) (h1 : underC c d = true) (h2 : underC d c = true) : c = d := by
  obtain ⟨a1, a2, a3, a4⟩ := underC_iff.1 h1
  obtain ⟨b1, b2, b3, b4⟩ := underC_iff.1 h2
  have e1 : c.base = d.base := by omega
  have e2 : c.top = d.top := by omega
  have e3 : c.perms = d.perms := hasP_antisymm b4 a4
  rw [← unt_tri hc, ← unt_tri hd]
  unfold tri
  rw [e1, e2, e3]
/-- Each is under one that is under no other one. -/
theorem below_most {O : List Cap} (hO : ∀ o ∈ O, IsOpen o) : ∀ (n : Nat) (c : Cap), c ∈ O → (O.filter fun o => lessB c o).length ≤ n → ∃ m ∈ mostL O, underC c m = true
  | 0, c, hc, hn => by
    have hc1 := hO c hc
    refine ⟨c, mem_mostL.2 ⟨hc, fun o ho hu => ?_⟩, under_refl hc1.2.2.2 hc1.1⟩
    have h0 := List.eq_nil_of_length_eq_zero (Nat.le_zero.1 hn)
    by_cases he : o = c
    · exact he
    · have : o ∈ O.filter fun o => lessB c o := List.mem_filter.2 ⟨ho, by unfold lessB; rw [hu, decide_eq_false he]; rfl⟩
      rw [h0] at this
      cases this
  | n + 1, c, hc, hn => by
    have hc1 := hO c hc
    by_cases hm : c ∈ mostL O
    · exact ⟨c, hm, under_refl hc1.2.2.2 hc1.1⟩
    · have : ∃ o ∈ O, underC c o = true ∧ o ≠ c := by
        refine Classical.byContradiction fun hno => hm (mem_mostL.2 ⟨hc, fun o ho hu => Classical.byContradiction fun he => hno ⟨o, ho, hu, he⟩⟩)
      obtain ⟨o, ho, hu, hne⟩ := this
      have hlt : (O.filter fun x => lessB o x).length < (O.filter fun x => lessB c x).length := by
        have hs : ∀ x, lessB o x = true → lessB c x = true := fun x hx => by
          unfold lessB at hx ⊢
          rw [Bool.and_eq_true, Bool.not_eq_true', decide_eq_false_iff_not] at hx ⊢
          refine ⟨fun e => ?_, underC_trans hu hx.2⟩
          subst e
          exact hne (under_anti (hO o ho) hc1 hx.2 hu)
        have h1 : (O.filter fun x => lessB o x) = (O.filter fun x => lessB c x).filter fun x => lessB o x := by
          rw [List.filter_filter]
          refine List.filter_congr fun x _ => ?_
          cases h : lessB o x
          · rfl
          · rw [hs x h]; rfl
        rw [h1]
        refine List.length_filter_lt_length_iff_exists.2 ⟨o, List.mem_filter.2 ⟨ho, ?_⟩, ?_⟩
        · unfold lessB; rw [hu, decide_eq_false hne]; rfl
        · unfold lessB; rw [decide_eq_true rfl]; simp
      obtain ⟨m, hm1, hm2⟩ := below_most hO n o ho (by omega)
      exact ⟨m, hm1, underC_trans hu hm2⟩
theorem isOpen_bare {g : Cap} (h : g.tag = true) (hr : rightC g = true) : IsOpen (bareC g) := by
  refine ⟨h, rfl, rfl, ?_⟩
  have h1 := rightC_iff.1 hr
  exact rightC_iff.2 ⟨h1.1, h1.2.1, h1.1, h1.2.2.2.1, Int.le_refl _, by show (0 : Int) ≤ 255; decide, h1.2.2.2.2.2.2⟩
theorem SetOk.open {l G O : List Cap} (h : SetOk l G O) {c : Cap} (hc : c ∈ O) : IsOpen c := by
  obtain ⟨g, hg, rfl⟩ := ((h.opens c).1 hc).grant
  rw [h.grants, mem_grantsL] at hg
  exact isOpen_bare hg.2.1 hg.2.2
/-- What is not sealed, and a set has. -/
theorem hasS_open {l G O : List Cap} (h : SetOk l G O) {c : Cap} (h0 : c.ty = 0) : hasS G O c = (rightC c && (!c.tag || O.any fun o => underC c o)) := by
  rw [Bool.eq_iff_iff]
  unfold hasS
  rw [Bool.and_eq_true, Bool.and_eq_true]
  refine and_congr_right fun hr => ?_
  rw [Bool.or_eq_true, Bool.or_eq_true, Bool.or_eq_true, Bool.not_eq_true', Bool.and_eq_true, h0]
  constructor
  · rintro ((h1 | h1) | ⟨h1, -⟩)
    · exact .inl h1
    · by_cases ht : c.tag = true
      · right
        unfold ownB at h1
        rw [List.any_eq_true] at h1
        obtain ⟨g, hg, he⟩ := h1
        have he := of_decide_eq_true he
        have e0 : g.ty = 0 := by
          have : ({ g with at' := c.at' } : Cap).ty = 0 := by rw [he, h0]
          exact this
        have hb : bareC g ∈ O := (h.opens _).2 (.own g hg (by omega))
        refine List.any_eq_true.2 ⟨bareC g, hb, ?_⟩
        have h2 := under_refl hr ht
        show underC c g = true
        rw [← he]
        rw [← he] at h2
        exact h2
      · exact .inl (by simpa using ht)
    · exact .inr h1
  · rintro (h1 | h1)
    · exact .inl (.inl h1)
    · exact .inr ⟨h1, by simp⟩
/-- The set of a set's open ones. -/
theorem set_again {l G O G' O' : List Cap} (h : SetOk l G O) (h' : SetOk (openS O) G' O') : G' = openS O ∧ (∀ c, c ∈ O' ↔ c ∈ openS O) ∧ openS O' = openS O ∧ ∀ c : Cap, c.ty = 0 → hasS G O c = hasS G' O' c := by
  have hO : ∀ o ∈ O, IsOpen o := fun o ho => h.open ho
  have hG : G' = openS O := by
    rw [h'.grants]
    unfold grantsL
    rw [List.filter_eq_self]
    intro c hc
    obtain ⟨h1, -, -, h4⟩ := openS_open hO hc
    rw [h1, h4]
    rfl
  have hb : ∀ c, c ∈ openS O → bareC c = c := fun c hc => by
    obtain ⟨h1, h2, h3, h4⟩ := openS_open hO hc
    obtain ⟨a, b, d, e, f, g⟩ := c
    simp only at h2 h3
    subst h2 h3
    rfl
  have hO' : ∀ c, c ∈ O' ↔ c ∈ openS O := fun c => by
    rw [h'.opens]
    constructor
    · intro hc
      obtain ⟨g, hg, rfl⟩ := hc.grant
      rw [hG] at hg
      rw [hb g hg]
      exact hg
    · intro hc
      have := Opens.own (G := G') c (by rw [hG]; exact hc) (by rw [(openS_open hO hc).2.2.1]; decide)
      rw [hb c hc] at this
      exact this
  have hmost : ∀ c, c ∈ mostL O' ↔ c ∈ mostL O := fun c => by
    rw [mem_mostL, hO', mem_openS hO]
    constructor
    · exact fun ⟨h1, _⟩ => h1
    · exact fun h1 => ⟨h1, fun o ho hu => (mem_mostL.1 h1).2 o (mem_mostL.1 ((mem_openS hO).1 ((hO' o).1 ho))).1 hu⟩
  refine ⟨hG, hO', ?_, fun c h0 => ?_⟩
  · have hp : (mostL O').Perm (mostL O) := (List.perm_ext_iff_of_nodup (h'.once.filter _) (h.once.filter _)).2 hmost
    unfold openS
    rw [sorted_only (l := ((mostL O).map tri).mergeSort fun x y => !ltT y x) ((List.mergeSort_perm _ _).trans (hp.map tri).symm) (List.pairwise_mergeSort leT_trans leT_total _)]
  · rw [hasS_open h h0, hasS_open h' h0]
    congr 2
    rw [Bool.eq_iff_iff, List.any_eq_true, List.any_eq_true]
    constructor
    · rintro ⟨o, ho, hu⟩
      obtain ⟨m, hm, hm2⟩ := below_most hO _ o ho (Nat.le_refl _)
      exact ⟨m, (hO' m).2 ((mem_openS hO).2 hm), underC_trans hu hm2⟩
    · rintro ⟨o, ho, hu⟩
      exact ⟨o, (mem_mostL.1 ((mem_openS hO).1 ((hO' o).1 ho))).1, hu⟩
/-- Each open one a set has. -/
theorem has_own {l G O : List Cap} (h : SetOk l G O) {c : Cap} (hc : c ∈ O) : hasS G O c = true := by
  obtain ⟨h1, h2, h3, h4⟩ := h.open hc
  rw [hasS_open h h3, h4, Bool.true_and, Bool.or_eq_true]
  exact .inr (List.any_eq_true.2 ⟨c, hc, under_refl h4 h1⟩)
/-- Of the same grants all is the same. -/
theorem set_same {l l' G O G' O' : List Cap} (h : SetOk l G O) (h' : SetOk l' G' O') (hl : ∀ c, c ∈ l ↔ c ∈ l') : (∀ c, hasS G O c = hasS G' O' c) ∧ openS O = openS O' ∧ (∀ p, typesS O p = typesS O' p) ∧ ∀ c, c ∈ O ↔ c ∈ O' := by
  have h1 : ∀ g, g ∈ G ↔ g ∈ G' := fun g => by rw [h.grants, h'.grants, mem_grantsL, mem_grantsL, hl]
  have h2 : ∀ c, c ∈ O ↔ c ∈ O' := fun c => by
    rw [h.opens, h'.opens]
    exact ⟨fun hc => hc.mono fun g hg => (h1 g).1 hg, fun hc => hc.mono fun g hg => (h1 g).2 hg⟩
  refine ⟨fun c => ?_, openS_perm h2 h.once h'.once, fun p => ?_, h2⟩
  · rw [Bool.eq_iff_iff]
    exact ⟨hasS_mono (fun g hg => (h1 g).1 hg) (fun o ho => (h2 o).1 ho), hasS_mono (fun g hg => (h1 g).2 hg) (fun o ho => (h2 o).2 ho)⟩
  · unfold typesS
    refine List.filter_congr fun t _ => ?_
    rw [Bool.eq_iff_iff]
    exact ⟨any_mono fun o ho => (h2 o).1 ho, any_mono fun o ho => (h2 o).2 ho⟩
end Go.Proofs.Ytalndcjbnedigaa


/- All that can be made: sets of capabilities (plain). -/
import Derived.Test.YtalndcjbnedigaaCapP
set_option linter.all false
namespace Go.Proofs.Ytalndcjbnedigaa

/-- Has one of some authority over a type? -/
def overC (c : Cap) (t p : Int) : Bool := decide (2 ≤ t) && decide (t ≤ 255) && hasP c.perms p && inC c t 1
def authL (O : List Cap) (t p : Int) : Bool := O.any fun c => overC c t p
def bareC (c : Cap) : Cap := ⟨c.tag, c.base, c.top, c.base, c.perms, 0⟩
def grantsL (l : List Cap) : List Cap := l.filter fun c => c.tag && rightC c
def opensB (O : List Cap) (g : Cap) : Bool := (decide (g.ty ≤ 1) || authL O g.ty 64) && !O.contains (bareC g)
def openStep (O : List Cap) (g : Cap) : List Cap := if opensB O g then O ++ [bareC g] else O
def roundL (G O : List Cap) : List Cap := G.foldl openStep O
def roundsL (G : List Cap) : Nat → List Cap
  | 0 => []
  | k + 1 => roundL G (roundsL G k)
/-- What can be opened of some grants. -/
inductive Opens (G : List Cap) : Cap → Prop
  | own (g : Cap) (h : g ∈ G) (h1 : g.ty ≤ 1) : Opens G (bareC g)
  | under (g : Cap) (h : g ∈ G) (o : Cap) (h1 : Opens G o) (h2 : overC o g.ty 64 = true) : Opens G (bareC g)
theorem Opens.mono {G G' : List Cap} (h : ∀ g ∈ G, g ∈ G') {c : Cap} (hc : Opens G c) : Opens G' c := by
  induction hc with
  | own g hg h1 => exact .own g (h g hg) h1
  | under g hg o _ h2 ih => exact .under g (h g hg) o ih h2
theorem authL_iff {O : List Cap} {t p : Int} : authL O t p = true ↔ ∃ o ∈ O, overC o t p = true := by unfold authL; rw [List.any_eq_true]
/-- Open ones that come of grants alone, each once. -/
structure Sound (G O : List Cap) : Prop where
  opens : ∀ o ∈ O, Opens G o
  once : O.Nodup
theorem Sound.nil (G : List Cap) : Sound G [] := ⟨fun _ h => (by cases h), List.nodup_nil⟩
theorem Sound.step {G O : List Cap} (h : Sound G O) {g : Cap} (hg : g ∈ G) : Sound G (openStep O g) := by
  unfold openStep
  split
  · rename_i hb
    unfold opensB at hb
    rw [Bool.and_eq_true, Bool.or_eq_true, decide_eq_true_eq, Bool.not_eq_true'] at hb
    obtain ⟨h1, h2⟩ := hb
    have h3 : bareC g ∉ O := fun hm => by
      have : O.contains (bareC g) = true := List.contains_iff_mem.2 hm
      rw [this] at h2
      cases h2
    refine ⟨fun o ho => ?_, ?_⟩
    · rcases List.mem_append.1 ho with ho | ho
      · exact h.opens o ho
      · obtain rfl := List.mem_singleton.1 ho
        rcases h1 with h1 | h1
        · exact .own g hg h1
        · obtain ⟨o, ho, h4⟩ := authL_iff.1 h1
          exact .under g hg o (h.opens o ho) h4
    · rw [List.nodup_append]
      refine ⟨h.once, by simp, fun a ha b hb => ?_⟩
      obtain rfl := List.mem_singleton.1 hb
      rintro rfl
      exact h3 ha
  · exact h
theorem Sound.folds {G : List Cap} : ∀ {L O : List Cap}, Sound G O → (∀ g ∈ L, g ∈ G) → Sound G (L.foldl openStep O)
  | [], _, h, _ => h
  | g :: L, O, h, hL => by
    rw [List.foldl_cons]
    exact Sound.folds (L := L) (h.step (hL g List.mem_cons_self)) fun x hx => hL x (List.mem_cons_of_mem _ hx)
theorem sound_rounds (G : List Cap) : ∀ k, Sound G (roundsL G k)
  | 0 => Sound.nil G
  | k + 1 => (sound_rounds G k).folds fun _ h => h
theorem step_len (O : List Cap) (g : Cap) : O.length ≤ (openStep O g).length ∧ ((openStep O g).length = O.length → opensB O g = false) := by
  unfold openStep
  split
  · rename_i h; rw [List.length_append]; simp
  · rename_i h; simpa using h
theorem folds_len : ∀ (L O : List Cap), O.length ≤ (L.foldl openStep O).length ∧ ((L.foldl openStep O).length = O.length → ∀ g ∈ L, opensB O g = false)
  | [], O => ⟨Nat.le_refl _, fun _ g h => by cases h⟩
  | g :: L, O => by
    have h1 := step_len O g
    have h2 := folds_len L (openStep O g)
    rw [List.foldl_cons]
    refine ⟨Nat.le_trans h1.1 h2.1, fun he x hx => ?_⟩
    have h3 : (openStep O g).length = O.length := by omega
    have h4 := h1.2 h3
    have h5 : openStep O g = O := by unfold openStep; rw [h4]; rfl
    rcases List.mem_cons.1 hx with rfl | hx
    · exact h4
    · have := h2.2 (by omega) x hx
      rw [h5] at this
      exact this
/-- A round that opens nothing: all is open that can be. -/
theorem round_all {G O : List Cap} (hs : Sound G O) (h : (roundL G O).length = O.length) : ∀ c, c ∈ O ↔ Opens G c := by
  have hn := (folds_len G O).2 h
  have hin : ∀ g ∈ G, (g.ty ≤ 1 ∨ authL O g.ty 64 = true) → bareC g ∈ O := fun g hg h1 => by
    have h2 := hn g hg
    unfold opensB at h2
    have h3 : (decide (g.ty ≤ 1) || authL O g.ty 64) = true := by
      rw [Bool.or_eq_true, decide_eq_true_eq]; exact h1
    rw [h3, Bool.true_and, Bool.not_eq_false'] at h2
    exact List.contains_iff_mem.1 h2
  refine fun c => ⟨hs.opens c, fun hc => ?_⟩
  induction hc with
  | own g hg h1 => exact hin g hg (.inl h1)
  | under g hg o _ h2 ih => exact hin g hg (.inr (authL_iff.2 ⟨o, ih, h2⟩))
theorem Opens.grant {G : List Cap} {c : Cap} (h : Opens G c) : ∃ g ∈ G, c = bareC g := by
  cases h with
  | own g hg _ => exact ⟨g, hg, rfl⟩
  | under g hg o _ _ => exact ⟨g, hg, rfl⟩
theorem nodup_le {α : Type} [DecidableEq α] : ∀ {O L : List α}, O.Nodup → (∀ o ∈ O, o ∈ L) → O.length ≤ L.length
  | [], _, _, _ => Nat.zero_le _
  | o :: O, L, hn, hs => by
    have h1 := List.nodup_cons.1 hn
    have h2 := nodup_le (L := L.erase o) h1.2 fun x hx => (List.mem_erase_of_ne (fun e => h1.1 (by rw [← e]; exact hx))).2 (hs x (List.mem_cons_of_mem _ hx))
    have h3 := List.length_erase_of_mem (hs o List.mem_cons_self)
    have h4 := List.length_pos_of_mem (hs o List.mem_cons_self)
    simp only [List.length_cons]
    omega
theorem Sound.len {G O : List Cap} (h : Sound G O) : O.length ≤ G.length := by
  have := nodup_le (L := G.map bareC) h.once fun o ho => by
    obtain ⟨g, hg, rfl⟩ := (h.opens o ho).grant
    exact List.mem_map.2 ⟨g, hg, rfl⟩
  simpa using this
/-- What a set has: its grants, and its open ones. -/
structure SetOk (l G O : List Cap) : Prop where
  grants : G = grantsL l
  opens : ∀ c, c ∈ O ↔ Opens G c
  once : O.Nodup
theorem SetOk.len {l G O : List Cap} (h : SetOk l G O) : O.length ≤ G.length ∧ G.length ≤ l.length :=
  ⟨Sound.len ⟨fun o ho => (h.opens o).1 ho, h.once⟩, by rw [h.grants]; exact List.length_filter_le _ _⟩
def ownB (G : List Cap) (c : Cap) : Bool := G.any fun g => decide (({ g with at' := c.at' } : Cap) = c)
def hasS (G O : List Cap) (c : Cap) : Bool := rightC c && (!c.tag || ownB G c || ((O.any fun o => underC c o) && (if c.ty = 1 then hasP c.perms 4 else c.ty == 0 || authL O c.ty 32)))
def typesS (O : List Cap) (p : Int) : List Int := ((List.range 254).map fun i : Nat => (i : Int) + 2).filter fun t => authL O t p
theorem mem_grantsL {l : List Cap} {c : Cap} : c ∈ grantsL l ↔ c ∈ l ∧ c.tag = true ∧ rightC c = true := by
  unfold grantsL
  rw [List.mem_filter, Bool.and_eq_true]
theorem any_mono {α : Type} {O O' : List α} {f : α → Bool} (h : ∀ o ∈ O, o ∈ O') (ha : O.any f = true) : O'.any f = true := by
  rw [List.any_eq_true] at ha ⊢
  obtain ⟨x, hx, hf⟩ := ha
  exact ⟨x, h x hx, hf⟩
/-- P6.3: a set of more grants has all that one of fewer has. -/
theorem hasS_mono {G O G' O' : List Cap} (hG : ∀ g ∈ G, g ∈ G') (hO : ∀ o ∈ O, o ∈ O') {c : Cap} (h : hasS G O c = true) : hasS G' O' c = true := by
  unfold hasS at h ⊢
  rw [Bool.and_eq_true, Bool.or_eq_true, Bool.or_eq_true, Bool.and_eq_true] at h ⊢
  refine ⟨h.1, ?_⟩
  rcases h.2 with (h1 | h1) | ⟨h1, h2⟩
  · exact .inl (.inl h1)
  · exact .inl (.inr (any_mono hG h1))
  · refine .inr ⟨any_mono hO h1, ?_⟩
    split at h2
    · rename_i h3; rw [if_pos h3]; exact h2
    · rename_i h3
      rw [if_neg h3]
      rw [Bool.or_eq_true] at h2 ⊢
      exact h2.imp id (any_mono hO)
theorem opens_more {l more : List Cap} {G O G' O' : List Cap} (h : SetOk l G O) (h' : SetOk (l ++ more) G' O') : (∀ g ∈ G, g ∈ G') ∧ ∀ o ∈ O, o ∈ O' := by
  have h1 : ∀ g ∈ G, g ∈ G' := fun g hg => by
    rw [h.grants, mem_grantsL] at hg
    rw [h'.grants, mem_grantsL]
    exact ⟨List.mem_append_left _ hg.1, hg.2⟩
  exact ⟨h1, fun o ho => (h'.opens o).2 (((h.opens o).1 ho).mono h1)⟩
theorem under_refl {c : Cap} (h : rightC c = true) (ht : c.tag = true) : underC c c = true := by
  have h1 := rightC_iff.1 h
  exact underC_iff.2 ⟨Int.le_refl _, (h1.2.2.2.2.2.2 ht).1, Int.le_refl _, hasP_refl h1.2.2.2.1⟩
theorem under_bare {c g : Cap} : underC c (bareC g) = underC c g := rfl
/-- P6.4: what is tagged, and a set has, spans, and permits, no more than a grant. -/
theorem hasS_less {l G O : List Cap} (h : SetOk l G O) {c : Cap} (hc : hasS G O c = true) (ht : c.tag = true) : ∃ g ∈ l, g.tag = true ∧ rightC g = true ∧ underC c g = true := by
  unfold hasS at hc
  rw [Bool.and_eq_true, Bool.or_eq_true, Bool.or_eq_true, Bool.and_eq_true, Bool.not_eq_true'] at hc
  obtain ⟨hr, (h1 | h1) | ⟨h1, -⟩⟩ := hc
  · rw [ht] at h1; cases h1
  · unfold ownB at h1
    rw [List.any_eq_true] at h1
    obtain ⟨g, hg, he⟩ := h1
    have he := of_decide_eq_true he
    rw [h.grants, mem_grantsL] at hg
    have h2 := under_refl hr ht
    rw [← he] at h2
    have h3 : underC c g = true := by
      rw [← he]
      exact h2
    exact ⟨g, hg.1, hg.2.1, hg.2.2, h3⟩
  · rw [List.any_eq_true] at h1
    obtain ⟨o, ho, hu⟩ := h1
    obtain ⟨g, hg, rfl⟩ := ((h.opens o).1 ho).grant
    rw [h.grants, mem_grantsL] at hg
    exact ⟨g, hg.1, hg.2.1, hg.2.2, hu⟩
end Go.Proofs.Ytalndcjbnedigaa

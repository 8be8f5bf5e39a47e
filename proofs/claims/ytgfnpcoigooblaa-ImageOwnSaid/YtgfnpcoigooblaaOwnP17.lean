
/- Images: what compartments are granted, and by which they enter others (plain). -/
import Derived.Test.YtgfnpcoigooblaaApaP17
set_option linter.all false
namespace Go.Proofs.Ytgfnpcoigooblaa

def addrB (n : Int) : Bool := decide (0 ≤ n) && decide (n ≤ 4294967295)
def permB (n : Int) : Bool := decide (0 ≤ n) && decide (n ≤ 127)
/-- B1: is a capability right? -/
def rightC (c : Cap) : Bool := (addrB c.base && addrB c.top && addrB c.at' && permB c.perms && decide (0 ≤ c.ty) && decide (c.ty ≤ 255)) && (!c.tag || (decide (c.base ≤ c.top) && decide (c.top ≤ 16777216)))
/-- B2: does it span these? -/
def inC (c : Cap) (a n : Int) : Bool := decide (0 ≤ a) && decide (0 ≤ n) && decide (c.base ≤ a) && decide (a ≤ c.top) && decide (n ≤ c.top - a)
theorem shareGs_mem {k : Int} {y : LayD} {ss : List ShareM} {c : Cap} : ∀ n, c ∈ shareGs k y ss n → ∃ s, s < n ∧ s < ss.length ∧ ∃ p, (p = 3 ∨ p = 1) ∧ c = grantD (y.shares.getD s 0) (y.shares.getD s 0 + 256) p
  | 0, h => by cases h
  | n + 1, h => by
    rw [shareGs] at h
    rcases List.mem_append.1 h with h | h
    · obtain ⟨s, h1, h2⟩ := shareGs_mem n h
      exact ⟨s, by omega, h2⟩
    · cases hs : ss[n]? with
      | none => rw [hs] at h; cases h
      | some s =>
        rw [hs] at h
        simp only [shareG] at h
        have hlt := (List.getElem?_eq_some_iff.1 hs).1
        split at h
        · obtain rfl := List.mem_singleton.1 h
          refine ⟨n, by omega, hlt, _, ?_, rfl⟩
          split <;> simp
        · cases h
/-- Where in the layout a granted capability stands. -/
def Spot (y : LayD) (n i j : Nat) (c : Cap) : Prop := (j = 2 ∧ c.base = 16 + (i : Int) ∧ c.top = 17 + (i : Int)) ∨ ∃ q, (allL y)[q]? = some (c.base, c.top) ∧ (j = 0 ∧ q = i ∨ j = 1 ∧ q = n + i ∨ 3 ≤ j ∧ 3 * n ≤ q)
theorem at_code {y : LayD} {n i : Nat} (h : y.code.length = n) (hi : i < n) : (allL y)[i]? = some (y.code.getD i (0, 0)) := by
  unfold allL
  rw [List.append_assoc, List.append_assoc, List.getElem?_append_left (by omega), List.getD_eq_getElem?_getD, List.getElem?_eq_getElem (by omega)]
  rfl
theorem at_data {y : LayD} {n i : Nat} (h : y.code.length = n) (h2 : y.data.length = n) (hi : i < n) : (allL y)[n + i]? = some (y.data.getD i (0, 0)) := by
  unfold allL
  rw [List.append_assoc, List.append_assoc, List.getElem?_append_right (by omega)]
  have e : n + i - y.code.length = i := by omega
  rw [e, List.getElem?_append_left (by omega), List.getD_eq_getElem?_getD, List.getElem?_eq_getElem (by omega)]
  rfl
theorem at_share {y : LayD} {n s : Nat} (h : y.code.length = n) (h2 : y.data.length = n) (h3 : y.heap.length = n) (hs : s < y.shares.length) : (allL y)[3 * n + s]? = some (y.shares.getD s 0, y.shares.getD s 0 + 256) := by
  unfold allL
  rw [List.getElem?_append_right (by simp; omega), List.getElem?_map, List.getD_eq_getElem?_getD]
  have : 3 * n + s - (y.code ++ y.data ++ y.heap).length = s := by simp; omega
  rw [this, List.getElem?_eq_getElem hs]
  rfl
theorem grants_eq {x : ImgD} (hr : rightD x = true) {i : Nat} (hi : i < x.comps.length) : grantsD x (i : Int) = grants3 i (whereD x) ++ shareGs i (whereD x) x.shares x.shares.length := by
  unfold grantsD
  rw [if_pos ⟨hr, by omega, by omega⟩]
theorem spot_of {x : ImgD} (hr : rightD x = true) {i : Nat} (hi : i < x.comps.length) {j : Nat} {c : Cap} (hc : (grantsD x (i : Int))[j]? = some c) : Spot (whereD x) x.comps.length i j c := by
  obtain ⟨h1, h2, h3, h4⟩ := where_lens hr
  rw [grants_eq hr hi] at hc
  unfold grants3 at hc
  simp only [Int.toNat_natCast] at hc
  match j, hc with
  | 0, hc =>
    simp only [List.cons_append, List.getElem?_cons_zero, Option.some.injEq] at hc
    subst hc
    exact .inr ⟨i, at_code h1 hi, .inl ⟨rfl, rfl⟩⟩
  | 1, hc =>
    simp only [List.cons_append, List.getElem?_cons_succ, List.getElem?_cons_zero, Option.some.injEq] at hc
    subst hc
    exact .inr ⟨x.comps.length + i, at_data h1 h2 hi, .inr (.inl ⟨rfl, rfl⟩)⟩
  | 2, hc =>
    simp only [List.cons_append, List.getElem?_cons_succ, List.getElem?_cons_zero, Option.some.injEq] at hc
    subst hc
    exact .inl ⟨rfl, rfl, by unfold grantD; simp only; omega⟩
  | j + 3, hc =>
    simp only [List.cons_append, List.getElem?_cons_succ, List.nil_append] at hc
    obtain ⟨s, -, hs, p, -, rfl⟩ := shareGs_mem _ (List.mem_of_getElem? hc)
    exact .inr ⟨3 * x.comps.length + s, at_share h1 h2 h3 (by omega), .inr (.inr ⟨by omega, by omega⟩)⟩
/-- Of two compartments what both span is a shared page alone. -/
theorem grants_apart {x : ImgD} (hr : rightD x = true) {i k : Nat} (hi : i < x.comps.length) (hk : k < x.comps.length) (hik : i ≠ k) {j l : Nat} {c d : Cap} (hc : (grantsD x (i : Int))[j]? = some c) (hd : (grantsD x (k : Int))[l]? = some d) (h3 : j < 3 ∨ l < 3) : ¬ (c.base < d.top ∧ d.base < c.top) := by
  have hn := (right_form hr).n.2
  have ht := tidy_all hr
  have hb : ∀ {q : Nat} {e : Cap}, (allL (whereD x))[q]? = some (e.base, e.top) → 256 ≤ e.base ∧ e.base < e.top := fun h => by
    have := ht.all _ (List.mem_of_getElem? h)
    omega
  have hap : ∀ {q r : Nat} {e f : Cap}, (allL (whereD x))[q]? = some (e.base, e.top) → (allL (whereD x))[r]? = some (f.base, f.top) → q ≠ r → e.top ≤ f.base ∨ f.top ≤ e.base := fun {q r e f} h1 h2 hne => by
    obtain ⟨g1, e1⟩ := List.getElem?_eq_some_iff.1 h1
    obtain ⟨g2, e2⟩ := List.getElem?_eq_some_iff.1 h2
    have hp := List.pairwise_iff_getElem.1 ht.apart
    rcases Nat.lt_or_gt_of_ne hne with hlt | hlt
    · have := hp q r g1 g2 hlt
      rw [e1, e2] at this
      exact this
    · have := hp r q g2 g1 hlt
      rw [e1, e2] at this
      exact this.symm
  rcases spot_of hr hi hc with ⟨-, a1, a2⟩ | ⟨q, a1, a2⟩ <;> rcases spot_of hr hk hd with ⟨-, b1, b2⟩ | ⟨r, b1, b2⟩
  · omega
  · have := hb b1; omega
  · have := hb a1; omega
  · have := hap a1 b1 (by omega)
    omega
theorem spans {x : ImgD} (hr : rightD x = true) {q : Nat} {a b : Int} (h : (allL (whereD x))[q]? = some (a, b)) : 256 ≤ a ∧ a < b ∧ b ≤ 103680 := by
  have h1 := (tidy_all hr).all _ (List.mem_of_getElem? h)
  have h2 := (pages_le hr).2
  simp only at h1
  omega
theorem rightC_of {c : Cap} (h1 : 0 ≤ c.base) (h2 : c.base ≤ c.top) (h3 : c.top ≤ 16777216) (h4 : 0 ≤ c.at') (h5 : c.at' ≤ 16777216) (h6 : 0 ≤ c.perms) (h7 : c.perms ≤ 127) (h8 : 0 ≤ c.ty) (h9 : c.ty ≤ 255) : rightC c = true := by
  unfold rightC addrB permB
  simp only [Bool.and_eq_true, Bool.or_eq_true, decide_eq_true_eq]
  exact ⟨⟨⟨⟨⟨⟨⟨h1, by omega⟩, by omega, by omega⟩, h4, by omega⟩, h6, h7⟩, h8⟩, h9⟩, .inr ⟨h2, h3⟩⟩
theorem grants_shape {x : ImgD} (hr : rightD x = true) {i : Nat} (hi : i < x.comps.length) {c : Cap} (hc : c ∈ grantsD x (i : Int)) : ∃ p, c = grantD c.base c.top p ∧ (p = 5 ∨ p = 27 ∨ p = 96 ∨ p = 3 ∨ p = 1) := by
  rw [grants_eq hr hi] at hc
  rcases List.mem_append.1 hc with hc | hc
  · unfold grants3 at hc
    simp only [List.mem_cons, List.not_mem_nil, or_false] at hc
    rcases hc with rfl | rfl | rfl
    · exact ⟨5, rfl, .inl rfl⟩
    · exact ⟨27, rfl, .inr (.inl rfl)⟩
    · exact ⟨96, rfl, .inr (.inr (.inl rfl))⟩
  · obtain ⟨s, -, -, p, hp, rfl⟩ := shareGs_mem _ hc
    exact ⟨p, rfl, by omega⟩
/-- What compartments are granted is right, and not sealed. -/
theorem grants_own {x : ImgD} (hr : rightD x = true) {i : Nat} (hi : i < x.comps.length) {c : Cap} (hc : c ∈ grantsD x (i : Int)) : rightC c = true ∧ c.tag = true ∧ c.ty = 0 ∧ c.at' = c.base := by
  obtain ⟨p, hp, hq⟩ := grants_shape hr hi hc
  obtain ⟨j, hj⟩ := List.mem_iff_getElem?.1 hc
  have hn := (right_form hr).n.2
  have hb : 0 ≤ c.base ∧ c.base ≤ c.top ∧ c.top ≤ 103680 := by
    rcases spot_of hr hi hj with ⟨-, a1, a2⟩ | ⟨q, a1, -⟩
    · omega
    · have := spans hr a1; omega
  have e1 : c.tag = true := by rw [hp]; rfl
  have e2 : c.ty = 0 := by rw [hp]; rfl
  have e3 : c.at' = c.base := by rw [hp]; rfl
  have e4 : c.perms = p := by rw [hp]; rfl
  exact ⟨rightC_of hb.1 hb.2.1 (by omega) (by omega) (by omega) (by omega) (by omega) (by omega) (by omega), e1, e2, e3⟩
theorem grants_three {x : ImgD} (hr : rightD x = true) {i : Nat} (hi : i < x.comps.length) : 3 ≤ (grantsD x (i : Int)).length := by
  rw [grants_eq hr hi]
  simp [grants3]
/-- By which one enters another one. -/
theorem pairs_own {x : ImgD} (hr : rightD x = true) {i : Int} {p : Cap × Cap} (hp : p ∈ pairsD x i) :
    rightC p.1 = true ∧ rightC p.2 = true ∧ 2 ≤ p.1.ty ∧ p.1.ty ≤ 5 ∧ p.2.ty = p.1.ty ∧ p.2.perms = 27 ∧ inC p.1 p.1.at' 4 = true := by
  have f := right_form hr
  unfold pairsD pairsP at hp
  rw [if_pos hr, List.take_length] at hp
  obtain ⟨l, hl, rfl⟩ := List.mem_map.1 hp
  have hl := (List.mem_filter.1 hl).1
  obtain ⟨-, -, t0, t1, -, a0, c, hc, a1⟩ := f.links l hl
  obtain ⟨h1, h2, h3, h4⟩ := where_lens hr
  have hn := f.n.2
  have hi : l.to.toNat < x.comps.length := by omega
  have hlen := (where_sizes hr hi).1
  have hsz := (f.comps _ (List.getElem_mem hi))
  have hcc : x.comps[l.to.toNat] = c := by
    rw [List.getElem?_eq_getElem hi] at hc
    exact Option.some.inj hc
  rw [hcc] at hlen hsz
  have s1 := spans (a := ((whereD x).code.getD l.to.toNat (0, 0)).1) (b := ((whereD x).code.getD l.to.toNat (0, 0)).2) hr (at_code h1 hi)
  have s2 := spans (a := ((whereD x).data.getD l.to.toNat (0, 0)).1) (b := ((whereD x).data.getD l.to.toNat (0, 0)).2) hr (at_data h1 h2 hi)
  unfold linkPair
  simp only
  refine ⟨rightC_of (by simp only; omega) (by simp only; omega) (by simp only; omega) (by simp only; omega) (by simp only; omega) (by simp) (by simp) (by simp only; omega) (by simp only; omega), rightC_of (by simp only; omega) (by simp only; omega) (by simp only; omega) (by simp only; omega) (by simp only; omega) (by simp) (by simp) (by simp only; omega) (by simp only; omega), by omega, by omega, trivial, trivial, ?_⟩
  unfold inC
  simp only [Bool.and_eq_true, decide_eq_true_eq]
  omega
/-- Nobody has authority over these types. -/
theorem grants_types {x : ImgD} (hr : rightD x = true) {k : Nat} (hk : k < x.comps.length) {c : Cap} (hc : c ∈ grantsD x (k : Int)) (h32 : 32 ≤ c.perms) {t : Int} (ht : t ≤ 5) : inC c t 1 = false := by
  rw [grants_eq hr hk] at hc
  have h16 : 16 ≤ c.base := by
    rcases List.mem_append.1 hc with hc | hc
    · unfold grants3 at hc
      simp only [List.mem_cons, List.not_mem_nil, or_false] at hc
      rcases hc with rfl | rfl | rfl
      · simp [grantD] at h32
      · simp [grantD] at h32
      · simp only [grantD]; omega
    · obtain ⟨s, -, -, p, hp, rfl⟩ := shareGs_mem _ hc
      simp only [grantD] at h32
      omega
  unfold inC
  simp only [Bool.and_eq_false_iff, decide_eq_false_iff_not]
  left; left; right
  omega
end Go.Proofs.Ytgfnpcoigooblaa

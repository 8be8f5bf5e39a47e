
/- Images: all that a layout tells is apart (plain). -/
import Derived.Test.YtgfnpcoigooblaaPairs
import Derived.Test.YtgfnpcoigooblaaRdQ17
set_option linter.all false
namespace Go.Proofs.Ytgfnpcoigooblaa

def cAt (h : Int) (cs : List CompD) (i : Nat) : Int × Int := ((whC h cs i).page * 256, (whC h cs i).page * 256 + (cs.map fun c => (c.code.length : Int)).getD i 0)
def dPg (h : Int) (cs : List CompD) (i : Nat) : Int := (whC h cs i).page + ((cs.map fun c => (c.code.length : Int)).getD i 0 + 255) / 256
def dAt (h : Int) (cs : List CompD) (i : Nat) : Int × Int := (dPg h cs i * 256, (dPg h cs i + (cs.map CompD.data).getD i 0) * 256)
def hAt (h : Int) (cs : List CompD) (i : Nat) : Int × Int := ((dPg h cs i + (cs.map CompD.data).getD i 0) * 256, (dPg h cs i + (cs.map CompD.data).getD i 0 + h) * 256)
theorem whC_lists (h : Int) (cs : List CompD) : ∀ k, (whC h cs k).code = (List.range k).map (cAt h cs) ∧ (whC h cs k).data = (List.range k).map (dAt h cs) ∧ (whC h cs k).heap = (List.range k).map (hAt h cs)
  | 0 => ⟨rfl, rfl, rfl⟩
  | k + 1 => by
    obtain ⟨h1, h2, h3⟩ := whC_lists h cs k
    simp only [List.range_succ, List.map_append, List.map_cons, List.map_nil, ← h1, ← h2, ← h3]
    exact ⟨rfl, rfl, rfl⟩
theorem whC_next (h : Int) (cs : List CompD) (k : Nat) : (whC h cs (k + 1)).page = dPg h cs k + (cs.map CompD.data).getD k 0 + h := rfl
/-- All in a list stand between the page 1 and a bound, and are apart. -/
structure Tidy (l : List (Int × Int)) (hi : Int) : Prop where
  all : ∀ a ∈ l, 256 ≤ a.1 ∧ a.1 % 256 = 0 ∧ a.1 < a.2 ∧ a.2 ≤ hi
  apart : l.Pairwise fun a b => a.2 ≤ b.1 ∨ b.2 ≤ a.1
theorem Tidy.nil (hi : Int) : Tidy [] hi := ⟨fun _ h => (by cases h), .nil⟩
theorem Tidy.snoc {l : List (Int × Int)} {hi hi' : Int} (h : Tidy l hi) (a : Int × Int) (h0 : 256 ≤ a.1) (h1 : hi ≤ a.1) (h2 : a.1 % 256 = 0) (h3 : a.1 < a.2) (h4 : a.2 ≤ hi') : Tidy (l ++ [a]) hi' := by
  refine ⟨fun b hb => ?_, ?_⟩
  · rcases List.mem_append.1 hb with hb | hb
    · have := h.all b hb; omega
    · obtain rfl := List.mem_singleton.1 hb; omega
  · rw [List.pairwise_append]
    refine ⟨h.apart, by simp, fun b hb c hc => ?_⟩
    obtain rfl := List.mem_singleton.1 hc
    have := h.all b hb
    omega
theorem Tidy.more {l : List (Int × Int)} {hi hi' : Int} (h : Tidy l hi) (h1 : hi ≤ hi') : Tidy l hi' := ⟨fun a ha => by have := h.all a ha; omega, h.apart⟩
theorem Tidy.perm {l m : List (Int × Int)} {hi : Int} (h : Tidy l hi) (p : m.Perm l) : Tidy m hi :=
  ⟨fun a ha => h.all a (p.mem_iff.1 ha), (p.pairwise_iff (fun hab => Or.symm hab)).2 h.apart⟩
theorem perm3 {α : Type} [DecidableEq α] {β : Type} (c d h : β → α) (l : List β) : (l.map c ++ l.map d ++ l.map h).Perm (l.flatMap fun i => [c i, d i, h i]) := by
  induction l with
  | nil => exact .refl _
  | cons a l ih =>
    rw [List.perm_iff_count] at ih ⊢
    intro x
    have := ih x
    simp only [List.map_cons, List.flatMap_cons, List.count_append, List.count_cons, List.count_nil] at this ⊢
    omega
/-- What is known of compartments of a right image. -/
structure Sane (h : Int) (cs : List CompD) : Prop where
  h0 : 1 ≤ h
  h1 : h ≤ 64
  n : cs.length ≤ 4
  all : ∀ c ∈ cs, 4 ≤ c.code.length ∧ c.code.length ≤ 4096 ∧ 1 ≤ c.data ∧ c.data ≤ 8
theorem Sane.of {x : ImgD} (h : Form x) : Sane x.heap x.comps := ⟨h.heap.1, h.heap.2, h.n.2, fun c hc => by have := h.comps c hc; omega⟩
theorem Sane.at {h : Int} {cs : List CompD} (s : Sane h cs) {i : Nat} (hi : i < cs.length) :
    (cs.map fun c => (c.code.length : Int)).getD i 0 = (cs[i].code.length : Int) ∧ (cs.map CompD.data).getD i 0 = cs[i].data ∧ 4 ≤ cs[i].code.length ∧ cs[i].code.length ≤ 4096 ∧ 1 ≤ cs[i].data ∧ cs[i].data ≤ 8 ∧ 1 ≤ (whC h cs i).page ∧ (whC h cs i).page ≤ 1 + 100 * i := by
  have h1 := s.all cs[i] (List.getElem_mem hi)
  have h2 := whC_page (h := h) (cs := cs) (by have := s.h0; omega) s.h1 (fun c hc => by have := s.all c hc; omega) i (by omega)
  simp only [List.getD_eq_getElem?_getD, List.getElem?_map, List.getElem?_eq_getElem hi, Option.map_some, Option.getD_some]
  exact ⟨trivial, trivial, h1.1, h1.2.1, h1.2.2.1, h1.2.2.2, h2.1, h2.2⟩
theorem tidy_comps {h : Int} {cs : List CompD} (s : Sane h cs) : ∀ k, k ≤ cs.length → Tidy ((List.range k).flatMap fun i => [cAt h cs i, dAt h cs i, hAt h cs i]) ((whC h cs k).page * 256)
  | 0, _ => Tidy.nil _
  | k + 1, hk => by
    obtain ⟨a1, a2, a3, a4, a5, a6, a7, a8⟩ := s.at (i := k) (by omega)
    have s0 := s.h0
    have ih := tidy_comps s k (by omega)
    rw [List.range_succ, List.flatMap_append, whC_next]
    have h1 := ih.snoc (hi' := dPg h cs k * 256) (cAt h cs k) (by unfold cAt; simp only; omega) (by unfold cAt; exact Int.le_refl _) (by unfold cAt; simp only; omega) (by unfold cAt; simp only [a1]; omega) (by unfold cAt dPg; simp only [a1]; omega)
    have h2 := h1.snoc (hi' := (dPg h cs k + (cs.map CompD.data).getD k 0) * 256) (dAt h cs k) (by unfold dAt dPg; simp only [a1]; omega) (by unfold dAt; exact Int.le_refl _) (by unfold dAt; simp only; omega) (by unfold dAt; simp only [a2]; omega) (by unfold dAt; exact Int.le_refl _)
    have h3 := h2.snoc (hi' := (dPg h cs k + (cs.map CompD.data).getD k 0 + h) * 256) (hAt h cs k) (by unfold hAt dPg; simp only [a1, a2]; omega) (by unfold hAt; exact Int.le_refl _) (by unfold hAt; simp only; omega) (by unfold hAt; simp only; omega) (by unfold hAt; exact Int.le_refl _)
    simpa using h3
def pgs (p : Int) (m : Nat) : List (Int × Int) := (List.range m).map fun i : Nat => ((p + i) * 256, (p + i) * 256 + 256)
theorem tidy_pages {l : List (Int × Int)} {p : Int} (h : Tidy l (p * 256)) (hp : 1 ≤ p) : ∀ m, Tidy (l ++ pgs p m) ((p + (m : Nat)) * 256)
  | 0 => by simpa [pgs] using h
  | m + 1 => by
    have ih := tidy_pages h hp m
    have h1 := ih.snoc (hi' := (p + ((m + 1 : Nat) : Int)) * 256) ((p + m) * 256, (p + m) * 256 + 256) (by simp only; omega) (by simp only; omega) (by simp only; omega) (by simp only; omega) (by simp only; omega)
    rw [List.append_assoc] at h1
    simpa [pgs, List.range_succ] using h1
/-- All that a layout tells. -/
def allL (y : LayD) : List (Int × Int) := y.code ++ y.data ++ y.heap ++ y.shares.map fun s => (s, s + 256)
theorem right_form {x : ImgD} (hr : rightD x = true) : Form x := form_iff (by unfold rightD at hr; simp only [Bool.and_eq_true] at hr; exact hr.1)
theorem where_eq {x : ImgD} (hr : rightD x = true) : whereD x = ⟨(List.range x.comps.length).map (cAt x.heap x.comps), (List.range x.comps.length).map (dAt x.heap x.comps), (List.range x.comps.length).map (hAt x.heap x.comps), (List.range x.shares.length).map (fun i : Nat => ((whC x.heap x.comps x.comps.length).page + i) * 256), (whC x.heap x.comps x.comps.length).page + x.shares.length⟩ := by
  unfold whereD
  rw [if_pos hr]
  simp only
  obtain ⟨h1, h2, h3⟩ := whC_lists x.heap x.comps x.comps.length
  rw [h1, h2, h3]
/-- P17.3 -/
theorem tidy_all {x : ImgD} (hr : rightD x = true) : Tidy (allL (whereD x)) ((whereD x).pages * 256) := by
  have s := Sane.of (right_form hr)
  rw [where_eq hr]
  have h1 := tidy_comps s x.comps.length (Nat.le_refl _)
  have hp := (whC_page (h := x.heap) (cs := x.comps) (by have := s.h0; omega) s.h1 (fun c hc => by have := s.all c hc; omega) x.comps.length (Nat.le_refl _)).1
  have h2 := tidy_pages h1 hp x.shares.length
  refine h2.perm ?_
  unfold allL
  simp only [List.map_map]
  refine List.Perm.append (perm3 _ _ _ _) ?_
  exact List.Perm.of_eq rfl
theorem pages_le {x : ImgD} (hr : rightD x = true) : 1 ≤ (whereD x).pages ∧ (whereD x).pages ≤ 405 := by
  have f := right_form hr
  have s := Sane.of f
  have hp := whC_page (h := x.heap) (cs := x.comps) (by have := s.h0; omega) s.h1 (fun c hc => by have := s.all c hc; omega) x.comps.length (Nat.le_refl _)
  have := f.n
  have := f.ns
  rw [where_eq hr]
  simp only
  omega
theorem range_getD {α : Type} {f : Nat → α} {n i : Nat} {d : α} (h : i < n) : ((List.range n).map f).getD i d = f i := by
  simp [List.getD_eq_getElem?_getD, h]
/-- How long each of a compartment's parts is. -/
theorem where_sizes {x : ImgD} (hr : rightD x = true) {i : Nat} (hi : i < x.comps.length) :
    ((whereD x).code.getD i (0, 0)).2 - ((whereD x).code.getD i (0, 0)).1 = x.comps[i].code.length ∧ ((whereD x).data.getD i (0, 0)).2 - ((whereD x).data.getD i (0, 0)).1 = 256 * x.comps[i].data ∧ ((whereD x).heap.getD i (0, 0)).2 - ((whereD x).heap.getD i (0, 0)).1 = 256 * x.heap := by
  have s := Sane.of (right_form hr)
  obtain ⟨a1, a2, -⟩ := s.at hi
  rw [where_eq hr]
  simp only [range_getD hi]
  unfold cAt dAt hAt
  simp only [a1, a2]
  omega
theorem where_lens {x : ImgD} (hr : rightD x = true) : (whereD x).code.length = x.comps.length ∧ (whereD x).data.length = x.comps.length ∧ (whereD x).heap.length = x.comps.length ∧ (whereD x).shares.length = x.shares.length := by
  rw [where_eq hr]
  simp
end Go.Proofs.Ytgfnpcoigooblaa

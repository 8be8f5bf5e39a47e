
/- The law's own Great: whatever the image, it answers. -/
import Derived.Test.YtgfnpcoigooblaaImgG
set_option linter.all false
namespace Go.Proofs.Ytgfnpcoigooblaa
open Go.RowKit
attribute [local go_sem] seen dstOf boolOf
set_option maxHeartbeats 4000000 in
set_option maxRecDepth 100000 in
theorem great_any (x : ImgM) (w : World) (h : ImgAt w x) (h1 : x.comps.length ≤ 8796093021952) (h2 : x.links.length ≤ 8796093021952) (h3 : x.shares.length ≤ 8796093021952) :
    Calls Try.prog 11 #[x.val] w fun e w' => ∃ b, e = .returned (.bool b) ∧ Ext w w' := by
  have H := Lib.hid h
  clear h
  go_enter Try.func11, Try.ntmps11
  go_wp2_with fail
  obtain ⟨W0, hW0⟩ : ∃ W0, W0 = w.alloc (.cells #[.bool x.strict, .int .i64 x.heap, .int .i64 x.full, .slice x.Ac x.comps.length x.cc, .slice x.Al x.links.length x.cl, .slice x.As x.shares.length x.cs] 26) := ⟨_, rfl⟩
  rw [← hW0]
  have E0 : Ext w W0 := by rw [hW0]; exact (by repeat first | (with_reducible exact Below.refl _ _) | (with_reducible apply Ext.alloc) | (with_reducible apply Ext.drew) | (with_reducible apply Ext.drewN) | (with_reducible refine Ext.set ?_ (by simp)))
  have hz : W0.heap[w.heap.size]? = some (.cells #[.bool x.strict, .int .i64 x.heap, .int .i64 x.full, .slice x.Ac x.comps.length x.cc, .slice x.Al x.links.length x.cl, .slice x.As x.shares.length x.cs] 26) := by rw [hW0]; exact heap_alloc_new w _
  have H0 := Lib.hid (And.intro E0 hz)
  clear hW0 E0 hz
  go_loopw [3, 4] (fun n i wr => ∃ (k : Nat) (m : Int), k ≤ x.comps.length ∧ i = .int .i64 (k : Int) ∧ n = .int .i64 m ∧ 0 ≤ m ∧ m ≤ 26388279065856 ∧ Ext W0 wr) (fun _ i _ => x.comps.length - (intOf i).toNat)
  case atStart => exact ⟨0, _, Nat.zero_le _, rfl, rfl, by omega, by omega, Below.refl _ _⟩
  case round =>
    obtain ⟨k, m, hk, rfl, rfl, hm0, hm1, hE⟩ := hrel
    obtain ⟨z0, z1, z2, z3, z4, z5⟩ := lie6 H0.out.2 hE
    have hlt : w.heap.size < wr.heap.size := Nat.lt_of_lt_of_le (cell_lt (lie6 H0.out.2 (Below.refl _ _)).1) hE.size
    by_cases hlt2 : k < x.comps.length
    · by_cases hlt3 : m < 20000
      · obtain ⟨b1, o1, hb, hb1, q1⟩ := (H.out.comps.ext (H0.out.1.then hE)).flat (s := 2) (fun _ => rfl) (by decide) hlt2
        rw [hb] at z3
        have x0 := q1 0 _ rfl
        simp only [Nat.zero_mul, Nat.add_zero] at x0
        have hcl := (H.out.codes x.comps[k] (List.getElem_mem hlt2)).2.2.2.1
        generalize x.comps[k] = c1 at x0 hcl
        clear q1
        go_wp2_with fail
        exact ⟨⟨k + 1, _, by omega, by simp, rfl, by split <;> omega, by split <;> omega, hE⟩, by simp [intOf]; omega⟩
      · go_wp2_with fail
        all_goals (go_ret; first | exact ⟨.inl rfl, H0.out.1.then hE⟩ | exact ⟨.inr rfl, H0.out.1.then hE⟩ | exact ⟨_, rfl, H0.out.1.then hE⟩)
    · obtain rfl : k = x.comps.length := by omega
      go_wp2_with fail
      all_goals (go_ret; first | exact ⟨.inl rfl, H0.out.1.then hE⟩ | exact ⟨.inr rfl, H0.out.1.then hE⟩ | exact ⟨_, rfl, H0.out.1.then hE⟩)
end Go.Proofs.Ytgfnpcoigooblaa

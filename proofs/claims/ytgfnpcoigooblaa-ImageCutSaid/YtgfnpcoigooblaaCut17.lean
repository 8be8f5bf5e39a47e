
/- ImageCut: the law returns true. -/
import Derived.Test.YtgfnpcoigooblaaGreat17
import Derived.Test.YtgfnpcoigooblaaHead17
import Derived.Test.YtgfnpcoigooblaaRdQ17
set_option linter.all false
namespace Go.Proofs.Ytgfnpcoigooblaa
open Go.RowKit
attribute [local go_sem] seen dstOf boolOf
set_option maxHeartbeats 4000000 in
set_option maxRecDepth 100000 in
theorem cut17_any (x : ImgM) (n c : Int) (w : World) (h : ImgAt w x) (h1 : x.comps.length ≤ 8796093021952) (h2 : x.links.length ≤ 8796093021952) (h3 : x.shares.length ≤ 8796093021952) (n0 : 0 ≤ n) (n1 : n < 65536) (c0 : 0 ≤ c) (c1 : c < 256) :
    Calls Try.prog 9 #[x.val, .int .u16 n, .int .u8 c] w fun e w' => e = .returned (.bool true) ∧ Ext w w' := by
  obtain ⟨i0, hi, hz0, hz1, hz2⟩ := info_parts infoByte
  have H := Lib.hid h
  clear h
  go_enter Try.func9, Try.ntmps9
  go_wp2_with fail
  refine (head17 _).mono ?_
  rintro e w1 ⟨rfl, hE1⟩
  have hz : w1.heap[w.heap.size]? = some (.cells #[.bool x.strict, .int .i64 x.heap, .int .i64 x.full, .slice x.Ac x.comps.length x.cc, .slice x.Al x.links.length x.cl, .slice x.As x.shares.length x.cs] 26) := (hE1.block _ (by simp)).trans (heap_alloc_new w _)
  have hE : Ext w w1 := (Ext.alloc (Below.refl _ w) _).then hE1
  obtain ⟨z0, z1, z2, z3, z4, z5⟩ := lie6 hz (Below.refl _ w1)
  have hlt : w.heap.size < w1.heap.size := cell_lt z0
  have H1 := Lib.hid (And.intro hz hE)
  clear hz hE hE1
  go_wp2_with fail
  refine (great_any x w1 (H.out.ext H1.out.2) h1 h2 h3).mono ?_
  rintro e w2 ⟨b, rfl, hE⟩
  have H2 := Lib.hid hE
  clear hE
  cases b with
  | true =>
    go_wp2_with fail
    go_ret
    exact ⟨rfl, H1.out.2.then H2.out⟩
  | false =>
    obtain ⟨z0, z1, z2, z3, z4, z5⟩ := lie6 H1.out.1 H2.out
    have hlt2 : w.heap.size < w2.heap.size := cell_lt z0
    go_wp2_with fail
    refine (imgPut_any x w2 (H.out.ext (H1.out.2.then H2.out))).mono ?_
    rintro e w3 ⟨v, rfl, ho, hE⟩
    obtain ⟨A, c', rfl, hc', ha⟩ := Arr.own ho
    have H3 := Lib.hid (And.intro ha (And.intro hE hc'))
    generalize hP : putD x.d = P at ha hc' H3 ho
    by_cases hl : P.length = 0
    · rw [hl]
      clear ha hc' ho
      go_wp2_with fail
      go_ret
      exact ⟨rfl, (H1.out.2.then H2.out).then H3.out.2.1⟩
    · have hcm : c' ≤ maxLen := by
        rcases ho.2 with ⟨h0, -⟩ | ⟨g, cap, cur, h0, -, -, -, hm, -⟩
        · rw [(Value.slice.inj h0).2.2]; exact Nat.zero_le _
        · cases h0; exact hm
      obtain ⟨m, hm, hmod⟩ : ∃ m : Nat, m < P.length ∧ n % (P.length : Int) = m := by
        have g1 := Int.emod_nonneg n (show (P.length : Int) ≠ 0 by omega)
        have g2 := Int.emod_lt_of_pos n (show (0 : Int) < P.length by omega)
        exact ⟨(n % (P.length : Int)).toNat, by omega, by omega⟩
      have hmc : m ≤ c' := by omega
      have hpl : P.length ≤ 20000 := by rw [← hP]; exact putD_len x.d
      have hin : BytesIn P := by rw [← hP]; exact putD_in (img_in H.out)
      have hr : rightD x.d = true := by
        cases hr : rightD x.d with
        | true => rfl
        | false => exfalso; apply hl; rw [← hP]; unfold putD; rw [hr]; rfl
      have hs : ∀ s ∈ x.d.shares, s.wr < 9223372036854775808 := fun s hs => by
        have := (H.out.sharesOk s hs).2
        unfold i64ok at this
        omega
      have HR := Lib.hid (And.intro hr (And.intro hs hP))
      clear hr hs hP ha ho
      go_wp2_with fail
      have HG := Lib.hid (imgGet_walk A c' (P.take m) w3 (arr_take H3.out.1 m) (fun b hb => hin b (List.mem_of_mem_take hb)) (by rw [List.length_take]; omega) hcm)
      rw [List.length_take, Nat.min_eq_left (by omega)] at HG
      refine HG.out.mono ?_
      rintro e w4 ⟨y, -, -, rfl, hE⟩
      rw [show (getD (P.take m)).2 = 1 by rw [← HR.out.2.2]; exact get_cut HR.out.1 HR.out.2.1 (by rw [HR.out.2.2]; exact hm)]
      have H4 := Lib.hid hE
      clear hE hmod
      have hpos : 0 < P.length := by omega
      go_wp2_with (first
        | (at_builtin; refine wpList_append_src _ rfl (.tmp 35) (.tmp 36) 27 rfl (w4.heap.size + 1) 5 i0 (.int .u8 0) 1 1 Try.underlying27 hi hz0 hz1 hz2 rfl (by decide) _ _ _ rfl (lit0B (w4.alloc _) (w4.heap.size + 1) _ (by simp) (Nat.le_refl _)) _ P.length (bs P) rfl ((lies_arr (H3.out.1.ext H4.out) hpos).ext (by repeat first | (with_reducible exact Below.refl _ _) | (with_reducible apply Ext.alloc) | (with_reducible apply Ext.drew) | (with_reducible apply Ext.drewN) | (with_reducible refine Ext.set ?_ (by simp)))) (by simp [bs]) (bs_one _) (by unfold maxLen; omega) (by omega) (by simp) ?_; intro v5 w5 ho5 hg5 _)
        | (at_builtin; refine wpList_append_src _ rfl (.tmp 37) (.tmp 39) 27 rfl (w4.heap.size + 1) 5 i0 (.int .u8 0) 1 1 Try.underlying27 hi hz0 hz1 hz2 rfl (by decide) _ _ _ rfl (own_ext ho5 (by repeat first | (with_reducible exact Below.refl _ _) | (with_reducible apply Ext.alloc) | (with_reducible apply Ext.drew) | (with_reducible apply Ext.drewN) | (with_reducible refine Ext.set ?_ (by simp)))) _ 1 (bs [c]) rfl (Lies.arr (arr_new (heap_alloc_new w5 _))) (by simp [bs]) (bs_one _) (by unfold maxLen; omega) (by omega) (by have := hg5.size; simp at this ⊢; omega) ?_; intro v6 w6 ho6 hg6 _))
      have E5 : Ext w4 w5 := Below.grown (by repeat first | (with_reducible exact Below.refl _ _) | (with_reducible apply Ext.alloc) | (with_reducible apply Ext.drew) | (with_reducible apply Ext.drewN) | (with_reducible refine Ext.set ?_ (by simp))) hg5 (by simp; omega) (fun r hr => by have := ((lit0B (w4.alloc (.cells #[.bool y.strict, .int .i64 y.heap, .int .i64 y.full, .slice y.Ac y.comps.length y.cc, .slice y.Al y.links.length y.cl, .slice y.As y.shares.length y.cs] 26)) (w4.heap.size + 1) _ (by simp) (Nat.le_refl _)).lt r hr).1; omega)
      have E6 : Ext w4 w6 := Below.grown (Ext.alloc E5 _) hg6 (by have := E5.size; simp; omega) (fun r hr => by have := (ho5.lt r hr).1; omega)
      have hcm6 : ∀ A6 c6, v6 = .slice A6 (0 + P.length + 1) c6 → c6 ≤ maxLen := fun A6 c6 hv => by
        rcases ho6.2 with ⟨h0, -⟩ | ⟨g, cap, cur, h0, -, -, -, hm, -⟩
        · rw [hv] at h0; rw [(Value.slice.inj h0).2.2]; exact Nat.zero_le _
        · rw [hv] at h0; rw [(Value.slice.inj h0).2.2]; exact hm
      obtain ⟨A6, c6, rfl, hc6, ha6⟩ := Arr.own ho6
      replace hcm6 := hcm6 A6 c6 rfl
      rw [show [] ++ bs P ++ bs [c] = bs (P ++ [c]) by simp [bs]] at ha6
      rw [show 0 + P.length + 1 = (P ++ [c]).length by simp] at hc6 ⊢
      refine (imgGet_walk A6 c6 (P ++ [c]) w6 ha6 (app_in hin (by intro b hb; simp at hb; omega)) hc6 hcm6).mono ?_
      rintro e w7 ⟨q, -, -, rfl, hE⟩
      rw [show (getD (P ++ [c])).2 = 1 by rw [← HR.out.2.2]; exact get_more HR.out.1 HR.out.2.1 c]
      have H7 := Lib.hid (E6.then hE)
      clear hE E5 E6 ho5 ho6 hg5 hg6 ha6 hc6 hcm6
      go_wp2_with fail
      go_ret
      exact ⟨rfl, ((((H1.out.2.then H2.out).then H3.out.2.1).then H4.out).then H7.out).alloc _⟩
end Go.Proofs.Ytgfnpcoigooblaa

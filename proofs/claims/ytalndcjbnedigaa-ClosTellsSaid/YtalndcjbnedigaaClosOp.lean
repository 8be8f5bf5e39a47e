
/- Package clos: Open. -/
import Derived.Test.YtalndcjbnedigaaSortC
set_option linter.all false
namespace Go.Proofs.Ytalndcjbnedigaa
open Go.RowKit Go.Shelf
attribute [local go_sem] seen dstOf boolOf

theorem most_tri {O : List Cap} (h : ∀ o ∈ O, IsOpen o) : ((mostL O).map tri).map unt = mostL O := by
  rw [List.map_map]
  conv => rhs; rw [← List.map_id (mostL O)]
  refine List.map_congr_left fun c hc => ?_
  exact unt_tri (h c (List.mem_filter.1 hc).1)
set_option maxHeartbeats 1000000 in
set_option maxRecDepth 20000 in
theorem open_any (B sp : Nat) (vg vo : Value) (G O : List Cap) (w : World) (hs : SetAt B w sp vg vo G O) (hO : O.length ≤ 1000) (how : ∀ o ∈ O, CapWf o) (hop : ∀ o ∈ O, IsOpen o) :
    Calls Try.prog 16 #[.pointer (some ⟨sp, 0, none⟩)] w (GivesC w (openS O)) := by
  obtain ⟨Ao, co, rfl, -, hAo⟩ := Arr.own hs.o
  have q1 := cellAt hs.row 1 (.slice Ao O.length co) rfl
  have lq := cell_lt q1
  simp only at lq
  obtain ⟨U, hU⟩ : ∃ U, U = w.alloc (.cells #[.pointer (some ⟨sp, 0, none⟩)] 26) := ⟨_, rfl⟩
  have EU : Ext w U := by rw [hU]; exact (by repeat first | (with_reducible exact Below.refl _ _) | (with_reducible apply Ext.alloc) | (with_reducible apply Ext.drew) | (with_reducible apply Ext.drewN) | (with_reducible refine Ext.set ?_ (by simp)))
  have hb : U.heap[w.heap.size]? = some (.cells #[.pointer (some ⟨sp, 0, none⟩)] 26) := by rw [hU]; exact heap_alloc_new w _
  have hz : U.heap.size = w.heap.size + 1 := by rw [hU]; simp
  have HC := Lib.hid (cloneC Ao co O U (hAo.ext EU) hO)
  have HU := Lib.hid (And.intro hU (And.intro EU (And.intro hb hz)))
  have HS := Lib.hid hs
  have HW := Lib.hid (And.intro how hop)
  clear hU EU hb hz hAo hs how hop
  go_enter Try.func16, Try.ntmps16
  go_wp2_with fail
  rw [← HU.out.1]
  refine HC.out.mono ?_
  rintro _ w2 ⟨v2, rfl, ho2, hE2⟩
  rw [HU.out.2.2.2] at ho2
  have E2 : Hid (Below (w.heap.size + 1) U w2) := Lib.hid (by rw [← HU.out.2.2.2]; exact hE2)
  have hz2 : w.heap.size + 1 ≤ w2.heap.size := by rw [← HU.out.2.2.2]; exact hE2.size
  have HD := Lib.hid (deleteC (w.heap.size + 1) v2 O w2 38 #[.pointer (some ⟨w.heap.size, 0, none⟩)] (fun c => O.any fun o => lessB c o) ho2 hz2 hO (enters_of Try.func38 (by kernel_rfl) rfl) (fun W x hx hW => by
    have e1 : Below (w.heap.size + 1) U W := E2.out.trans hW
    exact open1_any B sp w.heap.size vg _ G O x W (HS.out.ext (HU.out.2.1.trans (e1.mono (Nat.le_succ _)))) ((e1.block _ (Nat.lt_succ_self _)).trans HU.out.2.2.1) hO HW.out.1 (HW.out.1 x hx).perms))
  clear ho2 hE2
  go_wp2_with fail
  refine HD.out.mono ?_
  rintro _ w3 ⟨v3, rfl, ho3, hE3⟩
  change w3.ownsRow (w.heap.size + 1) 24 6 v3 (mostL O).length (capCells (mostL O)) at ho3
  rw [← most_tri HW.out.2, List.length_map] at ho3
  have hl3 : ((mostL O).map tri).length ≤ 1000 := by
    rw [List.length_map]
    exact Nat.le_trans (List.length_filter_le _ _) hO
  have HQ := Lib.hid (sort_own ho3 (Nat.le_trans hz2 hE3.size) hl3)
  have E3 := Lib.hid hE3
  clear hE3 ho3 hl3
  go_wp2_with fail
  refine HQ.out.mono ?_
  rintro _ w4 ⟨rfl, ho4, hE4⟩
  have H4 := Lib.hid (And.intro ho4 hE4)
  clear ho4 hE4
  go_wp2_with fail
  go_ret
  have hl : (openS O).length = ((mostL O).map tri).length := by rw [openS_len, List.length_map]
  refine ⟨_, rfl, ?_, HU.out.2.1.trans (((E2.out.trans E3.out).trans H4.out.2).mono (Nat.le_succ _))⟩
  have := H4.out.1
  rw [hl]
  refine ⟨this.1, ?_⟩
  rcases this.2 with h1 | ⟨g, c, cur, h1, h2, h3⟩
  · exact .inl h1
  · exact .inr ⟨g, c, cur, h1, by omega, h3⟩
end Go.Proofs.Ytalndcjbnedigaa

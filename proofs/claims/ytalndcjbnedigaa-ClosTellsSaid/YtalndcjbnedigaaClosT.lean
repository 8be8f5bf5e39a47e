
/- Package clos: Types. -/
import Derived.Test.YtalndcjbnedigaaClosH
set_option linter.all false
namespace Go.Proofs.Ytalndcjbnedigaa
open Go.RowKit Go.Shelf
attribute [local go_sem] seen dstOf boolOf
def typesK (O : List Cap) (p : Int) (k : Nat) : List Int := ((List.range k).map fun i : Nat => (i : Int) + 2).filter fun t => authL O t p
theorem typesK_succ (O : List Cap) (p : Int) (k : Nat) : typesK O p (k + 1) = typesK O p k ++ if authL O ((k : Int) + 2) p then [(k : Int) + 2] else [] := by
  unfold typesK
  rw [List.range_succ, List.map_append, List.filter_append]
  congr 1
  cases h : authL O ((k : Int) + 2) p <;> simp [h]
theorem typesK_len (O : List Cap) (p : Int) (k : Nat) : (typesK O p k).length ≤ k := by
  unfold typesK
  exact Nat.le_trans (List.length_filter_le _ _) (by simp)
theorem arrNew {w : World} {b : Nat} {cs : List Value} {t : TypeId} (h : w.heap[b]? = some (.cells cs.toArray t)) : Arr w (some ⟨b, 0, none⟩) cs := by
  refine .inr ⟨_, 0, rfl, fun j hj => ?_⟩
  rw [cell_of_row _ _ _ _ _ _ h]
  simp
theorem infoIntT : (Try.prog.info? 3).map (fun i => (i.zero, i.size, i.bytes)) = some (some (.int .i64 0), 1, 8) := by kernel_rfl
set_option maxHeartbeats 2000000 in
set_option maxRecDepth 20000 in
theorem types_any (B sp : Nat) (vg vo : Value) (G O : List Cap) (p : Int) (w : World) (hs : SetAt B w sp vg vo G O) (hO : O.length ≤ 1000) (how : ∀ o ∈ O, CapWf o) (hp : i64ok' p) :
    Calls Try.prog 19 #[.pointer (some ⟨sp, 0, none⟩), .int .i64 p] w fun e w' => ∃ v, e = .returned v ∧ w'.ownsRow w.heap.size 3 1 v (typesS O p).length ((typesS O p).map (Value.int .i64 ·)) ∧ Ext w w' := by
  obtain ⟨ci, hci, hci0, hci1, hci2⟩ := info_parts infoIntT
  obtain ⟨Ao, co, rfl, -, hAo⟩ := Arr.own hs.o
  have HS := Lib.hid (And.intro hs.row hAo)
  clear hs hAo
  go_enter Try.func19, Try.ntmps19
  go_wp2_with fail
  go_loopw [5, 6] (fun v i wr => ∃ k : Nat, k ≤ 254 ∧ i = .int .i64 ((k : Int) + 2) ∧ wr.ownsRow w.heap.size 3 1 v (typesK O p k).length ((typesK O p k).map (Value.int .i64 ·)) ∧ Ext w wr) (fun _ i _ => 256 - (intOf i).toNat)
  case atStart => exact ⟨0, Nat.zero_le _, rfl, World.ownsRow_nil _ _ _ _, Below.refl _ _⟩
  case round =>
    obtain ⟨k, hk, rfl, hown, hE⟩ := hrel
    by_cases hlt : k < 254
    · have q1 := cellAt ((hE.block _ (Array.getElem?_eq_some_iff.1 HS.out.1).1).trans HS.out.1) 1 (.slice Ao O.length co) rfl
      have lq := cell_lt q1
      simp only at lq
      have hsu := typesK_succ O p k
      have hlk := typesK_len O p k
      have HK := Lib.hid (And.intro hsu (And.intro hown hE))
      obtain ⟨A5, c5, rfl, -, -⟩ := Arr.own hown
      clear hsu hown hE
      go_wp2_with fail
      refine (authority_any sp Ao co O ((k : Int) + 2) p wr q1 (HS.out.2.ext HK.out.2.2) (Nat.le_trans hO (by decide)) how hp).mono ?_
      rintro e w2 ⟨rfl, hE2⟩
      have H2 := Lib.hid hE2
      clear hE2
      generalize typesK O p k = T at HK hlk
      cases ha : authL O ((k : Int) + 2) p with
      | false =>
        go_wp2_with fail
        refine ⟨⟨k + 1, by omega, by simp; omega, ?_, HK.out.2.2.then H2.out⟩, by simp [intOf]; omega⟩
        rw [HK.out.1, ha]
        simpa using own_ext HK.out.2.1 H2.out
      | true =>
        have hsz : w.heap.size ≤ w2.heap.size := (HK.out.2.2.then H2.out).size
        go_wp2_with (first
          | (at_builtin; refine wpList_append_src _ rfl (.tmp 15) (.tmp 17) 34 rfl w.heap.size 3 ci (.int .i64 0) 1 8 Try.underlying34 hci hci0 hci1 hci2 rfl (by decide) _ _ _ rfl (own_ext HK.out.2.1 (Ext.alloc H2.out _)) _ 1 [.int .i64 ((k : Int) + 2)] rfl (Lies.arr (arrNew (cs := [.int .i64 ((k : Int) + 2)]) (heap_alloc_new w2 _))) rfl (by simp [Value.oneCell']) (by unfold maxLen; omega) (by omega) (by simp; omega) ?_; intro v6 w6 ho6 hg6 _))
        have E6 : Ext w w6 := Below.grown (Ext.alloc (HK.out.2.2.then H2.out) _) hg6 (by simp; omega) (fun r hr => (HK.out.2.1.lt r hr).1)
        refine ⟨⟨k + 1, by omega, by simp; omega, ?_, E6⟩, by simp [intOf]; omega⟩
        rw [HK.out.1, ha]
        simpa using ho6
    · obtain rfl : k = 254 := by omega
      go_wp2_with fail
      go_ret
      exact ⟨_, rfl, hown, hE⟩
end Go.Proofs.Ytalndcjbnedigaa

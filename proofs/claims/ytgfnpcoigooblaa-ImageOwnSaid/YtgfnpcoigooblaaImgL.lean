
/- slices.Clone over bytes. -/
import Derived.Test.YtgfnpcoigooblaaImgK
set_option linter.all false
namespace Go.Proofs.Ytgfnpcoigooblaa
open Go.RowKit

theorem lit0B (w : World) (base k : Nat) (hk : k = w.heap.size) (hb : base ≤ k) : (w.alloc (.cells #[] 5)).ownsRow base 5 1 (.slice (some ⟨k, 0, none⟩) 0 0) 0 [] := by
  subst hk
  exact own_lit w base 5 1 0 [] hb (by simp) (by simp [maxLen])
set_option maxHeartbeats 1000000 in
set_option maxRecDepth 20000 in
theorem clone_some (g o : Nat) (c : Nat) (l : List Int) (w : World) (hA : Arr w (some ⟨g, o, none⟩) (bs l)) (hl : l.length ≤ 16777216) :
    Calls Try.prog 33 #[.slice (some ⟨g, o, none⟩) l.length c] w (Gives w 5 1 l.length (bs l)) := by
  obtain ⟨i0, hi, hz0, hz1, hz2⟩ := info_parts infoByte
  have hnil := Lib.run_eql_slice_nil (P := Try.prog) w 27 5 (some ⟨g, o, none⟩) l.length c 0 0 Try.underlying27
  go_enter Try.func33, Try.ntmps33
  go_wp2_with (first
    | (at_builtin; refine wpList_append_src _ rfl (.tmp 5) (.tmp 6) 27 rfl w.heap.size 5 i0 (.int .u8 0) 1 1 Try.underlying27 hi hz0 hz1 hz2 rfl (by decide) _ _ _ rfl (lit0B w w.heap.size _ rfl (Nat.le_refl _)) _ l.length (bs l) rfl ((Lies.arr hA).ext (by repeat first | (with_reducible exact Below.refl _ _) | (with_reducible apply Ext.alloc) | (with_reducible apply Ext.drew) | (with_reducible apply Ext.drewN) | (with_reducible refine Ext.set ?_ (by simp)))) (by simp [bs]) (bs_one _) (by unfold maxLen; omega) (by omega) (by simp) ?_; intro v2 w4 ho hg _))
  go_ret
  have e : [] ++ bs l = bs l := rfl
  rw [Nat.zero_add, e] at ho
  exact ⟨_, rfl, ho, Below.grown (by repeat first | (with_reducible exact Below.refl _ _) | (with_reducible apply Ext.alloc) | (with_reducible apply Ext.drew) | (with_reducible apply Ext.drewN) | (with_reducible refine Ext.set ?_ (by simp))) hg (by simp) (fun r hr => ((lit0B w w.heap.size _ rfl (Nat.le_refl _)).lt r hr).1)⟩
end Go.Proofs.Ytgfnpcoigooblaa

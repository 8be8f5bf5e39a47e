/- CodeKinds: for every input the law returns true, and each argument reads as it did. -/
import Derived.Test.YtdfjpmihjfnebaaOpen15
import Derived.Test.YtdfjpmihjfnebaaKinds15
set_option linter.all false
namespace Go.Proofs.Ytdfjpmihjfnebaa
open Go.ChangeShapes Go.WideShapes Go.ChangeAt Go.RowKit Go.Joins
open Go.ChangeMaps (open_string shut_string)

theorem kinds_law (k a b c : Int) (w : World) (k0 : 0 ≤ k) (k1 : k < 256) (a0 : -32768 ≤ a) (a1 : a < 32768) (b0 : -2147483648 ≤ b) (b1 : b < 2147483648) (c0 : -32768 ≤ c) (c1 : c < 32768) :
    Calls Try.prog 7 #[.int .u8 k, .int .i16 a, .int .i32 b, .int .i16 c] w fun e w' => e = .returned (.bool true) ∧ Ext w w' := by
  by_cases h : k % 32 ≤ 29
  · exact kindsl_some k a b c w k0 k1 a0 a1 b0 b1 c0 c1 h
  · exact kindsl_none k a b c w k0 k1 a0 a1 b0 b1 c0 c1 (by omega)

set_option maxRecDepth 100000 in
theorem CodeKinds_lifted (os : Os) (started : os.Started) (H : Type) (enc : TypeId × Value → H) :
    ReturnsInHanded {} Try.checked os 7 .any (Rows.codeKindsSpec.pre6 enc Try.prog Try.f7 Rows.codeKindsRow.domain false) (Rows.codeKindsSpec.post enc Try.prog Try.f7 false true false false) := by
  refine returnsInHanded_of_change (C := Try.checked) own started (by kernel_rfl) Try.func7
    (ChangeSpec.witness6 (enc := enc) (C := Try.checked) false ⟨#[], #[.int .u8 0, .int .i16 0, .int .i32 0, .int .i16 0], []⟩ 8 (by kernel_rfl) (by kernel_rfl) (by kernel_rfl) (by kernel_rfl)) ?_
  intro W base args ds gs before hval0 hW hcnd _
  have hval : ∀ (j : Nat) t v, Try.f7.params[j]? = some t → args[j]? = some v → Value.okWide Try.prog W .any base t v := hval0
  have hW' := hW
  obtain ⟨p, q, hA0, hV, rfl, hfz, hnd⟩ := hW
  have hA : DataW.TrodAll enc Try.prog W 0 (fun _ => true) true Try.f7.params.toList args.toList ds p := hA0
  rw [Try.params7] at hA hval
  have hA1 := hA
  obtain ⟨v0, vs0, d0, ds0, p0, q0, hargs, rfl, rfl, h0, r0⟩ := trodAll_cons hA
  obtain ⟨v1, vs1, d1, ds1, p1, q1, rfl, rfl, rfl, h1, r1⟩ := trodAll_cons r0
  obtain ⟨v2, vs2, d2, ds2, p2, q2, rfl, rfl, rfl, h2, r2⟩ := trodAll_cons r1
  obtain ⟨v3, vs3, d3, ds3, p3, q3, rfl, rfl, rfl, h3, r3⟩ := trodAll_cons r2
  obtain ⟨rfl, rfl, rfl⟩ := trodAll_nil r3
  obtain rfl : args = #[v0, v1, v2, v3] := by cases args; simp_all
  obtain ⟨rfl, rfl⟩ := trodVars_none hV
  obtain ⟨k, rfl, -, -, w_k⟩ := open_int Try.underlying5 (hval 0 5 v0 rfl rfl) h0
  obtain ⟨a, rfl, -, -, w_a⟩ := open_int Try.underlying42 (hval 1 42 v1 rfl rfl) h1
  obtain ⟨b, rfl, -, -, w_b⟩ := open_int Try.underlying21 (hval 2 21 v2 rfl rfl) h2
  obtain ⟨c, rfl, -, -, w_c⟩ := open_int Try.underlying42 (hval 3 42 v3 rfl rfl) h3
  clear hA0 hval0
  have bk := bounds_u8 w_k; have ba := bounds_i16 w_a; have bb := bounds_i32 w_b; have bc := bounds_i16 w_c
  refine (kinds_law k a b c W (by omega) (by omega) (by omega) (by omega) (by omega) (by omega) (by omega) (by omega)).mono fun e W' ⟨he, bel⟩ => ?_
  subst he
  exact ⟨_, rfl, _, _, _, [], _, [], hW', trodAll_mk1 (shut_bool Try.underlying4 _), below_all laidOut bel (by kernel_rfl) hA1, rfl, bel.frame _, fun h => by cases h⟩

theorem CodeKinds_proved : Rows.CodeKindsSaid :=
  OpenClaim.holds_of_wide 7 Try.f7 rfl rfl rfl rfl rfl rfl rfl ⟨rfl, rfl, rfl, rfl, rfl⟩ rfl rfl rfl rfl rfl (by kernel_rfl) Try.func7 (by kernel_rfl)
    (of_decide_eq_true (by kernel_rfl)) (by unfold Func.isWrapper; first | (rw [if_pos (by decide +kernel)]; kernel_rfl) | (rw [if_neg (by decide +kernel)]; exact ⟨rfl, rfl⟩))
    (fun os started H enc _ => CodeKinds_lifted os started H enc)
end Go.Proofs.Ytdfjpmihjfnebaa

/- CodeTells: for every input the law returns true. -/
import Derived.Test.YtdfjpmihjfnebaaSaidKit
import Derived.Test.YtdfjpmihjfnebaaTells15
set_option linter.all false
namespace Go.Proofs.Ytdfjpmihjfnebaa
open Go.ChangeShapes Go.WideShapes Go.ChangeAt Go.RowKit Go.Joins
open Go.ChangeMaps (open_string shut_string)

theorem cellsIns : Try.prog.cellsOf 23 = 4 := by kernel_rfl
/-- An instruction that came in. -/
theorem open_ins {H : Type} {enc : TypeId × Value → H} {W : World} {base : Nat} {v : Value} {d : DataW H} {p : List MemPlace} (hval : Value.okWide Try.prog W .any base 23 v) (h : DataW.Trod enc Try.prog W 0 (fun _ => true) true 23 v d p) :
    ∃ x : Ins, v = .agg #[.int .i64 x.op, .int .i64 x.a, .int .i64 x.b, .int .i64 x.c] ∧ (Lit.int .i64 x.op).wf = true ∧ (Lit.int .i64 x.a).wf = true ∧ (Lit.int .i64 x.b).wf = true ∧ (Lit.int .i64 x.c).wf = true := by
  obtain ⟨c0, c1, c2, c3, y0, y1, y2, y3, n, rfl, -, -, h0, h1, h2, h3⟩ := open_agg4 Try.underlying23 (by kernel_rfl) cellsIns hval h
  obtain ⟨a, e0, -, w0⟩ := DataW.trod_int Try.underlying3 h0
  obtain ⟨b, e1, -, w1⟩ := DataW.trod_int Try.underlying3 h1
  obtain ⟨c, e2, -, w2⟩ := DataW.trod_int Try.underlying3 h2
  obtain ⟨d, e3, -, w3⟩ := DataW.trod_int Try.underlying3 h3
  simp at e0 e1 e2 e3
  subst e0 e1 e2 e3
  exact ⟨⟨a, b, c, d⟩, rfl, w0, w1, w2, w3⟩

set_option maxRecDepth 100000 in
theorem CodeTells_lifted (os : Os) (started : os.Started) (H : Type) (enc : TypeId × Value → H) :
    ReturnsInHanded {} Try.checked os 3 .any (Rows.codeTellsSpec.pre6 enc Try.prog Try.f3 Rows.codeTellsRow.domain false) (Rows.codeTellsSpec.post enc Try.prog Try.f3 false true false false) := by
  refine returnsInHanded_of_change (C := Try.checked) own started (by kernel_rfl) Try.func3
    (ChangeSpec.witness6 (enc := enc) (C := Try.checked) false ⟨#[], #[.agg #[.int .i64 0, .int .i64 0, .int .i64 0, .int .i64 0], .slice none 0 0, .int .i64 0], []⟩ 8 (by kernel_rfl) (by kernel_rfl) (by kernel_rfl) (by kernel_rfl)) ?_
  intro W base args ds gs before hval0 hW hcnd _
  have hval : ∀ (j : Nat) t v, Try.f3.params[j]? = some t → args[j]? = some v → Value.okWide Try.prog W .any base t v := hval0
  have hW' := hW
  obtain ⟨p, q, hA0, hV, rfl, hfz, hnd⟩ := hW
  have hA : DataW.TrodAll enc Try.prog W 0 (fun _ => true) true Try.f3.params.toList args.toList ds p := hA0
  rw [Try.params3] at hA hval
  have hA1 := hA
  obtain ⟨v0, vs0, d0, ds0, p0, q0, hargs, rfl, rfl, h0, r0⟩ := trodAll_cons hA
  obtain ⟨v1, vs1, d1, ds1, p1, q1, rfl, rfl, rfl, h1, r1⟩ := trodAll_cons r0
  obtain ⟨v2, vs2, d2, ds2, p2, q2, rfl, rfl, rfl, h2, r2⟩ := trodAll_cons r1
  obtain ⟨rfl, rfl, rfl⟩ := trodAll_nil r2
  obtain rfl : args = #[v0, v1, v2] := by cases args; simp_all
  obtain ⟨rfl, rfl⟩ := trodVars_none hV
  obtain ⟨x, rfl, -⟩ := open_ins (hval 0 23 v0 rfl rfl) h0
  obtain ⟨A, c, l, rfl, hlc, -, hArr, hwf⟩ := open_arr Try.underlying24 Try.underlying5 (by kernel_rfl) (hval 1 24 v1 rfl rfl) h1
  obtain ⟨op, rfl, -, -, -⟩ := open_int Try.underlying3 (hval 2 3 v2 rfl rfl) h2
  clear hA0 hval0
  refine (tells_any x A c l op W hArr (fun y hy => wf_u8 (hwf y hy)) hlc).mono fun e W' ⟨he, bel⟩ => ?_
  subst he
  exact ⟨_, rfl, _, _, _, [], _, [], hW', trodAll_mk1 (shut_bool Try.underlying4 _), below_all laidOut bel (by kernel_rfl) hA1, rfl, bel.frame _, fun h => by cases h⟩

theorem CodeTells_proved : Rows.CodeTellsSaid :=
  OpenClaim.holds_of_wide 3 Try.f3 rfl rfl rfl rfl rfl rfl rfl ⟨rfl, rfl, rfl, rfl, rfl⟩ rfl rfl rfl rfl rfl (by kernel_rfl) Try.func3 (by kernel_rfl)
    (of_decide_eq_true (by kernel_rfl)) (by unfold Func.isWrapper; first | (rw [if_pos (by decide +kernel)]; kernel_rfl) | (rw [if_neg (by decide +kernel)]; exact ⟨rfl, rfl⟩))
    (fun os started H enc _ => CodeTells_lifted os started H enc)
#print axioms CodeTells_proved
end Go.Proofs.Ytdfjpmihjfnebaa

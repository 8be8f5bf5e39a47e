/- ExtentOrder: for every input the law returns true, and each argument reads as it did. -/
import Derived.Test.YtipnkjegiiphnaaOrder12
import Derived.Test.YtipnkjegiiphnaaSaidKit
import Derived.Test.YtipnkjegiiphnaaMore
set_option linter.all false
namespace Go.Proofs.Ytipnkjegiiphnaa
open Go.ChangeShapes Go.WideShapes Go.ChangeAt Go.RowKit Go.Joins
open Go.ChangeMaps (open_string shut_string)

theorem cellsBool : Try.prog.cellsOf 4 = 1 := by kernel_rfl
theorem open_bools12 {H : Type} {enc : TypeId × Value → H} {W : World} {base : Nat} {v : Value} {d : DataW H} {p : List MemPlace} (hval : Value.okWide Try.prog W .any base 43 v) (h : DataW.Trod enc Try.prog W 0 (fun _ => true) true 43 v d p) :
    ∃ (A : Option Addr) (c : Nat) (l : List Bool), v = .slice A l.length c ∧ l.length ≤ c ∧ c ≤ maxLen ∧ Arr W A (l.flatMap cell1b) ∧ ∀ x ∈ l, (fun _ => True) x :=
  open_row cell1b (fun _ => True) (s := 1) (fun _ => rfl) (by decide) Try.underlying43 cellsBool (fun n cs y hl h => by
    obtain ⟨b, e, -⟩ := DataW.trod_bool Try.underlying4 h
    exact ⟨b, e, trivial⟩) hval h
set_option maxRecDepth 100000 in
theorem ExtentOrder_lifted (os : Os) (started : os.Started) (H : Type) (enc : TypeId × Value → H) :
    ReturnsInHanded {} Try.checked os 7 .any (Rows.extentOrderSpec.pre6 enc Try.prog Try.f7 Rows.extentOrderRow.domain false) (Rows.extentOrderSpec.post enc Try.prog Try.f7 false true false false) := by
  refine returnsInHanded_of_change (C := Try.checked) own started (by kernel_rfl) Try.func7
    (ChangeSpec.witness6 (enc := enc) (C := Try.checked) false ⟨#[], #[.slice none 0 0, .slice none 0 0], []⟩ 8 (by kernel_rfl) (by kernel_rfl) (by kernel_rfl) (by kernel_rfl)) ?_
  intro W base args ds gs before hval0 hW hcnd _
  have hval : ∀ (j : Nat) t v, Try.f7.params[j]? = some t → args[j]? = some v → Value.okWide Try.prog W .any base t v := hval0
  have hW' := hW
  obtain ⟨p, q, hA0, hV, rfl, hfz, hnd⟩ := hW
  have hA : DataW.TrodAll enc Try.prog W 0 (fun _ => true) true Try.f7.params.toList args.toList ds p := hA0
  rw [Try.params7] at hA hval
  have hA1 := hA
  obtain ⟨v0, vs0, d0, ds0, p0, q0, hargs, rfl, rfl, h0, r0⟩ := trodAll_cons hA
  obtain ⟨v1, vs1, d1, ds1, p1, q1, rfl, rfl, rfl, h1, r1⟩ := trodAll_cons r0
  obtain ⟨rfl, rfl, rfl⟩ := trodAll_nil r1
  obtain rfl : args = #[v0, v1] := by cases args; simp_all
  obtain ⟨rfl, rfl⟩ := trodVars_none hV
  obtain ⟨A_l, c_l, l, rfl, lc_l, cm_l, arr_l, wf_l⟩ := open_arr Try.underlying40 Try.underlying5 (by kernel_rfl) (hval 0 40 v0 rfl rfl) h0
  obtain ⟨A_m, c_m, m, rfl, lc_m, cm_m, arr_m, -⟩ := open_bools12 (hval 1 43 v1 rfl rfl) h1
  clear hA0 hval0
  have bl : ∀ x ∈ l, 0 ≤ x ∧ x < 256 := fun x hx => wf_u8 (wf_l x hx)
  refine (order_any A_l A_m c_l c_m l m W arr_l arr_m lc_l lc_m cm_m bl).mono fun e W' ⟨he, bel⟩ => ?_
  subst he
  exact ⟨_, rfl, _, _, _, [], _, [], hW', trodAll_mk1 (shut_bool Try.underlying4 _), below_all laidOut bel (by kernel_rfl) hA1, rfl, bel.frame _, fun h => by cases h⟩

theorem ExtentOrder_proved : Rows.ExtentOrderSaid :=
  OpenClaim.holds_of_wide 7 Try.f7 rfl rfl rfl rfl rfl rfl rfl ⟨rfl, rfl, rfl, rfl, rfl⟩ rfl rfl rfl rfl rfl (by kernel_rfl) Try.func7 (by kernel_rfl)
    (of_decide_eq_true (by kernel_rfl)) (by unfold Func.isWrapper; first | (rw [if_pos (by decide +kernel)]; kernel_rfl) | (rw [if_neg (by decide +kernel)]; exact ⟨rfl, rfl⟩))
    (fun os started H enc _ => ExtentOrder_lifted os started H enc)
end Go.Proofs.Ytipnkjegiiphnaa

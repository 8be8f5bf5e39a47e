
/- seizinref06: Open. -/
import Derived.Test.YtalndcjbnedigaaRefT
import Derived.Test.YtalndcjbnedigaaDelC
set_option linter.all false
namespace Go.Proofs.Ytalndcjbnedigaa
open Go.RowKit Go.Shelf
attribute [local go_sem] seen dstOf boolOf

theorem tw_at {α : Type} {p : α → Bool} : ∀ (l : List α) (a : Nat), (a < (l.takeWhile p).length → ∃ h : a < l.length, p l[a] = true) ∧ (a = (l.takeWhile p).length → ∀ h : a < l.length, p l[a] = false)
  | [], a => ⟨fun h => by simp at h, fun _ h => by simp at h⟩
  | x :: l, a => by
    rw [List.takeWhile_cons]
    cases hp : p x with
    | false =>
      refine ⟨fun h => by simp at h, fun h hl => ?_⟩
      obtain rfl : a = 0 := by simpa using h
      exact hp
    | true =>
      cases a with
      | zero => exact ⟨fun _ => ⟨by simp, hp⟩, fun h => by simp at h⟩
      | succ a =>
        obtain ⟨h1, h2⟩ := tw_at l a
        refine ⟨fun h => ?_, fun h hl => ?_⟩
        · obtain ⟨h3, h4⟩ := h1 (by simpa using h)
          exact ⟨by simpa using h3, h4⟩
        · exact h2 (by simpa using h) (by simpa using hl)
theorem tw_le {α : Type} {p : α → Bool} (l : List α) : (l.takeWhile p).length ≤ l.length := (List.takeWhile_sublist p).length_le
def insAt (c : Cap) (out : List Cap) : Nat := (out.takeWhile fun o => ltT (tri o) (tri c)).length
def insC (c : Cap) (out : List Cap) : List Cap := out.take (insAt c out) ++ (c :: out.drop (insAt c out))
def outL (O L : List Cap) : List Cap := L.foldl (fun out c => if !(O.any fun o => lessB c o) then insC c out else out) []
theorem outL_succ {O : List Cap} {k : Nat} (h : k < O.length) : outL O (O.take (k + 1)) = if !(O.any fun o => lessB O[k] o) then insC O[k] (outL O (O.take k)) else outL O (O.take k) := by
  unfold outL
  rw [List.take_add_one, List.getElem?_eq_getElem h, List.foldl_append]
  rfl
theorem insC_perm (c : Cap) (out : List Cap) : (insC c out).Perm (c :: out) := by
  unfold insC
  have h := List.perm_middle (a := c) (l₁ := out.take (insAt c out)) (l₂ := out.drop (insAt c out))
  rw [List.take_append_drop] at h
  exact h
theorem outL_perm (O : List Cap) : ∀ (L : List Cap) (acc : List Cap), (L.foldl (fun out c => if !(O.any fun o => lessB c o) then insC c out else out) acc).Perm ((L.filter fun c => !(O.any fun o => lessB c o)) ++ acc)
  | [], acc => List.Perm.refl _
  | c :: L, acc => by
    rw [List.foldl_cons]
    refine (outL_perm O L _).trans ?_
    rw [List.filter_cons]
    split
    · rename_i h
      refine ((List.Perm.refl _).append (insC_perm c acc)).trans ?_
      exact List.perm_middle
    · exact List.Perm.refl _
theorem insC_len (c : Cap) (out : List Cap) : (insC c out).length = out.length + 1 := by rw [(insC_perm c out).length_eq]; rfl
theorem outL_len (O L : List Cap) : (outL O L).length ≤ L.length := by
  have h := (outL_perm O L []).length_eq
  unfold outL
  rw [h, List.append_nil]
  exact List.length_filter_le _ _
abbrev Asc (l : List Cap) : Prop := (l.map tri).Pairwise fun x y => (!ltT y x) = true
theorem insC_asc {c : Cap} : ∀ {out : List Cap}, Asc out → Asc (insC c out)
  | [], _ => by simp [Asc, insC, insAt]
  | o :: out, h => by
    unfold Asc at h
    rw [List.map_cons, List.pairwise_cons] at h
    cases hp : ltT (tri o) (tri c) with
    | false =>
      have e : insC c (o :: out) = c :: o :: out := by
        unfold insC insAt
        rw [List.takeWhile_cons, hp]
        rfl
      rw [e]
      unfold Asc
      rw [List.map_cons, List.map_cons, List.pairwise_cons, List.pairwise_cons]
      refine ⟨fun y hy => ?_, h⟩
      rcases List.mem_cons.1 hy with rfl | hy
      · rw [hp]; rfl
      · exact leT_trans (tri c) (tri o) y (by rw [hp]; rfl) (h.1 y hy)
    | true =>
      have e : insC c (o :: out) = o :: insC c out := by
        unfold insC insAt
        rw [List.takeWhile_cons, hp]
        rfl
      rw [e]
      unfold Asc
      rw [List.map_cons, List.pairwise_cons]
      refine ⟨fun y hy => ?_, insC_asc h.2⟩
      rw [List.mem_map] at hy
      obtain ⟨z, hz, rfl⟩ := hy
      rcases List.mem_cons.1 ((insC_perm c out).mem_iff.1 hz) with rfl | hz
      · rw [ltT_iff] at hp
        rw [leT_iff]
        omega
      · exact h.1 _ (List.mem_map.2 ⟨z, hz, rfl⟩)
theorem outL_asc (O : List Cap) : ∀ (L acc : List Cap), Asc acc → Asc (L.foldl (fun out c => if !(O.any fun o => lessB c o) then insC c out else out) acc)
  | [], _, h => h
  | c :: L, acc, h => by
    rw [List.foldl_cons]
    refine outL_asc O L _ ?_
    split
    · exact insC_asc h
    · exact h
/-- The document's open ones are the program's. -/
theorem outL_all {O : List Cap} (hO : ∀ o ∈ O, IsOpen o) : outL O O = openS O := by
  have hp : (outL O O).Perm (mostL O) := by
    have h := outL_perm O O []
    rw [List.append_nil] at h
    exact h
  have ha : Asc (outL O O) := outL_asc O O [] (by simp [Asc])
  unfold openS
  rw [sorted_only (hp.map tri) ha, List.map_map]
  conv => lhs; rw [← List.map_id (outL O O)]
  refine (List.map_congr_left fun c hc => ?_).symm
  exact unt_tri (hO c (List.mem_filter.1 (hp.mem_iff.1 hc)).1)
/-- Is the i-th under none of the first j? -/
def mostM (O : List Cap) (i j : Nat) : Bool := (List.range j).all fun k => (k == i) || !underC (O.getD i Cap.zero) (O.getD k Cap.zero)
theorem mostM_succ {O : List Cap} {i j : Nat} (hi : i < O.length) (hj : j < O.length) : mostM O i (j + 1) = (mostM O i j && ((j == i) || !underC O[i] O[j])) := by
  unfold mostM
  rw [List.range_succ, List.all_append]
  simp [List.getD, hi, hj]
theorem mostM_all {O : List Cap} {i : Nat} (hi : i < O.length) (hn : O.Nodup) : mostM O i O.length = !(O.any fun o => lessB O[i] o) := by
  rw [Bool.eq_iff_iff, Bool.not_eq_true', List.any_eq_false]
  unfold mostM
  rw [List.all_eq_true]
  have hne := List.pairwise_iff_getElem.1 hn
  constructor
  · intro h o ho
    obtain ⟨k, hk, rfl⟩ := List.getElem_of_mem ho
    have h1 := h k (List.mem_range.2 hk)
    simp only [List.getD, List.getElem?_eq_getElem hi, List.getElem?_eq_getElem hk, Option.getD_some] at h1
    unfold lessB
    by_cases hki : k = i
    · subst hki; simp
    · simp [hki] at h1; simp [h1]
  · intro h k hk
    have hk := List.mem_range.1 hk
    simp only [List.getD, List.getElem?_eq_getElem hi, List.getElem?_eq_getElem hk, Option.getD_some]
    by_cases hki : k = i
    · simp [hki]
    · have h1 := h O[k] (List.getElem_mem hk)
      unfold lessB at h1
      have h2 : ¬ O[k] = O[i] := by
        rcases Nat.lt_or_gt_of_ne hki with h3 | h3
        · exact hne k i hk hi h3
        · exact fun e => hne i k hi hk h3 e.symm
      simp [h2] at h1
      simp [h1]
theorem ext_grown' {w a b : World} {k : Nat} (h : Ext w a) (g : a.grownBy b (some k)) (hk : w.heap.size ≤ k) : Ext w b :=
  ⟨g.os.trans h.os, g.tape.trans h.tape, g.output.trans h.output, Nat.le_trans h.size g.size, fun j hj => (g.block j (Nat.lt_of_lt_of_le hj h.size) (by simp; omega)).trans (h.block j hj)⟩
theorem own_empty {W : World} {N r : Nat} (h : N ≤ r) (hr : W.heap[r]? = some (.cells #[] 24)) : W.ownsRow N 24 6 (.slice (some ⟨r, 0, none⟩) 0 0) 0 [] :=
  ⟨rfl, .inr ⟨r, 0, #[], rfl, h, hr, Nat.le_refl _, by simp [maxLen], rfl, rfl⟩⟩
theorem lit_grown {N n m : Nat} {c : Cap} {v : Value} {x y : World} (h : NewLit n m (capCells [c]) 24 v x) (e : ∃ r, N ≤ r ∧ x.heap[r]? = some (.cells #[] 24) ∧ World.grownBy x y (some r)) : NewLit n m (capCells [c]) 24 v y := by
  obtain ⟨b, h1, h2, h3⟩ := h
  obtain ⟨r, -, h4, h5⟩ := e
  refine ⟨b, h1, h2, (h5.block b (Array.getElem?_eq_some_iff.1 h3).1 ?_).trans h3⟩
  intro he
  obtain rfl : b = r := by simpa using he
  rw [h3] at h4
  simp [capCells] at h4
theorem lies_take6 {w : World} {g k d : Nat} {U : List Cap} (hA : Arr w (some ⟨g, 0, none⟩) (capCells U)) (hk : k ≤ U.length) : Lies w.heap.size w (.slice (some ⟨g, 0, none⟩) k d) k (capCells (U.take k)) := by
  rw [← capCells_take U k hk]
  have h := Lies.arr (m := k) (c := d) hA
  rcases h with ⟨h, -, -⟩ | ⟨ad, c', h, hlt, hc⟩
  · simp at h
  · simp at h
    obtain ⟨rfl, rfl⟩ := h
    refine .inr ⟨_, d, rfl, fun hp => hlt (by rw [List.length_take] at hp; omega), fun j v hv => hc j v ?_⟩
    rw [List.getElem?_take] at hv
    split at hv
    · exact hv
    · simp at hv
theorem lies_drop6 {w : World} {g k m d : Nat} {U : List Cap} {A : Option Addr} (hA : Arr w (some ⟨g, 0, none⟩) (capCells U)) (hk0 : k ≤ U.length) (h : k < U.length → A = some ⟨g, k * 6, none⟩) (hA' : A ≠ none) : Lies w.heap.size w (.slice A m d) m (capCells (U.drop k)) := by
  cases A with
  | none => exact absurd rfl hA'
  | some ad =>
    by_cases hk : k < U.length
    · obtain rfl : ad = ⟨g, k * 6, none⟩ := by simpa using h hk
      have hl := Lies.arr (m := m) (c := d) hA
      rcases hl with ⟨h', -, -⟩ | ⟨ad, c', h', hlt, hc⟩
      · simp at h'
      · simp at h'
        obtain ⟨rfl, rfl⟩ := h'
        refine .inr ⟨_, d, rfl, fun _ => hlt (by rw [capCells_len]; omega), fun j v hv => ?_⟩
        rw [← capCells_drop U k hk0, List.getElem?_drop] at hv
        have := hc _ _ hv
        rw [add_none, Nat.zero_add] at this
        rw [add_none]
        exact this
    · have e : U.drop k = [] := List.drop_eq_nil_of_le (by omega)
      rw [e]
      exact .inr ⟨ad, d, rfl, (fun h => absurd h (by simp)), (fun j v hv => by simp at hv)⟩
set_option maxHeartbeats 8000000 in
set_option maxRecDepth 100000 in
theorem openR_any (B sp : Nat) (vg vo : Value) (G O : List Cap) (w : World) (hs : RefAt B w sp vg vo G O) (hO : O.length ≤ 1000) (hop : ∀ o ∈ O, IsOpen o) (hnd : O.Nodup) : Calls Try.prog 17 #[.pointer (some ⟨sp, 0, none⟩)] w (GivesC w (openS O)) := by
  obtain ⟨ci, hci, hci0, hci1, hci2⟩ := info_parts infoCap
  obtain ⟨Ao, co, rfl, -, hAo⟩ := Arr.own hs.o
  have HS := Lib.hid (And.intro hs.row hAo)
  have HF := Lib.hid (outL_all hop)
  have HSU : Hid (∀ k (h : k < O.length), outL O (O.take (k + 1)) = if !(O.any fun o => lessB O[k] o) then insC O[k] (outL O (O.take k)) else outL O (O.take k)) := Lib.hid fun k h => outL_succ h
  have HLE : Hid (∀ k, (outL O (O.take k)).length ≤ k) := Lib.hid fun k => by
    have h1 := outL_len O (O.take k)
    rw [List.length_take] at h1
    omega
  have HMS : Hid (∀ i j (_ : i < O.length) (_ : j < O.length), mostM O i (j + 1) = (mostM O i j && ((j == i) || !underC O[i] O[j]))) := Lib.hid fun i j h1 h2 => mostM_succ h1 h2
  have HMA : Hid (∀ i (_ : i < O.length), mostM O i O.length = !(O.any fun o => lessB O[i] o)) := Lib.hid fun i h => mostM_all h hnd
  clear hs hAo hop hnd
  go_enter Try.func17, Try.ntmps17
  go_wp2_with fail
  go_loopw [3, 4, 5, 6, 7, 8] (fun v i _ _ _ _ wr => ∃ k : Nat, k ≤ O.length ∧ i = .int .i64 (k : Int) ∧ Hid (wr.ownsRow w.heap.size 24 6 v (outL O (O.take k)).length (capCells (outL O (O.take k))) ∧ Ext w wr)) (fun _ i _ _ _ _ _ => O.length - (intOf i).toNat)
  case atStart => exact ⟨0, Nat.zero_le _, rfl, Lib.hid ⟨World.ownsRow_nil _ _ _ _, Below.refl _ _⟩⟩
  case round =>
    obtain ⟨k, hk, rfl, hQ⟩ := hrel
    have hrw := ext_at' hQ.out.2 HS.out.1
    have q1 := cellAt hrw 1 (.slice Ao O.length co) rfl
    have lq := cell_lt q1
    simp only at lq
    have HRW := Lib.hid hrw
    clear hrw
    by_cases hlt : k < O.length
    · obtain ⟨b1, o1, rfl, -, x0, x1, x2, x3, x4, x5⟩ := cap_row (HS.out.2.ext hQ.out.2) hlt
      have hsu := HSU.out k hlt
      rw [← HMA.out k hlt] at hsu
      have hms := fun j hj => HMS.out k j hlt hj
      have hle := HLE.out k
      obtain ⟨c, hc⟩ : ∃ c, c = O[k] := ⟨_, rfl⟩
      rw [← hc] at x0 x1 x2 x3 x4 x5 hsu
      obtain ⟨T, hT⟩ : ∃ T, T = outL O (O.take k) := ⟨_, rfl⟩
      rw [← hT] at hsu hle hQ
      have HST := Lib.hid hsu
      have HMM : Hid (∀ j (hj : j < O.length), mostM O k (j + 1) = (mostM O k j && ((j == k) || !underC c O[j]))) := Lib.hid fun j hj => by rw [hms j hj, hc]
      have HM0 : Hid (mostM O k 0 = true) := Lib.hid rfl
      obtain ⟨f, hf⟩ : ∃ f, f = mostM O k := ⟨_, rfl⟩
      rw [← hf] at HST HMM HM0
      obtain ⟨V, hV⟩ : ∃ V, V = wr.alloc (.cells c.cells.toArray 24) := ⟨_, rfl⟩
      have HV := Lib.hid hV
      have EV : Hid (Ext wr V) := Lib.hid (by rw [hV]; exact (by repeat first | (with_reducible exact Below.refl _ _) | (with_reducible apply Ext.alloc) | (with_reducible apply Ext.drew) | (with_reducible apply Ext.drewN) | (with_reducible refine Ext.set ?_ (by simp))))
      have HBV : Hid (V.heap[wr.heap.size]? = some (.cells c.cells.toArray 24)) := Lib.hid (by rw [hV]; exact heap_alloc_new wr _)
      obtain ⟨Ag, cg, rfl, hcg, -⟩ := Arr.own hQ.out.1
      clear hc hT hf hsu hms hV
      go_wp2_with fail
      rw [← HV.out]
      clear x0 x1 x2 x3 x4 x5 q1 lq
      go_loopw [6, 7] (fun m j wx => ∃ j' : Nat, j' ≤ O.length ∧ j = .int .i64 (j' : Int) ∧ m = .bool (f j') ∧ Hid (Ext V wx)) (fun _ j _ => O.length - (intOf j).toNat)
      case atStart => exact ⟨0, Nat.zero_le _, rfl, by rw [HM0.out], Lib.hid (Below.refl _ _)⟩
      case round =>
        obtain ⟨j, hj, rfl, rfl, hE⟩ := hrel
        have q1 := cellAt (ext_at' (EV.out.then hE.out) HRW.out) 1 (.slice (some ⟨b1, o1, none⟩) O.length co) rfl
        have lq := cell_lt q1
        simp only at lq
        by_cases hlt2 : j < O.length
        · have hmj := HMM.out j hlt2
          obtain ⟨b2, o2, e2, -, y0, y1, y2, y3, y4, y5⟩ := cap_row (HS.out.2.ext (hQ.out.2.then (EV.out.then hE.out))) hlt2
          simp only [Option.some.injEq, Addr.mk.injEq, and_true] at e2
          obtain ⟨rfl, rfl⟩ := e2
          obtain ⟨y, hy⟩ : ∃ y, y = O[j] := ⟨_, rfl⟩
          rw [← hy] at hmj y0 y1 y2 y3 y4 y5
          obtain ⟨m, hm⟩ : ∃ m, m = f j := ⟨_, rfl⟩
          rw [← hm] at hmj ⊢
          have HX := Lib.hid (And.intro y0 (And.intro y1 (And.intro y2 (And.intro y3 (And.intro y4 y5)))))
          have HUn := Lib.hid (fun w => refUnder_any c y w)
          clear hy hm y0 y1 y2 y3 y4 y5
          cases m with
          | false =>
            have HF1 := Lib.hid hmj
            clear hmj
            go_wp2_with fail
            refine wp_region_res (Ext) [] [] [⟨[], []⟩, ⟨[], []⟩, ⟨[], []⟩, ⟨[], []⟩, ⟨[], []⟩, ⟨[], []⟩, ⟨[], []⟩, ⟨[], []⟩, ⟨[], []⟩, ⟨[], []⟩, ⟨[], []⟩, ⟨[], []⟩, ⟨[], []⟩, ⟨[], []⟩, ⟨[], []⟩, ⟨[], []⟩, ⟨[], []⟩, ⟨[], []⟩, ⟨[], []⟩] [34, 35, 36, 37, 38, 39, 40, 41, 42, 43, 44, 45, 46, 47, 48, 49, 50, 51, 6] (by kernel_rfl) (fun _ => Below.refl _ _) (fun _ _ _ => Ext.then) (by kernel_rfl) (by kernel_rfl) (by kernel_rfl) (by kernel_rfl) (by kernel_rfl) ?start ?_
            case start =>
              exact trivial
            apply ex_is; apply Exists.intro
            apply ex_is; apply Exists.intro
            apply ex_is; apply Exists.intro
            apply ex_is; apply Exists.intro
            apply ex_is; apply Exists.intro
            apply ex_is; apply Exists.intro
            apply ex_is; apply Exists.intro
            apply ex_is; apply Exists.intro
            apply ex_is; apply Exists.intro
            apply ex_is; apply Exists.intro
            apply ex_is; apply Exists.intro
            apply ex_is; apply Exists.intro
            apply ex_is; apply Exists.intro
            apply ex_is; apply Exists.intro
            apply ex_is; apply Exists.intro
            apply ex_is; apply Exists.intro
            apply ex_is; apply Exists.intro
            apply ex_is; apply Exists.intro
            apply ex_is; apply Exists.intro
            refine ⟨[], ⟨?steps, ?stab, ?ends⟩⟩
            case steps =>
              refine And.intro (obX_pure (fun _ => Below.refl _ _) ?_) ?_
              · intro act W hR hf ho hu K hK
                replace hR := ext_drew hR
                replace hK := fun v h2 => hK v W rfl h2 trivial
                have G : act.tmps[6]?.getD undef = _ ∧ True := ho
                obtain ⟨g6, -⟩ := G
                clear ho hf hu
                go_simp
                exact hK _ (Eq.refl _)
              refine And.intro (obX_pure (fun _ => Below.refl _ _) ?_) ?_
              · intro act W hR hf ho hu K hK
                replace hR := ext_drew hR
                replace hK := fun v h2 => hK v W rfl h2 trivial
                have F : act.tmps[34]?.getD undef = _ ∧ True := hf
                obtain ⟨f0, -⟩ := F
                clear ho hf hu
                go_simp
                exact hK _ (Eq.refl _)
              refine And.intro (obX_pure (fun _ => Below.refl _ _) ?_) ?_
              · intro act W hR hf ho hu K hK
                replace hR := ext_drew hR
                replace hK := fun v h2 => hK v W rfl h2 trivial
                have G : act.tmps[7]?.getD undef = _ ∧ True := ho
                obtain ⟨g7, -⟩ := G
                have F : act.tmps[35]?.getD undef = _ ∧ True := hf
                obtain ⟨f1, -⟩ := F
                clear ho hf hu
                go_simp
                exact hK _ (Eq.refl _)
              refine And.intro (obX_pure (fun _ => Below.refl _ _) ?_) ?_
              · intro act W hR hf ho hu K hK
                replace hR := ext_drew hR
                replace hK := fun v h2 => hK v W rfl h2 trivial
                have G : act.tmps[4]?.getD undef = _ ∧ True := ho
                obtain ⟨g4, -⟩ := G
                have F : act.tmps[35]?.getD undef = _ ∧ True := hf
                obtain ⟨f1, -⟩ := F
                clear ho hf hu
                go_simp
                exact hK _ (Eq.refl _)
              refine And.intro (obX_pure (fun _ => Below.refl _ _) ?_) ?_
              · intro act W hR hf ho hu K hK
                replace hR := ext_drew hR
                replace hK := fun v h2 => hK v W rfl h2 trivial
                have F : act.tmps[36]?.getD undef = _ ∧ act.tmps[37]?.getD undef = _ ∧ act.tmps[35]?.getD undef = _ ∧ True := hf
                obtain ⟨f2, f3, f1, -⟩ := F
                clear ho hf hu
                go_simp
                exact hK _ (Eq.refl _)
              refine And.intro (obX_pure (fun _ => Below.refl _ _) ?_) ?_
              · intro act W hR hf ho hu K hK
                replace hR := ext_drew hR
                replace hK := fun v h2 => hK v W rfl h2 trivial
                have F : act.tmps[38]?.getD undef = _ ∧ act.tmps[35]?.getD undef = _ ∧ act.tmps[35]?.getD undef = _ ∧ True := hf
                obtain ⟨f4, f1, -, -⟩ := F
                clear ho hf hu
                go_simp
                exact hK _ (Eq.refl _)
              refine And.intro (obX_pure (fun _ => Below.refl _ _) ?_) ?_
              · intro act W hR hf ho hu K hK
                replace hR := ext_drew hR
                replace hK := fun v h2 => hK v W rfl h2 trivial
                have G : act.tmps[5]?.getD undef = _ ∧ True := ho
                obtain ⟨g5, -⟩ := G
                have F : act.tmps[39]?.getD undef = _ ∧ True := hf
                obtain ⟨f5, -⟩ := F
                clear ho hf hu
                go_simp
                exact hK _ (Eq.refl _)
              refine And.intro (obX_pure (fun _ => Below.refl _ _) ?_) ?_
              · intro act W hR hf ho hu K hK
                replace hR := ext_drew hR
                replace hK := fun v h2 => hK v W rfl h2 trivial
                have G : act.tmps[0]?.getD undef = _ ∧ True := ho
                obtain ⟨g0, -⟩ := G
                have F : act.tmps[39]?.getD undef = _ ∧ True := hf
                obtain ⟨f5, -⟩ := F
                clear ho hf hu
                go_simp
                exact hK _ (Eq.refl _)
              refine And.intro (obX_pure (fun _ => Below.refl _ _) ?_) ?_
              · intro act W hR hf ho hu K hK
                replace hR := ext_drew hR
                replace hK := fun v h2 => hK v W rfl h2 trivial
                have F : act.tmps[41]?.getD undef = _ ∧ act.tmps[39]?.getD undef = _ ∧ True := hf
                obtain ⟨f7, f5, -⟩ := F
                clear ho hf hu
                go_simp
                exact hK _ (Eq.refl _)
              refine And.intro (obX_pure (fun _ => Below.refl _ _) ?_) ?_
              · intro act W hR hf ho hu K hK
                replace hR := ext_drew hR
                replace hK := fun v h2 => hK v W rfl h2 trivial
                have F : act.tmps[42]?.getD undef = _ ∧ act.tmps[39]?.getD undef = _ ∧ True := hf
                obtain ⟨f8, f5, -⟩ := F
                clear ho hf hu
                go_simp
                exact hK _ (Eq.refl _)
              refine And.intro (obX_pure (fun _ => Below.refl _ _) ?_) ?_
              · intro act W hR hf ho hu K hK
                replace hR := ext_drew hR
                replace hK := fun v h2 => hK v W rfl h2 trivial
                have F : act.tmps[43]?.getD undef = _ ∧ act.tmps[39]?.getD undef = _ ∧ True := hf
                obtain ⟨f9, f5, -⟩ := F
                clear ho hf hu
                go_simp
                exact hK _ (Eq.refl _)
              refine And.intro (obX_pure (fun _ => Below.refl _ _) ?_) ?_
              · intro act W hR hf ho hu K hK
                replace hR := ext_drew hR
                replace hK := fun v h2 => hK v W rfl h2 trivial
                have G : act.tmps[7]?.getD undef = _ ∧ True := ho
                obtain ⟨g7, -⟩ := G
                have F : act.tmps[39]?.getD undef = _ ∧ True := hf
                obtain ⟨f5, -⟩ := F
                clear ho hf hu
                go_simp
                exact hK _ (Eq.refl _)
              refine And.intro (obX_pure (fun _ => Below.refl _ _) ?_) ?_
              · intro act W hR hf ho hu K hK
                replace hR := ext_drew hR
                replace hK := fun v h2 => hK v W rfl h2 trivial
                have F : act.tmps[44]?.getD undef = _ ∧ act.tmps[45]?.getD undef = _ ∧ act.tmps[39]?.getD undef = _ ∧ True := hf
                obtain ⟨f10, f11, f5, -⟩ := F
                clear ho hf hu
                go_simp
                exact hK _ (Eq.refl _)
              refine And.intro (obX_pure (fun _ => Below.refl _ _) ?_) ?_
              · intro act W hR hf ho hu K hK
                replace hR := ext_drew hR
                replace hK := fun v h2 => hK v W rfl h2 trivial
                have F : act.tmps[46]?.getD undef = _ ∧ act.tmps[39]?.getD undef = _ ∧ True := hf
                obtain ⟨f12, f5, -⟩ := F
                clear ho hf hu
                go_simp
                exact hK _ (Eq.refl _)
              refine And.intro (obX_eff (Ext) (fun _ _ h => h) (trivial) ?_) ?_
              · intro act W hR hf ho hu K hK
                replace hR := ext_drew hR
                replace hK := fun v (w' : World) (h1 : (Ext) W w') h2 => hK v w' h1 h2 trivial
                have F : act.tmps[40]?.getD undef = _ ∧ act.tmps[47]?.getD undef = _ ∧ act.tmps[39]?.getD undef = _ ∧ act.tmps[39]?.getD undef = _ ∧ True := hf
                obtain ⟨f6, f13, f5, -, -⟩ := F
                clear ho hf hu
                go_simp
                exact hK _ _ (Below.refl _ _) (Eq.refl _)
              refine And.intro (obX_pure (fun _ => Below.refl _ _) ?_) ?_
              · intro act W hR hf ho hu K hK
                replace hR := ext_drew hR
                replace hK := fun v h2 => hK v W rfl h2 trivial
                have F : act.tmps[48]?.getD undef = _ ∧ act.tmps[39]?.getD undef = _ ∧ True := hf
                obtain ⟨f14, f5, -⟩ := F
                clear ho hf hu
                go_simp
                exact hK _ (Eq.refl _)
              refine And.intro (obX_pure (fun _ => Below.refl _ _) ?_) ?_
              · intro act W hR hf ho hu K hK
                replace hR := ext_drew hR
                replace hK := fun v h2 => hK v W rfl h2 trivial
                have F : act.tmps[39]?.getD undef = _ ∧ act.tmps[49]?.getD undef = _ ∧ act.tmps[35]?.getD undef = _ ∧ True := hf
                obtain ⟨f5, f15, f1, -⟩ := F
                clear ho hf hu
                go_simp
                exact hK _ (Eq.refl _)
              refine And.intro (obX_pure (fun _ => Below.refl _ _) ?_) ?_
              · intro act W hR hf ho hu K hK
                replace hR := ext_drew hR
                replace hK := fun v h2 => hK v W rfl h2 trivial
                have F : act.tmps[35]?.getD undef = _ ∧ act.tmps[50]?.getD undef = _ ∧ True := hf
                obtain ⟨f1, f16, -⟩ := F
                clear ho hf hu
                go_simp
                exact hK _ (Eq.refl _)
              refine And.intro (obX_pure (fun _ => Below.refl _ _) ?_) ?_
              · intro act W hR hf ho hu K hK
                replace hR := ext_drew hR
                replace hK := fun v h2 => hK v W rfl h2 trivial
                have F : act.tmps[51]?.getD undef = _ ∧ act.tmps[48]?.getD undef = _ ∧ act.tmps[34]?.getD undef = _ ∧ act.tmps[35]?.getD undef = _ ∧ act.tmps[36]?.getD undef = _ ∧ act.tmps[37]?.getD undef = _ ∧ act.tmps[38]?.getD undef = _ ∧ act.tmps[39]?.getD undef = _ ∧ act.tmps[40]?.getD undef = _ ∧ act.tmps[41]?.getD undef = _ ∧ act.tmps[42]?.getD undef = _ ∧ act.tmps[43]?.getD undef = _ ∧ act.tmps[44]?.getD undef = _ ∧ act.tmps[45]?.getD undef = _ ∧ act.tmps[46]?.getD undef = _ ∧ act.tmps[47]?.getD undef = _ ∧ act.tmps[48]?.getD undef = _ ∧ act.tmps[49]?.getD undef = _ ∧ act.tmps[50]?.getD undef = _ ∧ act.tmps[51]?.getD undef = _ ∧ True := hf
                obtain ⟨f17, f14, f0, f1, f2, f3, f4, f5, f6, f7, f8, f9, f10, f11, f12, f13, -, f15, f16, -, -⟩ := F
                clear ho hf hu
                go_simp
                exact hK _ (Eq.refl _)
              exact trivial
            case stab =>
              refine And.intro is_stable ?_
              refine And.intro is_stable ?_
              refine And.intro is_stable ?_
              refine And.intro is_stable ?_
              refine And.intro is_stable ?_
              refine And.intro is_stable ?_
              refine And.intro is_stable ?_
              refine And.intro is_stable ?_
              refine And.intro is_stable ?_
              refine And.intro is_stable ?_
              refine And.intro is_stable ?_
              refine And.intro is_stable ?_
              refine And.intro is_stable ?_
              refine And.intro is_stable ?_
              refine And.intro is_stable ?_
              refine And.intro is_stable ?_
              refine And.intro is_stable ?_
              refine And.intro is_stable ?_
              refine And.intro is_stable ?_
              exact trivial
            case ends =>
              intro vals W hR hE hall
              replace hR := ext_drew hR
              clear hE
              have e6 : vals 6 = _ := hall 18 (by decide)
              clear hall
              simp only [fill, List.setIfInBounds_toArray, List.set_cons_succ, List.set_cons_zero, e6]
              go_wp2_with fail
              exact ⟨⟨j + 1, by omega, by rfl, by rw [HF1.out]; rfl, Lib.hid (hE.out.then (Ext.then (by repeat first | (with_reducible exact Below.refl _ _) | (with_reducible apply Ext.alloc) | (with_reducible apply Ext.drew) | (with_reducible apply Ext.drewN) | (with_reducible refine Ext.set ?_ (by simp)) | (with_reducible refine Ext.then ?_ hR)) (Below.refl _ _)))⟩, by simp [intOf]; omega⟩
          | true =>
            by_cases hjk : j = k
            · have d1 : ((j : Int) == (k : Int)) = true := by rw [hjk]; simp
              rw [show (j == k) = true by rw [hjk]; simp] at hmj
              have HF1 := Lib.hid hmj
              have HJK := Lib.hid hjk
              clear hmj hjk
              go_wp2_with fail
              refine wp_region_res (Ext) [] [] [⟨[], []⟩, ⟨[], []⟩, ⟨[], []⟩, ⟨[], []⟩, ⟨[], []⟩, ⟨[], []⟩, ⟨[], []⟩, ⟨[], []⟩, ⟨[], []⟩, ⟨[], []⟩, ⟨[], []⟩, ⟨[], []⟩, ⟨[], []⟩, ⟨[], []⟩, ⟨[], []⟩, ⟨[], []⟩, ⟨[], []⟩, ⟨[], []⟩, ⟨[], []⟩] [34, 35, 36, 37, 38, 39, 40, 41, 42, 43, 44, 45, 46, 47, 48, 49, 50, 51, 6] (by kernel_rfl) (fun _ => Below.refl _ _) (fun _ _ _ => Ext.then) (by kernel_rfl) (by kernel_rfl) (by kernel_rfl) (by kernel_rfl) (by kernel_rfl) ?start ?_
              case start =>
                exact trivial
              apply ex_is; apply Exists.intro
              apply ex_is; apply Exists.intro
              apply ex_is; apply Exists.intro
              apply ex_is; apply Exists.intro
              apply ex_is; apply Exists.intro
              apply ex_is; apply Exists.intro
              apply ex_is; apply Exists.intro
              apply ex_is; apply Exists.intro
              apply ex_is; apply Exists.intro
              apply ex_is; apply Exists.intro
              apply ex_is; apply Exists.intro
              apply ex_is; apply Exists.intro
              apply ex_is; apply Exists.intro
              apply ex_is; apply Exists.intro
              apply ex_is; apply Exists.intro
              apply ex_is; apply Exists.intro
              apply ex_is; apply Exists.intro
              apply ex_is; apply Exists.intro
              apply ex_is; apply Exists.intro
              refine ⟨[], ⟨?steps, ?stab, ?ends⟩⟩
              case steps =>
                refine And.intro (obX_pure (fun _ => Below.refl _ _) ?_) ?_
                · intro act W hR hf ho hu K hK
                  replace hR := ext_drew hR
                  replace hK := fun v h2 => hK v W rfl h2 trivial
                  have G : act.tmps[6]?.getD undef = _ ∧ True := ho
                  obtain ⟨g6, -⟩ := G
                  clear ho hf hu
                  go_simp
                  exact hK _ (Eq.refl _)
                refine And.intro (obX_pure (fun _ => Below.refl _ _) ?_) ?_
                · intro act W hR hf ho hu K hK
                  replace hR := ext_drew hR
                  replace hK := fun v h2 => hK v W rfl h2 trivial
                  have F : act.tmps[34]?.getD undef = _ ∧ True := hf
                  obtain ⟨f0, -⟩ := F
                  clear ho hf hu
                  go_simp
                  exact hK _ (Eq.refl _)
                refine And.intro (obX_pure (fun _ => Below.refl _ _) ?_) ?_
                · intro act W hR hf ho hu K hK
                  replace hR := ext_drew hR
                  replace hK := fun v h2 => hK v W rfl h2 trivial
                  have G : act.tmps[7]?.getD undef = _ ∧ True := ho
                  obtain ⟨g7, -⟩ := G
                  have F : act.tmps[35]?.getD undef = _ ∧ True := hf
                  obtain ⟨f1, -⟩ := F
                  clear ho hf hu
                  go_simp
                  exact hK _ (Eq.refl _)
                refine And.intro (obX_pure (fun _ => Below.refl _ _) ?_) ?_
                · intro act W hR hf ho hu K hK
                  replace hR := ext_drew hR
                  replace hK := fun v h2 => hK v W rfl h2 trivial
                  have G : act.tmps[4]?.getD undef = _ ∧ True := ho
                  obtain ⟨g4, -⟩ := G
                  have F : act.tmps[35]?.getD undef = _ ∧ True := hf
                  obtain ⟨f1, -⟩ := F
                  clear ho hf hu
                  go_simp
                  exact hK _ (Eq.refl _)
                refine And.intro (obX_pure (fun _ => Below.refl _ _) ?_) ?_
                · intro act W hR hf ho hu K hK
                  replace hR := ext_drew hR
                  replace hK := fun v h2 => hK v W rfl h2 trivial
                  have F : act.tmps[36]?.getD undef = _ ∧ act.tmps[37]?.getD undef = _ ∧ act.tmps[35]?.getD undef = _ ∧ True := hf
                  obtain ⟨f2, f3, f1, -⟩ := F
                  clear ho hf hu
                  go_simp
                  exact hK _ (Eq.refl _)
                refine And.intro (obX_pure (fun _ => Below.refl _ _) ?_) ?_
                · intro act W hR hf ho hu K hK
                  replace hR := ext_drew hR
                  replace hK := fun v h2 => hK v W rfl h2 trivial
                  have F : act.tmps[38]?.getD undef = _ ∧ act.tmps[35]?.getD undef = _ ∧ act.tmps[35]?.getD undef = _ ∧ True := hf
                  obtain ⟨f4, f1, -, -⟩ := F
                  clear ho hf hu
                  go_simp
                  exact hK _ (Eq.refl _)
                refine And.intro (obX_pure (fun _ => Below.refl _ _) ?_) ?_
                · intro act W hR hf ho hu K hK
                  replace hR := ext_drew hR
                  replace hK := fun v h2 => hK v W rfl h2 trivial
                  have G : act.tmps[5]?.getD undef = _ ∧ True := ho
                  obtain ⟨g5, -⟩ := G
                  have F : act.tmps[39]?.getD undef = _ ∧ True := hf
                  obtain ⟨f5, -⟩ := F
                  clear ho hf hu
                  go_simp
                  exact hK _ (Eq.refl _)
                refine And.intro (obX_pure (fun _ => Below.refl _ _) ?_) ?_
                · intro act W hR hf ho hu K hK
                  replace hR := ext_drew hR
                  replace hK := fun v h2 => hK v W rfl h2 trivial
                  have G : act.tmps[0]?.getD undef = _ ∧ True := ho
                  obtain ⟨g0, -⟩ := G
                  have F : act.tmps[39]?.getD undef = _ ∧ True := hf
                  obtain ⟨f5, -⟩ := F
                  clear ho hf hu
                  go_simp
                  exact hK _ (Eq.refl _)
                refine And.intro (obX_pure (fun _ => Below.refl _ _) ?_) ?_
                · intro act W hR hf ho hu K hK
                  replace hR := ext_drew hR
                  replace hK := fun v h2 => hK v W rfl h2 trivial
                  have F : act.tmps[41]?.getD undef = _ ∧ act.tmps[39]?.getD undef = _ ∧ True := hf
                  obtain ⟨f7, f5, -⟩ := F
                  clear ho hf hu
                  go_simp
                  exact hK _ (Eq.refl _)
                refine And.intro (obX_pure (fun _ => Below.refl _ _) ?_) ?_
                · intro act W hR hf ho hu K hK
                  replace hR := ext_drew hR
                  replace hK := fun v h2 => hK v W rfl h2 trivial
                  have F : act.tmps[42]?.getD undef = _ ∧ act.tmps[39]?.getD undef = _ ∧ True := hf
                  obtain ⟨f8, f5, -⟩ := F
                  clear ho hf hu
                  go_simp
                  exact hK _ (Eq.refl _)
                refine And.intro (obX_pure (fun _ => Below.refl _ _) ?_) ?_
                · intro act W hR hf ho hu K hK
                  replace hR := ext_drew hR
                  replace hK := fun v h2 => hK v W rfl h2 trivial
                  have F : act.tmps[43]?.getD undef = _ ∧ act.tmps[39]?.getD undef = _ ∧ True := hf
                  obtain ⟨f9, f5, -⟩ := F
                  clear ho hf hu
                  go_simp
                  exact hK _ (Eq.refl _)
                refine And.intro (obX_pure (fun _ => Below.refl _ _) ?_) ?_
                · intro act W hR hf ho hu K hK
                  replace hR := ext_drew hR
                  replace hK := fun v h2 => hK v W rfl h2 trivial
                  have G : act.tmps[7]?.getD undef = _ ∧ True := ho
                  obtain ⟨g7, -⟩ := G
                  have F : act.tmps[39]?.getD undef = _ ∧ True := hf
                  obtain ⟨f5, -⟩ := F
                  clear ho hf hu
                  go_simp
                  exact hK _ (Eq.refl _)
                refine And.intro (obX_pure (fun _ => Below.refl _ _) ?_) ?_
                · intro act W hR hf ho hu K hK
                  replace hR := ext_drew hR
                  replace hK := fun v h2 => hK v W rfl h2 trivial
                  have F : act.tmps[44]?.getD undef = _ ∧ act.tmps[45]?.getD undef = _ ∧ act.tmps[39]?.getD undef = _ ∧ True := hf
                  obtain ⟨f10, f11, f5, -⟩ := F
                  clear ho hf hu
                  go_simp
                  exact hK _ (Eq.refl _)
                refine And.intro (obX_pure (fun _ => Below.refl _ _) ?_) ?_
                · intro act W hR hf ho hu K hK
                  replace hR := ext_drew hR
                  replace hK := fun v h2 => hK v W rfl h2 trivial
                  have F : act.tmps[46]?.getD undef = _ ∧ act.tmps[39]?.getD undef = _ ∧ True := hf
                  obtain ⟨f12, f5, -⟩ := F
                  clear ho hf hu
                  go_simp
                  exact hK _ (Eq.refl _)
                refine And.intro (obX_eff (Ext) (fun _ _ h => h) (trivial) ?_) ?_
                · intro act W hR hf ho hu K hK
                  replace hR := ext_drew hR
                  replace hK := fun v (w' : World) (h1 : (Ext) W w') h2 => hK v w' h1 h2 trivial
                  have F : act.tmps[40]?.getD undef = _ ∧ act.tmps[47]?.getD undef = _ ∧ act.tmps[39]?.getD undef = _ ∧ act.tmps[39]?.getD undef = _ ∧ True := hf
                  obtain ⟨f6, f13, f5, -, -⟩ := F
                  clear ho hf hu
                  go_simp
                  exact hK _ _ (Below.refl _ _) (Eq.refl _)
                refine And.intro (obX_pure (fun _ => Below.refl _ _) ?_) ?_
                · intro act W hR hf ho hu K hK
                  replace hR := ext_drew hR
                  replace hK := fun v h2 => hK v W rfl h2 trivial
                  have F : act.tmps[48]?.getD undef = _ ∧ act.tmps[39]?.getD undef = _ ∧ True := hf
                  obtain ⟨f14, f5, -⟩ := F
                  clear ho hf hu
                  go_simp
                  exact hK _ (Eq.refl _)
                refine And.intro (obX_pure (fun _ => Below.refl _ _) ?_) ?_
                · intro act W hR hf ho hu K hK
                  replace hR := ext_drew hR
                  replace hK := fun v h2 => hK v W rfl h2 trivial
                  have F : act.tmps[39]?.getD undef = _ ∧ act.tmps[49]?.getD undef = _ ∧ act.tmps[35]?.getD undef = _ ∧ True := hf
                  obtain ⟨f5, f15, f1, -⟩ := F
                  clear ho hf hu
                  go_simp
                  exact hK _ (Eq.refl _)
                refine And.intro (obX_pure (fun _ => Below.refl _ _) ?_) ?_
                · intro act W hR hf ho hu K hK
                  replace hR := ext_drew hR
                  replace hK := fun v h2 => hK v W rfl h2 trivial
                  have F : act.tmps[35]?.getD undef = _ ∧ act.tmps[50]?.getD undef = _ ∧ True := hf
                  obtain ⟨f1, f16, -⟩ := F
                  clear ho hf hu
                  go_simp
                  exact hK _ (Eq.refl _)
                refine And.intro (obX_pure (fun _ => Below.refl _ _) ?_) ?_
                · intro act W hR hf ho hu K hK
                  replace hR := ext_drew hR
                  replace hK := fun v h2 => hK v W rfl h2 trivial
                  have F : act.tmps[51]?.getD undef = _ ∧ act.tmps[48]?.getD undef = _ ∧ act.tmps[34]?.getD undef = _ ∧ act.tmps[35]?.getD undef = _ ∧ act.tmps[36]?.getD undef = _ ∧ act.tmps[37]?.getD undef = _ ∧ act.tmps[38]?.getD undef = _ ∧ act.tmps[39]?.getD undef = _ ∧ act.tmps[40]?.getD undef = _ ∧ act.tmps[41]?.getD undef = _ ∧ act.tmps[42]?.getD undef = _ ∧ act.tmps[43]?.getD undef = _ ∧ act.tmps[44]?.getD undef = _ ∧ act.tmps[45]?.getD undef = _ ∧ act.tmps[46]?.getD undef = _ ∧ act.tmps[47]?.getD undef = _ ∧ act.tmps[48]?.getD undef = _ ∧ act.tmps[49]?.getD undef = _ ∧ act.tmps[50]?.getD undef = _ ∧ act.tmps[51]?.getD undef = _ ∧ True := hf
                  obtain ⟨f17, f14, f0, f1, f2, f3, f4, f5, f6, f7, f8, f9, f10, f11, f12, f13, -, f15, f16, -, -⟩ := F
                  clear ho hf hu
                  go_simp
                  exact hK _ (Eq.refl _)
                exact trivial
              case stab =>
                refine And.intro is_stable ?_
                refine And.intro is_stable ?_
                refine And.intro is_stable ?_
                refine And.intro is_stable ?_
                refine And.intro is_stable ?_
                refine And.intro is_stable ?_
                refine And.intro is_stable ?_
                refine And.intro is_stable ?_
                refine And.intro is_stable ?_
                refine And.intro is_stable ?_
                refine And.intro is_stable ?_
                refine And.intro is_stable ?_
                refine And.intro is_stable ?_
                refine And.intro is_stable ?_
                refine And.intro is_stable ?_
                refine And.intro is_stable ?_
                refine And.intro is_stable ?_
                refine And.intro is_stable ?_
                refine And.intro is_stable ?_
                exact trivial
              case ends =>
                intro vals W hR hE hall
                replace hR := ext_drew hR
                clear hE
                have e6 : vals 6 = _ := hall 18 (by decide)
                clear hall
                simp only [fill, List.setIfInBounds_toArray, List.set_cons_succ, List.set_cons_zero, e6]
                go_wp2_with fail
                exact ⟨⟨j + 1, by omega, by rfl, by rw [HF1.out]; rfl, Lib.hid (hE.out.then (Ext.then (by repeat first | (with_reducible exact Below.refl _ _) | (with_reducible apply Ext.alloc) | (with_reducible apply Ext.drew) | (with_reducible apply Ext.drewN) | (with_reducible refine Ext.set ?_ (by simp)) | (with_reducible refine Ext.then ?_ hR)) (Below.refl _ _)))⟩, by simp [intOf]; omega⟩
            · have d1 : ((j : Int) == (k : Int)) = false := beq_eq_false_iff_ne.2 (by omega)
              rw [show (j == k) = false from beq_eq_false_iff_ne.2 hjk] at hmj
              obtain ⟨u, hu⟩ : ∃ u, u = underC c y := ⟨_, rfl⟩
              rw [← hu] at hmj HUn
              have HF1 := Lib.hid hmj
              clear hmj hjk hu
              go_wp2_with fail
              refine wp_region_res (Ext) [] [] [⟨[], []⟩, ⟨[], []⟩, ⟨[], []⟩, ⟨[], []⟩, ⟨[], []⟩, ⟨[], []⟩, ⟨[], []⟩, ⟨[], []⟩, ⟨[], []⟩, ⟨[], []⟩, ⟨[], []⟩, ⟨[], []⟩, ⟨[], []⟩, ⟨[], []⟩, ⟨[], []⟩, ⟨[], []⟩, ⟨[], []⟩, ⟨[], []⟩, ⟨[], []⟩] [34, 35, 36, 37, 38, 39, 40, 41, 42, 43, 44, 45, 46, 47, 48, 49, 50, 51, 6] (by kernel_rfl) (fun _ => Below.refl _ _) (fun _ _ _ => Ext.then) (by kernel_rfl) (by kernel_rfl) (by kernel_rfl) (by kernel_rfl) (by kernel_rfl) ?start ?_
              case start =>
                exact trivial
              apply ex_is; apply Exists.intro
              apply ex_is; apply Exists.intro
              apply ex_is; apply Exists.intro
              apply ex_is; apply Exists.intro
              apply ex_is; apply Exists.intro
              apply ex_is; apply Exists.intro
              apply ex_is; apply Exists.intro
              apply ex_is; apply Exists.intro
              apply ex_is; apply Exists.intro
              apply ex_is; apply Exists.intro
              apply ex_is; apply Exists.intro
              apply ex_is; apply Exists.intro
              apply ex_is; apply Exists.intro
              apply ex_is; apply Exists.intro
              apply ex_is; apply Exists.intro
              apply ex_is; apply Exists.intro
              apply ex_is; apply Exists.intro
              apply ex_is; apply Exists.intro
              apply ex_is; apply Exists.intro
              refine ⟨[], ⟨?steps, ?stab, ?ends⟩⟩
              case steps =>
                refine And.intro (obX_pure (fun _ => Below.refl _ _) ?_) ?_
                · intro act W hR hf ho hu K hK
                  replace hR := ext_drew hR
                  replace hK := fun v h2 => hK v W rfl h2 trivial
                  have G : act.tmps[6]?.getD undef = _ ∧ True := ho
                  obtain ⟨g6, -⟩ := G
                  clear ho hf hu
                  go_simp
                  exact hK _ (Eq.refl _)
                refine And.intro (obX_pure (fun _ => Below.refl _ _) ?_) ?_
                · intro act W hR hf ho hu K hK
                  replace hR := ext_drew hR
                  replace hK := fun v h2 => hK v W rfl h2 trivial
                  have F : act.tmps[34]?.getD undef = _ ∧ True := hf
                  obtain ⟨f0, -⟩ := F
                  clear ho hf hu
                  go_simp
                  exact hK _ (Eq.refl _)
                refine And.intro (obX_pure (fun _ => Below.refl _ _) ?_) ?_
                · intro act W hR hf ho hu K hK
                  replace hR := ext_drew hR
                  replace hK := fun v h2 => hK v W rfl h2 trivial
                  have G : act.tmps[7]?.getD undef = _ ∧ True := ho
                  obtain ⟨g7, -⟩ := G
                  have F : act.tmps[35]?.getD undef = _ ∧ True := hf
                  obtain ⟨f1, -⟩ := F
                  clear ho hf hu
                  go_simp
                  exact hK _ (Eq.refl _)
                refine And.intro (obX_pure (fun _ => Below.refl _ _) ?_) ?_
                · intro act W hR hf ho hu K hK
                  replace hR := ext_drew hR
                  replace hK := fun v h2 => hK v W rfl h2 trivial
                  have G : act.tmps[4]?.getD undef = _ ∧ True := ho
                  obtain ⟨g4, -⟩ := G
                  have F : act.tmps[35]?.getD undef = _ ∧ True := hf
                  obtain ⟨f1, -⟩ := F
                  clear ho hf hu
                  go_simp
                  exact hK _ (Eq.refl _)
                refine And.intro (obX_pure (fun _ => Below.refl _ _) ?_) ?_
                · intro act W hR hf ho hu K hK
                  replace hR := ext_drew hR
                  replace hK := fun v h2 => hK v W rfl h2 trivial
                  have F : act.tmps[36]?.getD undef = _ ∧ act.tmps[37]?.getD undef = _ ∧ act.tmps[35]?.getD undef = _ ∧ True := hf
                  obtain ⟨f2, f3, f1, -⟩ := F
                  clear ho hf hu
                  go_simp
                  exact hK _ (Eq.refl _)
                refine And.intro (obX_pure (fun _ => Below.refl _ _) ?_) ?_
                · intro act W hR hf ho hu K hK
                  replace hR := ext_drew hR
                  replace hK := fun v h2 => hK v W rfl h2 trivial
                  have F : act.tmps[38]?.getD undef = _ ∧ act.tmps[35]?.getD undef = _ ∧ act.tmps[35]?.getD undef = _ ∧ True := hf
                  obtain ⟨f4, f1, -, -⟩ := F
                  clear ho hf hu
                  go_simp
                  exact hK _ (Eq.refl _)
                refine And.intro (obX_pure (fun _ => Below.refl _ _) ?_) ?_
                · intro act W hR hf ho hu K hK
                  replace hR := ext_drew hR
                  replace hK := fun v h2 => hK v W rfl h2 trivial
                  have G : act.tmps[5]?.getD undef = _ ∧ True := ho
                  obtain ⟨g5, -⟩ := G
                  have F : act.tmps[39]?.getD undef = _ ∧ True := hf
                  obtain ⟨f5, -⟩ := F
                  clear ho hf hu
                  obtain ⟨z0, z1, z2, z3, z4, z5⟩ := lie6' (ext_at' hE.out HBV.out) hR
                  go_simp
                  exact hK _ (Eq.refl _)
                refine And.intro (obX_pure (fun _ => Below.refl _ _) ?_) ?_
                · intro act W hR hf ho hu K hK
                  replace hR := ext_drew hR
                  replace hK := fun v h2 => hK v W rfl h2 trivial
                  have G : act.tmps[0]?.getD undef = _ ∧ True := ho
                  obtain ⟨g0, -⟩ := G
                  have F : act.tmps[39]?.getD undef = _ ∧ True := hf
                  obtain ⟨f5, -⟩ := F
                  clear ho hf hu
                  go_simp
                  exact hK _ (Eq.refl _)
                refine And.intro (obX_pure (fun _ => Below.refl _ _) ?_) ?_
                · intro act W hR hf ho hu K hK
                  replace hR := ext_drew hR
                  replace hK := fun v h2 => hK v W rfl h2 trivial
                  have F : act.tmps[41]?.getD undef = _ ∧ act.tmps[39]?.getD undef = _ ∧ True := hf
                  obtain ⟨f7, f5, -⟩ := F
                  clear ho hf hu
                  go_simp
                  exact hK _ (Eq.refl _)
                refine And.intro (obX_pure (fun _ => Below.refl _ _) ?_) ?_
                · intro act W hR hf ho hu K hK
                  replace hR := ext_drew hR
                  replace hK := fun v h2 => hK v W rfl h2 trivial
                  have F : act.tmps[42]?.getD undef = _ ∧ act.tmps[39]?.getD undef = _ ∧ True := hf
                  obtain ⟨f8, f5, -⟩ := F
                  clear ho hf hu
                  go_simp
                  exact hK _ (Eq.refl _)
                refine And.intro (obX_pure (fun _ => Below.refl _ _) ?_) ?_
                · intro act W hR hf ho hu K hK
                  replace hR := ext_drew hR
                  replace hK := fun v h2 => hK v W rfl h2 trivial
                  have F : act.tmps[43]?.getD undef = _ ∧ act.tmps[39]?.getD undef = _ ∧ True := hf
                  obtain ⟨f9, f5, -⟩ := F
                  clear ho hf hu
                  have q1 := cellAt (ext_at' ((EV.out.then hE.out).then hR) HRW.out) 1 (.slice (some ⟨b1, o1, none⟩) O.length co) rfl
                  go_simp
                  exact hK _ (Eq.refl _)
                refine And.intro (obX_pure (fun _ => Below.refl _ _) ?_) ?_
                · intro act W hR hf ho hu K hK
                  replace hR := ext_drew hR
                  replace hK := fun v h2 => hK v W rfl h2 trivial
                  have G : act.tmps[7]?.getD undef = _ ∧ True := ho
                  obtain ⟨g7, -⟩ := G
                  have F : act.tmps[39]?.getD undef = _ ∧ True := hf
                  obtain ⟨f5, -⟩ := F
                  clear ho hf hu
                  go_simp
                  exact hK _ (Eq.refl _)
                refine And.intro (obX_pure (fun _ => Below.refl _ _) ?_) ?_
                · intro act W hR hf ho hu K hK
                  replace hR := ext_drew hR
                  replace hK := fun v h2 => hK v W rfl h2 trivial
                  have F : act.tmps[44]?.getD undef = _ ∧ act.tmps[45]?.getD undef = _ ∧ act.tmps[39]?.getD undef = _ ∧ True := hf
                  obtain ⟨f10, f11, f5, -⟩ := F
                  clear ho hf hu
                  go_simp
                  exact hK _ (Eq.refl _)
                refine And.intro (obX_pure (fun _ => Below.refl _ _) ?_) ?_
                · intro act W hR hf ho hu K hK
                  replace hR := ext_drew hR
                  replace hK := fun v h2 => hK v W rfl h2 trivial
                  have F : act.tmps[46]?.getD undef = _ ∧ act.tmps[39]?.getD undef = _ ∧ True := hf
                  obtain ⟨f12, f5, -⟩ := F
                  clear ho hf hu
                  have y0 := ext_cell hR _ _ HX.out.1; have y1 := ext_cell hR _ _ HX.out.2.1; have y2 := ext_cell hR _ _ HX.out.2.2.1; have y3 := ext_cell hR _ _ HX.out.2.2.2.1; have y4 := ext_cell hR _ _ HX.out.2.2.2.2.1; have y5 := ext_cell hR _ _ HX.out.2.2.2.2.2
                  go_simp
                  exact hK _ (Eq.refl _)
                refine And.intro (obX_eff (Ext) (fun _ _ h => h) (trivial) ?_) ?_
                · intro act W hR hf ho hu K hK
                  replace hR := ext_drew hR
                  replace hK := fun v (w' : World) (h1 : (Ext) W w') h2 => hK v w' h1 h2 trivial
                  have F : act.tmps[40]?.getD undef = _ ∧ act.tmps[47]?.getD undef = _ ∧ act.tmps[39]?.getD undef = _ ∧ act.tmps[39]?.getD undef = _ ∧ True := hf
                  obtain ⟨f6, f13, f5, -, -⟩ := F
                  clear ho hf hu
                  go_simp
                  refine (HUn.out _).mono ?_; rintro _ W1 ⟨rfl, hE⟩; exact hK _ _ hE (Eq.refl _)
                refine And.intro (obX_pure (fun _ => Below.refl _ _) ?_) ?_
                · intro act W hR hf ho hu K hK
                  replace hR := ext_drew hR
                  replace hK := fun v h2 => hK v W rfl h2 trivial
                  have F : act.tmps[48]?.getD undef = _ ∧ act.tmps[39]?.getD undef = _ ∧ True := hf
                  obtain ⟨f14, f5, -⟩ := F
                  clear ho hf hu
                  go_simp
                  exact hK _ (Eq.refl _)
                refine And.intro (obX_pure (fun _ => Below.refl _ _) ?_) ?_
                · intro act W hR hf ho hu K hK
                  replace hR := ext_drew hR
                  replace hK := fun v h2 => hK v W rfl h2 trivial
                  have F : act.tmps[39]?.getD undef = _ ∧ act.tmps[49]?.getD undef = _ ∧ act.tmps[35]?.getD undef = _ ∧ True := hf
                  obtain ⟨f5, f15, f1, -⟩ := F
                  clear ho hf hu
                  go_simp
                  exact hK _ (Eq.refl _)
                refine And.intro (obX_pure (fun _ => Below.refl _ _) ?_) ?_
                · intro act W hR hf ho hu K hK
                  replace hR := ext_drew hR
                  replace hK := fun v h2 => hK v W rfl h2 trivial
                  have F : act.tmps[35]?.getD undef = _ ∧ act.tmps[50]?.getD undef = _ ∧ True := hf
                  obtain ⟨f1, f16, -⟩ := F
                  clear ho hf hu
                  go_simp
                  exact hK _ (Eq.refl _)
                refine And.intro (obX_pure (fun _ => Below.refl _ _) ?_) ?_
                · intro act W hR hf ho hu K hK
                  replace hR := ext_drew hR
                  replace hK := fun v h2 => hK v W rfl h2 trivial
                  have F : act.tmps[51]?.getD undef = _ ∧ act.tmps[48]?.getD undef = _ ∧ act.tmps[34]?.getD undef = _ ∧ act.tmps[35]?.getD undef = _ ∧ act.tmps[36]?.getD undef = _ ∧ act.tmps[37]?.getD undef = _ ∧ act.tmps[38]?.getD undef = _ ∧ act.tmps[39]?.getD undef = _ ∧ act.tmps[40]?.getD undef = _ ∧ act.tmps[41]?.getD undef = _ ∧ act.tmps[42]?.getD undef = _ ∧ act.tmps[43]?.getD undef = _ ∧ act.tmps[44]?.getD undef = _ ∧ act.tmps[45]?.getD undef = _ ∧ act.tmps[46]?.getD undef = _ ∧ act.tmps[47]?.getD undef = _ ∧ act.tmps[48]?.getD undef = _ ∧ act.tmps[49]?.getD undef = _ ∧ act.tmps[50]?.getD undef = _ ∧ act.tmps[51]?.getD undef = _ ∧ True := hf
                  obtain ⟨f17, f14, f0, f1, f2, f3, f4, f5, f6, f7, f8, f9, f10, f11, f12, f13, -, f15, f16, -, -⟩ := F
                  clear ho hf hu
                  go_simp
                  exact hK _ (Eq.refl _)
                exact trivial
              case stab =>
                refine And.intro is_stable ?_
                refine And.intro is_stable ?_
                refine And.intro is_stable ?_
                refine And.intro is_stable ?_
                refine And.intro is_stable ?_
                refine And.intro is_stable ?_
                refine And.intro is_stable ?_
                refine And.intro is_stable ?_
                refine And.intro is_stable ?_
                refine And.intro is_stable ?_
                refine And.intro is_stable ?_
                refine And.intro is_stable ?_
                refine And.intro is_stable ?_
                refine And.intro is_stable ?_
                refine And.intro is_stable ?_
                refine And.intro is_stable ?_
                refine And.intro is_stable ?_
                refine And.intro is_stable ?_
                refine And.intro is_stable ?_
                exact trivial
              case ends =>
                intro vals W hR hE hall
                replace hR := ext_drew hR
                clear hE
                have e6 : vals 6 = _ := hall 18 (by decide)
                clear hall
                simp only [fill, List.setIfInBounds_toArray, List.set_cons_succ, List.set_cons_zero, e6]
                go_wp2_with fail
                exact ⟨⟨j + 1, by omega, by rfl, by rw [HF1.out]; rfl, Lib.hid (hE.out.then (Ext.then (by repeat first | (with_reducible exact Below.refl _ _) | (with_reducible apply Ext.alloc) | (with_reducible apply Ext.drew) | (with_reducible apply Ext.drewN) | (with_reducible refine Ext.set ?_ (by simp)) | (with_reducible refine Ext.then ?_ hR)) (Below.refl _ _)))⟩, by simp [intOf]; omega⟩
        · obtain rfl : j = O.length := by omega
          obtain ⟨m, hm⟩ : ∃ m, m = f O.length := ⟨_, rfl⟩
          rw [← hm] at HST ⊢
          clear hm
          cases m with
          | false =>
            have HN : Hid (outL O (O.take (k + 1)) = T) := Lib.hid (by rw [HST.out]; rfl)
            go_wp2_with fail
            refine ⟨⟨k + 1, by omega, by simp, Lib.hid ⟨?_, hQ.out.2.then (EV.out.then hE.out)⟩⟩, by simp [intOf]; omega⟩
            rw [HN.out]
            exact own_ext hQ.out.1 (EV.out.then hE.out)
          | true =>
            have HN : Hid (outL O (O.take (k + 1)) = insC c T) := Lib.hid (by rw [HST.out]; rfl)
            have HTW := Lib.hid (fun a => tw_at (p := fun o => ltT (tri o) (tri c)) T a)
            have hta : insAt c T ≤ T.length := tw_le T
            have HIA : Hid (insAt c T = (T.takeWhile fun o => ltT (tri o) (tri c)).length) := Lib.hid rfl
            have HIC : Hid (insC c T = T.take (insAt c T) ++ (c :: T.drop (insAt c T))) := Lib.hid rfl
            obtain ⟨at_, hat⟩ : ∃ a, a = insAt c T := ⟨_, rfl⟩
            rw [← hat] at hta HIA HIC
            have HOWN := Lib.hid hQ.out.1
            clear hat
            go_wp2_with fail
            rcases HOWN.out.2 with ⟨hn1, hn2⟩ | ⟨g, cap, cur, hn1, -, -, hn2, -⟩
            · simp only [Value.slice.injEq] at hn1
              obtain ⟨rfl, -, rfl⟩ := hn1
              obtain rfl : T = [] := List.eq_nil_of_length_eq_zero hn2
              obtain rfl : at_ = 0 := by simp only [List.length_nil] at hta; omega
              rw [show ([] : List Cap).length = 0 from rfl]
              go_loopw [8] (fun i wx => ∃ a : Nat, a ≤ 0 ∧ i = .int .i64 (a : Int) ∧ Hid (Ext V wx)) (fun i _ => 0 + 1 - (intOf i).toNat)
              case atStart => exact ⟨0, Nat.zero_le _, rfl, Lib.hid hE.out⟩
              case round =>
                obtain ⟨a, ha, rfl, hE2⟩ := hrel
                obtain rfl : a = 0 := by omega
                go_wp2_with fail
                refine wp_region_obl Ext [54, 55, 56, 57, 58, 59, 60, 61, 62, 63, 64, 65] (by kernel_rfl) (fun _ => Below.refl _ _) (fun _ _ _ => Ext.then) (by kernel_rfl) (by kernel_rfl) ?_
                apply ex_is; apply Exists.intro
                apply ex_is; apply Exists.intro
                apply ex_is; apply Exists.intro
                apply ex_is; apply Exists.intro
                apply ex_is; apply Exists.intro
                apply ex_is; apply Exists.intro
                apply ex_is; apply Exists.intro
                apply ex_is; apply Exists.intro
                apply ex_is; apply Exists.intro
                apply ex_is; apply Exists.intro
                apply ex_is; apply Exists.intro
                apply ex_is; apply Exists.intro
                refine ⟨[], ⟨?steps, ?stab, ?ends⟩⟩
                case steps =>
                  refine And.intro ?_ ?_
                  · intro a W hR hf ho K hK
                    replace hR := ext_drew hR
                    have G : a.tmps[8]?.getD undef = _ ∧ True := ho
                    obtain ⟨g8, -⟩ := G
                    clear ho hf
                    go_simp
                    exact hK _ _ (Below.refl _ _) (Eq.refl _)
                  refine And.intro ?_ ?_
                  · intro a W hR hf ho K hK
                    replace hR := ext_drew hR
                    have G : a.tmps[3]?.getD undef = _ ∧ True := ho
                    obtain ⟨g3, -⟩ := G
                    clear ho hf
                    go_simp
                    exact hK _ _ (Below.refl _ _) (Eq.refl _)
                  refine And.intro ?_ ?_
                  · intro a W hR hf ho K hK
                    replace hR := ext_drew hR
                    have F : a.tmps[55]?.getD undef = _ ∧ True := hf
                    obtain ⟨f1, -⟩ := F
                    clear ho hf
                    go_simp
                    exact hK _ _ (Below.refl _ _) (Eq.refl _)
                  refine And.intro ?_ ?_
                  · intro a W hR hf ho K hK
                    replace hR := ext_drew hR
                    have F : a.tmps[54]?.getD undef = _ ∧ a.tmps[56]?.getD undef = _ ∧ True := hf
                    obtain ⟨f0, f2, -⟩ := F
                    clear ho hf
                    go_simp
                    exact hK _ _ (Below.refl _ _) (Eq.refl _)
                  refine And.intro ?_ ?_
                  · intro a W hR hf ho K hK
                    replace hR := ext_drew hR
                    have F : a.tmps[57]?.getD undef = _ ∧ True := hf
                    obtain ⟨f3, -⟩ := F
                    clear ho hf
                    go_simp
                    exact hK _ _ (Below.refl _ _) (Eq.refl _)
                  refine And.intro ?_ ?_
                  · intro a W hR hf ho K hK
                    replace hR := ext_drew hR
                    have G : a.tmps[3]?.getD undef = _ ∧ True := ho
                    obtain ⟨g3, -⟩ := G
                    have F : a.tmps[58]?.getD undef = _ ∧ True := hf
                    obtain ⟨f4, -⟩ := F
                    clear ho hf
                    go_simp
                    exact hK _ _ (Below.refl _ _) (Eq.refl _)
                  refine And.intro ?_ ?_
                  · intro a W hR hf ho K hK
                    replace hR := ext_drew hR
                    have G : a.tmps[8]?.getD undef = _ ∧ True := ho
                    obtain ⟨g8, -⟩ := G
                    have F : a.tmps[58]?.getD undef = _ ∧ True := hf
                    obtain ⟨f4, -⟩ := F
                    clear ho hf
                    go_simp
                    exact hK _ _ (Below.refl _ _) (Eq.refl _)
                  refine And.intro ?_ ?_
                  · intro a W hR hf ho K hK
                    replace hR := ext_drew hR
                    have F : a.tmps[59]?.getD undef = _ ∧ a.tmps[60]?.getD undef = _ ∧ a.tmps[58]?.getD undef = _ ∧ True := hf
                    obtain ⟨f5, f6, f4, -⟩ := F
                    clear ho hf
                    go_simp
                    exact hK _ _ (Below.refl _ _) (Eq.refl _)
                  refine And.intro ?_ ?_
                  · intro a W hR hf ho K hK
                    replace hR := ext_drew hR
                    have F : a.tmps[61]?.getD undef = _ ∧ a.tmps[58]?.getD undef = _ ∧ True := hf
                    obtain ⟨f7, f4, -⟩ := F
                    clear ho hf
                    go_simp
                    exact hK _ _ (Below.refl _ _) (Eq.refl _)
                  refine And.intro ?_ ?_
                  · intro a W hR hf ho K hK
                    replace hR := ext_drew hR
                    have G : a.tmps[5]?.getD undef = _ ∧ True := ho
                    obtain ⟨g5, -⟩ := G
                    have F : a.tmps[58]?.getD undef = _ ∧ True := hf
                    obtain ⟨f4, -⟩ := F
                    clear ho hf
                    go_simp
                    exact hK _ _ (Below.refl _ _) (Eq.refl _)
                  refine And.intro ?_ ?_
                  · intro a W hR hf ho K hK
                    replace hR := ext_drew hR
                    have F : a.tmps[62]?.getD undef = _ ∧ a.tmps[63]?.getD undef = _ ∧ a.tmps[58]?.getD undef = _ ∧ a.tmps[58]?.getD undef = _ ∧ True := hf
                    obtain ⟨f8, f9, f4, -, -⟩ := F
                    clear ho hf
                    go_simp
                    exact hK _ _ (Below.refl _ _) (Eq.refl _)
                  refine And.intro ?_ ?_
                  · intro a W hR hf ho K hK
                    replace hR := ext_drew hR
                    have F : a.tmps[58]?.getD undef = _ ∧ a.tmps[64]?.getD undef = _ ∧ True := hf
                    obtain ⟨f4, f10, -⟩ := F
                    clear ho hf
                    go_simp
                    exact hK _ _ (Below.refl _ _) (Eq.refl _)
                  exact trivial
                case stab =>
                  refine And.intro is_stable ?_
                  refine And.intro is_stable ?_
                  refine And.intro is_stable ?_
                  refine And.intro is_stable ?_
                  refine And.intro is_stable ?_
                  refine And.intro is_stable ?_
                  refine And.intro is_stable ?_
                  refine And.intro is_stable ?_
                  refine And.intro is_stable ?_
                  refine And.intro is_stable ?_
                  refine And.intro is_stable ?_
                  refine And.intro is_stable ?_
                  exact trivial
                case ends =>
                  intro vals W hR hall
                  replace hR := ext_drew hR
                  have e65 : vals 65 = _ := hall 11 (by decide)
                  clear hall
                  simp only [fill, List.setIfInBounds_toArray, List.set_cons_succ, List.set_cons_zero, e65]
                  rename World => V3
                  have E3 : Hid (Ext V V3) := Lib.hid (hE2.out.then hR)
                  have HBX := Lib.hid (ext_at' (hE2.out.then hR) HBV.out)
                  have HA3 := Lib.hid ((arrOwn HOWN.out).ext (EV.out.then (hE2.out.then hR)))
                  have hsz3 : Hid (w.heap.size ≤ V3.heap.size) := Lib.hid (hQ.out.2.then (EV.out.then E3.out)).size
                  clear hR
                  go_wp2_with fail
                  refine wp_region_res (fun x y => Ext V3 x → Ext V3 y) [⟨some 0, [(0, [])], [4]⟩, ⟨some 4, [(4, [])], [7]⟩, ⟨some 6, [(6, [])], [7]⟩, ⟨some 7, [(7, [])], [11]⟩, ⟨some 11, [(11, [])], [12]⟩, ⟨some 12, [(12, [])], []⟩] [(fun (u : Nat → Value) (W : World) => (fun (v : Value) (W : World) => ∃ r, v = .slice (some ⟨r, 0, none⟩) 0 0 ∧ V3.heap.size ≤ r ∧ W.heap[r]? = some (.cells #[] 24)) (u 0) W), (fun (u : Nat → Value) (W : World) => (fun (v : Value) (W : World) => W.ownsRow V3.heap.size 24 6 v 0 (capCells [])) (u 4) W), (fun (u : Nat → Value) (W : World) => (NewLit 0 1 (capCells [c]) 24) (u 6) W), (fun (u : Nat → Value) (W : World) => (fun (v : Value) (W : World) => W.ownsRow V3.heap.size 24 6 v (0 + 1) (capCells [] ++ capCells [c])) (u 7) W), (fun (u : Nat → Value) (W : World) => (fun (v : Value) (W : World) => W.ownsRow V3.heap.size 24 6 v (0 + 1 + (0)) ((capCells [] ++ capCells [c]) ++ capCells [])) (u 11) W), (fun (u : Nat → Value) (W : World) => (fun (v : Value) (W : World) => W.ownsRow V3.heap.size 24 6 v (0 + 1 + (0)) ((capCells [] ++ capCells [c]) ++ capCells [])) (u 12) W)] [⟨[], [.last, .early [0], .keep, .early [4, 0], .early [7, 4, 0], .early [0]]⟩, ⟨[], [.keep, .early [3, 1], .keep, .early [4, 3, 1], .early [7, 4, 3, 1], .early [1]]⟩, ⟨[], [.keep, .early [3, 2], .keep, .early [4, 3, 2], .early [7, 4, 3, 2], .early [2]]⟩, ⟨[], [.keep, .early [3], .keep, .early [4, 3], .early [7, 4, 3], .early [3]]⟩, ⟨[(0, [0])], [.late [[]], .last, .keep, .early [4], .early [7, 4], .early [4]]⟩, ⟨[], [.keep, .keep, .early [5], .early [6, 5], .early [7, 6, 5], .early [5]]⟩, ⟨[], [.keep, .keep, .last, .early [6], .early [7, 6], .early [6]]⟩, ⟨[(1, [4]), (2, [6])], [.late [[4]], .late [[]], .late [[]], .last, .early [7], .early [7]]⟩, ⟨[], [.keep, .keep, .keep, .keep, .early [10, 8], .early [8]]⟩, ⟨[], [.keep, .keep, .keep, .keep, .early [10, 9], .early [9]]⟩, ⟨[], [.keep, .keep, .keep, .keep, .early [10], .early [10]]⟩, ⟨[(3, [7])], [.late [[7, 4]], .late [[7]], .late [[7]], .late [[]], .last, .early [11]]⟩, ⟨[(4, [11])], [.late [[4]], .late [[7]], .late [[7]], .late [[11]], .late [[]], .last]⟩] [68, 69, 70, 71, 72, 73, 74, 75, 76, 77, 78, 79, 3] (by kernel_rfl) (fun _ k => k) (fun _ _ _ h k e => k (h e)) (by kernel_rfl) (by kernel_rfl) (by kernel_rfl) (by kernel_rfl) (by kernel_rfl) ?start ?_
                  case start =>
                    exact trivial
                  refine ex_phi (fun _ _ => True) ?_
                  apply ex_is; apply Exists.intro
                  apply ex_is; apply Exists.intro
                  apply ex_is; apply Exists.intro
                  refine ex_phi (fun _ _ => True) ?_
                  apply ex_is; apply Exists.intro
                  refine ex_phi (fun _ _ => True) ?_
                  refine ex_phi (fun _ _ => True) ?_
                  apply ex_is; apply Exists.intro
                  apply ex_is; apply Exists.intro
                  apply ex_is; apply Exists.intro
                  refine ex_phi (fun _ _ => True) ?_
                  refine ex_phi (fun _ _ => True) ?_
                  refine ⟨[], ⟨?steps, ?stab, ?ends⟩⟩
                  case steps =>
                    refine And.intro (obX_eff (Ext) (fun _ _ h k => k.then h) (And.intro (fun _ _ _ h e => h.ext e) (trivial)) ?_) ?_
                    · intro act W hR hf ho hu K hK
                      replace hK := fun v (w' : World) (h1 : (Ext) W w') (b0 : (fun (v : Value) (W : World) => ∃ r, v = .slice (some ⟨r, 0, none⟩) 0 0 ∧ V3.heap.size ≤ r ∧ W.heap[r]? = some (.cells #[] 24)) (v) w') => hK v w' h1 trivial ⟨b0, trivial⟩
                      clear ho hf hu
                      go_simp
                      exact hK _ _ (by repeat first | (with_reducible exact Below.refl _ _) | (with_reducible apply Ext.alloc) | (with_reducible apply Ext.drew) | (with_reducible apply Ext.drewN) | (with_reducible refine Ext.set ?_ (by simp))) ⟨_, rfl, (hR (Ext.drew (Below.refl _ _))).size, heap_alloc_new W _⟩
                    refine And.intro (obX_pure (fun _ k => k) ?_) ?_
                    · intro act W hR hf ho hu K hK
                      replace hK := fun v h2 => hK v W rfl h2 trivial
                      have G : act.tmps[3]?.getD undef = _ ∧ True := ho
                      obtain ⟨g3, -⟩ := G
                      clear ho hf hu
                      go_simp
                      exact hK _ (Eq.refl _)
                    refine And.intro (obX_pure (fun _ k => k) ?_) ?_
                    · intro act W hR hf ho hu K hK
                      replace hK := fun v h2 => hK v W rfl h2 trivial
                      have G : act.tmps[8]?.getD undef = _ ∧ True := ho
                      obtain ⟨g8, -⟩ := G
                      clear ho hf hu
                      go_simp
                      exact hK _ (Eq.refl _)
                    refine And.intro (obX_pure (fun _ k => k) ?_) ?_
                    · intro act W hR hf ho hu K hK
                      replace hK := fun v h2 => hK v W rfl h2 trivial
                      have F : act.tmps[69]?.getD undef = _ ∧ act.tmps[70]?.getD undef = _ ∧ True := hf
                      obtain ⟨f1, f2, -⟩ := F
                      clear ho hf hu
                      go_simp
                      exact hK _ (Eq.refl _)
                    refine And.intro (obX_eff (fun x y => ∃ r, V3.heap.size ≤ r ∧ x.heap[r]? = some (.cells #[] 24) ∧ World.grownBy x y (some r)) (fun _ _ h k => by obtain ⟨r, h1, -, h3⟩ := h; exact ext_grown' k h3 h1) (And.intro (fun _ _ _ h e => lit_grown h e) (trivial)) ?_) ?_
                    · intro act W hR hf ho hu K hK
                      replace hK := fun v (w' : World) (h1 : (fun x y => ∃ r, V3.heap.size ≤ r ∧ x.heap[r]? = some (.cells #[] 24) ∧ World.grownBy x y (some r)) W w') (b1 : (fun (v : Value) (W : World) => W.ownsRow V3.heap.size 24 6 v 0 (capCells [])) (v) w') => hK v w' h1 trivial ⟨b1, trivial⟩
                      have F : (fun _ _ => True) (act.tmps[68]?.getD undef) W ∧ act.tmps[71]?.getD undef = _ ∧ True := hf
                      obtain ⟨-, f3, -⟩ := F
                      have U : (fun (v : Value) (W : World) => ∃ r, v = .slice (some ⟨r, 0, none⟩) 0 0 ∧ V3.heap.size ≤ r ∧ W.heap[r]? = some (.cells #[] 24)) (act.tmps[68]?.getD undef) W ∧ True := hu
                      obtain ⟨r_r0, -⟩ := U
                      generalize f0 : act.tmps[68]?.getD undef = v0 at r_r0
                      clear ho hf hu
                      obtain ⟨r0, rfl, hr0, hr1⟩ := r_r0
                      dsimp only [Option.elim] at f3
                      rw [← seen_eq]; refine step_append_src W rfl (.tmp 68) (.tmp 71) 22 rfl V3.heap.size 24 ci (.agg #[.bool false, .int .i64 0, .int .i64 0, .int .i64 0, .int .i64 0, .int .i64 0]) 6 48 Try.underlying22 hci hci0 hci1 hci2 rfl (by decide) _ _ _ (eval_get f0) (own_empty hr0 hr1) _ (0) (capCells []) (eval_get f3) ((.inl ⟨rfl, rfl, rfl⟩ : Lies 0 W (.slice none 0 0) 0 (capCells []))) (by rw [capCells_len]; rfl) (capCells_one _) (by unfold maxLen; omega) (by omega) (hR (Ext.drew (Below.refl _ _))).size ?_; intro v' w' ho' hg' _; exact hK _ _ ⟨r0, hr0, hr1, hg'⟩ (by simpa using ho')
                    refine And.intro (obX_pure (fun _ k => k) ?_) ?_
                    · intro act W hR hf ho hu K hK
                      replace hK := fun v h2 => hK v W rfl h2 trivial
                      have G : act.tmps[5]?.getD undef = _ ∧ True := ho
                      obtain ⟨g5, -⟩ := G
                      clear ho hf hu
                      obtain ⟨z0, z1, z2, z3, z4, z5⟩ := lie6' HBX.out (hR (Ext.drew (Below.refl _ _)))
                      go_simp
                      exact hK _ (Eq.refl _)
                    refine And.intro (obX_eff (Ext) (fun _ _ h k => k.then h) (And.intro (fun _ _ _ h e => by obtain ⟨r, h1, h2, h3⟩ := h; exact ⟨r, h1, h2, ext_at' e h3⟩) (And.intro (fun _ _ _ h e => own_ext h e) (trivial))) ?_) ?_
                    · intro act W hR hf ho hu K hK
                      replace hK := fun v (w' : World) (h1 : (Ext) W w') (b2 : (NewLit 0 1 (capCells [c]) 24) (v) w') => hK v w' h1 trivial ⟨b2, trivial⟩
                      have F : act.tmps[73]?.getD undef = _ ∧ True := hf
                      obtain ⟨f5, -⟩ := F
                      clear ho hf hu
                      go_simp
                      exact hK _ _ (by repeat first | (with_reducible exact Below.refl _ _) | (with_reducible apply Ext.alloc) | (with_reducible apply Ext.drew) | (with_reducible apply Ext.drewN) | (with_reducible refine Ext.set ?_ (by simp))) (NewLit.new (Nat.zero_le _))
                    refine And.intro (obX_eff (Only V3.heap.size [24]) (fun _ _ h k => Only.below k (Nat.le_refl _) h) (trivial) ?_) ?_
                    · intro act W hR hf ho hu K hK
                      replace hK := fun v (w' : World) (h1 : (Only V3.heap.size [24]) W w') (b3 : (fun (v : Value) (W : World) => W.ownsRow V3.heap.size 24 6 v (0 + 1) (capCells [] ++ capCells [c])) (v) w') => hK v w' h1 trivial ⟨b3, trivial⟩
                      have F : (fun _ _ => True) (act.tmps[72]?.getD undef) W ∧ (fun _ _ => True) (act.tmps[74]?.getD undef) W ∧ (fun _ _ => True) (act.tmps[72]?.getD undef) W ∧ True := hf
                      obtain ⟨-, -, -, -⟩ := F
                      have U : (fun (v : Value) (W : World) => W.ownsRow V3.heap.size 24 6 v 0 (capCells [])) (act.tmps[72]?.getD undef) W ∧ (NewLit 0 1 (capCells [c]) 24) (act.tmps[74]?.getD undef) W ∧ True := hu
                      obtain ⟨r_r4, r_n6, -⟩ := U
                      generalize f4 : act.tmps[72]?.getD undef = v4 at r_r4
                      generalize f6 : act.tmps[74]?.getD undef = v6 at r_n6
                      clear ho hf hu
                      obtain ⟨b6, rfl, -, hl6⟩ := r_n6
                      rw [← seen_eq]; refine step_append_src W rfl (.tmp 72) (.tmp 74) 22 rfl V3.heap.size 24 ci (.agg #[.bool false, .int .i64 0, .int .i64 0, .int .i64 0, .int .i64 0, .int .i64 0]) 6 48 Try.underlying22 hci hci0 hci1 hci2 rfl (by decide) _ _ _ (eval_get f4) r_r4 _ (1) (capCells [c]) (eval_get f6) (lies_lit hl6) (rfl) (capCells_one _) (by unfold maxLen; omega) (by omega) (hR (Ext.drew (Below.refl _ _))).size ?_; intro v' w' ho' hg' _; exact hK _ _ (Only.grown r_r4 hg' (by simp)) (ho')
                    refine And.intro (obX_pure (fun _ k => k) ?_) ?_
                    · intro act W hR hf ho hu K hK
                      replace hK := fun v h2 => hK v W rfl h2 trivial
                      have G : act.tmps[3]?.getD undef = _ ∧ True := ho
                      obtain ⟨g3, -⟩ := G
                      clear ho hf hu
                      go_simp
                      exact hK _ (Eq.refl _)
                    refine And.intro (obX_pure (fun _ k => k) ?_) ?_
                    · intro act W hR hf ho hu K hK
                      replace hK := fun v h2 => hK v W rfl h2 trivial
                      have G : act.tmps[8]?.getD undef = _ ∧ True := ho
                      obtain ⟨g8, -⟩ := G
                      clear ho hf hu
                      go_simp
                      exact hK _ (Eq.refl _)
                    refine And.intro (obX_pure (fun _ k => k) ?_) ?_
                    · intro act W hR hf ho hu K hK
                      replace hK := fun v h2 => hK v W rfl h2 trivial
                      have F : act.tmps[76]?.getD undef = _ ∧ act.tmps[77]?.getD undef = _ ∧ True := hf
                      obtain ⟨f8, f9, -⟩ := F
                      clear ho hf hu
                      go_simp
                      exact hK _ (Eq.refl _)
                    refine And.intro (obX_eff (Only V3.heap.size [24]) (fun _ _ h k => Only.below k (Nat.le_refl _) h) (trivial) ?_) ?_
                    · intro act W hR hf ho hu K hK
                      replace hK := fun v (w' : World) (h1 : (Only V3.heap.size [24]) W w') (b4 : (fun (v : Value) (W : World) => W.ownsRow V3.heap.size 24 6 v (0 + 1 + (0)) ((capCells [] ++ capCells [c]) ++ capCells [])) (v) w') => hK v w' h1 trivial ⟨b4, trivial⟩
                      have F : (fun _ _ => True) (act.tmps[75]?.getD undef) W ∧ act.tmps[78]?.getD undef = _ ∧ (fun _ _ => True) (act.tmps[75]?.getD undef) W ∧ True := hf
                      obtain ⟨-, f10, -, -⟩ := F
                      have U : (fun (v : Value) (W : World) => W.ownsRow V3.heap.size 24 6 v (0 + 1) (capCells [] ++ capCells [c])) (act.tmps[75]?.getD undef) W ∧ True := hu
                      obtain ⟨r_r7, -⟩ := U
                      generalize f7 : act.tmps[75]?.getD undef = v7 at r_r7
                      clear ho hf hu
                      dsimp only [Option.elim] at f10
                      rw [← seen_eq]; refine step_append_src W rfl (.tmp 75) (.tmp 78) 22 rfl V3.heap.size 24 ci (.agg #[.bool false, .int .i64 0, .int .i64 0, .int .i64 0, .int .i64 0, .int .i64 0]) 6 48 Try.underlying22 hci hci0 hci1 hci2 rfl (by decide) _ _ _ (eval_get f7) r_r7 _ (0) (capCells []) (eval_get f10) ((.inl ⟨rfl, rfl, rfl⟩ : Lies 0 W (.slice none 0 0) 0 (capCells []))) (by rw [capCells_len]; rfl) (capCells_one _) (by unfold maxLen; omega) (by omega) (hR (Ext.drew (Below.refl _ _))).size ?_; intro v' w' ho' hg' _; exact hK _ _ (Only.grown r_r7 hg' (by simp)) (ho')
                    refine And.intro (obX_pure (fun _ k => k) ?_) ?_
                    · intro act W hR hf ho hu K hK
                      replace hK := fun v (b5 : (fun (v : Value) (W : World) => W.ownsRow V3.heap.size 24 6 v (0 + 1 + (0)) ((capCells [] ++ capCells [c]) ++ capCells [])) (v) W) => hK v W rfl trivial ⟨b5, trivial⟩
                      have F : (fun _ _ => True) (act.tmps[79]?.getD undef) W ∧ (fun _ _ => True) (act.tmps[79]?.getD undef) W ∧ (fun _ _ => True) (act.tmps[68]?.getD undef) W ∧ act.tmps[69]?.getD undef = _ ∧ act.tmps[70]?.getD undef = _ ∧ act.tmps[71]?.getD undef = _ ∧ (fun _ _ => True) (act.tmps[72]?.getD undef) W ∧ act.tmps[73]?.getD undef = _ ∧ (fun _ _ => True) (act.tmps[74]?.getD undef) W ∧ (fun _ _ => True) (act.tmps[75]?.getD undef) W ∧ act.tmps[76]?.getD undef = _ ∧ act.tmps[77]?.getD undef = _ ∧ act.tmps[78]?.getD undef = _ ∧ (fun _ _ => True) (act.tmps[79]?.getD undef) W ∧ True := hf
                      obtain ⟨-, -, -, f1, f2, f3, -, f5, -, -, f8, f9, f10, -, -⟩ := F
                      have U : (fun (v : Value) (W : World) => W.ownsRow V3.heap.size 24 6 v (0 + 1 + (0)) ((capCells [] ++ capCells [c]) ++ capCells [])) (act.tmps[79]?.getD undef) W ∧ True := hu
                      obtain ⟨r_r11, -⟩ := U
                      generalize f11 : act.tmps[79]?.getD undef = v11 at r_r11
                      generalize f0 : act.tmps[68]?.getD undef = v0
                      generalize f4 : act.tmps[72]?.getD undef = v4
                      generalize f6 : act.tmps[74]?.getD undef = v6
                      generalize f7 : act.tmps[75]?.getD undef = v7
                      clear ho hf hu
                      go_simp
                      exact hK _ r_r11
                    exact trivial
                  case stab =>
                    refine And.intro (fun _ _ _ h _ => h) ?_
                    refine And.intro is_stable ?_
                    refine And.intro is_stable ?_
                    refine And.intro is_stable ?_
                    refine And.intro (fun _ _ _ h _ => h) ?_
                    refine And.intro is_stable ?_
                    refine And.intro (fun _ _ _ h _ => h) ?_
                    refine And.intro (fun _ _ _ h _ => h) ?_
                    refine And.intro is_stable ?_
                    refine And.intro is_stable ?_
                    refine And.intro is_stable ?_
                    refine And.intro (fun _ _ _ h _ => h) ?_
                    refine And.intro (fun _ _ _ h _ => h) ?_
                    exact trivial
                  case ends =>
                    intro vals W hR hE hall
                    have E : (fun (v : Value) (W : World) => W.ownsRow V3.heap.size 24 6 v (0 + 1 + (0)) ((capCells [] ++ capCells [c]) ++ capCells [])) (vals 3) W ∧ True := hE
                    obtain ⟨e_r12, -⟩ := E
                    clear hE
                    clear hall
                    generalize ev3 : vals 3 = x3 at e_r12
                    simp only [fill, List.setIfInBounds_toArray, List.set_cons_succ, List.set_cons_zero, ev3]
                    have E4 : Hid (Ext V3 W) := Lib.hid (hR (Ext.drew (Below.refl _ _)))
                    have HN4 := Lib.hid e_r12
                    clear hR e_r12
                    go_wp2_with fail
                    refine ⟨⟨k + 1, by omega, by simp, Lib.hid ⟨?_, hQ.out.2.then (EV.out.then (E3.out.then E4.out))⟩⟩, by simp [intOf]; omega⟩
                    rw [HN.out, HIC.out]
                    refine ownLow ?_ hsz3.out
                    have hlen : (([] : List Cap).take 0 ++ (c :: ([] : List Cap).drop 0)).length = 0 + 1 + (0) := by first | (simp; done) | (simp; omega)
                    have hcells : capCells (([] : List Cap).take 0 ++ (c :: ([] : List Cap).drop 0)) = (capCells [] ++ capCells [c]) ++ capCells [] := by
                      rw [capCells_app, List.append_assoc]
                      simp
                    rw [hlen, hcells]
                    exact HN4.out
            · simp only [Value.slice.injEq, true_and] at hn1
              obtain ⟨rfl, rfl⟩ := hn1
              have hac : at_ ≤ cg := by omega
              have hcr : Hid (at_ < T.length → ¬ cg = at_) := Lib.hid fun h => by omega
              go_loopw [8] (fun i wx => ∃ a : Nat, a ≤ at_ ∧ i = .int .i64 (a : Int) ∧ Hid (Ext V wx)) (fun i _ => at_ + 1 - (intOf i).toNat)
              case atStart => exact ⟨0, Nat.zero_le _, rfl, Lib.hid hE.out⟩
              case round =>
                obtain ⟨a, ha, rfl, hE2⟩ := hrel
                have ht13 := HTW.out a
                rw [← HIA.out] at ht13
                by_cases h1 : a < at_
                · obtain ⟨ha2, hp⟩ := ht13.1 h1
                  obtain ⟨b3, o3, e3, -, x0, x1, x2, x3, x4, x5⟩ := cap_row ((arrOwn HOWN.out).ext (EV.out.then hE2.out)) ha2
                  simp only [Option.some.injEq, Addr.mk.injEq, and_true] at e3
                  obtain ⟨rfl, rfl⟩ := e3
                  simp only [Nat.zero_add] at x0 x1 x2 x3 x4 x5
                  clear ht13
                  have HL := Lib.hid (fun w => lessR_any T[a] c w)
                  rw [hp] at HL
                  obtain ⟨y, hy⟩ : ∃ y, y = T[a] := ⟨_, rfl⟩
                  rw [← hy] at x0 x1 x2 x3 x4 x5 HL
                  have HX := Lib.hid (And.intro x0 (And.intro x1 (And.intro x2 (And.intro x3 (And.intro x4 x5)))))
                  clear hy hp x0 x1 x2 x3 x4 x5
                  go_wp2_with fail
                  refine wp_region_obl Ext [54, 55, 56, 57, 58, 59, 60, 61, 62, 63, 64, 65] (by kernel_rfl) (fun _ => Below.refl _ _) (fun _ _ _ => Ext.then) (by kernel_rfl) (by kernel_rfl) ?_
                  apply ex_is; apply Exists.intro
                  apply ex_is; apply Exists.intro
                  apply ex_is; apply Exists.intro
                  apply ex_is; apply Exists.intro
                  apply ex_is; apply Exists.intro
                  apply ex_is; apply Exists.intro
                  apply ex_is; apply Exists.intro
                  apply ex_is; apply Exists.intro
                  apply ex_is; apply Exists.intro
                  apply ex_is; apply Exists.intro
                  apply ex_is; apply Exists.intro
                  apply ex_is; apply Exists.intro
                  refine ⟨[], ⟨?steps, ?stab, ?ends⟩⟩
                  case steps =>
                    refine And.intro ?_ ?_
                    · intro a W hR hf ho K hK
                      replace hR := ext_drew hR
                      have G : a.tmps[8]?.getD undef = _ ∧ True := ho
                      obtain ⟨g8, -⟩ := G
                      clear ho hf
                      go_simp
                      exact hK _ _ (Below.refl _ _) (Eq.refl _)
                    refine And.intro ?_ ?_
                    · intro a W hR hf ho K hK
                      replace hR := ext_drew hR
                      have G : a.tmps[3]?.getD undef = _ ∧ True := ho
                      obtain ⟨g3, -⟩ := G
                      clear ho hf
                      go_simp
                      exact hK _ _ (Below.refl _ _) (Eq.refl _)
                    refine And.intro ?_ ?_
                    · intro a W hR hf ho K hK
                      replace hR := ext_drew hR
                      have F : a.tmps[55]?.getD undef = _ ∧ True := hf
                      obtain ⟨f1, -⟩ := F
                      clear ho hf
                      go_simp
                      exact hK _ _ (Below.refl _ _) (Eq.refl _)
                    refine And.intro ?_ ?_
                    · intro a W hR hf ho K hK
                      replace hR := ext_drew hR
                      have F : a.tmps[54]?.getD undef = _ ∧ a.tmps[56]?.getD undef = _ ∧ True := hf
                      obtain ⟨f0, f2, -⟩ := F
                      clear ho hf
                      go_simp
                      exact hK _ _ (Below.refl _ _) (Eq.refl _)
                    refine And.intro ?_ ?_
                    · intro a W hR hf ho K hK
                      replace hR := ext_drew hR
                      have F : a.tmps[57]?.getD undef = _ ∧ True := hf
                      obtain ⟨f3, -⟩ := F
                      clear ho hf
                      go_simp
                      exact hK _ _ (Below.refl _ _) (Eq.refl _)
                    refine And.intro ?_ ?_
                    · intro a W hR hf ho K hK
                      replace hR := ext_drew hR
                      have G : a.tmps[3]?.getD undef = _ ∧ True := ho
                      obtain ⟨g3, -⟩ := G
                      have F : a.tmps[58]?.getD undef = _ ∧ True := hf
                      obtain ⟨f4, -⟩ := F
                      clear ho hf
                      go_simp
                      exact hK _ _ (Below.refl _ _) (Eq.refl _)
                    refine And.intro ?_ ?_
                    · intro a W hR hf ho K hK
                      replace hR := ext_drew hR
                      have G : a.tmps[8]?.getD undef = _ ∧ True := ho
                      obtain ⟨g8, -⟩ := G
                      have F : a.tmps[58]?.getD undef = _ ∧ True := hf
                      obtain ⟨f4, -⟩ := F
                      clear ho hf
                      go_simp
                      exact hK _ _ (Below.refl _ _) (Eq.refl _)
                    refine And.intro ?_ ?_
                    · intro a W hR hf ho K hK
                      replace hR := ext_drew hR
                      have F : a.tmps[59]?.getD undef = _ ∧ a.tmps[60]?.getD undef = _ ∧ a.tmps[58]?.getD undef = _ ∧ True := hf
                      obtain ⟨f5, f6, f4, -⟩ := F
                      clear ho hf
                      go_simp
                      exact hK _ _ (Below.refl _ _) (Eq.refl _)
                    refine And.intro ?_ ?_
                    · intro a W hR hf ho K hK
                      replace hR := ext_drew hR
                      have F : a.tmps[61]?.getD undef = _ ∧ a.tmps[58]?.getD undef = _ ∧ True := hf
                      obtain ⟨f7, f4, -⟩ := F
                      clear ho hf
                      have x0 := ext_cell hR _ _ HX.out.1; have x1 := ext_cell hR _ _ HX.out.2.1; have x2 := ext_cell hR _ _ HX.out.2.2.1; have x3 := ext_cell hR _ _ HX.out.2.2.2.1; have x4 := ext_cell hR _ _ HX.out.2.2.2.2.1; have x5 := ext_cell hR _ _ HX.out.2.2.2.2.2
                      go_simp
                      exact hK _ _ (Below.refl _ _) (Eq.refl _)
                    refine And.intro ?_ ?_
                    · intro a W hR hf ho K hK
                      replace hR := ext_drew hR
                      have G : a.tmps[5]?.getD undef = _ ∧ True := ho
                      obtain ⟨g5, -⟩ := G
                      have F : a.tmps[58]?.getD undef = _ ∧ True := hf
                      obtain ⟨f4, -⟩ := F
                      clear ho hf
                      obtain ⟨z0, z1, z2, z3, z4, z5⟩ := lie6' (ext_at' hE2.out HBV.out) hR
                      go_simp
                      exact hK _ _ (Below.refl _ _) (Eq.refl _)
                    refine And.intro ?_ ?_
                    · intro a W hR hf ho K hK
                      replace hR := ext_drew hR
                      have F : a.tmps[62]?.getD undef = _ ∧ a.tmps[63]?.getD undef = _ ∧ a.tmps[58]?.getD undef = _ ∧ a.tmps[58]?.getD undef = _ ∧ True := hf
                      obtain ⟨f8, f9, f4, -, -⟩ := F
                      clear ho hf
                      go_simp
                      refine (HL.out _).mono ?_; rintro _ W1 ⟨rfl, hE⟩; exact hK _ _ hE (Eq.refl _)
                    refine And.intro ?_ ?_
                    · intro a W hR hf ho K hK
                      replace hR := ext_drew hR
                      have F : a.tmps[58]?.getD undef = _ ∧ a.tmps[64]?.getD undef = _ ∧ True := hf
                      obtain ⟨f4, f10, -⟩ := F
                      clear ho hf
                      go_simp
                      exact hK _ _ (Below.refl _ _) (Eq.refl _)
                    exact trivial
                  case stab =>
                    refine And.intro is_stable ?_
                    refine And.intro is_stable ?_
                    refine And.intro is_stable ?_
                    refine And.intro is_stable ?_
                    refine And.intro is_stable ?_
                    refine And.intro is_stable ?_
                    refine And.intro is_stable ?_
                    refine And.intro is_stable ?_
                    refine And.intro is_stable ?_
                    refine And.intro is_stable ?_
                    refine And.intro is_stable ?_
                    refine And.intro is_stable ?_
                    exact trivial
                  case ends =>
                    intro vals W hR hall
                    replace hR := ext_drew hR
                    have e65 : vals 65 = _ := hall 11 (by decide)
                    clear hall
                    simp only [fill, List.setIfInBounds_toArray, List.set_cons_succ, List.set_cons_zero, e65]
                    have ER := Lib.hid (hE2.out.then hR)
                    clear hR
                    go_wp2_with fail
                    exact ⟨⟨a + 1, h1, by simp, Lib.hid ER.out⟩, by simp [intOf]; omega⟩
                · obtain rfl : a = at_ := by omega
                  by_cases h2 : a < T.length
                  · have hp := ht13.2 rfl h2
                    obtain ⟨b3, o3, e3, -, x0, x1, x2, x3, x4, x5⟩ := cap_row ((arrOwn HOWN.out).ext (EV.out.then hE2.out)) h2
                    simp only [Option.some.injEq, Addr.mk.injEq, and_true] at e3
                    obtain ⟨rfl, rfl⟩ := e3
                    simp only [Nat.zero_add] at x0 x1 x2 x3 x4 x5
                    clear ht13
                    have HL := Lib.hid (fun w => lessR_any T[a] c w)
                    rw [hp] at HL
                    obtain ⟨y, hy⟩ : ∃ y, y = T[a] := ⟨_, rfl⟩
                    rw [← hy] at x0 x1 x2 x3 x4 x5 HL
                    have HX := Lib.hid (And.intro x0 (And.intro x1 (And.intro x2 (And.intro x3 (And.intro x4 x5)))))
                    clear hy hp x0 x1 x2 x3 x4 x5
                    go_wp2_with fail
                    refine wp_region_obl Ext [54, 55, 56, 57, 58, 59, 60, 61, 62, 63, 64, 65] (by kernel_rfl) (fun _ => Below.refl _ _) (fun _ _ _ => Ext.then) (by kernel_rfl) (by kernel_rfl) ?_
                    apply ex_is; apply Exists.intro
                    apply ex_is; apply Exists.intro
                    apply ex_is; apply Exists.intro
                    apply ex_is; apply Exists.intro
                    apply ex_is; apply Exists.intro
                    apply ex_is; apply Exists.intro
                    apply ex_is; apply Exists.intro
                    apply ex_is; apply Exists.intro
                    apply ex_is; apply Exists.intro
                    apply ex_is; apply Exists.intro
                    apply ex_is; apply Exists.intro
                    apply ex_is; apply Exists.intro
                    refine ⟨[], ⟨?steps, ?stab, ?ends⟩⟩
                    case steps =>
                      refine And.intro ?_ ?_
                      · intro a W hR hf ho K hK
                        replace hR := ext_drew hR
                        have G : a.tmps[8]?.getD undef = _ ∧ True := ho
                        obtain ⟨g8, -⟩ := G
                        clear ho hf
                        go_simp
                        exact hK _ _ (Below.refl _ _) (Eq.refl _)
                      refine And.intro ?_ ?_
                      · intro a W hR hf ho K hK
                        replace hR := ext_drew hR
                        have G : a.tmps[3]?.getD undef = _ ∧ True := ho
                        obtain ⟨g3, -⟩ := G
                        clear ho hf
                        go_simp
                        exact hK _ _ (Below.refl _ _) (Eq.refl _)
                      refine And.intro ?_ ?_
                      · intro a W hR hf ho K hK
                        replace hR := ext_drew hR
                        have F : a.tmps[55]?.getD undef = _ ∧ True := hf
                        obtain ⟨f1, -⟩ := F
                        clear ho hf
                        go_simp
                        exact hK _ _ (Below.refl _ _) (Eq.refl _)
                      refine And.intro ?_ ?_
                      · intro a W hR hf ho K hK
                        replace hR := ext_drew hR
                        have F : a.tmps[54]?.getD undef = _ ∧ a.tmps[56]?.getD undef = _ ∧ True := hf
                        obtain ⟨f0, f2, -⟩ := F
                        clear ho hf
                        go_simp
                        exact hK _ _ (Below.refl _ _) (Eq.refl _)
                      refine And.intro ?_ ?_
                      · intro a W hR hf ho K hK
                        replace hR := ext_drew hR
                        have F : a.tmps[57]?.getD undef = _ ∧ True := hf
                        obtain ⟨f3, -⟩ := F
                        clear ho hf
                        go_simp
                        exact hK _ _ (Below.refl _ _) (Eq.refl _)
                      refine And.intro ?_ ?_
                      · intro a W hR hf ho K hK
                        replace hR := ext_drew hR
                        have G : a.tmps[3]?.getD undef = _ ∧ True := ho
                        obtain ⟨g3, -⟩ := G
                        have F : a.tmps[58]?.getD undef = _ ∧ True := hf
                        obtain ⟨f4, -⟩ := F
                        clear ho hf
                        go_simp
                        exact hK _ _ (Below.refl _ _) (Eq.refl _)
                      refine And.intro ?_ ?_
                      · intro a W hR hf ho K hK
                        replace hR := ext_drew hR
                        have G : a.tmps[8]?.getD undef = _ ∧ True := ho
                        obtain ⟨g8, -⟩ := G
                        have F : a.tmps[58]?.getD undef = _ ∧ True := hf
                        obtain ⟨f4, -⟩ := F
                        clear ho hf
                        go_simp
                        exact hK _ _ (Below.refl _ _) (Eq.refl _)
                      refine And.intro ?_ ?_
                      · intro a W hR hf ho K hK
                        replace hR := ext_drew hR
                        have F : a.tmps[59]?.getD undef = _ ∧ a.tmps[60]?.getD undef = _ ∧ a.tmps[58]?.getD undef = _ ∧ True := hf
                        obtain ⟨f5, f6, f4, -⟩ := F
                        clear ho hf
                        go_simp
                        exact hK _ _ (Below.refl _ _) (Eq.refl _)
                      refine And.intro ?_ ?_
                      · intro a W hR hf ho K hK
                        replace hR := ext_drew hR
                        have F : a.tmps[61]?.getD undef = _ ∧ a.tmps[58]?.getD undef = _ ∧ True := hf
                        obtain ⟨f7, f4, -⟩ := F
                        clear ho hf
                        have x0 := ext_cell hR _ _ HX.out.1; have x1 := ext_cell hR _ _ HX.out.2.1; have x2 := ext_cell hR _ _ HX.out.2.2.1; have x3 := ext_cell hR _ _ HX.out.2.2.2.1; have x4 := ext_cell hR _ _ HX.out.2.2.2.2.1; have x5 := ext_cell hR _ _ HX.out.2.2.2.2.2
                        go_simp
                        exact hK _ _ (Below.refl _ _) (Eq.refl _)
                      refine And.intro ?_ ?_
                      · intro a W hR hf ho K hK
                        replace hR := ext_drew hR
                        have G : a.tmps[5]?.getD undef = _ ∧ True := ho
                        obtain ⟨g5, -⟩ := G
                        have F : a.tmps[58]?.getD undef = _ ∧ True := hf
                        obtain ⟨f4, -⟩ := F
                        clear ho hf
                        obtain ⟨z0, z1, z2, z3, z4, z5⟩ := lie6' (ext_at' hE2.out HBV.out) hR
                        go_simp
                        exact hK _ _ (Below.refl _ _) (Eq.refl _)
                      refine And.intro ?_ ?_
                      · intro a W hR hf ho K hK
                        replace hR := ext_drew hR
                        have F : a.tmps[62]?.getD undef = _ ∧ a.tmps[63]?.getD undef = _ ∧ a.tmps[58]?.getD undef = _ ∧ a.tmps[58]?.getD undef = _ ∧ True := hf
                        obtain ⟨f8, f9, f4, -, -⟩ := F
                        clear ho hf
                        go_simp
                        refine (HL.out _).mono ?_; rintro _ W1 ⟨rfl, hE⟩; exact hK _ _ hE (Eq.refl _)
                      refine And.intro ?_ ?_
                      · intro a W hR hf ho K hK
                        replace hR := ext_drew hR
                        have F : a.tmps[58]?.getD undef = _ ∧ a.tmps[64]?.getD undef = _ ∧ True := hf
                        obtain ⟨f4, f10, -⟩ := F
                        clear ho hf
                        go_simp
                        exact hK _ _ (Below.refl _ _) (Eq.refl _)
                      exact trivial
                    case stab =>
                      refine And.intro is_stable ?_
                      refine And.intro is_stable ?_
                      refine And.intro is_stable ?_
                      refine And.intro is_stable ?_
                      refine And.intro is_stable ?_
                      refine And.intro is_stable ?_
                      refine And.intro is_stable ?_
                      refine And.intro is_stable ?_
                      refine And.intro is_stable ?_
                      refine And.intro is_stable ?_
                      refine And.intro is_stable ?_
                      refine And.intro is_stable ?_
                      exact trivial
                    case ends =>
                      intro vals W hR hall
                      replace hR := ext_drew hR
                      have e65 : vals 65 = _ := hall 11 (by decide)
                      clear hall
                      simp only [fill, List.setIfInBounds_toArray, List.set_cons_succ, List.set_cons_zero, e65]
                      rename World => V3
                      have E3 : Hid (Ext V V3) := Lib.hid (hE2.out.then hR)
                      have HBX := Lib.hid (ext_at' (hE2.out.then hR) HBV.out)
                      have HA3 := Lib.hid ((arrOwn HOWN.out).ext (EV.out.then (hE2.out.then hR)))
                      have hsz3 : Hid (w.heap.size ≤ V3.heap.size) := Lib.hid (hQ.out.2.then (EV.out.then E3.out)).size
                      clear hR
                      go_wp2_with fail
                      refine wp_region_res (fun x y => Ext V3 x → Ext V3 y) [⟨some 0, [(0, [])], [4]⟩, ⟨some 4, [(4, [])], [7]⟩, ⟨some 6, [(6, [])], [7]⟩, ⟨some 7, [(7, [])], [11]⟩, ⟨some 11, [(11, [])], [12]⟩, ⟨some 12, [(12, [])], []⟩] [(fun (u : Nat → Value) (W : World) => (fun (v : Value) (W : World) => ∃ r, v = .slice (some ⟨r, 0, none⟩) 0 0 ∧ V3.heap.size ≤ r ∧ W.heap[r]? = some (.cells #[] 24)) (u 0) W), (fun (u : Nat → Value) (W : World) => (fun (v : Value) (W : World) => W.ownsRow V3.heap.size 24 6 v a (capCells (T.take a))) (u 4) W), (fun (u : Nat → Value) (W : World) => (NewLit 0 1 (capCells [c]) 24) (u 6) W), (fun (u : Nat → Value) (W : World) => (fun (v : Value) (W : World) => W.ownsRow V3.heap.size 24 6 v (a + 1) (capCells (T.take a) ++ capCells [c])) (u 7) W), (fun (u : Nat → Value) (W : World) => (fun (v : Value) (W : World) => W.ownsRow V3.heap.size 24 6 v (a + 1 + (T.length - a)) ((capCells (T.take a) ++ capCells [c]) ++ capCells (T.drop a))) (u 11) W), (fun (u : Nat → Value) (W : World) => (fun (v : Value) (W : World) => W.ownsRow V3.heap.size 24 6 v (a + 1 + (T.length - a)) ((capCells (T.take a) ++ capCells [c]) ++ capCells (T.drop a))) (u 12) W)] [⟨[], [.last, .early [0], .keep, .early [4, 0], .early [7, 4, 0], .early [0]]⟩, ⟨[], [.keep, .early [3, 1], .keep, .early [4, 3, 1], .early [7, 4, 3, 1], .early [1]]⟩, ⟨[], [.keep, .early [3, 2], .keep, .early [4, 3, 2], .early [7, 4, 3, 2], .early [2]]⟩, ⟨[], [.keep, .early [3], .keep, .early [4, 3], .early [7, 4, 3], .early [3]]⟩, ⟨[(0, [0])], [.late [[]], .last, .keep, .early [4], .early [7, 4], .early [4]]⟩, ⟨[], [.keep, .keep, .early [5], .early [6, 5], .early [7, 6, 5], .early [5]]⟩, ⟨[], [.keep, .keep, .last, .early [6], .early [7, 6], .early [6]]⟩, ⟨[(1, [4]), (2, [6])], [.late [[4]], .late [[]], .late [[]], .last, .early [7], .early [7]]⟩, ⟨[], [.keep, .keep, .keep, .keep, .early [10, 8], .early [8]]⟩, ⟨[], [.keep, .keep, .keep, .keep, .early [10, 9], .early [9]]⟩, ⟨[], [.keep, .keep, .keep, .keep, .early [10], .early [10]]⟩, ⟨[(3, [7])], [.late [[7, 4]], .late [[7]], .late [[7]], .late [[]], .last, .early [11]]⟩, ⟨[(4, [11])], [.late [[4]], .late [[7]], .late [[7]], .late [[11]], .late [[]], .last]⟩] [68, 69, 70, 71, 72, 73, 74, 75, 76, 77, 78, 79, 3] (by kernel_rfl) (fun _ k => k) (fun _ _ _ h k e => k (h e)) (by kernel_rfl) (by kernel_rfl) (by kernel_rfl) (by kernel_rfl) (by kernel_rfl) ?start ?_
                      case start =>
                        exact trivial
                      refine ex_phi (fun _ _ => True) ?_
                      apply ex_is; apply Exists.intro
                      apply ex_is; apply Exists.intro
                      apply ex_is; apply Exists.intro
                      refine ex_phi (fun _ _ => True) ?_
                      apply ex_is; apply Exists.intro
                      refine ex_phi (fun _ _ => True) ?_
                      refine ex_phi (fun _ _ => True) ?_
                      apply ex_is; apply Exists.intro
                      apply ex_is; apply Exists.intro
                      apply ex_is; apply Exists.intro
                      refine ex_phi (fun _ _ => True) ?_
                      refine ex_phi (fun _ _ => True) ?_
                      refine ⟨[], ⟨?steps, ?stab, ?ends⟩⟩
                      case steps =>
                        refine And.intro (obX_eff (Ext) (fun _ _ h k => k.then h) (And.intro (fun _ _ _ h e => h.ext e) (trivial)) ?_) ?_
                        · intro act W hR hf ho hu K hK
                          replace hK := fun v (w' : World) (h1 : (Ext) W w') (b0 : (fun (v : Value) (W : World) => ∃ r, v = .slice (some ⟨r, 0, none⟩) 0 0 ∧ V3.heap.size ≤ r ∧ W.heap[r]? = some (.cells #[] 24)) (v) w') => hK v w' h1 trivial ⟨b0, trivial⟩
                          clear ho hf hu
                          go_simp
                          exact hK _ _ (by repeat first | (with_reducible exact Below.refl _ _) | (with_reducible apply Ext.alloc) | (with_reducible apply Ext.drew) | (with_reducible apply Ext.drewN) | (with_reducible refine Ext.set ?_ (by simp))) ⟨_, rfl, (hR (Ext.drew (Below.refl _ _))).size, heap_alloc_new W _⟩
                        refine And.intro (obX_pure (fun _ k => k) ?_) ?_
                        · intro act W hR hf ho hu K hK
                          replace hK := fun v h2 => hK v W rfl h2 trivial
                          have G : act.tmps[3]?.getD undef = _ ∧ True := ho
                          obtain ⟨g3, -⟩ := G
                          clear ho hf hu
                          go_simp
                          exact hK _ (Eq.refl _)
                        refine And.intro (obX_pure (fun _ k => k) ?_) ?_
                        · intro act W hR hf ho hu K hK
                          replace hK := fun v h2 => hK v W rfl h2 trivial
                          have G : act.tmps[8]?.getD undef = _ ∧ True := ho
                          obtain ⟨g8, -⟩ := G
                          clear ho hf hu
                          go_simp
                          exact hK _ (Eq.refl _)
                        refine And.intro (obX_pure (fun _ k => k) ?_) ?_
                        · intro act W hR hf ho hu K hK
                          replace hK := fun v h2 => hK v W rfl h2 trivial
                          have F : act.tmps[69]?.getD undef = _ ∧ act.tmps[70]?.getD undef = _ ∧ True := hf
                          obtain ⟨f1, f2, -⟩ := F
                          clear ho hf hu
                          go_simp
                          exact hK _ (Eq.refl _)
                        refine And.intro (obX_eff (fun x y => ∃ r, V3.heap.size ≤ r ∧ x.heap[r]? = some (.cells #[] 24) ∧ World.grownBy x y (some r)) (fun _ _ h k => by obtain ⟨r, h1, -, h3⟩ := h; exact ext_grown' k h3 h1) (And.intro (fun _ _ _ h e => lit_grown h e) (trivial)) ?_) ?_
                        · intro act W hR hf ho hu K hK
                          replace hK := fun v (w' : World) (h1 : (fun x y => ∃ r, V3.heap.size ≤ r ∧ x.heap[r]? = some (.cells #[] 24) ∧ World.grownBy x y (some r)) W w') (b1 : (fun (v : Value) (W : World) => W.ownsRow V3.heap.size 24 6 v a (capCells (T.take a))) (v) w') => hK v w' h1 trivial ⟨b1, trivial⟩
                          have F : (fun _ _ => True) (act.tmps[68]?.getD undef) W ∧ act.tmps[71]?.getD undef = _ ∧ True := hf
                          obtain ⟨-, f3, -⟩ := F
                          have U : (fun (v : Value) (W : World) => ∃ r, v = .slice (some ⟨r, 0, none⟩) 0 0 ∧ V3.heap.size ≤ r ∧ W.heap[r]? = some (.cells #[] 24)) (act.tmps[68]?.getD undef) W ∧ True := hu
                          obtain ⟨r_r0, -⟩ := U
                          generalize f0 : act.tmps[68]?.getD undef = v0 at r_r0
                          clear ho hf hu
                          obtain ⟨r0, rfl, hr0, hr1⟩ := r_r0
                          dsimp only [Option.elim] at f3
                          rw [← seen_eq]; refine step_append_src W rfl (.tmp 68) (.tmp 71) 22 rfl V3.heap.size 24 ci (.agg #[.bool false, .int .i64 0, .int .i64 0, .int .i64 0, .int .i64 0, .int .i64 0]) 6 48 Try.underlying22 hci hci0 hci1 hci2 rfl (by decide) _ _ _ (eval_get f0) (own_empty hr0 hr1) _ (a) (capCells (T.take a)) (eval_get f3) ((lies_take6 HA3.out hta).ext (hR (Ext.drew (Below.refl _ _)))) (by rw [capCells_len, List.length_take]; omega) (capCells_one _) (by unfold maxLen; omega) (by omega) (hR (Ext.drew (Below.refl _ _))).size ?_; intro v' w' ho' hg' _; exact hK _ _ ⟨r0, hr0, hr1, hg'⟩ (by simpa using ho')
                        refine And.intro (obX_pure (fun _ k => k) ?_) ?_
                        · intro act W hR hf ho hu K hK
                          replace hK := fun v h2 => hK v W rfl h2 trivial
                          have G : act.tmps[5]?.getD undef = _ ∧ True := ho
                          obtain ⟨g5, -⟩ := G
                          clear ho hf hu
                          obtain ⟨z0, z1, z2, z3, z4, z5⟩ := lie6' HBX.out (hR (Ext.drew (Below.refl _ _)))
                          go_simp
                          exact hK _ (Eq.refl _)
                        refine And.intro (obX_eff (Ext) (fun _ _ h k => k.then h) (And.intro (fun _ _ _ h e => by obtain ⟨r, h1, h2, h3⟩ := h; exact ⟨r, h1, h2, ext_at' e h3⟩) (And.intro (fun _ _ _ h e => own_ext h e) (trivial))) ?_) ?_
                        · intro act W hR hf ho hu K hK
                          replace hK := fun v (w' : World) (h1 : (Ext) W w') (b2 : (NewLit 0 1 (capCells [c]) 24) (v) w') => hK v w' h1 trivial ⟨b2, trivial⟩
                          have F : act.tmps[73]?.getD undef = _ ∧ True := hf
                          obtain ⟨f5, -⟩ := F
                          clear ho hf hu
                          go_simp
                          exact hK _ _ (by repeat first | (with_reducible exact Below.refl _ _) | (with_reducible apply Ext.alloc) | (with_reducible apply Ext.drew) | (with_reducible apply Ext.drewN) | (with_reducible refine Ext.set ?_ (by simp))) (NewLit.new (Nat.zero_le _))
                        refine And.intro (obX_eff (Only V3.heap.size [24]) (fun _ _ h k => Only.below k (Nat.le_refl _) h) (trivial) ?_) ?_
                        · intro act W hR hf ho hu K hK
                          replace hK := fun v (w' : World) (h1 : (Only V3.heap.size [24]) W w') (b3 : (fun (v : Value) (W : World) => W.ownsRow V3.heap.size 24 6 v (a + 1) (capCells (T.take a) ++ capCells [c])) (v) w') => hK v w' h1 trivial ⟨b3, trivial⟩
                          have F : (fun _ _ => True) (act.tmps[72]?.getD undef) W ∧ (fun _ _ => True) (act.tmps[74]?.getD undef) W ∧ (fun _ _ => True) (act.tmps[72]?.getD undef) W ∧ True := hf
                          obtain ⟨-, -, -, -⟩ := F
                          have U : (fun (v : Value) (W : World) => W.ownsRow V3.heap.size 24 6 v a (capCells (T.take a))) (act.tmps[72]?.getD undef) W ∧ (NewLit 0 1 (capCells [c]) 24) (act.tmps[74]?.getD undef) W ∧ True := hu
                          obtain ⟨r_r4, r_n6, -⟩ := U
                          generalize f4 : act.tmps[72]?.getD undef = v4 at r_r4
                          generalize f6 : act.tmps[74]?.getD undef = v6 at r_n6
                          clear ho hf hu
                          obtain ⟨b6, rfl, -, hl6⟩ := r_n6
                          rw [← seen_eq]; refine step_append_src W rfl (.tmp 72) (.tmp 74) 22 rfl V3.heap.size 24 ci (.agg #[.bool false, .int .i64 0, .int .i64 0, .int .i64 0, .int .i64 0, .int .i64 0]) 6 48 Try.underlying22 hci hci0 hci1 hci2 rfl (by decide) _ _ _ (eval_get f4) r_r4 _ (1) (capCells [c]) (eval_get f6) (lies_lit hl6) (rfl) (capCells_one _) (by unfold maxLen; omega) (by omega) (hR (Ext.drew (Below.refl _ _))).size ?_; intro v' w' ho' hg' _; exact hK _ _ (Only.grown r_r4 hg' (by simp)) (ho')
                        refine And.intro (obX_pure (fun _ k => k) ?_) ?_
                        · intro act W hR hf ho hu K hK
                          replace hK := fun v h2 => hK v W rfl h2 trivial
                          have G : act.tmps[3]?.getD undef = _ ∧ True := ho
                          obtain ⟨g3, -⟩ := G
                          clear ho hf hu
                          go_simp
                          exact hK _ (Eq.refl _)
                        refine And.intro (obX_pure (fun _ k => k) ?_) ?_
                        · intro act W hR hf ho hu K hK
                          replace hK := fun v h2 => hK v W rfl h2 trivial
                          have G : act.tmps[8]?.getD undef = _ ∧ True := ho
                          obtain ⟨g8, -⟩ := G
                          clear ho hf hu
                          go_simp
                          exact hK _ (Eq.refl _)
                        refine And.intro (obX_pure (fun _ k => k) ?_) ?_
                        · intro act W hR hf ho hu K hK
                          replace hK := fun v h2 => hK v W rfl h2 trivial
                          have F : act.tmps[76]?.getD undef = _ ∧ act.tmps[77]?.getD undef = _ ∧ True := hf
                          obtain ⟨f8, f9, -⟩ := F
                          clear ho hf hu
                          go_simp
                          exact hK _ (Eq.refl _)
                        refine And.intro (obX_eff (Only V3.heap.size [24]) (fun _ _ h k => Only.below k (Nat.le_refl _) h) (trivial) ?_) ?_
                        · intro act W hR hf ho hu K hK
                          replace hK := fun v (w' : World) (h1 : (Only V3.heap.size [24]) W w') (b4 : (fun (v : Value) (W : World) => W.ownsRow V3.heap.size 24 6 v (a + 1 + (T.length - a)) ((capCells (T.take a) ++ capCells [c]) ++ capCells (T.drop a))) (v) w') => hK v w' h1 trivial ⟨b4, trivial⟩
                          have F : (fun _ _ => True) (act.tmps[75]?.getD undef) W ∧ act.tmps[78]?.getD undef = _ ∧ (fun _ _ => True) (act.tmps[75]?.getD undef) W ∧ True := hf
                          obtain ⟨-, f10, -, -⟩ := F
                          have U : (fun (v : Value) (W : World) => W.ownsRow V3.heap.size 24 6 v (a + 1) (capCells (T.take a) ++ capCells [c])) (act.tmps[75]?.getD undef) W ∧ True := hu
                          obtain ⟨r_r7, -⟩ := U
                          generalize f7 : act.tmps[75]?.getD undef = v7 at r_r7
                          clear ho hf hu
                          dsimp only [Option.elim] at f10
                          rw [← seen_eq]; refine step_append_src W rfl (.tmp 75) (.tmp 78) 22 rfl V3.heap.size 24 ci (.agg #[.bool false, .int .i64 0, .int .i64 0, .int .i64 0, .int .i64 0, .int .i64 0]) 6 48 Try.underlying22 hci hci0 hci1 hci2 rfl (by decide) _ _ _ (eval_get f7) r_r7 _ (T.length - a) (capCells (T.drop a)) (eval_get f10) ((lies_drop6 HA3.out hta (fun h => by simp only [hcr.out h, if_false]) (by split <;> simp)).ext (hR (Ext.drew (Below.refl _ _)))) (by rw [capCells_len, List.length_drop]) (capCells_one _) (by unfold maxLen; omega) (by omega) (hR (Ext.drew (Below.refl _ _))).size ?_; intro v' w' ho' hg' _; exact hK _ _ (Only.grown r_r7 hg' (by simp)) (ho')
                        refine And.intro (obX_pure (fun _ k => k) ?_) ?_
                        · intro act W hR hf ho hu K hK
                          replace hK := fun v (b5 : (fun (v : Value) (W : World) => W.ownsRow V3.heap.size 24 6 v (a + 1 + (T.length - a)) ((capCells (T.take a) ++ capCells [c]) ++ capCells (T.drop a))) (v) W) => hK v W rfl trivial ⟨b5, trivial⟩
                          have F : (fun _ _ => True) (act.tmps[79]?.getD undef) W ∧ (fun _ _ => True) (act.tmps[79]?.getD undef) W ∧ (fun _ _ => True) (act.tmps[68]?.getD undef) W ∧ act.tmps[69]?.getD undef = _ ∧ act.tmps[70]?.getD undef = _ ∧ act.tmps[71]?.getD undef = _ ∧ (fun _ _ => True) (act.tmps[72]?.getD undef) W ∧ act.tmps[73]?.getD undef = _ ∧ (fun _ _ => True) (act.tmps[74]?.getD undef) W ∧ (fun _ _ => True) (act.tmps[75]?.getD undef) W ∧ act.tmps[76]?.getD undef = _ ∧ act.tmps[77]?.getD undef = _ ∧ act.tmps[78]?.getD undef = _ ∧ (fun _ _ => True) (act.tmps[79]?.getD undef) W ∧ True := hf
                          obtain ⟨-, -, -, f1, f2, f3, -, f5, -, -, f8, f9, f10, -, -⟩ := F
                          have U : (fun (v : Value) (W : World) => W.ownsRow V3.heap.size 24 6 v (a + 1 + (T.length - a)) ((capCells (T.take a) ++ capCells [c]) ++ capCells (T.drop a))) (act.tmps[79]?.getD undef) W ∧ True := hu
                          obtain ⟨r_r11, -⟩ := U
                          generalize f11 : act.tmps[79]?.getD undef = v11 at r_r11
                          generalize f0 : act.tmps[68]?.getD undef = v0
                          generalize f4 : act.tmps[72]?.getD undef = v4
                          generalize f6 : act.tmps[74]?.getD undef = v6
                          generalize f7 : act.tmps[75]?.getD undef = v7
                          clear ho hf hu
                          go_simp
                          exact hK _ r_r11
                        exact trivial
                      case stab =>
                        refine And.intro (fun _ _ _ h _ => h) ?_
                        refine And.intro is_stable ?_
                        refine And.intro is_stable ?_
                        refine And.intro is_stable ?_
                        refine And.intro (fun _ _ _ h _ => h) ?_
                        refine And.intro is_stable ?_
                        refine And.intro (fun _ _ _ h _ => h) ?_
                        refine And.intro (fun _ _ _ h _ => h) ?_
                        refine And.intro is_stable ?_
                        refine And.intro is_stable ?_
                        refine And.intro is_stable ?_
                        refine And.intro (fun _ _ _ h _ => h) ?_
                        refine And.intro (fun _ _ _ h _ => h) ?_
                        exact trivial
                      case ends =>
                        intro vals W hR hE hall
                        have E : (fun (v : Value) (W : World) => W.ownsRow V3.heap.size 24 6 v (a + 1 + (T.length - a)) ((capCells (T.take a) ++ capCells [c]) ++ capCells (T.drop a))) (vals 3) W ∧ True := hE
                        obtain ⟨e_r12, -⟩ := E
                        clear hE
                        clear hall
                        generalize ev3 : vals 3 = x3 at e_r12
                        simp only [fill, List.setIfInBounds_toArray, List.set_cons_succ, List.set_cons_zero, ev3]
                        have E4 : Hid (Ext V3 W) := Lib.hid (hR (Ext.drew (Below.refl _ _)))
                        have HN4 := Lib.hid e_r12
                        clear hR e_r12
                        go_wp2_with fail
                        refine ⟨⟨k + 1, by omega, by simp, Lib.hid ⟨?_, hQ.out.2.then (EV.out.then (E3.out.then E4.out))⟩⟩, by simp [intOf]; omega⟩
                        rw [HN.out, HIC.out]
                        refine ownLow ?_ hsz3.out
                        have hlen : (T.take a ++ (c :: T.drop a)).length = a + 1 + (T.length - a) := by first | (simp; done) | (simp; omega)
                        have hcells : capCells (T.take a ++ (c :: T.drop a)) = (capCells (T.take a) ++ capCells [c]) ++ capCells (T.drop a) := by
                          rw [capCells_app, List.append_assoc]
                          rfl
                        rw [hlen, hcells]
                        exact HN4.out
                  · clear ht13
                    go_wp2_with fail
                    refine wp_region_obl Ext [54, 55, 56, 57, 58, 59, 60, 61, 62, 63, 64, 65] (by kernel_rfl) (fun _ => Below.refl _ _) (fun _ _ _ => Ext.then) (by kernel_rfl) (by kernel_rfl) ?_
                    apply ex_is; apply Exists.intro
                    apply ex_is; apply Exists.intro
                    apply ex_is; apply Exists.intro
                    apply ex_is; apply Exists.intro
                    apply ex_is; apply Exists.intro
                    apply ex_is; apply Exists.intro
                    apply ex_is; apply Exists.intro
                    apply ex_is; apply Exists.intro
                    apply ex_is; apply Exists.intro
                    apply ex_is; apply Exists.intro
                    apply ex_is; apply Exists.intro
                    apply ex_is; apply Exists.intro
                    refine ⟨[], ⟨?steps, ?stab, ?ends⟩⟩
                    case steps =>
                      refine And.intro ?_ ?_
                      · intro a W hR hf ho K hK
                        replace hR := ext_drew hR
                        have G : a.tmps[8]?.getD undef = _ ∧ True := ho
                        obtain ⟨g8, -⟩ := G
                        clear ho hf
                        go_simp
                        exact hK _ _ (Below.refl _ _) (Eq.refl _)
                      refine And.intro ?_ ?_
                      · intro a W hR hf ho K hK
                        replace hR := ext_drew hR
                        have G : a.tmps[3]?.getD undef = _ ∧ True := ho
                        obtain ⟨g3, -⟩ := G
                        clear ho hf
                        go_simp
                        exact hK _ _ (Below.refl _ _) (Eq.refl _)
                      refine And.intro ?_ ?_
                      · intro a W hR hf ho K hK
                        replace hR := ext_drew hR
                        have F : a.tmps[55]?.getD undef = _ ∧ True := hf
                        obtain ⟨f1, -⟩ := F
                        clear ho hf
                        go_simp
                        exact hK _ _ (Below.refl _ _) (Eq.refl _)
                      refine And.intro ?_ ?_
                      · intro a W hR hf ho K hK
                        replace hR := ext_drew hR
                        have F : a.tmps[54]?.getD undef = _ ∧ a.tmps[56]?.getD undef = _ ∧ True := hf
                        obtain ⟨f0, f2, -⟩ := F
                        clear ho hf
                        go_simp
                        exact hK _ _ (Below.refl _ _) (Eq.refl _)
                      refine And.intro ?_ ?_
                      · intro a W hR hf ho K hK
                        replace hR := ext_drew hR
                        have F : a.tmps[57]?.getD undef = _ ∧ True := hf
                        obtain ⟨f3, -⟩ := F
                        clear ho hf
                        go_simp
                        exact hK _ _ (Below.refl _ _) (Eq.refl _)
                      refine And.intro ?_ ?_
                      · intro a W hR hf ho K hK
                        replace hR := ext_drew hR
                        have G : a.tmps[3]?.getD undef = _ ∧ True := ho
                        obtain ⟨g3, -⟩ := G
                        have F : a.tmps[58]?.getD undef = _ ∧ True := hf
                        obtain ⟨f4, -⟩ := F
                        clear ho hf
                        go_simp
                        exact hK _ _ (Below.refl _ _) (Eq.refl _)
                      refine And.intro ?_ ?_
                      · intro a W hR hf ho K hK
                        replace hR := ext_drew hR
                        have G : a.tmps[8]?.getD undef = _ ∧ True := ho
                        obtain ⟨g8, -⟩ := G
                        have F : a.tmps[58]?.getD undef = _ ∧ True := hf
                        obtain ⟨f4, -⟩ := F
                        clear ho hf
                        go_simp
                        exact hK _ _ (Below.refl _ _) (Eq.refl _)
                      refine And.intro ?_ ?_
                      · intro a W hR hf ho K hK
                        replace hR := ext_drew hR
                        have F : a.tmps[59]?.getD undef = _ ∧ a.tmps[60]?.getD undef = _ ∧ a.tmps[58]?.getD undef = _ ∧ True := hf
                        obtain ⟨f5, f6, f4, -⟩ := F
                        clear ho hf
                        go_simp
                        exact hK _ _ (Below.refl _ _) (Eq.refl _)
                      refine And.intro ?_ ?_
                      · intro a W hR hf ho K hK
                        replace hR := ext_drew hR
                        have F : a.tmps[61]?.getD undef = _ ∧ a.tmps[58]?.getD undef = _ ∧ True := hf
                        obtain ⟨f7, f4, -⟩ := F
                        clear ho hf
                        go_simp
                        exact hK _ _ (Below.refl _ _) (Eq.refl _)
                      refine And.intro ?_ ?_
                      · intro a W hR hf ho K hK
                        replace hR := ext_drew hR
                        have G : a.tmps[5]?.getD undef = _ ∧ True := ho
                        obtain ⟨g5, -⟩ := G
                        have F : a.tmps[58]?.getD undef = _ ∧ True := hf
                        obtain ⟨f4, -⟩ := F
                        clear ho hf
                        go_simp
                        exact hK _ _ (Below.refl _ _) (Eq.refl _)
                      refine And.intro ?_ ?_
                      · intro a W hR hf ho K hK
                        replace hR := ext_drew hR
                        have F : a.tmps[62]?.getD undef = _ ∧ a.tmps[63]?.getD undef = _ ∧ a.tmps[58]?.getD undef = _ ∧ a.tmps[58]?.getD undef = _ ∧ True := hf
                        obtain ⟨f8, f9, f4, -, -⟩ := F
                        clear ho hf
                        go_simp
                        exact hK _ _ (Below.refl _ _) (Eq.refl _)
                      refine And.intro ?_ ?_
                      · intro a W hR hf ho K hK
                        replace hR := ext_drew hR
                        have F : a.tmps[58]?.getD undef = _ ∧ a.tmps[64]?.getD undef = _ ∧ True := hf
                        obtain ⟨f4, f10, -⟩ := F
                        clear ho hf
                        go_simp
                        exact hK _ _ (Below.refl _ _) (Eq.refl _)
                      exact trivial
                    case stab =>
                      refine And.intro is_stable ?_
                      refine And.intro is_stable ?_
                      refine And.intro is_stable ?_
                      refine And.intro is_stable ?_
                      refine And.intro is_stable ?_
                      refine And.intro is_stable ?_
                      refine And.intro is_stable ?_
                      refine And.intro is_stable ?_
                      refine And.intro is_stable ?_
                      refine And.intro is_stable ?_
                      refine And.intro is_stable ?_
                      refine And.intro is_stable ?_
                      exact trivial
                    case ends =>
                      intro vals W hR hall
                      replace hR := ext_drew hR
                      have e65 : vals 65 = _ := hall 11 (by decide)
                      clear hall
                      simp only [fill, List.setIfInBounds_toArray, List.set_cons_succ, List.set_cons_zero, e65]
                      rename World => V3
                      have E3 : Hid (Ext V V3) := Lib.hid (hE2.out.then hR)
                      have HBX := Lib.hid (ext_at' (hE2.out.then hR) HBV.out)
                      have HA3 := Lib.hid ((arrOwn HOWN.out).ext (EV.out.then (hE2.out.then hR)))
                      have hsz3 : Hid (w.heap.size ≤ V3.heap.size) := Lib.hid (hQ.out.2.then (EV.out.then E3.out)).size
                      clear hR
                      go_wp2_with fail
                      refine wp_region_res (fun x y => Ext V3 x → Ext V3 y) [⟨some 0, [(0, [])], [4]⟩, ⟨some 4, [(4, [])], [7]⟩, ⟨some 6, [(6, [])], [7]⟩, ⟨some 7, [(7, [])], [11]⟩, ⟨some 11, [(11, [])], [12]⟩, ⟨some 12, [(12, [])], []⟩] [(fun (u : Nat → Value) (W : World) => (fun (v : Value) (W : World) => ∃ r, v = .slice (some ⟨r, 0, none⟩) 0 0 ∧ V3.heap.size ≤ r ∧ W.heap[r]? = some (.cells #[] 24)) (u 0) W), (fun (u : Nat → Value) (W : World) => (fun (v : Value) (W : World) => W.ownsRow V3.heap.size 24 6 v a (capCells (T.take a))) (u 4) W), (fun (u : Nat → Value) (W : World) => (NewLit 0 1 (capCells [c]) 24) (u 6) W), (fun (u : Nat → Value) (W : World) => (fun (v : Value) (W : World) => W.ownsRow V3.heap.size 24 6 v (a + 1) (capCells (T.take a) ++ capCells [c])) (u 7) W), (fun (u : Nat → Value) (W : World) => (fun (v : Value) (W : World) => W.ownsRow V3.heap.size 24 6 v (a + 1 + (T.length - a)) ((capCells (T.take a) ++ capCells [c]) ++ capCells (T.drop a))) (u 11) W), (fun (u : Nat → Value) (W : World) => (fun (v : Value) (W : World) => W.ownsRow V3.heap.size 24 6 v (a + 1 + (T.length - a)) ((capCells (T.take a) ++ capCells [c]) ++ capCells (T.drop a))) (u 12) W)] [⟨[], [.last, .early [0], .keep, .early [4, 0], .early [7, 4, 0], .early [0]]⟩, ⟨[], [.keep, .early [3, 1], .keep, .early [4, 3, 1], .early [7, 4, 3, 1], .early [1]]⟩, ⟨[], [.keep, .early [3, 2], .keep, .early [4, 3, 2], .early [7, 4, 3, 2], .early [2]]⟩, ⟨[], [.keep, .early [3], .keep, .early [4, 3], .early [7, 4, 3], .early [3]]⟩, ⟨[(0, [0])], [.late [[]], .last, .keep, .early [4], .early [7, 4], .early [4]]⟩, ⟨[], [.keep, .keep, .early [5], .early [6, 5], .early [7, 6, 5], .early [5]]⟩, ⟨[], [.keep, .keep, .last, .early [6], .early [7, 6], .early [6]]⟩, ⟨[(1, [4]), (2, [6])], [.late [[4]], .late [[]], .late [[]], .last, .early [7], .early [7]]⟩, ⟨[], [.keep, .keep, .keep, .keep, .early [10, 8], .early [8]]⟩, ⟨[], [.keep, .keep, .keep, .keep, .early [10, 9], .early [9]]⟩, ⟨[], [.keep, .keep, .keep, .keep, .early [10], .early [10]]⟩, ⟨[(3, [7])], [.late [[7, 4]], .late [[7]], .late [[7]], .late [[]], .last, .early [11]]⟩, ⟨[(4, [11])], [.late [[4]], .late [[7]], .late [[7]], .late [[11]], .late [[]], .last]⟩] [68, 69, 70, 71, 72, 73, 74, 75, 76, 77, 78, 79, 3] (by kernel_rfl) (fun _ k => k) (fun _ _ _ h k e => k (h e)) (by kernel_rfl) (by kernel_rfl) (by kernel_rfl) (by kernel_rfl) (by kernel_rfl) ?start ?_
                      case start =>
                        exact trivial
                      refine ex_phi (fun _ _ => True) ?_
                      apply ex_is; apply Exists.intro
                      apply ex_is; apply Exists.intro
                      apply ex_is; apply Exists.intro
                      refine ex_phi (fun _ _ => True) ?_
                      apply ex_is; apply Exists.intro
                      refine ex_phi (fun _ _ => True) ?_
                      refine ex_phi (fun _ _ => True) ?_
                      apply ex_is; apply Exists.intro
                      apply ex_is; apply Exists.intro
                      apply ex_is; apply Exists.intro
                      refine ex_phi (fun _ _ => True) ?_
                      refine ex_phi (fun _ _ => True) ?_
                      refine ⟨[], ⟨?steps, ?stab, ?ends⟩⟩
                      case steps =>
                        refine And.intro (obX_eff (Ext) (fun _ _ h k => k.then h) (And.intro (fun _ _ _ h e => h.ext e) (trivial)) ?_) ?_
                        · intro act W hR hf ho hu K hK
                          replace hK := fun v (w' : World) (h1 : (Ext) W w') (b0 : (fun (v : Value) (W : World) => ∃ r, v = .slice (some ⟨r, 0, none⟩) 0 0 ∧ V3.heap.size ≤ r ∧ W.heap[r]? = some (.cells #[] 24)) (v) w') => hK v w' h1 trivial ⟨b0, trivial⟩
                          clear ho hf hu
                          go_simp
                          exact hK _ _ (by repeat first | (with_reducible exact Below.refl _ _) | (with_reducible apply Ext.alloc) | (with_reducible apply Ext.drew) | (with_reducible apply Ext.drewN) | (with_reducible refine Ext.set ?_ (by simp))) ⟨_, rfl, (hR (Ext.drew (Below.refl _ _))).size, heap_alloc_new W _⟩
                        refine And.intro (obX_pure (fun _ k => k) ?_) ?_
                        · intro act W hR hf ho hu K hK
                          replace hK := fun v h2 => hK v W rfl h2 trivial
                          have G : act.tmps[3]?.getD undef = _ ∧ True := ho
                          obtain ⟨g3, -⟩ := G
                          clear ho hf hu
                          go_simp
                          exact hK _ (Eq.refl _)
                        refine And.intro (obX_pure (fun _ k => k) ?_) ?_
                        · intro act W hR hf ho hu K hK
                          replace hK := fun v h2 => hK v W rfl h2 trivial
                          have G : act.tmps[8]?.getD undef = _ ∧ True := ho
                          obtain ⟨g8, -⟩ := G
                          clear ho hf hu
                          go_simp
                          exact hK _ (Eq.refl _)
                        refine And.intro (obX_pure (fun _ k => k) ?_) ?_
                        · intro act W hR hf ho hu K hK
                          replace hK := fun v h2 => hK v W rfl h2 trivial
                          have F : act.tmps[69]?.getD undef = _ ∧ act.tmps[70]?.getD undef = _ ∧ True := hf
                          obtain ⟨f1, f2, -⟩ := F
                          clear ho hf hu
                          go_simp
                          exact hK _ (Eq.refl _)
                        refine And.intro (obX_eff (fun x y => ∃ r, V3.heap.size ≤ r ∧ x.heap[r]? = some (.cells #[] 24) ∧ World.grownBy x y (some r)) (fun _ _ h k => by obtain ⟨r, h1, -, h3⟩ := h; exact ext_grown' k h3 h1) (And.intro (fun _ _ _ h e => lit_grown h e) (trivial)) ?_) ?_
                        · intro act W hR hf ho hu K hK
                          replace hK := fun v (w' : World) (h1 : (fun x y => ∃ r, V3.heap.size ≤ r ∧ x.heap[r]? = some (.cells #[] 24) ∧ World.grownBy x y (some r)) W w') (b1 : (fun (v : Value) (W : World) => W.ownsRow V3.heap.size 24 6 v a (capCells (T.take a))) (v) w') => hK v w' h1 trivial ⟨b1, trivial⟩
                          have F : (fun _ _ => True) (act.tmps[68]?.getD undef) W ∧ act.tmps[71]?.getD undef = _ ∧ True := hf
                          obtain ⟨-, f3, -⟩ := F
                          have U : (fun (v : Value) (W : World) => ∃ r, v = .slice (some ⟨r, 0, none⟩) 0 0 ∧ V3.heap.size ≤ r ∧ W.heap[r]? = some (.cells #[] 24)) (act.tmps[68]?.getD undef) W ∧ True := hu
                          obtain ⟨r_r0, -⟩ := U
                          generalize f0 : act.tmps[68]?.getD undef = v0 at r_r0
                          clear ho hf hu
                          obtain ⟨r0, rfl, hr0, hr1⟩ := r_r0
                          dsimp only [Option.elim] at f3
                          rw [← seen_eq]; refine step_append_src W rfl (.tmp 68) (.tmp 71) 22 rfl V3.heap.size 24 ci (.agg #[.bool false, .int .i64 0, .int .i64 0, .int .i64 0, .int .i64 0, .int .i64 0]) 6 48 Try.underlying22 hci hci0 hci1 hci2 rfl (by decide) _ _ _ (eval_get f0) (own_empty hr0 hr1) _ (a) (capCells (T.take a)) (eval_get f3) ((lies_take6 HA3.out hta).ext (hR (Ext.drew (Below.refl _ _)))) (by rw [capCells_len, List.length_take]; omega) (capCells_one _) (by unfold maxLen; omega) (by omega) (hR (Ext.drew (Below.refl _ _))).size ?_; intro v' w' ho' hg' _; exact hK _ _ ⟨r0, hr0, hr1, hg'⟩ (by simpa using ho')
                        refine And.intro (obX_pure (fun _ k => k) ?_) ?_
                        · intro act W hR hf ho hu K hK
                          replace hK := fun v h2 => hK v W rfl h2 trivial
                          have G : act.tmps[5]?.getD undef = _ ∧ True := ho
                          obtain ⟨g5, -⟩ := G
                          clear ho hf hu
                          obtain ⟨z0, z1, z2, z3, z4, z5⟩ := lie6' HBX.out (hR (Ext.drew (Below.refl _ _)))
                          go_simp
                          exact hK _ (Eq.refl _)
                        refine And.intro (obX_eff (Ext) (fun _ _ h k => k.then h) (And.intro (fun _ _ _ h e => by obtain ⟨r, h1, h2, h3⟩ := h; exact ⟨r, h1, h2, ext_at' e h3⟩) (And.intro (fun _ _ _ h e => own_ext h e) (trivial))) ?_) ?_
                        · intro act W hR hf ho hu K hK
                          replace hK := fun v (w' : World) (h1 : (Ext) W w') (b2 : (NewLit 0 1 (capCells [c]) 24) (v) w') => hK v w' h1 trivial ⟨b2, trivial⟩
                          have F : act.tmps[73]?.getD undef = _ ∧ True := hf
                          obtain ⟨f5, -⟩ := F
                          clear ho hf hu
                          go_simp
                          exact hK _ _ (by repeat first | (with_reducible exact Below.refl _ _) | (with_reducible apply Ext.alloc) | (with_reducible apply Ext.drew) | (with_reducible apply Ext.drewN) | (with_reducible refine Ext.set ?_ (by simp))) (NewLit.new (Nat.zero_le _))
                        refine And.intro (obX_eff (Only V3.heap.size [24]) (fun _ _ h k => Only.below k (Nat.le_refl _) h) (trivial) ?_) ?_
                        · intro act W hR hf ho hu K hK
                          replace hK := fun v (w' : World) (h1 : (Only V3.heap.size [24]) W w') (b3 : (fun (v : Value) (W : World) => W.ownsRow V3.heap.size 24 6 v (a + 1) (capCells (T.take a) ++ capCells [c])) (v) w') => hK v w' h1 trivial ⟨b3, trivial⟩
                          have F : (fun _ _ => True) (act.tmps[72]?.getD undef) W ∧ (fun _ _ => True) (act.tmps[74]?.getD undef) W ∧ (fun _ _ => True) (act.tmps[72]?.getD undef) W ∧ True := hf
                          obtain ⟨-, -, -, -⟩ := F
                          have U : (fun (v : Value) (W : World) => W.ownsRow V3.heap.size 24 6 v a (capCells (T.take a))) (act.tmps[72]?.getD undef) W ∧ (NewLit 0 1 (capCells [c]) 24) (act.tmps[74]?.getD undef) W ∧ True := hu
                          obtain ⟨r_r4, r_n6, -⟩ := U
                          generalize f4 : act.tmps[72]?.getD undef = v4 at r_r4
                          generalize f6 : act.tmps[74]?.getD undef = v6 at r_n6
                          clear ho hf hu
                          obtain ⟨b6, rfl, -, hl6⟩ := r_n6
                          rw [← seen_eq]; refine step_append_src W rfl (.tmp 72) (.tmp 74) 22 rfl V3.heap.size 24 ci (.agg #[.bool false, .int .i64 0, .int .i64 0, .int .i64 0, .int .i64 0, .int .i64 0]) 6 48 Try.underlying22 hci hci0 hci1 hci2 rfl (by decide) _ _ _ (eval_get f4) r_r4 _ (1) (capCells [c]) (eval_get f6) (lies_lit hl6) (rfl) (capCells_one _) (by unfold maxLen; omega) (by omega) (hR (Ext.drew (Below.refl _ _))).size ?_; intro v' w' ho' hg' _; exact hK _ _ (Only.grown r_r4 hg' (by simp)) (ho')
                        refine And.intro (obX_pure (fun _ k => k) ?_) ?_
                        · intro act W hR hf ho hu K hK
                          replace hK := fun v h2 => hK v W rfl h2 trivial
                          have G : act.tmps[3]?.getD undef = _ ∧ True := ho
                          obtain ⟨g3, -⟩ := G
                          clear ho hf hu
                          go_simp
                          exact hK _ (Eq.refl _)
                        refine And.intro (obX_pure (fun _ k => k) ?_) ?_
                        · intro act W hR hf ho hu K hK
                          replace hK := fun v h2 => hK v W rfl h2 trivial
                          have G : act.tmps[8]?.getD undef = _ ∧ True := ho
                          obtain ⟨g8, -⟩ := G
                          clear ho hf hu
                          go_simp
                          exact hK _ (Eq.refl _)
                        refine And.intro (obX_pure (fun _ k => k) ?_) ?_
                        · intro act W hR hf ho hu K hK
                          replace hK := fun v h2 => hK v W rfl h2 trivial
                          have F : act.tmps[76]?.getD undef = _ ∧ act.tmps[77]?.getD undef = _ ∧ True := hf
                          obtain ⟨f8, f9, -⟩ := F
                          clear ho hf hu
                          go_simp
                          exact hK _ (Eq.refl _)
                        refine And.intro (obX_eff (Only V3.heap.size [24]) (fun _ _ h k => Only.below k (Nat.le_refl _) h) (trivial) ?_) ?_
                        · intro act W hR hf ho hu K hK
                          replace hK := fun v (w' : World) (h1 : (Only V3.heap.size [24]) W w') (b4 : (fun (v : Value) (W : World) => W.ownsRow V3.heap.size 24 6 v (a + 1 + (T.length - a)) ((capCells (T.take a) ++ capCells [c]) ++ capCells (T.drop a))) (v) w') => hK v w' h1 trivial ⟨b4, trivial⟩
                          have F : (fun _ _ => True) (act.tmps[75]?.getD undef) W ∧ act.tmps[78]?.getD undef = _ ∧ (fun _ _ => True) (act.tmps[75]?.getD undef) W ∧ True := hf
                          obtain ⟨-, f10, -, -⟩ := F
                          have U : (fun (v : Value) (W : World) => W.ownsRow V3.heap.size 24 6 v (a + 1) (capCells (T.take a) ++ capCells [c])) (act.tmps[75]?.getD undef) W ∧ True := hu
                          obtain ⟨r_r7, -⟩ := U
                          generalize f7 : act.tmps[75]?.getD undef = v7 at r_r7
                          clear ho hf hu
                          dsimp only [Option.elim] at f10
                          rw [← seen_eq]; refine step_append_src W rfl (.tmp 75) (.tmp 78) 22 rfl V3.heap.size 24 ci (.agg #[.bool false, .int .i64 0, .int .i64 0, .int .i64 0, .int .i64 0, .int .i64 0]) 6 48 Try.underlying22 hci hci0 hci1 hci2 rfl (by decide) _ _ _ (eval_get f7) r_r7 _ (T.length - a) (capCells (T.drop a)) (eval_get f10) ((lies_drop6 HA3.out hta (fun h => by simp only [hcr.out h, if_false]) (by split <;> simp)).ext (hR (Ext.drew (Below.refl _ _)))) (by rw [capCells_len, List.length_drop]) (capCells_one _) (by unfold maxLen; omega) (by omega) (hR (Ext.drew (Below.refl _ _))).size ?_; intro v' w' ho' hg' _; exact hK _ _ (Only.grown r_r7 hg' (by simp)) (ho')
                        refine And.intro (obX_pure (fun _ k => k) ?_) ?_
                        · intro act W hR hf ho hu K hK
                          replace hK := fun v (b5 : (fun (v : Value) (W : World) => W.ownsRow V3.heap.size 24 6 v (a + 1 + (T.length - a)) ((capCells (T.take a) ++ capCells [c]) ++ capCells (T.drop a))) (v) W) => hK v W rfl trivial ⟨b5, trivial⟩
                          have F : (fun _ _ => True) (act.tmps[79]?.getD undef) W ∧ (fun _ _ => True) (act.tmps[79]?.getD undef) W ∧ (fun _ _ => True) (act.tmps[68]?.getD undef) W ∧ act.tmps[69]?.getD undef = _ ∧ act.tmps[70]?.getD undef = _ ∧ act.tmps[71]?.getD undef = _ ∧ (fun _ _ => True) (act.tmps[72]?.getD undef) W ∧ act.tmps[73]?.getD undef = _ ∧ (fun _ _ => True) (act.tmps[74]?.getD undef) W ∧ (fun _ _ => True) (act.tmps[75]?.getD undef) W ∧ act.tmps[76]?.getD undef = _ ∧ act.tmps[77]?.getD undef = _ ∧ act.tmps[78]?.getD undef = _ ∧ (fun _ _ => True) (act.tmps[79]?.getD undef) W ∧ True := hf
                          obtain ⟨-, -, -, f1, f2, f3, -, f5, -, -, f8, f9, f10, -, -⟩ := F
                          have U : (fun (v : Value) (W : World) => W.ownsRow V3.heap.size 24 6 v (a + 1 + (T.length - a)) ((capCells (T.take a) ++ capCells [c]) ++ capCells (T.drop a))) (act.tmps[79]?.getD undef) W ∧ True := hu
                          obtain ⟨r_r11, -⟩ := U
                          generalize f11 : act.tmps[79]?.getD undef = v11 at r_r11
                          generalize f0 : act.tmps[68]?.getD undef = v0
                          generalize f4 : act.tmps[72]?.getD undef = v4
                          generalize f6 : act.tmps[74]?.getD undef = v6
                          generalize f7 : act.tmps[75]?.getD undef = v7
                          clear ho hf hu
                          go_simp
                          exact hK _ r_r11
                        exact trivial
                      case stab =>
                        refine And.intro (fun _ _ _ h _ => h) ?_
                        refine And.intro is_stable ?_
                        refine And.intro is_stable ?_
                        refine And.intro is_stable ?_
                        refine And.intro (fun _ _ _ h _ => h) ?_
                        refine And.intro is_stable ?_
                        refine And.intro (fun _ _ _ h _ => h) ?_
                        refine And.intro (fun _ _ _ h _ => h) ?_
                        refine And.intro is_stable ?_
                        refine And.intro is_stable ?_
                        refine And.intro is_stable ?_
                        refine And.intro (fun _ _ _ h _ => h) ?_
                        refine And.intro (fun _ _ _ h _ => h) ?_
                        exact trivial
                      case ends =>
                        intro vals W hR hE hall
                        have E : (fun (v : Value) (W : World) => W.ownsRow V3.heap.size 24 6 v (a + 1 + (T.length - a)) ((capCells (T.take a) ++ capCells [c]) ++ capCells (T.drop a))) (vals 3) W ∧ True := hE
                        obtain ⟨e_r12, -⟩ := E
                        clear hE
                        clear hall
                        generalize ev3 : vals 3 = x3 at e_r12
                        simp only [fill, List.setIfInBounds_toArray, List.set_cons_succ, List.set_cons_zero, ev3]
                        have E4 : Hid (Ext V3 W) := Lib.hid (hR (Ext.drew (Below.refl _ _)))
                        have HN4 := Lib.hid e_r12
                        clear hR e_r12
                        go_wp2_with fail
                        refine ⟨⟨k + 1, by omega, by simp, Lib.hid ⟨?_, hQ.out.2.then (EV.out.then (E3.out.then E4.out))⟩⟩, by simp [intOf]; omega⟩
                        rw [HN.out, HIC.out]
                        refine ownLow ?_ hsz3.out
                        have hlen : (T.take a ++ (c :: T.drop a)).length = a + 1 + (T.length - a) := by first | (simp; done) | (simp; omega)
                        have hcells : capCells (T.take a ++ (c :: T.drop a)) = (capCells (T.take a) ++ capCells [c]) ++ capCells (T.drop a) := by
                          rw [capCells_app, List.append_assoc]
                          rfl
                        rw [hlen, hcells]
                        exact HN4.out
    · obtain rfl : k = O.length := by omega
      go_wp2_with fail
      go_ret
      refine ⟨_, rfl, ?_, hQ.out.2⟩
      rw [← HF.out]
      have := hQ.out.1
      rw [List.take_length] at this
      exact this
end Go.Proofs.Ytalndcjbnedigaa

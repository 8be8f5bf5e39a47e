
/- A statement that draws the order of its operations, some of which, one behind the other, turn the world. -/
import Derived.Test.YtpjlhkepdiajjaaPhi
set_option linter.all false
namespace Go.Proofs.Ytpjlhkepdiajjaa
open Go.RowKit

/-- What may be said of the world, and of what the marks yielded. -/
abbrev SV := (Nat → Value) → World → Prop
/-- The state when these operations have run. -/
def stOf : List Nat → List SV → (Nat → Bool) → (Nat → Value) → World → Prop
  | m :: ms, S :: Ss, b, u, w => if b m = true then stOf ms Ss b u w else S u w
  | [], S :: _, _, u, w => S u w
  | _, [], _, _, _ => True
def atV (ops : Array Oper) (t : Nat → Value) (j : Nat) : Value := (dstOf ops j).elim undef t
/-- What the marks yielded. -/
def mv (ms : List Nat) (ops : Array Oper) (a : Act) (j : Nat) : Value := bif ms.contains j then atV ops (fun t => a.tmps[t]?.getD undef) j else undef
def upd (u : Nat → Value) (i : Nat) (v : Value) (j : Nat) : Value := bif j == i then v else u j
def bit (listed : Array Bool) (j : Nat) : Bool := listed.getD j false
/-- Each waits for the next one. -/
def pathB (ops : Array Oper) : List Nat → Bool
  | i :: j :: l => (prevs ops i).contains j && pathB ops (j :: l)
  | _ => true
def Closed (ops : Array Oper) (listed : Array Bool) : Prop := ∀ i, bit listed i = true → ∀ j ∈ prevs ops i, bit listed j = true
theorem path_up {ops : Array Oper} {listed : Array Bool} (hc : Closed ops listed) : ∀ {l : List Nat} {i : Nat}, pathB ops (i :: l) = true → (∀ j ∈ prevs ops i, bit listed j = true) → ∀ m ∈ l, bit listed m = true
  | [], _, _, _, m, hm => by cases hm
  | j :: l, i, hp, hi, m, hm => by
    rw [pathB, Bool.and_eq_true] at hp
    have hj : bit listed j = true := hi j (by simpa using hp.1)
    rcases List.mem_cons.1 hm with rfl | hm
    · exact hj
    · exact path_up hc hp.2 (hc j hj) m hm
theorem path_down {ops : Array Oper} {listed : Array Bool} (hc : Closed ops listed) {m i : Nat} {l : List Nat} (hp : pathB ops (m :: l) = true) (hi : i ∈ l) (hn : bit listed i = false) : bit listed m = false := by
  cases h : bit listed m with
  | false => rfl
  | true => rw [path_up hc hp (hc m h) i hi] at hn; cases hn
/-- The marks wait one for another. -/
def marksB (ops : Array Oper) : List Nat → List (List Nat) → Bool
  | m :: n :: ms, p :: ps => pathB ops (n :: p) && p.contains m && marksB ops (n :: ms) ps
  | [_], _ => true
  | [], _ => true
  | _ :: _ :: _, [] => false

/-- The slots that operation number i reads ahead of all that write them. -/
def outer2 (ops : Array Oper) (i : Nat) : List Nat := (reads ops i).filter fun t => (List.range ops.size).all fun j => dstOf ops j != some t || (prevs ops j).contains i
section
variable {P : Program} {ops : Array Oper} {Q : Exit → Act → World → Prop} {R : World → World → Prop} {phi : List (Value → World → Prop)} {a0 : Act} {w0 : World} {ms : List Nat} {Ss : List SV}

/-- The first s of them have run, the next one not. -/
theorem stOf_at : ∀ {ms : List Nat} {Ss : List SV} {b : Nat → Bool} {u : Nat → Value} {w : World} (s : Nat), s ≤ ms.length → ms.length < Ss.length → (∀ m ∈ ms.take s, b m = true) → (∀ m, ms[s]? = some m → b m = false) → (stOf ms Ss b u w ↔ Ss.getD s (fun _ _ => True) u w)
  | [], S :: Ss, b, u, w, s, hs, _, _, _ => by
    obtain rfl : s = 0 := by simpa using hs
    exact Iff.rfl
  | m :: ms, S :: Ss, b, u, w, 0, _, _, _, hn => by rw [stOf, if_neg (by rw [hn m rfl]; simp)]; exact Iff.rfl
  | m :: ms, S :: Ss, b, u, w, s + 1, hs, hl, ht, hn => by
    rw [stOf, if_pos (ht m (by simp))]
    exact stOf_at s (by simpa using hs) (by simpa using hl) (fun k hk => ht k (by simp [hk])) (fun k hk => hn k (by simpa using hk))
  | _, [], _, _, _, _, _, hl, _, _ => by simp at hl

def StepC (P : Program) (ops : Array Oper) (Q : Exit → Act → World → Prop) (R : World → World → Prop) (phi : List (Value → World → Prop)) (ms : List Nat) (Ss : List SV) (a0 : Act) (w0 : World) (i : Nat) (o : Oper) : Prop :=
  ∀ (listed : Array Bool) (a : Act) (w : World), listed.size = ops.size → i < ops.size → Closed ops listed → bit listed i = false → (∀ j ∈ prevs ops i, bit listed j = true) → R w0 w → stOf ms Ss (bit listed) (mv ms ops a) w → Facts phi ops a w (prevs ops i) → Olds a0 a (outer2 ops i) →
    ∀ K : Act → World → Prop, (∀ v w', R w w' → factOf phi i (o.dst.elim undef fun _ => v) w' → stOf ms Ss (bit (listed.setIfInBounds i true)) (bif ms.contains i then upd (mv ms ops a) i (o.dst.elim undef fun _ => v) else mv ms ops a) w' → K (a.put o.dst v) w') →
      if Region.wanted o (seen ops a.tmps) = true then o.wp P a w K Q else K (a.put o.dst undef) w
/-- One that leaves the world. -/
def PureStep (P : Program) (ops : Array Oper) (Q : Exit → Act → World → Prop) (R : World → World → Prop) (phi : List (Value → World → Prop)) (a0 : Act) (w0 : World) (i : Nat) (o : Oper) : Prop :=
  ∀ (a : Act) (w : World), R w0 w → Facts phi ops a w (prevs ops i) → Olds a0 a (outer2 ops i) →
    ∀ K : Act → World → Prop, (∀ v, factOf phi i (o.dst.elim undef fun _ => v) w → K (a.put o.dst v) w) →
      if Region.wanted o (seen ops a.tmps) = true then o.wp P a w K Q else K (a.put o.dst undef) w
/-- One in a state, that stays in it. -/
def StayStep (P : Program) (ops : Array Oper) (Q : Exit → Act → World → Prop) (R : World → World → Prop) (phi : List (Value → World → Prop)) (ms : List Nat) (S : SV) (a0 : Act) (w0 : World) (i : Nat) (o : Oper) : Prop :=
  ∀ (a : Act) (w : World) (u : Nat → Value), u = mv ms ops a → R w0 w → S u w → Facts phi ops a w (prevs ops i) → Olds a0 a (outer2 ops i) →
    ∀ K : Act → World → Prop, (∀ v w', R w w' → factOf phi i (o.dst.elim undef fun _ => v) w' → S u w' → K (a.put o.dst v) w') →
      if Region.wanted o (seen ops a.tmps) = true then o.wp P a w K Q else K (a.put o.dst undef) w
/-- One in a state, and behind it in the next one. -/
def MarkStep (P : Program) (ops : Array Oper) (Q : Exit → Act → World → Prop) (R : World → World → Prop) (phi : List (Value → World → Prop)) (ms : List Nat) (S S' : SV) (a0 : Act) (w0 : World) (i : Nat) (o : Oper) : Prop :=
  ∀ (a : Act) (w : World) (u : Nat → Value), u = mv ms ops a → R w0 w → S u w → Facts phi ops a w (prevs ops i) → Olds a0 a (outer2 ops i) →
    ∀ K : Act → World → Prop, (∀ v w', R w w' → factOf phi i (o.dst.elim undef fun _ => v) w' → S' (upd u i (o.dst.elim undef fun _ => v)) w' → K (a.put o.dst v) w') →
      if Region.wanted o (seen ops a.tmps) = true then o.wp P a w K Q else K (a.put o.dst undef) w

theorem bit_set_ne {listed : Array Bool} {i j : Nat} (h : j ≠ i) : bit (listed.setIfInBounds i true) j = bit listed j := by
  unfold bit
  exact getD_set_ne false (Ne.symm h)
theorem bit_set {listed : Array Bool} {i : Nat} (h : i < listed.size) : bit (listed.setIfInBounds i true) i = true := by
  unfold bit
  simp [Array.getD_eq_getD_getElem?, h]
theorem stOf_congr : ∀ {ms : List Nat} {Ss : List SV} {b b' : Nat → Bool} {u : Nat → Value} {w : World}, (∀ m ∈ ms, b m = b' m) → (stOf ms Ss b u w ↔ stOf ms Ss b' u w)
  | [], [], _, _, _, _, _ => Iff.rfl
  | [], _ :: _, _, _, _, _, _ => Iff.rfl
  | _ :: _, [], _, _, _, _, _ => Iff.rfl
  | m :: ms, S :: Ss, b, b', u, w, h => by
    have := stOf_congr (ms := ms) (Ss := Ss) (u := u) (w := w) fun k hk => h k (by simp [hk])
    rw [stOf, stOf, h m (by simp)]
    split
    · exact this
    · exact Iff.rfl
theorem stepC_pure (hrefl : ∀ w, R w w) {i : Nat} {o : Oper} (hi : ms.contains i = false) (h : PureStep P ops Q R phi a0 w0 i o) : StepC P ops Q R phi ms Ss a0 w0 i o := by
  intro listed a w hsz hil hc hn hp hR hS hf ho K hK
  refine h a w hR hf ho K fun v hv => hK v w (hrefl w) hv ?_
  rw [hi, cond_false]
  refine (stOf_congr fun m hm => ?_).1 hS
  rw [bit_set_ne]
  rintro rfl
  rw [List.contains_eq_mem, decide_eq_false_iff_not] at hi
  exact hi hm
/-- All marks are on the way from the i-th of them down. -/
theorem marks_path {m : Nat} : ∀ {ms : List Nat} {ps : List (List Nat)} {listed : Array Bool}, Closed ops listed → marksB ops ms ps = true → ∀ k, ms[k]? = some m → bit listed m = true → ∀ n ∈ ms.take k, bit listed n = true
  | [], _, _, _, _, k, hk, _, _, _ => by simp at hk
  | [x], _, _, _, _, k, hk, _, n, hn => by
    cases k with
    | zero => simp at hn
    | succ k => simp at hk
  | x :: y :: ms, [], _, _, h, _, _, _, _, _ => by cases h
  | x :: y :: ms, p :: ps, listed, hc, h, 0, _, _, n, hn => by simp at hn
  | x :: y :: ms, p :: ps, listed, hc, h, k + 1, hk, hm, n, hn => by
    rw [marksB, Bool.and_eq_true, Bool.and_eq_true] at h
    have ih := marks_path (ms := y :: ms) hc h.2 k (by simpa using hk) hm
    have hy : bit listed y = true := by
      cases k with
      | zero => simp at hk; subst hk; exact hm
      | succ k => exact ih y (by simp)
    rcases List.mem_cons.1 (by simpa using hn) with rfl | hn
    · exact path_up hc h.1.1 (hc y hy) _ (by simpa using h.1.2)
    · exact ih n (by simpa using hn)
/-- In which state an operation is met: the last mark ahead of it is on the path p, the next one's path q comes to it. -/
def stageB (ops : Array Oper) (ms : List Nat) (s i : Nat) (p q : List Nat) : Bool :=
  (s == 0 || (pathB ops (i :: p) && match ms[s - 1]? with | some m => p.contains m | none => false)) && (match ms[s]? with | some m => m == i || (pathB ops (m :: q) && q.contains i) | none => true) && decide (s ≤ ms.length)
theorem stage_of {listed : Array Bool} {i s : Nat} {p q : List Nat} {pss : List (List Nat)} (hms : marksB ops ms pss = true) (hc : Closed ops listed) (hn : bit listed i = false) (hp : ∀ j ∈ prevs ops i, bit listed j = true) (h : stageB ops ms s i p q = true) :
    s ≤ ms.length ∧ (∀ m ∈ ms.take s, bit listed m = true) ∧ ∀ m, ms[s]? = some m → bit listed m = false := by
  unfold stageB at h
  rw [Bool.and_eq_true, Bool.and_eq_true] at h
  obtain ⟨⟨h1, h2⟩, h3⟩ := h
  have h3 : s ≤ ms.length := by simpa using h3
  refine ⟨h3, fun m hm => ?_, fun m hm => ?_⟩
  · rcases Nat.eq_zero_or_pos s with rfl | hs
    · simp at hm
    · have hne : (s == 0) = false := by simp; omega
      rw [hne, Bool.false_or, Bool.and_eq_true] at h1
      cases hl : ms[s - 1]? with
      | none => rw [hl] at h1; cases h1.2
      | some ml =>
        rw [hl] at h1
        have hml : bit listed ml = true := path_up hc h1.1 hp ml (by simpa using h1.2)
        have hall := marks_path hc hms (s - 1) hl hml
        obtain ⟨k, hk, rfl⟩ := List.getElem_of_mem hm
        rw [List.getElem_take]
        rw [List.length_take] at hk
        by_cases hks : k = s - 1
        · subst hks
          obtain ⟨hx, hy⟩ := List.getElem?_eq_some_iff.1 hl
          rw [hy]; exact hml
        · exact hall _ (by rw [List.mem_take_iff_getElem]; exact ⟨k, by omega, rfl⟩)
  · rw [hm, Bool.or_eq_true] at h2
    rcases h2 with h2 | h2
    · obtain rfl : m = i := by simpa using h2
      exact hn
    · rw [Bool.and_eq_true] at h2
      exact path_down hc h2.1 (by simpa using h2.2) hn
theorem stepC_mark {pss : List (List Nat)} (hms : marksB ops ms pss = true) (hnd : ms.Nodup) (hl : Ss.length = ms.length + 1) {i : Nat} {o : Oper} (s : Nat) (p : List Nat) (hst : stageB ops ms s i p [] = true) (hin : ms[s]? = some i)
    (h : MarkStep P ops Q R phi ms (Ss.getD s fun _ _ => True) (Ss.getD (s + 1) fun _ _ => True) a0 w0 i o) : StepC P ops Q R phi ms Ss a0 w0 i o := by
  intro listed a w hsz hil hc hn hp hR hS hf ho K hK
  obtain ⟨h1, h2, h3⟩ := stage_of hms hc hn hp hst
  have hci : ms.contains i = true := by
    rw [List.contains_eq_mem, decide_eq_true_iff]
    exact List.mem_of_getElem? hin
  refine h a w _ rfl hR ((stOf_at s h1 (by omega) h2 h3).1 hS) hf ho K fun v w' hRw hv hS' => hK v w' hRw hv ?_
  rw [hci, cond_true]
  have hs : s < ms.length := (List.getElem?_eq_some_iff.1 hin).1
  have hsi : ms[s] = i := (List.getElem?_eq_some_iff.1 hin).2
  refine (stOf_at (s + 1) hs (by omega) (fun m hm => ?_) (fun m hm => ?_)).2 hS'
  · rw [List.take_add_one, hin] at hm
    rcases List.mem_append.1 hm with hm | hm
    · by_cases hmi : m = i
      · subst hmi; exact bit_set (by omega)
      · rw [bit_set_ne hmi]; exact h2 m hm
    · obtain rfl : m = i := by simpa using hm
      exact bit_set (by omega)
  · have hmi : m ≠ i := by
      rintro rfl
      obtain ⟨hx, hy⟩ := List.getElem?_eq_some_iff.1 hm
      exact List.pairwise_iff_getElem.1 hnd s (s + 1) hs hx (by omega) (hsi.trans hy.symm)
    rw [bit_set_ne hmi]
    cases hb : bit listed m with
    | false => rfl
    | true =>
      have := marks_path hc hms (s + 1) hm hb i (by rw [List.mem_take_iff_getElem]; exact ⟨s, by omega, hsi⟩)
      rw [hn] at this
      cases this
theorem stepC_stay {pss : List (List Nat)} (hms : marksB ops ms pss = true) (hl : Ss.length = ms.length + 1) {i : Nat} {o : Oper} (s : Nat) (p q : List Nat) (hst : stageB ops ms s i p q = true) (hin : ms.contains i = false)
    (h : StayStep P ops Q R phi ms (Ss.getD s fun _ _ => True) a0 w0 i o) : StepC P ops Q R phi ms Ss a0 w0 i o := by
  intro listed a w hsz hil hc hn hp hR hS hf ho K hK
  obtain ⟨h1, h2, h3⟩ := stage_of hms hc hn hp hst
  refine h a w _ rfl hR ((stOf_at s h1 (by omega) h2 h3).1 hS) hf ho K fun v w' hRw hv hS' => hK v w' hRw hv ?_
  rw [hin, cond_false]
  have hne : ∀ m ∈ ms, m ≠ i := by
    rintro m hm rfl
    rw [List.contains_eq_mem, decide_eq_false_iff_not] at hin
    exact hin hm
  refine (stOf_at s h1 (by omega) (fun m hm => ?_) (fun m hm => ?_)).2 hS'
  · rw [bit_set_ne (hne m (List.mem_of_mem_take hm))]; exact h2 m hm
  · rw [bit_set_ne (hne m (List.mem_of_getElem? hm))]; exact h3 m hm

structure InvC (R : World → World → Prop) (phi : List (Value → World → Prop)) (ops : Array Oper) (ms : List Nat) (Ss : List SV) (a0 : Act) (w0 : World) (listed : Array Bool) (a : Act) (w : World) : Prop where
  inv : Inv R phi ops a0 w0 listed a w
  closed : Closed ops listed
  st : stOf ms Ss (bit listed) (mv ms ops a) w
  old2 : ∀ t, (∀ j, dstOf ops j = some t → bit listed j = false) → a.tmps[t]? = a0.tmps[t]?
theorem olds2_of {a : Act} {listed : Array Bool} {i : Nat} (hc : Closed ops listed) (hn : bit listed i = false) (hold : ∀ t, (∀ j, dstOf ops j = some t → bit listed j = false) → a.tmps[t]? = a0.tmps[t]?) : ∀ {ts : List Nat}, (∀ t ∈ ts, t ∈ outer2 ops i) → Olds a0 a ts
  | [], _ => trivial
  | t :: ts, h => by
    refine ⟨?_, olds2_of hc hn hold fun k hk => h k (by simp [hk])⟩
    rw [hold t fun j hj => ?_]
    have h1 := (List.mem_filter.1 (h t (by simp))).2
    have hjs : j < ops.size := by
      rcases Nat.lt_or_ge j ops.size with h' | h'
      · exact h'
      · simp [dstOf, Array.getElem?_eq_none h'] at hj
    have h2 := List.all_eq_true.1 h1 j (List.mem_range.2 hjs)
    rw [hj] at h2
    have h3 : i ∈ prevs ops j := by simpa using h2
    cases hb : bit listed j with
    | false => rfl
    | true => rw [hc j hb i h3] at hn; cases hn

theorem phi_stage (hstab : ∀ j v w w', factOf phi j v w → R w w' → factOf phi j v w') (htr : ∀ a b c, R a b → R b c → R a c)
    (hsh : shape ops a0.tmps.size = true) (hmo : ∀ m ∈ ms, m < ops.size)
    (hstep : ∀ i o, ops[i]? = some o → StepC P ops Q R phi ms Ss a0 w0 i o)
    (hend : ∀ (vals : Nat → Value) (w : World), R w0 w → stOf ms Ss (fun _ => true) (fun j => bif ms.contains j then atV ops vals j else undef) w → (∀ j, j < ops.size → factOf phi j ((dstOf ops j).elim undef vals) w) → Q .normal ⟨fill vals (ops.toList.filterMap (·.dst)) a0.tmps, a0.defers⟩ w) :
    ∀ (fuel : Nat) (listed : Array Bool) (a : Act) (w : World), listed.size = ops.size → (listed.toList.countP (· == false)) ≤ fuel → InvC R phi ops ms Ss a0 w0 listed a w → wpAny P .any ops Q fuel listed a w := by
  obtain ⟨hs1, hs2⟩ := shape_spec hsh
  have hdone : ∀ (listed : Array Bool) (a : Act) (w : World), listed.size = ops.size → InvC R phi ops ms Ss a0 w0 listed a w → Region.ready .any ops listed = [] → Q .normal a w := by
    intro listed a w hsz hinvc hr
    have hinv := hinvc.inv
    have hall : ∀ n, ∀ j, j < n → j < ops.size → listed.getD j false = true := by
      intro n
      induction n with
      | zero => intro j hj; omega
      | succ n ih =>
        intro j hj hjs
        rcases Nat.lt_succ_iff_lt_or_eq.1 hj with hj | rfl
        · exact ih j hj hjs
        · by_cases hl : listed.getD j false = true
          · exact hl
          · exfalso
            have hmem : j ∈ Region.ready .any ops listed := by
              rw [mem_ready]
              refine ⟨?_, ops[j], by simp [hjs], fun e he hb => ?_⟩
              · have : j < listed.size := by omega
                simp [this] at hl ⊢
                exact hl
              · have hp : e.on ∈ prevs ops j := by
                  simp only [prevs, Array.getElem?_eq_getElem hjs, Option.map_some, Option.getD_some]
                  exact List.mem_map.2 ⟨e, List.mem_filter.2 ⟨by simpa using he, hb⟩, rfl⟩
                have := hs1 j e.on hp
                exact ih e.on this (by omega)
            rw [hr] at hmem
            cases hmem
    have ha : a = ⟨fill (fun t => a.tmps[t]?.getD undef) (ops.toList.filterMap (·.dst)) a0.tmps, a0.defers⟩ := by
      cases a with
      | mk tmps defers =>
        have hd := hinv.defers
        have hsize := hinv.size
        have hold := hinv.old
        simp only at hd hsize hold
        subst hd
        congr 1
        refine Array.ext_getElem? fun k => ?_
        rw [fill_get]
        split
        · rename_i hk
          have : k < tmps.size := by omega
          simp [this]
        · rename_i hk
          by_cases hks : k < a0.tmps.size
          · refine hold k fun j hj => hk ⟨?_, hks⟩
            cases ho : ops[j]? with
            | none => simp [dstOf, ho] at hj
            | some o =>
              simp [dstOf, ho] at hj
              exact List.mem_filterMap.2 ⟨o, by simpa using Array.mem_of_getElem? ho, hj⟩
          · rw [Array.getElem?_eq_none (by omega), Array.getElem?_eq_none (by omega)]
    rw [ha]
    refine hend _ w hinv.hR ?_ fun j hj => hinv.fact j (hall (j + 1) j (by omega) hj)
    exact (stOf_congr fun m hm => hall (m + 1) m (by omega) (hmo m hm)).1 hinvc.st
  intro fuel
  induction fuel with
  | zero =>
    intro listed a w hsz hc hinv
    have hr : Region.ready .any ops listed = [] := by
      rw [List.eq_nil_iff_forall_not_mem]
      intro j hj
      obtain ⟨h0, o, ho, -⟩ := mem_ready.1 hj
      have hj' : j < listed.size := hsz ▸ (Array.getElem?_eq_some_iff.1 ho).1
      have : 0 < listed.toList.countP (· == false) := List.countP_pos_iff.2 ⟨listed[j], by simp, by simpa [hj'] using h0⟩
      omega
    exact ⟨hr, hdone listed a w hsz hinv hr⟩
  | succ fuel ih =>
    intro listed a w hsz hc hinvc
    have hinv := hinvc.inv
    refine ⟨hdone listed a w hsz hinvc, fun i hi => ?_⟩
    obtain ⟨h0, o, ho, hall⟩ := mem_ready.1 hi
    have his : i < ops.size := (Array.getElem?_eq_some_iff.1 ho).1
    have hil : i < listed.size := by omega
    have hpre : ∀ j ∈ prevs ops i, listed.getD j false = true := fun j hj => by
      simp only [prevs, ho, Option.map_some, Option.getD_some] at hj
      obtain ⟨e, he, rfl⟩ := List.mem_map.1 hj
      obtain ⟨h1, h2⟩ := List.mem_filter.1 he
      exact hall e (by simpa using h1) h2
    have hbi : bit listed i = false := by unfold bit; simpa [hil] using h0
    have hst := hstep i o ho listed a w hsz his hinvc.closed hbi hpre hinv.hR hinvc.st (facts_of fun j hj => hinv.fact j (hpre j hj)) (olds2_of hinvc.closed hbi hinvc.old2 fun t ht => ht)
    have hdo : dstOf ops i = o.dst := by simp [dstOf, ho]
    have hcl : Closed ops (listed.setIfInBounds i true) := fun k hk j hj => by
      have hlist : bit listed j = true := by
        by_cases hki : k = i
        · subst hki; exact hpre j hj
        · exact hinvc.closed k (by rw [← bit_set_ne hki]; exact hk) j hj
      by_cases hji : j = i
      · subst hji; exact bit_set hil
      · rw [bit_set_ne hji]; exact hlist
    have hK : ∀ v w', R w w' → factOf phi i (o.dst.elim undef fun _ => v) w' → stOf ms Ss (bit (listed.setIfInBounds i true)) (bif ms.contains i then upd (mv ms ops a) i (o.dst.elim undef fun _ => v) else mv ms ops a) w' → wpAny P .any ops Q fuel (listed.setIfInBounds i true) (a.put o.dst v) w' := fun v w' hR hv hS => by
      have hmv : (bif ms.contains i then upd (mv ms ops a) i (o.dst.elim undef fun _ => v) else mv ms ops a) = mv ms ops (a.put o.dst v) := by
        funext j
        by_cases hji : j = i
        · subst hji
          cases hc : ms.contains j with
          | false => rw [cond_false]; unfold mv; rw [hc, cond_false, cond_false]
          | true =>
            rw [cond_true]
            unfold upd mv atV
            rw [hc, cond_true, show (j == j) = true by simp, cond_true, hdo]
            cases h : o.dst with
            | none => rfl
            | some d =>
              have hd : d < a.tmps.size := by rw [hinv.size]; exact (hs2 j d (by rw [hdo, h])).1
              simp [Act.put, hd]
        · have hx : mv ms ops (a.put o.dst v) j = mv ms ops a j := by
            unfold mv
            cases ms.contains j with
            | false => rfl
            | true =>
              simp only [cond_true]
              unfold atV
              cases hd : dstOf ops j with
              | none => rfl
              | some t =>
                simp only [Option.elim_some]
                cases h : o.dst with
                | none => rfl
                | some d =>
                  have hne : d ≠ t := fun e => (hs2 i d (by rw [hdo, h])).2 j hji (by rw [hd, e])
                  simp [Act.put, Array.getElem?_setIfInBounds_ne hne]
          rw [hx]
          cases ms.contains i with
          | false => rfl
          | true =>
            rw [cond_true]
            unfold upd
            rw [show (j == i) = false by simpa using hji, cond_false]
      rw [hmv] at hS
      refine ih _ _ _ (by simp [hsz]) ?_ ⟨?_, hcl, hS, ?_⟩
      · have hlt : (listed.setIfInBounds i true).toList.countP (· == false) < listed.toList.countP (· == false) := by
          rw [Array.toList_setIfInBounds]
          have hli : listed.toList[i]? = some false := by
            rw [Array.getElem?_toList, Array.getElem?_eq_getElem hil]
            simpa [hil] using h0
          have hgen : ∀ (l : List Bool) (i : Nat), l[i]? = some false → (l.set i true).countP (· == false) < l.countP (· == false) := by
            intro l
            induction l with
            | nil => intro i h; simp at h
            | cons b l ihl =>
              intro i h
              cases i with
              | zero => simp at h; subst h; simp
              | succ i =>
                have := ihl i (by simpa using h)
                simp only [List.set_cons_succ, List.countP_cons]
                omega
          exact hgen _ i hli
        omega
      · refine ⟨htr _ _ _ hinv.hR hR, ?_, ?_, fun t ht => ?_, fun j hj => ?_⟩
        · cases h : o.dst <;> simp [Act.put, hinv.size]
        · cases h : o.dst <;> simp [Act.put, hinv.defers]
        · rw [← hinv.old t ht]
          cases h : o.dst with
          | none => rfl
          | some d =>
            have : d ≠ t := fun e => ht i (by rw [hdo, h, e])
            simp [Act.put, Array.getElem?_setIfInBounds_ne this]
        · by_cases hji : j = i
          · subst hji
            unfold Fact
            rw [hdo]
            cases h : o.dst with
            | none => rw [h] at hv; exact hv
            | some d =>
              rw [h] at hv
              have hd : d < a.tmps.size := by rw [hinv.size]; exact (hs2 j d (by rw [hdo, h])).1
              simpa [Act.put, hd] using hv
          · have hjl : listed.getD j false = true := by
              rwa [getD_set_ne false (Ne.symm hji)] at hj
            have hf := hstab j _ w w' (hinv.fact j hjl) hR
            unfold Fact at hf ⊢
            cases hd : dstOf ops j with
            | none => rw [hd] at hf; exact hf
            | some t =>
              rw [hd] at hf
              simp only [Option.elim_some] at hf ⊢
              cases h : o.dst with
              | none => exact hf
              | some d =>
                have hne : d ≠ t := fun e => (hs2 i d (by rw [hdo, h])).2 j hji (by rw [hd, e])
                simpa [Act.put, Array.getElem?_setIfInBounds_ne hne] using hf
      · intro t ht
        have hdi : o.dst ≠ some t := fun e => by
          have := ht i (by rw [hdo, e])
          rw [bit_set hil] at this
          cases this
        rw [← hinvc.old2 t fun j hj => ?_]
        · cases h : o.dst with
          | none => rfl
          | some d =>
            have : d ≠ t := fun e => hdi (by rw [h, e])
            simp [Act.put, Array.getElem?_setIfInBounds_ne this]
        · by_cases hji : j = i
          · subst hji; exact hbi
          · rw [← bit_set_ne hji]; exact ht j hj
    have := hst _ hK
    unfold wpOp
    simp only [ho, seen_eq]
    split
    · rename_i hw; rw [if_pos hw] at this; exact .inl this
    · rename_i hw; rw [if_neg hw] at this; exact this

def StepsC (P : Program) (ops : Array Oper) (Q : Exit → Act → World → Prop) (R : World → World → Prop) (phi : List (Value → World → Prop)) (ms : List Nat) (Ss : List SV) (a0 : Act) (w0 : World) : Nat → List Oper → Prop
  | _, [] => True
  | i, o :: os => StepC P ops Q R phi ms Ss a0 w0 i o ∧ StepsC P ops Q R phi ms Ss a0 w0 (i + 1) os
theorem stepsC_get (os : List Oper) : ∀ n, StepsC P ops Q R phi ms Ss a0 w0 n os → ∀ i o, os[i]? = some o → StepC P ops Q R phi ms Ss a0 w0 (n + i) o := by
  induction os with
  | nil => intro n _ i o ho; simp at ho
  | cons o os ih =>
    intro n h i o' ho
    rw [StepsC] at h
    cases i with
    | zero =>
      rw [List.getElem?_cons_zero] at ho
      cases ho
      exact h.1
    | succ i =>
      rw [List.getElem?_cons_succ] at ho
      have := ih (n + 1) h.2 i o' ho
      rwa [show n + 1 + i = n + (i + 1) by omega] at this
/-- All that is to be shown of a region. -/
structure ObS (P : Program) (ops : Array Oper) (Q : Exit → Act → World → Prop) (R : World → World → Prop) (ms : List Nat) (Ss : List SV) (a0 : Act) (w : World) (ds : List Nat) (phi : List (Value → World → Prop)) : Prop where
  steps : StepsC P ops Q R phi ms Ss a0 w.drew 0 ops.toList
  stab : Stables R phi
  ends : ∀ (vals : Nat → Value) (w' : World) (u : Nat → Value), u = (fun j => bif ms.contains j then atV ops vals j else undef) → R w.drew w' → stOf ms Ss (fun _ => true) u w' → (∀ j, j < ops.size → factOf phi j ((dstOf ops j).elim undef vals) w') → Q .normal ⟨fill vals ds a0.tmps, a0.defers⟩ w'
theorem wp_region_stage {id : Nat} {w : World} (R : World → World → Prop) (ms : List Nat) (Ss : List SV) (ds : List Nat) (hm : P.follows .mixedOrders = true)
    (hrefl : ∀ w, R w w) (htr : ∀ a b c, R a b → R b c → R a c) (hsh : shape ops a0.tmps.size = true) (hmo : (ms.all fun m => decide (m < ops.size)) = true) (hds : ops.toList.filterMap (·.dst) = ds)
    (hS : stOf ms Ss (fun _ => false) (mv ms ops a0) w.drew) (h : ∃ phi, ObS P ops Q R ms Ss a0 w ds phi) : (Code.region id ops true).wp P Q a0 w := by
  obtain ⟨phi, h⟩ := h
  subst hds
  have hb : ∀ j, (Array.replicate ops.size false).getD j false = false := fun j => by
    simp only [Array.getD_eq_getD_getElem?, Array.getElem?_replicate]
    split <;> rfl
  refine wp_region_any hm (phi_stage (w0 := w.drew) (ms := ms) (Ss := Ss) (stables_get h.stab) htr hsh (fun m hm => by simpa using List.all_eq_true.1 hmo m hm) (fun i o ho => ?_) (fun vals w' => h.ends vals w' _ rfl) _ _ _ _ (by simp) ?_ ?_)
  · have := stepsC_get ops.toList 0 h.steps i o (by simpa using ho)
    rwa [Nat.zero_add] at this
  · have := List.countP_le_length (p := (· == false)) (l := (Array.replicate ops.size false).toList)
    simpa using this
  · refine ⟨⟨hrefl _, rfl, rfl, fun _ _ => rfl, fun j hj => ?_⟩, fun i hi => ?_, (stOf_congr fun m _ => ?_).1 hS, fun _ _ => rfl⟩
    · rw [hb] at hj; cases hj
    · unfold bit at hi; rw [hb] at hi; cases hi
    · unfold bit; rw [hb]
end
theorem eval_get {a : Act} {t : Nat} {v : Value} (h : a.tmps[t]?.getD undef = v) : a.eval (.tmp t) = v := by simp [Act.eval, h]
end Go.Proofs.Ytpjlhkepdiajjaa

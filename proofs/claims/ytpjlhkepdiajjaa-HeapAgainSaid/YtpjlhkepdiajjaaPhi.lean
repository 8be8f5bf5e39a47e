
/- A statement that draws the order of its operations, with one fact for each operation. -/
import Derived.Test.YtpjlhkepdiajjaaBase
import Derived.Orders
set_option linter.all false
namespace Go.Proofs.Ytpjlhkepdiajjaa
open Go.RowKit

/-- What operation j yields goes to this slot. -/
def dstOf (ops : Array Oper) (j : Nat) : Option Nat := (ops[j]?).bind (·.dst)
def factOf (phi : List (Value → World → Prop)) (j : Nat) : Value → World → Prop := phi.getD j fun _ _ => True
/-- The fact of operation j. -/
def Fact (phi : List (Value → World → Prop)) (ops : Array Oper) (a : Act) (w : World) (j : Nat) : Prop := factOf phi j ((dstOf ops j).elim undef fun t => a.tmps[t]?.getD undef) w
def Facts (phi : List (Value → World → Prop)) (ops : Array Oper) (a : Act) (w : World) : List Nat → Prop
  | [] => True
  | j :: js => Fact phi ops a w j ∧ Facts phi ops a w js
theorem facts_of {phi : List (Value → World → Prop)} {ops : Array Oper} {a : Act} {w : World} : ∀ {js : List Nat}, (∀ j ∈ js, Fact phi ops a w j) → Facts phi ops a w js
  | [], _ => trivial
  | j :: js, h => ⟨h j (by simp), facts_of fun k hk => h k (by simp [hk])⟩
/-- Slots that the region does not write. -/
def Olds (a0 a : Act) : List Nat → Prop
  | [] => True
  | t :: ts => a.tmps[t]?.getD undef = a0.tmps[t]?.getD undef ∧ Olds a0 a ts

def boolOf : Value → Option Bool
  | .bool b => some b
  | _ => none
def seen (ops : Array Oper) (tmps : Array Value) (j : Nat) : Option Bool := boolOf ((dstOf ops j).elim undef fun t => tmps[t]?.getD undef)
theorem seen_eq (ops : Array Oper) (tmps : Array Value) : yielded ops tmps = seen ops tmps := by
  funext j
  unfold yielded seen dstOf
  cases (ops[j]?).bind (·.dst) with
  | none => rfl
  | some t =>
    simp only [Option.bind_some, Option.elim_some]
    cases tmps[t]? with
    | none => rfl
    | some v => cases v <;> rfl

/-- One operation: it yields what has its fact, and the world is as R says. -/
def OpStep (P : Program) (ops : Array Oper) (Q : Exit → Act → World → Prop) (R : World → World → Prop) (f : Value → World → Prop) (o : Oper) (a : Act) (w : World) : Prop :=
  ∀ K : Act → World → Prop, (∀ v w', R w w' → f (o.dst.elim undef fun _ => v) w' → K (a.put o.dst v) w') →
    if Region.wanted o (seen ops a.tmps) = true then o.wp P a w K Q else K (a.put o.dst undef) w

/-- What operation number i looks at. -/
def prevs (ops : Array Oper) (i : Nat) : List Nat := (((ops[i]?).map fun o => (o.after.toList.filter (Region.binds .any)).map (·.on)).getD [])
def reads (ops : Array Oper) (i : Nat) : List Nat := ((ops[i]?).map fun o => o.op.operands.toList.filterMap fun | .tmp t => some t | _ => none).getD []
/-- The slots that operation number i reads, and no operation of the region writes. -/
def outer (ops : Array Oper) (i : Nat) : List Nat := (reads ops i).filter fun t => ops.toList.all fun o => o.dst != some t

def StepAt (P : Program) (ops : Array Oper) (Q : Exit → Act → World → Prop) (R : World → World → Prop) (phi : List (Value → World → Prop)) (a0 : Act) (w0 : World) (i : Nat) (o : Oper) : Prop :=
  ∀ (a : Act) (w : World), R w0 w → Facts phi ops a w (prevs ops i) → Olds a0 a (outer ops i) → OpStep P ops Q R (factOf phi i) o a w
def Steps' (P : Program) (ops : Array Oper) (Q : Exit → Act → World → Prop) (R : World → World → Prop) (phi : List (Value → World → Prop)) (a0 : Act) (w0 : World) : Nat → List Oper → Prop
  | _, [] => True
  | i, o :: os => StepAt P ops Q R phi a0 w0 i o ∧ Steps' P ops Q R phi a0 w0 (i + 1) os
theorem steps_get {P : Program} {ops : Array Oper} {Q : Exit → Act → World → Prop} {R : World → World → Prop} {phi : List (Value → World → Prop)} {a0 : Act} {w0 : World} (os : List Oper) :
    ∀ n, Steps' P ops Q R phi a0 w0 n os → ∀ i o, os[i]? = some o → StepAt P ops Q R phi a0 w0 (n + i) o := by
  induction os with
  | nil => intro n _ i o ho; simp at ho
  | cons o os ih =>
    intro n h i o' ho
    rw [Steps'] at h
    cases i with
    | zero =>
      rw [List.getElem?_cons_zero] at ho
      cases ho
      exact h.1
    | succ i =>
      rw [List.getElem?_cons_succ] at ho
      have := ih (n + 1) h.2 i o' ho
      rwa [show n + 1 + i = n + (i + 1) by omega] at this

/-- Each operation waits for earlier ones alone; each slot is written once, and there; -/
def shape (ops : Array Oper) (size : Nat) : Bool :=
  (List.range ops.size).all fun i => ((prevs ops i).all fun j => decide (j < i)) && match dstOf ops i with
    | none => true
    | some t => decide (t < size) && (List.range ops.size).all fun j => j == i || dstOf ops j != some t

theorem shape_spec {ops : Array Oper} {size : Nat} (h : shape ops size = true) : (∀ i j, j ∈ prevs ops i → j < i) ∧ (∀ i t, dstOf ops i = some t → t < size ∧ ∀ j, j ≠ i → dstOf ops j ≠ some t) := by
  have hlt : ∀ i t, dstOf ops i = some t → i < ops.size := fun i t ht => by
    rcases Nat.lt_or_ge i ops.size with h' | h'
    · exact h'
    · simp [dstOf, Array.getElem?_eq_none h'] at ht
  refine ⟨fun i j hj => ?_, fun i t ht => ?_⟩
  · have hi : i < ops.size := by
      rcases Nat.lt_or_ge i ops.size with h' | h'
      · exact h'
      · simp [prevs, Array.getElem?_eq_none h'] at hj
    have := List.all_eq_true.1 h i (List.mem_range.2 hi)
    rw [Bool.and_eq_true] at this
    simpa using List.all_eq_true.1 this.1 j hj
  · have := List.all_eq_true.1 h i (List.mem_range.2 (hlt i t ht))
    rw [Bool.and_eq_true, ht] at this
    have h2 := this.2
    simp only [Bool.and_eq_true, decide_eq_true_eq] at h2
    refine ⟨h2.1, fun j hj hd => ?_⟩
    have := List.all_eq_true.1 h2.2 j (List.mem_range.2 (hlt j t hd))
    simp [hj, hd] at this

/-- The slots behind the region. -/
def fill (vals : Nat → Value) : List Nat → Array Value → Array Value
  | [], t => t
  | d :: ds, t => fill vals ds (t.setIfInBounds d (vals d))

theorem fill_size (vals : Nat → Value) : ∀ (ds : List Nat) (t : Array Value), (fill vals ds t).size = t.size
  | [], _ => rfl
  | d :: ds, t => by rw [fill, fill_size]; simp
theorem fill_get (vals : Nat → Value) : ∀ (ds : List Nat) (t : Array Value) (k : Nat), (fill vals ds t)[k]? = if k ∈ ds ∧ k < t.size then some (vals k) else t[k]?
  | [], _, _ => by simp [fill]
  | d :: ds, t, k => by
    rw [fill, fill_get vals ds]
    by_cases hk : k < t.size
    · by_cases h1 : k ∈ ds
      · simp [h1, hk]
      · by_cases h2 : k = d
        · subst h2; simp [h1, hk]
        · rw [if_neg (by simp [h1]), if_neg (by simp [h1, h2]), Array.getElem?_setIfInBounds_ne (Ne.symm h2)]
    · have h0 : t[k]? = none := Array.getElem?_eq_none (by omega)
      simp [hk]

section
variable {P : Program} {ops : Array Oper} {Q : Exit → Act → World → Prop} {R : World → World → Prop} {phi : List (Value → World → Prop)} {a0 : Act} {w0 : World}

structure Inv (R : World → World → Prop) (phi : List (Value → World → Prop)) (ops : Array Oper) (a0 : Act) (w0 : World) (listed : Array Bool) (a : Act) (w : World) : Prop where
  hR : R w0 w
  size : a.tmps.size = a0.tmps.size
  defers : a.defers = a0.defers
  old : ∀ t, (∀ j, dstOf ops j ≠ some t) → a.tmps[t]? = a0.tmps[t]?
  fact : ∀ j, listed.getD j false = true → Fact phi ops a w j

theorem dst_outer {i t : Nat} (h : t ∈ outer ops i) (j : Nat) : dstOf ops j ≠ some t := by
  intro hd
  have h1 := (List.mem_filter.1 h).2
  cases ho : ops[j]? with
  | none => simp [dstOf, ho] at hd
  | some o =>
    have := List.all_eq_true.1 h1 o (by simpa using Array.mem_of_getElem? ho)
    simp [dstOf, ho] at hd
    simp [hd] at this

theorem olds_of {a : Act} (hold : ∀ t, (∀ j, dstOf ops j ≠ some t) → a.tmps[t]? = a0.tmps[t]?) {i : Nat} : ∀ {ts : List Nat}, (∀ t ∈ ts, t ∈ outer ops i) → Olds a0 a ts
  | [], _ => trivial
  | t :: ts, h => ⟨by rw [hold t (dst_outer (h t (by simp)))], olds_of hold fun k hk => h k (by simp [hk])⟩

theorem phi_any (hstab : ∀ j v w w', factOf phi j v w → R w w' → factOf phi j v w') (htr : ∀ a b c, R a b → R b c → R a c)
    (hsh : shape ops a0.tmps.size = true)
    (hstep : ∀ i o, ops[i]? = some o → StepAt P ops Q R phi a0 w0 i o)
    (hend : ∀ (vals : Nat → Value) (w : World), R w0 w → (∀ j, j < ops.size → factOf phi j ((dstOf ops j).elim undef vals) w) → Q .normal ⟨fill vals (ops.toList.filterMap (·.dst)) a0.tmps, a0.defers⟩ w) :
    ∀ (fuel : Nat) (listed : Array Bool) (a : Act) (w : World), listed.size = ops.size → (listed.toList.countP (· == false)) ≤ fuel → Inv R phi ops a0 w0 listed a w → wpAny P .any ops Q fuel listed a w := by
  obtain ⟨hs1, hs2⟩ := shape_spec hsh
  -- what stands when nothing is ready
  have hdone : ∀ (listed : Array Bool) (a : Act) (w : World), listed.size = ops.size → Inv R phi ops a0 w0 listed a w → Region.ready .any ops listed = [] → Q .normal a w := by
    intro listed a w hsz hinv hr
    have hall : ∀ n, ∀ j, j < n → j < ops.size → listed.getD j false = true := by
      intro n
      induction n with
      | zero => intro j hj; omega
      | succ n ih =>
        intro j hj hjs
        rcases Nat.lt_succ_iff_lt_or_eq.1 hj with hj | rfl
        · exact ih j hj hjs
        · by_cases hl : listed.getD j false = true
          · exact hl
          · exfalso
            have hmem : j ∈ Region.ready .any ops listed := by
              rw [mem_ready]
              refine ⟨?_, ops[j], by simp [hjs], fun e he hb => ?_⟩
              · have : j < listed.size := by omega
                simp [this] at hl ⊢
                exact hl
              · have hp : e.on ∈ prevs ops j := by
                  simp only [prevs, Array.getElem?_eq_getElem hjs, Option.map_some, Option.getD_some]
                  exact List.mem_map.2 ⟨e, List.mem_filter.2 ⟨by simpa using he, hb⟩, rfl⟩
                have := hs1 j e.on hp
                exact ih e.on this (by omega)
            rw [hr] at hmem
            cases hmem
    have ha : a = ⟨fill (fun t => a.tmps[t]?.getD undef) (ops.toList.filterMap (·.dst)) a0.tmps, a0.defers⟩ := by
      cases a with
      | mk tmps defers =>
        have hd := hinv.defers
        have hsize := hinv.size
        have hold := hinv.old
        simp only at hd hsize hold
        subst hd
        congr 1
        refine Array.ext_getElem? fun k => ?_
        rw [fill_get]
        split
        · rename_i hk
          have : k < tmps.size := by omega
          simp [this]
        · rename_i hk
          by_cases hks : k < a0.tmps.size
          · refine hold k fun j hj => hk ⟨?_, hks⟩
            cases ho : ops[j]? with
            | none => simp [dstOf, ho] at hj
            | some o =>
              simp [dstOf, ho] at hj
              exact List.mem_filterMap.2 ⟨o, by simpa using Array.mem_of_getElem? ho, hj⟩
          · rw [Array.getElem?_eq_none (by omega), Array.getElem?_eq_none (by omega)]
    rw [ha]
    exact hend _ w hinv.hR fun j hj => hinv.fact j (hall (j + 1) j (by omega) hj)
  intro fuel
  induction fuel with
  | zero =>
    intro listed a w hsz hc hinv
    have hr : Region.ready .any ops listed = [] := by
      rw [List.eq_nil_iff_forall_not_mem]
      intro j hj
      obtain ⟨h0, o, ho, -⟩ := mem_ready.1 hj
      have hj' : j < listed.size := hsz ▸ (Array.getElem?_eq_some_iff.1 ho).1
      have : 0 < listed.toList.countP (· == false) := List.countP_pos_iff.2 ⟨listed[j], by simp, by simpa [hj'] using h0⟩
      omega
    exact ⟨hr, hdone listed a w hsz hinv hr⟩
  | succ fuel ih =>
    intro listed a w hsz hc hinv
    refine ⟨hdone listed a w hsz hinv, fun i hi => ?_⟩
    obtain ⟨h0, o, ho, hall⟩ := mem_ready.1 hi
    have his : i < ops.size := (Array.getElem?_eq_some_iff.1 ho).1
    have hil : i < listed.size := by omega
    have hpre : ∀ j ∈ prevs ops i, listed.getD j false = true := fun j hj => by
      simp only [prevs, ho, Option.map_some, Option.getD_some] at hj
      obtain ⟨e, he, rfl⟩ := List.mem_map.1 hj
      obtain ⟨h1, h2⟩ := List.mem_filter.1 he
      exact hall e (by simpa using h1) h2
    have hst := hstep i o ho a w hinv.hR (facts_of fun j hj => hinv.fact j (hpre j hj)) (olds_of hinv.old fun t ht => ht)
    have hdo : dstOf ops i = o.dst := by simp [dstOf, ho]
    have hK : ∀ v w', R w w' → factOf phi i (o.dst.elim undef fun _ => v) w' → wpAny P .any ops Q fuel (listed.setIfInBounds i true) (a.put o.dst v) w' := fun v w' hR hv => by
      refine ih _ _ _ (by simp [hsz]) ?_ ?_
      · have hlt : (listed.setIfInBounds i true).toList.countP (· == false) < listed.toList.countP (· == false) := by
          rw [Array.toList_setIfInBounds]
          have hli : listed.toList[i]? = some false := by
            rw [Array.getElem?_toList, Array.getElem?_eq_getElem hil]
            simpa [hil] using h0
          have hgen : ∀ (l : List Bool) (i : Nat), l[i]? = some false → (l.set i true).countP (· == false) < l.countP (· == false) := by
            intro l
            induction l with
            | nil => intro i h; simp at h
            | cons b l ihl =>
              intro i h
              cases i with
              | zero => simp at h; subst h; simp
              | succ i =>
                have := ihl i (by simpa using h)
                simp only [List.set_cons_succ, List.countP_cons]
                omega
          exact hgen _ i hli
        omega
      · refine ⟨htr _ _ _ hinv.hR hR, ?_, ?_, fun t ht => ?_, fun j hj => ?_⟩
        · cases h : o.dst <;> simp [Act.put, hinv.size]
        · cases h : o.dst <;> simp [Act.put, hinv.defers]
        · rw [← hinv.old t ht]
          cases h : o.dst with
          | none => rfl
          | some d =>
            have : d ≠ t := fun e => ht i (by rw [hdo, h, e])
            simp [Act.put, Array.getElem?_setIfInBounds_ne this]
        · by_cases hji : j = i
          · subst hji
            unfold Fact
            rw [hdo]
            cases h : o.dst with
            | none => rw [h] at hv; exact hv
            | some d =>
              rw [h] at hv
              have hd : d < a.tmps.size := by rw [hinv.size]; exact (hs2 j d (by rw [hdo, h])).1
              simpa [Act.put, hd] using hv
          · have hjl : listed.getD j false = true := by
              rwa [getD_set_ne false (Ne.symm hji)] at hj
            have hf := hstab j _ w w' (hinv.fact j hjl) hR
            unfold Fact at hf ⊢
            cases hd : dstOf ops j with
            | none => rw [hd] at hf; exact hf
            | some t =>
              rw [hd] at hf
              simp only [Option.elim_some] at hf ⊢
              cases h : o.dst with
              | none => exact hf
              | some d =>
                have hne : d ≠ t := fun e => (hs2 i d (by rw [hdo, h])).2 j hji (by rw [hd, e])
                simpa [Act.put, Array.getElem?_setIfInBounds_ne hne] using hf
    have := hst _ hK
    unfold wpOp
    simp only [ho, seen_eq]
    split
    · rename_i hw; rw [if_pos hw] at this; exact .inl this
    · rename_i hw; rw [if_neg hw] at this; exact this

theorem wp_region_phi {id : Nat} {w : World} (R : World → World → Prop) (phi : List (Value → World → Prop)) (ds : List Nat) (hm : P.follows .mixedOrders = true)
    (hrefl : ∀ w, R w w) (htr : ∀ a b c, R a b → R b c → R a c) (hstab : ∀ j v w w', factOf phi j v w → R w w' → factOf phi j v w')
    (hsh : shape ops a0.tmps.size = true) (hds : ops.toList.filterMap (·.dst) = ds) (hsteps : Steps' P ops Q R phi a0 w.drew 0 ops.toList)
    (hend : ∀ (vals : Nat → Value) (w' : World), R w.drew w' → (∀ j, j < ops.size → factOf phi j ((dstOf ops j).elim undef vals) w') → Q .normal ⟨fill vals ds a0.tmps, a0.defers⟩ w') :
    (Code.region id ops true).wp P Q a0 w := by
  subst hds
  refine wp_region_any hm (phi_any (w0 := w.drew) hstab htr hsh (fun i o ho => ?_) hend _ _ _ _ (by simp) ?_ ?_)
  · have := steps_get ops.toList 0 hsteps i o (by simpa using ho)
    rwa [Nat.zero_add] at this
  · have := List.countP_le_length (p := (· == false)) (l := (Array.replicate ops.size false).toList)
    simpa using this
  · refine ⟨hrefl _, rfl, rfl, fun _ _ => rfl, fun j hj => ?_⟩
    simp only [Array.getD_eq_getD_getElem?, Array.getElem?_replicate] at hj
    split at hj <;> simp at hj
end
/-- It is this value. -/
def Is (u : Value) : Value → World → Prop := fun v _ => v = u
def Stables (R : World → World → Prop) : List (Value → World → Prop) → Prop
  | [] => True
  | f :: fs => (∀ v w w', f v w → R w w' → f v w') ∧ Stables R fs
theorem is_stable {R : World → World → Prop} {u : Value} : ∀ v w w', Is u v w → R w w' → Is u v w' := fun _ _ _ h _ => h
theorem stables_get {R : World → World → Prop} : ∀ {phi : List (Value → World → Prop)}, Stables R phi → ∀ j v w w', factOf phi j v w → R w w' → factOf phi j v w'
  | [], _, _, _, _, _, h, _ => h
  | _ :: _, h, 0, v, w, w', hf, hR => h.1 v w w' hf hR
  | _ :: _, h, j + 1, v, w, w', hf, hR => stables_get h.2 j v w w' hf hR

theorem ext_drew {w W : World} (h : Ext w.drew W) : Ext w W := (Ext.drew (Below.refl _ w)).then h
/-- The cells of a block that lies as it lay. -/
theorem lie4 {w W : World} {b : Nat} {v0 v1 v2 v3 : Value} {t : TypeId} (hB : w.heap[b]? = some (.cells #[v0, v1, v2, v3] t)) (hE : Ext w W) :
    W.cell? ⟨b, 0, none⟩ = some v0 ∧ W.cell? ⟨b, 1, none⟩ = some v1 ∧ W.cell? ⟨b, 2, none⟩ = some v2 ∧ W.cell? ⟨b, 3, none⟩ = some v3 := by
  have h := (hE.block b (Array.getElem?_eq_some_iff.1 hB).1).trans hB
  exact ⟨cell_of_row _ _ 0 _ _ _ h, cell_of_row _ _ 1 _ _ _ h, cell_of_row _ _ 2 _ _ _ h, cell_of_row _ _ 3 _ _ _ h⟩
/-- A new block lies as it was laid. -/
theorem new_lies {w W : World} {o : Obj} (hE : Ext (w.alloc o) W) : W.heap[w.heap.size]? = some o := (hE.block _ (by simp)).trans (heap_alloc_new w o)

theorem new_at {w W : World} {o : Obj} {b : Nat} (hb : b = w.heap.size) (hE : Ext (w.alloc o) W) : W.heap[b]? = some o := hb ▸ new_lies hE

/-- All that is to be shown of a region. -/
structure Obl (P : Program) (ops : Array Oper) (Q : Exit → Act → World → Prop) (R : World → World → Prop) (a0 : Act) (w : World) (ds : List Nat) (phi : List (Value → World → Prop)) : Prop where
  steps : Steps' P ops Q R phi a0 w.drew 0 ops.toList
  stab : Stables R phi
  ends : ∀ (vals : Nat → Value) (w' : World), R w.drew w' → (∀ j, j < ops.size → factOf phi j ((dstOf ops j).elim undef vals) w') → Q .normal ⟨fill vals ds a0.tmps, a0.defers⟩ w'
theorem wp_region_obl {P : Program} {ops : Array Oper} {Q : Exit → Act → World → Prop} {a0 : Act} {id : Nat} {w : World} (R : World → World → Prop) (ds : List Nat) (hm : P.follows .mixedOrders = true)
    (hrefl : ∀ w, R w w) (htr : ∀ a b c, R a b → R b c → R a c) (hsh : shape ops a0.tmps.size = true) (hds : ops.toList.filterMap (·.dst) = ds)
    (h : ∃ phi, Obl P ops Q R a0 w ds phi) : (Code.region id ops true).wp P Q a0 w := by
  obtain ⟨phi, h⟩ := h
  exact wp_region_phi R phi ds hm hrefl htr (stables_get h.stab) hsh hds h.steps h.ends
theorem ex_is {O : List (Value → World → Prop) → Prop} (h : ∃ u, ∃ l, O (Is u :: l)) : ∃ l, O l := let ⟨_, _, h⟩ := h; ⟨_, h⟩
theorem ex_phi {O : List (Value → World → Prop) → Prop} (f : Value → World → Prop) (h : ∃ l, O (f :: l)) : ∃ l, O l := let ⟨_, h⟩ := h; ⟨_, h⟩
end Go.Proofs.Ytpjlhkepdiajjaa

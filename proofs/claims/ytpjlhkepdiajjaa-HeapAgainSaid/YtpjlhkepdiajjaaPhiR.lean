
/- A statement that draws the order of its operations: what they leave in memory are resources, each from the operation that makes it up to those that use it up. -/
import Derived.Test.YtpjlhkepdiajjaaPhi3
set_option linter.all false
namespace Go.Proofs.Ytpjlhkepdiajjaa
open Go.RowKit

/-- From which operation on (none: from the start), of which ones' values, up to which (none: to the end). -/
structure Life where
  born : Option Nat
  srcs : List (Nat × List Nat)
  dies : List Nat
deriving Inhabited
def srcB (ops : Array Oper) (l : Life) (s : Nat × List Nat) : Bool :=
  match l.born with
  | none => false
  | some j => s.1 == j || (pathB ops (j :: s.2) && s.2.contains s.1)
def lifeB (ops : Array Oper) (l : Life) : Bool := l.srcs.all (srcB ops l)
/-- What the sources yielded. -/
def rest (srcs : List (Nat × List Nat)) (val : Nat → Value) (j : Nat) : Value := bif srcs.any (fun s => s.1 == j) then val j else undef
theorem rest_congr {val val' : Nat → Value} : ∀ {srcs : List (Nat × List Nat)}, (∀ s ∈ srcs, val s.1 = val' s.1) → rest srcs val = rest srcs val' := fun {srcs} h => by
  funext j
  unfold rest
  cases hx : srcs.any (fun s => s.1 == j) with
  | false => rfl
  | true =>
    obtain ⟨s, hs, hj⟩ := List.any_eq_true.1 hx
    obtain rfl : s.1 = j := by simpa using hj
    exact h s hs
abbrev Pr := Value → World → Prop
abbrev PrU := (Nat → Value) → World → Prop
inductive Cert where
  | keep
  | early (p : List Nat)
  | late (ps : List (List Nat))
  | last
def Alive (b : Nat → Bool) (l : Life) : Prop := (∀ j, l.born = some j → b j = true) ∧ (l.dies = [] ∨ ∃ d ∈ l.dies, b d = false)
def ResInv (b : Nat → Bool) (val : Nat → Value) (w : World) : List Life → List PrU → Prop
  | l :: ls, p :: ps => (Alive b l → p (rest l.srcs val) w) ∧ ResInv b val w ls ps
  | _, _ => True
def BornAll (i : Nat) (v : Value) (val : Nat → Value) (w : World) : List Life → List PrU → Prop
  | l :: ls, p :: ps => match l.born == some i with
    | true => p (rest l.srcs fun j => bif j == i then v else val j) w ∧ BornAll i v val w ls ps
    | false => BornAll i v val w ls ps
  | _, _ => True
def KeepAll (eff : World → World → Prop) : List Life → List PrU → List Cert → Prop
  | _ :: ls, p :: ps, .keep :: cs => (∀ v w w', p v w → eff w w' → p v w') ∧ KeepAll eff ls ps cs
  | _ :: ls, _ :: ps, _ :: cs => KeepAll eff ls ps cs
  | _, _, _ => True
def InitAll (w : World) : List Life → List PrU → Prop
  | l :: ls, p :: ps => match l.born.isNone with
    | true => p (fun _ => undef) w ∧ InitAll w ls ps
    | false => InitAll w ls ps
  | _, _ => True
def EndAll (val : Nat → Value) (w : World) : List Life → List PrU → Prop
  | l :: ls, p :: ps => match l.dies.isEmpty with
    | true => p (rest l.srcs val) w ∧ EndAll val w ls ps
    | false => EndAll val w ls ps
  | _, _ => True
def UseAll (val : Nat → Value) (w : World) (lv : List Life) (pr : List PrU) : List (Nat × List Nat) → Prop
  | (k, _) :: us => (pr.getD k fun _ _ => True) (rest (lv.getD k default).srcs val) w ∧ UseAll val w lv pr us
  | [] => True
def lateB (ops : Array Oper) (i : Nat) : List Nat → List (List Nat) → Bool
  | d :: ds, p :: ps => (d == i || pathB ops (i :: p) && p.contains d) && lateB ops i ds ps
  | [], _ => true
  | _, [] => false
def certB (ops : Array Oper) (i : Nat) (l : Life) (c : Cert) : Bool :=
  l.born == some i || match c with
    | .keep => true
    | .early p => match l.born with
      | some j => pathB ops (j :: p) && p.contains i
      | none => false
    | .late ps => !l.dies.isEmpty && lateB ops i l.dies ps
    | .last => l.dies == [i]
def certsB (ops : Array Oper) (i : Nat) : List Life → List Cert → Bool
  | l :: ls, c :: cs => certB ops i l c && certsB ops i ls cs
  | [], _ => true
  | _, [] => false
def useB (ops : Array Oper) (i : Nat) (lv : List Life) (u : Nat × List Nat) : Bool :=
  match lv[u.1]? with
  | none => false
  | some l => (match l.born with
    | none => true
    | some j => pathB ops (i :: u.2) && u.2.contains j) && (l.dies.isEmpty || l.dies.contains i)
def valOf (ops : Array Oper) (t : Nat → Value) (j : Nat) : Value := atV ops t j
def actV (ops : Array Oper) (a : Act) : Nat → Value := valOf ops fun t => a.tmps[t]?.getD undef
structure RowX where
  uses : List (Nat × List Nat)
  certs : List Cert
def rowB (ops : Array Oper) (lv : List Life) (i : Nat) (r : RowX) : Bool := r.uses.all (useB ops i lv) && certsB ops i lv r.certs
def rowsB (ops : Array Oper) (lv : List Life) : Nat → List RowX → Bool
  | i, r :: rs => rowB ops lv i r && rowsB ops lv (i + 1) rs
  | _, [] => true

section
variable {P : Program} {ops : Array Oper} {Q : Exit → Act → World → Prop} {R : World → World → Prop} {phi : List Pr} {a0 : Act} {w0 : World} {lv : List Life} {pr : List PrU}

def StepX (P : Program) (ops : Array Oper) (Q : Exit → Act → World → Prop) (R : World → World → Prop) (phi : List Pr) (lv : List Life) (pr : List PrU) (a0 : Act) (w0 : World) (i : Nat) (o : Oper) (eff : World → World → Prop) (us : List (Nat × List Nat)) : Prop :=
  ∀ (a : Act) (w : World), R w0 w → Facts phi ops a w (prevs ops i) → Olds a0 a (outer2 ops i) → UseAll (actV ops a) w lv pr us →
    ∀ K : Act → World → Prop, (∀ v w', eff w w' → factOf phi i (o.dst.elim undef fun _ => v) w' → BornAll i (o.dst.elim undef fun _ => v) (actV ops a) w' lv pr → K (a.put o.dst v) w') →
      if Region.wanted o (seen ops a.tmps) = true then o.wp P a w K Q else K (a.put o.dst undef) w
/-- All that is to be shown of one operation. -/
structure ObX (P : Program) (ops : Array Oper) (Q : Exit → Act → World → Prop) (R : World → World → Prop) (phi : List Pr) (lv : List Life) (pr : List PrU) (a0 : Act) (w0 : World) (i : Nat) (o : Oper) (r : RowX) (eff : World → World → Prop) : Prop where
  rel : ∀ w w', eff w w' → R w w'
  keep : KeepAll eff lv pr r.certs
  step : StepX P ops Q R phi lv pr a0 w0 i o eff r.uses
def ObsX (P : Program) (ops : Array Oper) (Q : Exit → Act → World → Prop) (R : World → World → Prop) (phi : List Pr) (lv : List Life) (pr : List PrU) (a0 : Act) (w0 : World) : Nat → List Oper → List RowX → Prop
  | i, o :: os, r :: rs => (∃ eff, ObX P ops Q R phi lv pr a0 w0 i o r eff) ∧ ObsX P ops Q R phi lv pr a0 w0 (i + 1) os rs
  | _, [], _ => True
  | _, _ :: _, [] => False
theorem obsX_get : ∀ (os : List Oper) (rs : List RowX) (n : Nat), ObsX P ops Q R phi lv pr a0 w0 n os rs → rowsB ops lv n rs = true → ∀ i o, os[i]? = some o → ∃ r eff, rowB ops lv (n + i) r = true ∧ ObX P ops Q R phi lv pr a0 w0 (n + i) o r eff
  | [], _, _, _, _, i, o, ho => by simp at ho
  | o :: os, [], n, h, _, _, _, _ => by cases h
  | o :: os, r :: rs, n, h, hb, i, o', ho => by
    rw [ObsX] at h
    rw [rowsB, Bool.and_eq_true] at hb
    cases i with
    | zero =>
      rw [List.getElem?_cons_zero] at ho
      cases ho
      obtain ⟨eff, he⟩ := h.1
      exact ⟨r, eff, hb.1, he⟩
    | succ i =>
      rw [List.getElem?_cons_succ] at ho
      have := obsX_get os rs (n + 1) h.2 hb.2 i o' ho
      rwa [show n + 1 + i = n + (i + 1) by omega] at this

theorem use_all {listed : Array Bool} {val : Nat → Value} {w : World} {i : Nat} (hc : Closed ops listed) (hn : bit listed i = false) (hp : ∀ j ∈ prevs ops i, bit listed j = true) (h : ResInv (bit listed) val w lv pr) :
    ∀ {us : List (Nat × List Nat)}, us.all (useB ops i lv) = true → UseAll val w lv pr us
  | [], _ => trivial
  | (k, p) :: us, hu => by
    rw [List.all_cons, Bool.and_eq_true] at hu
    refine ⟨?_, use_all hc hn hp h hu.2⟩
    have h1 := hu.1
    unfold useB at h1
    simp only at h1
    have get : ∀ (lv : List Life) (pr : List PrU) (k : Nat) (l : Life), ResInv (bit listed) val w lv pr → lv[k]? = some l → Alive (bit listed) l → (pr.getD k fun _ _ => True) (rest l.srcs val) w := by
      intro lv
      induction lv with
      | nil => intro pr k l _ hl; simp at hl
      | cons l0 ls ih =>
        intro pr k l hr hl ha
        cases pr with
        | nil => simp
        | cons p0 ps =>
          rw [ResInv] at hr
          cases k with
          | zero => simp at hl; subst hl; simpa using hr.1 ha
          | succ k => simpa using ih ps k l hr.2 (by simpa using hl) ha
    cases hl : lv[k]? with
    | none => rw [hl] at h1; cases h1
    | some l =>
      rw [hl] at h1
      have hgd : lv.getD k default = l := by simp [List.getD, hl]
      rw [hgd]
      refine get lv pr k l h hl ⟨fun j hj => ?_, ?_⟩
      · simp only [hj, Bool.and_eq_true] at h1
        exact path_up hc h1.1.1 hp j (by simpa using h1.1.2)
      · rw [Bool.and_eq_true, Bool.or_eq_true] at h1
        rcases h1.2 with h2 | h2
        · exact .inl (List.isEmpty_iff.1 h2)
        · exact .inr ⟨i, by simpa using h2, hn⟩
theorem late_all {listed : Array Bool} {i : Nat} (hc : Closed ops listed) (hp : ∀ j ∈ prevs ops i, bit listed j = true) : ∀ {ds : List Nat} {ps : List (List Nat)}, lateB ops i ds ps = true → ∀ d ∈ ds, d = i ∨ bit listed d = true
  | [], _, _, d, hd => by cases hd
  | d0 :: ds, [], h, _, _ => by cases h
  | d0 :: ds, p :: ps, h, d, hd => by
    rw [lateB, Bool.and_eq_true, Bool.or_eq_true, Bool.and_eq_true] at h
    rcases List.mem_cons.1 hd with rfl | hd
    · rcases h.1 with h1 | h1
      · exact .inl (by simpa using h1)
      · exact .inr (path_up hc h1.1 hp d (by simpa using h1.2))
    · exact late_all hc hp h.2 d hd
theorem res_step {listed : Array Bool} {val : Nat → Value} {i : Nat} {v : Value} {w w' : World} {eff : World → World → Prop} (hil : i < listed.size) (hc : Closed ops listed) (hn : bit listed i = false) (hp : ∀ j ∈ prevs ops i, bit listed j = true) (he : eff w w') :
    ∀ {lv : List Life} {pr : List PrU} {cs : List Cert}, lv.all (lifeB ops) = true → certsB ops i lv cs = true → KeepAll eff lv pr cs → BornAll i v val w' lv pr → ResInv (bit listed) val w lv pr →
      ∀ val' : Nat → Value, (∀ o, o ≠ i → val' o = val o) → val' i = v → ResInv (bit (listed.setIfInBounds i true)) val' w' lv pr
  | [], _, _, _, _, _, _, _, _, _, _ => by unfold ResInv; trivial
  | _ :: _, [], _, _, _, _, _, _, _, _, _ => by unfold ResInv; trivial
  | l :: ls, p :: ps, [], _, h, _, _, _, _, _, _ => by simp [certsB] at h
  | l :: ls, p :: ps, c :: cs, hlf, h, hk, hb, hr, val', hv1, hv2 => by
    rw [List.all_cons, Bool.and_eq_true] at hlf
    rw [certsB, Bool.and_eq_true] at h
    rw [ResInv] at hr ⊢
    have hkt : KeepAll eff ls ps cs := by cases c <;> first | exact hk.2 | exact hk
    have hbt : BornAll i v val w' ls ps := by
      unfold BornAll at hb
      cases hx : l.born == some i with
      | true => rw [hx] at hb; exact hb.2
      | false => rw [hx] at hb; exact hb
    refine ⟨fun ha => ?_, res_step hil hc hn hp he hlf.2 h.2 hkt hbt hr.2 val' hv1 hv2⟩
    obtain ⟨ha1, ha2⟩ := ha
    cases hx : l.born == some i with
    | true =>
      unfold BornAll at hb
      rw [hx] at hb
      have hb1 := hb.1
      have e : (rest l.srcs fun j => bif j == i then v else val j) = rest l.srcs val' := rest_congr fun s hs => by
        by_cases hsi : s.1 = i
        · rw [hsi, hv2]; simp
        · rw [hv1 _ hsi, show (s.1 == i) = false by simpa using hsi, cond_false]
      rw [← e]
      exact hb1
    | false =>
      have hne : l.born ≠ some i := by simpa using hx
      have hsi : ∀ s ∈ l.srcs, s.1 ≠ i := by
        intro s hs hsi
        have h1 := List.all_eq_true.1 hlf.1 s hs
        unfold srcB at h1
        cases hl : l.born with
        | none => rw [hl] at h1; cases h1
        | some j =>
          rw [hl] at h1
          have hji : j ≠ i := by rintro rfl; exact hne hl
          simp only [Bool.or_eq_true, Bool.and_eq_true] at h1
          rcases h1 with h1 | h1
          · have hij : s.1 = j := by simpa using h1
            exact hji (hij.symm.trans hsi)
          · have hj : bit listed j = true := by rw [← bit_set_ne hji]; exact ha1 j hl
            have := path_up hc h1.1 (hc j hj) i (by rw [← hsi]; simpa using h1.2)
            rw [hn] at this
            cases this
      have e : rest l.srcs val' = rest l.srcs val := rest_congr fun s hs => hv1 _ (hsi s hs)
      rw [e]
      have hcb := h.1
      unfold certB at hcb
      rw [hx, Bool.false_or] at hcb
      have old : ∀ d, bit (listed.setIfInBounds i true) d = false → bit listed d = false := fun d hd => by
        by_cases hdi : d = i
        · subst hdi; exact hn
        · rw [← hd, bit_set_ne hdi]
      cases c with
      | keep =>
        refine hk.1 _ _ _ (hr.1 ⟨fun j hj => ?_, ?_⟩) he
        · have hji : j ≠ i := by rintro rfl; exact hne hj
          rw [← bit_set_ne hji]; exact ha1 j hj
        · rcases ha2 with ha2 | ⟨d, hd, hdf⟩
          · exact .inl ha2
          · exact .inr ⟨d, hd, old d hdf⟩
      | early q =>
        exfalso
        cases hl : l.born with
        | none => rw [hl] at hcb; cases hcb
        | some j =>
          rw [hl] at hcb
          simp only [Bool.and_eq_true] at hcb
          have hji : j ≠ i := by rintro rfl; exact hne hl
          have hj : bit listed j = true := by rw [← bit_set_ne hji]; exact ha1 j hl
          have := path_up hc hcb.1 (hc j hj) i (by simpa using hcb.2)
          rw [hn] at this
          cases this
      | late qs =>
        exfalso
        simp only [Bool.and_eq_true] at hcb
        rcases ha2 with ha2 | ⟨d, hd, hdf⟩
        · rw [ha2] at hcb; simp at hcb
        · rcases late_all hc hp hcb.2 d hd with rfl | this
          · rw [bit_set hil] at hdf
            cases hdf
          · rw [old d hdf] at this
            cases this
      | last =>
        exfalso
        have hl : l.dies = [i] := by simpa using hcb
        rcases ha2 with ha2 | ⟨d, hd, hdf⟩
        · rw [ha2] at hl; cases hl
        · rw [hl] at hd
          obtain rfl : d = i := by simpa using hd
          rw [bit_set hil] at hdf
          cases hdf

structure InvX (R : World → World → Prop) (phi : List Pr) (ops : Array Oper) (lv : List Life) (pr : List PrU) (a0 : Act) (w0 : World) (listed : Array Bool) (a : Act) (w : World) : Prop where
  inv : Inv R phi ops a0 w0 listed a w
  closed : Closed ops listed
  res : ResInv (bit listed) (actV ops a) w lv pr
  old2 : ∀ t, (∀ j, dstOf ops j = some t → bit listed j = false) → a.tmps[t]? = a0.tmps[t]?
theorem endAll_of {b : Nat → Bool} {val : Nat → Value} {w : World} (hb : ∀ j, ∀ l ∈ lv, l.born = some j → b j = true) : ∀ {pr : List PrU}, ResInv b val w lv pr → EndAll val w lv pr := by
  induction lv with
  | nil => intro pr _; cases pr <;> (unfold EndAll; trivial)
  | cons l ls ih =>
    intro pr h
    cases pr with
    | nil => unfold EndAll; trivial
    | cons p ps =>
      rw [ResInv] at h
      unfold EndAll
      have ih' := ih (fun j l' hl' => hb j l' (List.mem_cons_of_mem _ hl')) h.2
      cases hx : l.dies.isEmpty with
      | true => exact ⟨h.1 ⟨fun j hj => hb j l (List.mem_cons_self) hj, .inl (List.isEmpty_iff.1 hx)⟩, ih'⟩
      | false => exact ih'
theorem phi_res (hstab : ∀ j v w w', factOf phi j v w → R w w' → factOf phi j v w') (htr : ∀ a b c, R a b → R b c → R a c)
    (hsh : shape ops a0.tmps.size = true) (hlv : ∀ l ∈ lv, ∀ j, l.born = some j → j < ops.size) (hlf : lv.all (lifeB ops) = true)
    (hstep : ∀ i o, ops[i]? = some o → ∃ r eff, rowB ops lv i r = true ∧ ObX P ops Q R phi lv pr a0 w0 i o r eff)
    (hend : ∀ (vals : Nat → Value) (w : World), R w0 w → EndAll (valOf ops vals) w lv pr → (∀ j, j < ops.size → factOf phi j ((dstOf ops j).elim undef vals) w) → Q .normal ⟨fill vals (ops.toList.filterMap (·.dst)) a0.tmps, a0.defers⟩ w) :
    ∀ (fuel : Nat) (listed : Array Bool) (a : Act) (w : World), listed.size = ops.size → (listed.toList.countP (· == false)) ≤ fuel → InvX R phi ops lv pr a0 w0 listed a w → wpAny P .any ops Q fuel listed a w := by
  obtain ⟨hs1, hs2⟩ := shape_spec hsh
  have hdone : ∀ (listed : Array Bool) (a : Act) (w : World), listed.size = ops.size → InvX R phi ops lv pr a0 w0 listed a w → Region.ready .any ops listed = [] → Q .normal a w := by
    intro listed a w hsz hinvc hr
    have hinv := hinvc.inv
    have hall : ∀ n, ∀ j, j < n → j < ops.size → listed.getD j false = true := by
      intro n
      induction n with
      | zero => intro j hj; omega
      | succ n ih =>
        intro j hj hjs
        rcases Nat.lt_succ_iff_lt_or_eq.1 hj with hj | rfl
        · exact ih j hj hjs
        · by_cases hl : listed.getD j false = true
          · exact hl
          · exfalso
            have hmem : j ∈ Region.ready .any ops listed := by
              rw [mem_ready]
              refine ⟨?_, ops[j], by simp [hjs], fun e he hb => ?_⟩
              · have : j < listed.size := by omega
                simp [this] at hl ⊢
                exact hl
              · have hp : e.on ∈ prevs ops j := by
                  simp only [prevs, Array.getElem?_eq_getElem hjs, Option.map_some, Option.getD_some]
                  exact List.mem_map.2 ⟨e, List.mem_filter.2 ⟨by simpa using he, hb⟩, rfl⟩
                have := hs1 j e.on hp
                exact ih e.on this (by omega)
            rw [hr] at hmem
            cases hmem
    have ha : a = ⟨fill (fun t => a.tmps[t]?.getD undef) (ops.toList.filterMap (·.dst)) a0.tmps, a0.defers⟩ := by
      cases a with
      | mk tmps defers =>
        have hd := hinv.defers
        have hsize := hinv.size
        have hold := hinv.old
        simp only at hd hsize hold
        subst hd
        congr 1
        refine Array.ext_getElem? fun k => ?_
        rw [fill_get]
        split
        · rename_i hk
          have : k < tmps.size := by omega
          simp [this]
        · rename_i hk
          by_cases hks : k < a0.tmps.size
          · refine hold k fun j hj => hk ⟨?_, hks⟩
            cases ho : ops[j]? with
            | none => simp [dstOf, ho] at hj
            | some o =>
              simp [dstOf, ho] at hj
              exact List.mem_filterMap.2 ⟨o, by simpa using Array.mem_of_getElem? ho, hj⟩
          · rw [Array.getElem?_eq_none (by omega), Array.getElem?_eq_none (by omega)]
    rw [ha]
    refine hend _ w hinv.hR ?_ fun j hj => hinv.fact j (hall (j + 1) j (by omega) hj)
    exact endAll_of (fun j l hl hj => hall (j + 1) j (by omega) (hlv l hl j hj)) hinvc.res
  intro fuel
  induction fuel with
  | zero =>
    intro listed a w hsz hc hinv
    have hr : Region.ready .any ops listed = [] := by
      rw [List.eq_nil_iff_forall_not_mem]
      intro j hj
      obtain ⟨h0, o, ho, -⟩ := mem_ready.1 hj
      have hj' : j < listed.size := hsz ▸ (Array.getElem?_eq_some_iff.1 ho).1
      have : 0 < listed.toList.countP (· == false) := List.countP_pos_iff.2 ⟨listed[j], by simp, by simpa [hj'] using h0⟩
      omega
    exact ⟨hr, hdone listed a w hsz hinv hr⟩
  | succ fuel ih =>
    intro listed a w hsz hc hinvc
    have hinv := hinvc.inv
    refine ⟨hdone listed a w hsz hinvc, fun i hi => ?_⟩
    obtain ⟨h0, o, ho, hall⟩ := mem_ready.1 hi
    have his : i < ops.size := (Array.getElem?_eq_some_iff.1 ho).1
    have hil : i < listed.size := by omega
    have hpre : ∀ j ∈ prevs ops i, listed.getD j false = true := fun j hj => by
      simp only [prevs, ho, Option.map_some, Option.getD_some] at hj
      obtain ⟨e, he, rfl⟩ := List.mem_map.1 hj
      obtain ⟨h1, h2⟩ := List.mem_filter.1 he
      exact hall e (by simpa using h1) h2
    have hbi : bit listed i = false := by unfold bit; simpa [hil] using h0
    obtain ⟨r, eff, hrow, hob⟩ := hstep i o ho
    rw [rowB, Bool.and_eq_true] at hrow
    have hst := hob.step a w hinv.hR (facts_of fun j hj => hinv.fact j (hpre j hj)) (olds2_of hinvc.closed hbi hinvc.old2 fun t ht => ht) (use_all hinvc.closed hbi hpre hinvc.res hrow.1)
    have hdo : dstOf ops i = o.dst := by simp [dstOf, ho]
    have hcl : Closed ops (listed.setIfInBounds i true) := fun k hk j hj => by
      have hlist : bit listed j = true := by
        by_cases hki : k = i
        · subst hki; exact hpre j hj
        · exact hinvc.closed k (by rw [← bit_set_ne hki]; exact hk) j hj
      by_cases hji : j = i
      · subst hji; exact bit_set hil
      · rw [bit_set_ne hji]; exact hlist
    have hK : ∀ v w', eff w w' → factOf phi i (o.dst.elim undef fun _ => v) w' → BornAll i (o.dst.elim undef fun _ => v) (actV ops a) w' lv pr → wpAny P .any ops Q fuel (listed.setIfInBounds i true) (a.put o.dst v) w' := fun v w' hE hv hB => by
      have hR := hob.rel w w' hE
      have hres : ResInv (bit (listed.setIfInBounds i true)) (actV ops (a.put o.dst v)) w' lv pr := by
        refine res_step hil hinvc.closed hbi hpre hE hlf hrow.2 hob.keep hB hinvc.res _ (fun x hx => ?_) ?_
        · have hji : x ≠ i := hx
          unfold actV valOf atV
          cases hd : dstOf ops x with
          | none => rfl
          | some t =>
            simp only [Option.elim_some]
            cases h : o.dst with
            | none => rfl
            | some d =>
              have hne : d ≠ t := fun e => (hs2 i d (by rw [hdo, h])).2 x hji (by rw [hd, e])
              simp [Act.put, Array.getElem?_setIfInBounds_ne hne]
        · unfold actV valOf atV
          rw [hdo]
          cases h : o.dst with
          | none => rfl
          | some d =>
            have hd : d < a.tmps.size := by rw [hinv.size]; exact (hs2 i d (by rw [hdo, h])).1
            simp [Act.put, hd]
      refine ih _ _ _ (by simp [hsz]) ?_ ⟨?_, hcl, hres, ?_⟩
      · have hlt : (listed.setIfInBounds i true).toList.countP (· == false) < listed.toList.countP (· == false) := by
          rw [Array.toList_setIfInBounds]
          have hli : listed.toList[i]? = some false := by
            rw [Array.getElem?_toList, Array.getElem?_eq_getElem hil]
            simpa [hil] using h0
          have hgen : ∀ (l : List Bool) (i : Nat), l[i]? = some false → (l.set i true).countP (· == false) < l.countP (· == false) := by
            intro l
            induction l with
            | nil => intro i h; simp at h
            | cons b l ihl =>
              intro i h
              cases i with
              | zero => simp at h; subst h; simp
              | succ i =>
                have := ihl i (by simpa using h)
                simp only [List.set_cons_succ, List.countP_cons]
                omega
          exact hgen _ i hli
        omega
      · refine ⟨htr _ _ _ hinv.hR hR, ?_, ?_, fun t ht => ?_, fun j hj => ?_⟩
        · cases h : o.dst <;> simp [Act.put, hinv.size]
        · cases h : o.dst <;> simp [Act.put, hinv.defers]
        · rw [← hinv.old t ht]
          cases h : o.dst with
          | none => rfl
          | some d =>
            have : d ≠ t := fun e => ht i (by rw [hdo, h, e])
            simp [Act.put, Array.getElem?_setIfInBounds_ne this]
        · by_cases hji : j = i
          · subst hji
            unfold Fact
            rw [hdo]
            cases h : o.dst with
            | none => rw [h] at hv; exact hv
            | some d =>
              rw [h] at hv
              have hd : d < a.tmps.size := by rw [hinv.size]; exact (hs2 j d (by rw [hdo, h])).1
              simpa [Act.put, hd] using hv
          · have hjl : listed.getD j false = true := by
              rwa [getD_set_ne false (Ne.symm hji)] at hj
            have hf := hstab j _ w w' (hinv.fact j hjl) hR
            unfold Fact at hf ⊢
            cases hd : dstOf ops j with
            | none => rw [hd] at hf; exact hf
            | some t =>
              rw [hd] at hf
              simp only [Option.elim_some] at hf ⊢
              cases h : o.dst with
              | none => exact hf
              | some d =>
                have hne : d ≠ t := fun e => (hs2 i d (by rw [hdo, h])).2 j hji (by rw [hd, e])
                simpa [Act.put, Array.getElem?_setIfInBounds_ne hne] using hf
      · intro t ht
        have hdi : o.dst ≠ some t := fun e => by
          have := ht i (by rw [hdo, e])
          rw [bit_set hil] at this
          cases this
        rw [← hinvc.old2 t fun j hj => ?_]
        · cases h : o.dst with
          | none => rfl
          | some d =>
            have : d ≠ t := fun e => hdi (by rw [h, e])
            simp [Act.put, Array.getElem?_setIfInBounds_ne this]
        · by_cases hji : j = i
          · subst hji; exact hbi
          · rw [← bit_set_ne hji]; exact ht j hj
    have := hst _ hK
    unfold wpOp
    simp only [ho, seen_eq]
    split
    · rename_i hw; rw [if_pos hw] at this; exact .inl this
    · rename_i hw; rw [if_neg hw] at this; exact this

/-- All that is to be shown of a region. -/
structure ObR (P : Program) (ops : Array Oper) (Q : Exit → Act → World → Prop) (R : World → World → Prop) (lv : List Life) (pr : List PrU) (rows : List RowX) (a0 : Act) (w : World) (ds : List Nat) (phi : List Pr) : Prop where
  steps : ObsX P ops Q R phi lv pr a0 w.drew 0 ops.toList rows
  stab : Stables R phi
  ends : ∀ (vals : Nat → Value) (w' : World), R w.drew w' → EndAll (valOf ops vals) w' lv pr → (∀ j, j < ops.size → factOf phi j ((dstOf ops j).elim undef vals) w') → Q .normal ⟨fill vals ds a0.tmps, a0.defers⟩ w'
theorem initRes {b : Nat → Bool} (hb : ∀ j, b j = false) {val : Nat → Value} {w : World} : ∀ {lv : List Life} {pr : List PrU}, lv.all (lifeB ops) = true → InitAll w lv pr → ResInv b val w lv pr
  | [], _, _, _ => by unfold ResInv; trivial
  | _ :: _, [], _, _ => by unfold ResInv; trivial
  | l :: ls, p :: ps, hlf, h => by
    unfold InitAll at h
    rw [ResInv]
    rw [List.all_cons, Bool.and_eq_true] at hlf
    cases hx : l.born with
    | none =>
      rw [hx] at h
      have hs : l.srcs = [] := by
        have h1 := hlf.1
        unfold lifeB at h1
        cases hs : l.srcs with
        | nil => rfl
        | cons s ss =>
          rw [hs, List.all_cons, Bool.and_eq_true] at h1
          have h2 := h1.1
          unfold srcB at h2
          rw [hx] at h2
          cases h2
      refine ⟨fun _ => ?_, initRes hb hlf.2 h.2⟩
      rw [hs]
      exact h.1
    | some j =>
      rw [hx] at h
      refine ⟨fun ha => ?_, initRes hb hlf.2 h⟩
      have := ha.1 j hx
      rw [hb] at this
      cases this
theorem wp_region_res {id : Nat} {w : World} (R : World → World → Prop) (lv : List Life) (pr : List PrU) (rows : List RowX) (ds : List Nat) (hm : P.follows .mixedOrders = true)
    (hrefl : ∀ w, R w w) (htr : ∀ a b c, R a b → R b c → R a c) (hsh : shape ops a0.tmps.size = true) (hlv : (lv.all fun l => l.born.all fun j => decide (j < ops.size)) = true) (hlf : lv.all (lifeB ops) = true) (hrows : rowsB ops lv 0 rows = true) (hds : ops.toList.filterMap (·.dst) = ds)
    (hI : InitAll w.drew lv pr) (h : ∃ phi, ObR P ops Q R lv pr rows a0 w ds phi) : (Code.region id ops true).wp P Q a0 w := by
  obtain ⟨phi, h⟩ := h
  subst hds
  have hb : ∀ j, (Array.replicate ops.size false).getD j false = false := fun j => by
    simp only [Array.getD_eq_getD_getElem?, Array.getElem?_replicate]
    split <;> rfl
  refine wp_region_any hm (phi_res (w0 := w.drew) (lv := lv) (pr := pr) (stables_get h.stab) htr hsh (fun l hl j hj => ?_) hlf (fun i o ho => ?_) (fun vals w' => h.ends vals w') _ _ _ _ (by simp) ?_ ?_)
  · have := List.all_eq_true.1 hlv l hl
    rw [hj] at this
    simpa using this
  · have := obsX_get ops.toList rows 0 h.steps hrows i o (by simpa using ho)
    rwa [Nat.zero_add] at this
  · have := List.countP_le_length (p := (· == false)) (l := (Array.replicate ops.size false).toList)
    simpa using this
  · refine ⟨⟨hrefl _, rfl, rfl, fun _ _ => rfl, fun j hj => ?_⟩, fun i hi => ?_, initRes (fun j => ?_) hlf hI, fun _ _ => rfl⟩
    · rw [hb] at hj; cases hj
    · unfold bit at hi; rw [hb] at hi; cases hi
    · unfold bit; rw [hb]
end
theorem keepAll_eq : ∀ {lv : List Life} {pr : List PrU} {cs : List Cert}, KeepAll (fun w w' => w = w') lv pr cs
  | [], _, _ => by unfold KeepAll; trivial
  | _ :: _, [], _ => by unfold KeepAll; trivial
  | _ :: _, _ :: _, [] => by unfold KeepAll; trivial
  | _ :: ls, p :: ps, c :: cs => by
    cases c with
    | keep => exact ⟨fun v w w' h e => e ▸ h, keepAll_eq⟩
    | early _ => exact keepAll_eq (lv := ls)
    | late _ => exact keepAll_eq (lv := ls)
    | last => exact keepAll_eq (lv := ls)
/-- An operation that leaves the world. -/
theorem obX_pure {P : Program} {ops : Array Oper} {Q : Exit → Act → World → Prop} {R : World → World → Prop} {phi : List Pr} {a0 : Act} {w0 : World} {lv : List Life} {pr : List PrU} {i : Nat} {o : Oper} {r : RowX} (hrefl : ∀ w, R w w)
    (h : StepX P ops Q R phi lv pr a0 w0 i o (fun w w' => w = w') r.uses) : ∃ eff, ObX P ops Q R phi lv pr a0 w0 i o r eff :=
  ⟨fun w w' => w = w', fun _ _ (e : _ = _) => e ▸ hrefl _, keepAll_eq, h⟩
theorem obX_eff {P : Program} {ops : Array Oper} {Q : Exit → Act → World → Prop} {R : World → World → Prop} {phi : List Pr} {a0 : Act} {w0 : World} {lv : List Life} {pr : List PrU} {i : Nat} {o : Oper} {r : RowX} (eff : World → World → Prop) (hrel : ∀ w w', eff w w' → R w w')
    (hkeep : KeepAll eff lv pr r.certs) (h : StepX P ops Q R phi lv pr a0 w0 i o eff r.uses) : ∃ eff, ObX P ops Q R phi lv pr a0 w0 i o r eff :=
  ⟨eff, hrel, hkeep, h⟩
end Go.Proofs.Ytpjlhkepdiajjaa


/- slices.IndexFunc, slices.ContainsFunc over compartments, links, shared pages, instructions; package image's all, must, within. -/
import Derived.Test.YtgfnpcoigooblaaImgD
import Derived.Test.YtgfnpcoigooblaaCodeD
set_option linter.all false
namespace Go.Proofs.Ytgfnpcoigooblaa
open Go.RowKit

/-- The first of which something holds; -1: none. -/
def idxP {α : Type} (p : α → Bool) (l : List α) : Int := match l.findIdx? p with | some i => (i : Int) | none => -1
theorem idxP_hit {α : Type} {p : α → Bool} {l : List α} {k : Nat} (hk : k < l.length) (h : p l[k] = true) (hn : ∀ j (hj : j < l.length), j < k → p l[j] = false) : idxP p l = (k : Int) := by
  have : l.findIdx? p = some k := by
    rw [List.findIdx?_eq_some_iff_getElem]
    exact ⟨hk, h, fun j hj => by simp [hn j (by omega) hj]⟩
  simp [idxP, this]
theorem idxP_miss {α : Type} {p : α → Bool} {l : List α} (hn : ∀ j (hj : j < l.length), p l[j] = false) : idxP p l = -1 := by
  have : l.findIdx? p = none := by
    rw [List.findIdx?_eq_none_iff]
    intro x hx
    obtain ⟨j, hj, rfl⟩ := List.getElem_of_mem hx
    exact hn j hj
  simp [idxP, this]
theorem idxP_any {α : Type} {p : α → Bool} {l : List α} : decide (idxP p l ≥ 0) = l.any p := by
  unfold idxP
  cases h : l.findIdx? p with
  | none =>
    rw [List.findIdx?_eq_none_iff] at h
    have : l.any p = false := by rw [List.any_eq_false]; exact fun x hx => by simpa using h x hx
    rw [this]; rfl
  | some i =>
    rw [List.findIdx?_eq_some_iff_getElem] at h
    obtain ⟨hi, hp, -⟩ := h
    have : l.any p = true := List.any_eq_true.2 ⟨l[i], List.getElem_mem hi, hp⟩
    rw [this]
    exact decide_eq_true (by simp)
theorem idxP_small {α : Type} {p : α → Bool} {l : List α} : -1 ≤ idxP p l ∧ idxP p l ≤ l.length := by
  unfold idxP
  cases h : l.findIdx? p with
  | none => simp
  | some i =>
    rw [List.findIdx?_eq_some_iff_getElem] at h
    obtain ⟨hi, -⟩ := h
    simp only
    omega

def TestsComp (g : Nat) (q : Value) (p : CompM → Bool) (l : List CompM) (w : World) : Prop :=
  ∀ (W : World) (x : CompM), x ∈ l → Ext w W → Calls Try.prog g #[.agg #[.slice x.A x.code.length x.cap, .int .i64 x.data], q] W fun e w' => e = .returned (.bool (p x)) ∧ Ext W w'
set_option maxHeartbeats 4000000 in
theorem indexComp (A : Option Addr) (c : Nat) (l : List CompM) (g : Nat) (q : Value) (p : CompM → Bool) (w : World) (hA : Arr w A (l.flatMap CompM.cells)) (hR : l.length ≤ 140737488351232) (eg : ∀ args w, (callFunc g args).run Try.prog w = .ok (.enter g args) w) (hp : TestsComp g q p l w) :
    Calls Try.prog 73 #[.slice A l.length c, .func (.func g) #[] #[q]] w fun e w' => e = .returned (.int .i64 (idxP p l)) ∧ Ext w w' := by
  have HP := Lib.hid hp
  clear hp
  go_enter Try.func73, Try.ntmps73
  go_wp2_with fail
  go_loopw [5, 8] (fun _ i wr => ∃ k : Nat, k ≤ l.length ∧ i = .int .i64 (k : Int) ∧ Ext w wr ∧ Hid (∀ j (hj : j < l.length), j < k → p l[j] = false)) (fun _ i _ => l.length - (intOf i).toNat)
  case atStart => exact ⟨0, Nat.zero_le _, rfl, Below.refl _ _, fun j _ hj => by omega⟩
  case round =>
    obtain ⟨k, hk, rfl, hE, hs⟩ := hrel
    by_cases hlt : k < l.length
    · obtain ⟨b1, o1, rfl, -, q1⟩ := (hA.ext hE).flat (s := 2) (fun _ => rfl) (by decide) hlt
      have x0 : wr.cell? ⟨b1, o1 + k * 2, none⟩ = some (.slice l[k].A l[k].code.length l[k].cap) := by simpa using q1 0 _ rfl
      have x1 := q1 1 _ rfl
      clear q1
      have hc := HP.out wr l[k] (List.getElem_mem hlt) hE
      have HC := Lib.hid hc
      clear hc
      cases hx : p l[k]
      · go_wp2_with fail
        refine HC.out.mono ?_
        rw [hx]
        rintro e w2 ⟨rfl, hb2⟩
        go_wp2_with fail
        exact ⟨⟨k + 1, by omega, by simp, hE.then hb2, fun j h hj => by rcases Nat.lt_succ_iff_lt_or_eq.1 hj with hj | rfl; exact hs.out j h hj; exact hx⟩, by simp [intOf]; omega⟩
      · go_wp2_with fail
        refine HC.out.mono ?_
        rw [hx]
        rintro e w2 ⟨rfl, hb2⟩
        go_wp2_with fail
        go_ret
        exact ⟨ret_int (idxP_hit hlt hx fun j hj h => hs.out j hj h).symm, hE.then hb2⟩
    · go_wp2_with fail
      go_ret
      exact ⟨ret_int (idxP_miss fun j hj => hs.out j hj (by omega)).symm, hE⟩
theorem containsComp (A : Option Addr) (c : Nat) (l : List CompM) (g : Nat) (q : Value) (p : CompM → Bool) (w : World) (hA : Arr w A (l.flatMap CompM.cells)) (hR : l.length ≤ 140737488351232) (eg : ∀ args w, (callFunc g args).run Try.prog w = .ok (.enter g args) w) (hp : TestsComp g q p l w) :
    Calls Try.prog 60 #[.slice A l.length c, .func (.func g) #[] #[q]] w fun e w' => e = .returned (.bool (l.any p)) ∧ Ext w w' := by
  have HC := Lib.hid (indexComp A c l g q p w hA hR eg hp)
  have hsm := @idxP_small _ p l
  go_enter Try.func60, Try.ntmps60
  go_wp2_with fail
  refine HC.out.mono ?_
  rintro e w2 ⟨rfl, hb2⟩
  obtain ⟨z, hz⟩ : ∃ z, z = idxP p l := ⟨_, rfl⟩
  have hd := @idxP_any _ p l
  rw [← hz] at hd ⊢
  have HD := Lib.hid hd
  clear hd hz hsm
  go_wp2_with fail
  go_ret
  exact ⟨ret_bool (by rw [← HD.out]), hb2⟩

def TestsLink (g : Nat) (q : Value) (p : LinkM → Bool) (l : List LinkM) (w : World) : Prop :=
  ∀ (W : World) (x : LinkM), x ∈ l → Ext w W → Calls Try.prog g #[.agg #[.int .i64 x.fr, .int .i64 x.to, .int .i64 x.at'], q] W fun e w' => e = .returned (.bool (p x)) ∧ Ext W w'
set_option maxHeartbeats 4000000 in
theorem indexLink (A : Option Addr) (c : Nat) (l : List LinkM) (g : Nat) (q : Value) (p : LinkM → Bool) (w : World) (hA : Arr w A (l.flatMap LinkM.cells)) (hR : l.length ≤ 140737488351232) (eg : ∀ args w, (callFunc g args).run Try.prog w = .ok (.enter g args) w) (hp : TestsLink g q p l w) :
    Calls Try.prog 80 #[.slice A l.length c, .func (.func g) #[] #[q]] w fun e w' => e = .returned (.int .i64 (idxP p l)) ∧ Ext w w' := by
  have HP := Lib.hid hp
  clear hp
  go_enter Try.func80, Try.ntmps80
  go_wp2_with fail
  go_loopw [5, 8] (fun _ i wr => ∃ k : Nat, k ≤ l.length ∧ i = .int .i64 (k : Int) ∧ Ext w wr ∧ Hid (∀ j (hj : j < l.length), j < k → p l[j] = false)) (fun _ i _ => l.length - (intOf i).toNat)
  case atStart => exact ⟨0, Nat.zero_le _, rfl, Below.refl _ _, fun j _ hj => by omega⟩
  case round =>
    obtain ⟨k, hk, rfl, hE, hs⟩ := hrel
    by_cases hlt : k < l.length
    · obtain ⟨b1, o1, rfl, -, q1⟩ := (hA.ext hE).flat (s := 3) (fun _ => rfl) (by decide) hlt
      have x0 : wr.cell? ⟨b1, o1 + k * 3, none⟩ = some (.int .i64 l[k].fr) := by simpa using q1 0 _ rfl
      have x1 := q1 1 _ rfl
      have x2 := q1 2 _ rfl
      clear q1
      have hc := HP.out wr l[k] (List.getElem_mem hlt) hE
      have HC := Lib.hid hc
      clear hc
      cases hx : p l[k]
      · go_wp2_with fail
        refine HC.out.mono ?_
        rw [hx]
        rintro e w2 ⟨rfl, hb2⟩
        go_wp2_with fail
        exact ⟨⟨k + 1, by omega, by simp, hE.then hb2, fun j h hj => by rcases Nat.lt_succ_iff_lt_or_eq.1 hj with hj | rfl; exact hs.out j h hj; exact hx⟩, by simp [intOf]; omega⟩
      · go_wp2_with fail
        refine HC.out.mono ?_
        rw [hx]
        rintro e w2 ⟨rfl, hb2⟩
        go_wp2_with fail
        go_ret
        exact ⟨ret_int (idxP_hit hlt hx fun j hj h => hs.out j hj h).symm, hE.then hb2⟩
    · go_wp2_with fail
      go_ret
      exact ⟨ret_int (idxP_miss fun j hj => hs.out j hj (by omega)).symm, hE⟩
theorem containsLink (A : Option Addr) (c : Nat) (l : List LinkM) (g : Nat) (q : Value) (p : LinkM → Bool) (w : World) (hA : Arr w A (l.flatMap LinkM.cells)) (hR : l.length ≤ 140737488351232) (eg : ∀ args w, (callFunc g args).run Try.prog w = .ok (.enter g args) w) (hp : TestsLink g q p l w) :
    Calls Try.prog 68 #[.slice A l.length c, .func (.func g) #[] #[q]] w fun e w' => e = .returned (.bool (l.any p)) ∧ Ext w w' := by
  have HC := Lib.hid (indexLink A c l g q p w hA hR eg hp)
  have hsm := @idxP_small _ p l
  go_enter Try.func68, Try.ntmps68
  go_wp2_with fail
  refine HC.out.mono ?_
  rintro e w2 ⟨rfl, hb2⟩
  obtain ⟨z, hz⟩ : ∃ z, z = idxP p l := ⟨_, rfl⟩
  have hd := @idxP_any _ p l
  rw [← hz] at hd ⊢
  have HD := Lib.hid hd
  clear hd hz hsm
  go_wp2_with fail
  go_ret
  exact ⟨ret_bool (by rw [← HD.out]), hb2⟩

def TestsShare (g : Nat) (q : Value) (p : ShareM → Bool) (l : List ShareM) (w : World) : Prop :=
  ∀ (W : World) (x : ShareM), x ∈ l → Ext w W → Calls Try.prog g #[.agg #[.int .i64 x.rd, .int .i64 x.wr], q] W fun e w' => e = .returned (.bool (p x)) ∧ Ext W w'
set_option maxHeartbeats 4000000 in
theorem indexShare (A : Option Addr) (c : Nat) (l : List ShareM) (g : Nat) (q : Value) (p : ShareM → Bool) (w : World) (hA : Arr w A (l.flatMap ShareM.cells)) (hR : l.length ≤ 140737488351232) (eg : ∀ args w, (callFunc g args).run Try.prog w = .ok (.enter g args) w) (hp : TestsShare g q p l w) :
    Calls Try.prog 81 #[.slice A l.length c, .func (.func g) #[] #[q]] w fun e w' => e = .returned (.int .i64 (idxP p l)) ∧ Ext w w' := by
  have HP := Lib.hid hp
  clear hp
  go_enter Try.func81, Try.ntmps81
  go_wp2_with fail
  go_loopw [5, 8] (fun _ i wr => ∃ k : Nat, k ≤ l.length ∧ i = .int .i64 (k : Int) ∧ Ext w wr ∧ Hid (∀ j (hj : j < l.length), j < k → p l[j] = false)) (fun _ i _ => l.length - (intOf i).toNat)
  case atStart => exact ⟨0, Nat.zero_le _, rfl, Below.refl _ _, fun j _ hj => by omega⟩
  case round =>
    obtain ⟨k, hk, rfl, hE, hs⟩ := hrel
    by_cases hlt : k < l.length
    · obtain ⟨b1, o1, rfl, -, q1⟩ := (hA.ext hE).flat (s := 2) (fun _ => rfl) (by decide) hlt
      have x0 : wr.cell? ⟨b1, o1 + k * 2, none⟩ = some (.int .i64 l[k].rd) := by simpa using q1 0 _ rfl
      have x1 := q1 1 _ rfl
      clear q1
      have hc := HP.out wr l[k] (List.getElem_mem hlt) hE
      have HC := Lib.hid hc
      clear hc
      cases hx : p l[k]
      · go_wp2_with fail
        refine HC.out.mono ?_
        rw [hx]
        rintro e w2 ⟨rfl, hb2⟩
        go_wp2_with fail
        exact ⟨⟨k + 1, by omega, by simp, hE.then hb2, fun j h hj => by rcases Nat.lt_succ_iff_lt_or_eq.1 hj with hj | rfl; exact hs.out j h hj; exact hx⟩, by simp [intOf]; omega⟩
      · go_wp2_with fail
        refine HC.out.mono ?_
        rw [hx]
        rintro e w2 ⟨rfl, hb2⟩
        go_wp2_with fail
        go_ret
        exact ⟨ret_int (idxP_hit hlt hx fun j hj h => hs.out j hj h).symm, hE.then hb2⟩
    · go_wp2_with fail
      go_ret
      exact ⟨ret_int (idxP_miss fun j hj => hs.out j hj (by omega)).symm, hE⟩
theorem containsShare (A : Option Addr) (c : Nat) (l : List ShareM) (g : Nat) (q : Value) (p : ShareM → Bool) (w : World) (hA : Arr w A (l.flatMap ShareM.cells)) (hR : l.length ≤ 140737488351232) (eg : ∀ args w, (callFunc g args).run Try.prog w = .ok (.enter g args) w) (hp : TestsShare g q p l w) :
    Calls Try.prog 71 #[.slice A l.length c, .func (.func g) #[] #[q]] w fun e w' => e = .returned (.bool (l.any p)) ∧ Ext w w' := by
  have HC := Lib.hid (indexShare A c l g q p w hA hR eg hp)
  have hsm := @idxP_small _ p l
  go_enter Try.func71, Try.ntmps71
  go_wp2_with fail
  refine HC.out.mono ?_
  rintro e w2 ⟨rfl, hb2⟩
  obtain ⟨z, hz⟩ : ∃ z, z = idxP p l := ⟨_, rfl⟩
  have hd := @idxP_any _ p l
  rw [← hz] at hd ⊢
  have HD := Lib.hid hd
  clear hd hz hsm
  go_wp2_with fail
  go_ret
  exact ⟨ret_bool (by rw [← HD.out]), hb2⟩

def TestsIns (g : Nat) (p : Ins → Bool) (l : List Ins) (w : World) : Prop :=
  ∀ (W : World) (x : Ins), x ∈ l → Ext w W → Calls Try.prog g #[.agg #[.int .i64 x.op, .int .i64 x.a, .int .i64 x.b, .int .i64 x.c]] W fun e w' => e = .returned (.bool (p x)) ∧ Ext W w'
set_option maxHeartbeats 4000000 in
theorem indexIns (A : Option Addr) (c : Nat) (l : List Ins) (g : Nat) (p : Ins → Bool) (w : World) (hA : Arr w A (l.flatMap Ins.cells)) (hR : l.length ≤ 140737488351232) (eg : ∀ args w, (callFunc g args).run Try.prog w = .ok (.enter g args) w) (hp : TestsIns g p l w) :
    Calls Try.prog 76 #[.slice A l.length c, .func (.func g) #[] #[]] w fun e w' => e = .returned (.int .i64 (idxP p l)) ∧ Ext w w' := by
  have HP := Lib.hid hp
  clear hp
  go_enter Try.func76, Try.ntmps76
  go_wp2_with fail
  go_loopw [5, 8] (fun _ i wr => ∃ k : Nat, k ≤ l.length ∧ i = .int .i64 (k : Int) ∧ Ext w wr ∧ Hid (∀ j (hj : j < l.length), j < k → p l[j] = false)) (fun _ i _ => l.length - (intOf i).toNat)
  case atStart => exact ⟨0, Nat.zero_le _, rfl, Below.refl _ _, fun j _ hj => by omega⟩
  case round =>
    obtain ⟨k, hk, rfl, hE, hs⟩ := hrel
    by_cases hlt : k < l.length
    · obtain ⟨b1, o1, rfl, -, q1⟩ := (hA.ext hE).flat (s := 4) (fun _ => rfl) (by decide) hlt
      have x0 : wr.cell? ⟨b1, o1 + k * 4, none⟩ = some (.int .i64 l[k].op) := by simpa using q1 0 _ rfl
      have x1 := q1 1 _ rfl
      have x2 := q1 2 _ rfl
      have x3 := q1 3 _ rfl
      clear q1
      have hc := HP.out wr l[k] (List.getElem_mem hlt) hE
      have HC := Lib.hid hc
      clear hc
      cases hx : p l[k]
      · go_wp2_with fail
        refine HC.out.mono ?_
        rw [hx]
        rintro e w2 ⟨rfl, hb2⟩
        go_wp2_with fail
        exact ⟨⟨k + 1, by omega, by simp, hE.then hb2, fun j h hj => by rcases Nat.lt_succ_iff_lt_or_eq.1 hj with hj | rfl; exact hs.out j h hj; exact hx⟩, by simp [intOf]; omega⟩
      · go_wp2_with fail
        refine HC.out.mono ?_
        rw [hx]
        rintro e w2 ⟨rfl, hb2⟩
        go_wp2_with fail
        go_ret
        exact ⟨ret_int (idxP_hit hlt hx fun j hj h => hs.out j hj h).symm, hE.then hb2⟩
    · go_wp2_with fail
      go_ret
      exact ⟨ret_int (idxP_miss fun j hj => hs.out j hj (by omega)).symm, hE⟩
theorem containsIns (A : Option Addr) (c : Nat) (l : List Ins) (g : Nat) (p : Ins → Bool) (w : World) (hA : Arr w A (l.flatMap Ins.cells)) (hR : l.length ≤ 140737488351232) (eg : ∀ args w, (callFunc g args).run Try.prog w = .ok (.enter g args) w) (hp : TestsIns g p l w) :
    Calls Try.prog 64 #[.slice A l.length c, .func (.func g) #[] #[]] w fun e w' => e = .returned (.bool (l.any p)) ∧ Ext w w' := by
  have HC := Lib.hid (indexIns A c l g p w hA hR eg hp)
  have hsm := @idxP_small _ p l
  go_enter Try.func64, Try.ntmps64
  go_wp2_with fail
  refine HC.out.mono ?_
  rintro e w2 ⟨rfl, hb2⟩
  obtain ⟨z, hz⟩ : ∃ z, z = idxP p l := ⟨_, rfl⟩
  have hd := @idxP_any _ p l
  rw [← hz] at hd ⊢
  have HD := Lib.hid hd
  clear hd hz hsm
  go_wp2_with fail
  go_ret
  exact ⟨ret_bool (by rw [← HD.out]), hb2⟩
end Go.Proofs.Ytgfnpcoigooblaa

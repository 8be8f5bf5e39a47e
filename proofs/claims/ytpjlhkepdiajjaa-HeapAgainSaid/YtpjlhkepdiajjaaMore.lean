
/- What may be appended, from where it lies; slices whose elements have more cells; each opened as it came in. -/
import Derived.Test.YtpjlhkepdiajjaaSaidKit
import Derived.Laws.AppendOwnNone
import Derived.OwnWalk
import Derived.Deep.Slices
set_option linter.all false

namespace Go.Proofs.Ytpjlhkepdiajjaa
open Go.ChangeShapes Go.WideShapes Go.ChangeAt Go.RowKit Go.Joins

/-- What a slice shows, below the block N: nil, or an address where its cells lie. -/
def Lies (N : Nat) (w : World) (u : Value) (m : Nat) (cs : List Value) : Prop := (u = .slice none 0 0 ∧ m = 0 ∧ cs = []) ∨ ∃ ad c, u = .slice (some ad) m c ∧ (0 < cs.length → ad.block < N) ∧ ∀ j v, cs[j]? = some v → w.cell? (ad.add j) = some v

theorem add_none (b o j : Nat) : (⟨b, o, none⟩ : Addr).add j = ⟨b, o + j, none⟩ := by unfold Addr.add; split <;> simp_all

theorem cell_lt {w : World} {a : Addr} {v : Value} (h : w.cell? a = some v) : a.block < w.heap.size := by
  by_cases hb : a.block < w.heap.size
  · exact hb
  · exfalso
    unfold World.cell? at h
    rw [Array.getElem?_eq_none (by omega)] at h
    simp at h
theorem ext_cell {w w' : World} (he : Ext w w') : ∀ a v, w.cell? a = some v → w'.cell? a = some v := fun a v h => by
  rw [World.cell?_of_block (he.block _ (cell_lt h))]
  exact h
theorem add_block (a : Addr) (j : Nat) : (a.add j).block = a.block := by unfold Addr.add; split <;> rfl

theorem Lies.arr {w : World} {b o m c : Nat} {cs : List Value} (h : Arr w (some ⟨b, o, none⟩) cs) : Lies w.heap.size w (.slice (some ⟨b, o, none⟩) m c) m cs := by
  refine .inr ⟨_, _, rfl, fun hn => h.lt hn, fun j v hv => ?_⟩
  obtain ⟨hj, rfl⟩ := List.getElem?_eq_some_iff.1 hv
  obtain ⟨b', o', e, -, hc⟩ := h.open (by omega)
  cases e
  rw [add_none, hc j hj]

theorem Lies.own {w : World} {base m : Nat} {e : TypeId} {sz : Nat} {u : Value} {cs : List Value} (h : w.ownsRow base e sz u m cs) : Lies w.heap.size w u m cs := by
  rcases h with ⟨hl, ⟨rfl, rfl⟩ | ⟨g, cap, cur, rfl, hb, hg, hn, hm, hs, ht⟩⟩
  · exact .inl ⟨rfl, rfl, List.eq_nil_of_length_eq_zero (by simpa using hl)⟩
  · have ho : w.ownsRow base e sz (.slice (some ⟨g, 0, none⟩) m cap) m cs := ⟨hl, .inr ⟨g, cap, cur, rfl, hb, hg, hn, hm, hs, ht⟩⟩
    exact .inr ⟨_, _, rfl, fun _ => (ho.lt g rfl).2, ho.cells rfl⟩

theorem Lies.mono {N M : Nat} {w : World} {u : Value} {m : Nat} {cs : List Value} (h : Lies N w u m cs) (hn : N ≤ M) : Lies M w u m cs := by
  rcases h with h | ⟨ad, c, rfl, hb, h⟩
  · exact .inl h
  · exact .inr ⟨ad, c, rfl, fun hp => by have := hb hp; omega, h⟩

theorem Lies.keep {N : Nat} {w w' : World} {u : Value} {m : Nat} {cs : List Value} (h : Lies N w u m cs) (hb : Below N w w') : Lies N w' u m cs := by
  rcases h with h | ⟨ad, c, rfl, hlt, h⟩
  · exact .inl h
  · refine .inr ⟨ad, c, rfl, hlt, fun j v hv => ?_⟩
    have hp : 0 < cs.length := by have := (List.getElem?_eq_some_iff.1 hv).1; omega
    rw [World.cell?_of_block (hb.block _ (by rw [add_block]; exact hlt hp))]
    exact h j v hv
theorem Lies.ext {w w' : World} {u : Value} {m : Nat} {cs : List Value} (h : Lies w.heap.size w u m cs) (hb : Ext w w') : Lies w.heap.size w' u m cs := h.keep hb

/-- What lies of a row, from its k-th on; what lies ahead of that. -/
theorem Lies.drop {N : Nat} {w : World} {g k n c d : Nat} {cs : List Value} {A : Option Addr} (h : Lies N w (.slice (some ⟨g, 0, none⟩) n c) n cs) (hA : k < cs.length → A = some ⟨g, k, none⟩) (hA' : A ≠ none) : Lies N w (.slice A (n - k) d) (n - k) (cs.drop k) := by
  rcases h with ⟨h, -, -⟩ | ⟨ad, c', h, hlt, hc⟩
  · simp at h
  · simp at h
    obtain ⟨rfl, rfl⟩ := h
    cases A with
    | none => exact absurd rfl hA'
    | some ad =>
      refine .inr ⟨ad, d, rfl, fun hp => ?_, fun j v hv => ?_⟩
      · have := hA (by simp at hp; omega)
        simp at this
        subst this
        exact hlt (by simp at hp; omega)
      · have hj := (List.getElem?_eq_some_iff.1 hv).1
        have := hA (by simp at hj; omega)
        simp at this
        subst this
        rw [List.getElem?_drop] at hv
        have := hc _ _ hv
        rw [add_none, Nat.zero_add] at this
        rw [add_none]
        exact this
theorem Lies.take {N : Nat} {w : World} {g k n c d : Nat} {cs : List Value} (h : Lies N w (.slice (some ⟨g, 0, none⟩) n c) n cs) : Lies N w (.slice (some ⟨g, 0, none⟩) k d) k (cs.take k) := by
  rcases h with ⟨h, -, -⟩ | ⟨ad, c', h, hlt, hc⟩
  · simp at h
  · simp at h
    obtain ⟨rfl, rfl⟩ := h
    refine .inr ⟨_, d, rfl, fun hp => hlt (by simp at hp; omega), fun j v hv => hc j v ?_⟩
    rw [List.getElem?_take] at hv
    split at hv
    · exact hv
    · simp at hv

/-- What a row of one's own turns to. -/
theorem grown_below {N : Nat} {w w' : World} {base n : Nat} {e : TypeId} {sz : Nat} {v : Value} {xs : List Value} (h : w.ownsRow base e sz v n xs) (hg : w.grownBy w' v.ownBlock) (hN : N ≤ base) (hw : N ≤ w.heap.size) : Below N w w' :=
  Below.grown (Below.refl _ w) hg hw fun r hr => by have := (h.lt r hr).1; omega
/-- A row of another type is as it was. -/
theorem own_other {w w' : World} {b1 b2 n m : Nat} {e f : TypeId} {s1 s2 : Nat} {u v : Value} {xs ys : List Value} (h : w.ownsRow b1 e s1 u n xs) (k : w.ownsRow b2 f s2 v m ys) (hef : e ≠ f) (hg : w.grownBy w' v.ownBlock) : w'.ownsRow b1 e s1 u n xs := by
  refine h.kept hg ?_
  rcases h.2 with ⟨rfl, -⟩ | ⟨g, cap, cur, rfl, -, hg1, -⟩
  · exact .inl rfl
  · refine .inr ?_
    rcases k.2 with ⟨rfl, -⟩ | ⟨g', cap', cur', rfl, -, hg2, -⟩
    · simp [Value.ownBlock]
    · simp only [Value.ownBlock, ne_eq, Option.some.injEq]
      rintro rfl
      rw [hg1] at hg2
      simp at hg2
      exact hef hg2.2

/-- append to a row of one's own, of whatever may be read. -/
theorem wpList_append_src {P : Program} (w : World) {ops : Array Oper} {rest : List Oper} {o : Oper} {a : Act} {Q : Exit → Act → World → Prop} (hgd : o.guard = none) (s x : Operand) (t : TypeId)
    (ho : o.op = .call { callee := .builtin .append, args := #[s, x], argTypes := #[t, t] })
    (base : Nat) (e : TypeId) (i : TypeInfo) (z : Value) (size bytes : Nat) (ht : P.underlying t = some (.slice e)) (hi : P.info? e = some i) (hz : i.zero = some z)
    (hsize : i.size = size) (hby : i.bytes = bytes) (hzs : z.cells.size = size) (hsz : 0 < size)
    (v : Value) (n : Nat) (xs : List Value) (hs : a.eval s = v) (hown : w.ownsRow base e size v n xs)
    (u : Value) (m : Nat) (news : List Value) (hx : a.eval x = u) {N : Nat} (hsrc : Lies N w u m news) (hl : news.length = m * size) (h1 : ∀ u ∈ news, u.oneCell' = true)
    (h63 : n + m ≤ maxLen) (hbytes : (n + m) * bytes ≤ 140737488355328) (hbase : base ≤ w.heap.size)
    (h : ∀ v' w', w'.ownsRow base e size v' (n + m) (xs ++ news) → w.grownBy w' v.ownBlock → (v' = .slice none 0 0 ↔ v = .slice none 0 0 ∧ m = 0) → wpList P ops Q rest (a.put o.dst v') w') : wpList P ops Q (o :: rest) a w := by
  rcases hsrc with ⟨rfl, rfl, rfl⟩ | ⟨ad, c, rfl, -, hc⟩
  · refine wpList_append_own_none hgd s x t ho base e i size ht hi v n xs hs hown hx (h v w (by simpa using hown) (World.grownBy.refl _ _) (by simp))
  · exact wpList_append_own w hgd s x t ho base e i z size bytes ht hi hz hsize hby hzs hsz v n xs hs hown ad m c news hx hl hc h1 h63 hbytes hbase h

/-- .. at a step of a region that draws its order. -/
theorem step_append_src {P : Program} (w : World) {ops : Array Oper} {o : Oper} {a : Act} {K : Act → World → Prop} {Q : Exit → Act → World → Prop} {E : Prop} (hgd : o.guard = none) (s x : Operand) (t : TypeId)
    (ho : o.op = .call { callee := .builtin .append, args := #[s, x], argTypes := #[t, t] })
    (base : Nat) (e : TypeId) (i : TypeInfo) (z : Value) (size bytes : Nat) (ht : P.underlying t = some (.slice e)) (hi : P.info? e = some i) (hz : i.zero = some z)
    (hsize : i.size = size) (hby : i.bytes = bytes) (hzs : z.cells.size = size) (hsz : 0 < size)
    (v : Value) (n : Nat) (xs : List Value) (hs : a.eval s = v) (hown : w.ownsRow base e size v n xs)
    (u : Value) (m : Nat) (news : List Value) (hx : a.eval x = u) {N : Nat} (hsrc : Lies N w u m news) (hl : news.length = m * size) (h1 : ∀ u ∈ news, u.oneCell' = true)
    (h63 : n + m ≤ maxLen) (hbytes : (n + m) * bytes ≤ 140737488355328) (hbase : base ≤ w.heap.size)
    (h : ∀ v' w', w'.ownsRow base e size v' (n + m) (xs ++ news) → w.grownBy w' v.ownBlock → (v' = .slice none 0 0 ↔ v = .slice none 0 0 ∧ m = 0) → K (a.put o.dst v') w') :
    if Region.wanted o (yielded ops a.tmps) = true then Oper.wp P o a w K Q else E := by
  have hw : Region.wanted o (yielded ops a.tmps) = true := by simp [Region.wanted, hgd]
  rw [if_pos hw]
  rcases hsrc with ⟨rfl, rfl, rfl⟩ | ⟨ad, c, rfl, -, hc⟩
  · have hrun := run_append_owned_none (P := P) w base t o.type e i size ht hi v n xs hown
    unfold Oper.wp
    simp [execOp, ho, resolve, invoke, builtin, hs, hx, hrun, Result.andThen]
    exact h v w (by simpa using hown) (World.grownBy.refl _ _) (by simp)
  · exact wp_append_own w s x t ho base e i z size bytes ht hi hz hsize hby hzs hsz v n xs hs hown ad m c news hx hl hc h1 h63 hbytes hbase h

/-- Zeros, one behind the other. -/
def zeros (z : Value) (k : Nat) : List Value := (Builtin.zeroCells z.cells k).toList
theorem zeros_len (z : Value) (k : Nat) : (zeros z k).length = k * z.cells.size := by simp [zeros, size_zeroCells]
theorem zeros_one (z : Value) (v : Value) (hz : z.cells = #[v]) (k : Nat) : zeros z k = List.replicate k v := by
  unfold zeros Builtin.zeroCells
  rw [hz]
  have h : (fun i => (#[v] : Array Value)[i % (#[v] : Array Value).size]!) = fun _ : Nat => v := by
    funext i
    simp [Nat.mod_one]
  rw [h, Array.toList_map]
  simp [List.map_const']
/-- append(v, make(.., k)..) -/
theorem run_append_zeros {P : Program} (w : World) (base : Nat) (t ti ty e : TypeId) (ki : IntKind) (i : TypeInfo) (z : Value) (size bytes : Nat) (ht : P.underlying t = some (.slice e)) (hti : P.underlying ti = some (.int ki)) (hi : P.info? e = some i) (hz : i.zero = some z)
    (hsize : i.size = size) (hby : i.bytes = bytes) (hzs : z.cells.size = size) (hsz : 0 < size) (hone : ∀ u ∈ z.cells.toList, u.oneCell' = true)
    (v : Value) (n : Nat) (xs : List Value) (hown : w.ownsRow base e size v n xs) (kx : IntKind) (k : Nat) (hk : 0 < k)
    (h63 : n + k ≤ maxLen) (hbytes : (n + k) * bytes ≤ 140737488355328) (hbase : base ≤ w.heap.size) :
    ∃ v' w', (Builtin.append_ #[t, ti] ty #[v, .int kx (k : Int)]).run P w = .ok v' w' ∧ w'.ownsRow base e size v' (n + k) (xs ++ zeros z k) ∧ w.grownBy w' v.ownBlock := by
  subst hsize
  subst hby
  have hsmall : n + k ≤ 9223372036854775807 := by simp only [maxLen] at h63; omega
  have hwrap : IntKind.i64.wrap (k : Int) = (k : Int) := IntWalk.i64_in _ (by omega)
  have hk0 : ¬ ((k : Int) < 0) := by omega
  have hb1 : k * i.bytes ≤ 140737488355328 := Nat.le_trans (Nat.mul_le_mul_right _ (by omega)) hbytes
  have hb2 : ¬ ((281474976710656 : Int) < (k : Int) * (i.bytes : Int)) := by
    have h2 : ((k * i.bytes : Nat) : Int) ≤ 140737488355328 := Int.ofNat_le.2 hb1
    rw [Int.natCast_mul] at h2
    omega
  have hkz : ¬ (k * i.size = 0) := Nat.ne_of_gt (Nat.mul_pos hk hsz)
  have hzl := zeros_len z k
  have hlen : (xs ++ zeros z k).length = (n + k) * i.size := by rw [List.length_append, hown.1, hzl, hzs, Nat.add_mul]
  have grown : ∀ (old : Nat), old < n + k → ∀ (row : Option Nat),
      (w.drew.alloc (.cells (xs.toArray ++ (zeros z k).toArray ++ Builtin.zeroCells z.cells (grownCap w (n + k) old e - (n + k))) e)).ownsRow base e i.size
        (.slice (some ⟨w.heap.size, 0, none⟩) (n + k) (grownCap w (n + k) old e)) (n + k) (xs ++ zeros z k) ∧
      w.grownBy (w.drew.alloc (.cells (xs.toArray ++ (zeros z k).toArray ++ Builtin.zeroCells z.cells (grownCap w (n + k) old e - (n + k))) e)) row := by
    intro old ho row
    have hge := grownCap_ge w (n + k) old e
    have hcm : grownCap w (n + k) old e ≤ maxLen := grownCap_le_maxLen w (n + k) old e h63
    refine ⟨⟨hlen, .inr ⟨w.heap.size, _, _, rfl, hbase, heap_alloc_new w.drew _, hge, hcm, ?_, ?_⟩⟩, ⟨rfl, rfl, rfl, by simp, fun j hj _ => Go.heap_alloc_old w.drew _ hj⟩⟩
    · simp only [Array.size_append, List.size_toArray, size_zeroCells, hzs, hown.1, hzl, ← Nat.add_mul]
      congr 1
      omega
    · simp only [Array.toList_append, List.append_assoc]
      rw [← List.append_assoc, ← hlen]
      exact List.take_left
  rcases hown.2 with ⟨rfl, rfl⟩ | ⟨g, cap, cur, rfl, hbg, hg, hnc, hcm, hcs, htake⟩
  · have hx : xs = [] := List.eq_nil_of_length_eq_zero (by simpa using hown.1)
    subst hx
    have hgr := grown 0 (by omega) (Value.ownBlock (.slice none 0 0))
    refine ⟨_, _, ?_, hgr.1, hgr.2⟩
    have hn : k ≠ 0 := by omega
    have h63' : ¬ (9223372036854775807 < (k : Int)) := by omega
    have h48' : ¬ (281474976710656 < Builtin.nextslicecap k 0 * i.bytes) := by rw [nextslicecap_zero hk]; omega
    simp [Builtin.append_, run_underlying ht, run_underlying hti, sizeOf, typeInfo, zeroValue, hi, hz, asInt, asIntOf, hwrap, hk0, hb2, hn, h63', h48', Question.forced, run_firstCells_none, newRow, grownCap, zeros]
    exact fun hc => absurd hc hkz
  · by_cases hroom : n + k ≤ cap
    · have hfit : n * i.size + (zeros z k).length ≤ cur.size := by rw [hzl, hzs, hcs, ← Nat.add_mul]; exact Nat.mul_le_mul_right _ hroom
      have h1 : ∀ u ∈ zeros z k, u.oneCell' = true := fun u hu => by
        unfold zeros Builtin.zeroCells at hu
        simp at hu
        obtain ⟨j, hj, hu⟩ := hu
        have hp : 0 < z.cells.size := by omega
        have hm := Nat.mod_lt j hp
        rw [getElem!_pos z.cells (j % z.cells.size) hm] at hu
        exact hone u (by rw [← hu]; simp)
      have hst := run_storeCells_at P g (n * i.size) e (zeros z k) 0 cur w hg (by simpa using hfit) h1
      simp only [Nat.add_zero] at hst
      refine ⟨.slice (some ⟨g, 0, none⟩) (n + k) cap, w.setRow g (cur.toList.take (n * i.size) ++ zeros z k ++ cur.toList.drop (n * i.size + (zeros z k).length)).toArray, ?_, ⟨hlen, .inr ⟨g, cap, _, rfl, hbg, setRow_heap w g cur _ e _ hg, hroom, hcm, ?_, ?_⟩⟩, ⟨rfl, rfl, rfl, by simp, fun k _ hk => setRow_other w g k _ (fun e => hk (by simp [Value.ownBlock, e]))⟩⟩
      · simp [Builtin.append_, run_underlying ht, run_underlying hti, sizeOf, typeInfo, zeroValue, hi, hz, asInt, asIntOf, hwrap, hk0, hb2, hroom, Addr.add_lit]
        rw [if_neg hkz]
        unfold zeros at hst ⊢
        rw [hst]
        simp
      · simp only [List.size_toArray, List.length_append, List.length_take, List.length_drop, Array.length_toList]
        omega
      · rw [htake, ← hlen]
        exact List.take_left
    · have holds : ∀ j u, xs[j]? = some u → w.cell? ((⟨g, 0, none⟩ : Addr).add j) = some u := hown.cells (g := g) rfl
      have hgr := grown cap (by omega) (Value.ownBlock (.slice (some ⟨g, 0, none⟩) n cap))
      refine ⟨_, _, ?_, hgr.1, hgr.2⟩
      have hn : ¬ (n + k ≤ cap) := hroom
      have h63' : ¬ (9223372036854775807 < ((n : Int) + (k : Int))) := by omega
      have h48' : ¬ (281474976710656 < Builtin.nextslicecap (n + k) cap * i.bytes) := by have := growslice_fits (need := n + k) (old := cap) (by omega) hbytes; omega
      have hfo := run_firstCells_some (P := P) w.drew i.size n ⟨g, 0, none⟩ n cap xs hown.1 (by simpa using holds)
      simp [Builtin.append_, run_underlying ht, run_underlying hti, sizeOf, typeInfo, zeroValue, hi, hz, asInt, asIntOf, hwrap, hk0, hb2, hn, h63', h48', Question.forced, hfo, newRow, grownCap, zeros]
      exact fun hc => absurd hc hkz
/-- .. in the walk. -/
theorem wpList_append_zeros {P : Program} (w : World) {ops : Array Oper} {rest : List Oper} {o : Oper} {a : Act} {Q : Exit → Act → World → Prop} (hgd : o.guard = none) (s x : Operand) (t ti : TypeId)
    (ho : o.op = .call { callee := .builtin .append, args := #[s, x], argTypes := #[t, ti] })
    (base : Nat) (e : TypeId) (ki : IntKind) (i : TypeInfo) (z : Value) (size bytes : Nat) (ht : P.underlying t = some (.slice e)) (hti : P.underlying ti = some (.int ki)) (hi : P.info? e = some i) (hz : i.zero = some z)
    (hsize : i.size = size) (hby : i.bytes = bytes) (hzs : z.cells.size = size) (hsz : 0 < size) (hone : ∀ u ∈ z.cells.toList, u.oneCell' = true)
    (v : Value) (n : Nat) (xs : List Value) (hs : a.eval s = v) (hown : w.ownsRow base e size v n xs) (kx : IntKind) (k : Nat) (hx : a.eval x = .int kx (k : Int)) (hk : 0 < k)
    (h63 : n + k ≤ maxLen) (hbytes : (n + k) * bytes ≤ 140737488355328) (hbase : base ≤ w.heap.size)
    (h : ∀ v' w', w'.ownsRow base e size v' (n + k) (xs ++ zeros z k) → w.grownBy w' v.ownBlock → wpList P ops Q rest (a.put o.dst v') w') : wpList P ops Q (o :: rest) a w := by
  refine wpList_plain hgd fun K hK => ?_
  obtain ⟨v', w', hrun, h2, h3⟩ := run_append_zeros (P := P) w base t ti o.type e ki i z size bytes ht hti hi hz hsize hby hzs hsz hone v n xs hown kx k hk h63 hbytes hbase
  unfold Oper.wp execOp
  simp only [ho, resolve, invoke, builtin, Sem.run_bind, Sem.run_pure, Result.andThen_ok, List.map_toArray, List.map_cons, List.map_nil, hs, hx, hrun]
  exact hK _ _ (h v' w' h2 h3)

/-- Cells of a list of which each has s, one behind the other. -/
theorem arr_flat {α : Type} {f : α → List Value} {s : Nat} (hf : ∀ x, (f x).length = s) (hs : 0 < s) {w : World} {b o : Nat} {l : List α} (h : ∀ i (hi : i < l.length), ∀ q, q < s → w.cell? ⟨b, o + (i * s + q), none⟩ = (f l[i])[q]?) :
    Arr w (some ⟨b, o, none⟩) (l.flatMap f) := by
  refine .inr ⟨b, o, rfl, fun j hj => ?_⟩
  rw [flat_length f s hf] at hj
  have hd : j / s < l.length := by
    rw [Nat.div_lt_iff_lt_mul hs]
    exact hj
  have hm : j % s < s := Nat.mod_lt _ hs
  have he : j / s * s + j % s = j := by rw [Nat.mul_comm]; exact Nat.div_add_mod j s
  have h1 := flat_get f s hf l (j / s) (j % s) hd hm
  have h2 := h (j / s) hd (j % s) hm
  rw [he] at h1 h2
  rw [h2, ← h1, List.getElem?_eq_getElem]

section
variable {H : Type} {enc : TypeId × Value → H} {P : Program} {W W' : World}
/-- A slice of what has s cells, as it came in. -/
theorem open_row {α : Type} [Inhabited α] (f : α → List Value) (p : α → Prop) {s : Nat} (hf : ∀ x, (f x).length = s) (hs : 0 < s) {base : Nat} {t e : TypeId} {v : Value} {d : DataW H} {pl : List MemPlace} (ht : P.underlying t = some (.slice e)) (hc : P.cellsOf e = s)
    (hel : ∀ n cs y, cs.length = s → DataW.trod enc P W 0 (fun _ => true) true n e cs = some y → ∃ x, cs = f x ∧ p x)
    (hval : Value.okWide P W .any base t v) (h : DataW.Trod enc P W 0 (fun _ => true) true t v d pl) :
    ∃ (A : Option Addr) (c : Nat) (l : List α), v = .slice A l.length c ∧ l.length ≤ c ∧ c ≤ maxLen ∧ Arr W A (l.flatMap f) ∧ ∀ x ∈ l, p x := by
  obtain ⟨A, n, c, rfl⟩ := okWide_slice ht hval
  obtain ⟨fuel, hfu⟩ := h
  rcases Go.Deep.open_slice ht hfu with ⟨hcs, _⟩ | ⟨a, len, cap, m, k, D, Pl, hcs, _, hl, hm, hmm, _, hi⟩
  · simp [Value.cells] at hcs
    obtain ⟨rfl, rfl, rfl⟩ := hcs
    exact ⟨none, 0, [], rfl, Nat.le_refl _, by simp [maxLen], .inl rfl, by simp⟩
  · simp [Value.cells] at hcs
    obtain ⟨rfl, rfl, rfl⟩ := hcs
    rw [hc] at hi
    simp only [if_true] at hmm
    obtain ⟨F, hF⟩ := Go.Deep.choose_lt (n := n) (p := fun i x => W.cells? 0 (a.add (i * s)) s = some (f x) ∧ p x) (fun i hin => by
      obtain ⟨cs', h1, h2⟩ := hi i (by omega)
      obtain ⟨x, rfl, hx⟩ := hel _ _ _ (World.cells?_some h1).2.1 h2
      exact ⟨x, h1, hx⟩)
    refine ⟨some a, _, (List.range n).map F, by simp, by simpa using hl, hm, ?_, by simpa using fun i hin => (hF i hin).2⟩
    by_cases h0 : n = 0
    · subst h0; exact .inl rfl
    · obtain ⟨b, o, spot⟩ := a
      have hc0 := (World.cells?_some (hF 0 (by omega)).1).2.2 0 (by omega)
      have hspot : spot = none := by
        rw [List.getElem?_eq_getElem (by rw [hf]; omega)] at hc0
        simpa [Addr.add] using World.cell?_spot hc0
      subst hspot
      refine arr_flat hf hs fun i hin q hq => ?_
      have hin' : i < n := by simpa using hin
      have := (World.cells?_some (hF i hin').1).2.2 q hq
      rw [add_none, add_none] at this
      rw [← Nat.add_assoc, this]
      simp
end
end Go.Proofs.Ytpjlhkepdiajjaa

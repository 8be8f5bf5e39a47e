
/- Package extent: slices.Insert of one run. -/
import Derived.Test.YtpjlhkepdiajjaaExtB
import Derived.Maps.AppendAt
import Derived.Lib.Overlaps
set_option linter.all false
namespace Go.Proofs.Ytpjlhkepdiajjaa
open Go.RowKit

/-- append(s, make(.., k)..) where it must grow: a new row, known whole. -/
theorem wpList_append_zeros_grow {P : Program} (w : World) {ops : Array Oper} {rest : List Oper} {o : Oper} {a : Act} {Q : Exit → Act → World → Prop} (hgd : o.guard = none) (s x : Operand) (t ti : TypeId)
    (ho : o.op = .call { callee := .builtin .append, args := #[s, x], argTypes := #[t, ti] })
    (e : TypeId) (ki : IntKind) (i : TypeInfo) (z : Value) (size bytes : Nat) (ht : P.underlying t = some (.slice e)) (hti : P.underlying ti = some (.int ki)) (hi : P.info? e = some i) (hz : i.zero = some z)
    (hsize : i.size = size) (hby : i.bytes = bytes) (hzs : z.cells.size = size) (hsz : 0 < size)
    (g n cap : Nat) (xs : List Value) (hs : a.eval s = .slice (some ⟨g, 0, none⟩) n cap) (hxs : xs.length = n * size) (holds : ∀ j u, xs[j]? = some u → w.cell? ((⟨g, 0, none⟩ : Addr).add j) = some u)
    (kx : IntKind) (k : Nat) (hx : a.eval x = .int kx (k : Int)) (hk : cap < n + k) (hn : n ≤ cap)
    (h63 : n + k ≤ maxLen) (hbytes : (n + k) * bytes ≤ 140737488355328)
    (h : ∀ (cap' : Nat) (C : List Value) (w' : World), w'.heap[w.heap.size]? = some (.cells C.toArray e (0, 0)) → n + k ≤ cap' → cap' ≤ maxLen → C.length = cap' * size → C.take (n * size) = xs → Ext w w' → w.heap.size < w'.heap.size → wpList P ops Q rest (a.put o.dst (.slice (some ⟨w.heap.size, 0, none⟩) (n + k) cap')) w') : wpList P ops Q (o :: rest) a w := by
  refine wpList_plain hgd fun K hK => ?_
  subst hsize
  subst hby
  have hk0' : 0 < k := by omega
  have hsmall : n + k ≤ 9223372036854775807 := by simp only [maxLen] at h63; omega
  have hwrap : IntKind.i64.wrap (k : Int) = (k : Int) := IntWalk.i64_in _ (by omega)
  have hk0 : ¬ ((k : Int) < 0) := by omega
  have hb1 : k * i.bytes ≤ 140737488355328 := Nat.le_trans (Nat.mul_le_mul_right _ (by omega)) hbytes
  have hb2 : ¬ ((281474976710656 : Int) < (k : Int) * (i.bytes : Int)) := by
    have h2 : ((k * i.bytes : Nat) : Int) ≤ 140737488355328 := Int.ofNat_le.2 hb1
    rw [Int.natCast_mul] at h2
    omega
  have hkz : ¬ (k * i.size = 0) := Nat.ne_of_gt (Nat.mul_pos hk0' hsz)
  have hnr : ¬ (n + k ≤ cap) := by omega
  have h63' : ¬ (9223372036854775807 < ((n : Int) + (k : Int))) := by omega
  have h48' : ¬ (281474976710656 < Builtin.nextslicecap (n + k) cap * i.bytes) := by have := growslice_fits (need := n + k) (old := cap) (by omega) hbytes; omega
  have hfo := run_firstCells_some (P := P) w.drew i.size n ⟨g, 0, none⟩ n cap xs hxs (by simpa using holds)
  have hrun : (Builtin.append_ #[t, ti] o.type #[.slice (some ⟨g, 0, none⟩) n cap, .int kx (k : Int)]).run P w = .ok (.slice (some ⟨w.heap.size, 0, none⟩) (n + k) (grownCap w (n + k) cap e))
      (w.drew.alloc (.cells (xs ++ zeros z k ++ (Builtin.zeroCells z.cells (grownCap w (n + k) cap e - (n + k))).toList).toArray e)) := by
    simp [Builtin.append_, run_underlying ht, run_underlying hti, sizeOf, typeInfo, zeroValue, hi, hz, asInt, asIntOf, hwrap, hk0, hb2, hnr, h63', h48', Question.forced, hfo, newRow, grownCap, zeros]
    rw [if_neg hkz]
    simp
    congr 2
    apply Array.ext'
    simp
  have hge := grownCap_ge w (n + k) cap e
  have hcm : grownCap w (n + k) cap e ≤ maxLen := grownCap_le_maxLen w (n + k) cap e h63
  unfold Oper.wp execOp
  simp only [ho, resolve, invoke, builtin, Sem.run_bind, Sem.run_pure, Result.andThen_ok, List.map_toArray, List.map_cons, List.map_nil, hs, hx, hrun]
  refine hK _ _ (h _ _ _ (heap_alloc_new w.drew _) hge hcm ?_ ?_ (Ext.alloc (Ext.drew (Below.refl _ w)) _) (by simp))
  · simp only [List.length_append, zeros_len, hzs, hxs, Array.length_toList, size_zeroCells, ← Nat.add_mul]
    congr 1
    omega
  · rw [List.append_assoc, ← hxs, List.take_left]

theorem nmin {a b : Nat} (h : a ≤ b) : Nat.min a b = a := Nat.min_eq_left h
theorem nmin' {a b : Nat} (h : b ≤ a) : Nat.min a b = b := Nat.min_eq_right h
theorem sizeRun : (Try.prog.info? 91).map (·.size) = some 2 := by kernel_rfl
section
variable (base : Nat) (v : Value) (R : List Run) (i : Nat) (x : Run) (w : World) (bx : Nat)
/-- What an insertion leaves. -/
def Inserted (e : Ending) (w' : World) : Prop := ∃ v', e = .returned v' ∧ OwnR w' base v' (R.take i ++ [x] ++ R.drop i) ∧ w.grownBy w' v.ownBlock ∧ (v'.ownBlock = v.ownBlock ∨ v'.ownBlock = some w.heap.size)

set_option maxHeartbeats 4000000 in
theorem insert_end (h : OwnR w base v R) (hR : R.length ≤ 16777215) (hx : w.heap[bx]? = some (.cells #[.int .i64 x.1, .int .i64 x.2] 91)) (hbase : base ≤ w.heap.size) :
    Calls Try.prog 68 #[v, .int .i64 R.length, .slice (some ⟨bx, 0, none⟩) 1 1] w (Inserted base v R R.length x w) := by
  obtain ⟨i0, hi0, hz0, hz1, hz2⟩ := info_parts infoRun
  obtain ⟨A, c, rfl, hc, -⟩ := Arr.own h
  have hnews : ∀ j u, (cell2 x)[j]? = some u → w.cell? ((⟨bx, 0, none⟩ : Addr).add j) = some u := fun j u hj => by
    rw [add_none, cell_of_row w bx _ _ _ _ hx, Nat.zero_add]
    simpa using hj
  have HN := Lib.hid hnews
  clear hnews hx
  have fin : ∀ v' w1 r, w1.ownsRow base 91 2 v' (R.length + 1) (rowC R ++ cell2 x) → w.grownBy w1 r → r = (Value.slice A R.length c).ownBlock → (v'.ownBlock = (Value.slice A R.length c).ownBlock ∨ v'.ownBlock = some w.heap.size) → Inserted base (.slice A R.length c) R R.length x w (.returned v') w1 := by
    rintro v' w1 r ho1 hg1 rfl ha1
    have e1 : R.take R.length ++ [x] ++ R.drop R.length = R ++ [x] := by simp
    have e2 : rowC (R ++ [x]) = rowC R ++ cell2 x := by rw [rowC_append]; simp [rowC]
    unfold Inserted
    rw [e1]
    exact ⟨v', rfl, by show w1.ownsRow _ _ _ _ (R ++ [x]).length (rowC (R ++ [x])); rw [e2, List.length_append]; exact ho1, hg1, ha1⟩
  have hd : R.length = c ∨ ¬ (c = R.length) := by omega
  rcases hd with rfl | hcf
  all_goals
   go_enter Try.func68, Try.ntmps68
   go_wp2_with (first
    | (at_builtin; refine wpList_append_own_at _ rfl (.tmp 23) (.tmp 24) 92 rfl base 91 i0 (.agg #[.int .i64 0, .int .i64 0]) 2 16 Try.underlying92 hi0 hz0 hz1 hz2 rfl (by decide) _ _ _ rfl h ⟨bx, 0, none⟩ 1 1 (cell2 x) rfl rfl HN.out (by simp [Value.oneCell']) (by simp [maxLen]; omega) (by omega) hbase ?_; intro v' w1 ho1 hg1 hn1 ha1))
   go_ret
   exact fin _ _ _ ho1 hg1 rfl ha1
theorem cell_x {w : World} {bx : Nat} {x : Run} {t : TypeId} (hx : w.heap[bx]? = some (.cells #[.int .i64 x.1, .int .i64 x.2] t)) : ∀ j u, (cell2 x)[j]? = some u → w.cell? ((⟨bx, 0, none⟩ : Addr).add j) = some u := fun j u hj => by
  rw [add_none, cell_of_row w bx _ _ _ _ hx, Nat.zero_add]
  simpa using hj
theorem len_cell2 (x : Run) : (cell2 x).length = 2 := rfl
set_option maxHeartbeats 4000000 in
theorem insert_grow (g cap : Nat) (C : List Value) (hb : base ≤ g) (hg : w.heap[g]? = some (.cells C.toArray 91 (0, 0))) (hn : R.length ≤ cap) (hm : cap ≤ maxLen) (hC : C.length = cap * 2) (ht : C.take (R.length * 2) = rowC R)
    (hi : i < R.length) (hfull : cap < R.length + 1) (hR : R.length ≤ 16777215) (hx : w.heap[bx]? = some (.cells #[.int .i64 x.1, .int .i64 x.2] 91)) (hbase : base ≤ w.heap.size) :
    Calls Try.prog 68 #[.slice (some ⟨g, 0, none⟩) R.length cap, .int .i64 i, .slice (some ⟨bx, 0, none⟩) 1 1] w (Inserted base (.slice (some ⟨g, 0, none⟩) R.length cap) R i x w) := by
  obtain ⟨i0, hi0, hz0, hz1, hz2⟩ := info_parts infoRun
  have ht1 : (rowC (R.take i)).length = i * 2 := by rw [rowC_len, List.length_take, Nat.min_eq_left (by omega)]
  have hc1 : ∀ j u, (rowC (R.take i))[j]? = some u → w.cell? ((⟨g, 0, none⟩ : Addr).add j) = some u := fun j u hj => by
    have h0 := row_cells hg ht 0 j u (by rw [List.drop_zero, ← List.take_append_drop i R, rowC_append, List.getElem?_append_left (by have := (List.getElem?_eq_some_iff.1 hj).1; omega)]; exact hj)
    simpa using h0
  have hc2 := row_cells hg ht i
  have ht2 : (rowC (R.drop i)).length = (R.length - i) * 2 := by rw [rowC_len, List.length_drop]
  have HX := Lib.hid (cell_x hx)
  have HL := Lib.hid (And.intro ht1 (And.intro hc1 (And.intro hc2 (And.intro ht2 (And.intro hC ht)))))
  have hgl : g < w.heap.size := (Array.getElem?_eq_some_iff.1 hg).1
  have hbl : bx < w.heap.size := (Array.getElem?_eq_some_iff.1 hx).1
  obtain ⟨k, hk⟩ : ∃ k, R.length + 1 = i + k := ⟨R.length + 1 - i, by omega⟩
  have HK := Lib.hid hk
  have hkz : (R.length : Int) + 1 - (i : Int) = (k : Int) := by omega
  have hq1 : i ≤ cap := by omega
  have hq2 : ((i : Int) == (R.length : Int)) = false := by simp; omega
  have hq3 : decide ((R.length : Int) + 1 > (cap : Int)) = true := decide_eq_true (by omega)
  have HI := Lib.hid hi
  have hq4 : ¬ (cap = i) := by omega
  clear ht1 hc1 hc2 ht2 hC ht hg hx hk hi
  go_enter Try.func68, Try.ntmps68
  go_wp2_with (first
    | (at_builtin; refine wpList_append_zeros_grow _ rfl (.tmp 34) (.tmp 39) 92 3 rfl 91 .i64 i0 (.agg #[.int .i64 0, .int .i64 0]) 2 16 Try.underlying92 Try.underlying3 hi0 hz0 hz1 hz2 rfl (by decide) g i cap (rowC (R.take i)) rfl HL.out.1 HL.out.2.1 .i64 k rfl (by have := HK.out; omega) hq1 (by have := HK.out; simp [maxLen]; omega) (by have := HK.out; omega) ?_; intro cap2 C2 w2 hg2 hn2 hm2 hC2 ht2 hE2 hz2'; have hq5 : ¬ (cap2 = i + 1) := (by have := HK.out; have := HI.out; omega); have hq6 : ¬ (cap2 = i) := (by omega); have hq7 : (i : Int) + 1 ≤ (i : Int) + (k : Int) := (by have := HK.out; have := HI.out; omega))
    | ((with_reducible refine at_copy ?_); refine wpList_copy_rows _ rfl (.tmp 43) (.tmp 44) 92 92 rfl 91 2 Try.underlying92 sizeRun (by decide) _ _ k _ 1 1 rfl rfl w.heap.size (i * 2) C2 91 hg2 (cell2 x) (by have := HK.out; have := HI.out; rw [nmin (show 1 ≤ k by omega)]; simp) (fun _ => ⟨rfl, _, rfl, fun j u hj => ext_cell hE2 _ _ (HX.out j u hj)⟩) (by rw [len_cell2]; have := HK.out; have := HI.out; omega) (by simp [Value.oneCell']) ?_; intro w3 hg3 hG3; have E3 : Ext w w3 := Below.grown hE2 hG3 hE2.size (fun r hr => by cases hr; exact Nat.le_refl _)))
  have hq8 : (i : Int) ≤ (R.length : Int) := by have := HI.out; omega
  have hq9 : (0 : Int) ≤ (i : Int) + 1 := by omega
  have hwi : IntKind.i64.wrap ((i : Int) + 1) = (i : Int) + 1 := IntWalk.i64_in _ (by omega)
  have hq10 : i ≤ R.length := by omega
  have hs3 : (splice C2 (i * 2) (cell2 x)).length = cap2 * 2 := by rw [length_splice _ _ _ (by rw [len_cell2]; have := HK.out; have := HI.out; omega), hC2]
  have HS3 := Lib.hid hs3
  clear hs3
  go_region_law (refine step_copy_rows _ rfl (.tmp 50) (.tmp 53) 92 92 rfl 91 2 Try.underlying92 sizeRun (by decide) (some ⟨w.heap.size, (i + 1) * 2, none⟩) (some ⟨g, i * 2, none⟩) (i + k - (i + 1)) (cap2 - (i + 1)) (R.length - i) (cap - i) (by simp [Act.eval, Act.put]) (by simp [Act.eval, Act.put]) w.heap.size ((i + 1) * 2) _ 91 hg3 (rowC (R.drop i)) (by have := HK.out; rw [HL.out.2.2.2.1, nmin (by omega)]) (fun _ => ⟨rfl, _, rfl, fun j u hj => ext_cell E3 _ _ (HL.out.2.2.1 j u hj)⟩) (by rw [HL.out.2.2.2.1, HS3.out]; have := HK.out; omega) (rowC_one _) ?_; intro w4 hg4 hG4)
  go_wp2_with fail
  go_ret
  obtain ⟨k1, k2, k3, k4, k5, k6⟩ := HL.out
  have hik := HK.out
  have E4 : Ext w w4 := Below.grown E3 (grown_drew hG4) E3.size (fun r hr => by cases hr; exact Nat.le_refl _)
  have e1 : (splice (splice C2 (i * 2) (cell2 x)) ((i + 1) * 2) (rowC (R.drop i))).take ((i + k) * 2) = rowC (R.take i ++ [x] ++ R.drop i) := by
    rw [take_splice' _ _ _ _ (by rw [HS3.out]; omega) (by rw [k4]; omega), take_splice' _ _ _ _ (by rw [hC2]; omega) (by rw [len_cell2]; omega), ht2, rowC_append, rowC_append]
    simp [rowC]
  have hN : (R.take i ++ [x] ++ R.drop i).length = i + k := by simp; omega
  refine ⟨_, rfl, ⟨by rw [rowC_len], .inr ⟨w.heap.size, cap2, _, by rw [hN]; rfl, by omega, hg4, by rw [hN]; omega, hm2, ?_, by rw [hN]; exact e1⟩⟩, ⟨E4.os, E4.tape, E4.output, E4.size, fun j hj _ => E4.block j hj⟩, .inr rfl⟩
  rw [List.size_toArray, length_splice _ _ _ (by rw [HS3.out, k4]; omega), HS3.out]

set_option maxHeartbeats 4000000 in
set_option maxRecDepth 20000 in
theorem insert_room (g cap : Nat) (C : List Value) (hb : base ≤ g) (hg : w.heap[g]? = some (.cells C.toArray 91 (0, 0))) (hm : cap ≤ maxLen) (hC : C.length = cap * 2) (ht : C.take (R.length * 2) = rowC R)
    (hi : i < R.length) (hroom : R.length + 1 ≤ cap) (hR : R.length ≤ 16777215) (hx : w.heap[bx]? = some (.cells #[.int .i64 x.1, .int .i64 x.2] 91)) (hne : bx ≠ g) :
    Calls Try.prog 68 #[.slice (some ⟨g, 0, none⟩) R.length cap, .int .i64 i, .slice (some ⟨bx, 0, none⟩) 1 1] w (Inserted base (.slice (some ⟨g, 0, none⟩) R.length cap) R i x w) := by
  have hc2 := row_cells hg ht i
  have ht2 : (rowC (R.drop i)).length = (R.length - i) * 2 := by rw [rowC_len, List.length_drop]
  have HX := Lib.hid (cell_x hx)
  have HL := Lib.hid (And.intro hc2 (And.intro ht2 (And.intro hC ht)))
  have hgl : g < w.heap.size := (Array.getElem?_eq_some_iff.1 hg).1
  have hbl : bx < w.heap.size := (Array.getElem?_eq_some_iff.1 hx).1
  have HI := Lib.hid hi
  have hq1 : i ≤ cap := by omega
  have hq2 : ((i : Int) == (R.length : Int)) = false := by simp; omega
  have hq3 : decide ((R.length : Int) + 1 > (cap : Int)) = false := decide_eq_false (by omega)
  have hq4 : ¬ (cap = i) := by omega
  have hq5 : ¬ (cap = i + 1) := by omega
  have hq6 : (R.length : Int) + 1 ≤ (cap : Int) := by omega
  have hq8 : (i : Int) ≤ (R.length : Int) := by omega
  have hq9 : (0 : Int) ≤ (i : Int) + 1 := by omega
  have hwi : IntKind.i64.wrap ((i : Int) + 1) = (i : Int) + 1 := IntWalk.i64_in _ (by omega)
  have hq10 : i ≤ R.length := by omega
  have hq11 : (i : Int) + 1 ≤ (R.length : Int) + 1 := by omega
  have hnb : (bx == g) = false := by simpa using hne
  have hq12 : (i : Int) ≤ (R.length : Int) + 1 := by omega
  have hsE : ∀ w, (Go.sizeOf 91).run Try.prog w = .ok 2 w := fun w => by obtain ⟨i0, hi0, hz0, hz1, hz2⟩ := info_parts infoRun; simp [sizeOf, typeInfo, hi0, hz1]
  have hov : (callFunc 69 #[.slice (some ⟨bx, 0, none⟩) 1 1, .slice (some ⟨g, (i + 1) * 2, none⟩) (R.length - i) (cap - (i + 1))]).run Try.prog w = .ok (.value (.bool false)) w := by
    rw [run_callFunc_extern Try.func69 (by kernel_rfl) (by kernel_rfl) (by kernel_rfl) (e := Extern.SlicesOverlaps.overlaps #[92, 92] #[4]) (by kernel_rfl),
      Lib.run_overlaps_apart w 92 4 91 Try.underlying92 2 hsE ⟨bx, 0, none⟩ ⟨g, (i + 1) * 2, none⟩ 1 1 (R.length - i) (cap - (i + 1)) hne 91 91 2 C.length (by simp [World.shape?, hx]) (by simp [World.shape?, hg]) (by omega) (by simp [World.frozen?, hx]) (by simp [World.frozen?, hx])]
    rfl
  have hcl1 : (splice C ((i + 1) * 2) (rowC (R.drop i))).length = cap * 2 := by rw [length_splice _ _ _ (by rw [ht2, hC]; omega), hC]
  have HS := Lib.hid hcl1
  clear hc2 ht2 hC ht hx hi hcl1
  go_enter Try.func68, Try.ntmps68
  go_wp2_with fail
  go_region_law (refine step_copy_rows _ rfl (.tmp 73) (.tmp 76) 92 92 rfl 91 2 Try.underlying92 sizeRun (by decide) (some ⟨g, (i + 1) * 2, none⟩) (some ⟨g, i * 2, none⟩) (R.length - i) (cap - (i + 1)) (R.length + 1 - i) (cap - i) (by simp [Act.eval, Act.put]) (by simp [Act.eval, Act.put]) g ((i + 1) * 2) C 91 hg (rowC (R.drop i)) (by rw [HL.out.2.1, nmin' (by omega)]) (fun _ => ⟨rfl, _, rfl, fun j u hj => HL.out.1 j u hj⟩) (by rw [HL.out.2.1, HL.out.2.2.1]; omega) (rowC_one _) ?_; intro w3 hg3 hG3)
  have hcx : ∀ j u, (cell2 x)[j]? = some u → w3.cell? ((⟨bx, 0, none⟩ : Addr).add j) = some u := fun j u hj => by
    have := (grown_drew hG3).cell (HX.out j u hj) (by rw [add_block]; simpa using hne)
    exact this
  have HCX := Lib.hid hcx
  clear hcx
  go_wp2_with (first
    | ((with_reducible refine at_copy ?_); refine wpList_copy_rows _ rfl (.tmp 80) (.tmp 81) 92 92 rfl 91 2 Try.underlying92 sizeRun (by decide) _ _ (R.length + 1 - i) _ 1 1 rfl rfl g (i * 2) _ 91 hg3 (cell2 x) (by rw [nmin (by have := HI.out; omega)]; simp) (fun _ => ⟨rfl, _, rfl, HCX.out⟩) (by rw [len_cell2, HS.out]; omega) (by simp [Value.oneCell']) ?_; intro w4 hg4 hG4))
  go_ret
  obtain ⟨k1, k2, k3, k4⟩ := HL.out
  have hiR := HI.out
  have eT : C.take (i * 2) = rowC (R.take i) := by rw [← rowC_take, ← k4, List.take_take, Nat.min_eq_left (by omega)]
  have e1 : (splice (splice C ((i + 1) * 2) (rowC (R.drop i))) (i * 2) (cell2 x)).take ((R.length + 1) * 2) = rowC (R.take i ++ [x] ++ R.drop i) := by
    have e2 : (splice C ((i + 1) * 2) (rowC (R.drop i))).take (i * 2) = C.take (i * 2) := by
      rw [splice_eq, List.append_assoc, List.take_append_of_le_length (by rw [List.length_take]; omega), List.take_take, Nat.min_eq_left (by omega)]
    have e3 : ((splice C ((i + 1) * 2) (rowC (R.drop i))).drop (i * 2 + 2)).take ((R.length - i) * 2) = rowC (R.drop i) := by
      rw [splice_eq, List.append_assoc, List.drop_append, List.drop_eq_nil_of_le (by rw [List.length_take]; omega), List.nil_append, List.length_take, Nat.min_eq_left (by omega), show i * 2 + 2 - (i + 1) * 2 = 0 by omega, List.drop_zero, ← k2, List.take_left]
    rw [splice_eq, len_cell2, show (R.length + 1) * 2 = (i * 2 + 2) + (R.length - i) * 2 by omega, List.take_append, e2, eT]
    have hl2 : (rowC (R.take i) ++ cell2 x).length = i * 2 + 2 := by rw [List.length_append, rowC_len, List.length_take, Nat.min_eq_left (by omega)]; rfl
    rw [hl2, List.take_of_length_le (by omega), show i * 2 + 2 + (R.length - i) * 2 - (i * 2 + 2) = (R.length - i) * 2 by omega, e3, rowC_append, rowC_append]
    simp [rowC]
  have hN : (R.take i ++ [x] ++ R.drop i).length = R.length + 1 := by simp; omega
  refine ⟨_, rfl, ⟨by rw [rowC_len], .inr ⟨g, cap, _, by rw [hN]; rfl, hb, hg4, by rw [hN]; omega, hm, ?_, by rw [hN]; exact e1⟩⟩, (grown_drew hG3).trans hG4, .inl rfl⟩
  rw [List.size_toArray, length_splice _ _ _ (by rw [HS.out, len_cell2]; omega), HS.out]

theorem insert_any (h : OwnR w base v R) (hi : i ≤ R.length) (hR : R.length ≤ 16777215) (hx : w.heap[bx]? = some (.cells #[.int .i64 x.1, .int .i64 x.2] 91)) (hbase : base ≤ w.heap.size) (hne : v.ownBlock ≠ some bx) :
    Calls Try.prog 68 #[v, .int .i64 i, .slice (some ⟨bx, 0, none⟩) 1 1] w (Inserted base v R i x w) := by
  by_cases hl : i = R.length
  · subst hl
    exact insert_end base v R x w bx h hR hx hbase
  · obtain ⟨-, ⟨rfl, h0⟩ | ⟨g, cap, cur, rfl, hb, hg, hn, hm, hs, ht⟩⟩ := h
    · omega
    · have hg' : w.heap[g]? = some (.cells cur.toList.toArray 91 (0, 0)) := by simpa using hg
      by_cases hf : cap < R.length + 1
      · exact insert_grow base R i x w bx g cap cur.toList hb hg' hn hm (by simpa using hs) ht (by omega) hf hR hx hbase
      · exact insert_room base R i x w bx g cap cur.toList hb hg' hm (by simpa using hs) ht (by omega) (by omega) hR hx (fun e => hne (by rw [e]; rfl))
end
end Go.Proofs.Ytpjlhkepdiajjaa

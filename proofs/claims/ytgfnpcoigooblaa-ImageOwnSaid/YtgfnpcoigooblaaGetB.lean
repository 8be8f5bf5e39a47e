
/- Package image: Get. -/
import Derived.Test.YtgfnpcoigooblaaGetP
import Derived.Test.YtgfnpcoigooblaaHead15
import Derived.Test.YtgfnpcoigooblaaPlain15
set_option linter.all false
namespace Go.Proofs.Ytgfnpcoigooblaa
open Go.RowKit
attribute [local go_sem] seen dstOf boolOf

theorem conv_got {p : Nat} {W : World} {v : Value} {xs : List Int} (h : Got p xs v W) (hn : 0 < xs.length) : (convert 27 9 v).run Try.prog W = .ok (.string (strOfNums xs)) W := by
  obtain ⟨A, c, rfl, hA, -⟩ := h
  obtain ⟨b, o, rfl, -, hc⟩ := hA.open (by simpa [bs] using hn)
  refine run_convert_bytes_arg W 27 5 Try.underlying27 Try.underlying5 b o xs.length c xs rfl (fun i hi => ?_) 9 Try.underlying9
  have := hc i (by simpa [bs] using hi)
  rw [this]
  simp [bs, List.getElem?_eq_getElem hi]
theorem RdAt.only {p q : Nat} {T : List TypeId} {l : List Int} {bad : Bool} {W W' : World} (h : RdAt W p l bad) (hO : Only q T W W') (hq : p ≤ q) (hT : 62 ∉ T) : RdAt W' p l bad := by
  obtain ⟨A, c, h1, h2, h3, h4, h5⟩ := h
  exact ⟨A, c, hO.row h1 hT, only_low (hO.mono hq fun _ h => h) h2 h5, h3, h4, h5⟩
def Rd (p : Nat) (s : StR) : Pr := fun _ W => RdAt W p s.1 s.2

theorem some_s (p : Nat) (s : StR) (n : Nat) (w : World) (h : Rd p s undef w) (hm : n ≤ 65535) :
    Calls Try.prog 30 #[.pointer (some ⟨p, 0, none⟩), .int .i64 n] w fun e w' => ∃ v, e = .returned v ∧ Only p [62] w w' ∧ Rd p (someS n s).2 undef w' ∧ Got p (someS n s).1 v w' := some_any p s.1 s.2 n w h hm
theorem one_s (p : Nat) (s : StR) (w : World) (h : Rd p s undef w) (hb : BytesIn s.1) :
    Calls Try.prog 31 #[.agg #[.pointer (some ⟨p, 0, none⟩)]] w fun e w' => e = .returned (.int .i64 (oneS s).1) ∧ Only p [62] w w' ∧ Rd p (oneS s).2 undef w' := one_any p s.1 s.2 w h hb
theorem two_s (p : Nat) (s : StR) (w : World) (h : Rd p s undef w) (hb : BytesIn s.1) :
    Calls Try.prog 32 #[.agg #[.pointer (some ⟨p, 0, none⟩)]] w fun e w' => e = .returned (.int .i64 (twoS s).1) ∧ Only p [62] w w' ∧ Rd p (twoS s).2 undef w' := twoR_any p s.1 s.2 w h hb
theorem frozen_row {W : World} {q : Nat} {C : Array Value} {t : TypeId} (h : W.heap[q]? = some (.cells C t)) : ∀ o, W.frozen? ⟨q, o, none⟩ = false := fun o => by simp [World.frozen?, h]
theorem set6 {W : World} {p q : Nat} {a0 a1 a2 a3 a4 a5 : Value} {t : TypeId} (hq : W.heap[q]? = some (.cells #[a0, a1, a2, a3, a4, a5] t)) (hp : p ≤ q) (v0 v1 v2 v3 v4 v5 : Value) :
    ((((((W.setCell ⟨q, 0, none⟩ v0).setCell ⟨q, 1, none⟩ v1).setCell ⟨q, 2, none⟩ v2).setCell ⟨q, 3, none⟩ v3).setCell ⟨q, 4, none⟩ v4).setCell ⟨q, 5, none⟩ v5).heap[q]? = some (.cells #[v0, v1, v2, v3, v4, v5] t) ∧
    Only p [t] W ((((((W.setCell ⟨q, 0, none⟩ v0).setCell ⟨q, 1, none⟩ v1).setCell ⟨q, 2, none⟩ v2).setCell ⟨q, 3, none⟩ v3).setCell ⟨q, 4, none⟩ v4).setCell ⟨q, 5, none⟩ v5) := by
  have st : ∀ {X : World} {C : Array Value} {f : Nat × Nat} (o : Nat) (v : Value), X.heap[q]? = some (.cells C t f) → (X.setCell ⟨q, o, none⟩ v).heap[q]? = some (.cells (C.setIfInBounds o v) t f) ∧ Only p [t] X (X.setCell ⟨q, o, none⟩ v) := fun o v h =>
    ⟨by simp [World.setCell, Array.getElem?_modify, h], Only.set h hp (by simp) v⟩
  obtain ⟨h0, o0⟩ := st 0 v0 hq
  obtain ⟨h1, o1⟩ := st 1 v1 h0
  obtain ⟨h2, o2⟩ := st 2 v2 h1
  obtain ⟨h3, o3⟩ := st 3 v3 h2
  obtain ⟨h4, o4⟩ := st 4 v4 h3
  obtain ⟨h5, o5⟩ := st 5 v5 h4
  exact ⟨by rw [h5]; rfl, ((((o0.trans o1).trans o2).trans o3).trans o4).trans o5⟩
theorem oneS_in {s : StR} (h : BytesIn s.1) : 0 ≤ (oneS s).1 ∧ (oneS s).1 < 256 := by
  have h1 := (someS_in (n := 1) h).1
  have h2 := someS_len 1 s
  unfold oneS
  generalize someS 1 s = r at h1 h2 ⊢
  obtain ⟨x, hx⟩ := List.length_eq_one_iff.1 h2
  rw [hx] at h1 ⊢
  exact h1 x (by simp)
theorem infoInts : (Try.prog.info? 3).map (fun i => (i.zero, i.size, i.bytes)) = some (some (.int .i64 0), 1, 8) := by kernel_rfl
theorem infoComp : (Try.prog.info? 53).map (fun i => (i.zero, i.size, i.bytes)) = some (some (.agg #[.slice none 0 0, .int .i64 0]), 2, 32) := by kernel_rfl
theorem made_row {w : World} {base n g : Nat} {t : TypeId} {x : Int} (h : w.ownsRow base t 1 (.slice (some ⟨g, 0, none⟩) n n) n (madeCells (Value.int .i64 x).cells (n * 1)).toList) : w.heap[g]? = some (.cells (List.replicate n (Value.int .i64 x)).toArray t) := by
  obtain ⟨hl, ⟨h0, -⟩ | ⟨g', cap, cur, h0, -, hg, -, -, hs, ht⟩⟩ := h
  · cases h0
  · cases h0
    rw [hg]
    have h1 : cur.toList = List.replicate n (Value.int .i64 x) := by
      rw [← List.take_of_length_le (l := cur.toList) (i := n * 1) (by simp [hs]), ht]
      simp [madeCells, Value.cells, Nat.mod_one]
      exact List.eq_replicate_iff.2 ⟨by simp, by simp⟩
    congr 2
    rw [← h1]
def comp0 (d : Int) : CompM := ⟨none, 0, [], d⟩
/-- The image's box. -/
def NewIm (N : Nat) (cs : Array Value) : Pr := fun v W => ∃ q, v = .pointer (some ⟨q, 0, none⟩) ∧ N < q ∧ W.heap[q]? = some (.cells cs 26)
theorem NewIm.only {N p : Nat} {cs : Array Value} {T : List TypeId} {v : Value} {W W' : World} (h : NewIm N cs v W) (hO : Only p T W W') (hT : 26 ∉ T) : NewIm N cs v W' := by
  obtain ⟨q, h1, h2, h3⟩ := h
  exact ⟨q, h1, h2, hO.row h3 hT⟩
/-- A zero image is put at b. -/
def zset (W : World) (b : Nat) : World := (((((W.setCell ⟨b, 0, none⟩ (.bool false)).setCell ⟨b, 1, none⟩ (.int .i64 0)).setCell ⟨b, 2, none⟩ (.int .i64 0)).setCell ⟨b, 3, none⟩ (.slice none 0 0)).setCell ⟨b, 4, none⟩ (.slice none 0 0)).setCell ⟨b, 5, none⟩ (.slice none 0 0)
theorem zset_at {w W : World} {b : Nat} {a0 a1 a2 a3 a4 a5 : Value} (hE : Ext w W) (hw : w.heap.size = b) (h : W.heap[b]? = some (.cells #[a0, a1, a2, a3, a4, a5] 26)) : (zset W b).heap[b]? = some (.cells #[.bool false, .int .i64 0, .int .i64 0, .slice none 0 0, .slice none 0 0, .slice none 0 0] 26) ∧ Ext w (zset W b) := by
  have h6 := set6 (p := b) h (Nat.le_refl _) (.bool false) (.int .i64 0) (.int .i64 0) (.slice none 0 0) (.slice none 0 0) (.slice none 0 0)
  exact ⟨h6.1, Only.below hE (Nat.le_of_eq hw) h6.2⟩
theorem sz_eq {a : List Int} (ha : BytesIn a) : ((strOfNums a).toList == [83, 90]) = decide (a = [83, 90]) := by
  rw [ByteArray.toList_eq, Bool.eq_iff_iff, beq_iff_eq, decide_eq_true_iff]
  have h := strOf_back ha
  constructor
  · intro e
    rw [e] at h
    exact h.symm
  · rintro rfl
    rfl
def GetPost (w : World) (l : List Int) (e : Ending) (w' : World) : Prop := ∃ x : ImgM, ImgAt w' x ∧ x.d = (getD l).1 ∧ e = .returned (.tuple #[x.val, .int .i64 (getD l).2]) ∧ Ext w w'
theorem imgAt_zero (W : World) : ImgAt W ⟨false, 0, 0, none, 0, [], none, 0, [], none, 0, []⟩ :=
  ⟨.inl rfl, (fun _ h => by cases h), .inl rfl, (fun _ h => by cases h), .inl rfl, (fun _ h => by cases h), (by unfold i64ok; decide), ⟨by simp, by simp, by simp, by simp, by simp, by simp⟩⟩
theorem post_bad {w W : World} {l : List Int} (hb : badP l = true) (hE : Ext w W) : GetPost w l (.returned (.tuple #[.agg #[.bool false, .int .i64 0, .int .i64 0, .slice none 0 0, .slice none 0 0, .slice none 0 0], .int .i64 1])) W := by
  have h : getD l = (zeroD, 1) := by unfold getD; rw [if_pos hb]
  exact ⟨⟨false, 0, 0, none, 0, [], none, 0, [], none, 0, []⟩, imgAt_zero W, by rw [h]; rfl, by rw [h]; rfl, hE⟩
theorem post_op {w W : World} {l : List Int} (hb : badP l = false) (hr : rightD (readP l).1 = false) (hE : Ext w W) : GetPost w l (.returned (.tuple #[.agg #[.bool false, .int .i64 0, .int .i64 0, .slice none 0 0, .slice none 0 0, .slice none 0 0], .int .i64 151])) W := by
  have h : getD l = (zeroD, 151) := by unfold getD; rw [hb, hr]; rfl
  exact ⟨⟨false, 0, 0, none, 0, [], none, 0, [], none, 0, []⟩, imgAt_zero W, by rw [h]; rfl, by rw [h]; rfl, hE⟩
theorem post_ok {w W : World} {l : List Int} {x : ImgM} (hb : badP l = false) (hr : rightD (readP l).1 = true) (hx : ImgAt W x) (hd : x.d = (readP l).1) (hE : Ext w W) : GetPost w l (.returned (.tuple #[x.val, .int .i64 0])) W := by
  have h : getD l = ((readP l).1, 0) := by unfold getD; rw [hb, hr]; rfl
  exact ⟨x, hx, by rw [h, hd], by rw [h], hE⟩
/-- What stands all through Get. -/
structure Base (w W : World) : Prop where
  ext : Ext w W
  r0 : W.heap[w.heap.size]? = some (.cells #[.bool false, .int .i64 0, .int .i64 0, .slice none 0 0, .slice none 0 0, .slice none 0 0] 26)
  rb : W.heap[w.heap.size + 2]? = some (.cells #[.pointer (some ⟨w.heap.size + 1, 0, none⟩)] 64)
theorem Base.only {w W W' : World} {T : List TypeId} (h : Base w W) (hO : Only (w.heap.size + 1) T W W') (hT : 64 ∉ T) : Base w W' :=
  ⟨Only.below h.ext (Nat.le_succ _) hO, hO.low h.r0 (Nat.lt_succ_self _), hO.row h.rb hT⟩
/-- Behind k rounds of the first loop. -/
structure L1At (w W : World) (p q gs n B : Nat) (v0 v1 v2 : Value) (s : StR) (k : Nat) : Prop where
  base : Base w W
  rd : Rd p (compsP s k).2 undef W
  sizes : W.heap[gs]? = some (.cells ((compsP s k).1.map (fun x : Int × Int => Value.int .i64 x.1) ++ List.replicate (n - k) (Value.int .i64 0)).toArray 3)
  img : ∃ v, W.heap[q]? = some (.cells #[v0, v1, v2, v, .slice none 0 0, .slice none 0 0] 26) ∧ W.ownsRow B 53 2 v k (((compsP s k).1.map fun x : Int × Int => comp0 x.2).flatMap CompM.cells)
theorem linksP_in {s : StR} (h : BytesIn s.1) : ∀ k, BytesIn (linksP s k).2.1
  | 0 => h
  | k + 1 => (someS_in (someS_in (someS_in (linksP_in h k)).2).2).2
theorem sharesP_in {s : StR} (h : BytesIn s.1) : ∀ k, BytesIn (sharesP s k).2.1
  | 0 => h
  | k + 1 => (someS_in (someS_in (sharesP_in h k)).2).2
theorem infoLink : (Try.prog.info? 68).map (fun i => (i.zero, i.size, i.bytes)) = some (some (.agg #[.int .i64 0, .int .i64 0, .int .i64 0]), 3, 24) := by kernel_rfl
theorem infoShare : (Try.prog.info? 70).map (fun i => (i.zero, i.size, i.bytes)) = some (some (.agg #[.int .i64 0, .int .i64 0]), 2, 16) := by kernel_rfl
/-- Behind k rounds of the second loop. -/
structure L2At (w W : World) (p q gs n B : Nat) (v0 v1 v2 : Value) (cl : List (Int × Int)) (s : StR) (k : Nat) : Prop where
  base : Base w W
  rd : Rd p (linksP s k).2 undef W
  sizes : W.heap[gs]? = some (.cells (cl.map (fun x : Int × Int => Value.int .i64 x.1)).toArray 3)
  img : ∃ v u, W.heap[q]? = some (.cells #[v0, v1, v2, v, u, .slice none 0 0] 26) ∧ W.ownsRow B 53 2 v n ((cl.map fun x : Int × Int => comp0 x.2).flatMap CompM.cells) ∧ W.ownsRow B 68 3 u k ((linksP s k).1.flatMap LinkM.cells)
/-- Behind k rounds of the third loop. -/
structure L3At (w W : World) (p q gs n m B : Nat) (v0 v1 v2 : Value) (cl : List (Int × Int)) (ll : List LinkM) (s : StR) (k : Nat) : Prop where
  base : Base w W
  rd : Rd p (sharesP s k).2 undef W
  sizes : W.heap[gs]? = some (.cells (cl.map (fun x : Int × Int => Value.int .i64 x.1)).toArray 3)
  img : ∃ v u t, W.heap[q]? = some (.cells #[v0, v1, v2, v, u, t] 26) ∧ W.ownsRow B 53 2 v n ((cl.map fun x : Int × Int => comp0 x.2).flatMap CompM.cells) ∧ W.ownsRow B 68 3 u m (ll.flatMap LinkM.cells) ∧ W.ownsRow B 70 2 t k ((sharesP s k).1.flatMap ShareM.cells)
/-- The code of a compartment, as it lies. -/
def CodeOk (W : World) (c : CompM) : Prop := Arr W c.A (bs c.code) ∧ c.code.length ≤ c.cap ∧ c.cap ≤ maxLen ∧ (c.code = [] ∨ ∃ g o C f, c.A = some ⟨g, o, none⟩ ∧ W.heap[g]? = some (.cells C 5 f))
theorem CodeOk.only {W W' : World} {c : CompM} {p : Nat} {T : List TypeId} (h : CodeOk W c) (hO : Only p T W W') (hT : 5 ∉ T) : CodeOk W' c := by
  obtain ⟨h1, h2, h3, h4⟩ := h
  rcases h4 with h4 | ⟨g, o, C, f, h4, h5⟩
  · exact ⟨.inl (by simp [bs, h4]), h2, h3, .inl h4⟩
  · exact ⟨by rw [h4] at h1 ⊢; exact hO.typedArr h5 hT h1, h2, h3, .inr ⟨g, o, C, f, h4, hO.row h5 hT⟩⟩
def CodeV (l : List Int) : Pr := fun v W => ∃ A c, v = .slice A l.length c ∧ CodeOk W ⟨A, c, l, 0⟩
set_option maxHeartbeats 1000000 in
set_option maxRecDepth 20000 in
theorem clone_at (a : Addr) (c : Nat) (l : List Int) (w : World) (hA : Arr w (some a) (bs l)) (hl : l.length ≤ 65536) :
    Calls Try.prog 33 #[.slice (some a) l.length c] w (Gives w 5 1 l.length (bs l)) := by
  obtain ⟨i0, hi, hz0, hz1, hz2⟩ := info_parts infoByte
  have hnil := Lib.run_eql_slice_nil (P := Try.prog) w 27 5 (some a) l.length c 0 0 Try.underlying27
  have hL : Lies w.heap.size w (.slice (some a) l.length c) l.length (bs l) := by
    rcases hA with hA | ⟨b, o, he, hc⟩
    · exact .inr ⟨a, c, rfl, fun h => by rw [hA] at h; simp at h, fun j u hj => by rw [hA] at hj; simp at hj⟩
    · cases he
      exact Lies.arr (.inr ⟨b, o, rfl, hc⟩)
  have HL := Lib.hid hL
  clear hL hA
  go_enter Try.func33, Try.ntmps33
  go_wp2_with (first
    | (at_builtin; refine wpList_append_src _ rfl (.tmp 5) (.tmp 6) 27 rfl w.heap.size 5 i0 (.int .u8 0) 1 1 Try.underlying27 hi hz0 hz1 hz2 rfl (by decide) _ _ _ rfl (lit0B w w.heap.size _ rfl (Nat.le_refl _)) _ l.length (bs l) rfl (HL.out.ext (by repeat first | (with_reducible exact Below.refl _ _) | (with_reducible apply Ext.alloc) | (with_reducible apply Ext.drew) | (with_reducible apply Ext.drewN) | (with_reducible refine Ext.set ?_ (by simp)))) (by simp [bs]) (bs_one _) (by unfold maxLen; omega) (by omega) (by simp) ?_; intro v2 w4 ho hg _))
  go_ret
  have e : [] ++ bs l = bs l := rfl
  rw [Nat.zero_add, e] at ho
  exact ⟨_, rfl, ho, Below.grown (by repeat first | (with_reducible exact Below.refl _ _) | (with_reducible apply Ext.alloc) | (with_reducible apply Ext.drew) | (with_reducible apply Ext.drewN) | (with_reducible refine Ext.set ?_ (by simp))) hg (by simp) (fun r hr => ((lit0B w w.heap.size _ rfl (Nat.le_refl _)).lt r hr).1)⟩
set_option maxHeartbeats 1000000 in
set_option maxRecDepth 20000 in
theorem clone_nil (c n : Nat) (w : World) : Calls Try.prog 33 #[.slice none n c] w fun e w' => e = .returned (.slice none 0 0) ∧ w = w' := by
  have hnil := Lib.run_eql_slice_nil (P := Try.prog) w 27 5 none n c 0 0 Try.underlying27
  go_enter Try.func33, Try.ntmps33
  go_wp2_with fail
  go_ret
  exact ⟨rfl, rfl⟩
theorem clone_got (p : Nat) (l : List Int) (v : Value) (w : World) (h : Got p l v w) (hl : l.length ≤ 65536) : Calls Try.prog 33 #[v] w fun e w' => ∃ u, e = .returned u ∧ Ext w w' ∧ CodeV l u w' := by
  obtain ⟨A, c, rfl, hA, h1, h2, -⟩ := h
  cases A with
  | none =>
    have hl0 : l = [] := by
      rcases hA with hA | ⟨b, o, he, -⟩
      · simpa [bs] using hA
      · cases he
    subst hl0
    refine (clone_nil c _ w).mono ?_
    rintro e w' ⟨rfl, rfl⟩
    exact ⟨_, rfl, Below.refl _ _, none, 0, rfl, .inl rfl, Nat.le_refl _, Nat.zero_le _, .inl rfl⟩
  | some a =>
    refine (clone_at a c l w hA hl).mono ?_
    rintro e w' ⟨u, rfl, ho, hE⟩
    obtain ⟨A', c', rfl, hc', hA'⟩ := Arr.own ho
    refine ⟨_, rfl, hE, A', c', rfl, hA', hc', ?_⟩
    rcases ho.2 with ⟨h0, h0'⟩ | ⟨g, cap, cur, h0, -, hg, -, hm, -⟩
    · have hl0 : l = [] := List.length_eq_zero_iff.1 h0'
      simp only [Value.slice.injEq] at h0
      refine ⟨by rw [h0.2.2]; exact Nat.zero_le _, .inl hl0⟩
    · cases h0
      exact ⟨hm, .inr ⟨g, 0, _, _, rfl, hg⟩⟩
theorem set_comp {A : Option Addr} {c : Nat} {x : List Int} (dn : List CompM) (dz : Int) (rest : List CompM) (g : Nat) (hg : dn.length = g) :
    ((dn ++ comp0 dz :: rest).flatMap CompM.cells).set (g * 2) (.slice A x.length c) = (dn ++ (⟨A, c, x, dz⟩ : CompM) :: rest).flatMap CompM.cells ∧ ((dn ++ comp0 dz :: rest).flatMap CompM.cells)[g * 2]? = some (.slice none 0 0) := by
  subst hg
  have hl : (dn.flatMap CompM.cells).length = dn.length * 2 := flat_length CompM.cells 2 (fun _ => rfl) dn
  refine ⟨?_, ?_⟩
  · rw [List.flatMap_append, List.set_append_right _ _ (by omega), hl, Nat.sub_self, List.flatMap_append]
    rfl
  · rw [List.flatMap_append, List.getElem?_append_right (by omega), hl, Nat.sub_self]
    rfl
theorem own_typed {W W' : World} {base sz n p g cap : Nat} {t : TypeId} {xs : List Value} (h : W.ownsRow base t sz (.slice (some ⟨g, 0, none⟩) n cap) n xs) (hp : p ≤ base) (hg : W.grownBy W' (some g)) : Only p [t] W W' :=
  Only.grown (own_low h hp) hg (by simp)
theorem linksP_len (s : StR) : ∀ k, (linksP s k).1.length = k
  | 0 => rfl
  | k + 1 => by rw [linksP, List.length_append, linksP_len s k]; rfl
theorem sharesP_len (s : StR) : ∀ k, (sharesP s k).1.length = k
  | 0 => rfl
  | k + 1 => by rw [sharesP, List.length_append, sharesP_len s k]; rfl
theorem codesP_in {s : StR} {z : List Int} (h : BytesIn s.1) : ∀ k, BytesIn (codesP z s k).2.1
  | 0 => h
  | k + 1 => (someS_in (codesP_in h k)).2
/-- An image that the call made. -/
structure PartsAt (W : World) (B : Nat) (x : ImgM) : Prop where
  comps : W.ownsRow B 53 2 (.slice x.Ac x.comps.length x.cc) x.comps.length (x.comps.flatMap CompM.cells)
  links : W.ownsRow B 68 3 (.slice x.Al x.links.length x.cl) x.links.length (x.links.flatMap LinkM.cells)
  shares : W.ownsRow B 70 2 (.slice x.As x.shares.length x.cs) x.shares.length (x.shares.flatMap ShareM.cells)
  codes : ∀ c ∈ x.comps, CodeOk W c
  compsOk : ∀ c ∈ x.comps, BytesIn c.code ∧ c.code.length ≤ 140737488351232 ∧ i64ok c.data
  linksOk : ∀ l ∈ x.links, i64ok l.fr ∧ i64ok l.to ∧ i64ok l.at'
  sharesOk : ∀ s ∈ x.shares, i64ok s.rd ∧ i64ok s.wr
  nums : i64ok x.heap ∧ i64ok x.full
  lens : x.comps.length ≤ 140737488351232 ∧ x.links.length ≤ 140737488351232 ∧ x.shares.length ≤ 140737488351232
theorem PartsAt.img {W : World} {B : Nat} {x : ImgM} (h : PartsAt W B x) : ImgAt W x := by
  obtain ⟨A1, c1, e1, l1, a1⟩ := Arr.own h.comps
  obtain ⟨A2, c2, e2, l2, a2⟩ := Arr.own h.links
  obtain ⟨A3, c3, e3, l3, a3⟩ := Arr.own h.shares
  simp only [Value.slice.injEq] at e1 e2 e3
  rw [← e1.1] at a1
  rw [← e2.1] at a2
  rw [← e3.1] at a3
  exact ⟨a1, fun c hc => ⟨(h.codes c hc).1, (h.compsOk c hc).1, (h.codes c hc).2.1, (h.compsOk c hc).2⟩, a2, h.linksOk, a3, h.sharesOk, h.nums, by rw [e1.2.2]; exact l1, h.lens.1, by rw [e2.2.2]; exact l2, h.lens.2.1, by rw [e3.2.2]; exact l3, h.lens.2.2⟩
theorem PartsAt.only {W W' : World} {B p : Nat} {x : ImgM} {T : List TypeId} (h : PartsAt W B x) (hO : Only p T W W') (h1 : 53 ∉ T) (h2 : 68 ∉ T) (h3 : 70 ∉ T) (h4 : 5 ∉ T) : PartsAt W' B x :=
  ⟨hO.own h.comps h1, hO.own h.links h2, hO.own h.shares h3, fun c hc => (h.codes c hc).only hO h4, h.compsOk, h.linksOk, h.sharesOk, h.nums, h.lens⟩
/-- Behind k rounds of the fourth loop. -/
structure L4At (w W : World) (p q gs n m r B : Nat) (v0 v1 v2 : Value) (cl : List (Int × Int)) (ll : List LinkM) (sl : List ShareM) (s : StR) (k : Nat) : Prop where
  base : Base w W
  rd : Rd p (codesP (cl.map Prod.fst) s k).2 undef W
  sizes : W.heap[gs]? = some (.cells (cl.map (fun x : Int × Int => Value.int .i64 x.1)).toArray 3)
  img : ∃ v u t dn, W.heap[q]? = some (.cells #[v0, v1, v2, v, u, t] 26) ∧ W.ownsRow B 53 2 v n ((dn ++ (cl.drop k).map fun x : Int × Int => comp0 x.2).flatMap CompM.cells) ∧ W.ownsRow B 68 3 u m (ll.flatMap LinkM.cells) ∧ W.ownsRow B 70 2 t r (sl.flatMap ShareM.cells) ∧
    dn.map CompM.code = (codesP (cl.map Prod.fst) s k).1 ∧ dn.map CompM.data = (cl.take k).map Prod.snd ∧ ∀ c ∈ dn, CodeOk W c
theorem L1At.only {w W W' : World} {p q gs n B : Nat} {v0 v1 v2 : Value} {s : StR} {k : Nat} {T : List TypeId} (h : L1At w W p q gs n B v0 v1 v2 s k) (hp : p = w.heap.size + 1) (hO : Only p T W W') (h1 : 64 ∉ T) (h2 : 62 ∉ T) (h3 : 3 ∉ T) (h4 : 26 ∉ T) (h5 : 53 ∉ T) : L1At w W' p q gs n B v0 v1 v2 s k := by
  obtain ⟨v, i1, i2⟩ := h.img
  exact ⟨h.base.only (by rw [← hp]; exact hO) h1, RdAt.only h.rd hO (Nat.le_refl _) h2, hO.row h.sizes h3, v, hO.row i1 h4, hO.own i2 h5⟩
theorem compsP_len (s : StR) : ∀ k, (compsP s k).1.length = k
  | 0 => rfl
  | k + 1 => by rw [compsP, List.length_append, compsP_len s k]; rfl
theorem twoS_in {s : StR} (h : BytesIn s.1) : 0 ≤ (twoS s).1 ∧ (twoS s).1 < 65536 := by
  have h1 := (someS_in (n := 2) h).1
  have h2 := someS_len 2 s
  unfold twoS
  generalize someS 2 s = r at h1 h2 ⊢
  obtain ⟨x, y, hx⟩ := two_of h2
  rw [hx] at h1 ⊢
  have := h1 x (by simp)
  have := h1 y (by simp)
  simp
  omega
theorem compsP_in {s : StR} (h : BytesIn s.1) : ∀ k, BytesIn (compsP s k).2.1 ∧ ∀ x ∈ (compsP s k).1, (0 ≤ x.1 ∧ x.1 < 65536) ∧ 0 ≤ x.2 ∧ x.2 < 256
  | 0 => ⟨h, fun x hx => by cases hx⟩
  | k + 1 => by
    obtain ⟨h1, h2⟩ := compsP_in h k
    have h3 : BytesIn (twoS (compsP s k).2).2.1 := (someS_in h1).2
    refine ⟨(someS_in h3).2, fun x hx => ?_⟩
    rw [compsP] at hx
    rcases List.mem_append.1 hx with hx | hx
    · exact h2 x hx
    · obtain rfl := List.mem_singleton.1 hx
      exact ⟨twoS_in h1, oneS_in h3⟩
theorem get_mid (l : List Value) (n k : Nat) (z : Value) (hl : l.length = k) (hk : k < n) : (l ++ List.replicate (n - k) z)[k]? = some z := by
  subst hl
  rw [List.getElem?_append_right (Nat.le_refl _), Nat.sub_self, List.getElem?_replicate, if_pos (by omega)]
theorem set_mid (l : List Value) (n k : Nat) (z v : Value) (hl : l.length = k) (hk : k < n) : ((l ++ List.replicate (n - k) z).toArray.setIfInBounds k v) = ((l ++ [v]) ++ List.replicate (n - (k + 1)) z).toArray := by
  subst hl
  rw [List.setIfInBounds_toArray, List.set_append_right _ _ (Nat.le_refl _), Nat.sub_self, show n - l.length = (n - (l.length + 1)) + 1 by omega, List.replicate_succ, List.set_cons_zero]
  simp
theorem linksP_ok {s : StR} (h : BytesIn s.1) : ∀ k, ∀ x ∈ (linksP s k).1, i64ok x.fr ∧ i64ok x.to ∧ i64ok x.at'
  | 0 => fun x hx => by cases hx
  | k + 1 => fun x hx => by
    have h1 := linksP_in h k
    have h2 : BytesIn (oneS (linksP s k).2).2.1 := (someS_in h1).2
    have h3 : BytesIn (oneS (oneS (linksP s k).2).2).2.1 := (someS_in h2).2
    rw [linksP] at hx
    rcases List.mem_append.1 hx with hx | hx
    · exact linksP_ok h k x hx
    · obtain rfl := List.mem_singleton.1 hx
      have a1 := oneS_in h1
      have a2 := oneS_in h2
      have a3 := twoS_in h3
      unfold i64ok
      dsimp only
      exact ⟨⟨by omega, by omega⟩, ⟨by omega, by omega⟩, by omega, by omega⟩
theorem sharesP_ok {s : StR} (h : BytesIn s.1) : ∀ k, ∀ x ∈ (sharesP s k).1, i64ok x.rd ∧ i64ok x.wr
  | 0 => fun x hx => by cases hx
  | k + 1 => fun x hx => by
    have h1 := sharesP_in h k
    have h2 : BytesIn (oneS (sharesP s k).2).2.1 := (someS_in h1).2
    rw [sharesP] at hx
    rcases List.mem_append.1 hx with hx | hx
    · exact sharesP_ok h k x hx
    · obtain rfl := List.mem_singleton.1 hx
      have a1 := oneS_in h1
      have a2 := oneS_in h2
      unfold i64ok
      dsimp only
      exact ⟨⟨by omega, by omega⟩, by omega, by omega⟩
theorem codesP_bytes {z : List Int} {s : StR} (h : BytesIn s.1) : ∀ k, ∀ x ∈ (codesP z s k).1, BytesIn x
  | 0 => fun x hx => by cases hx
  | k + 1 => fun x hx => by
    have h1 : BytesIn (codesP z s k).2.1 := codesP_in h k
    rw [codesP] at hx
    rcases List.mem_append.1 hx with hx | hx
    · exact codesP_bytes h k x hx
    · obtain rfl := List.mem_singleton.1 hx
      exact (someS_in h1).1
theorem codesP_size {z : List Int} {s : StR} (hz : ∀ x ∈ z, 0 ≤ x ∧ x < 65536) : ∀ k, ∀ x ∈ (codesP z s k).1, x.length ≤ 65535
  | 0 => fun x hx => by cases hx
  | k + 1 => fun x hx => by
    rw [codesP] at hx
    rcases List.mem_append.1 hx with hx | hx
    · exact codesP_size hz k x hx
    · obtain rfl := List.mem_singleton.1 hx
      rw [someS_len]
      by_cases hk : k < z.length
      · have := hz z[k] (List.getElem_mem hk)
        simp [List.getD, List.getElem?_eq_getElem hk]
        omega
      · simp [List.getD, List.getElem?_eq_none (Nat.le_of_not_lt hk)]
theorem readP_of {l : List Int} {a : List Int × StR} {b c d : Int × StR} {n1 n2 n3 : Nat} {k1 k2 k3 s2 s3 s4 : StR} {cl : List (Int × Int)} {ll : List LinkM} {sl : List ShareM} {dn : List CompM}
    (ha : a = someS 2 (l, false)) (hb : b = oneS a.2) (hc : c = oneS b.2) (hd : d = twoS c.2) (h1 : ((n1 : Int), k1) = oneS d.2) (h2 : ((n2 : Int), k2) = oneS ((n1 : Int), k1).2) (h3 : ((n3 : Int), k3) = oneS ((n2 : Int), k2).2)
    (hcl : cl = (compsP k3 n1).1) (hs2 : s2 = (compsP k3 n1).2) (hll : ll = (linksP s2 n2).1) (hs3 : s3 = (linksP s2 n2).2) (hsl : sl = (sharesP s3 n3).1) (hs4 : s4 = (sharesP s3 n3).2)
    (hd1 : dn.map CompM.code = (codesP (cl.map Prod.fst) s4 n1).1) (hd2 : dn.map CompM.data = cl.map Prod.snd) :
    readP l = (⟨b.1 == 1, c.1, d.1, dn.map CompM.d, ll, sl⟩, (codesP (cl.map Prod.fst) s4 n1).2) ∧ (headP l).1.name = a.1 ∧ (headP l).1.strict = b.1 := by
  have hh : headP l = (⟨a.1, b.1, c.1, d.1, n1, n2, n3⟩, k3) := by
    simp only at h2 h3
    unfold headP
    simp only [← ha, ← hb, ← hc, ← hd, ← h1, ← h2, ← h3]
  refine ⟨?_, by rw [hh], by rw [hh]⟩
  have hz : ∀ dn : List CompM, ((dn.map CompM.code).zip (dn.map CompM.data)).map (fun x => (⟨x.1, x.2⟩ : CompD)) = dn.map CompM.d := by
    intro dn
    induction dn with
    | nil => rfl
    | cons c dn ih => simp only [List.map_cons, List.zip_cons_cons, ih]; rfl
  unfold readP
  simp only [hh, Int.toNat_natCast, ← hcl, ← hs2, ← hll, ← hs3, ← hsl, ← hs4, ← hd1, ← hd2, hz]
set_option maxHeartbeats 4000000 in
set_option maxRecDepth 100000 in
theorem imgGet_walk (A : Option Addr) (c : Nat) (l : List Int) (w : World) (hA : Arr w A (bs l)) (hb : BytesIn l) (hc : l.length ≤ c) (hc2 : c ≤ maxLen) :
    Calls Try.prog 12 #[.slice A l.length c] w (GetPost w l) := by
  have hlow : Low A l w.heap.size := by
    rcases hA with hA | ⟨b, o, rfl, hc⟩
    · left; simpa [bs] using hA
    · cases l with
      | nil => exact .inl rfl
      | cons x l => exact .inr fun a ha => by cases ha; exact cell_lt (hc 0 (by simp [bs]))
  obtain ⟨p, hp⟩ : ∃ p, p = w.heap.size + 1 := ⟨_, rfl⟩
  obtain ⟨u, hu⟩ : ∃ u, u = ((w.alloc (.cells #[.bool false, .int .i64 0, .int .i64 0, .slice none 0 0, .slice none 0 0, .slice none 0 0] 26)).alloc (.cells #[.slice A l.length c, .bool false] 62)).alloc (.cells #[.pointer (some ⟨w.heap.size + 1, 0, none⟩)] 64) := ⟨_, rfl⟩
  have hB : Base w u := by
    refine ⟨?_, ?_, ?_⟩
    · rw [hu]; exact (by repeat first | (with_reducible exact Below.refl _ _) | (with_reducible apply Ext.alloc) | (with_reducible apply Ext.drew) | (with_reducible apply Ext.drewN) | (with_reducible refine Ext.set ?_ (by simp)))
    · rw [hu]; exact new_at rfl (by repeat first | (with_reducible exact Below.refl _ _) | (with_reducible apply Ext.alloc) | (with_reducible apply Ext.drew) | (with_reducible apply Ext.drewN) | (with_reducible refine Ext.set ?_ (by simp)))
    · rw [hu]; exact new_at (by simp) (Below.refl _ _)
  have hRd : RdAt u p l false := by
    refine ⟨A, c, ?_, ?_, hc, hc2, hlow.elim .inl fun h => .inr fun a ha => by have := h a ha; omega⟩
    · rw [hu, hp]; exact new_at (w := w.alloc _) (by simp) (by repeat first | (with_reducible exact Below.refl _ _) | (with_reducible apply Ext.alloc) | (with_reducible apply Ext.drew) | (with_reducible apply Ext.drewN) | (with_reducible refine Ext.set ?_ (by simp)))
    · rw [hu]; exact hA.ext (by repeat first | (with_reducible exact Below.refl _ _) | (with_reducible apply Ext.alloc) | (with_reducible apply Ext.drew) | (with_reducible apply Ext.drewN) | (with_reducible refine Ext.set ?_ (by simp)))
  have hus : u.heap.size = w.heap.size + 3 := by rw [hu]; simp
  have HA := Lib.hid (And.intro hA (And.intro hc hlow))
  have HB := Lib.hid hB
  have hH : Hid (headP l = (⟨(someS 2 (l, false)).1, _, _, _, _, _, _⟩, _)) := rfl
  obtain ⟨a, ha⟩ : ∃ a, a = someS 2 (l, false) := ⟨_, rfl⟩
  obtain ⟨b, hb'⟩ : ∃ b, b = oneS a.2 := ⟨_, rfl⟩
  have ha1 : BytesIn a.2.1 := by rw [ha]; exact (someS_in hb).2
  have hb1 : BytesIn b.2.1 := by rw [hb']; exact (someS_in ha1).2
  have han : a.1.length = 2 := by rw [ha]; exact someS_len _ _
  have HAB := Lib.hid (And.intro ha hb')
  clear hA hc hlow hB
  go_enter Try.func12, Try.ntmps12
  go_wp2_with fail
  rw [show (⟨w.heap.size + 1, 0, none⟩ : Addr) = ⟨p, 0, none⟩ by rw [hp], show (((w.alloc _).alloc _).alloc _ : World) = u by rw [hu, hp]]
  have HU := Lib.hid (And.intro hu hp)
  clear hu hp ha hb'
  refine wp_region_res (Only p [62]) [⟨none, [], [2]⟩, ⟨some 2, [(2, [])], [3]⟩, ⟨some 2, [], [5]⟩, ⟨some 5, [], []⟩] [(fun (u : Nat → Value) (W : World) => (Rd p (l, false)) (undef) W), (fun (u : Nat → Value) (W : World) => (Got p a.1) (u 2) W), (fun (u : Nat → Value) (W : World) => (Rd p a.2) (undef) W), (fun (u : Nat → Value) (W : World) => (Rd p b.2) (undef) W)] [⟨[], [.keep, .early [1, 0], .early [1, 0], .early [2, 1, 0]]⟩, ⟨[], [.keep, .early [1], .early [1], .early [2, 1]]⟩, ⟨[(0, [])], [.late [[]], .last, .last, .early [2]]⟩, ⟨[(1, [2])], [.late [[2]], .late [[]], .keep, .keep]⟩, ⟨[], [.keep, .keep, .keep, .early [4]]⟩, ⟨[(2, [2])], [.late [[2]], .keep, .late [[]], .last]⟩, ⟨[(3, [5])], [.late [[2]], .late [[3]], .late [[5]], .keep]⟩, ⟨[(3, [5])], [.late [[2]], .late [[3]], .late [[5]], .keep]⟩] [19, 20, 21, 22, 23, 24, 5, 6] (by kernel_rfl) (Only.refl _ _) (fun _ _ _ => Only.trans) (by kernel_rfl) (by kernel_rfl) (by kernel_rfl) (by kernel_rfl) (by kernel_rfl) ?start ?_
  case start =>
    refine And.intro ?_ ?_
    · exact hRd
    exact trivial
  apply ex_is; apply Exists.intro
  apply ex_is; apply Exists.intro
  refine ex_phi (fun _ _ => True) ?_
  apply ex_is; apply Exists.intro
  apply ex_is; apply Exists.intro
  apply ex_is; apply Exists.intro
  apply ex_is; apply Exists.intro
  apply ex_is; apply Exists.intro
  refine ⟨[], ⟨?steps, ?stab, ?ends⟩⟩
  case steps =>
    refine And.intro (obX_pure (Only.refl _ _) ?_) ?_
    · intro act W hR hf ho hu K hK
      replace hK := fun v h2 => hK v W rfl h2 trivial
      have G : act.tmps[4]?.getD undef = _ ∧ True := ho
      obtain ⟨g4, -⟩ := G
      clear ho hf hu
      go_simp
      exact hK _ (Eq.refl _)
    refine And.intro (obX_pure (Only.refl _ _) ?_) ?_
    · intro act W hR hf ho hu K hK
      replace hK := fun v h2 => hK v W rfl h2 trivial
      have F : act.tmps[19]?.getD undef = _ ∧ True := hf
      obtain ⟨f0, -⟩ := F
      clear ho hf hu
      have cb := hR.row HB.out.rb (by decide); have z0 : W.cell? ⟨w.heap.size + 2, 0, none⟩ = some (.pointer (some ⟨p, 0, none⟩)) := by rw [HU.out.2]; simp [World.cell?, cb]
      go_simp
      exact hK _ (Eq.refl _)
    refine And.intro (obX_eff (Only p [62]) (fun _ _ h => h) (trivial) ?_) ?_
    · intro act W hR hf ho hu K hK
      replace hK := fun v (w' : World) (h1 : (Only p [62]) W w') (b1 : (Got p a.1) (v) w') (b2 : (Rd p a.2) (undef) w') => hK v w' h1 trivial ⟨b1, ⟨b2, trivial⟩⟩
      have F : act.tmps[20]?.getD undef = _ ∧ True := hf
      obtain ⟨f1, -⟩ := F
      have U : (Rd p (l, false)) (undef) W ∧ True := hu
      obtain ⟨r_rd0, -⟩ := U
      clear ho hf hu
      go_simp
      have HC := Lib.hid (some_s p (l, false) 2 W r_rd0 (by omega)); rw [← HAB.out.1] at HC; refine HC.out.mono ?_; rintro e W1 ⟨v, rfl, hO, hRd', hG⟩; exact hK _ _ hO hG hRd'
    refine And.intro (obX_pure (Only.refl _ _) ?_) ?_
    · intro act W hR hf ho hu K hK
      replace hK := fun v h2 => hK v W rfl h2 trivial
      have F : (fun _ _ => True) (act.tmps[21]?.getD undef) W ∧ True := hf
      obtain ⟨-, -⟩ := F
      have U : (Got p a.1) (act.tmps[21]?.getD undef) W ∧ True := hu
      obtain ⟨r_got, -⟩ := U
      generalize f2 : act.tmps[21]?.getD undef = v2 at r_got
      clear ho hf hu
      have hcv := conv_got r_got (by omega)
      go_simp
      exact hK _ (Eq.refl _)
    refine And.intro (obX_pure (Only.refl _ _) ?_) ?_
    · intro act W hR hf ho hu K hK
      replace hK := fun v h2 => hK v W rfl h2 trivial
      have G : act.tmps[4]?.getD undef = _ ∧ True := ho
      obtain ⟨g4, -⟩ := G
      clear ho hf hu
      have cb := hR.row HB.out.rb (by decide); have z0 : W.cell? ⟨w.heap.size + 2, 0, none⟩ = some (.pointer (some ⟨p, 0, none⟩)) := by rw [HU.out.2]; simp [World.cell?, cb]
      go_simp
      exact hK _ (Eq.refl _)
    refine And.intro (obX_eff (Only p [62]) (fun _ _ h => h) (And.intro (fun _ _ _ h e => h.only e (by decide)) (trivial)) ?_) ?_
    · intro act W hR hf ho hu K hK
      replace hK := fun v (w' : World) (h1 : (Only p [62]) W w') h2 (b3 : (Rd p b.2) (undef) w') => hK v w' h1 h2 ⟨b3, trivial⟩
      have F : act.tmps[23]?.getD undef = _ ∧ (fun _ _ => True) (act.tmps[21]?.getD undef) W ∧ True := hf
      obtain ⟨f4, -, -⟩ := F
      have U : (Rd p a.2) (undef) W ∧ True := hu
      obtain ⟨r_rd1, -⟩ := U
      generalize f2 : act.tmps[21]?.getD undef = v2
      clear ho hf hu
      go_simp
      have HC := Lib.hid (one_s p a.2 W r_rd1 ha1); rw [← HAB.out.2] at HC; refine HC.out.mono ?_; rintro e W1 ⟨rfl, hO, hRd'⟩; exact hK _ _ hO (Eq.refl _) hRd'
    refine And.intro (obX_pure (Only.refl _ _) ?_) ?_
    · intro act W hR hf ho hu K hK
      replace hK := fun v h2 => hK v W rfl h2 trivial
      have F : act.tmps[22]?.getD undef = _ ∧ act.tmps[24]?.getD undef = _ ∧ act.tmps[19]?.getD undef = _ ∧ act.tmps[20]?.getD undef = _ ∧ (fun _ _ => True) (act.tmps[21]?.getD undef) W ∧ act.tmps[22]?.getD undef = _ ∧ True := hf
      obtain ⟨f3, f5, f0, f1, -, -, -⟩ := F
      have U : (Rd p b.2) (undef) W ∧ True := hu
      obtain ⟨r_rd2, -⟩ := U
      generalize f2 : act.tmps[21]?.getD undef = v2
      clear ho hf hu
      go_simp
      exact hK _ (Eq.refl _)
    refine And.intro (obX_pure (Only.refl _ _) ?_) ?_
    · intro act W hR hf ho hu K hK
      replace hK := fun v h2 => hK v W rfl h2 trivial
      have F : act.tmps[24]?.getD undef = _ ∧ act.tmps[5]?.getD undef = _ ∧ act.tmps[19]?.getD undef = _ ∧ act.tmps[20]?.getD undef = _ ∧ (fun _ _ => True) (act.tmps[21]?.getD undef) W ∧ act.tmps[22]?.getD undef = _ ∧ act.tmps[23]?.getD undef = _ ∧ act.tmps[24]?.getD undef = _ ∧ act.tmps[5]?.getD undef = _ ∧ True := hf
      obtain ⟨f5, f6, f0, f1, -, f3, f4, -, -, -⟩ := F
      have U : (Rd p b.2) (undef) W ∧ True := hu
      obtain ⟨r_rd2, -⟩ := U
      generalize f2 : act.tmps[21]?.getD undef = v2
      clear ho hf hu
      go_simp
      exact hK _ (Eq.refl _)
    exact trivial
  case stab =>
    refine And.intro is_stable ?_
    refine And.intro is_stable ?_
    refine And.intro (fun _ _ _ h _ => h) ?_
    refine And.intro is_stable ?_
    refine And.intro is_stable ?_
    refine And.intro is_stable ?_
    refine And.intro is_stable ?_
    refine And.intro is_stable ?_
    exact trivial
  case ends =>
    intro vals W hR hE hall
    have E : (Rd p b.2) (undef) W ∧ True := hE
    obtain ⟨e_rd2, -⟩ := E
    clear hE
    have e5 : vals 5 = _ := hall 6 (by decide)
    have e6 : vals 6 = _ := hall 7 (by decide)
    clear hall
    simp only [fill, List.setIfInBounds_toArray, List.set_cons_succ, List.set_cons_zero, e5, e6]
    have hB2 : Base w W := (HB.out.only (T := [62]) (Only.drew (Only.refl _ _ _)) (by decide)).only (by rw [← HU.out.2]; exact hR) (by decide)
    have HB2 := Lib.hid hB2
    have hRd2 := e_rd2
    have hWs : w.heap.size + 3 ≤ W.heap.size := by have := hR.size; rw [← hus]; exact this
    clear hRd hB2 e_rd2 hR
    obtain ⟨c2', hc2'⟩ : ∃ c, c = oneS b.2 := ⟨_, rfl⟩
    obtain ⟨d, hd⟩ : ∃ d, d = twoS c2'.2 := ⟨_, rfl⟩
    have hc1 : BytesIn c2'.2.1 := by rw [hc2']; exact (someS_in hb1).2
    have hd1 : BytesIn d.2.1 := by rw [hd]; exact (someS_in hc1).2
    have HCD := Lib.hid (And.intro hc2' hd)
    clear hc2' hd
    go_wp2_with fail
    refine wp_region_res (Only p [62, 26]) [⟨none, [], [3]⟩, ⟨some 3, [], [5]⟩, ⟨some 5, [], []⟩, ⟨some 7, [(7, [])], [8]⟩, ⟨some 8, [(7, [7])], []⟩] [(fun (u : Nat → Value) (W : World) => (Rd p b.2) (undef) W), (fun (u : Nat → Value) (W : World) => (Rd p c2'.2) (undef) W), (fun (u : Nat → Value) (W : World) => (Rd p d.2) (undef) W), (fun (u : Nat → Value) (W : World) => (NewIm (w.heap.size + 2) #[.bool false, .int .i64 0, .int .i64 0, .slice none 0 0, .slice none 0 0, .slice none 0 0]) (u 7) W), (fun (u : Nat → Value) (W : World) => (NewIm (w.heap.size + 2) #[.bool (b.1 == 1), .int .i64 c2'.1, .int .i64 d.1, .slice none 0 0, .slice none 0 0, .slice none 0 0]) (u 7) W)] [⟨[], [.keep, .keep, .keep, .keep, .early [0]]⟩, ⟨[], [.keep, .keep, .keep, .keep, .early [1]]⟩, ⟨[], [.keep, .early [2], .early [3, 2], .keep, .early [2]]⟩, ⟨[(0, [])], [.late [[]], .last, .early [3], .keep, .early [3]]⟩, ⟨[], [.keep, .keep, .early [4], .keep, .early [4]]⟩, ⟨[(1, [3])], [.late [[3]], .late [[]], .last, .keep, .early [5]]⟩, ⟨[(2, [5])], [.late [[3]], .late [[5]], .keep, .keep, .early [6]]⟩, ⟨[], [.keep, .keep, .keep, .last, .early [7]]⟩, ⟨[(2, [5]), (3, [7])], [.late [[3]], .late [[5]], .keep, .late [[]], .last]⟩] [25, 26, 27, 28, 29, 30, 31, 7] (by kernel_rfl) (Only.refl _ _) (fun _ _ _ => Only.trans) (by kernel_rfl) (by kernel_rfl) (by kernel_rfl) (by kernel_rfl) (by kernel_rfl) ?start ?_
    case start =>
      refine And.intro ?_ ?_
      · exact hRd2
      exact trivial
    apply ex_is; apply Exists.intro
    apply ex_is; apply Exists.intro
    apply ex_is; apply Exists.intro
    apply ex_is; apply Exists.intro
    apply ex_is; apply Exists.intro
    apply ex_is; apply Exists.intro
    apply ex_is; apply Exists.intro
    refine ex_phi (fun _ _ => True) ?_
    refine ex_phi (fun _ _ => True) ?_
    refine ⟨[], ⟨?steps, ?stab, ?ends⟩⟩
    case steps =>
      refine And.intro (obX_pure (Only.refl _ _) ?_) ?_
      · intro act W hR hf ho hu K hK
        replace hK := fun v h2 => hK v W rfl h2 trivial
        have G : act.tmps[6]?.getD undef = _ ∧ True := ho
        obtain ⟨g6, -⟩ := G
        clear ho hf hu
        go_simp
        exact hK _ (Eq.refl _)
      refine And.intro (obX_pure (Only.refl _ _) ?_) ?_
      · intro act W hR hf ho hu K hK
        replace hK := fun v h2 => hK v W rfl h2 trivial
        have F : act.tmps[25]?.getD undef = _ ∧ True := hf
        obtain ⟨f0, -⟩ := F
        clear ho hf hu
        go_simp
        exact hK _ (Eq.refl _)
      refine And.intro (obX_pure (Only.refl _ _) ?_) ?_
      · intro act W hR hf ho hu K hK
        replace hK := fun v h2 => hK v W rfl h2 trivial
        have G : act.tmps[4]?.getD undef = _ ∧ True := ho
        obtain ⟨g4, -⟩ := G
        clear ho hf hu
        have cb := hR.row HB2.out.rb (by decide); have z0 : W.cell? ⟨w.heap.size + 2, 0, none⟩ = some (.pointer (some ⟨p, 0, none⟩)) := by rw [HU.out.2]; simp [World.cell?, cb]
        go_simp
        exact hK _ (Eq.refl _)
      refine And.intro (obX_eff (Only p [62]) (fun _ _ h => h.mono (Nat.le_refl _) (by decide)) (And.intro (fun _ _ _ h e => h.only e (by decide)) (trivial)) ?_) ?_
      · intro act W hR hf ho hu K hK
        replace hK := fun v (w' : World) (h1 : (Only p [62]) W w') h2 (b1 : (Rd p c2'.2) (undef) w') => hK v w' h1 h2 ⟨b1, trivial⟩
        have F : act.tmps[27]?.getD undef = _ ∧ True := hf
        obtain ⟨f2, -⟩ := F
        have U : (Rd p b.2) (undef) W ∧ True := hu
        obtain ⟨r_rd2, -⟩ := U
        clear ho hf hu
        go_simp
        have HC := Lib.hid (one_s p b.2 W r_rd2 hb1); rw [← HCD.out.1] at HC; refine HC.out.mono ?_; rintro e W1 ⟨rfl, hO, hRd'⟩; exact hK _ _ hO (Eq.refl _) hRd'
      refine And.intro (obX_pure (Only.refl _ _) ?_) ?_
      · intro act W hR hf ho hu K hK
        replace hK := fun v h2 => hK v W rfl h2 trivial
        have G : act.tmps[4]?.getD undef = _ ∧ True := ho
        obtain ⟨g4, -⟩ := G
        clear ho hf hu
        have cb := hR.row HB2.out.rb (by decide); have z0 : W.cell? ⟨w.heap.size + 2, 0, none⟩ = some (.pointer (some ⟨p, 0, none⟩)) := by rw [HU.out.2]; simp [World.cell?, cb]
        go_simp
        exact hK _ (Eq.refl _)
      refine And.intro (obX_eff (Only p [62]) (fun _ _ h => h.mono (Nat.le_refl _) (by decide)) (And.intro (fun _ _ _ h e => h.only e (by decide)) (trivial)) ?_) ?_
      · intro act W hR hf ho hu K hK
        replace hK := fun v (w' : World) (h1 : (Only p [62]) W w') h2 (b2 : (Rd p d.2) (undef) w') => hK v w' h1 h2 ⟨b2, trivial⟩
        have F : act.tmps[29]?.getD undef = _ ∧ act.tmps[28]?.getD undef = _ ∧ True := hf
        obtain ⟨f4, f3, -⟩ := F
        have U : (Rd p c2'.2) (undef) W ∧ True := hu
        obtain ⟨r_rd3, -⟩ := U
        clear ho hf hu
        go_simp
        have HC := Lib.hid (two_s p c2'.2 W r_rd3 hc1); rw [← HCD.out.2] at HC; refine HC.out.mono ?_; rintro e W1 ⟨rfl, hO, hRd'⟩; exact hK _ _ hO (Eq.refl _) hRd'
      refine And.intro (obX_pure (Only.refl _ _) ?_) ?_
      · intro act W hR hf ho hu K hK
        replace hK := fun v h2 => hK v W rfl h2 trivial
        have F : act.tmps[26]?.getD undef = _ ∧ act.tmps[28]?.getD undef = _ ∧ act.tmps[30]?.getD undef = _ ∧ True := hf
        obtain ⟨f1, f3, f5, -⟩ := F
        have U : (Rd p d.2) (undef) W ∧ True := hu
        obtain ⟨r_rd4, -⟩ := U
        clear ho hf hu
        go_simp
        exact hK _ (Eq.refl _)
      refine And.intro (obX_eff (Ext) (fun _ _ h => Only.ext h) (And.intro (fun _ _ _ h e => RdAt.ext h e) (And.intro (fun _ _ _ h e => RdAt.ext h e) (And.intro (fun _ _ _ h e => RdAt.ext h e) (trivial)))) ?_) ?_
      · intro act W hR hf ho hu K hK
        replace hK := fun v (w' : World) (h1 : (Ext) W w') (b3 : (NewIm (w.heap.size + 2) #[.bool false, .int .i64 0, .int .i64 0, .slice none 0 0, .slice none 0 0, .slice none 0 0]) (v) w') => hK v w' h1 trivial ⟨b3, trivial⟩
        clear ho hf hu
        go_simp
        exact hK _ _ (by repeat first | (with_reducible exact Below.refl _ _) | (with_reducible apply Ext.alloc) | (with_reducible apply Ext.drew) | (with_reducible apply Ext.drewN) | (with_reducible refine Ext.set ?_ (by simp))) ⟨_, rfl, by have := hR.size; simp at this; omega, heap_alloc_new W _⟩
      refine And.intro (obX_eff (Only p [26]) (fun _ _ h => h.mono (Nat.le_refl _) (by decide)) (And.intro (fun _ _ _ h e => h.only e (Nat.le_refl _) (by decide)) (trivial)) ?_) ?_
      · intro act W hR hf ho hu K hK
        replace hK := fun (w' : World) (h1 : (Only p [26]) W w') (b4 : (NewIm (w.heap.size + 2) #[.bool (b.1 == 1), .int .i64 c2'.1, .int .i64 d.1, .slice none 0 0, .slice none 0 0, .slice none 0 0]) (act.tmps[7]?.getD undef) w') => hK undef w' h1 trivial ⟨b4, trivial⟩
        have F : (fun _ _ => True) (act.tmps[7]?.getD undef) W ∧ act.tmps[31]?.getD undef = _ ∧ act.tmps[30]?.getD undef = _ ∧ act.tmps[25]?.getD undef = _ ∧ act.tmps[26]?.getD undef = _ ∧ act.tmps[27]?.getD undef = _ ∧ act.tmps[28]?.getD undef = _ ∧ act.tmps[29]?.getD undef = _ ∧ act.tmps[30]?.getD undef = _ ∧ act.tmps[31]?.getD undef = _ ∧ (fun _ _ => True) (act.tmps[7]?.getD undef) W ∧ True := hf
        obtain ⟨-, f6, f5, f0, f1, f2, f3, f4, -, -, -, -⟩ := F
        have U : (Rd p d.2) (undef) W ∧ (NewIm (w.heap.size + 2) #[.bool false, .int .i64 0, .int .i64 0, .slice none 0 0, .slice none 0 0, .slice none 0 0]) (act.tmps[7]?.getD undef) W ∧ True := hu
        obtain ⟨r_rd4, r_im, -⟩ := U
        generalize f7 : act.tmps[7]?.getD undef = v7 at r_im hK
        clear ho hf hu
        obtain ⟨q, rfl, hq, hqi⟩ := r_im; have fz := frozen_row hqi; obtain ⟨z0, z1, z2, z3, z4, z5⟩ := lie6 hqi (Below.refl _ W); have hst := fun v0 v1 v2 v3 v4 v5 => set6 (p := p) hqi (by have := HU.out.2; omega) v0 v1 v2 v3 v4 v5; have HST := Lib.hid hst; clear hst
        go_simp
        exact hK _ (HST.out _ _ _ _ _ _).2 ⟨_, rfl, hq, (HST.out _ _ _ _ _ _).1⟩
      exact trivial
    case stab =>
      refine And.intro is_stable ?_
      refine And.intro is_stable ?_
      refine And.intro is_stable ?_
      refine And.intro is_stable ?_
      refine And.intro is_stable ?_
      refine And.intro is_stable ?_
      refine And.intro is_stable ?_
      refine And.intro (fun _ _ _ h _ => h) ?_
      refine And.intro (fun _ _ _ h _ => h) ?_
      exact trivial
    case ends =>
      intro vals W hR hE hall
      have E : (Rd p d.2) (undef) W ∧ (NewIm (w.heap.size + 2) #[.bool (b.1 == 1), .int .i64 c2'.1, .int .i64 d.1, .slice none 0 0, .slice none 0 0, .slice none 0 0]) (vals 7) W ∧ True := hE
      obtain ⟨e_rd4, e_im2, -⟩ := E
      clear hE
      clear hall
      generalize ev7 : vals 7 = x7 at e_im2
      simp only [fill, List.setIfInBounds_toArray, List.set_cons_succ, List.set_cons_zero, ev7]
      have hB3 : Base w W := (HB2.out.only (T := [62]) (Only.drew (Only.refl _ _ _)) (by decide)).only (by rw [← HU.out.2]; exact hR) (by decide)
      have HB3 := Lib.hid hB3
      have hRd3 := e_rd4
      obtain ⟨q, rfl, hq, hqi⟩ := e_im2
      have HQ := Lib.hid hqi
      have hWs3 : w.heap.size + 3 ≤ W.heap.size := Nat.le_trans hWs hR.size
      clear hRd2 hB3 e_rd4 hR hqi
      obtain ⟨k1, hf1⟩ : ∃ c, c = oneS d.2 := ⟨_, rfl⟩
      obtain ⟨k2, hf2⟩ : ∃ c, c = oneS k1.2 := ⟨_, rfl⟩
      obtain ⟨k3, hf3⟩ : ∃ c, c = oneS k2.2 := ⟨_, rfl⟩
      have hi1 : BytesIn k1.2.1 := by rw [hf1]; exact (someS_in hd1).2
      have hi2 : BytesIn k2.2.1 := by rw [hf2]; exact (someS_in hi1).2
      have hi3 : BytesIn k3.2.1 := by rw [hf3]; exact (someS_in hi2).2
      have hv1 : 0 ≤ k1.1 ∧ k1.1 < 256 := by rw [hf1]; exact oneS_in hd1
      have hv2 : 0 ≤ k2.1 ∧ k2.1 < 256 := by rw [hf2]; exact oneS_in hi1
      have hv3 : 0 ≤ k3.1 ∧ k3.1 < 256 := by rw [hf3]; exact oneS_in hi2
      have HF := Lib.hid (And.intro hf1 (And.intro hf2 hf3))
      clear hf1 hf2 hf3
      go_wp2_with fail
      refine wp_region_res (Only p [62]) [⟨none, [], [1]⟩, ⟨some 1, [], [3]⟩, ⟨some 3, [], [5]⟩, ⟨some 5, [], []⟩] [(fun (u : Nat → Value) (W : World) => (Rd p d.2) (undef) W), (fun (u : Nat → Value) (W : World) => (Rd p k1.2) (undef) W), (fun (u : Nat → Value) (W : World) => (Rd p k2.2) (undef) W), (fun (u : Nat → Value) (W : World) => (Rd p k3.2) (undef) W)] [⟨[], [.keep, .early [0], .early [1, 0], .early [3, 1, 0]]⟩, ⟨[(0, [])], [.late [[]], .last, .early [1], .early [3, 1]]⟩, ⟨[], [.keep, .keep, .early [2], .early [3, 2]]⟩, ⟨[(1, [1])], [.late [[1]], .late [[]], .last, .early [3]]⟩, ⟨[], [.keep, .keep, .keep, .early [4]]⟩, ⟨[(2, [3])], [.late [[3, 1]], .late [[3]], .late [[]], .last]⟩, ⟨[(3, [5])], [.late [[1]], .late [[5, 3]], .late [[5]], .keep]⟩, ⟨[(3, [6, 5])], [.late [[1]], .late [[3]], .late [[6, 5]], .keep]⟩, ⟨[(3, [5])], [.late [[1]], .late [[3]], .late [[5]], .keep]⟩] [32, 33, 34, 35, 36, 37, 8, 9, 10] (by kernel_rfl) (Only.refl _ _) (fun _ _ _ => Only.trans) (by kernel_rfl) (by kernel_rfl) (by kernel_rfl) (by kernel_rfl) (by kernel_rfl) ?start ?_
      case start =>
        refine And.intro ?_ ?_
        · exact hRd3
        exact trivial
      apply ex_is; apply Exists.intro
      apply ex_is; apply Exists.intro
      apply ex_is; apply Exists.intro
      apply ex_is; apply Exists.intro
      apply ex_is; apply Exists.intro
      apply ex_is; apply Exists.intro
      apply ex_is; apply Exists.intro
      apply ex_is; apply Exists.intro
      apply ex_is; apply Exists.intro
      refine ⟨[], ⟨?steps, ?stab, ?ends⟩⟩
      case steps =>
        refine And.intro (obX_pure (Only.refl _ _) ?_) ?_
        · intro act W hR hf ho hu K hK
          replace hK := fun v h2 => hK v W rfl h2 trivial
          have G : act.tmps[4]?.getD undef = _ ∧ True := ho
          obtain ⟨g4, -⟩ := G
          clear ho hf hu
          have cb := hR.row HB3.out.rb (by decide); have z0 : W.cell? ⟨w.heap.size + 2, 0, none⟩ = some (.pointer (some ⟨p, 0, none⟩)) := by rw [HU.out.2]; simp [World.cell?, cb]
          go_simp
          exact hK _ (Eq.refl _)
        refine And.intro (obX_eff (Only p [62]) (fun _ _ h => h) (trivial) ?_) ?_
        · intro act W hR hf ho hu K hK
          replace hK := fun v (w' : World) (h1 : (Only p [62]) W w') h2 (b1 : (Rd p k1.2) (undef) w') => hK v w' h1 h2 ⟨b1, trivial⟩
          have F : act.tmps[32]?.getD undef = _ ∧ True := hf
          obtain ⟨f0, -⟩ := F
          have U : (Rd p d.2) (undef) W ∧ True := hu
          obtain ⟨r_rd0, -⟩ := U
          clear ho hf hu
          go_simp
          have HC := Lib.hid (one_s p d.2 W r_rd0 hd1); rw [← HF.out.1] at HC; refine HC.out.mono ?_; rintro e W1 ⟨rfl, hO, hRd'⟩; exact hK _ _ hO (Eq.refl _) hRd'
        refine And.intro (obX_pure (Only.refl _ _) ?_) ?_
        · intro act W hR hf ho hu K hK
          replace hK := fun v h2 => hK v W rfl h2 trivial
          have G : act.tmps[4]?.getD undef = _ ∧ True := ho
          obtain ⟨g4, -⟩ := G
          clear ho hf hu
          have cb := hR.row HB3.out.rb (by decide); have z0 : W.cell? ⟨w.heap.size + 2, 0, none⟩ = some (.pointer (some ⟨p, 0, none⟩)) := by rw [HU.out.2]; simp [World.cell?, cb]
          go_simp
          exact hK _ (Eq.refl _)
        refine And.intro (obX_eff (Only p [62]) (fun _ _ h => h) (trivial) ?_) ?_
        · intro act W hR hf ho hu K hK
          replace hK := fun v (w' : World) (h1 : (Only p [62]) W w') h2 (b2 : (Rd p k2.2) (undef) w') => hK v w' h1 h2 ⟨b2, trivial⟩
          have F : act.tmps[34]?.getD undef = _ ∧ act.tmps[33]?.getD undef = _ ∧ True := hf
          obtain ⟨f2, f1, -⟩ := F
          have U : (Rd p k1.2) (undef) W ∧ True := hu
          obtain ⟨r_rd1, -⟩ := U
          clear ho hf hu
          go_simp
          have HC := Lib.hid (one_s p k1.2 W r_rd1 hi1); rw [← HF.out.2.1] at HC; refine HC.out.mono ?_; rintro e W1 ⟨rfl, hO, hRd'⟩; exact hK _ _ hO (Eq.refl _) hRd'
        refine And.intro (obX_pure (Only.refl _ _) ?_) ?_
        · intro act W hR hf ho hu K hK
          replace hK := fun v h2 => hK v W rfl h2 trivial
          have G : act.tmps[4]?.getD undef = _ ∧ True := ho
          obtain ⟨g4, -⟩ := G
          clear ho hf hu
          have cb := hR.row HB3.out.rb (by decide); have z0 : W.cell? ⟨w.heap.size + 2, 0, none⟩ = some (.pointer (some ⟨p, 0, none⟩)) := by rw [HU.out.2]; simp [World.cell?, cb]
          go_simp
          exact hK _ (Eq.refl _)
        refine And.intro (obX_eff (Only p [62]) (fun _ _ h => h) (trivial) ?_) ?_
        · intro act W hR hf ho hu K hK
          replace hK := fun v (w' : World) (h1 : (Only p [62]) W w') h2 (b3 : (Rd p k3.2) (undef) w') => hK v w' h1 h2 ⟨b3, trivial⟩
          have F : act.tmps[36]?.getD undef = _ ∧ act.tmps[35]?.getD undef = _ ∧ True := hf
          obtain ⟨f4, f3, -⟩ := F
          have U : (Rd p k2.2) (undef) W ∧ True := hu
          obtain ⟨r_rd2, -⟩ := U
          clear ho hf hu
          go_simp
          have HC := Lib.hid (one_s p k2.2 W r_rd2 hi2); rw [← HF.out.2.2] at HC; refine HC.out.mono ?_; rintro e W1 ⟨rfl, hO, hRd'⟩; exact hK _ _ hO (Eq.refl _) hRd'
        refine And.intro (obX_pure (Only.refl _ _) ?_) ?_
        · intro act W hR hf ho hu K hK
          replace hK := fun v h2 => hK v W rfl h2 trivial
          have F : act.tmps[33]?.getD undef = _ ∧ act.tmps[37]?.getD undef = _ ∧ act.tmps[32]?.getD undef = _ ∧ act.tmps[33]?.getD undef = _ ∧ True := hf
          obtain ⟨f1, f5, f0, -, -⟩ := F
          have U : (Rd p k3.2) (undef) W ∧ True := hu
          obtain ⟨r_rd3, -⟩ := U
          clear ho hf hu
          go_simp
          exact hK _ (Eq.refl _)
        refine And.intro (obX_pure (Only.refl _ _) ?_) ?_
        · intro act W hR hf ho hu K hK
          replace hK := fun v h2 => hK v W rfl h2 trivial
          have F : act.tmps[35]?.getD undef = _ ∧ act.tmps[8]?.getD undef = _ ∧ act.tmps[32]?.getD undef = _ ∧ act.tmps[33]?.getD undef = _ ∧ act.tmps[34]?.getD undef = _ ∧ act.tmps[35]?.getD undef = _ ∧ act.tmps[8]?.getD undef = _ ∧ True := hf
          obtain ⟨f3, f6, f0, f1, f2, -, -, -⟩ := F
          have U : (Rd p k3.2) (undef) W ∧ True := hu
          obtain ⟨r_rd3, -⟩ := U
          clear ho hf hu
          go_simp
          exact hK _ (Eq.refl _)
        refine And.intro (obX_pure (Only.refl _ _) ?_) ?_
        · intro act W hR hf ho hu K hK
          replace hK := fun v h2 => hK v W rfl h2 trivial
          have F : act.tmps[37]?.getD undef = _ ∧ act.tmps[9]?.getD undef = _ ∧ act.tmps[32]?.getD undef = _ ∧ act.tmps[33]?.getD undef = _ ∧ act.tmps[34]?.getD undef = _ ∧ act.tmps[35]?.getD undef = _ ∧ act.tmps[36]?.getD undef = _ ∧ act.tmps[37]?.getD undef = _ ∧ act.tmps[8]?.getD undef = _ ∧ act.tmps[9]?.getD undef = _ ∧ True := hf
          obtain ⟨f5, f7, f0, f1, f2, f3, f4, -, f6, -, -⟩ := F
          have U : (Rd p k3.2) (undef) W ∧ True := hu
          obtain ⟨r_rd3, -⟩ := U
          clear ho hf hu
          go_simp
          exact hK _ (Eq.refl _)
        exact trivial
      case stab =>
        refine And.intro is_stable ?_
        refine And.intro is_stable ?_
        refine And.intro is_stable ?_
        refine And.intro is_stable ?_
        refine And.intro is_stable ?_
        refine And.intro is_stable ?_
        refine And.intro is_stable ?_
        refine And.intro is_stable ?_
        refine And.intro is_stable ?_
        exact trivial
      case ends =>
        intro vals W hR hE hall
        have E : (Rd p k3.2) (undef) W ∧ True := hE
        obtain ⟨e_rd3, -⟩ := E
        clear hE
        have e8 : vals 8 = _ := hall 6 (by decide)
        have e9 : vals 9 = _ := hall 7 (by decide)
        have e10 : vals 10 = _ := hall 8 (by decide)
        clear hall
        simp only [fill, List.setIfInBounds_toArray, List.set_cons_succ, List.set_cons_zero, e8, e9, e10]
        have hB4 : Base w W := (HB3.out.only (T := [62]) (Only.drew (Only.refl _ _ _)) (by decide)).only (by rw [← HU.out.2]; exact hR) (by decide)
        have HB4 := Lib.hid hB4
        have HQ4 := Lib.hid (hR.row HQ.out (by decide))
        have hWs4 : w.heap.size + 3 ≤ W.heap.size := Nat.le_trans hWs3 hR.size
        have hqW : q < W.heap.size := (Array.getElem?_eq_some_iff.1 HQ4.out).1
        clear hRd3 hB4 hR
        obtain ⟨k1v, k1s⟩ := k1
        obtain ⟨k2v, k2s⟩ := k2
        obtain ⟨k3v, k3s⟩ := k3
        obtain ⟨n1, rfl⟩ := Int.eq_ofNat_of_zero_le hv1.1
        obtain ⟨n2, rfl⟩ := Int.eq_ofNat_of_zero_le hv2.1
        obtain ⟨n3, rfl⟩ := Int.eq_ofNat_of_zero_le hv3.1
        obtain ⟨ii, hii, hii0, hii1, hii2⟩ := info_parts infoInts
        simp only at hv1 hv2 hv3 hi3 e_rd3
        have hRd4 : Hid (Rd p k3s undef W) := Lib.hid e_rd3
        clear e_rd3
        go_wp2_with (first
          | (at_make; refine wpList_make_full _ rfl (.tmp 38) (.tmp 38) 43 rfl p 3 ii (.int .i64 0) 1 Try.underlying43 hii hii0 hii1 .i64 .i64 n1 n1 n1 rfl rfl rfl rfl (by rw [hii2]; omega) (by unfold maxLen; omega) (by have := HU.out.2; omega) ?_; intro w4 ho4 hg4))
        obtain ⟨gs, hgs⟩ : ∃ gs, gs = W.heap.size := ⟨_, rfl⟩
        rw [← hgs] at ho4 ⊢
        have E4 : Ext W w4 := ⟨hg4.os, hg4.tape, hg4.output, hg4.size, fun k hk => hg4.block k hk (by simp)⟩
        have hrow : w4.heap[gs]? = some (.cells (List.replicate n1 (Value.int .i64 0)).toArray 3) := made_row ho4
        have L0 : L1At w w4 p q gs n1 (w.heap.size + 3) (.bool (b.1 == 1)) (.int .i64 c2'.1) (.int .i64 d.1) k3s 0 := by
          refine ⟨HB4.out.only (T := []) (Only.ext E4) (by simp), RdAt.ext hRd4.out E4, ?_, ⟨.slice none 0 0, (E4.block q hqW).trans HQ4.out, World.ownsRow_nil _ _ _ _⟩⟩
          rw [hrow]
          simp [compsP]
        have HL0 := Lib.hid L0
        have hpg : p ≤ gs := by have := HU.out.2; omega
        clear L0 hrow ho4 hg4 E4 hgs
        go_loopw [41] (fun i wr => ∃ k : Nat, k ≤ n1 ∧ i = .int .i64 (k : Int) ∧ L1At w wr p q gs n1 (w.heap.size + 3) (.bool (b.1 == 1)) (.int .i64 c2'.1) (.int .i64 d.1) k3s k) (fun i _ => n1 - (intOf i).toNat)
        case atStart => exact ⟨0, Nat.zero_le _, rfl, HL0.out⟩
        case round =>
          obtain ⟨k, hk, rfl, hL⟩ := hrel
          by_cases hlt : k < n1
          · have hin := (compsP_in (s := k3s) hi3 k).1
            have hkl := compsP_len k3s k
            have hP : compsP k3s (k + 1) = ((compsP k3s k).1 ++ [((twoS (compsP k3s k).2).1, (oneS (twoS (compsP k3s k).2).2).1)], (oneS (twoS (compsP k3s k).2).2).2) := rfl
            generalize hst : compsP k3s k = st at hL hin hP hkl
            obtain ⟨cl, sk⟩ := st
            simp only at hL hin hP hkl
            obtain ⟨a, ha⟩ : ∃ a, a = twoS sk := ⟨_, rfl⟩
            obtain ⟨e, he⟩ : ∃ e, e = oneS a.2 := ⟨_, rfl⟩
            rw [← ha, ← he] at hP
            have hin2 : BytesIn a.2.1 := by rw [ha]; exact (someS_in hin).2
            have hr1 : wr.heap[q]? = _ ∧ True := ⟨rfl, trivial⟩
            have z0 : wr.cell? ⟨w.heap.size + 1 + 1, 0, none⟩ = some (.pointer (some ⟨p, 0, none⟩)) := by have cb := hL.base.rb; rw [HU.out.2]; simp [World.cell?, cb]
            have HL := Lib.hid hL
            have HST := Lib.hid hst
            have HP := Lib.hid hP
            have HAE := Lib.hid (And.intro ha he)
            clear hL hst hP ha he hr1
            go_wp2_with fail
            refine (two_s p sk wr (by have := HL.out.rd; rw [HST.out] at this; exact this) hin).mono ?_
            rw [← HAE.out.1]
            rintro _ w2 ⟨rfl, hO2, hRd2⟩
            have hsz2 := hO2.row HL.out.sizes (by decide)
            rw [HST.out] at hsz2
            have hgs2 : gs < w2.heap.size := (Array.getElem?_eq_some_iff.1 hsz2).1
            have zs : w2.cell? ⟨gs, k, none⟩ = some (.int .i64 0) := by simp [World.cell?, hsz2]; exact get_mid _ _ _ _ (by simpa using hkl) hlt
            have fz := frozen_row hsz2
            have HSZ := Lib.hid hsz2
            clear hsz2
            go_wp2_with fail
            obtain ⟨X, hX⟩ : ∃ X, X = w2.setCell ⟨gs, k, none⟩ (.int .i64 a.1) := ⟨_, rfl⟩
            have hOX : Only p [3] w2 X := by rw [hX]; exact Only.set HSZ.out hpg (by simp) _
            have hXs : X.heap[gs]? = some (.cells ((cl.map fun x : Int × Int => Value.int .i64 x.1) ++ [Value.int .i64 a.1] ++ List.replicate (n1 - (k + 1)) (Value.int .i64 0)).toArray 3) := by
              rw [hX]
              simp only [World.setCell, Array.getElem?_modify, HSZ.out, if_pos, Option.map_some]
              simp only [Option.isSome_none, Bool.false_eq_true, if_false]
              rw [set_mid _ _ _ _ _ (by simpa using hkl) hlt]
            rw [← hX]
            have hBX : Base w X := (HL.out.base.only (by rw [← HU.out.2]; exact hO2) (by decide)).only (by rw [← HU.out.2]; exact hOX) (by decide)
            obtain ⟨vC, hi1, hi2⟩ := HL.out.img
            rw [HST.out] at hi2
            have hiX := hOX.row (hO2.row hi1 (by decide)) (by decide)
            have hrX := hOX.own (hO2.own hi2 (by decide)) (by decide)
            have hRX : Rd p a.2 undef X := RdAt.only hRd2 hOX (Nat.le_refl _) (by decide)
            have HX := Lib.hid (And.intro hBX (And.intro hiX (And.intro hrX (And.intro hRX hXs))))
            clear hBX hiX hrX hRX hXs hi1 hi2 hOX hO2 hRd2 hX zs fz z0
            obtain ⟨ci, hci, hci0, hci1, hci2⟩ := info_parts infoComp
            have hXd : w.heap.size + 3 ≤ X.drew.heap.size := (Array.getElem?_eq_some_iff.1 HX.out.1.rb).1
            refine wp_region_res (Only p [62, 53, 26]) [⟨none, [], [3]⟩, ⟨some 3, [], []⟩, ⟨none, [], [1, 8]⟩, ⟨none, [], [6]⟩, ⟨some 5, [(5, [])], [6]⟩, ⟨some 6, [(6, [])], [8]⟩, ⟨some 8, [], []⟩] [(fun (u : Nat → Value) (W : World) => (Rd p a.2) (undef) W), (fun (u : Nat → Value) (W : World) => (Rd p e.2) (undef) W), (fun (u : Nat → Value) (W : World) => (fun (_ : Value) (W : World) => W.heap[q]? = some (.cells #[.bool (b.1 == 1), .int .i64 c2'.1, .int .i64 d.1, vC, .slice none 0 0, .slice none 0 0] 26)) (undef) W), (fun (u : Nat → Value) (W : World) => (fun (_ : Value) (W : World) => W.ownsRow (w.heap.size + 3) 53 2 vC k ((cl.map fun x : Int × Int => comp0 x.2).flatMap CompM.cells)) (undef) W), (fun (u : Nat → Value) (W : World) => (NewLit p 1 (comp0 e.1).cells 53) (u 5) W), (fun (u : Nat → Value) (W : World) => (fun (v : Value) (W : World) => W.ownsRow (w.heap.size + 3) 53 2 v (k + 1) ((cl.map fun x : Int × Int => comp0 x.2).flatMap CompM.cells ++ (comp0 e.1).cells)) (u 6) W), (fun (u : Nat → Value) (W : World) => (fun (_ : Value) (W : World) => ∃ v, W.heap[q]? = some (.cells #[.bool (b.1 == 1), .int .i64 c2'.1, .int .i64 d.1, v, .slice none 0 0, .slice none 0 0] 26) ∧ W.ownsRow (w.heap.size + 3) 53 2 v (k + 1) ((cl.map fun x : Int × Int => comp0 x.2).flatMap CompM.cells ++ (comp0 e.1).cells)) (undef) W)] [⟨[], [.keep, .keep, .keep, .keep, .keep, .early [1, 0], .early [0]]⟩, ⟨[(2, [])], [.keep, .keep, .keep, .keep, .keep, .early [1], .early [1]]⟩, ⟨[], [.keep, .early [2], .keep, .keep, .early [4, 3, 2], .early [3, 2], .early [2]]⟩, ⟨[(0, [])], [.late [[]], .last, .keep, .keep, .early [4, 3], .early [3], .early [3]]⟩, ⟨[(1, [3])], [.late [[3]], .keep, .keep, .keep, .early [4], .early [5, 4], .early [4]]⟩, ⟨[(1, [4, 3])], [.late [[4, 3]], .keep, .keep, .keep, .last, .early [5], .early [5]]⟩, ⟨[(1, [3]), (3, []), (4, [5])], [.late [[3]], .keep, .keep, .late [[]], .late [[]], .last, .early [6]]⟩, ⟨[(1, [3])], [.late [[3]], .keep, .keep, .late [[6]], .late [[6]], .keep, .early [7]]⟩, ⟨[(1, [3]), (2, []), (5, [6])], [.late [[3]], .keep, .late [[1], []], .late [[6]], .late [[6]], .late [[]], .last]⟩] [49, 50, 51, 52, 53, 54, 55, 56] (by kernel_rfl) (Only.refl _ _) (fun _ _ _ => Only.trans) (by kernel_rfl) (by kernel_rfl) (by kernel_rfl) (by kernel_rfl) (by kernel_rfl) ?start ?_
            case start =>
              refine And.intro ?_ ?_
              · exact HX.out.2.2.2.1
              refine And.intro ?_ ?_
              · exact HX.out.2.1
              refine And.intro ?_ ?_
              · exact HX.out.2.2.1
              exact trivial
            apply ex_is; apply Exists.intro
            apply ex_is; apply Exists.intro
            apply ex_is; apply Exists.intro
            apply ex_is; apply Exists.intro
            apply ex_is; apply Exists.intro
            refine ex_phi (fun _ _ => True) ?_
            refine ex_phi (fun _ _ => True) ?_
            apply ex_is; apply Exists.intro
            refine ex_phi (fun _ _ => True) ?_
            refine ⟨[], ⟨?steps, ?stab, ?ends⟩⟩
            case steps =>
              refine And.intro (obX_pure (Only.refl _ _) ?_) ?_
              · intro act W hR hf ho hu K hK
                replace hK := fun v h2 => hK v W rfl h2 trivial
                have G : act.tmps[7]?.getD undef = _ ∧ True := ho
                obtain ⟨g7, -⟩ := G
                clear ho hf hu
                go_simp
                exact hK _ (Eq.refl _)
              refine And.intro (obX_pure (Only.refl _ _) ?_) ?_
              · intro act W hR hf ho hu K hK
                replace hK := fun v h2 => hK v W rfl h2 trivial
                have F : act.tmps[49]?.getD undef = _ ∧ True := hf
                obtain ⟨f0, -⟩ := F
                have U : (fun (_ : Value) (W : World) => W.heap[q]? = some (.cells #[.bool (b.1 == 1), .int .i64 c2'.1, .int .i64 d.1, vC, .slice none 0 0, .slice none 0 0] 26)) (undef) W ∧ True := hu
                obtain ⟨r_im, -⟩ := U
                clear ho hf hu
                have cb := hR.row HX.out.1.rb (by decide); have z0 : W.cell? ⟨w.heap.size + 2, 0, none⟩ = some (.pointer (some ⟨p, 0, none⟩)) := by rw [HU.out.2]; simp [World.cell?, cb]
                have z1 : W.cell? ⟨q, 3, none⟩ = some vC := by simp [World.cell?, r_im]
                go_simp
                exact hK _ (Eq.refl _)
              refine And.intro (obX_pure (Only.refl _ _) ?_) ?_
              · intro act W hR hf ho hu K hK
                replace hK := fun v h2 => hK v W rfl h2 trivial
                have G : act.tmps[4]?.getD undef = _ ∧ True := ho
                obtain ⟨g4, -⟩ := G
                clear ho hf hu
                have cb := hR.row HX.out.1.rb (by decide); have z0 : W.cell? ⟨w.heap.size + 2, 0, none⟩ = some (.pointer (some ⟨p, 0, none⟩)) := by rw [HU.out.2]; simp [World.cell?, cb]
                go_simp
                exact hK _ (Eq.refl _)
              refine And.intro (obX_eff (Only p [62]) (fun _ _ h => h.mono (Nat.le_refl _) (by decide)) (And.intro (fun _ _ _ h e => e.row h (by decide)) (And.intro (fun _ _ _ h e => e.own h (by decide)) (trivial))) ?_) ?_
              · intro act W hR hf ho hu K hK
                replace hK := fun v (w' : World) (h1 : (Only p [62]) W w') h2 (b1 : (Rd p e.2) (undef) w') => hK v w' h1 h2 ⟨b1, trivial⟩
                have F : act.tmps[51]?.getD undef = _ ∧ True := hf
                obtain ⟨f2, -⟩ := F
                have U : (Rd p a.2) (undef) W ∧ True := hu
                obtain ⟨r_rd, -⟩ := U
                clear ho hf hu
                go_simp
                have HC := Lib.hid (one_s p a.2 W r_rd hin2); rw [← HAE.out.2] at HC; refine HC.out.mono ?_; rintro _ W1 ⟨rfl, hO, hRd'⟩; exact hK _ _ hO (Eq.refl _) hRd'
              refine And.intro (obX_pure (Only.refl _ _) ?_) ?_
              · intro act W hR hf ho hu K hK
                replace hK := fun v h2 => hK v W rfl h2 trivial
                have F : act.tmps[52]?.getD undef = _ ∧ True := hf
                obtain ⟨f3, -⟩ := F
                have U : (Rd p e.2) (undef) W ∧ True := hu
                obtain ⟨r_rd1, -⟩ := U
                clear ho hf hu
                go_simp
                exact hK _ (Eq.refl _)
              refine And.intro (obX_eff (Ext) (fun _ _ h => Only.ext h) (And.intro (fun _ _ _ h e => RdAt.ext h e) (And.intro (fun _ _ _ h e => (Only.ext e).row (T := []) (B := 0) h (by simp)) (And.intro (fun _ _ _ h e => own_ext h e) (trivial)))) ?_) ?_
              · intro act W hR hf ho hu K hK
                replace hK := fun v (w' : World) (h1 : (Ext) W w') (b4 : (NewLit p 1 (comp0 e.1).cells 53) (v) w') => hK v w' h1 trivial ⟨b4, trivial⟩
                have F : act.tmps[53]?.getD undef = _ ∧ True := hf
                obtain ⟨f4, -⟩ := F
                have U : (Rd p e.2) (undef) W ∧ True := hu
                obtain ⟨r_rd1, -⟩ := U
                clear ho hf hu
                go_simp
                exact hK _ _ (by repeat first | (with_reducible exact Below.refl _ _) | (with_reducible apply Ext.alloc) | (with_reducible apply Ext.drew) | (with_reducible apply Ext.drewN) | (with_reducible refine Ext.set ?_ (by simp))) (NewLit.new (by have := hR.size; have := HU.out.2; omega))
              refine And.intro (obX_eff (Only p [53]) (fun _ _ h => h.mono (Nat.le_refl _) (by decide)) (And.intro (fun _ _ _ h e => h.only e (Nat.le_refl _) (by decide)) (And.intro (fun _ _ _ h e => e.row h (by decide)) (trivial))) ?_) ?_
              · intro act W hR hf ho hu K hK
                replace hK := fun v (w' : World) (h1 : (Only p [53]) W w') (b5 : (fun (v : Value) (W : World) => W.ownsRow (w.heap.size + 3) 53 2 v (k + 1) ((cl.map fun x : Int × Int => comp0 x.2).flatMap CompM.cells ++ (comp0 e.1).cells)) (v) w') => hK v w' h1 trivial ⟨b5, trivial⟩
                have F : act.tmps[50]?.getD undef = _ ∧ (fun _ _ => True) (act.tmps[54]?.getD undef) W ∧ act.tmps[52]?.getD undef = _ ∧ True := hf
                obtain ⟨f1, -, f3, -⟩ := F
                have U : (Rd p e.2) (undef) W ∧ (fun (_ : Value) (W : World) => W.ownsRow (w.heap.size + 3) 53 2 vC k ((cl.map fun x : Int × Int => comp0 x.2).flatMap CompM.cells)) (undef) W ∧ (NewLit p 1 (comp0 e.1).cells 53) (act.tmps[54]?.getD undef) W ∧ True := hu
                obtain ⟨r_rd1, r_row, r_n5, -⟩ := U
                generalize f5 : act.tmps[54]?.getD undef = v5 at r_n5
                clear ho hf hu
                obtain ⟨b5, rfl, hb5, hl5⟩ := r_n5; have hWp : w.heap.size + 3 ≤ W.heap.size := by have := hR.size; have := HU.out.2; omega
                dsimp only [Option.elim] at f1
                dsimp only [Option.elim] at f3
                rw [← seen_eq]; refine step_append_src W rfl (.tmp 50) (.tmp 54) 22 rfl (w.heap.size + 3) 53 ci (.agg #[.slice none 0 0, .int .i64 0]) 2 32 Try.underlying22 hci hci0 hci1 hci2 rfl (by decide) _ _ _ (eval_get f1) r_row _ 1 (comp0 e.1).cells (eval_get f5) (lies_lit hl5) rfl (by simp [Value.oneCell']) (by unfold maxLen; omega) (by omega) hWp ?_; intro v' w' ho' hg' _; exact hK _ _ (Only.grown (own_low r_row (by have := HU.out.2; omega)) hg' (by simp)) ho'
              refine And.intro (obX_pure (Only.refl _ _) ?_) ?_
              · intro act W hR hf ho hu K hK
                replace hK := fun v h2 => hK v W rfl h2 trivial
                have G : act.tmps[7]?.getD undef = _ ∧ True := ho
                obtain ⟨g7, -⟩ := G
                have F : act.tmps[49]?.getD undef = _ ∧ act.tmps[50]?.getD undef = _ ∧ act.tmps[51]?.getD undef = _ ∧ act.tmps[52]?.getD undef = _ ∧ act.tmps[53]?.getD undef = _ ∧ (fun _ _ => True) (act.tmps[54]?.getD undef) W ∧ (fun _ _ => True) (act.tmps[55]?.getD undef) W ∧ True := hf
                obtain ⟨f0, f1, f2, f3, f4, -, -, -⟩ := F
                have U : (Rd p e.2) (undef) W ∧ True := hu
                obtain ⟨r_rd1, -⟩ := U
                generalize f5 : act.tmps[54]?.getD undef = v5
                generalize f6 : act.tmps[55]?.getD undef = v6
                clear ho hf hu
                go_simp
                exact hK _ (Eq.refl _)
              refine And.intro (obX_eff (Only p [26]) (fun _ _ h => h.mono (Nat.le_refl _) (by decide)) (And.intro (fun _ _ _ h e => h.only e (Nat.le_refl _) (by decide)) (trivial)) ?_) ?_
              · intro act W hR hf ho hu K hK
                replace hK := fun (w' : World) (h1 : (Only p [26]) W w') (b6 : (fun (_ : Value) (W : World) => ∃ v, W.heap[q]? = some (.cells #[.bool (b.1 == 1), .int .i64 c2'.1, .int .i64 d.1, v, .slice none 0 0, .slice none 0 0] 26) ∧ W.ownsRow (w.heap.size + 3) 53 2 v (k + 1) ((cl.map fun x : Int × Int => comp0 x.2).flatMap CompM.cells ++ (comp0 e.1).cells)) (undef) w') => hK undef w' h1 trivial ⟨b6, trivial⟩
                have F : act.tmps[56]?.getD undef = _ ∧ (fun _ _ => True) (act.tmps[55]?.getD undef) W ∧ (fun _ _ => True) (act.tmps[55]?.getD undef) W ∧ act.tmps[49]?.getD undef = _ ∧ act.tmps[50]?.getD undef = _ ∧ act.tmps[51]?.getD undef = _ ∧ act.tmps[52]?.getD undef = _ ∧ act.tmps[53]?.getD undef = _ ∧ (fun _ _ => True) (act.tmps[54]?.getD undef) W ∧ (fun _ _ => True) (act.tmps[55]?.getD undef) W ∧ True := hf
                obtain ⟨f7, -, -, f0, f1, f2, f3, f4, -, -, -⟩ := F
                have U : (Rd p e.2) (undef) W ∧ (fun (_ : Value) (W : World) => W.heap[q]? = some (.cells #[.bool (b.1 == 1), .int .i64 c2'.1, .int .i64 d.1, vC, .slice none 0 0, .slice none 0 0] 26)) (undef) W ∧ (fun (v : Value) (W : World) => W.ownsRow (w.heap.size + 3) 53 2 v (k + 1) ((cl.map fun x : Int × Int => comp0 x.2).flatMap CompM.cells ++ (comp0 e.1).cells)) (act.tmps[55]?.getD undef) W ∧ True := hu
                obtain ⟨r_rd1, r_im, r_r6, -⟩ := U
                generalize f6 : act.tmps[55]?.getD undef = v6 at r_r6
                generalize f5 : act.tmps[54]?.getD undef = v5
                clear ho hf hu
                obtain ⟨A6, c6, rfl, -, -⟩ := Arr.own r_r6; have z3 : W.cell? ⟨q, 3, none⟩ = some vC := (by simp [World.cell?, r_im]); have fz := frozen_row r_im; have hst := set_row (o := 3) r_im (.slice A6 (k + 1) c6); have hso := Only.set (o := 3) (T := [26]) r_im (B := p) (by have := HU.out.2; omega) (by simp) (.slice A6 (k + 1) c6); have HST2 := Lib.hid (And.intro hst hso); clear hst hso
                go_simp
                exact hK _ HST2.out.2 ⟨_, HST2.out.1, HST2.out.2.own r_r6 (by decide)⟩
              exact trivial
            case stab =>
              refine And.intro is_stable ?_
              refine And.intro is_stable ?_
              refine And.intro is_stable ?_
              refine And.intro is_stable ?_
              refine And.intro is_stable ?_
              refine And.intro (fun _ _ _ h _ => h) ?_
              refine And.intro (fun _ _ _ h _ => h) ?_
              refine And.intro is_stable ?_
              refine And.intro (fun _ _ _ h _ => h) ?_
              exact trivial
            case ends =>
              intro vals W hR hE hall
              have E : (Rd p e.2) (undef) W ∧ (fun (_ : Value) (W : World) => ∃ v, W.heap[q]? = some (.cells #[.bool (b.1 == 1), .int .i64 c2'.1, .int .i64 d.1, v, .slice none 0 0, .slice none 0 0] 26) ∧ W.ownsRow (w.heap.size + 3) 53 2 v (k + 1) ((cl.map fun x : Int × Int => comp0 x.2).flatMap CompM.cells ++ (comp0 e.1).cells)) (undef) W ∧ True := hE
              obtain ⟨e_rd1, e_fin, -⟩ := E
              clear hE
              clear hall
              simp only [fill, List.setIfInBounds_toArray, List.set_cons_succ, List.set_cons_zero]
              have hOXW := hR
              have hBW : Base w W := (HX.out.1.only (T := [62]) (Only.drew (Only.refl _ _ _)) (by decide)).only (by rw [← HU.out.2]; exact hR) (by decide)
              obtain ⟨vF, hF1, hF2⟩ := e_fin
              have hsW := hR.row HX.out.2.2.2.2 (by decide)
              have LW : L1At w W p q gs n1 (w.heap.size + 3) (.bool (b.1 == 1)) (.int .i64 c2'.1) (.int .i64 d.1) k3s (k + 1) := by
                refine ⟨hBW, ?_, ?_, vF, hF1, ?_⟩
                · rw [HP.out]; exact e_rd1
                · rw [HP.out]; simpa using hsW
                · rw [HP.out]; simpa using hF2
              clear hOXW hBW hF1 hF2 hsW e_rd1 hR
              go_wp2_with fail
              exact ⟨⟨k + 1, by omega, by simp, LW⟩, by simp [intOf]; omega⟩
          · obtain rfl : k = n1 := by omega
            obtain ⟨cl, hcl⟩ : ∃ cl, cl = (compsP k3s k).1 := ⟨_, rfl⟩
            obtain ⟨s2, hs2⟩ : ∃ s, s = (compsP k3s k).2 := ⟨_, rfl⟩
            have hin2 : BytesIn s2.1 := by rw [hs2]; exact (compsP_in (s := k3s) hi3 k).1
            have hclb : ∀ x ∈ cl, (0 ≤ x.1 ∧ x.1 < 65536) ∧ 0 ≤ x.2 ∧ x.2 < 256 := by rw [hcl]; exact (compsP_in (s := k3s) hi3 k).2
            have hcln : cl.length = k := by rw [hcl]; exact compsP_len _ _
            have M0 : L2At w wr p q gs k (w.heap.size + 3) (.bool (b.1 == 1)) (.int .i64 c2'.1) (.int .i64 d.1) cl s2 0 := by
              obtain ⟨v, i1, i2⟩ := hL.img
              refine ⟨hL.base, by rw [hs2]; exact hL.rd, ?_, v, .slice none 0 0, i1, by rw [hcl]; exact i2, World.ownsRow_nil _ _ _ _⟩
              have := hL.sizes
              rw [Nat.sub_self, ← hcl] at this
              simpa using this
            have HM0 := Lib.hid M0
            have HCL := Lib.hid (And.intro hcl (And.intro hs2 (And.intro hclb hcln)))
            clear M0 hcl hs2 hclb hcln hL HL0
            go_wp2_with fail
            go_loopw [59] (fun i wr => ∃ j : Nat, j ≤ n2 ∧ i = .int .i64 (j : Int) ∧ L2At w wr p q gs k (w.heap.size + 3) (.bool (b.1 == 1)) (.int .i64 c2'.1) (.int .i64 d.1) cl s2 j) (fun i _ => n2 - (intOf i).toNat)
            case atStart => exact ⟨0, Nat.zero_le _, rfl, HM0.out⟩
            case round =>
              clear HM0
              obtain ⟨j, hj, rfl, hL⟩ := hrel
              by_cases hlt2 : j < n2
              · have hin := linksP_in (s := s2) hin2 j
                have hP : linksP s2 (j + 1) = ((linksP s2 j).1 ++ [⟨(oneS (linksP s2 j).2).1, (oneS (oneS (linksP s2 j).2).2).1, (twoS (oneS (oneS (linksP s2 j).2).2).2).1⟩], (twoS (oneS (oneS (linksP s2 j).2).2).2).2) := rfl
                generalize hst : linksP s2 j = st at hin hP
                obtain ⟨ll, sk⟩ := st
                simp only at hin hP
                obtain ⟨x1, hx1⟩ : ∃ a, a = oneS sk := ⟨_, rfl⟩
                obtain ⟨x2, hx2⟩ : ∃ e, e = oneS x1.2 := ⟨_, rfl⟩
                obtain ⟨x3, hx3⟩ : ∃ e, e = twoS x2.2 := ⟨_, rfl⟩
                rw [← hx1, ← hx2, ← hx3] at hP
                have hin3 : BytesIn x1.2.1 := by rw [hx1]; exact (someS_in hin).2
                have hin4 : BytesIn x2.2.1 := by rw [hx2]; exact (someS_in hin3).2
                have HL := Lib.hid hL
                have HST := Lib.hid hst
                have HP := Lib.hid hP
                have HAE := Lib.hid (And.intro hx1 (And.intro hx2 hx3))
                obtain ⟨vC, vL, hi1, hi2, hi4⟩ := hL.img
                rw [hst] at hi4
                have hrd : Rd p sk undef wr := by have := hL.rd; rw [hst] at this; exact this
                have HX := Lib.hid (And.intro hL.base (And.intro hi1 (And.intro hi2 (And.intro hi4 (And.intro hrd hL.sizes)))))
                clear hL hst hP hx1 hx2 hx3 hi1 hi2 hi4 hrd
                obtain ⟨ci, hci, hci0, hci1, hci2⟩ := info_parts infoLink
                have hXd : w.heap.size + 3 ≤ wr.drew.heap.size := (Array.getElem?_eq_some_iff.1 HX.out.1.rb).1
                go_wp2_with fail
                refine wp_region_res (Only p [62, 68, 26]) [⟨none, [], [3]⟩, ⟨some 3, [], [5]⟩, ⟨some 5, [], [7]⟩, ⟨some 7, [], []⟩, ⟨none, [], [1, 12]⟩, ⟨none, [], [10]⟩, ⟨some 9, [(9, [])], [10]⟩, ⟨some 10, [(10, [])], [12]⟩, ⟨some 12, [], []⟩] [(fun (u : Nat → Value) (W : World) => (Rd p sk) (undef) W), (fun (u : Nat → Value) (W : World) => (Rd p x1.2) (undef) W), (fun (u : Nat → Value) (W : World) => (Rd p x2.2) (undef) W), (fun (u : Nat → Value) (W : World) => (Rd p x3.2) (undef) W), (fun (u : Nat → Value) (W : World) => (fun (_ : Value) (W : World) => W.heap[q]? = some (.cells #[.bool (b.1 == 1), .int .i64 c2'.1, .int .i64 d.1, vC, vL, .slice none 0 0] 26)) (undef) W), (fun (u : Nat → Value) (W : World) => (fun (_ : Value) (W : World) => W.ownsRow (w.heap.size + 3) 68 3 vL j (ll.flatMap LinkM.cells)) (undef) W), (fun (u : Nat → Value) (W : World) => (NewLit p 1 (LinkM.cells ⟨x1.1, x2.1, x3.1⟩) 68) (u 9) W), (fun (u : Nat → Value) (W : World) => (fun (v : Value) (W : World) => W.ownsRow (w.heap.size + 3) 68 3 v (j + 1) (ll.flatMap LinkM.cells ++ LinkM.cells ⟨x1.1, x2.1, x3.1⟩)) (u 10) W), (fun (u : Nat → Value) (W : World) => (fun (_ : Value) (W : World) => ∃ v, W.heap[q]? = some (.cells #[.bool (b.1 == 1), .int .i64 c2'.1, .int .i64 d.1, vC, v, .slice none 0 0] 26) ∧ W.ownsRow (w.heap.size + 3) 68 3 v (j + 1) (ll.flatMap LinkM.cells ++ LinkM.cells ⟨x1.1, x2.1, x3.1⟩)) (undef) W)] [⟨[], [.keep, .keep, .keep, .keep, .keep, .keep, .keep, .early [1, 0], .early [0]]⟩, ⟨[(4, [])], [.keep, .keep, .keep, .keep, .keep, .keep, .keep, .early [1], .early [1]]⟩, ⟨[], [.keep, .early [2], .early [3, 2], .early [5, 3, 2], .keep, .keep, .early [8, 3, 2], .early [9, 8, 3, 2], .early [2]]⟩, ⟨[(0, [])], [.late [[]], .last, .early [3], .early [5, 3], .keep, .keep, .early [8, 3], .early [9, 8, 3], .early [3]]⟩, ⟨[], [.keep, .keep, .early [4], .early [5, 4], .keep, .keep, .early [8, 5, 4], .early [7, 5, 4], .early [4]]⟩, ⟨[(1, [3])], [.late [[3]], .late [[]], .last, .early [5], .keep, .keep, .early [8, 5], .early [7, 5], .early [5]]⟩, ⟨[], [.keep, .keep, .keep, .early [6], .keep, .keep, .early [8, 7, 6], .early [7, 6], .early [6]]⟩, ⟨[(2, [5])], [.late [[5, 3]], .late [[5]], .late [[]], .last, .keep, .keep, .early [8, 7], .early [7], .early [7]]⟩, ⟨[(3, [7])], [.late [[3]], .late [[5]], .late [[7]], .keep, .keep, .keep, .early [8], .early [9, 8], .early [8]]⟩, ⟨[(3, [8, 7])], [.late [[8, 3]], .late [[8, 5]], .late [[8, 7]], .keep, .keep, .keep, .last, .early [9], .early [9]]⟩, ⟨[(3, [7]), (5, []), (6, [9])], [.late [[9, 8, 3]], .late [[7, 5]], .late [[7]], .keep, .keep, .late [[]], .late [[]], .last, .early [10]]⟩, ⟨[(3, [7])], [.late [[3]], .late [[5]], .late [[7]], .keep, .keep, .late [[10]], .late [[10]], .keep, .early [11]]⟩, ⟨[(3, [7]), (4, []), (7, [10])], [.late [[3]], .late [[5]], .late [[7]], .keep, .late [[1], []], .late [[10]], .late [[10]], .late [[]], .last]⟩] [61, 62, 63, 64, 65, 66, 67, 68, 69, 70, 71, 72] (by kernel_rfl) (Only.refl _ _) (fun _ _ _ => Only.trans) (by kernel_rfl) (by kernel_rfl) (by kernel_rfl) (by kernel_rfl) (by kernel_rfl) ?start ?_
                case start =>
                  refine And.intro ?_ ?_
                  · exact HX.out.2.2.2.2.1
                  refine And.intro ?_ ?_
                  · exact HX.out.2.1
                  refine And.intro ?_ ?_
                  · exact HX.out.2.2.2.1
                  exact trivial
                apply ex_is; apply Exists.intro
                apply ex_is; apply Exists.intro
                apply ex_is; apply Exists.intro
                apply ex_is; apply Exists.intro
                apply ex_is; apply Exists.intro
                apply ex_is; apply Exists.intro
                apply ex_is; apply Exists.intro
                apply ex_is; apply Exists.intro
                apply ex_is; apply Exists.intro
                refine ex_phi (fun _ _ => True) ?_
                refine ex_phi (fun _ _ => True) ?_
                apply ex_is; apply Exists.intro
                refine ex_phi (fun _ _ => True) ?_
                refine ⟨[], ⟨?steps, ?stab, ?ends⟩⟩
                case steps =>
                  refine And.intro (obX_pure (Only.refl _ _) ?_) ?_
                  · intro act W hR hf ho hu K hK
                    replace hK := fun v h2 => hK v W rfl h2 trivial
                    have G : act.tmps[7]?.getD undef = _ ∧ True := ho
                    obtain ⟨g7, -⟩ := G
                    clear ho hf hu
                    go_simp
                    exact hK _ (Eq.refl _)
                  refine And.intro (obX_pure (Only.refl _ _) ?_) ?_
                  · intro act W hR hf ho hu K hK
                    replace hK := fun v h2 => hK v W rfl h2 trivial
                    have F : act.tmps[61]?.getD undef = _ ∧ True := hf
                    obtain ⟨f0, -⟩ := F
                    have U : (fun (_ : Value) (W : World) => W.heap[q]? = some (.cells #[.bool (b.1 == 1), .int .i64 c2'.1, .int .i64 d.1, vC, vL, .slice none 0 0] 26)) (undef) W ∧ True := hu
                    obtain ⟨r_im, -⟩ := U
                    clear ho hf hu
                    have cb := hR.row HX.out.1.rb (by decide); have z0 : W.cell? ⟨w.heap.size + 2, 0, none⟩ = some (.pointer (some ⟨p, 0, none⟩)) := by rw [HU.out.2]; simp [World.cell?, cb]
                    have z1 : W.cell? ⟨q, 4, none⟩ = some vL := by simp [World.cell?, r_im]
                    go_simp
                    exact hK _ (Eq.refl _)
                  refine And.intro (obX_pure (Only.refl _ _) ?_) ?_
                  · intro act W hR hf ho hu K hK
                    replace hK := fun v h2 => hK v W rfl h2 trivial
                    have G : act.tmps[4]?.getD undef = _ ∧ True := ho
                    obtain ⟨g4, -⟩ := G
                    clear ho hf hu
                    have cb := hR.row HX.out.1.rb (by decide); have z0 : W.cell? ⟨w.heap.size + 2, 0, none⟩ = some (.pointer (some ⟨p, 0, none⟩)) := by rw [HU.out.2]; simp [World.cell?, cb]
                    go_simp
                    exact hK _ (Eq.refl _)
                  refine And.intro (obX_eff (Only p [62]) (fun _ _ h => h.mono (Nat.le_refl _) (by decide)) (And.intro (fun _ _ _ h e => e.row h (by decide)) (And.intro (fun _ _ _ h e => e.own h (by decide)) (trivial))) ?_) ?_
                  · intro act W hR hf ho hu K hK
                    replace hK := fun v (w' : World) (h1 : (Only p [62]) W w') h2 (b1 : (Rd p x1.2) (undef) w') => hK v w' h1 h2 ⟨b1, trivial⟩
                    have F : act.tmps[63]?.getD undef = _ ∧ True := hf
                    obtain ⟨f2, -⟩ := F
                    have U : (Rd p sk) (undef) W ∧ True := hu
                    obtain ⟨r_rd, -⟩ := U
                    clear ho hf hu
                    go_simp
                    have HC := Lib.hid (one_s p sk W r_rd hin); rw [← HAE.out.1] at HC; refine HC.out.mono ?_; rintro _ W1 ⟨rfl, hO, hRd'⟩; exact hK _ _ hO (Eq.refl _) hRd'
                  refine And.intro (obX_pure (Only.refl _ _) ?_) ?_
                  · intro act W hR hf ho hu K hK
                    replace hK := fun v h2 => hK v W rfl h2 trivial
                    have G : act.tmps[4]?.getD undef = _ ∧ True := ho
                    obtain ⟨g4, -⟩ := G
                    clear ho hf hu
                    have cb := hR.row HX.out.1.rb (by decide); have z0 : W.cell? ⟨w.heap.size + 2, 0, none⟩ = some (.pointer (some ⟨p, 0, none⟩)) := by rw [HU.out.2]; simp [World.cell?, cb]
                    go_simp
                    exact hK _ (Eq.refl _)
                  refine And.intro (obX_eff (Only p [62]) (fun _ _ h => h.mono (Nat.le_refl _) (by decide)) (And.intro (fun _ _ _ h e => e.row h (by decide)) (And.intro (fun _ _ _ h e => e.own h (by decide)) (trivial))) ?_) ?_
                  · intro act W hR hf ho hu K hK
                    replace hK := fun v (w' : World) (h1 : (Only p [62]) W w') h2 (b2 : (Rd p x2.2) (undef) w') => hK v w' h1 h2 ⟨b2, trivial⟩
                    have F : act.tmps[65]?.getD undef = _ ∧ act.tmps[64]?.getD undef = _ ∧ True := hf
                    obtain ⟨f4, f3, -⟩ := F
                    have U : (Rd p x1.2) (undef) W ∧ True := hu
                    obtain ⟨r_rd1, -⟩ := U
                    clear ho hf hu
                    go_simp
                    have HC := Lib.hid (one_s p x1.2 W r_rd1 hin3); rw [← HAE.out.2.1] at HC; refine HC.out.mono ?_; rintro _ W1 ⟨rfl, hO, hRd'⟩; exact hK _ _ hO (Eq.refl _) hRd'
                  refine And.intro (obX_pure (Only.refl _ _) ?_) ?_
                  · intro act W hR hf ho hu K hK
                    replace hK := fun v h2 => hK v W rfl h2 trivial
                    have G : act.tmps[4]?.getD undef = _ ∧ True := ho
                    obtain ⟨g4, -⟩ := G
                    clear ho hf hu
                    have cb := hR.row HX.out.1.rb (by decide); have z0 : W.cell? ⟨w.heap.size + 2, 0, none⟩ = some (.pointer (some ⟨p, 0, none⟩)) := by rw [HU.out.2]; simp [World.cell?, cb]
                    go_simp
                    exact hK _ (Eq.refl _)
                  refine And.intro (obX_eff (Only p [62]) (fun _ _ h => h.mono (Nat.le_refl _) (by decide)) (And.intro (fun _ _ _ h e => e.row h (by decide)) (And.intro (fun _ _ _ h e => e.own h (by decide)) (trivial))) ?_) ?_
                  · intro act W hR hf ho hu K hK
                    replace hK := fun v (w' : World) (h1 : (Only p [62]) W w') h2 (b3 : (Rd p x3.2) (undef) w') => hK v w' h1 h2 ⟨b3, trivial⟩
                    have F : act.tmps[67]?.getD undef = _ ∧ act.tmps[66]?.getD undef = _ ∧ True := hf
                    obtain ⟨f6, f5, -⟩ := F
                    have U : (Rd p x2.2) (undef) W ∧ True := hu
                    obtain ⟨r_rd2, -⟩ := U
                    clear ho hf hu
                    go_simp
                    have HC := Lib.hid (two_s p x2.2 W r_rd2 hin4); rw [← HAE.out.2.2] at HC; refine HC.out.mono ?_; rintro _ W1 ⟨rfl, hO, hRd'⟩; exact hK _ _ hO (Eq.refl _) hRd'
                  refine And.intro (obX_pure (Only.refl _ _) ?_) ?_
                  · intro act W hR hf ho hu K hK
                    replace hK := fun v h2 => hK v W rfl h2 trivial
                    have F : act.tmps[64]?.getD undef = _ ∧ act.tmps[66]?.getD undef = _ ∧ act.tmps[68]?.getD undef = _ ∧ True := hf
                    obtain ⟨f3, f5, f7, -⟩ := F
                    have U : (Rd p x3.2) (undef) W ∧ True := hu
                    obtain ⟨r_rd3, -⟩ := U
                    clear ho hf hu
                    go_simp
                    exact hK _ (Eq.refl _)
                  refine And.intro (obX_eff (Ext) (fun _ _ h => Only.ext h) (And.intro (fun _ _ _ h e => RdAt.ext h e) (And.intro (fun _ _ _ h e => (Only.ext e).row (T := []) (B := 0) h (by simp)) (And.intro (fun _ _ _ h e => own_ext h e) (trivial)))) ?_) ?_
                  · intro act W hR hf ho hu K hK
                    replace hK := fun v (w' : World) (h1 : (Ext) W w') (b6 : (NewLit p 1 (LinkM.cells ⟨x1.1, x2.1, x3.1⟩) 68) (v) w') => hK v w' h1 trivial ⟨b6, trivial⟩
                    have F : act.tmps[69]?.getD undef = _ ∧ True := hf
                    obtain ⟨f8, -⟩ := F
                    have U : (Rd p x3.2) (undef) W ∧ True := hu
                    obtain ⟨r_rd3, -⟩ := U
                    clear ho hf hu
                    go_simp
                    exact hK _ _ (by repeat first | (with_reducible exact Below.refl _ _) | (with_reducible apply Ext.alloc) | (with_reducible apply Ext.drew) | (with_reducible apply Ext.drewN) | (with_reducible refine Ext.set ?_ (by simp))) (NewLit.new (by have := hR.size; have := HU.out.2; omega))
                  refine And.intro (obX_eff (Only p [68]) (fun _ _ h => h.mono (Nat.le_refl _) (by decide)) (And.intro (fun _ _ _ h e => h.only e (Nat.le_refl _) (by decide)) (And.intro (fun _ _ _ h e => e.row h (by decide)) (trivial))) ?_) ?_
                  · intro act W hR hf ho hu K hK
                    replace hK := fun v (w' : World) (h1 : (Only p [68]) W w') (b7 : (fun (v : Value) (W : World) => W.ownsRow (w.heap.size + 3) 68 3 v (j + 1) (ll.flatMap LinkM.cells ++ LinkM.cells ⟨x1.1, x2.1, x3.1⟩)) (v) w') => hK v w' h1 trivial ⟨b7, trivial⟩
                    have F : act.tmps[62]?.getD undef = _ ∧ (fun _ _ => True) (act.tmps[70]?.getD undef) W ∧ act.tmps[68]?.getD undef = _ ∧ True := hf
                    obtain ⟨f1, -, f7, -⟩ := F
                    have U : (Rd p x3.2) (undef) W ∧ (fun (_ : Value) (W : World) => W.ownsRow (w.heap.size + 3) 68 3 vL j (ll.flatMap LinkM.cells)) (undef) W ∧ (NewLit p 1 (LinkM.cells ⟨x1.1, x2.1, x3.1⟩) 68) (act.tmps[70]?.getD undef) W ∧ True := hu
                    obtain ⟨r_rd3, r_row, r_n5, -⟩ := U
                    generalize f9 : act.tmps[70]?.getD undef = v9 at r_n5
                    clear ho hf hu
                    obtain ⟨b5, rfl, hb5, hl5⟩ := r_n5; have hWp : w.heap.size + 3 ≤ W.heap.size := by have := hR.size; have := HU.out.2; omega
                    dsimp only [Option.elim] at f1
                    dsimp only [Option.elim] at f7
                    rw [← seen_eq]; refine step_append_src W rfl (.tmp 62) (.tmp 70) 23 rfl (w.heap.size + 3) 68 ci (.agg #[.int .i64 0, .int .i64 0, .int .i64 0]) 3 24 Try.underlying23 hci hci0 hci1 hci2 rfl (by decide) _ _ _ (eval_get f1) r_row _ 1 (LinkM.cells ⟨x1.1, x2.1, x3.1⟩) (eval_get f9) (lies_lit hl5) rfl (by simp [Value.oneCell']) (by unfold maxLen; omega) (by omega) hWp ?_; intro v' w' ho' hg' _; exact hK _ _ (Only.grown (own_low r_row (by have := HU.out.2; omega)) hg' (by simp)) ho'
                  refine And.intro (obX_pure (Only.refl _ _) ?_) ?_
                  · intro act W hR hf ho hu K hK
                    replace hK := fun v h2 => hK v W rfl h2 trivial
                    have G : act.tmps[7]?.getD undef = _ ∧ True := ho
                    obtain ⟨g7, -⟩ := G
                    have F : act.tmps[61]?.getD undef = _ ∧ act.tmps[62]?.getD undef = _ ∧ act.tmps[63]?.getD undef = _ ∧ act.tmps[64]?.getD undef = _ ∧ act.tmps[65]?.getD undef = _ ∧ act.tmps[66]?.getD undef = _ ∧ act.tmps[67]?.getD undef = _ ∧ act.tmps[68]?.getD undef = _ ∧ act.tmps[69]?.getD undef = _ ∧ (fun _ _ => True) (act.tmps[70]?.getD undef) W ∧ (fun _ _ => True) (act.tmps[71]?.getD undef) W ∧ True := hf
                    obtain ⟨f0, f1, f2, f3, f4, f5, f6, f7, f8, -, -, -⟩ := F
                    have U : (Rd p x3.2) (undef) W ∧ True := hu
                    obtain ⟨r_rd3, -⟩ := U
                    generalize f9 : act.tmps[70]?.getD undef = v9
                    generalize f10 : act.tmps[71]?.getD undef = v10
                    clear ho hf hu
                    go_simp
                    exact hK _ (Eq.refl _)
                  refine And.intro (obX_eff (Only p [26]) (fun _ _ h => h.mono (Nat.le_refl _) (by decide)) (And.intro (fun _ _ _ h e => h.only e (Nat.le_refl _) (by decide)) (trivial)) ?_) ?_
                  · intro act W hR hf ho hu K hK
                    replace hK := fun (w' : World) (h1 : (Only p [26]) W w') (b8 : (fun (_ : Value) (W : World) => ∃ v, W.heap[q]? = some (.cells #[.bool (b.1 == 1), .int .i64 c2'.1, .int .i64 d.1, vC, v, .slice none 0 0] 26) ∧ W.ownsRow (w.heap.size + 3) 68 3 v (j + 1) (ll.flatMap LinkM.cells ++ LinkM.cells ⟨x1.1, x2.1, x3.1⟩)) (undef) w') => hK undef w' h1 trivial ⟨b8, trivial⟩
                    have F : act.tmps[72]?.getD undef = _ ∧ (fun _ _ => True) (act.tmps[71]?.getD undef) W ∧ (fun _ _ => True) (act.tmps[71]?.getD undef) W ∧ act.tmps[61]?.getD undef = _ ∧ act.tmps[62]?.getD undef = _ ∧ act.tmps[63]?.getD undef = _ ∧ act.tmps[64]?.getD undef = _ ∧ act.tmps[65]?.getD undef = _ ∧ act.tmps[66]?.getD undef = _ ∧ act.tmps[67]?.getD undef = _ ∧ act.tmps[68]?.getD undef = _ ∧ act.tmps[69]?.getD undef = _ ∧ (fun _ _ => True) (act.tmps[70]?.getD undef) W ∧ (fun _ _ => True) (act.tmps[71]?.getD undef) W ∧ True := hf
                    obtain ⟨f11, -, -, f0, f1, f2, f3, f4, f5, f6, f7, f8, -, -, -⟩ := F
                    have U : (Rd p x3.2) (undef) W ∧ (fun (_ : Value) (W : World) => W.heap[q]? = some (.cells #[.bool (b.1 == 1), .int .i64 c2'.1, .int .i64 d.1, vC, vL, .slice none 0 0] 26)) (undef) W ∧ (fun (v : Value) (W : World) => W.ownsRow (w.heap.size + 3) 68 3 v (j + 1) (ll.flatMap LinkM.cells ++ LinkM.cells ⟨x1.1, x2.1, x3.1⟩)) (act.tmps[71]?.getD undef) W ∧ True := hu
                    obtain ⟨r_rd3, r_im, r_r6, -⟩ := U
                    generalize f10 : act.tmps[71]?.getD undef = v10 at r_r6
                    generalize f9 : act.tmps[70]?.getD undef = v9
                    clear ho hf hu
                    obtain ⟨A6, c6, rfl, -, -⟩ := Arr.own r_r6; have z3 : W.cell? ⟨q, 4, none⟩ = some vL := (by simp [World.cell?, r_im]); have fz := frozen_row r_im; have hst := set_row (o := 4) r_im (.slice A6 (j + 1) c6); have hso := Only.set (o := 4) (T := [26]) r_im (B := p) (by have := HU.out.2; omega) (by simp) (.slice A6 (j + 1) c6); have HST2 := Lib.hid (And.intro hst hso); clear hst hso
                    go_simp
                    exact hK _ HST2.out.2 ⟨_, HST2.out.1, HST2.out.2.own r_r6 (by decide)⟩
                  exact trivial
                case stab =>
                  refine And.intro is_stable ?_
                  refine And.intro is_stable ?_
                  refine And.intro is_stable ?_
                  refine And.intro is_stable ?_
                  refine And.intro is_stable ?_
                  refine And.intro is_stable ?_
                  refine And.intro is_stable ?_
                  refine And.intro is_stable ?_
                  refine And.intro is_stable ?_
                  refine And.intro (fun _ _ _ h _ => h) ?_
                  refine And.intro (fun _ _ _ h _ => h) ?_
                  refine And.intro is_stable ?_
                  refine And.intro (fun _ _ _ h _ => h) ?_
                  exact trivial
                case ends =>
                  intro vals W hR hE hall
                  have E : (Rd p x3.2) (undef) W ∧ (fun (_ : Value) (W : World) => ∃ v, W.heap[q]? = some (.cells #[.bool (b.1 == 1), .int .i64 c2'.1, .int .i64 d.1, vC, v, .slice none 0 0] 26) ∧ W.ownsRow (w.heap.size + 3) 68 3 v (j + 1) (ll.flatMap LinkM.cells ++ LinkM.cells ⟨x1.1, x2.1, x3.1⟩)) (undef) W ∧ True := hE
                  obtain ⟨e_rd3, e_fin, -⟩ := E
                  clear hE
                  clear hall
                  simp only [fill, List.setIfInBounds_toArray, List.set_cons_succ, List.set_cons_zero]
                  have hBW : Base w W := (HX.out.1.only (T := [62]) (Only.drew (Only.refl _ _ _)) (by decide)).only (by rw [← HU.out.2]; exact hR) (by decide)
                  obtain ⟨vF, hF1, hF2⟩ := e_fin
                  have hsW := hR.row HX.out.2.2.2.2.2 (by decide)
                  have hcW := hR.own (World.ownsRow.drew HX.out.2.2.1) (by decide)
                  have LW : L2At w W p q gs k (w.heap.size + 3) (.bool (b.1 == 1)) (.int .i64 c2'.1) (.int .i64 d.1) cl s2 (j + 1) := by
                    refine ⟨hBW, ?_, hsW, vC, vF, hF1, hcW, ?_⟩
                    · rw [HP.out]; exact e_rd3
                    · rw [HP.out]; simpa using hF2
                  clear hBW hF1 hF2 hsW hcW e_rd3 hR
                  go_wp2_with fail
                  exact ⟨⟨j + 1, by omega, by simp, LW⟩, by simp [intOf]; omega⟩
              · obtain rfl : j = n2 := by omega
                obtain ⟨ll, hll⟩ : ∃ ll, ll = (linksP s2 j).1 := ⟨_, rfl⟩
                obtain ⟨s3, hs3⟩ : ∃ s, s = (linksP s2 j).2 := ⟨_, rfl⟩
                have hin3 : BytesIn s3.1 := by rw [hs3]; exact linksP_in (s := s2) hin2 j
                have N0 : L3At w wr p q gs k j (w.heap.size + 3) (.bool (b.1 == 1)) (.int .i64 c2'.1) (.int .i64 d.1) cl ll s3 0 := by
                  obtain ⟨v, u, i1, i2, i3⟩ := hL.img
                  exact ⟨hL.base, by rw [hs3]; exact hL.rd, hL.sizes, v, u, .slice none 0 0, i1, i2, by rw [hll]; exact i3, World.ownsRow_nil _ _ _ _⟩
                have HN0 := Lib.hid N0
                have HLL := Lib.hid (And.intro hll hs3)
                clear N0 hll hs3 hL
                go_wp2_with fail
                go_loopw [75] (fun i wr => ∃ h : Nat, h ≤ n3 ∧ i = .int .i64 (h : Int) ∧ L3At w wr p q gs k j (w.heap.size + 3) (.bool (b.1 == 1)) (.int .i64 c2'.1) (.int .i64 d.1) cl ll s3 h) (fun i _ => n3 - (intOf i).toNat)
                case atStart => exact ⟨0, Nat.zero_le _, rfl, HN0.out⟩
                case round =>
                  clear HN0
                  obtain ⟨h, hh, rfl, hL⟩ := hrel
                  by_cases hlt3 : h < n3
                  · have hin := sharesP_in (s := s3) hin3 h
                    have hP : sharesP s3 (h + 1) = ((sharesP s3 h).1 ++ [⟨(oneS (sharesP s3 h).2).1, (oneS (oneS (sharesP s3 h).2).2).1⟩], (oneS (oneS (sharesP s3 h).2).2).2) := rfl
                    generalize hst : sharesP s3 h = st at hin hP
                    obtain ⟨sl, sk⟩ := st
                    simp only at hin hP
                    obtain ⟨x1, hx1⟩ : ∃ a, a = oneS sk := ⟨_, rfl⟩
                    obtain ⟨x2, hx2⟩ : ∃ e, e = oneS x1.2 := ⟨_, rfl⟩
                    rw [← hx1, ← hx2] at hP
                    have hin4 : BytesIn x1.2.1 := by rw [hx1]; exact (someS_in hin).2
                    have HST := Lib.hid hst
                    have HP := Lib.hid hP
                    have HAE := Lib.hid (And.intro hx1 hx2)
                    obtain ⟨vC, vL, vS, hi1, hi2, hi4, hi5⟩ := hL.img
                    rw [hst] at hi5
                    have hrd : Rd p sk undef wr := by have := hL.rd; rw [hst] at this; exact this
                    have HX := Lib.hid (And.intro hL.base (And.intro hi1 (And.intro hi2 (And.intro hi4 (And.intro hrd (And.intro hL.sizes hi5))))))
                    clear hL hst hP hx1 hx2 hi1 hi2 hi4 hi5 hrd
                    obtain ⟨ci, hci, hci0, hci1, hci2⟩ := info_parts infoShare
                    have hXd : w.heap.size + 3 ≤ wr.drew.heap.size := (Array.getElem?_eq_some_iff.1 HX.out.1.rb).1
                    go_wp2_with fail
                    refine wp_region_res (Only p [62, 70, 26]) [⟨none, [], [3]⟩, ⟨some 3, [], [5]⟩, ⟨some 5, [], []⟩, ⟨none, [], [1, 10]⟩, ⟨none, [], [8]⟩, ⟨some 7, [(7, [])], [8]⟩, ⟨some 8, [(8, [])], [10]⟩, ⟨some 10, [], []⟩] [(fun (u : Nat → Value) (W : World) => (Rd p sk) (undef) W), (fun (u : Nat → Value) (W : World) => (Rd p x1.2) (undef) W), (fun (u : Nat → Value) (W : World) => (Rd p x2.2) (undef) W), (fun (u : Nat → Value) (W : World) => (fun (_ : Value) (W : World) => W.heap[q]? = some (.cells #[.bool (b.1 == 1), .int .i64 c2'.1, .int .i64 d.1, vC, vL, vS] 26)) (undef) W), (fun (u : Nat → Value) (W : World) => (fun (_ : Value) (W : World) => W.ownsRow (w.heap.size + 3) 70 2 vS h (sl.flatMap ShareM.cells)) (undef) W), (fun (u : Nat → Value) (W : World) => (NewLit p 1 (ShareM.cells ⟨x1.1, x2.1⟩) 70) (u 7) W), (fun (u : Nat → Value) (W : World) => (fun (v : Value) (W : World) => W.ownsRow (w.heap.size + 3) 70 2 v (h + 1) (sl.flatMap ShareM.cells ++ ShareM.cells ⟨x1.1, x2.1⟩)) (u 8) W), (fun (u : Nat → Value) (W : World) => (fun (_ : Value) (W : World) => ∃ v, W.heap[q]? = some (.cells #[.bool (b.1 == 1), .int .i64 c2'.1, .int .i64 d.1, vC, vL, v] 26) ∧ W.ownsRow (w.heap.size + 3) 70 2 v (h + 1) (sl.flatMap ShareM.cells ++ ShareM.cells ⟨x1.1, x2.1⟩)) (undef) W)] [⟨[], [.keep, .keep, .keep, .keep, .keep, .keep, .early [1, 0], .early [0]]⟩, ⟨[(3, [])], [.keep, .keep, .keep, .keep, .keep, .keep, .early [1], .early [1]]⟩, ⟨[], [.keep, .early [2], .early [3, 2], .keep, .keep, .early [6, 3, 2], .early [5, 3, 2], .early [2]]⟩, ⟨[(0, [])], [.late [[]], .last, .early [3], .keep, .keep, .early [6, 3], .early [5, 3], .early [3]]⟩, ⟨[], [.keep, .keep, .early [4], .keep, .keep, .early [6, 5, 4], .early [5, 4], .early [4]]⟩, ⟨[(1, [3])], [.late [[3]], .late [[]], .last, .keep, .keep, .early [6, 5], .early [5], .early [5]]⟩, ⟨[(2, [5])], [.late [[3]], .late [[5]], .keep, .keep, .keep, .early [6], .early [7, 6], .early [6]]⟩, ⟨[(2, [6, 5])], [.late [[6, 3]], .late [[6, 5]], .keep, .keep, .keep, .last, .early [7], .early [7]]⟩, ⟨[(2, [5]), (4, []), (5, [7])], [.late [[5, 3]], .late [[5]], .keep, .keep, .late [[]], .late [[]], .last, .early [8]]⟩, ⟨[(2, [5])], [.late [[3]], .late [[5]], .keep, .keep, .late [[8]], .late [[8]], .keep, .early [9]]⟩, ⟨[(2, [5]), (3, []), (6, [8])], [.late [[3]], .late [[5]], .keep, .late [[1], []], .late [[8]], .late [[8]], .late [[]], .last]⟩] [77, 78, 79, 80, 81, 82, 83, 84, 85, 86] (by kernel_rfl) (Only.refl _ _) (fun _ _ _ => Only.trans) (by kernel_rfl) (by kernel_rfl) (by kernel_rfl) (by kernel_rfl) (by kernel_rfl) ?start ?_
                    case start =>
                      refine And.intro ?_ ?_
                      · exact HX.out.2.2.2.2.1
                      refine And.intro ?_ ?_
                      · exact HX.out.2.1
                      refine And.intro ?_ ?_
                      · exact HX.out.2.2.2.2.2.2
                      exact trivial
                    apply ex_is; apply Exists.intro
                    apply ex_is; apply Exists.intro
                    apply ex_is; apply Exists.intro
                    apply ex_is; apply Exists.intro
                    apply ex_is; apply Exists.intro
                    apply ex_is; apply Exists.intro
                    apply ex_is; apply Exists.intro
                    refine ex_phi (fun _ _ => True) ?_
                    refine ex_phi (fun _ _ => True) ?_
                    apply ex_is; apply Exists.intro
                    refine ex_phi (fun _ _ => True) ?_
                    refine ⟨[], ⟨?steps, ?stab, ?ends⟩⟩
                    case steps =>
                      refine And.intro (obX_pure (Only.refl _ _) ?_) ?_
                      · intro act W hR hf ho hu K hK
                        replace hK := fun v h2 => hK v W rfl h2 trivial
                        have G : act.tmps[7]?.getD undef = _ ∧ True := ho
                        obtain ⟨g7, -⟩ := G
                        clear ho hf hu
                        go_simp
                        exact hK _ (Eq.refl _)
                      refine And.intro (obX_pure (Only.refl _ _) ?_) ?_
                      · intro act W hR hf ho hu K hK
                        replace hK := fun v h2 => hK v W rfl h2 trivial
                        have F : act.tmps[77]?.getD undef = _ ∧ True := hf
                        obtain ⟨f0, -⟩ := F
                        have U : (fun (_ : Value) (W : World) => W.heap[q]? = some (.cells #[.bool (b.1 == 1), .int .i64 c2'.1, .int .i64 d.1, vC, vL, vS] 26)) (undef) W ∧ True := hu
                        obtain ⟨r_im, -⟩ := U
                        clear ho hf hu
                        have cb := hR.row HX.out.1.rb (by decide); have z0 : W.cell? ⟨w.heap.size + 2, 0, none⟩ = some (.pointer (some ⟨p, 0, none⟩)) := by rw [HU.out.2]; simp [World.cell?, cb]
                        have z1 : W.cell? ⟨q, 5, none⟩ = some vS := by simp [World.cell?, r_im]
                        go_simp
                        exact hK _ (Eq.refl _)
                      refine And.intro (obX_pure (Only.refl _ _) ?_) ?_
                      · intro act W hR hf ho hu K hK
                        replace hK := fun v h2 => hK v W rfl h2 trivial
                        have G : act.tmps[4]?.getD undef = _ ∧ True := ho
                        obtain ⟨g4, -⟩ := G
                        clear ho hf hu
                        have cb := hR.row HX.out.1.rb (by decide); have z0 : W.cell? ⟨w.heap.size + 2, 0, none⟩ = some (.pointer (some ⟨p, 0, none⟩)) := by rw [HU.out.2]; simp [World.cell?, cb]
                        go_simp
                        exact hK _ (Eq.refl _)
                      refine And.intro (obX_eff (Only p [62]) (fun _ _ h => h.mono (Nat.le_refl _) (by decide)) (And.intro (fun _ _ _ h e => e.row h (by decide)) (And.intro (fun _ _ _ h e => e.own h (by decide)) (trivial))) ?_) ?_
                      · intro act W hR hf ho hu K hK
                        replace hK := fun v (w' : World) (h1 : (Only p [62]) W w') h2 (b1 : (Rd p x1.2) (undef) w') => hK v w' h1 h2 ⟨b1, trivial⟩
                        have F : act.tmps[79]?.getD undef = _ ∧ True := hf
                        obtain ⟨f2, -⟩ := F
                        have U : (Rd p sk) (undef) W ∧ True := hu
                        obtain ⟨r_rd, -⟩ := U
                        clear ho hf hu
                        go_simp
                        have HC := Lib.hid (one_s p sk W r_rd hin); rw [← HAE.out.1] at HC; refine HC.out.mono ?_; rintro _ W1 ⟨rfl, hO, hRd'⟩; exact hK _ _ hO (Eq.refl _) hRd'
                      refine And.intro (obX_pure (Only.refl _ _) ?_) ?_
                      · intro act W hR hf ho hu K hK
                        replace hK := fun v h2 => hK v W rfl h2 trivial
                        have G : act.tmps[4]?.getD undef = _ ∧ True := ho
                        obtain ⟨g4, -⟩ := G
                        clear ho hf hu
                        have cb := hR.row HX.out.1.rb (by decide); have z0 : W.cell? ⟨w.heap.size + 2, 0, none⟩ = some (.pointer (some ⟨p, 0, none⟩)) := by rw [HU.out.2]; simp [World.cell?, cb]
                        go_simp
                        exact hK _ (Eq.refl _)
                      refine And.intro (obX_eff (Only p [62]) (fun _ _ h => h.mono (Nat.le_refl _) (by decide)) (And.intro (fun _ _ _ h e => e.row h (by decide)) (And.intro (fun _ _ _ h e => e.own h (by decide)) (trivial))) ?_) ?_
                      · intro act W hR hf ho hu K hK
                        replace hK := fun v (w' : World) (h1 : (Only p [62]) W w') h2 (b2 : (Rd p x2.2) (undef) w') => hK v w' h1 h2 ⟨b2, trivial⟩
                        have F : act.tmps[81]?.getD undef = _ ∧ act.tmps[80]?.getD undef = _ ∧ True := hf
                        obtain ⟨f4, f3, -⟩ := F
                        have U : (Rd p x1.2) (undef) W ∧ True := hu
                        obtain ⟨r_rd1, -⟩ := U
                        clear ho hf hu
                        go_simp
                        have HC := Lib.hid (one_s p x1.2 W r_rd1 hin4); rw [← HAE.out.2] at HC; refine HC.out.mono ?_; rintro _ W1 ⟨rfl, hO, hRd'⟩; exact hK _ _ hO (Eq.refl _) hRd'
                      refine And.intro (obX_pure (Only.refl _ _) ?_) ?_
                      · intro act W hR hf ho hu K hK
                        replace hK := fun v h2 => hK v W rfl h2 trivial
                        have F : act.tmps[80]?.getD undef = _ ∧ act.tmps[82]?.getD undef = _ ∧ True := hf
                        obtain ⟨f3, f5, -⟩ := F
                        have U : (Rd p x2.2) (undef) W ∧ True := hu
                        obtain ⟨r_rd2, -⟩ := U
                        clear ho hf hu
                        go_simp
                        exact hK _ (Eq.refl _)
                      refine And.intro (obX_eff (Ext) (fun _ _ h => Only.ext h) (And.intro (fun _ _ _ h e => RdAt.ext h e) (And.intro (fun _ _ _ h e => (Only.ext e).row (T := []) (B := 0) h (by simp)) (And.intro (fun _ _ _ h e => own_ext h e) (trivial)))) ?_) ?_
                      · intro act W hR hf ho hu K hK
                        replace hK := fun v (w' : World) (h1 : (Ext) W w') (b5 : (NewLit p 1 (ShareM.cells ⟨x1.1, x2.1⟩) 70) (v) w') => hK v w' h1 trivial ⟨b5, trivial⟩
                        have F : act.tmps[83]?.getD undef = _ ∧ True := hf
                        obtain ⟨f6, -⟩ := F
                        have U : (Rd p x2.2) (undef) W ∧ True := hu
                        obtain ⟨r_rd2, -⟩ := U
                        clear ho hf hu
                        go_simp
                        exact hK _ _ (by repeat first | (with_reducible exact Below.refl _ _) | (with_reducible apply Ext.alloc) | (with_reducible apply Ext.drew) | (with_reducible apply Ext.drewN) | (with_reducible refine Ext.set ?_ (by simp))) (NewLit.new (by have := hR.size; have := HU.out.2; omega))
                      refine And.intro (obX_eff (Only p [70]) (fun _ _ h => h.mono (Nat.le_refl _) (by decide)) (And.intro (fun _ _ _ h e => h.only e (Nat.le_refl _) (by decide)) (And.intro (fun _ _ _ h e => e.row h (by decide)) (trivial))) ?_) ?_
                      · intro act W hR hf ho hu K hK
                        replace hK := fun v (w' : World) (h1 : (Only p [70]) W w') (b6 : (fun (v : Value) (W : World) => W.ownsRow (w.heap.size + 3) 70 2 v (h + 1) (sl.flatMap ShareM.cells ++ ShareM.cells ⟨x1.1, x2.1⟩)) (v) w') => hK v w' h1 trivial ⟨b6, trivial⟩
                        have F : act.tmps[78]?.getD undef = _ ∧ (fun _ _ => True) (act.tmps[84]?.getD undef) W ∧ act.tmps[82]?.getD undef = _ ∧ True := hf
                        obtain ⟨f1, -, f5, -⟩ := F
                        have U : (Rd p x2.2) (undef) W ∧ (fun (_ : Value) (W : World) => W.ownsRow (w.heap.size + 3) 70 2 vS h (sl.flatMap ShareM.cells)) (undef) W ∧ (NewLit p 1 (ShareM.cells ⟨x1.1, x2.1⟩) 70) (act.tmps[84]?.getD undef) W ∧ True := hu
                        obtain ⟨r_rd2, r_row, r_n5, -⟩ := U
                        generalize f7 : act.tmps[84]?.getD undef = v7 at r_n5
                        clear ho hf hu
                        obtain ⟨b5, rfl, hb5, hl5⟩ := r_n5; have hWp : w.heap.size + 3 ≤ W.heap.size := by have := hR.size; have := HU.out.2; omega
                        dsimp only [Option.elim] at f1
                        dsimp only [Option.elim] at f5
                        rw [← seen_eq]; refine step_append_src W rfl (.tmp 78) (.tmp 84) 24 rfl (w.heap.size + 3) 70 ci (.agg #[.int .i64 0, .int .i64 0]) 2 16 Try.underlying24 hci hci0 hci1 hci2 rfl (by decide) _ _ _ (eval_get f1) r_row _ 1 (ShareM.cells ⟨x1.1, x2.1⟩) (eval_get f7) (lies_lit hl5) rfl (by simp [Value.oneCell']) (by unfold maxLen; omega) (by omega) hWp ?_; intro v' w' ho' hg' _; exact hK _ _ (Only.grown (own_low r_row (by have := HU.out.2; omega)) hg' (by simp)) ho'
                      refine And.intro (obX_pure (Only.refl _ _) ?_) ?_
                      · intro act W hR hf ho hu K hK
                        replace hK := fun v h2 => hK v W rfl h2 trivial
                        have G : act.tmps[7]?.getD undef = _ ∧ True := ho
                        obtain ⟨g7, -⟩ := G
                        have F : act.tmps[77]?.getD undef = _ ∧ act.tmps[78]?.getD undef = _ ∧ act.tmps[79]?.getD undef = _ ∧ act.tmps[80]?.getD undef = _ ∧ act.tmps[81]?.getD undef = _ ∧ act.tmps[82]?.getD undef = _ ∧ act.tmps[83]?.getD undef = _ ∧ (fun _ _ => True) (act.tmps[84]?.getD undef) W ∧ (fun _ _ => True) (act.tmps[85]?.getD undef) W ∧ True := hf
                        obtain ⟨f0, f1, f2, f3, f4, f5, f6, -, -, -⟩ := F
                        have U : (Rd p x2.2) (undef) W ∧ True := hu
                        obtain ⟨r_rd2, -⟩ := U
                        generalize f7 : act.tmps[84]?.getD undef = v7
                        generalize f8 : act.tmps[85]?.getD undef = v8
                        clear ho hf hu
                        go_simp
                        exact hK _ (Eq.refl _)
                      refine And.intro (obX_eff (Only p [26]) (fun _ _ h => h.mono (Nat.le_refl _) (by decide)) (And.intro (fun _ _ _ h e => h.only e (Nat.le_refl _) (by decide)) (trivial)) ?_) ?_
                      · intro act W hR hf ho hu K hK
                        replace hK := fun (w' : World) (h1 : (Only p [26]) W w') (b7 : (fun (_ : Value) (W : World) => ∃ v, W.heap[q]? = some (.cells #[.bool (b.1 == 1), .int .i64 c2'.1, .int .i64 d.1, vC, vL, v] 26) ∧ W.ownsRow (w.heap.size + 3) 70 2 v (h + 1) (sl.flatMap ShareM.cells ++ ShareM.cells ⟨x1.1, x2.1⟩)) (undef) w') => hK undef w' h1 trivial ⟨b7, trivial⟩
                        have F : act.tmps[86]?.getD undef = _ ∧ (fun _ _ => True) (act.tmps[85]?.getD undef) W ∧ (fun _ _ => True) (act.tmps[85]?.getD undef) W ∧ act.tmps[77]?.getD undef = _ ∧ act.tmps[78]?.getD undef = _ ∧ act.tmps[79]?.getD undef = _ ∧ act.tmps[80]?.getD undef = _ ∧ act.tmps[81]?.getD undef = _ ∧ act.tmps[82]?.getD undef = _ ∧ act.tmps[83]?.getD undef = _ ∧ (fun _ _ => True) (act.tmps[84]?.getD undef) W ∧ (fun _ _ => True) (act.tmps[85]?.getD undef) W ∧ True := hf
                        obtain ⟨f9, -, -, f0, f1, f2, f3, f4, f5, f6, -, -, -⟩ := F
                        have U : (Rd p x2.2) (undef) W ∧ (fun (_ : Value) (W : World) => W.heap[q]? = some (.cells #[.bool (b.1 == 1), .int .i64 c2'.1, .int .i64 d.1, vC, vL, vS] 26)) (undef) W ∧ (fun (v : Value) (W : World) => W.ownsRow (w.heap.size + 3) 70 2 v (h + 1) (sl.flatMap ShareM.cells ++ ShareM.cells ⟨x1.1, x2.1⟩)) (act.tmps[85]?.getD undef) W ∧ True := hu
                        obtain ⟨r_rd2, r_im, r_r6, -⟩ := U
                        generalize f8 : act.tmps[85]?.getD undef = v8 at r_r6
                        generalize f7 : act.tmps[84]?.getD undef = v7
                        clear ho hf hu
                        obtain ⟨A6, c6, rfl, -, -⟩ := Arr.own r_r6; have z3 : W.cell? ⟨q, 5, none⟩ = some vS := (by simp [World.cell?, r_im]); have fz := frozen_row r_im; have hst := set_row (o := 5) r_im (.slice A6 (h + 1) c6); have hso := Only.set (o := 5) (T := [26]) r_im (B := p) (by have := HU.out.2; omega) (by simp) (.slice A6 (h + 1) c6); have HST2 := Lib.hid (And.intro hst hso); clear hst hso
                        go_simp
                        exact hK _ HST2.out.2 ⟨_, HST2.out.1, HST2.out.2.own r_r6 (by decide)⟩
                      exact trivial
                    case stab =>
                      refine And.intro is_stable ?_
                      refine And.intro is_stable ?_
                      refine And.intro is_stable ?_
                      refine And.intro is_stable ?_
                      refine And.intro is_stable ?_
                      refine And.intro is_stable ?_
                      refine And.intro is_stable ?_
                      refine And.intro (fun _ _ _ h _ => h) ?_
                      refine And.intro (fun _ _ _ h _ => h) ?_
                      refine And.intro is_stable ?_
                      refine And.intro (fun _ _ _ h _ => h) ?_
                      exact trivial
                    case ends =>
                      intro vals W hR hE hall
                      have E : (Rd p x2.2) (undef) W ∧ (fun (_ : Value) (W : World) => ∃ v, W.heap[q]? = some (.cells #[.bool (b.1 == 1), .int .i64 c2'.1, .int .i64 d.1, vC, vL, v] 26) ∧ W.ownsRow (w.heap.size + 3) 70 2 v (h + 1) (sl.flatMap ShareM.cells ++ ShareM.cells ⟨x1.1, x2.1⟩)) (undef) W ∧ True := hE
                      obtain ⟨e_rd2, e_fin, -⟩ := E
                      clear hE
                      clear hall
                      simp only [fill, List.setIfInBounds_toArray, List.set_cons_succ, List.set_cons_zero]
                      have hBW : Base w W := (HX.out.1.only (T := [62]) (Only.drew (Only.refl _ _ _)) (by decide)).only (by rw [← HU.out.2]; exact hR) (by decide)
                      obtain ⟨vF, hF1, hF2⟩ := e_fin
                      have hsW := hR.row HX.out.2.2.2.2.2.1 (by decide)
                      have hcW := hR.own (World.ownsRow.drew HX.out.2.2.1) (by decide)
                      have hlW := hR.own (World.ownsRow.drew HX.out.2.2.2.1) (by decide)
                      have LW : L3At w W p q gs k j (w.heap.size + 3) (.bool (b.1 == 1)) (.int .i64 c2'.1) (.int .i64 d.1) cl ll s3 (h + 1) := by
                        refine ⟨hBW, ?_, hsW, vC, vL, vF, hF1, hcW, hlW, ?_⟩
                        · rw [HP.out]; exact e_rd2
                        · rw [HP.out]; simpa using hF2
                      clear hBW hF1 hF2 hsW hcW hlW e_rd2 hR
                      go_wp2_with fail
                      exact ⟨⟨h + 1, by omega, by simp, LW⟩, by simp [intOf]; omega⟩
                  · obtain rfl : h = n3 := by omega
                    obtain ⟨sl, hsl⟩ : ∃ ll, ll = (sharesP s3 h).1 := ⟨_, rfl⟩
                    obtain ⟨s4, hs4⟩ : ∃ s, s = (sharesP s3 h).2 := ⟨_, rfl⟩
                    have hin4 : BytesIn s4.1 := by rw [hs4]; exact sharesP_in (s := s3) hin3 h
                    have O0 : L4At w wr p q gs k j h (w.heap.size + 3) (.bool (b.1 == 1)) (.int .i64 c2'.1) (.int .i64 d.1) cl ll sl s4 0 := by
                      obtain ⟨v, u, t, i1, i2, i3, i4⟩ := hL.img
                      refine ⟨hL.base, by rw [hs4]; exact hL.rd, hL.sizes, v, u, t, [], i1, by simpa using i2, i3, by rw [hsl]; exact i4, rfl, rfl, fun _ h => by cases h⟩
                    have HO0 := Lib.hid O0
                    have HSL := Lib.hid (And.intro hsl hs4)
                    clear O0 hsl hs4 hL
                    have hcln := HCL.out.2.2.2
                    have hclb := Lib.hid HCL.out.2.2.1
                    go_wp2_with fail
                    go_loopw [90] (fun i wr => ∃ g : Nat, g ≤ k ∧ i = .int .i64 (g : Int) ∧ L4At w wr p q gs k j h (w.heap.size + 3) (.bool (b.1 == 1)) (.int .i64 c2'.1) (.int .i64 d.1) cl ll sl s4 g) (fun i _ => k - (intOf i).toNat)
                    case atStart => exact ⟨0, Nat.zero_le _, rfl, HO0.out⟩
                    case round =>
                      clear HO0
                      obtain ⟨g, hg, rfl, hL⟩ := hrel
                      by_cases hlt4 : g < k
                      · have hlg : g < cl.length := by omega
                        have hin := codesP_in (s := s4) (z := cl.map Prod.fst) hin4 g
                        have hP : codesP (cl.map Prod.fst) s4 (g + 1) = ((codesP (cl.map Prod.fst) s4 g).1 ++ [(someS ((cl.map Prod.fst).getD g 0).toNat (codesP (cl.map Prod.fst) s4 g).2).1], (someS ((cl.map Prod.fst).getD g 0).toNat (codesP (cl.map Prod.fst) s4 g).2).2) := rfl
                        generalize hst : codesP (cl.map Prod.fst) s4 g = st at hin hP
                        obtain ⟨zl, sk⟩ := st
                        obtain ⟨nz, hnz⟩ : ∃ nz : Nat, (nz : Int) = cl[g].1 := ⟨cl[g].1.toNat, by have := (hclb.out cl[g] (List.getElem_mem hlg)).1; omega⟩
                        have hnz2 : nz ≤ 65535 := by have := (hclb.out cl[g] (List.getElem_mem hlg)).1; omega
                        have hzg : ((cl.map Prod.fst).getD g 0).toNat = nz := by simp [List.getD, List.getElem?_eq_getElem hlg, ← hnz]
                        rw [hzg] at hP
                        simp only at hin hP
                        obtain ⟨x1, hx1⟩ : ∃ a, a = someS nz sk := ⟨_, rfl⟩
                        have hx1n : x1.1.length = nz := by rw [hx1]; exact someS_len _ _
                        rw [← hx1] at hP
                        have HST := Lib.hid hst
                        have HP := Lib.hid hP
                        have HAE := Lib.hid hx1
                        obtain ⟨vC, vL, vS, dn, hi1, hi2, hi4, hi5, hd1, hd2, hd3⟩ := hL.img
                        rw [hst] at hd1
                        have hrd : Rd p sk undef wr := by have := hL.rd; rw [hst] at this; exact this
                        have hsz := hL.sizes
                        have HX := Lib.hid (And.intro hL.base (And.intro hi1 (And.intro hi2 (And.intro hi4 (And.intro hi5 (And.intro hrd (And.intro hsz (And.intro hd1 (And.intro hd2 hd3)))))))))
                        have xz : wr.cell? ⟨gs, g, none⟩ = some (.int .i64 nz) := by rw [hnz]; simp [World.cell?, hsz, List.getElem?_eq_getElem hlg]
                        have HNZ := Lib.hid hnz
                        have HXN := Lib.hid hx1n
                        clear hL hst hP hx1 hi1 hi2 hi4 hi5 hrd hsz hd1 hd2 hd3 hnz hzg hx1n hcln
                        have hXd : w.heap.size + 3 ≤ wr.drew.heap.size := (Array.getElem?_eq_some_iff.1 HX.out.1.rb).1
                        have hdk : cl.drop g = cl[g] :: cl.drop (g + 1) := List.drop_eq_getElem_cons hlg
                        have hdnl : dn.length = g := by have := congrArg List.length HX.out.2.2.2.2.2.2.2.2.1; simpa [Nat.min_eq_left (Nat.le_of_lt hlg)] using this
                        obtain ⟨dz, hdz⟩ : ∃ dz, dz = cl[g].2 := ⟨_, rfl⟩
                        obtain ⟨rest, hrest⟩ : ∃ r, r = (cl.drop (g + 1)).map fun x : Int × Int => comp0 x.2 := ⟨_, rfl⟩
                        have hcm : dn ++ (cl.drop g).map (fun x : Int × Int => comp0 x.2) = dn ++ comp0 dz :: rest := by rw [hdk, List.map_cons, hdz, hrest]
                        have HCM := Lib.hid hcm
                        have HDZ := Lib.hid (And.intro hdz hrest)
                        have hrow := HX.out.2.2.1
                        rw [hcm] at hrow
                        have hcln : cl.length = k := HCL.out.2.2.2
                        obtain ⟨gc, cpc, hvC⟩ : ∃ gc cpc, vC = .slice (some ⟨gc, 0, none⟩) k cpc := by
                          rcases hrow.2 with ⟨-, h0⟩ | ⟨gc, cap, cur, h0, -⟩
                          · omega
                          · exact ⟨gc, cap, h0⟩
                        subst hvC
                        have HROW := Lib.hid hrow
                        clear hdk hcm hdz hrest hrow hcln
                        go_wp2_with fail
                        refine wp_region_res (Only p [62, 53]) [⟨none, [], [6]⟩, ⟨some 6, [], []⟩, ⟨some 6, [(6, [])], [7]⟩, ⟨none, [], [10]⟩, ⟨some 7, [(7, [])], [10]⟩, ⟨some 10, [], []⟩] [(fun (u : Nat → Value) (W : World) => (Rd p sk) (undef) W), (fun (u : Nat → Value) (W : World) => (Rd p x1.2) (undef) W), (fun (u : Nat → Value) (W : World) => (Got p x1.1) (u 6) W), (fun (u : Nat → Value) (W : World) => (fun (_ : Value) (W : World) => W.ownsRow (w.heap.size + 3) 53 2 (.slice (some ⟨gc, 0, none⟩) k cpc) k ((dn ++ comp0 dz :: rest).flatMap CompM.cells)) (undef) W), (fun (u : Nat → Value) (W : World) => (CodeV x1.1) (u 7) W), (fun (u : Nat → Value) (W : World) => (fun (_ : Value) (W : World) => ∃ cm : CompM, cm.code = x1.1 ∧ cm.data = dz ∧ CodeOk W cm ∧ W.ownsRow (w.heap.size + 3) 53 2 (.slice (some ⟨gc, 0, none⟩) k cpc) k ((dn ++ cm :: rest).flatMap CompM.cells)) (undef) W)] [⟨[], [.keep, .keep, .keep, .keep, .keep, .early [0]]⟩, ⟨[], [.keep, .keep, .keep, .keep, .keep, .early [1]]⟩, ⟨[], [.keep, .keep, .keep, .keep, .keep, .early [2]]⟩, ⟨[], [.keep, .early [4, 3], .early [4, 3], .keep, .early [6, 4, 3], .early [3]]⟩, ⟨[], [.keep, .early [4], .early [4], .keep, .early [6, 4], .early [4]]⟩, ⟨[], [.keep, .early [5], .early [5], .keep, .early [6, 5], .early [5]]⟩, ⟨[(0, [])], [.late [[]], .last, .last, .keep, .early [6], .early [6]]⟩, ⟨[(1, [6]), (2, [6])], [.late [[6]], .keep, .late [[]], .keep, .last, .early [7]]⟩, ⟨[(1, [6])], [.late [[6]], .keep, .late [[7]], .keep, .keep, .early [9, 8]]⟩, ⟨[(1, [6])], [.late [[6]], .keep, .late [[7]], .keep, .keep, .early [9]]⟩, ⟨[(1, [6]), (3, []), (4, [7])], [.late [[6]], .keep, .late [[7]], .late [[]], .late [[]], .last]⟩] [95, 96, 97, 98, 99, 100, 101, 102, 103, 104] (by kernel_rfl) (Only.refl _ _) (fun _ _ _ => Only.trans) (by kernel_rfl) (by kernel_rfl) (by kernel_rfl) (by kernel_rfl) (by kernel_rfl) ?start ?_
                        case start =>
                          refine And.intro ?_ ?_
                          · exact HX.out.2.2.2.2.2.1
                          refine And.intro ?_ ?_
                          · exact HROW.out
                          exact trivial
                        apply ex_is; apply Exists.intro
                        apply ex_is; apply Exists.intro
                        apply ex_is; apply Exists.intro
                        apply ex_is; apply Exists.intro
                        apply ex_is; apply Exists.intro
                        apply ex_is; apply Exists.intro
                        refine ex_phi (fun _ _ => True) ?_
                        refine ex_phi (fun _ _ => True) ?_
                        apply ex_is; apply Exists.intro
                        apply ex_is; apply Exists.intro
                        refine ex_phi (fun _ _ => True) ?_
                        refine ⟨[], ⟨?steps, ?stab, ?ends⟩⟩
                        case steps =>
                          refine And.intro (obX_pure (Only.refl _ _) ?_) ?_
                          · intro act W hR hf ho hu K hK
                            replace hK := fun v h2 => hK v W rfl h2 trivial
                            have G : act.tmps[7]?.getD undef = _ ∧ True := ho
                            obtain ⟨g7, -⟩ := G
                            clear ho hf hu
                            go_simp
                            exact hK _ (Eq.refl _)
                          refine And.intro (obX_pure (Only.refl _ _) ?_) ?_
                          · intro act W hR hf ho hu K hK
                            replace hK := fun v h2 => hK v W rfl h2 trivial
                            have F : act.tmps[95]?.getD undef = _ ∧ True := hf
                            obtain ⟨f0, -⟩ := F
                            clear ho hf hu
                            have cb := hR.row HX.out.1.rb (by decide); have z0 : W.cell? ⟨w.heap.size + 2, 0, none⟩ = some (.pointer (some ⟨p, 0, none⟩)) := (by rw [HU.out.2]; simp [World.cell?, cb]); have cq := hR.row HX.out.2.1 (by decide); have z1 : W.cell? ⟨q, 3, none⟩ = some (.slice (some ⟨gc, 0, none⟩) k cpc) := by simp [World.cell?, cq]
                            go_simp
                            exact hK _ (Eq.refl _)
                          refine And.intro (obX_pure (Only.refl _ _) ?_) ?_
                          · intro act W hR hf ho hu K hK
                            replace hK := fun v h2 => hK v W rfl h2 trivial
                            have G : act.tmps[13]?.getD undef = _ ∧ True := ho
                            obtain ⟨g13, -⟩ := G
                            clear ho hf hu
                            go_simp
                            exact hK _ (Eq.refl _)
                          refine And.intro (obX_pure (Only.refl _ _) ?_) ?_
                          · intro act W hR hf ho hu K hK
                            replace hK := fun v h2 => hK v W rfl h2 trivial
                            have G : act.tmps[4]?.getD undef = _ ∧ True := ho
                            obtain ⟨g4, -⟩ := G
                            clear ho hf hu
                            go_simp
                            exact hK _ (Eq.refl _)
                          refine And.intro (obX_pure (Only.refl _ _) ?_) ?_
                          · intro act W hR hf ho hu K hK
                            replace hK := fun v h2 => hK v W rfl h2 trivial
                            have F : act.tmps[98]?.getD undef = _ ∧ True := hf
                            obtain ⟨f3, -⟩ := F
                            clear ho hf hu
                            have cb := hR.row HX.out.1.rb (by decide); have z0 : W.cell? ⟨w.heap.size + 2, 0, none⟩ = some (.pointer (some ⟨p, 0, none⟩)) := (by rw [HU.out.2]; simp [World.cell?, cb]); have cq := hR.row HX.out.2.1 (by decide); have z1 : W.cell? ⟨q, 3, none⟩ = some (.slice (some ⟨gc, 0, none⟩) k cpc) := by simp [World.cell?, cq]
                            go_simp
                            exact hK _ (Eq.refl _)
                          refine And.intro (obX_pure (Only.refl _ _) ?_) ?_
                          · intro act W hR hf ho hu K hK
                            replace hK := fun v h2 => hK v W rfl h2 trivial
                            have G : act.tmps[14]?.getD undef = _ ∧ True := ho
                            obtain ⟨g14, -⟩ := G
                            clear ho hf hu
                            go_simp
                            exact hK _ (Eq.refl _)
                          refine And.intro (obX_eff (Only p [62]) (fun _ _ h => h.mono (Nat.le_refl _) (by decide)) (And.intro (fun _ _ _ h e => e.own h (by decide)) (trivial)) ?_) ?_
                          · intro act W hR hf ho hu K hK
                            replace hK := fun v (w' : World) (h1 : (Only p [62]) W w') (b1 : (Rd p x1.2) (undef) w') (b2 : (Got p x1.1) (v) w') => hK v w' h1 trivial ⟨b1, ⟨b2, trivial⟩⟩
                            have F : act.tmps[99]?.getD undef = _ ∧ act.tmps[100]?.getD undef = _ ∧ True := hf
                            obtain ⟨f4, f5, -⟩ := F
                            have U : (Rd p sk) (undef) W ∧ True := hu
                            obtain ⟨r_rd, -⟩ := U
                            clear ho hf hu
                            go_simp
                            have HC := Lib.hid (some_s p sk nz W r_rd hnz2); rw [← HAE.out] at HC; refine HC.out.mono ?_; rintro _ W1 ⟨v, rfl, hO, hRd', hG⟩; exact hK _ _ hO hRd' hG
                          refine And.intro (obX_eff (Ext) (fun _ _ h => Only.ext h) (And.intro (fun _ _ _ h e => RdAt.ext h e) (And.intro (fun _ _ _ h e => own_ext h e) (trivial))) ?_) ?_
                          · intro act W hR hf ho hu K hK
                            replace hK := fun v (w' : World) (h1 : (Ext) W w') (b4 : (CodeV x1.1) (v) w') => hK v w' h1 trivial ⟨b4, trivial⟩
                            have F : (fun _ _ => True) (act.tmps[101]?.getD undef) W ∧ (fun _ _ => True) (act.tmps[101]?.getD undef) W ∧ True := hf
                            obtain ⟨-, -, -⟩ := F
                            have U : (Rd p x1.2) (undef) W ∧ (Got p x1.1) (act.tmps[101]?.getD undef) W ∧ True := hu
                            obtain ⟨r_rd1, r_got, -⟩ := U
                            generalize f6 : act.tmps[101]?.getD undef = v6 at r_got
                            clear ho hf hu
                            go_simp
                            refine (clone_got p x1.1 v6 W r_got (by rw [HXN.out]; omega)).mono ?_; rintro _ W1 ⟨v, rfl, hE, hC⟩; exact hK _ _ hE hC
                          refine And.intro (obX_pure (Only.refl _ _) ?_) ?_
                          · intro act W hR hf ho hu K hK
                            replace hK := fun v h2 => hK v W rfl h2 trivial
                            have F : act.tmps[96]?.getD undef = _ ∧ act.tmps[97]?.getD undef = _ ∧ act.tmps[95]?.getD undef = _ ∧ act.tmps[96]?.getD undef = _ ∧ act.tmps[97]?.getD undef = _ ∧ act.tmps[98]?.getD undef = _ ∧ act.tmps[99]?.getD undef = _ ∧ act.tmps[100]?.getD undef = _ ∧ (fun _ _ => True) (act.tmps[101]?.getD undef) W ∧ (fun _ _ => True) (act.tmps[102]?.getD undef) W ∧ True := hf
                            obtain ⟨f1, f2, f0, -, -, f3, f4, f5, -, -, -⟩ := F
                            have U : (Rd p x1.2) (undef) W ∧ True := hu
                            obtain ⟨r_rd1, -⟩ := U
                            generalize f6 : act.tmps[101]?.getD undef = v6
                            generalize f7 : act.tmps[102]?.getD undef = v7
                            clear ho hf hu
                            go_simp
                            exact hK _ (Eq.refl _)
                          refine And.intro (obX_pure (Only.refl _ _) ?_) ?_
                          · intro act W hR hf ho hu K hK
                            replace hK := fun v h2 => hK v W rfl h2 trivial
                            have F : act.tmps[103]?.getD undef = _ ∧ act.tmps[95]?.getD undef = _ ∧ act.tmps[96]?.getD undef = _ ∧ act.tmps[97]?.getD undef = _ ∧ act.tmps[98]?.getD undef = _ ∧ act.tmps[99]?.getD undef = _ ∧ act.tmps[100]?.getD undef = _ ∧ (fun _ _ => True) (act.tmps[101]?.getD undef) W ∧ (fun _ _ => True) (act.tmps[102]?.getD undef) W ∧ True := hf
                            obtain ⟨f8, f0, f1, f2, f3, f4, f5, -, -, -⟩ := F
                            have U : (Rd p x1.2) (undef) W ∧ True := hu
                            obtain ⟨r_rd1, -⟩ := U
                            generalize f6 : act.tmps[101]?.getD undef = v6
                            generalize f7 : act.tmps[102]?.getD undef = v7
                            clear ho hf hu
                            go_simp
                            exact hK _ (Eq.refl _)
                          refine And.intro (obX_eff (Only p [53]) (fun _ _ h => h.mono (Nat.le_refl _) (by decide)) (And.intro (fun _ _ _ h e => h.only e (Nat.le_refl _) (by decide)) (trivial)) ?_) ?_
                          · intro act W hR hf ho hu K hK
                            replace hK := fun (w' : World) (h1 : (Only p [53]) W w') (b5 : (fun (_ : Value) (W : World) => ∃ cm : CompM, cm.code = x1.1 ∧ cm.data = dz ∧ CodeOk W cm ∧ W.ownsRow (w.heap.size + 3) 53 2 (.slice (some ⟨gc, 0, none⟩) k cpc) k ((dn ++ cm :: rest).flatMap CompM.cells)) (undef) w') => hK undef w' h1 trivial ⟨b5, trivial⟩
                            have F : act.tmps[104]?.getD undef = _ ∧ (fun _ _ => True) (act.tmps[102]?.getD undef) W ∧ (fun _ _ => True) (act.tmps[102]?.getD undef) W ∧ act.tmps[95]?.getD undef = _ ∧ act.tmps[96]?.getD undef = _ ∧ act.tmps[97]?.getD undef = _ ∧ act.tmps[98]?.getD undef = _ ∧ act.tmps[99]?.getD undef = _ ∧ act.tmps[100]?.getD undef = _ ∧ (fun _ _ => True) (act.tmps[101]?.getD undef) W ∧ (fun _ _ => True) (act.tmps[102]?.getD undef) W ∧ True := hf
                            obtain ⟨f9, -, -, f0, f1, f2, f3, f4, f5, -, -, -⟩ := F
                            have U : (Rd p x1.2) (undef) W ∧ (fun (_ : Value) (W : World) => W.ownsRow (w.heap.size + 3) 53 2 (.slice (some ⟨gc, 0, none⟩) k cpc) k ((dn ++ comp0 dz :: rest).flatMap CompM.cells)) (undef) W ∧ (CodeV x1.1) (act.tmps[102]?.getD undef) W ∧ True := hu
                            obtain ⟨r_rd1, r_row, r_cp, -⟩ := U
                            generalize f7 : act.tmps[102]?.getD undef = v7 at r_cp
                            generalize f6 : act.tmps[101]?.getD undef = v6
                            clear ho hf hu
                            obtain ⟨A6, c6, rfl, hcd⟩ := r_cp; have hsto := r_row.stored (g * 2) (.slice A6 x1.1.length c6); have hcell := r_row.cellAt (g * 2) (by omega); have hfro := r_row.frozenAt (g * 2); have hset := set_comp (A := A6) (c := c6) (x := x1.1) dn dz rest g hdnl; rw [hset.1] at hsto; rw [hset.2] at hcell; have HS2 := Lib.hid (own_typed r_row (by have := HU.out.2; omega : p ≤ w.heap.size + 3) hsto.2); have HS1 := Lib.hid hsto.1; clear hsto hset
                            go_simp
                            exact hK _ HS2.out ⟨⟨A6, c6, x1.1, dz⟩, rfl, rfl, hcd.only HS2.out (by decide), HS1.out⟩
                          exact trivial
                        case stab =>
                          refine And.intro is_stable ?_
                          refine And.intro is_stable ?_
                          refine And.intro is_stable ?_
                          refine And.intro is_stable ?_
                          refine And.intro is_stable ?_
                          refine And.intro is_stable ?_
                          refine And.intro (fun _ _ _ h _ => h) ?_
                          refine And.intro (fun _ _ _ h _ => h) ?_
                          refine And.intro is_stable ?_
                          refine And.intro is_stable ?_
                          refine And.intro (fun _ _ _ h _ => h) ?_
                          exact trivial
                        case ends =>
                          intro vals W hR hE hall
                          have E : (Rd p x1.2) (undef) W ∧ (fun (_ : Value) (W : World) => ∃ cm : CompM, cm.code = x1.1 ∧ cm.data = dz ∧ CodeOk W cm ∧ W.ownsRow (w.heap.size + 3) 53 2 (.slice (some ⟨gc, 0, none⟩) k cpc) k ((dn ++ cm :: rest).flatMap CompM.cells)) (undef) W ∧ True := hE
                          obtain ⟨e_rd1, e_fin, -⟩ := E
                          clear hE
                          clear hall
                          simp only [fill, List.setIfInBounds_toArray, List.set_cons_succ, List.set_cons_zero]
                          have hBW : Base w W := (HX.out.1.only (T := [62]) (Only.drew (Only.refl _ _ _)) (by decide)).only (by rw [← HU.out.2]; exact hR) (by decide)
                          have hOW : Only p [62, 53] wr W := (Only.drew (Only.refl _ _ _)).trans hR
                          obtain ⟨cm, hm1, hm2, hm3, hm4⟩ := e_fin
                          have LW : L4At w W p q gs k j h (w.heap.size + 3) (.bool (b.1 == 1)) (.int .i64 c2'.1) (.int .i64 d.1) cl ll sl s4 (g + 1) := by
                            refine ⟨hBW, ?_, hOW.row HX.out.2.2.2.2.2.2.1 (by decide), _, vL, vS, dn ++ [cm], hOW.row HX.out.2.1 (by decide), ?_, hOW.own HX.out.2.2.2.1 (by decide), hOW.own HX.out.2.2.2.2.1 (by decide), ?_, ?_, ?_⟩
                            · rw [HP.out]; exact e_rd1
                            · rw [← HDZ.out.2, List.append_assoc]; exact hm4
                            · rw [HP.out, List.map_append, HX.out.2.2.2.2.2.2.2.1, ← hm1]; rfl
                            · rw [List.map_append, HX.out.2.2.2.2.2.2.2.2.1, List.take_add_one, List.getElem?_eq_getElem hlg, List.map_append]; simp [hm2, HDZ.out.1]
                            · intro c hc
                              rcases List.mem_append.1 hc with hc | hc
                              · exact (HX.out.2.2.2.2.2.2.2.2.2 c hc).only hOW (by decide)
                              · obtain rfl := List.mem_singleton.1 hc; exact hm3
                          clear hBW hOW hm1 hm2 hm3 hm4 e_rd1 hR
                          go_wp2_with fail
                          exact ⟨⟨g + 1, by omega, by simp, LW⟩, by simp [intOf]; omega⟩
                      · obtain rfl : g = k := by omega
                        obtain ⟨vC, vL, vS, dn, hi1, hi2, hi4, hi5, hd1, hd2, hd3⟩ := hL.img
                        rw [List.drop_of_length_le (by omega), List.map_nil, List.append_nil] at hi2
                        rw [List.take_of_length_le (by omega)] at hd2
                        have hdl : dn.length = g := by have := congrArg List.length hd2; simp at this; omega
                        have hll : ll.length = j := by rw [HLL.out.1]; exact linksP_len _ _
                        have hsl : sl.length = h := by rw [HSL.out.1]; exact sharesP_len _ _
                        obtain ⟨Ac, kc, rfl, hcc, -⟩ := Arr.own hi2
                        obtain ⟨Al, kl, rfl, hcl', -⟩ := Arr.own hi4
                        obtain ⟨As, ks, rfl, hcs, -⟩ := Arr.own hi5
                        have hx : PartsAt wr (w.heap.size + 3) ⟨b.1 == 1, c2'.1, d.1, Ac, kc, dn, Al, kl, ll, As, ks, sl⟩ := by
                          refine ⟨by dsimp only; rw [hdl]; exact hi2, by dsimp only; rw [hll]; exact hi4, by dsimp only; rw [hsl]; exact hi5, hd3, fun c hc => ?_, ?_, ?_, ?_, ?_⟩
                          · have h2 := codesP_bytes (z := cl.map Prod.fst) hin4 g c.code (by rw [← hd1]; exact List.mem_map_of_mem hc)
                            have h3 : c.data ∈ cl.map Prod.snd := by rw [← hd2]; exact List.mem_map_of_mem hc
                            obtain ⟨y, hy, hy2⟩ := List.mem_map.1 h3
                            have h4 := (hclb.out y hy).2
                            have h5 := codesP_size (z := cl.map Prod.fst) (s := s4) (fun y hy => by obtain ⟨x, hx, rfl⟩ := List.mem_map.1 hy; exact (hclb.out x hx).1) g c.code (by rw [← hd1]; exact List.mem_map_of_mem hc)
                            exact ⟨h2, by omega, by unfold i64ok; omega⟩
                          · dsimp only; rw [HLL.out.1]; exact linksP_ok hin2 j
                          · dsimp only; rw [HSL.out.1]; exact sharesP_ok hin3 h
                          · have h1 := oneS_in hb1
                            rw [← HCD.out.1] at h1
                            have h2 := twoS_in hc1
                            rw [← HCD.out.2] at h2
                            show i64ok c2'.1 ∧ i64ok d.1
                            unfold i64ok
                            omega
                          · dsimp only
                            omega
                        have hread := readP_of HAB.out.1 HAB.out.2 HCD.out.1 HCD.out.2 HF.out.1 HF.out.2.1 HF.out.2.2 HCL.out.1 HCL.out.2.1 HLL.out.1 HLL.out.2 HSL.out.1 HSL.out.2 hd1 hd2
                        have hbase := hL.base
                        have hrd := hL.rd
                        generalize hse : (codesP (cl.map Prod.fst) s4 g).2 = se at hrd hread
                        obtain ⟨lf, bd⟩ := se
                        obtain ⟨Ar, cr, hp1, -, hp2, hp3, -⟩ := hrd
                        simp only at hp1 hp2
                        have y0 : wr.cell? ⟨p, 0, none⟩ = some (.slice Ar lf.length cr) := by simp [World.cell?, hp1]
                        have y1 : wr.cell? ⟨p, 1, none⟩ = some (.bool bd) := by simp [World.cell?, hp1]
                        have y2 : wr.cell? ⟨w.heap.size + 1 + 1, 0, none⟩ = some (.pointer (some ⟨p, 0, none⟩)) := by have cb := hbase.rb; rw [HU.out.2]; simp [World.cell?, cb]
                        obtain ⟨z0, z1, z2, z3, z4, z5⟩ := lie6 hi1 (Below.refl _ wr)
                        obtain ⟨r0, r1, r2, r3, r4, r5⟩ := lie6 hbase.r0 (Below.refl _ wr)
                        have fz := frozen_row hbase.r0
                        have HR0 := Lib.hid hbase.r0
                        have HEX := Lib.hid hbase.ext
                        have HRD := Lib.hid hread
                        have HX := Lib.hid hx
                        have HIM := Lib.hid hi1
                        have hbad : badP l = (bd || !lf.isEmpty || decide (a.1 ≠ [83, 90]) || decide (b.1 > 1) || !formD (readP l).1) := by
                          unfold badP
                          rw [hread.2.1, hread.2.2, hread.1]
                        have HBAD := Lib.hid hbad
                        have HDL := Lib.hid (And.intro hdl (And.intro hll hsl))
                        clear hbase hread hx hp1 hbad hse hL hi1 hi2 hi4 hi5 hd1 hd2 hd3 hdl hll hsl
                        cases bd with
                        | true =>
                          have hb : badP l = true := by rw [HBAD.out]; rfl
                          have HB := Lib.hid hb
                          clear hb
                          go_wp2_with fail
                          (change bodyPost _ _ _ _ _ (zset wr w.heap.size); have h6 := zset_at HEX.out rfl HR0.out; obtain ⟨c0, c1, c2, c3, c4, c5⟩ := lie6 h6.1 (Below.refl _ _); exact bodyPost_ret (v := .tuple #[.agg #[.bool false, .int .i64 0, .int .i64 0, .slice none 0 0, .slice none 0 0, .slice none 0 0], .int .i64 1]) (by simp [results, Try.results12, go_sem, c0, c1, c2, c3, c4, c5]) rfl (post_bad HB.out h6.2))
                        | false =>
                          cases lf with
                          | cons y lf =>
                            have hb : badP l = true := by rw [HBAD.out]; rfl
                            have HB := Lib.hid hb
                            clear hb
                            go_wp2_with fail
                            (change bodyPost _ _ _ _ _ (zset wr w.heap.size); have h6 := zset_at HEX.out rfl HR0.out; obtain ⟨c0, c1, c2, c3, c4, c5⟩ := lie6 h6.1 (Below.refl _ _); exact bodyPost_ret (v := .tuple #[.agg #[.bool false, .int .i64 0, .int .i64 0, .slice none 0 0, .slice none 0 0, .slice none 0 0], .int .i64 1]) (by simp [results, Try.results12, go_sem, c0, c1, c2, c3, c4, c5]) rfl (post_bad HB.out h6.2))
                          | nil =>
                            have hsz := sz_eq (a := a.1) (by rw [HAB.out.1]; exact (someS_in hb).1)
                            obtain ⟨sn, hsn⟩ : ∃ sn, sn = strOfNums a.1 := ⟨_, rfl⟩
                            rw [← hsn] at hsz ⊢
                            have HSN := Lib.hid hsn
                            clear hsn
                            have HFm := Lib.hid (form_any _ wr HX.out.img)
                            unfold ImgM.val at HFm
                            dsimp only at HFm
                            rw [HDL.out.1, HDL.out.2.1, HDL.out.2.2] at HFm
                            have hxd : ImgM.d ⟨b.1 == 1, c2'.1, d.1, Ac, kc, dn, Al, kl, ll, As, ks, sl⟩ = (readP l).1 := by rw [HRD.out.1]; rfl
                            rw [hxd] at HFm
                            have HXD := Lib.hid hxd
                            clear hxd
                            by_cases hnm : a.1 = [83, 90]
                            case neg =>
                              have hb : badP l = true := by rw [HBAD.out]; simp [hnm]
                              rw [decide_eq_false hnm] at hsz
                              have HB := Lib.hid hb
                              clear hb hnm
                              go_wp2_with fail
                              (change bodyPost _ _ _ _ _ (zset wr w.heap.size); have h6 := zset_at HEX.out rfl HR0.out; obtain ⟨c0, c1, c2, c3, c4, c5⟩ := lie6 h6.1 (Below.refl _ _); exact bodyPost_ret (v := .tuple #[.agg #[.bool false, .int .i64 0, .int .i64 0, .slice none 0 0, .slice none 0 0, .slice none 0 0], .int .i64 1]) (by simp [results, Try.results12, go_sem, c0, c1, c2, c3, c4, c5]) rfl (post_bad HB.out h6.2))
                            rw [decide_eq_true hnm] at hsz
                            have HNM := Lib.hid hnm
                            clear hnm
                            by_cases hst : b.1 > 1
                            case pos =>
                              have hb : badP l = true := by rw [HBAD.out]; simp [hst]
                              have HB := Lib.hid hb
                              clear hb
                              go_wp2_with fail
                              (change bodyPost _ _ _ _ _ (zset wr w.heap.size); have h6 := zset_at HEX.out rfl HR0.out; obtain ⟨c0, c1, c2, c3, c4, c5⟩ := lie6 h6.1 (Below.refl _ _); exact bodyPost_ret (v := .tuple #[.agg #[.bool false, .int .i64 0, .int .i64 0, .slice none 0 0, .slice none 0 0, .slice none 0 0], .int .i64 1]) (by simp [results, Try.results12, go_sem, c0, c1, c2, c3, c4, c5]) rfl (post_bad HB.out h6.2))
                            obtain ⟨fd, hfd⟩ : ∃ fd, fd = formD (readP l).1 := ⟨_, rfl⟩
                            obtain ⟨rt, hrt⟩ : ∃ rt, rt = rightD (readP l).1 := ⟨_, rfl⟩
                            rw [← hfd] at HFm
                            have HFD := Lib.hid (And.intro hfd hrt)
                            clear hfd hrt
                            cases fd with
                            | false =>
                              have hb : badP l = true := by rw [HBAD.out, ← HFD.out.1]; simp
                              have HB := Lib.hid hb
                              clear hb
                              go_wp2_with fail
                              refine HFm.out.mono ?_
                              rintro _ w5 ⟨rfl, hE5⟩
                              have HE5 := Lib.hid (HEX.out.then hE5)
                              have HR5 := Lib.hid ((hE5.block _ (Array.getElem?_eq_some_iff.1 HR0.out).1).trans HR0.out)
                              obtain ⟨r0, r1, r2, r3, r4, r5⟩ := lie6 HR5.out (Below.refl _ w5)
                              have fz5 := frozen_row HR5.out
                              clear hE5
                              go_wp2_with fail
                              (change bodyPost _ _ _ _ _ (zset w5 w.heap.size); have h6 := zset_at HE5.out rfl HR5.out; obtain ⟨c0, c1, c2, c3, c4, c5⟩ := lie6 h6.1 (Below.refl _ _); exact bodyPost_ret (v := .tuple #[.agg #[.bool false, .int .i64 0, .int .i64 0, .slice none 0 0, .slice none 0 0, .slice none 0 0], .int .i64 1]) (by simp [results, Try.results12, go_sem, c0, c1, c2, c3, c4, c5]) rfl (post_bad HB.out h6.2))
                            | true =>
                              have hb : badP l = false := by rw [HBAD.out, ← HFD.out.1, HNM.out]; simp; omega
                              have HB := Lib.hid hb
                              clear hb
                              go_wp2_with fail
                              refine HFm.out.mono ?_
                              rintro _ w5 ⟨rfl, hE5⟩
                              have hX5 := HX.out.only (Only.ext (B := 0) (T := []) hE5) (by decide) (by decide) (by decide) (by decide)
                              have HRt := Lib.hid (imgRight_any _ w5 hX5.img)
                              unfold ImgM.val at HRt
                              dsimp only at HRt
                              rw [HDL.out.1, HDL.out.2.1, HDL.out.2.2, HXD.out, ← HFD.out.2] at HRt
                              have HX5 := Lib.hid hX5
                              have HE5 := Lib.hid (HEX.out.then hE5)
                              have HR5 := Lib.hid ((hE5.block _ (Array.getElem?_eq_some_iff.1 HR0.out).1).trans HR0.out)
                              have HI5 := Lib.hid ((hE5.block _ (Array.getElem?_eq_some_iff.1 HIM.out).1).trans HIM.out)
                              obtain ⟨i0, i1, i2, i3, i4, i5⟩ := lie6 HI5.out (Below.refl _ w5)
                              clear hE5 hX5
                              go_wp2_with fail
                              refine HRt.out.mono ?_
                              rintro _ w6 ⟨rfl, hE6⟩
                              have HE6 := Lib.hid (HE5.out.then hE6)
                              have HR6 := Lib.hid ((hE6.block _ (Array.getElem?_eq_some_iff.1 HR5.out).1).trans HR5.out)
                              have HI6 := Lib.hid ((hE6.block _ (Array.getElem?_eq_some_iff.1 HI5.out).1).trans HI5.out)
                              have HX6 := Lib.hid (HX5.out.only (Only.ext (B := 0) (T := []) hE6) (by decide) (by decide) (by decide) (by decide))
                              obtain ⟨i0', i1', i2', i3', i4', i5'⟩ := lie6 HI6.out (Below.refl _ w6)
                              obtain ⟨r0', r1', r2', r3', r4', r5'⟩ := lie6 HR6.out (Below.refl _ w6)
                              have fz6 := frozen_row HR6.out
                              clear hE6
                              cases rt with
                              | false =>
                                go_wp2_with fail
                                (change bodyPost _ _ _ _ _ (zset w6 w.heap.size); have h6 := zset_at HE6.out rfl HR6.out; obtain ⟨c0, c1, c2, c3, c4, c5⟩ := lie6 h6.1 (Below.refl _ _); exact bodyPost_ret (v := .tuple #[.agg #[.bool false, .int .i64 0, .int .i64 0, .slice none 0 0, .slice none 0 0, .slice none 0 0], .int .i64 151]) (by simp [results, Try.results12, go_sem, c0, c1, c2, c3, c4, c5]) rfl (post_op HB.out HFD.out.2.symm h6.2))
                              | true =>
                                go_wp2_with fail
                                have h6 := set6 (p := w.heap.size) HR6.out (Nat.le_refl _) (.bool (b.1 == 1)) (.int .i64 c2'.1) (.int .i64 d.1) (.slice Ac g kc) (.slice Al j kl) (.slice As h ks)
                                generalize ((((((w6.setCell ⟨w.heap.size, 0, none⟩ (.bool (b.1 == 1))).setCell ⟨w.heap.size, 1, none⟩ (.int .i64 c2'.1)).setCell ⟨w.heap.size, 2, none⟩ (.int .i64 d.1)).setCell ⟨w.heap.size, 3, none⟩ (.slice Ac g kc)).setCell ⟨w.heap.size, 4, none⟩ (.slice Al j kl)).setCell ⟨w.heap.size, 5, none⟩ (.slice As h ks)) = w7 at h6 ⊢
                                obtain ⟨c0, c1, c2, c3, c4, c5⟩ := lie6 h6.1 (Below.refl _ _)
                                have hX7 := HX6.out.only h6.2 (by decide) (by decide) (by decide) (by decide)
                                have hfin := post_ok HB.out HFD.out.2.symm hX7.img HXD.out (Only.below HE6.out (Nat.le_refl _) h6.2)
                                unfold ImgM.val at hfin
                                dsimp only at hfin
                                rw [HDL.out.1, HDL.out.2.1, HDL.out.2.2] at hfin
                                exact bodyPost_ret (v := .tuple #[.agg #[.bool (b.1 == 1), .int .i64 c2'.1, .int .i64 d.1, .slice Ac g kc, .slice Al j kl, .slice As h ks], .int .i64 0]) (by simp [results, Try.results12, go_sem, c0, c1, c2, c3, c4, c5]) rfl hfin
end Go.Proofs.Ytgfnpcoigooblaa

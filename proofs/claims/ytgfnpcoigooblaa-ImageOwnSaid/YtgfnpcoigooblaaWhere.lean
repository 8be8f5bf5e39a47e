
/- Package image: Where. -/
import Derived.Test.YtgfnpcoigooblaaFar
import Derived.Test.YtgfnpcoigooblaaPutA
set_option linter.all false
namespace Go.Proofs.Ytgfnpcoigooblaa
open Go.RowKit
attribute [local go_sem] seen dstOf boolOf

abbrev pairC (p : Int × Int) : List Value := [.int .i64 p.1, .int .i64 p.2]
structure LayD where
  code : List (Int × Int)
  data : List (Int × Int)
  heap : List (Int × Int)
  shares : List Int
  pages : Int
structure WSt where
  page : Int
  code : List (Int × Int)
  data : List (Int × Int)
  heap : List (Int × Int)
def whC (h : Int) (cs : List CompD) : Nat → WSt
  | 0 => ⟨1, [], [], []⟩
  | k + 1 =>
    let s := whC h cs k
    let n := (cs.map fun c => (c.code.length : Int)).getD k 0
    let d := (cs.map CompD.data).getD k 0
    let p1 := s.page + (n + 255) / 256
    ⟨p1 + d + h, s.code ++ [(s.page * 256, s.page * 256 + n)], s.data ++ [(p1 * 256, (p1 + d) * 256)], s.heap ++ [((p1 + d) * 256, (p1 + d + h) * 256)]⟩
def zeroL : LayD := ⟨[], [], [], [], 0⟩
def whereD (x : ImgD) : LayD :=
  if rightD x then
    let s := whC x.heap x.comps x.comps.length
    ⟨s.code, s.data, s.heap, (List.range x.shares.length).map fun i : Nat => (s.page + i) * 256, s.page + x.shares.length⟩
  else zeroL
theorem whC_page {h : Int} {cs : List CompD} (h0 : 0 ≤ h) (h1 : h ≤ 64) (hc : ∀ c ∈ cs, c.code.length ≤ 4096 ∧ 0 ≤ c.data ∧ c.data ≤ 8) : ∀ k, k ≤ cs.length → 1 ≤ (whC h cs k).page ∧ (whC h cs k).page ≤ 1 + 100 * k
  | 0, _ => by simp [whC]
  | k + 1, hk => by
    have ih := whC_page h0 h1 hc k (by omega)
    have hk' : k < cs.length := by omega
    have hcc := hc cs[k] (List.getElem_mem hk')
    simp only [whC, List.getD_eq_getElem?_getD, List.getElem?_map, List.getElem?_eq_getElem hk', Option.map_some, Option.getD_some]
    omega
theorem whC_len (h : Int) (cs : List CompD) : ∀ k, (whC h cs k).code.length = k ∧ (whC h cs k).data.length = k ∧ (whC h cs k).heap.length = k
  | 0 => ⟨rfl, rfl, rfl⟩
  | k + 1 => by
    obtain ⟨h1, h2, h3⟩ := whC_len h cs k
    simp [whC, h1, h2, h3]
theorem cell_at {W : World} {g : Nat} {C : Array Value} {t : TypeId} {f : Nat × Nat} (h : W.heap[g]? = some (.cells C t f)) (j : Nat) (v : Value) (hj : C[j]? = some v) : W.cell? ⟨g, j, none⟩ = some v := by simp [World.cell?, h, hj]
theorem set_lay {W : World} {g : Nat} {C : Array Value} {t : TypeId} {f : Nat × Nat} (h : W.heap[g]? = some (.cells C t f)) (j : Nat) (v : Value) : (W.setCell ⟨g, j, none⟩ v).heap[g]? = some (.cells (C.setIfInBounds j v) t f) ∧ W.grownBy (W.setCell ⟨g, j, none⟩ v) (some g) ∧ Only g [t] W (W.setCell ⟨g, j, none⟩ v) :=
  ⟨set_row h v, ⟨rfl, rfl, rfl, by simp [World.setCell], fun k _ hne => by
    have hne' : g ≠ k := fun e => hne (by rw [e])
    simp [World.setCell, Array.getElem?_modify, hne']⟩, Only.set h (Nat.le_refl _) (by simp) v⟩
/-- take. -/
def TakeP (W : World) (pb : Nat) (page n : Int) (e : Ending) (W' : World) : Prop :=
  e = .returned (.agg #[.int .i64 (page * 256), .int .i64 ((page + n) * 256)]) ∧ W.grownBy W' (some pb) ∧ W'.heap[pb]? = some (.cells #[.int .i64 (page + n)] 3)
set_option maxHeartbeats 1000000 in
set_option maxRecDepth 100000 in
theorem take_img (W : World) (pb : Nat) (page n : Int) (h : W.heap[pb]? = some (.cells #[.int .i64 page] 3)) (h0 : 0 ≤ page) (h1 : page ≤ 1000000) (h2 : 0 ≤ n) (h3 : n ≤ 1000000) :
    Calls Try.prog 44 #[.int .i64 n, .pointer (some ⟨pb, 0, none⟩)] W (TakeP W pb page n) := by
  have z0 : W.cell? ⟨pb, 0, none⟩ = some (.int .i64 page) := by simp [World.cell?, h]
  have hlt := (Array.getElem?_eq_some_iff.1 h).1
  have fz := frozen_row' h
  have H := Lib.hid h
  clear h
  go_enter Try.func44, Try.ntmps44
  go_wp2_with fail
  refine bodyPost_ret (v := .agg #[.int .i64 (page * 256), .int .i64 ((page + n) * 256)]) (by simp [results, Try.results44, go_sem]) rfl ⟨rfl, ⟨rfl, rfl, rfl, by simp [World.setCell], fun k hk hne => ?_⟩, ?_⟩
  · have hne' : pb ≠ k := fun e => hne (by rw [e])
    rw [show ((W.setCell ⟨pb, 0, none⟩ (.int .i64 (page + n))).alloc _).heap[k]? = (W.setCell ⟨pb, 0, none⟩ (.int .i64 (page + n))).heap[k]? from Below.heap_alloc _ _ _ (by simpa [World.setCell] using hk)]
    simp [World.setCell, Array.getElem?_modify, hne']
  · rw [show ((W.setCell ⟨pb, 0, none⟩ (.int .i64 (page + n))).alloc _).heap[pb]? = (W.setCell ⟨pb, 0, none⟩ (.int .i64 (page + n))).heap[pb]? from Below.heap_alloc _ _ _ (by simpa [World.setCell] using hlt)]
    rw [set_row H.out]
    rfl
theorem grown_only {B g : Nat} {T : List TypeId} {t : TypeId} {C : Array Value} {f : Nat × Nat} {a b : World} (hg : a.heap[g]? = some (.cells C t f)) (hB : B ≤ g) (ht : t ∈ T) (h : a.grownBy b (some g)) : Only B T a b :=
  ⟨h.os, h.tape, h.output, h.size, fun k o ho hc => (h.block k (Array.getElem?_eq_some_iff.1 ho).1 (by
    intro e
    obtain rfl : k = g := by simpa using e
    rw [hg] at ho
    cases ho
    rcases hc with hc | hc
    · omega
    · exact hc _ _ _ rfl ht)).trans ho⟩
theorem own_far {N n sz : Nat} {t : TypeId} {v : Value} {xs : List Value} {a b : World} {g : Nat} (h : a.ownsRow N t sz v n xs) (hg : a.grownBy b (some g)) (hN : g < N) : b.ownsRow N t sz v n xs := by
  refine h.kept hg ?_
  cases hv : v.ownBlock with
  | none => exact .inl rfl
  | some k => exact .inr fun e => by have := (h.lt k hv).1; cases e; omega
/-- Three rows of pairs, in blocks of their own. -/
structure Rows3 (N : Nat) (u v w : Value) (c d h : List (Int × Int)) (W : World) : Prop where
  o1 : W.ownsRow N 51 2 u c.length (c.flatMap pairC)
  o2 : W.ownsRow N 51 2 v d.length (d.flatMap pairC)
  o3 : W.ownsRow N 51 2 w h.length (h.flatMap pairC)
  d12 : Dis u v
  d13 : Dis u w
  d23 : Dis v w
theorem Rows3.ext {N : Nat} {u v w : Value} {c d h : List (Int × Int)} {W W' : World} (r : Rows3 N u v w c d h W) (e : Ext W W') : Rows3 N u v w c d h W' := ⟨own_ext r.o1 e, own_ext r.o2 e, own_ext r.o3 e, r.d12, r.d13, r.d23⟩
theorem Rows3.far {N g : Nat} {u v w : Value} {c d h : List (Int × Int)} {W W' : World} (r : Rows3 N u v w c d h W) (e : W.grownBy W' (some g)) (hg : g < N) : Rows3 N u v w c d h W' := ⟨own_far r.o1 e hg, own_far r.o2 e hg, own_far r.o3 e hg, r.d12, r.d13, r.d23⟩
theorem Rows3.only {N p : Nat} {T : List TypeId} {u v w : Value} {c d h : List (Int × Int)} {W W' : World} (r : Rows3 N u v w c d h W) (e : Only p T W W') (ht : 51 ∉ T) : Rows3 N u v w c d h W' := ⟨e.own r.o1 ht, e.own r.o2 ht, e.own r.o3 ht, r.d12, r.d13, r.d23⟩
theorem Rows3.rot {N : Nat} {u v w : Value} {c d h : List (Int × Int)} {W : World} (r : Rows3 N u v w c d h W) : Rows3 N v w u d h c W := ⟨r.o2, r.o3, r.o1, r.d23, r.d12.symm, r.d13.symm⟩
theorem pair_app (c : List (Int × Int)) (p : Int × Int) : c.flatMap pairC ++ pairC p = (c ++ [p]).flatMap pairC := by simp
/-- One of them is appended to. -/
theorem Rows3.app {N : Nat} {u v w u' : Value} {c d h : List (Int × Int)} {p : Int × Int} {W W' : World} (r : Rows3 N u v w c d h W) (a : Appended W N 51 2 u (c.length + 1) (c.flatMap pairC ++ pairC p) u' W') : Rows3 N u' v w (c ++ [p]) d h W' := by
  have h1 := a.other r.o2 r.d12.symm
  have h2 := a.other r.o3 r.d13.symm
  refine ⟨?_, h1.1, h2.1, h1.2.symm, h2.2.symm, r.d23⟩
  have := a.own
  rw [pair_app] at this
  rw [List.length_append]
  exact this
/-- Behind k rounds of the first loop of Where. -/
structure W1At (w2 wr : World) (lb pb N : Nat) (s : WSt) : Prop where
  ext : Only lb [51, 3, 45] w2 wr
  pg : wr.heap[pb]? = some (.cells #[.int .i64 s.page] 3)
  lay : ∃ u v h, wr.heap[lb]? = some (.cells #[u, v, h, .slice none 0 0, .int .i64 0] 45) ∧ Rows3 N u v h s.code s.data s.heap wr
/-- Behind k rounds of the second loop of Where. -/
structure W2At (w2 wr : World) (lb pb N : Nat) (s : WSt) (k : Nat) : Prop where
  ext : Only lb [51, 3, 45] w2 wr
  pg : wr.heap[pb]? = some (.cells #[.int .i64 (s.page + k)] 3)
  lay : ∃ u v h t, wr.heap[lb]? = some (.cells #[u, v, h, t, .int .i64 0] 45) ∧ Rows3 N u v h s.code s.data s.heap wr ∧ wr.ownsRow N 3 1 t k (((List.range k).map fun i : Nat => Value.int .i64 ((s.page + i) * 256)))
/-- A layout as it lies. -/
structure LayM where
  Ac : Option Addr
  kc : Nat
  code : List (Int × Int)
  Ad : Option Addr
  kd : Nat
  data : List (Int × Int)
  Ah : Option Addr
  kh : Nat
  heap : List (Int × Int)
  As : Option Addr
  ks : Nat
  shares : List Int
  pages : Int
abbrev LayM.val (y : LayM) : Value := .agg #[.slice y.Ac y.code.length y.kc, .slice y.Ad y.data.length y.kd, .slice y.Ah y.heap.length y.kh, .slice y.As y.shares.length y.ks, .int .i64 y.pages]
def LayM.d (y : LayM) : LayD := ⟨y.code, y.data, y.heap, y.shares, y.pages⟩
structure LayAt (W : World) (y : LayM) : Prop where
  code : Arr W y.Ac (y.code.flatMap pairC)
  data : Arr W y.Ad (y.data.flatMap pairC)
  heap : Arr W y.Ah (y.heap.flatMap pairC)
  shares : Arr W y.As (y.shares.map (Value.int .i64 ·))
  lc : y.code.length ≤ y.kc
  ld : y.data.length ≤ y.kd
  lh : y.heap.length ≤ y.kh
  ls : y.shares.length ≤ y.ks
theorem LayAt.ext {W W' : World} {y : LayM} (h : LayAt W y) (e : Ext W W') : LayAt W' y := ⟨h.code.ext e, h.data.ext e, h.heap.ext e, h.shares.ext e, h.lc, h.ld, h.lh, h.ls⟩
def WherePost (w : World) (x : ImgD) (e : Ending) (w' : World) : Prop := ∃ y : LayM, LayAt w' y ∧ y.d = whereD x ∧ e = .returned y.val ∧ Ext w w'
theorem set5 {W : World} {p q : Nat} {a0 a1 a2 a3 a4 : Value} {t : TypeId} (hq : W.heap[q]? = some (.cells #[a0, a1, a2, a3, a4] t)) (hp : p ≤ q) (v0 v1 v2 v3 v4 : Value) :
    (((((W.setCell ⟨q, 0, none⟩ v0).setCell ⟨q, 1, none⟩ v1).setCell ⟨q, 2, none⟩ v2).setCell ⟨q, 3, none⟩ v3).setCell ⟨q, 4, none⟩ v4).heap[q]? = some (.cells #[v0, v1, v2, v3, v4] t) ∧
    Only p [t] W (((((W.setCell ⟨q, 0, none⟩ v0).setCell ⟨q, 1, none⟩ v1).setCell ⟨q, 2, none⟩ v2).setCell ⟨q, 3, none⟩ v3).setCell ⟨q, 4, none⟩ v4) := by
  have st : ∀ {X : World} {C : Array Value} {f : Nat × Nat} (o : Nat) (v : Value), X.heap[q]? = some (.cells C t f) → (X.setCell ⟨q, o, none⟩ v).heap[q]? = some (.cells (C.setIfInBounds o v) t f) ∧ Only p [t] X (X.setCell ⟨q, o, none⟩ v) := fun o v h =>
    ⟨set_row h v, Only.set h hp (by simp) v⟩
  obtain ⟨h0, o0⟩ := st 0 v0 hq
  obtain ⟨h1, o1⟩ := st 1 v1 h0
  obtain ⟨h2, o2⟩ := st 2 v2 h1
  obtain ⟨h3, o3⟩ := st 3 v3 h2
  obtain ⟨h4, o4⟩ := st 4 v4 h3
  exact ⟨by rw [h4]; rfl, (((o0.trans o1).trans o2).trans o3).trans o4⟩
theorem arr_own {w : World} {base n c : Nat} {e : TypeId} {size : Nat} {A : Option Addr} {cs : List Value} (h : w.ownsRow base e size (.slice A n c) n cs) : Arr w A cs := by
  obtain ⟨A', c', he, -, hA⟩ := Arr.own h
  simp only [Value.slice.injEq] at he
  rw [he.1]
  exact hA
theorem infoIntW : (Try.prog.info? 3).map (fun i => (i.zero, i.size, i.bytes)) = some (some (.int .i64 0), 1, 8) := by kernel_rfl
theorem lie5 {w W : World} {b : Nat} {v0 v1 v2 v3 v4 : Value} {t : TypeId} (hB : w.heap[b]? = some (.cells #[v0, v1, v2, v3, v4] t)) (hE : Ext w W) :
    W.cell? ⟨b, 0, none⟩ = some v0 ∧ W.cell? ⟨b, 1, none⟩ = some v1 ∧ W.cell? ⟨b, 2, none⟩ = some v2 ∧ W.cell? ⟨b, 3, none⟩ = some v3 ∧ W.cell? ⟨b, 4, none⟩ = some v4 := by
  have h := (hE.block b (Array.getElem?_eq_some_iff.1 hB).1).trans hB
  exact ⟨by simp [World.cell?, h], by simp [World.cell?, h], by simp [World.cell?, h], by simp [World.cell?, h], by simp [World.cell?, h]⟩
theorem infoPair : (Try.prog.info? 51).map (fun i => (i.zero, i.size, i.bytes)) = some (some (.agg #[.int .i64 0, .int .i64 0]), 2, 16) := by kernel_rfl

set_option maxHeartbeats 4000000 in
set_option maxRecDepth 100000 in
theorem where_at (st : Bool) (hp fu : Int) (Ac : Option Addr) (cc : Nat) (cs : List CompM) (Al : Option Addr) (cl : Nat) (ls : List LinkM) (As : Option Addr) (cS : Nat) (ss : List ShareM) (w : World) (h : ImgAt w ⟨st, hp, fu, Ac, cc, cs, Al, cl, ls, As, cS, ss⟩) (hn1 : cs.length ≤ 4) (hn3 : ss.length ≤ 4) (hh0 : 0 ≤ hp) (hh1 : hp ≤ 64) (hn4 : ∀ c ∈ cs, c.code.length ≤ 4096 ∧ 0 ≤ c.data ∧ c.data ≤ 8) (hr : ∀ w, ImgAt w ⟨st, hp, fu, Ac, cc, cs, Al, cl, ls, As, cS, ss⟩ → Calls Try.prog 14 #[.agg #[.bool st, .int .i64 hp, .int .i64 fu, .slice Ac cs.length cc, .slice Al ls.length cl, .slice As ss.length cS]] w fun e w' => e = .returned (.bool true) ∧ Ext w w') (hrd : rightD ⟨st, hp, fu, cs.map CompM.d, ls, ss⟩ = true) :
    Calls Try.prog 22 #[.agg #[.bool st, .int .i64 hp, .int .i64 fu, .slice Ac cs.length cc, .slice Al ls.length cl, .slice As ss.length cS]] w (WherePost w ⟨st, hp, fu, cs.map CompM.d, ls, ss⟩) := by
  have H := Lib.hid h
  have HR := Lib.hid hr
  have HRD := Lib.hid hrd
  have HN4 := Lib.hid hn4
  have hpage : ∀ k, k ≤ cs.length → 1 ≤ (whC hp (cs.map CompM.d) k).page ∧ (whC hp (cs.map CompM.d) k).page ≤ 1 + 100 * k := fun k hk => whC_page hh0 hh1 (fun c hc => by obtain ⟨y, hy, rfl⟩ := List.mem_map.1 hc; exact hn4 y hy) k (by simpa using hk)
  have HPG := Lib.hid hpage
  clear h hr hn4 hpage hrd
  go_enter Try.func22, Try.ntmps22
  go_wp2_with fail
  refine (HR.out _ (H.out.ext (by repeat first | (with_reducible exact Below.refl _ _) | (with_reducible apply Ext.alloc) | (with_reducible apply Ext.drew) | (with_reducible apply Ext.drewN) | (with_reducible refine Ext.set ?_ (by simp))))).mono ?_
  rintro e w2 ⟨rfl, hb2⟩
  obtain ⟨I2, J2, L2⟩ := new3 hb2
  have E2 : Ext w w2 := Ext.then (by repeat first | (with_reducible exact Below.refl _ _) | (with_reducible apply Ext.alloc) | (with_reducible apply Ext.drew) | (with_reducible apply Ext.drewN) | (with_reducible refine Ext.set ?_ (by simp))) hb2
  have hs2 : w.heap.size + 3 ≤ w2.heap.size := by have := hb2.size; simpa using this
  obtain ⟨w3, hw3⟩ : ∃ w3, w3 = w2.alloc (.cells #[.int .i64 1] 3) := ⟨_, rfl⟩
  have e23 : Ext w2 w3 := by rw [hw3]; exact (by repeat first | (with_reducible exact Below.refl _ _) | (with_reducible apply Ext.alloc) | (with_reducible apply Ext.drew) | (with_reducible apply Ext.drewN) | (with_reducible refine Ext.set ?_ (by simp)))
  have I3 := (e23.block _ (by omega)).trans I2
  have J3 := (e23.block _ (by omega)).trans J2
  have M0 : W1At w3 w3 (w.heap.size + 1 + 1) w2.heap.size (w2.heap.size + 1) (whC hp (cs.map CompM.d) 0) :=
    ⟨Only.refl _ _ _, by rw [hw3]; exact heap_alloc_new _ _, _, _, _, (e23.block _ (by omega)).trans L2, World.ownsRow_nil _ _ _ _, World.ownsRow_nil _ _ _ _, World.ownsRow_nil _ _ _ _, Dis.nil _, Dis.nil _, Dis.nil _⟩
  obtain ⟨z0, z1, z2, z3, z4, z5⟩ := lie6 I2 (Below.refl _ w2)
  have hs3 : w2.heap.size + 1 ≤ w3.heap.size := by rw [hw3]; simp
  have HM0 := Lib.hid M0
  have HI := Lib.hid (And.intro I3 (And.intro J3 (E2.then e23)))
  have HW3 := Lib.hid hw3
  have hlt : w.heap.size < w2.heap.size := by omega
  clear hw3 I2 J2 L2 I3 J3 M0 hb2 e23 E2
  go_wp2_with fail
  rw [← HW3.out]
  go_loopw [17] (fun i wr => ∃ k : Nat, k ≤ cs.length ∧ i = .int .i64 (k : Int) ∧ W1At w3 wr (w.heap.size + 1 + 1) w2.heap.size (w2.heap.size + 1) (whC hp (cs.map CompM.d) k)) (fun i _ => cs.length - (intOf i).toNat)
  case atStart => exact ⟨0, Nat.zero_le _, rfl, HM0.out⟩
  case round =>
    clear HM0 z0 z1 z2 z3 z4 z5
    obtain ⟨k, hk, rfl, hM⟩ := hrel
    by_cases hlt : k < cs.length
    · have hE : Ext w wr := Only.below HI.out.2.2 (by omega) hM.ext
      obtain ⟨b1, o1, rfl, hb1, q1⟩ := H.out.comps.flat (s := 2) (fun _ => rfl) (by decide) hlt
      have x0 := ext_cell hE _ _ (q1 0 _ rfl)
      have x1 := ext_cell hE _ _ (q1 1 _ rfl)
      simp only [Nat.zero_mul, Nat.add_zero] at x0
      clear q1
      have hcl := HN4.out cs[k] (List.getElem_mem hlt)
      have hpk := HPG.out k hk
      have hst : whC hp (cs.map CompM.d) (k + 1) = ⟨(whC hp (cs.map CompM.d) k).page + ((cs[k].code.length : Int) + 255) / 256 + cs[k].data + hp, (whC hp (cs.map CompM.d) k).code ++ [((whC hp (cs.map CompM.d) k).page * 256, (whC hp (cs.map CompM.d) k).page * 256 + cs[k].code.length)], (whC hp (cs.map CompM.d) k).data ++ [(((whC hp (cs.map CompM.d) k).page + ((cs[k].code.length : Int) + 255) / 256) * 256, ((whC hp (cs.map CompM.d) k).page + ((cs[k].code.length : Int) + 255) / 256 + cs[k].data) * 256)], (whC hp (cs.map CompM.d) k).heap ++ [(((whC hp (cs.map CompM.d) k).page + ((cs[k].code.length : Int) + 255) / 256 + cs[k].data) * 256, ((whC hp (cs.map CompM.d) k).page + ((cs[k].code.length : Int) + 255) / 256 + cs[k].data + hp) * 256)]⟩ := by
        simp [whC, List.getElem?_eq_getElem hlt, CompM.d]
      generalize hcc : cs[k] = c at x0 x1 hcl hst
      clear hcc
      generalize hss : whC hp (cs.map CompM.d) k = s at hM hpk hst
      have HSS := Lib.hid hss
      clear hss
      have HM := Lib.hid hM
      have hpbl : w2.heap.size < wr.heap.size := (Array.getElem?_eq_some_iff.1 hM.pg).1
      obtain ⟨X, hX⟩ : ∃ X, X = wr.alloc (.cells #[.slice c.A c.code.length c.cap, .int .i64 c.data] 53) := ⟨_, rfl⟩
      have eX : Ext wr X := by rw [hX]; exact (by repeat first | (with_reducible exact Below.refl _ _) | (with_reducible apply Ext.alloc) | (with_reducible apply Ext.drew) | (with_reducible apply Ext.drewN) | (with_reducible refine Ext.set ?_ (by simp)))
      obtain ⟨nn, hnn⟩ : ∃ nn, nn = ((c.code.length : Int) + 255) / 256 := ⟨_, rfl⟩
      have hn0 : 0 ≤ nn ∧ nn ≤ 16 := by omega
      rw [← hnn] at hst
      have HST := Lib.hid hst
      have HNN := Lib.hid hnn
      clear hst hnn
      have HC := Lib.hid (take_img X w2.heap.size s.page nn ((eX.block _ hpbl).trans hM.pg) (by omega) (by omega) (by omega) (by omega))
      have cX : X.heap[wr.heap.size]? = some (.cells #[.slice c.A c.code.length c.cap, .int .i64 c.data] 53) := by rw [hX]; exact heap_alloc_new _ _
      have hlX := (Array.getElem?_eq_some_iff.1 cX).1
      have c0 : X.cell? ⟨wr.heap.size, 0, none⟩ = some (.slice c.A c.code.length c.cap) := by simp [World.cell?, cX]
      have HX := Lib.hid (And.intro hX (And.intro eX cX))
      clear hM
      go_wp2_with fail
      rw [← hX, show ((c.code.length : Int) + 256 - 1) / 256 = nn by rw [HNN.out]; congr 1; omega]
      clear hX eX cX
      refine HC.out.mono ?_
      rintro _ Y ⟨rfl, hg, hpY⟩
      have hlY : wr.heap.size < Y.heap.size := Nat.lt_of_lt_of_le hlX hg.size
      have cY := (hg.block _ hlX (by simp; omega)).trans HX.out.2.2
      have y0 : Y.cell? ⟨wr.heap.size, 0, none⟩ = some (.slice c.A c.code.length c.cap) := by simp [World.cell?, cY]
      have y1 : Y.cell? ⟨wr.heap.size, 1, none⟩ = some (.int .i64 c.data) := by simp [World.cell?, cY]
      have HY := Lib.hid (And.intro hg (And.intro hpY cY))
      clear hg hpY cY c0
      go_wp2_with fail
      obtain ⟨Z, hZ⟩ : ∃ Z, Z = Y.alloc (.cells #[.int .i64 (s.page * 256), .int .i64 (s.page * 256 + c.code.length)] 51) := ⟨_, rfl⟩
      rw [← hZ]
      have eZ : Ext Y Z := by rw [hZ]; exact (by repeat first | (with_reducible exact Below.refl _ _) | (with_reducible apply Ext.alloc) | (with_reducible apply Ext.drew) | (with_reducible apply Ext.drewN) | (with_reducible refine Ext.set ?_ (by simp)))
      have hpX := (HX.out.2.1.block _ hpbl).trans HM.out.pg
      have hXY : Only (w.heap.size + 1 + 1) [3] X Y := grown_only hpX (by omega) (by simp) HY.out.1
      have hOZ : Only (w.heap.size + 1 + 1) [51, 3, 45] w3 Z := (HM.out.ext.then HX.out.2.1).trans ((hXY.mono (Nat.le_refl _) (by simp)).then eZ)
      obtain ⟨vC, vD, vH, hl, hrw⟩ := HM.out.lay
      have hlZ : Z.heap[w.heap.size + 1 + 1]? = some (.cells #[vC, vD, vH, .slice none 0 0, .int .i64 0] 45) := (eZ.block _ (by omega)).trans (hXY.row ((HX.out.2.1.block _ (by omega)).trans hl) (by decide))
      have hrZ : Rows3 (w2.heap.size + 1) vC vD vH s.code s.data s.heap Z := ((hrw.ext HX.out.2.1).far HY.out.1 (Nat.lt_succ_self _)).ext eZ
      have hpZ := (eZ.block _ (by omega)).trans HY.out.2.1
      have hcZ := (eZ.block _ hlY).trans HY.out.2.2
      have hnZ : Z.heap[Y.heap.size]? = some (.cells #[.int .i64 (s.page * 256), .int .i64 (s.page * 256 + c.code.length)] 51) := by rw [hZ]; exact heap_alloc_new _ _
      have hsZ : w2.heap.size + 1 ≤ Z.drew.heap.size := Nat.le_trans (by omega) eZ.size
      have HZ := Lib.hid (And.intro hOZ (And.intro hlZ (And.intro hrZ (And.intro hpZ (And.intro hcZ hnZ)))))
      have hkl := whC_len hp (cs.map CompM.d) k
      rw [HSS.out] at hkl
      have hk1 : s.code.length ≤ 4 := by omega
      have hk2 : s.data.length ≤ 4 := by omega
      have hk3 : s.heap.length ≤ 4 := by omega
      clear hkl
      obtain ⟨p1, hp1⟩ : ∃ p1, p1 = s.page + nn := ⟨_, rfl⟩
      obtain ⟨p2, hp2⟩ : ∃ p2, p2 = p1 + c.data := ⟨_, rfl⟩
      obtain ⟨p3, hp3⟩ : ∃ p3, p3 = p2 + hp := ⟨_, rfl⟩
      have hb1 : 0 ≤ p1 ∧ p1 ≤ 1000000 := by omega
      have hb2 : 0 ≤ p2 ∧ p2 ≤ 1000000 := by omega
      have HPP := Lib.hid (And.intro hp1 (And.intro hp2 hp3))
      obtain ⟨ci, hci, hci0, hci1, hci2⟩ := info_parts infoPair
      clear hZ eZ hpX hXY hOZ hl hrw hlZ hrZ hpZ hcZ hnZ y0 y1 x0 x1 hp1 hp2 hp3
      refine wp_region_res (Only (w.heap.size + 1 + 1) [51, 3, 45]) [⟨none, [], [2]⟩, ⟨none, [], [10]⟩, ⟨some 10, [], [18]⟩, ⟨some 18, [], []⟩, ⟨none, [], [1, 6, 14, 22]⟩, ⟨some 22, [(4, [4])], [24]⟩, ⟨some 24, [(4, [4]), (12, [12])], [26]⟩, ⟨some 26, [(4, [4]), (12, [12]), (20, [20])], []⟩, ⟨some 3, [(3, [])], [4]⟩, ⟨some 11, [(11, [])], [12]⟩, ⟨some 19, [(19, [])], [20]⟩, ⟨none, [], [4]⟩, ⟨some 4, [(4, [])], [12]⟩, ⟨some 12, [(4, [10, 4]), (12, [])], [20]⟩, ⟨some 20, [(4, [18, 12, 10, 4]), (12, [18, 12]), (20, [])], []⟩] [(fun (u : Nat → Value) (W : World) => (fun (_ : Value) (W : World) => W.heap[Y.heap.size]? = some (.cells #[.int .i64 (s.page * 256), .int .i64 (s.page * 256 + c.code.length)] 51)) (undef) W), (fun (u : Nat → Value) (W : World) => (fun (_ : Value) (W : World) => W.heap[w2.heap.size]? = some (.cells #[.int .i64 (s.page + nn)] 3)) (undef) W), (fun (u : Nat → Value) (W : World) => (fun (_ : Value) (W : World) => W.heap[w2.heap.size]? = some (.cells #[.int .i64 p2] 3)) (undef) W), (fun (u : Nat → Value) (W : World) => (fun (_ : Value) (W : World) => W.heap[w2.heap.size]? = some (.cells #[.int .i64 p3] 3)) (undef) W), (fun (u : Nat → Value) (W : World) => (fun (_ : Value) (W : World) => W.heap[w.heap.size + 1 + 1]? = some (.cells #[vC, vD, vH, .slice none 0 0, .int .i64 0] 45)) (undef) W), (fun (u : Nat → Value) (W : World) => W.heap[w.heap.size + 1 + 1]? = some (.cells #[(u 4), vD, vH, .slice none 0 0, .int .i64 0] 45)), (fun (u : Nat → Value) (W : World) => W.heap[w.heap.size + 1 + 1]? = some (.cells #[(u 4), (u 12), vH, .slice none 0 0, .int .i64 0] 45)), (fun (u : Nat → Value) (W : World) => W.heap[w.heap.size + 1 + 1]? = some (.cells #[(u 4), (u 12), (u 20), .slice none 0 0, .int .i64 0] 45)), (fun (u : Nat → Value) (W : World) => (NewLit 0 1 (pairC (s.page * 256, s.page * 256 + c.code.length)) 51) (u 3) W), (fun (u : Nat → Value) (W : World) => (NewLit 0 1 (pairC (p1 * 256, p2 * 256)) 51) (u 11) W), (fun (u : Nat → Value) (W : World) => (NewLit 0 1 (pairC (p2 * 256, p3 * 256)) 51) (u 19) W), (fun (u : Nat → Value) (W : World) => (fun (_ : Value) (W : World) => Rows3 (w2.heap.size + 1) vC vD vH s.code s.data s.heap W) (undef) W), (fun (u : Nat → Value) (W : World) => Rows3 (w2.heap.size + 1) (u 4) vD vH (s.code ++ [(s.page * 256, s.page * 256 + c.code.length)]) s.data s.heap W), (fun (u : Nat → Value) (W : World) => Rows3 (w2.heap.size + 1) (u 4) (u 12) vH (s.code ++ [(s.page * 256, s.page * 256 + c.code.length)]) (s.data ++ [(p1 * 256, p2 * 256)]) s.heap W), (fun (u : Nat → Value) (W : World) => Rows3 (w2.heap.size + 1) (u 4) (u 12) (u 20) (s.code ++ [(s.page * 256, s.page * 256 + c.code.length)]) (s.data ++ [(p1 * 256, p2 * 256)]) (s.heap ++ [(p2 * 256, p3 * 256)]) W)] [⟨[], [.keep, .keep, .early [4, 1, 0], .early [12, 10, 4, 1, 0], .keep, .early [0], .early [0], .early [0], .keep, .early [10, 4, 1, 0], .early [18, 12, 10, 4, 1, 0], .keep, .early [1, 0], .early [10, 4, 1, 0], .early [18, 12, 10, 4, 1, 0]]⟩, ⟨[(4, [])], [.keep, .keep, .early [4, 1], .early [12, 10, 4, 1], .keep, .early [1], .early [1], .early [1], .keep, .early [10, 4, 1], .early [18, 12, 10, 4, 1], .keep, .early [1], .early [10, 4, 1], .early [18, 12, 10, 4, 1]]⟩, ⟨[(0, [])], [.late [[]], .keep, .early [4, 3, 2], .early [12, 10, 4, 3, 2], .keep, .early [2], .early [2], .early [2], .early [2], .early [10, 4, 3, 2], .early [18, 12, 10, 4, 3, 2], .keep, .early [3, 2], .early [10, 4, 3, 2], .early [18, 12, 10, 4, 3, 2]]⟩, ⟨[], [.late [[2]], .keep, .early [4, 3], .early [12, 10, 4, 3], .keep, .early [3], .early [3], .early [3], .last, .early [10, 4, 3], .early [18, 12, 10, 4, 3], .keep, .early [3], .early [10, 4, 3], .early [18, 12, 10, 4, 3]]⟩, ⟨[(8, [3]), (11, [])], [.late [[3, 2]], .keep, .early [4], .early [12, 10, 4], .keep, .early [4], .early [4], .early [4], .late [[]], .early [10, 4], .early [18, 12, 10, 4], .late [[]], .last, .early [10, 4], .early [18, 12, 10, 4]]⟩, ⟨[], [.keep, .keep, .keep, .early [12, 6, 5], .keep, .early [5], .early [5], .early [5], .keep, .keep, .early [18, 12, 6, 5], .keep, .keep, .early [6, 5], .early [18, 12, 6, 5]]⟩, ⟨[(4, [])], [.keep, .keep, .keep, .early [12, 6], .keep, .early [6], .early [6], .early [6], .keep, .keep, .early [18, 12, 6], .keep, .keep, .early [6], .early [18, 12, 6]]⟩, ⟨[], [.keep, .keep, .early [7], .early [12, 10, 7], .keep, .early [20, 18, 12, 10, 7], .early [7], .early [7], .keep, .early [10, 7], .early [18, 12, 10, 7], .keep, .keep, .early [10, 7], .early [18, 12, 10, 7]]⟩, ⟨[], [.keep, .keep, .early [9, 8], .early [12, 10, 9, 8], .keep, .early [20, 18, 12, 10, 9, 8], .early [8], .early [8], .keep, .early [10, 9, 8], .early [18, 12, 10, 9, 8], .keep, .keep, .early [10, 9, 8], .early [18, 12, 10, 9, 8]]⟩, ⟨[], [.keep, .keep, .early [9], .early [12, 10, 9], .keep, .early [20, 18, 12, 10, 9], .early [9], .early [9], .keep, .early [10, 9], .early [18, 12, 10, 9], .keep, .keep, .early [10, 9], .early [18, 12, 10, 9]]⟩, ⟨[(1, [])], [.late [[4, 3, 2]], .late [[]], .last, .early [12, 10], .keep, .early [20, 18, 12, 10], .early [10], .early [10], .late [[4]], .early [10], .early [18, 12, 10], .late [[4]], .keep, .early [10], .early [18, 12, 10]]⟩, ⟨[], [.late [[10, 4, 3, 2]], .late [[10]], .keep, .early [12, 11], .keep, .early [20, 18, 12, 11], .early [11], .early [11], .late [[10, 4]], .last, .early [18, 12, 11], .late [[10, 4]], .keep, .early [11], .early [18, 12, 11]]⟩, ⟨[(9, [11]), (12, [10, 4])], [.late [[10, 4, 3, 2]], .late [[10]], .keep, .early [12], .keep, .early [20, 18, 12], .early [12], .early [12], .late [[10, 4]], .late [[]], .early [18, 12], .late [[10, 4]], .late [[]], .last, .early [18, 12]]⟩, ⟨[], [.keep, .keep, .keep, .keep, .keep, .early [13], .early [13], .early [13], .keep, .keep, .keep, .keep, .keep, .keep, .early [14, 13]]⟩, ⟨[(4, [])], [.keep, .keep, .keep, .keep, .keep, .early [14], .early [14], .early [14], .keep, .keep, .keep, .keep, .keep, .keep, .early [14]]⟩, ⟨[], [.keep, .keep, .keep, .early [15], .keep, .early [20, 18, 15], .early [22, 20, 18, 15], .early [15], .keep, .keep, .early [18, 15], .keep, .keep, .keep, .early [18, 15]]⟩, ⟨[], [.keep, .keep, .keep, .early [17, 16], .keep, .early [20, 18, 17, 16], .early [22, 20, 18, 17, 16], .early [16], .keep, .keep, .early [18, 17, 16], .keep, .keep, .keep, .early [18, 17, 16]]⟩, ⟨[], [.keep, .keep, .keep, .early [17], .keep, .early [20, 18, 17], .early [22, 20, 18, 17], .early [17], .keep, .keep, .early [18, 17], .keep, .keep, .keep, .early [18, 17]]⟩, ⟨[(2, [12, 10])], [.late [[12, 10, 4, 3, 2]], .late [[12, 10]], .late [[]], .last, .keep, .early [20, 18], .early [22, 20, 18], .early [18], .late [[12, 10, 4]], .late [[12]], .early [18], .late [[12, 10, 4]], .late [[12]], .keep, .early [18]]⟩, ⟨[(3, [18])], [.late [[18, 12, 10, 4, 3, 2]], .late [[18, 12, 10]], .late [[18]], .keep, .keep, .early [20, 19], .early [22, 20, 19], .early [19], .late [[18, 12, 10, 4]], .late [[18, 12]], .last, .late [[18, 12, 10, 4]], .late [[18, 12]], .keep, .early [19]]⟩, ⟨[(3, [18]), (10, [19]), (13, [18, 12])], [.late [[18, 12, 10, 4, 3, 2]], .late [[18, 12, 10]], .late [[18]], .keep, .keep, .early [20], .early [22, 20], .early [20], .late [[18, 12, 10, 4]], .late [[18, 12]], .late [[]], .late [[18, 12, 10, 4]], .late [[18, 12]], .late [[]], .last]⟩, ⟨[], [.late [[2]], .keep, .keep, .keep, .keep, .early [21], .early [21], .early [21], .late [[4]], .keep, .keep, .late [[4]], .keep, .keep, .keep]⟩, ⟨[(3, [20, 18]), (4, []), (14, [20])], [.late [[2]], .late [[20, 18, 12, 10]], .late [[20, 18]], .keep, .late [[1], [6], [14], []], .last, .early [22], .early [22], .late [[4]], .late [[20, 18, 12]], .late [[20]], .late [[4]], .late [[20, 18, 12]], .late [[20]], .keep]⟩, ⟨[(3, [22, 20, 18]), (14, [22, 20])], [.late [[2]], .late [[10]], .late [[22, 20, 18]], .keep, .late [[1], [6], [14], [22]], .keep, .early [23], .early [23], .late [[4]], .late [[12]], .late [[22, 20]], .late [[4]], .late [[12]], .late [[22, 20]], .keep]⟩, ⟨[(3, [22, 20, 18]), (5, [22]), (14, [22, 20])], [.late [[2]], .late [[10]], .late [[22, 20, 18]], .keep, .late [[1], [6], [14], [22]], .late [[]], .last, .early [24], .late [[4]], .late [[12]], .late [[22, 20]], .late [[4]], .late [[12]], .late [[22, 20]], .keep]⟩, ⟨[(3, [18]), (14, [20])], [.late [[2]], .late [[10]], .late [[18]], .keep, .late [[1], [6], [14], [22]], .late [[24]], .keep, .early [25], .late [[4]], .late [[12]], .late [[20]], .late [[4]], .late [[12]], .late [[20]], .keep]⟩, ⟨[(3, [18]), (6, [24]), (14, [20])], [.late [[2]], .late [[10]], .late [[18]], .keep, .late [[1], [6], [14], [22]], .late [[24]], .late [[]], .last, .late [[4]], .late [[12]], .late [[20]], .late [[4]], .late [[12]], .late [[20]], .keep]⟩] [36, 37, 38, 39, 40, 41, 42, 43, 44, 45, 46, 47, 48, 49, 50, 51, 52, 53, 54, 55, 56, 57, 58, 59] (by kernel_rfl) (Only.refl _ _) (fun _ _ _ => Only.trans) (by kernel_rfl) (by kernel_rfl) (by kernel_rfl) (by kernel_rfl) (by kernel_rfl) ?start ?_
      case start =>
        refine And.intro ?_ ?_
        · exact HZ.out.2.2.2.2.2
        refine And.intro ?_ ?_
        · exact HZ.out.2.2.2.1
        refine And.intro ?_ ?_
        · exact HZ.out.2.1
        refine And.intro ?_ ?_
        · exact HZ.out.2.2.1.ext (by repeat first | (with_reducible exact Below.refl _ _) | (with_reducible apply Ext.alloc) | (with_reducible apply Ext.drew) | (with_reducible apply Ext.drewN) | (with_reducible refine Ext.set ?_ (by simp)))
        exact trivial
      apply ex_is; apply Exists.intro
      apply ex_is; apply Exists.intro
      apply ex_is; apply Exists.intro
      refine ex_phi (fun _ _ => True) ?_
      refine ex_phi (fun _ _ => True) ?_
      apply ex_is; apply Exists.intro
      apply ex_is; apply Exists.intro
      apply ex_is; apply Exists.intro
      apply ex_is; apply Exists.intro
      apply ex_is; apply Exists.intro
      apply ex_is; apply Exists.intro
      refine ex_phi (fun _ _ => True) ?_
      refine ex_phi (fun _ _ => True) ?_
      apply ex_is; apply Exists.intro
      apply ex_is; apply Exists.intro
      apply ex_is; apply Exists.intro
      apply ex_is; apply Exists.intro
      apply ex_is; apply Exists.intro
      apply ex_is; apply Exists.intro
      refine ex_phi (fun _ _ => True) ?_
      refine ex_phi (fun _ _ => True) ?_
      apply ex_is; apply Exists.intro
      refine ex_phi (fun _ _ => True) ?_
      apply ex_is; apply Exists.intro
      refine ex_phi (fun _ _ => True) ?_
      apply ex_is; apply Exists.intro
      refine ex_phi (fun _ _ => True) ?_
      refine ⟨[], ⟨?steps, ?stab, ?ends⟩⟩
      case steps =>
        refine And.intro (obX_pure (Only.refl _ _) ?_) ?_
        · intro act W hR hf ho hu K hK
          replace hK := fun v h2 => hK v W rfl h2 trivial
          have G : act.tmps[3]?.getD undef = _ ∧ True := ho
          obtain ⟨g3, -⟩ := G
          clear ho hf hu
          go_simp
          exact hK _ (Eq.refl _)
        refine And.intro (obX_pure (Only.refl _ _) ?_) ?_
        · intro act W hR hf ho hu K hK
          replace hK := fun v h2 => hK v W rfl h2 trivial
          have F : act.tmps[36]?.getD undef = _ ∧ True := hf
          obtain ⟨f0, -⟩ := F
          have U : (fun (_ : Value) (W : World) => W.heap[w.heap.size + 1 + 1]? = some (.cells #[vC, vD, vH, .slice none 0 0, .int .i64 0] 45)) (undef) W ∧ True := hu
          obtain ⟨r_lay, -⟩ := U
          clear ho hf hu
          have zl := cell_at r_lay 0 vC rfl
          go_simp
          exact hK _ (Eq.refl _)
        refine And.intro (obX_pure (Only.refl _ _) ?_) ?_
        · intro act W hR hf ho hu K hK
          replace hK := fun v h2 => hK v W rfl h2 trivial
          have G : act.tmps[8]?.getD undef = _ ∧ True := ho
          obtain ⟨g8, -⟩ := G
          have U : (fun (_ : Value) (W : World) => W.heap[Y.heap.size]? = some (.cells #[.int .i64 (s.page * 256), .int .i64 (s.page * 256 + c.code.length)] 51)) (undef) W ∧ True := hu
          obtain ⟨r_rn, -⟩ := U
          clear ho hf hu
          have zl := cell_at r_rn 0 (.int .i64 (s.page * 256)) rfl; have zl1 := cell_at r_rn 1 (.int .i64 (s.page * 256 + c.code.length)) rfl
          go_simp
          exact hK _ (Eq.refl _)
        refine And.intro (obX_eff (Ext) (fun _ _ h => Only.ext h) (And.intro (fun _ _ _ h e => (Only.ext (B := 0) (T := []) e).row h (by simp)) (And.intro (fun _ _ _ h e => (Only.ext (B := 0) (T := []) e).row h (by simp)) (And.intro (fun _ _ _ h e => h.ext e) (trivial)))) ?_) ?_
        · intro act W hR hf ho hu K hK
          replace hK := fun v (w' : World) (h1 : (Ext) W w') (b8 : (NewLit 0 1 (pairC (s.page * 256, s.page * 256 + c.code.length)) 51) (v) w') => hK v w' h1 trivial ⟨b8, trivial⟩
          have F : act.tmps[38]?.getD undef = _ ∧ True := hf
          obtain ⟨f2, -⟩ := F
          clear ho hf hu
          go_simp
          exact hK _ _ (by repeat first | (with_reducible exact Below.refl _ _) | (with_reducible apply Ext.alloc) | (with_reducible apply Ext.drew) | (with_reducible apply Ext.drewN) | (with_reducible refine Ext.set ?_ (by simp))) (NewLit.new (Nat.zero_le _))
        refine And.intro (obX_eff (Only (w2.heap.size + 1) [51]) (fun _ _ h => h.mono (by omega) (by simp)) (And.intro (fun _ _ _ h e => e.row h (by decide)) (And.intro (fun _ _ _ h e => e.row h (by decide)) (trivial))) ?_) ?_
        · intro act W hR hf ho hu K hK
          replace hK := fun v (w' : World) (h1 : (Only (w2.heap.size + 1) [51]) W w') (b12 : (fun (W : World) => Rows3 (w2.heap.size + 1) ((v)) vD vH (s.code ++ [(s.page * 256, s.page * 256 + c.code.length)]) s.data s.heap W) w') => hK v w' h1 trivial ⟨b12, trivial⟩
          have F : act.tmps[37]?.getD undef = _ ∧ (fun _ _ => True) (act.tmps[39]?.getD undef) W ∧ True := hf
          obtain ⟨f1, -, -⟩ := F
          have U : (NewLit 0 1 (pairC (s.page * 256, s.page * 256 + c.code.length)) 51) (act.tmps[39]?.getD undef) W ∧ (fun (_ : Value) (W : World) => Rows3 (w2.heap.size + 1) vC vD vH s.code s.data s.heap W) (undef) W ∧ True := hu
          obtain ⟨r_n3, r_rws0, -⟩ := U
          generalize f3 : act.tmps[39]?.getD undef = v3 at r_n3
          clear ho hf hu
          obtain ⟨b3, rfl, -, hl3⟩ := r_n3; have hWp : w2.heap.size + 1 ≤ W.heap.size := Nat.le_trans hsZ hR.size
          dsimp only [Option.elim] at f1
          rw [← seen_eq]; refine step_append_far W rfl (.tmp 37) (.tmp 39) 42 rfl (w2.heap.size + 1) 51 ci (.agg #[.int .i64 0, .int .i64 0]) 2 16 Try.underlying42 hci hci0 hci1 hci2 rfl (by decide) _ _ _ (eval_get f1) r_rws0.o1 ⟨b3, 0, none⟩ 1 1 (pairC (s.page * 256, s.page * 256 + c.code.length)) (eval_get f3) (lit_cells hl3) rfl (by simp [Value.oneCell']) (by unfold maxLen; omega) (by omega) hWp ?_; intro v' w' ha; exact hK _ _ (Only.grown r_rws0.o1 ha.grown (by simp)) (r_rws0.app ha)
        refine And.intro (obX_pure (Only.refl _ _) ?_) ?_
        · intro act W hR hf ho hu K hK
          replace hK := fun v h2 => hK v W rfl h2 trivial
          have G : act.tmps[3]?.getD undef = _ ∧ True := ho
          obtain ⟨g3, -⟩ := G
          clear ho hf hu
          go_simp
          exact hK _ (Eq.refl _)
        refine And.intro (obX_pure (Only.refl _ _) ?_) ?_
        · intro act W hR hf ho hu K hK
          replace hK := fun v h2 => hK v W rfl h2 trivial
          have F : act.tmps[41]?.getD undef = _ ∧ True := hf
          obtain ⟨f5, -⟩ := F
          have U : (fun (_ : Value) (W : World) => W.heap[w.heap.size + 1 + 1]? = some (.cells #[vC, vD, vH, .slice none 0 0, .int .i64 0] 45)) (undef) W ∧ True := hu
          obtain ⟨r_lay, -⟩ := U
          clear ho hf hu
          have zl := cell_at r_lay 1 vD rfl
          go_simp
          exact hK _ (Eq.refl _)
        refine And.intro (obX_pure (Only.refl _ _) ?_) ?_
        · intro act W hR hf ho hu K hK
          replace hK := fun v h2 => hK v W rfl h2 trivial
          have G : act.tmps[5]?.getD undef = _ ∧ True := ho
          obtain ⟨g5, -⟩ := G
          clear ho hf hu
          go_simp
          exact hK _ (Eq.refl _)
        refine And.intro (obX_pure (Only.refl _ _) ?_) ?_
        · intro act W hR hf ho hu K hK
          replace hK := fun v h2 => hK v W rfl h2 trivial
          have G : act.tmps[7]?.getD undef = _ ∧ True := ho
          obtain ⟨g7, -⟩ := G
          clear ho hf hu
          go_simp
          exact hK _ (Eq.refl _)
        refine And.intro (obX_pure (Only.refl _ _) ?_) ?_
        · intro act W hR hf ho hu K hK
          replace hK := fun v h2 => hK v W rfl h2 trivial
          have F : act.tmps[44]?.getD undef = _ ∧ True := hf
          obtain ⟨f8, -⟩ := F
          clear ho hf hu
          have zl := cell_at (hR.row HZ.out.2.2.2.2.1 (by decide)) 1 (.int .i64 c.data) rfl
          go_simp
          exact hK _ (Eq.refl _)
        refine And.intro (obX_eff (fun a b => a.grownBy b (some w2.heap.size) ∧ Only (w.heap.size + 1 + 1) [3] a b) (fun _ _ h => h.2.mono (Nat.le_refl _) (by simp)) (And.intro (fun _ _ _ h e => e.2.row h (by decide)) (And.intro (fun _ _ _ h e => h.far e.1 (Nat.lt_succ_self _)) (trivial))) ?_) ?_
        · intro act W hR hf ho hu K hK
          replace hK := fun v (w' : World) (h1 : (fun a b => a.grownBy b (some w2.heap.size) ∧ Only (w.heap.size + 1 + 1) [3] a b) W w') h2 (b2 : (fun (_ : Value) (W : World) => W.heap[w2.heap.size]? = some (.cells #[.int .i64 p2] 3)) (undef) w') => hK v w' h1 h2 ⟨b2, trivial⟩
          have F : act.tmps[43]?.getD undef = _ ∧ act.tmps[45]?.getD undef = _ ∧ (fun _ _ => True) (act.tmps[40]?.getD undef) W ∧ True := hf
          obtain ⟨f7, f9, -, -⟩ := F
          have U : (fun (_ : Value) (W : World) => W.heap[w2.heap.size]? = some (.cells #[.int .i64 (s.page + nn)] 3)) (undef) W ∧ True := hu
          obtain ⟨r_pg, -⟩ := U
          generalize f4 : act.tmps[40]?.getD undef = v4
          clear ho hf hu
          go_simp
          refine (take_img W w2.heap.size (s.page + nn) c.data r_pg (by omega) (by omega) (by omega) (by omega)).mono ?_; rintro _ W1 ⟨rfl, hg, hp⟩; rw [← HPP.out.1, ← HPP.out.2.1] at hp ⊢; exact hK _ _ ⟨hg, grown_only r_pg (by omega) (by simp) hg⟩ (Eq.refl _) hp
        refine And.intro (obX_eff (Ext) (fun _ _ h => Only.ext h) (And.intro (fun _ _ _ h e => (Only.ext (B := 0) (T := []) e).row h (by simp)) (And.intro (fun _ _ _ h e => (Only.ext (B := 0) (T := []) e).row h (by simp)) (And.intro (fun _ _ _ h e => h.ext e) (trivial)))) ?_) ?_
        · intro act W hR hf ho hu K hK
          replace hK := fun v (w' : World) (h1 : (Ext) W w') (b9 : (NewLit 0 1 (pairC (p1 * 256, p2 * 256)) 51) (v) w') => hK v w' h1 trivial ⟨b9, trivial⟩
          have F : act.tmps[46]?.getD undef = _ ∧ True := hf
          obtain ⟨f10, -⟩ := F
          clear ho hf hu
          go_simp
          exact hK _ _ (by repeat first | (with_reducible exact Below.refl _ _) | (with_reducible apply Ext.alloc) | (with_reducible apply Ext.drew) | (with_reducible apply Ext.drewN) | (with_reducible refine Ext.set ?_ (by simp))) (NewLit.new (Nat.zero_le _))
        refine And.intro (obX_eff (Only (w2.heap.size + 1) [51]) (fun _ _ h => h.mono (by omega) (by simp)) (And.intro (fun _ _ _ h e => e.row h (by decide)) (And.intro (fun _ _ _ h e => e.row h (by decide)) (trivial))) ?_) ?_
        · intro act W hR hf ho hu K hK
          replace hK := fun v (w' : World) (h1 : (Only (w2.heap.size + 1) [51]) W w') (b13 : (fun (W : World) => Rows3 (w2.heap.size + 1) ((act.tmps[40]?.getD undef)) ((v)) vH (s.code ++ [(s.page * 256, s.page * 256 + c.code.length)]) (s.data ++ [(p1 * 256, p2 * 256)]) s.heap W) w') => hK v w' h1 trivial ⟨b13, trivial⟩
          have F : act.tmps[42]?.getD undef = _ ∧ (fun _ _ => True) (act.tmps[47]?.getD undef) W ∧ act.tmps[46]?.getD undef = _ ∧ True := hf
          obtain ⟨f6, -, f10, -⟩ := F
          have U : (NewLit 0 1 (pairC (p1 * 256, p2 * 256)) 51) (act.tmps[47]?.getD undef) W ∧ (fun (W : World) => Rows3 (w2.heap.size + 1) ((act.tmps[40]?.getD undef)) vD vH (s.code ++ [(s.page * 256, s.page * 256 + c.code.length)]) s.data s.heap W) W ∧ True := hu
          obtain ⟨r_n11, r_rws1, -⟩ := U
          generalize f11 : act.tmps[47]?.getD undef = v11 at r_n11
          generalize f4 : act.tmps[40]?.getD undef = v4 at r_rws1 hK
          clear ho hf hu
          obtain ⟨b3, rfl, -, hl3⟩ := r_n11; have hWp : w2.heap.size + 1 ≤ W.heap.size := Nat.le_trans hsZ hR.size
          dsimp only [Option.elim] at f6
          dsimp only [Option.elim] at f10
          rw [← seen_eq]; refine step_append_far W rfl (.tmp 42) (.tmp 47) 42 rfl (w2.heap.size + 1) 51 ci (.agg #[.int .i64 0, .int .i64 0]) 2 16 Try.underlying42 hci hci0 hci1 hci2 rfl (by decide) _ _ _ (eval_get f6) r_rws1.o2 ⟨b3, 0, none⟩ 1 1 (pairC (p1 * 256, p2 * 256)) (eval_get f11) (lit_cells hl3) rfl (by simp [Value.oneCell']) (by unfold maxLen; omega) (by omega) hWp ?_; intro v' w' ha; exact hK _ _ (Only.grown r_rws1.o2 ha.grown (by simp)) ((r_rws1.rot.app ha).rot.rot)
        refine And.intro (obX_pure (Only.refl _ _) ?_) ?_
        · intro act W hR hf ho hu K hK
          replace hK := fun v h2 => hK v W rfl h2 trivial
          have G : act.tmps[3]?.getD undef = _ ∧ True := ho
          obtain ⟨g3, -⟩ := G
          clear ho hf hu
          go_simp
          exact hK _ (Eq.refl _)
        refine And.intro (obX_pure (Only.refl _ _) ?_) ?_
        · intro act W hR hf ho hu K hK
          replace hK := fun v h2 => hK v W rfl h2 trivial
          have F : act.tmps[49]?.getD undef = _ ∧ True := hf
          obtain ⟨f13, -⟩ := F
          have U : (fun (_ : Value) (W : World) => W.heap[w.heap.size + 1 + 1]? = some (.cells #[vC, vD, vH, .slice none 0 0, .int .i64 0] 45)) (undef) W ∧ True := hu
          obtain ⟨r_lay, -⟩ := U
          clear ho hf hu
          have zl := cell_at r_lay 2 vH rfl
          go_simp
          exact hK _ (Eq.refl _)
        refine And.intro (obX_pure (Only.refl _ _) ?_) ?_
        · intro act W hR hf ho hu K hK
          replace hK := fun v h2 => hK v W rfl h2 trivial
          have G : act.tmps[5]?.getD undef = _ ∧ True := ho
          obtain ⟨g5, -⟩ := G
          clear ho hf hu
          go_simp
          exact hK _ (Eq.refl _)
        refine And.intro (obX_pure (Only.refl _ _) ?_) ?_
        · intro act W hR hf ho hu K hK
          replace hK := fun v h2 => hK v W rfl h2 trivial
          have G : act.tmps[1]?.getD undef = _ ∧ True := ho
          obtain ⟨g1, -⟩ := G
          clear ho hf hu
          go_simp
          exact hK _ (Eq.refl _)
        refine And.intro (obX_pure (Only.refl _ _) ?_) ?_
        · intro act W hR hf ho hu K hK
          replace hK := fun v h2 => hK v W rfl h2 trivial
          have F : act.tmps[52]?.getD undef = _ ∧ True := hf
          obtain ⟨f16, -⟩ := F
          clear ho hf hu
          have zl := cell_at (hR.low ((HZ.out.1.low HI.out.1 (by omega))) (by omega)) 1 (.int .i64 hp) rfl
          go_simp
          exact hK _ (Eq.refl _)
        refine And.intro (obX_eff (fun a b => a.grownBy b (some w2.heap.size) ∧ Only (w.heap.size + 1 + 1) [3] a b) (fun _ _ h => h.2.mono (Nat.le_refl _) (by simp)) (And.intro (fun _ _ _ h e => e.2.row h (by decide)) (And.intro (fun _ _ _ h e => h.far e.1 (Nat.lt_succ_self _)) (trivial))) ?_) ?_
        · intro act W hR hf ho hu K hK
          replace hK := fun v (w' : World) (h1 : (fun a b => a.grownBy b (some w2.heap.size) ∧ Only (w.heap.size + 1 + 1) [3] a b) W w') h2 (b3 : (fun (_ : Value) (W : World) => W.heap[w2.heap.size]? = some (.cells #[.int .i64 p3] 3)) (undef) w') => hK v w' h1 h2 ⟨b3, trivial⟩
          have F : act.tmps[51]?.getD undef = _ ∧ act.tmps[53]?.getD undef = _ ∧ (fun _ _ => True) (act.tmps[48]?.getD undef) W ∧ True := hf
          obtain ⟨f15, f17, -, -⟩ := F
          have U : (fun (_ : Value) (W : World) => W.heap[w2.heap.size]? = some (.cells #[.int .i64 p2] 3)) (undef) W ∧ True := hu
          obtain ⟨r_pg1, -⟩ := U
          generalize f12 : act.tmps[48]?.getD undef = v12
          clear ho hf hu
          go_simp
          refine (take_img W w2.heap.size p2 hp r_pg1 (by omega) (by omega) (by omega) (by omega)).mono ?_; rintro _ W1 ⟨rfl, hg, hp⟩; rw [← HPP.out.2.2] at hp ⊢; exact hK _ _ ⟨hg, grown_only r_pg1 (by omega) (by simp) hg⟩ (Eq.refl _) hp
        refine And.intro (obX_eff (Ext) (fun _ _ h => Only.ext h) (And.intro (fun _ _ _ h e => (Only.ext (B := 0) (T := []) e).row h (by simp)) (And.intro (fun _ _ _ h e => (Only.ext (B := 0) (T := []) e).row h (by simp)) (And.intro (fun _ _ _ h e => h.ext e) (trivial)))) ?_) ?_
        · intro act W hR hf ho hu K hK
          replace hK := fun v (w' : World) (h1 : (Ext) W w') (b10 : (NewLit 0 1 (pairC (p2 * 256, p3 * 256)) 51) (v) w') => hK v w' h1 trivial ⟨b10, trivial⟩
          have F : act.tmps[54]?.getD undef = _ ∧ True := hf
          obtain ⟨f18, -⟩ := F
          have U : (fun (_ : Value) (W : World) => W.heap[w2.heap.size]? = some (.cells #[.int .i64 p3] 3)) (undef) W ∧ True := hu
          obtain ⟨r_pg2, -⟩ := U
          clear ho hf hu
          go_simp
          exact hK _ _ (by repeat first | (with_reducible exact Below.refl _ _) | (with_reducible apply Ext.alloc) | (with_reducible apply Ext.drew) | (with_reducible apply Ext.drewN) | (with_reducible refine Ext.set ?_ (by simp))) (NewLit.new (Nat.zero_le _))
        refine And.intro (obX_eff (Only (w2.heap.size + 1) [51]) (fun _ _ h => h.mono (by omega) (by simp)) (And.intro (fun _ _ _ h e => e.row h (by decide)) (And.intro (fun _ _ _ h e => e.row h (by decide)) (trivial))) ?_) ?_
        · intro act W hR hf ho hu K hK
          replace hK := fun v (w' : World) (h1 : (Only (w2.heap.size + 1) [51]) W w') (b14 : (fun (W : World) => Rows3 (w2.heap.size + 1) ((act.tmps[40]?.getD undef)) ((act.tmps[48]?.getD undef)) ((v)) (s.code ++ [(s.page * 256, s.page * 256 + c.code.length)]) (s.data ++ [(p1 * 256, p2 * 256)]) (s.heap ++ [(p2 * 256, p3 * 256)]) W) w') => hK v w' h1 trivial ⟨b14, trivial⟩
          have F : act.tmps[50]?.getD undef = _ ∧ (fun _ _ => True) (act.tmps[55]?.getD undef) W ∧ act.tmps[54]?.getD undef = _ ∧ True := hf
          obtain ⟨f14, -, f18, -⟩ := F
          have U : (fun (_ : Value) (W : World) => W.heap[w2.heap.size]? = some (.cells #[.int .i64 p3] 3)) (undef) W ∧ (NewLit 0 1 (pairC (p2 * 256, p3 * 256)) 51) (act.tmps[55]?.getD undef) W ∧ (fun (W : World) => Rows3 (w2.heap.size + 1) ((act.tmps[40]?.getD undef)) ((act.tmps[48]?.getD undef)) vH (s.code ++ [(s.page * 256, s.page * 256 + c.code.length)]) (s.data ++ [(p1 * 256, p2 * 256)]) s.heap W) W ∧ True := hu
          obtain ⟨r_pg2, r_n19, r_rws2, -⟩ := U
          generalize f19 : act.tmps[55]?.getD undef = v19 at r_n19
          generalize f4 : act.tmps[40]?.getD undef = v4 at r_rws2 hK
          generalize f12 : act.tmps[48]?.getD undef = v12 at r_rws2 hK
          clear ho hf hu
          obtain ⟨b3, rfl, -, hl3⟩ := r_n19; have hWp : w2.heap.size + 1 ≤ W.heap.size := Nat.le_trans hsZ hR.size
          dsimp only [Option.elim] at f14
          dsimp only [Option.elim] at f18
          rw [← seen_eq]; refine step_append_far W rfl (.tmp 50) (.tmp 55) 42 rfl (w2.heap.size + 1) 51 ci (.agg #[.int .i64 0, .int .i64 0]) 2 16 Try.underlying42 hci hci0 hci1 hci2 rfl (by decide) _ _ _ (eval_get f14) r_rws2.o3 ⟨b3, 0, none⟩ 1 1 (pairC (p2 * 256, p3 * 256)) (eval_get f19) (lit_cells hl3) rfl (by simp [Value.oneCell']) (by unfold maxLen; omega) (by omega) hWp ?_; intro v' w' ha; exact hK _ _ (Only.grown r_rws2.o3 ha.grown (by simp)) ((r_rws2.rot.rot.app ha).rot)
        refine And.intro (obX_pure (Only.refl _ _) ?_) ?_
        · intro act W hR hf ho hu K hK
          replace hK := fun v h2 => hK v W rfl h2 trivial
          have G : act.tmps[3]?.getD undef = _ ∧ True := ho
          obtain ⟨g3, -⟩ := G
          have F : act.tmps[36]?.getD undef = _ ∧ act.tmps[37]?.getD undef = _ ∧ act.tmps[38]?.getD undef = _ ∧ (fun _ _ => True) (act.tmps[39]?.getD undef) W ∧ (fun _ _ => True) (act.tmps[40]?.getD undef) W ∧ act.tmps[41]?.getD undef = _ ∧ act.tmps[42]?.getD undef = _ ∧ act.tmps[49]?.getD undef = _ ∧ act.tmps[50]?.getD undef = _ ∧ True := hf
          obtain ⟨f0, f1, f2, -, -, f5, f6, f13, f14, -⟩ := F
          generalize f3 : act.tmps[39]?.getD undef = v3
          generalize f4 : act.tmps[40]?.getD undef = v4
          clear ho hf hu
          go_simp
          exact hK _ (Eq.refl _)
        refine And.intro (obX_eff (fun a b => a.grownBy b (some (w.heap.size + 1 + 1)) ∧ Only (w.heap.size + 1 + 1) [45] a b) (fun _ _ h => h.2.mono (Nat.le_refl _) (by simp)) (And.intro (fun _ _ _ h e => e.2.row h (by decide)) (And.intro (fun _ _ _ h e => h.far e.1 (by omega)) (trivial))) ?_) ?_
        · intro act W hR hf ho hu K hK
          replace hK := fun (w' : World) (h1 : (fun a b => a.grownBy b (some (w.heap.size + 1 + 1)) ∧ Only (w.heap.size + 1 + 1) [45] a b) W w') (b5 : (fun (W : World) => W.heap[w.heap.size + 1 + 1]? = some (.cells #[((act.tmps[40]?.getD undef)), vD, vH, .slice none 0 0, .int .i64 0] 45)) w') => hK undef w' h1 trivial ⟨b5, trivial⟩
          have F : act.tmps[57]?.getD undef = _ ∧ (fun _ _ => True) (act.tmps[40]?.getD undef) W ∧ (fun _ _ => True) (act.tmps[56]?.getD undef) W ∧ act.tmps[36]?.getD undef = _ ∧ act.tmps[37]?.getD undef = _ ∧ act.tmps[38]?.getD undef = _ ∧ (fun _ _ => True) (act.tmps[39]?.getD undef) W ∧ (fun _ _ => True) (act.tmps[40]?.getD undef) W ∧ act.tmps[41]?.getD undef = _ ∧ act.tmps[42]?.getD undef = _ ∧ act.tmps[49]?.getD undef = _ ∧ act.tmps[50]?.getD undef = _ ∧ True := hf
          obtain ⟨f21, -, -, f0, f1, f2, -, -, f5, f6, f13, f14, -⟩ := F
          have U : (fun (_ : Value) (W : World) => W.heap[w2.heap.size]? = some (.cells #[.int .i64 p3] 3)) (undef) W ∧ (fun (_ : Value) (W : World) => W.heap[w.heap.size + 1 + 1]? = some (.cells #[vC, vD, vH, .slice none 0 0, .int .i64 0] 45)) (undef) W ∧ (fun (W : World) => Rows3 (w2.heap.size + 1) ((act.tmps[40]?.getD undef)) ((act.tmps[48]?.getD undef)) ((act.tmps[56]?.getD undef)) (s.code ++ [(s.page * 256, s.page * 256 + c.code.length)]) (s.data ++ [(p1 * 256, p2 * 256)]) (s.heap ++ [(p2 * 256, p3 * 256)]) W) W ∧ True := hu
          obtain ⟨r_pg2, r_lay, r_rws3, -⟩ := U
          generalize f4 : act.tmps[40]?.getD undef = v4 at r_rws3 hK
          generalize f20 : act.tmps[56]?.getD undef = v20 at r_rws3
          generalize f3 : act.tmps[39]?.getD undef = v3
          generalize f12 : act.tmps[48]?.getD undef = v12 at r_rws3
          clear ho hf hu
          obtain ⟨A4, c4, rfl, -, -⟩ := Arr.own r_rws3.o1; have zl := cell_at r_lay 0 vC rfl; have fz := frozen_row' r_lay; have HL := Lib.hid (set_lay r_lay 0 (.slice A4 (s.code.length + 1) c4))
          go_simp
          exact hK _ HL.out.2 (by rw [List.length_append]; exact HL.out.1)
        refine And.intro (obX_pure (Only.refl _ _) ?_) ?_
        · intro act W hR hf ho hu K hK
          replace hK := fun v h2 => hK v W rfl h2 trivial
          have G : act.tmps[3]?.getD undef = _ ∧ True := ho
          obtain ⟨g3, -⟩ := G
          have F : act.tmps[36]?.getD undef = _ ∧ act.tmps[37]?.getD undef = _ ∧ act.tmps[38]?.getD undef = _ ∧ (fun _ _ => True) (act.tmps[39]?.getD undef) W ∧ (fun _ _ => True) (act.tmps[40]?.getD undef) W ∧ act.tmps[41]?.getD undef = _ ∧ act.tmps[42]?.getD undef = _ ∧ act.tmps[43]?.getD undef = _ ∧ act.tmps[44]?.getD undef = _ ∧ act.tmps[45]?.getD undef = _ ∧ act.tmps[46]?.getD undef = _ ∧ (fun _ _ => True) (act.tmps[47]?.getD undef) W ∧ (fun _ _ => True) (act.tmps[48]?.getD undef) W ∧ act.tmps[49]?.getD undef = _ ∧ act.tmps[50]?.getD undef = _ ∧ act.tmps[57]?.getD undef = _ ∧ (fun _ _ => True) (undef) W ∧ True := hf
          obtain ⟨f0, f1, f2, -, -, f5, f6, f7, f8, f9, f10, -, -, f13, f14, f21, -, -⟩ := F
          have U : (fun (_ : Value) (W : World) => W.heap[w2.heap.size]? = some (.cells #[.int .i64 p3] 3)) (undef) W ∧ (fun (W : World) => Rows3 (w2.heap.size + 1) ((act.tmps[40]?.getD undef)) ((act.tmps[48]?.getD undef)) ((act.tmps[56]?.getD undef)) (s.code ++ [(s.page * 256, s.page * 256 + c.code.length)]) (s.data ++ [(p1 * 256, p2 * 256)]) (s.heap ++ [(p2 * 256, p3 * 256)]) W) W ∧ True := hu
          obtain ⟨r_pg2, r_rws3, -⟩ := U
          generalize f3 : act.tmps[39]?.getD undef = v3
          generalize f4 : act.tmps[40]?.getD undef = v4 at r_rws3
          generalize f11 : act.tmps[47]?.getD undef = v11
          generalize f12 : act.tmps[48]?.getD undef = v12 at r_rws3
          generalize f20 : act.tmps[56]?.getD undef = v20 at r_rws3
          clear ho hf hu
          go_simp
          exact hK _ (Eq.refl _)
        refine And.intro (obX_eff (fun a b => a.grownBy b (some (w.heap.size + 1 + 1)) ∧ Only (w.heap.size + 1 + 1) [45] a b) (fun _ _ h => h.2.mono (Nat.le_refl _) (by simp)) (And.intro (fun _ _ _ h e => e.2.row h (by decide)) (And.intro (fun _ _ _ h e => h.far e.1 (by omega)) (trivial))) ?_) ?_
        · intro act W hR hf ho hu K hK
          replace hK := fun (w' : World) (h1 : (fun a b => a.grownBy b (some (w.heap.size + 1 + 1)) ∧ Only (w.heap.size + 1 + 1) [45] a b) W w') (b6 : (fun (W : World) => W.heap[w.heap.size + 1 + 1]? = some (.cells #[((act.tmps[40]?.getD undef)), ((act.tmps[48]?.getD undef)), vH, .slice none 0 0, .int .i64 0] 45)) w') => hK undef w' h1 trivial ⟨b6, trivial⟩
          have F : act.tmps[58]?.getD undef = _ ∧ (fun _ _ => True) (act.tmps[48]?.getD undef) W ∧ (fun _ _ => True) (undef) W ∧ act.tmps[36]?.getD undef = _ ∧ act.tmps[37]?.getD undef = _ ∧ act.tmps[38]?.getD undef = _ ∧ (fun _ _ => True) (act.tmps[39]?.getD undef) W ∧ (fun _ _ => True) (act.tmps[40]?.getD undef) W ∧ act.tmps[41]?.getD undef = _ ∧ act.tmps[42]?.getD undef = _ ∧ act.tmps[43]?.getD undef = _ ∧ act.tmps[44]?.getD undef = _ ∧ act.tmps[45]?.getD undef = _ ∧ act.tmps[46]?.getD undef = _ ∧ (fun _ _ => True) (act.tmps[47]?.getD undef) W ∧ (fun _ _ => True) (act.tmps[48]?.getD undef) W ∧ act.tmps[49]?.getD undef = _ ∧ act.tmps[50]?.getD undef = _ ∧ act.tmps[57]?.getD undef = _ ∧ (fun _ _ => True) (undef) W ∧ True := hf
          obtain ⟨f23, -, -, f0, f1, f2, -, -, f5, f6, f7, f8, f9, f10, -, -, f13, f14, f21, -, -⟩ := F
          have U : (fun (_ : Value) (W : World) => W.heap[w2.heap.size]? = some (.cells #[.int .i64 p3] 3)) (undef) W ∧ (fun (W : World) => W.heap[w.heap.size + 1 + 1]? = some (.cells #[((act.tmps[40]?.getD undef)), vD, vH, .slice none 0 0, .int .i64 0] 45)) W ∧ (fun (W : World) => Rows3 (w2.heap.size + 1) ((act.tmps[40]?.getD undef)) ((act.tmps[48]?.getD undef)) ((act.tmps[56]?.getD undef)) (s.code ++ [(s.page * 256, s.page * 256 + c.code.length)]) (s.data ++ [(p1 * 256, p2 * 256)]) (s.heap ++ [(p2 * 256, p3 * 256)]) W) W ∧ True := hu
          obtain ⟨r_pg2, r_lay1, r_rws3, -⟩ := U
          generalize f12 : act.tmps[48]?.getD undef = v12 at r_rws3 hK
          generalize f3 : act.tmps[39]?.getD undef = v3
          generalize f4 : act.tmps[40]?.getD undef = v4 at r_lay1 r_rws3 hK
          generalize f11 : act.tmps[47]?.getD undef = v11
          generalize f20 : act.tmps[56]?.getD undef = v20 at r_rws3
          clear ho hf hu
          obtain ⟨A4, c4, rfl, -, -⟩ := Arr.own r_rws3.o2; have zl := cell_at r_lay1 1 vD rfl; have fz := frozen_row' r_lay1; have HL := Lib.hid (set_lay r_lay1 1 (.slice A4 (s.data.length + 1) c4))
          go_simp
          exact hK _ HL.out.2 (by rw [List.length_append]; exact HL.out.1)
        refine And.intro (obX_pure (Only.refl _ _) ?_) ?_
        · intro act W hR hf ho hu K hK
          replace hK := fun v h2 => hK v W rfl h2 trivial
          have G : act.tmps[3]?.getD undef = _ ∧ True := ho
          obtain ⟨g3, -⟩ := G
          have F : act.tmps[36]?.getD undef = _ ∧ act.tmps[37]?.getD undef = _ ∧ act.tmps[38]?.getD undef = _ ∧ (fun _ _ => True) (act.tmps[39]?.getD undef) W ∧ (fun _ _ => True) (act.tmps[40]?.getD undef) W ∧ act.tmps[41]?.getD undef = _ ∧ act.tmps[42]?.getD undef = _ ∧ act.tmps[43]?.getD undef = _ ∧ act.tmps[44]?.getD undef = _ ∧ act.tmps[45]?.getD undef = _ ∧ act.tmps[46]?.getD undef = _ ∧ (fun _ _ => True) (act.tmps[47]?.getD undef) W ∧ (fun _ _ => True) (act.tmps[48]?.getD undef) W ∧ act.tmps[49]?.getD undef = _ ∧ act.tmps[50]?.getD undef = _ ∧ act.tmps[51]?.getD undef = _ ∧ act.tmps[52]?.getD undef = _ ∧ act.tmps[53]?.getD undef = _ ∧ act.tmps[54]?.getD undef = _ ∧ (fun _ _ => True) (act.tmps[55]?.getD undef) W ∧ (fun _ _ => True) (act.tmps[56]?.getD undef) W ∧ act.tmps[57]?.getD undef = _ ∧ (fun _ _ => True) (undef) W ∧ act.tmps[58]?.getD undef = _ ∧ (fun _ _ => True) (undef) W ∧ True := hf
          obtain ⟨f0, f1, f2, -, -, f5, f6, f7, f8, f9, f10, -, -, f13, f14, f15, f16, f17, f18, -, -, f21, -, f23, -, -⟩ := F
          have U : (fun (_ : Value) (W : World) => W.heap[w2.heap.size]? = some (.cells #[.int .i64 p3] 3)) (undef) W ∧ (fun (W : World) => Rows3 (w2.heap.size + 1) ((act.tmps[40]?.getD undef)) ((act.tmps[48]?.getD undef)) ((act.tmps[56]?.getD undef)) (s.code ++ [(s.page * 256, s.page * 256 + c.code.length)]) (s.data ++ [(p1 * 256, p2 * 256)]) (s.heap ++ [(p2 * 256, p3 * 256)]) W) W ∧ True := hu
          obtain ⟨r_pg2, r_rws3, -⟩ := U
          generalize f3 : act.tmps[39]?.getD undef = v3
          generalize f4 : act.tmps[40]?.getD undef = v4 at r_rws3
          generalize f11 : act.tmps[47]?.getD undef = v11
          generalize f12 : act.tmps[48]?.getD undef = v12 at r_rws3
          generalize f19 : act.tmps[55]?.getD undef = v19
          generalize f20 : act.tmps[56]?.getD undef = v20 at r_rws3
          clear ho hf hu
          go_simp
          exact hK _ (Eq.refl _)
        refine And.intro (obX_eff (fun a b => a.grownBy b (some (w.heap.size + 1 + 1)) ∧ Only (w.heap.size + 1 + 1) [45] a b) (fun _ _ h => h.2.mono (Nat.le_refl _) (by simp)) (And.intro (fun _ _ _ h e => e.2.row h (by decide)) (And.intro (fun _ _ _ h e => h.far e.1 (by omega)) (trivial))) ?_) ?_
        · intro act W hR hf ho hu K hK
          replace hK := fun (w' : World) (h1 : (fun a b => a.grownBy b (some (w.heap.size + 1 + 1)) ∧ Only (w.heap.size + 1 + 1) [45] a b) W w') (b7 : (fun (W : World) => W.heap[w.heap.size + 1 + 1]? = some (.cells #[((act.tmps[40]?.getD undef)), ((act.tmps[48]?.getD undef)), ((act.tmps[56]?.getD undef)), .slice none 0 0, .int .i64 0] 45)) w') => hK undef w' h1 trivial ⟨b7, trivial⟩
          have F : act.tmps[59]?.getD undef = _ ∧ (fun _ _ => True) (act.tmps[56]?.getD undef) W ∧ (fun _ _ => True) (undef) W ∧ act.tmps[36]?.getD undef = _ ∧ act.tmps[37]?.getD undef = _ ∧ act.tmps[38]?.getD undef = _ ∧ (fun _ _ => True) (act.tmps[39]?.getD undef) W ∧ (fun _ _ => True) (act.tmps[40]?.getD undef) W ∧ act.tmps[41]?.getD undef = _ ∧ act.tmps[42]?.getD undef = _ ∧ act.tmps[43]?.getD undef = _ ∧ act.tmps[44]?.getD undef = _ ∧ act.tmps[45]?.getD undef = _ ∧ act.tmps[46]?.getD undef = _ ∧ (fun _ _ => True) (act.tmps[47]?.getD undef) W ∧ (fun _ _ => True) (act.tmps[48]?.getD undef) W ∧ act.tmps[49]?.getD undef = _ ∧ act.tmps[50]?.getD undef = _ ∧ act.tmps[51]?.getD undef = _ ∧ act.tmps[52]?.getD undef = _ ∧ act.tmps[53]?.getD undef = _ ∧ act.tmps[54]?.getD undef = _ ∧ (fun _ _ => True) (act.tmps[55]?.getD undef) W ∧ (fun _ _ => True) (act.tmps[56]?.getD undef) W ∧ act.tmps[57]?.getD undef = _ ∧ (fun _ _ => True) (undef) W ∧ act.tmps[58]?.getD undef = _ ∧ (fun _ _ => True) (undef) W ∧ True := hf
          obtain ⟨f25, -, -, f0, f1, f2, -, -, f5, f6, f7, f8, f9, f10, -, -, f13, f14, f15, f16, f17, f18, -, -, f21, -, f23, -, -⟩ := F
          have U : (fun (_ : Value) (W : World) => W.heap[w2.heap.size]? = some (.cells #[.int .i64 p3] 3)) (undef) W ∧ (fun (W : World) => W.heap[w.heap.size + 1 + 1]? = some (.cells #[((act.tmps[40]?.getD undef)), ((act.tmps[48]?.getD undef)), vH, .slice none 0 0, .int .i64 0] 45)) W ∧ (fun (W : World) => Rows3 (w2.heap.size + 1) ((act.tmps[40]?.getD undef)) ((act.tmps[48]?.getD undef)) ((act.tmps[56]?.getD undef)) (s.code ++ [(s.page * 256, s.page * 256 + c.code.length)]) (s.data ++ [(p1 * 256, p2 * 256)]) (s.heap ++ [(p2 * 256, p3 * 256)]) W) W ∧ True := hu
          obtain ⟨r_pg2, r_lay2, r_rws3, -⟩ := U
          generalize f20 : act.tmps[56]?.getD undef = v20 at r_rws3 hK
          generalize f3 : act.tmps[39]?.getD undef = v3
          generalize f4 : act.tmps[40]?.getD undef = v4 at r_lay2 r_rws3 hK
          generalize f11 : act.tmps[47]?.getD undef = v11
          generalize f12 : act.tmps[48]?.getD undef = v12 at r_lay2 r_rws3 hK
          generalize f19 : act.tmps[55]?.getD undef = v19
          clear ho hf hu
          obtain ⟨A4, c4, rfl, -, -⟩ := Arr.own r_rws3.o3; have zl := cell_at r_lay2 2 vH rfl; have fz := frozen_row' r_lay2; have HL := Lib.hid (set_lay r_lay2 2 (.slice A4 (s.heap.length + 1) c4))
          go_simp
          exact hK _ HL.out.2 (by rw [List.length_append]; exact HL.out.1)
        exact trivial
      case stab =>
        refine And.intro is_stable ?_
        refine And.intro is_stable ?_
        refine And.intro is_stable ?_
        refine And.intro (fun _ _ _ h _ => h) ?_
        refine And.intro (fun _ _ _ h _ => h) ?_
        refine And.intro is_stable ?_
        refine And.intro is_stable ?_
        refine And.intro is_stable ?_
        refine And.intro is_stable ?_
        refine And.intro is_stable ?_
        refine And.intro is_stable ?_
        refine And.intro (fun _ _ _ h _ => h) ?_
        refine And.intro (fun _ _ _ h _ => h) ?_
        refine And.intro is_stable ?_
        refine And.intro is_stable ?_
        refine And.intro is_stable ?_
        refine And.intro is_stable ?_
        refine And.intro is_stable ?_
        refine And.intro is_stable ?_
        refine And.intro (fun _ _ _ h _ => h) ?_
        refine And.intro (fun _ _ _ h _ => h) ?_
        refine And.intro is_stable ?_
        refine And.intro (fun _ _ _ h _ => h) ?_
        refine And.intro is_stable ?_
        refine And.intro (fun _ _ _ h _ => h) ?_
        refine And.intro is_stable ?_
        refine And.intro (fun _ _ _ h _ => h) ?_
        exact trivial
      case ends =>
        intro vals W hR hE hall
        have E : (fun (_ : Value) (W : World) => W.heap[w2.heap.size]? = some (.cells #[.int .i64 p3] 3)) (undef) W ∧ (fun (W : World) => W.heap[w.heap.size + 1 + 1]? = some (.cells #[((vals 40)), ((vals 48)), ((vals 56)), .slice none 0 0, .int .i64 0] 45)) W ∧ (fun (W : World) => Rows3 (w2.heap.size + 1) ((vals 40)) ((vals 48)) ((vals 56)) (s.code ++ [(s.page * 256, s.page * 256 + c.code.length)]) (s.data ++ [(p1 * 256, p2 * 256)]) (s.heap ++ [(p2 * 256, p3 * 256)]) W) W ∧ True := hE
        obtain ⟨e_pg2, e_lay3, e_rws3, -⟩ := E
        clear hE
        clear hall
        generalize ev40 : vals 40 = x40 at e_lay3 e_rws3
        generalize ev48 : vals 48 = x48 at e_lay3 e_rws3
        generalize ev56 : vals 56 = x56 at e_lay3 e_rws3
        simp only [fill, List.setIfInBounds_toArray, List.set_cons_succ, List.set_cons_zero, ev40, ev48, ev56]
        have hOW : Only (w.heap.size + 1 + 1) [51, 3, 45] w3 W := (HZ.out.1.trans (Only.drew (Only.refl _ _ _))).trans hR
        have LW : W1At w3 W (w.heap.size + 1 + 1) w2.heap.size (w2.heap.size + 1) (whC hp (cs.map CompM.d) (k + 1)) := by
          rw [HST.out, ← HPP.out.1, ← HPP.out.2.1, ← HPP.out.2.2]
          exact ⟨hOW, e_pg2, _, _, _, e_lay3, e_rws3⟩
        clear hOW e_pg2 e_lay3 e_rws3 hR
        go_wp2_with fail
        exact ⟨⟨k + 1, by omega, by simp, LW⟩, by simp [intOf]; omega⟩
    · obtain rfl : k = cs.length := by omega
      have hE : Ext w wr := Only.below HI.out.2.2 (by omega) hM.ext
      obtain ⟨z0, z1, z2, z3, z4, z5⟩ := lie6 (hM.ext.low HI.out.1 (by omega)) (Below.refl _ wr)
      have hpk := HPG.out _ (Nat.le_refl _)
      generalize hss : whC hp (cs.map CompM.d) cs.length = s at hM hpk
      have HSS := Lib.hid hss
      have N0 : W2At w3 wr (w.heap.size + 1 + 1) w2.heap.size (w2.heap.size + 1) s 0 := by
        obtain ⟨u, v, h, h1, h2⟩ := hM.lay
        exact ⟨hM.ext, by simpa using hM.pg, u, v, h, _, h1, h2, World.ownsRow_nil _ _ _ _⟩
      have HN0 := Lib.hid N0
      clear hM N0 hss hE
      go_wp2_with fail
      go_loopw [64] (fun i wr => ∃ k : Nat, k ≤ ss.length ∧ i = .int .i64 (k : Int) ∧ W2At w3 wr (w.heap.size + 1 + 1) w2.heap.size (w2.heap.size + 1) s k) (fun i _ => ss.length - (intOf i).toNat)
      case atStart => exact ⟨0, Nat.zero_le _, rfl, HN0.out⟩
      case round =>
        clear HN0
        obtain ⟨k, hk, rfl, hM⟩ := hrel
        by_cases hlt : k < ss.length
        · obtain ⟨vC, vD, vH, vS, hl, hrw, hsh⟩ := hM.lay
          have HM := Lib.hid (And.intro hM.ext (And.intro hM.pg (And.intro hl (And.intro hrw hsh))))
          have hsZ : w2.heap.size + 1 ≤ wr.drew.heap.size := (Array.getElem?_eq_some_iff.1 hM.pg).1
          have hpk2 : 0 ≤ s.page + k ∧ s.page + k ≤ 100000 := by omega
          obtain ⟨ii, hii, hii0, hii1, hii2⟩ := info_parts infoIntW
          clear hM hl hrw hsh z0 z1 z2 z3 z4 z5
          go_wp2_with fail
          refine wp_region_res (Only (w.heap.size + 1 + 1) [51, 3, 45]) [⟨none, [], [3]⟩, ⟨some 3, [], []⟩, ⟨none, [], [1, 8]⟩, ⟨some 8, [(6, [6])], []⟩, ⟨none, [], []⟩, ⟨none, [], [6]⟩, ⟨some 6, [(6, [])], []⟩, ⟨some 5, [(5, [])], [6]⟩] [(fun (u : Nat → Value) (W : World) => (fun (_ : Value) (W : World) => W.heap[w2.heap.size]? = some (.cells #[.int .i64 (s.page + k)] 3)) (undef) W), (fun (u : Nat → Value) (W : World) => (fun (_ : Value) (W : World) => W.heap[w2.heap.size]? = some (.cells #[.int .i64 (s.page + k + 1)] 3)) (undef) W), (fun (u : Nat → Value) (W : World) => (fun (_ : Value) (W : World) => W.heap[w.heap.size + 1 + 1]? = some (.cells #[vC, vD, vH, vS, .int .i64 0] 45)) (undef) W), (fun (u : Nat → Value) (W : World) => W.heap[w.heap.size + 1 + 1]? = some (.cells #[vC, vD, vH, (u 6), .int .i64 0] 45)), (fun (u : Nat → Value) (W : World) => (fun (_ : Value) (W : World) => Rows3 (w2.heap.size + 1) vC vD vH s.code s.data s.heap W) (undef) W), (fun (u : Nat → Value) (W : World) => (fun (_ : Value) (W : World) => W.ownsRow (w2.heap.size + 1) 3 1 vS k ((List.range k).map fun i : Nat => Value.int .i64 ((s.page + i) * 256))) (undef) W), (fun (u : Nat → Value) (W : World) => W.ownsRow (w2.heap.size + 1) 3 1 (u 6) (k + 1) ((List.range k).map (fun i : Nat => Value.int .i64 ((s.page + i) * 256)) ++ [Value.int .i64 ((s.page + (k : Int)) * 256)])), (fun (u : Nat → Value) (W : World) => (NewLit 0 1 [.int .i64 ((s.page + k) * 256)] 3) (u 5) W)] [⟨[(4, [])], [.keep, .keep, .keep, .early [0], .keep, .keep, .early [1, 0], .keep]⟩, ⟨[(2, []), (4, [])], [.keep, .keep, .keep, .early [1], .keep, .keep, .early [1], .keep]⟩, ⟨[(4, [])], [.keep, .early [2], .keep, .early [2], .keep, .keep, .early [3, 2], .early [4, 3, 2]]⟩, ⟨[(0, []), (4, [])], [.late [[]], .last, .keep, .early [3], .keep, .keep, .early [3], .early [4, 3]]⟩, ⟨[(1, [3]), (4, [])], [.late [[3]], .keep, .keep, .early [4], .keep, .keep, .early [5, 4], .early [4]]⟩, ⟨[(1, [4, 3]), (4, [])], [.late [[4, 3]], .keep, .keep, .early [5], .keep, .keep, .early [5], .last]⟩, ⟨[(1, [3]), (4, []), (5, []), (7, [5])], [.late [[3]], .keep, .keep, .early [6], .keep, .late [[]], .last, .late [[]]]⟩, ⟨[(1, [3]), (4, []), (6, [6])], [.late [[3]], .keep, .keep, .early [7], .keep, .late [[6]], .keep, .late [[6]]]⟩, ⟨[(1, [3]), (2, []), (4, []), (6, [6])], [.late [[3]], .keep, .late [[1], []], .last, .keep, .late [[6]], .keep, .late [[6]]]⟩] [66, 67, 68, 69, 70, 71, 72, 73] (by kernel_rfl) (Only.refl _ _) (fun _ _ _ => Only.trans) (by kernel_rfl) (by kernel_rfl) (by kernel_rfl) (by kernel_rfl) (by kernel_rfl) ?start ?_
          case start =>
            refine And.intro ?_ ?_
            · exact HM.out.2.1
            refine And.intro ?_ ?_
            · exact HM.out.2.2.1
            refine And.intro ?_ ?_
            · exact HM.out.2.2.2.1.ext (by repeat first | (with_reducible exact Below.refl _ _) | (with_reducible apply Ext.alloc) | (with_reducible apply Ext.drew) | (with_reducible apply Ext.drewN) | (with_reducible refine Ext.set ?_ (by simp)))
            refine And.intro ?_ ?_
            · exact HM.out.2.2.2.2
            exact trivial
          apply ex_is; apply Exists.intro
          apply ex_is; apply Exists.intro
          apply ex_is; apply Exists.intro
          apply ex_is; apply Exists.intro
          apply ex_is; apply Exists.intro
          refine ex_phi (fun _ _ => True) ?_
          refine ex_phi (fun _ _ => True) ?_
          apply ex_is; apply Exists.intro
          refine ex_phi (fun _ _ => True) ?_
          refine ⟨[], ⟨?steps, ?stab, ?ends⟩⟩
          case steps =>
            refine And.intro (obX_pure (Only.refl _ _) ?_) ?_
            · intro act W hR hf ho hu K hK
              replace hK := fun v h2 => hK v W rfl h2 trivial
              have G : act.tmps[3]?.getD undef = _ ∧ True := ho
              obtain ⟨g3, -⟩ := G
              have U : (fun (_ : Value) (W : World) => Rows3 (w2.heap.size + 1) vC vD vH s.code s.data s.heap W) (undef) W ∧ True := hu
              obtain ⟨r_rws, -⟩ := U
              clear ho hf hu
              go_simp
              exact hK _ (Eq.refl _)
            refine And.intro (obX_pure (Only.refl _ _) ?_) ?_
            · intro act W hR hf ho hu K hK
              replace hK := fun v h2 => hK v W rfl h2 trivial
              have F : act.tmps[66]?.getD undef = _ ∧ True := hf
              obtain ⟨f0, -⟩ := F
              have U : (fun (_ : Value) (W : World) => W.heap[w.heap.size + 1 + 1]? = some (.cells #[vC, vD, vH, vS, .int .i64 0] 45)) (undef) W ∧ (fun (_ : Value) (W : World) => Rows3 (w2.heap.size + 1) vC vD vH s.code s.data s.heap W) (undef) W ∧ True := hu
              obtain ⟨r_lay, r_rws, -⟩ := U
              clear ho hf hu
              have zl := cell_at r_lay 3 vS rfl
              go_simp
              exact hK _ (Eq.refl _)
            refine And.intro (obX_pure (Only.refl _ _) ?_) ?_
            · intro act W hR hf ho hu K hK
              replace hK := fun v h2 => hK v W rfl h2 trivial
              have G : act.tmps[5]?.getD undef = _ ∧ True := ho
              obtain ⟨g5, -⟩ := G
              have U : (fun (_ : Value) (W : World) => Rows3 (w2.heap.size + 1) vC vD vH s.code s.data s.heap W) (undef) W ∧ True := hu
              obtain ⟨r_rws, -⟩ := U
              clear ho hf hu
              go_simp
              exact hK _ (Eq.refl _)
            refine And.intro (obX_eff (fun a b => a.grownBy b (some w2.heap.size) ∧ Only (w.heap.size + 1 + 1) [3] a b) (fun _ _ h => h.2.mono (Nat.le_refl _) (by simp)) (And.intro (fun _ _ _ h e => e.2.row h (by decide)) (And.intro (fun _ _ _ h e => h.far e.1 (Nat.lt_succ_self _)) (And.intro (fun _ _ _ h e => own_far h e.1 (Nat.lt_succ_self _)) (trivial)))) ?_) ?_
            · intro act W hR hf ho hu K hK
              replace hK := fun v (w' : World) (h1 : (fun a b => a.grownBy b (some w2.heap.size) ∧ Only (w.heap.size + 1 + 1) [3] a b) W w') h2 (b1 : (fun (_ : Value) (W : World) => W.heap[w2.heap.size]? = some (.cells #[.int .i64 (s.page + k + 1)] 3)) (undef) w') => hK v w' h1 h2 ⟨b1, trivial⟩
              have F : act.tmps[68]?.getD undef = _ ∧ True := hf
              obtain ⟨f2, -⟩ := F
              have U : (fun (_ : Value) (W : World) => W.heap[w2.heap.size]? = some (.cells #[.int .i64 (s.page + k)] 3)) (undef) W ∧ (fun (_ : Value) (W : World) => Rows3 (w2.heap.size + 1) vC vD vH s.code s.data s.heap W) (undef) W ∧ True := hu
              obtain ⟨r_pg, r_rws, -⟩ := U
              clear ho hf hu
              go_simp
              refine (take_img W w2.heap.size (s.page + k) 1 r_pg (by omega) (by omega) (by omega) (by omega)).mono ?_; rintro _ W1 ⟨rfl, hg, hp⟩; exact hK _ _ ⟨hg, grown_only r_pg (by omega) (by simp) hg⟩ (Eq.refl _) hp
            refine And.intro (obX_pure (Only.refl _ _) ?_) ?_
            · intro act W hR hf ho hu K hK
              replace hK := fun v h2 => hK v W rfl h2 trivial
              have F : act.tmps[69]?.getD undef = _ ∧ True := hf
              obtain ⟨f3, -⟩ := F
              have U : (fun (_ : Value) (W : World) => W.heap[w2.heap.size]? = some (.cells #[.int .i64 (s.page + k + 1)] 3)) (undef) W ∧ (fun (_ : Value) (W : World) => Rows3 (w2.heap.size + 1) vC vD vH s.code s.data s.heap W) (undef) W ∧ True := hu
              obtain ⟨r_pg1, r_rws, -⟩ := U
              clear ho hf hu
              go_simp
              exact hK _ (Eq.refl _)
            refine And.intro (obX_eff (Ext) (fun _ _ h => Only.ext h) (And.intro (fun _ _ _ h e => (Only.ext (B := 0) (T := []) e).row h (by simp)) (And.intro (fun _ _ _ h e => (Only.ext (B := 0) (T := []) e).row h (by simp)) (And.intro (fun _ _ _ h e => h.ext e) (And.intro (fun _ _ _ h e => own_ext h e) (trivial))))) ?_) ?_
            · intro act W hR hf ho hu K hK
              replace hK := fun v (w' : World) (h1 : (Ext) W w') (b7 : (NewLit 0 1 [.int .i64 ((s.page + k) * 256)] 3) (v) w') => hK v w' h1 trivial ⟨b7, trivial⟩
              have F : act.tmps[70]?.getD undef = _ ∧ True := hf
              obtain ⟨f4, -⟩ := F
              have U : (fun (_ : Value) (W : World) => W.heap[w2.heap.size]? = some (.cells #[.int .i64 (s.page + k + 1)] 3)) (undef) W ∧ (fun (_ : Value) (W : World) => Rows3 (w2.heap.size + 1) vC vD vH s.code s.data s.heap W) (undef) W ∧ True := hu
              obtain ⟨r_pg1, r_rws, -⟩ := U
              clear ho hf hu
              go_simp
              exact hK _ _ (by repeat first | (with_reducible exact Below.refl _ _) | (with_reducible apply Ext.alloc) | (with_reducible apply Ext.drew) | (with_reducible apply Ext.drewN) | (with_reducible refine Ext.set ?_ (by simp))) (NewLit.new (Nat.zero_le _))
            refine And.intro (obX_eff (Only (w2.heap.size + 1) [3]) (fun _ _ h => h.mono (by omega) (by simp)) (And.intro (fun _ _ _ h e => e.low h (Nat.lt_succ_self _)) (And.intro (fun _ _ _ h e => e.row h (by decide)) (And.intro (fun _ _ _ h e => h.only e (by decide)) (trivial)))) ?_) ?_
            · intro act W hR hf ho hu K hK
              replace hK := fun v (w' : World) (h1 : (Only (w2.heap.size + 1) [3]) W w') (b6 : (fun (W : World) => W.ownsRow (w2.heap.size + 1) 3 1 ((v)) (k + 1) ((List.range k).map (fun i : Nat => Value.int .i64 ((s.page + i) * 256)) ++ [Value.int .i64 ((s.page + (k : Int)) * 256)])) w') => hK v w' h1 trivial ⟨b6, trivial⟩
              have F : act.tmps[67]?.getD undef = _ ∧ (fun _ _ => True) (act.tmps[71]?.getD undef) W ∧ act.tmps[69]?.getD undef = _ ∧ True := hf
              obtain ⟨f1, -, f3, -⟩ := F
              have U : (fun (_ : Value) (W : World) => W.heap[w2.heap.size]? = some (.cells #[.int .i64 (s.page + k + 1)] 3)) (undef) W ∧ (fun (_ : Value) (W : World) => Rows3 (w2.heap.size + 1) vC vD vH s.code s.data s.heap W) (undef) W ∧ (fun (_ : Value) (W : World) => W.ownsRow (w2.heap.size + 1) 3 1 vS k ((List.range k).map fun i : Nat => Value.int .i64 ((s.page + i) * 256))) (undef) W ∧ (NewLit 0 1 [.int .i64 ((s.page + k) * 256)] 3) (act.tmps[71]?.getD undef) W ∧ True := hu
              obtain ⟨r_pg1, r_rws, r_sh, r_n5, -⟩ := U
              generalize f5 : act.tmps[71]?.getD undef = v5 at r_n5
              clear ho hf hu
              obtain ⟨b3, rfl, -, hl3⟩ := r_n5; have hWp : w2.heap.size + 1 ≤ W.heap.size := Nat.le_trans hsZ hR.size
              dsimp only [Option.elim] at f1
              dsimp only [Option.elim] at f3
              rw [← seen_eq]; refine step_append_src W rfl (.tmp 67) (.tmp 71) 43 rfl (w2.heap.size + 1) 3 ii (.int .i64 0) 1 8 Try.underlying43 hii hii0 hii1 hii2 rfl (by decide) _ _ _ (eval_get f1) r_sh _ 1 [.int .i64 ((s.page + k) * 256)] (eval_get f5) (lies_lit hl3) rfl (by simp [Value.oneCell']) (by unfold maxLen; omega) (by omega) hWp ?_; intro v' w' ho' hg' _; exact hK _ _ (Only.grown r_sh hg' (by simp)) ho'
            refine And.intro (obX_pure (Only.refl _ _) ?_) ?_
            · intro act W hR hf ho hu K hK
              replace hK := fun v h2 => hK v W rfl h2 trivial
              have G : act.tmps[3]?.getD undef = _ ∧ True := ho
              obtain ⟨g3, -⟩ := G
              have F : act.tmps[66]?.getD undef = _ ∧ act.tmps[67]?.getD undef = _ ∧ act.tmps[68]?.getD undef = _ ∧ act.tmps[69]?.getD undef = _ ∧ act.tmps[70]?.getD undef = _ ∧ (fun _ _ => True) (act.tmps[71]?.getD undef) W ∧ (fun _ _ => True) (act.tmps[72]?.getD undef) W ∧ True := hf
              obtain ⟨f0, f1, f2, f3, f4, -, -, -⟩ := F
              have U : (fun (_ : Value) (W : World) => W.heap[w2.heap.size]? = some (.cells #[.int .i64 (s.page + k + 1)] 3)) (undef) W ∧ (fun (_ : Value) (W : World) => Rows3 (w2.heap.size + 1) vC vD vH s.code s.data s.heap W) (undef) W ∧ (fun (W : World) => W.ownsRow (w2.heap.size + 1) 3 1 ((act.tmps[72]?.getD undef)) (k + 1) ((List.range k).map (fun i : Nat => Value.int .i64 ((s.page + i) * 256)) ++ [Value.int .i64 ((s.page + (k : Int)) * 256)])) W ∧ True := hu
              obtain ⟨r_pg1, r_rws, r_sh1, -⟩ := U
              generalize f5 : act.tmps[71]?.getD undef = v5
              generalize f6 : act.tmps[72]?.getD undef = v6 at r_sh1
              clear ho hf hu
              go_simp
              exact hK _ (Eq.refl _)
            refine And.intro (obX_eff (fun a b => a.grownBy b (some (w.heap.size + 1 + 1)) ∧ Only (w.heap.size + 1 + 1) [45] a b) (fun _ _ h => h.2.mono (Nat.le_refl _) (by simp)) (And.intro (fun _ _ _ h e => e.2.row h (by decide)) (And.intro (fun _ _ _ h e => h.far e.1 (by omega)) (And.intro (fun _ _ _ h e => own_far h e.1 (by omega)) (trivial)))) ?_) ?_
            · intro act W hR hf ho hu K hK
              replace hK := fun (w' : World) (h1 : (fun a b => a.grownBy b (some (w.heap.size + 1 + 1)) ∧ Only (w.heap.size + 1 + 1) [45] a b) W w') (b3 : (fun (W : World) => W.heap[w.heap.size + 1 + 1]? = some (.cells #[vC, vD, vH, ((act.tmps[72]?.getD undef)), .int .i64 0] 45)) w') => hK undef w' h1 trivial ⟨b3, trivial⟩
              have F : act.tmps[73]?.getD undef = _ ∧ (fun _ _ => True) (act.tmps[72]?.getD undef) W ∧ (fun _ _ => True) (act.tmps[72]?.getD undef) W ∧ act.tmps[66]?.getD undef = _ ∧ act.tmps[67]?.getD undef = _ ∧ act.tmps[68]?.getD undef = _ ∧ act.tmps[69]?.getD undef = _ ∧ act.tmps[70]?.getD undef = _ ∧ (fun _ _ => True) (act.tmps[71]?.getD undef) W ∧ (fun _ _ => True) (act.tmps[72]?.getD undef) W ∧ True := hf
              obtain ⟨f7, -, -, f0, f1, f2, f3, f4, -, -, -⟩ := F
              have U : (fun (_ : Value) (W : World) => W.heap[w2.heap.size]? = some (.cells #[.int .i64 (s.page + k + 1)] 3)) (undef) W ∧ (fun (_ : Value) (W : World) => W.heap[w.heap.size + 1 + 1]? = some (.cells #[vC, vD, vH, vS, .int .i64 0] 45)) (undef) W ∧ (fun (_ : Value) (W : World) => Rows3 (w2.heap.size + 1) vC vD vH s.code s.data s.heap W) (undef) W ∧ (fun (W : World) => W.ownsRow (w2.heap.size + 1) 3 1 ((act.tmps[72]?.getD undef)) (k + 1) ((List.range k).map (fun i : Nat => Value.int .i64 ((s.page + i) * 256)) ++ [Value.int .i64 ((s.page + (k : Int)) * 256)])) W ∧ True := hu
              obtain ⟨r_pg1, r_lay, r_rws, r_sh1, -⟩ := U
              generalize f6 : act.tmps[72]?.getD undef = v6 at r_sh1 hK
              generalize f5 : act.tmps[71]?.getD undef = v5
              clear ho hf hu
              obtain ⟨A4, c4, rfl, -, -⟩ := Arr.own r_sh1; have zl := cell_at r_lay 3 vS rfl; have fz := frozen_row' r_lay; have HL := Lib.hid (set_lay r_lay 3 (.slice A4 (k + 1) c4))
              go_simp
              exact hK _ HL.out.2 HL.out.1
            exact trivial
          case stab =>
            refine And.intro is_stable ?_
            refine And.intro is_stable ?_
            refine And.intro is_stable ?_
            refine And.intro is_stable ?_
            refine And.intro is_stable ?_
            refine And.intro (fun _ _ _ h _ => h) ?_
            refine And.intro (fun _ _ _ h _ => h) ?_
            refine And.intro is_stable ?_
            refine And.intro (fun _ _ _ h _ => h) ?_
            exact trivial
          case ends =>
            intro vals W hR hE hall
            have E : (fun (_ : Value) (W : World) => W.heap[w2.heap.size]? = some (.cells #[.int .i64 (s.page + k + 1)] 3)) (undef) W ∧ (fun (W : World) => W.heap[w.heap.size + 1 + 1]? = some (.cells #[vC, vD, vH, ((vals 72)), .int .i64 0] 45)) W ∧ (fun (_ : Value) (W : World) => Rows3 (w2.heap.size + 1) vC vD vH s.code s.data s.heap W) (undef) W ∧ (fun (W : World) => W.ownsRow (w2.heap.size + 1) 3 1 ((vals 72)) (k + 1) ((List.range k).map (fun i : Nat => Value.int .i64 ((s.page + i) * 256)) ++ [Value.int .i64 ((s.page + (k : Int)) * 256)])) W ∧ True := hE
            obtain ⟨e_pg1, e_lay1, e_rws, e_sh1, -⟩ := E
            clear hE
            clear hall
            generalize ev72 : vals 72 = x72 at e_lay1 e_sh1
            simp only [fill, List.setIfInBounds_toArray, List.set_cons_succ, List.set_cons_zero, ev72]
            have hOW : Only (w.heap.size + 1 + 1) [51, 3, 45] w3 W := (HM.out.1.trans (Only.drew (Only.refl _ _ _))).trans hR
            have LW : W2At w3 W (w.heap.size + 1 + 1) w2.heap.size (w2.heap.size + 1) s (k + 1) := by
              refine ⟨hOW, ?_, _, _, _, _, e_lay1, e_rws, ?_⟩
              · rw [show s.page + ((k + 1 : Nat) : Int) = s.page + k + 1 by omega]; exact e_pg1
              · rw [List.range_succ, List.map_append]; exact e_sh1
            clear hOW e_pg1 e_lay1 e_rws e_sh1 hR
            go_wp2_with fail
            exact ⟨⟨k + 1, by omega, by simp, LW⟩, by simp [intOf]; omega⟩
        · obtain rfl : k = ss.length := by omega
          obtain ⟨vC, vD, vH, vS, hl, hrw, hsh⟩ := hM.lay
          obtain ⟨y0, y1, y2, y3, y4⟩ := lie5 hl (Below.refl _ wr)
          obtain ⟨x0, x1, x2, x3, x4⟩ := lie5 (hM.ext.low HI.out.2.1 (by omega)) (Below.refl _ wr)
          have fzl := frozen_row' hl
          have fzr := frozen_row' (hM.ext.low HI.out.2.1 (by omega))
          have pz := cell_at hM.pg 0 _ rfl
          obtain ⟨A1, c1, rfl, l1, a1⟩ := Arr.own hrw.o1
          obtain ⟨A2, c2, rfl, l2, a2⟩ := Arr.own hrw.o2
          obtain ⟨A3, c3, rfl, l3, a3⟩ := Arr.own hrw.o3
          obtain ⟨A4, c4, rfl, l4, a4⟩ := Arr.own hsh
          have HM := Lib.hid (And.intro hM (And.intro hl (And.intro hrw hsh)))
          clear hM hl hrw hsh a1 a2 a3 a4
          go_wp2_with fail
          have q1 := set_lay HM.out.2.1 4 (.int .i64 (s.page + ss.length))
          have q2 := set5 (p := w.heap.size + 1) (q1.2.2.low ((HM.out.1.ext.low HI.out.2.1 (by omega))) (by omega)) (Nat.le_refl _) (.slice A1 s.code.length c1) (.slice A2 s.data.length c2) (.slice A3 s.heap.length c3) (.slice A4 ss.length c4) (.int .i64 (s.page + ss.length))
          have q3 : Only (w.heap.size + 1) [45] wr _ := (q1.2.2.mono (by omega) (fun _ h => h)).trans q2.2
          have q4 := q2.1
          generalize (((((wr.setCell ⟨w.heap.size + 1 + 1, 4, none⟩ (.int .i64 (s.page + ss.length))).setCell ⟨w.heap.size + 1, 0, none⟩ (.slice A1 s.code.length c1)).setCell ⟨w.heap.size + 1, 1, none⟩ (.slice A2 s.data.length c2)).setCell ⟨w.heap.size + 1, 2, none⟩ (.slice A3 s.heap.length c3)).setCell ⟨w.heap.size + 1, 3, none⟩ (.slice A4 ss.length c4)).setCell ⟨w.heap.size + 1, 4, none⟩ (.int .i64 (s.page + ss.length)) = W7 at q3 q4 ⊢
          obtain ⟨v0, v1, v2, v3, v4⟩ := lie5 q4 (Below.refl _ W7)
          have r7 := HM.out.2.2.1.only q3 (by decide)
          have s7 := q3.own HM.out.2.2.2 (by decide)
          have hE7 : Ext w W7 := Only.below (Only.below HI.out.2.2 (by omega) HM.out.1.ext) (Nat.le_succ _) q3
          have hfin : WherePost w ⟨st, hp, fu, cs.map CompM.d, ls, ss⟩ (.returned (.agg #[.slice A1 s.code.length c1, .slice A2 s.data.length c2, .slice A3 s.heap.length c3, .slice A4 ss.length c4, .int .i64 (s.page + ss.length)])) W7 := by
            refine ⟨⟨A1, c1, s.code, A2, c2, s.data, A3, c3, s.heap, A4, c4, (List.range ss.length).map fun i : Nat => (s.page + i) * 256, s.page + ss.length⟩, ⟨arr_own r7.o1, arr_own r7.o2, arr_own r7.o3, ?_, l1, l2, l3, by simpa using l4⟩, ?_, by simp [LayM.val], hE7⟩
            · have := arr_own s7
              simpa [List.map_map, Function.comp_def] using this
            · unfold whereD
              rw [if_pos HRD.out]
              simp only [List.length_map, HSS.out]
              rfl
          exact bodyPost_ret (v := .agg #[.slice A1 s.code.length c1, .slice A2 s.data.length c2, .slice A3 s.heap.length c3, .slice A4 ss.length c4, .int .i64 (s.page + ss.length)]) (by simp [results, Try.results22, go_sem, v0, v1, v2, v3, v4]) rfl hfin
theorem form_nums {x : ImgM} (h : formD x.d = true) : 0 ≤ x.heap ∧ x.heap ≤ 64 ∧ ∀ c ∈ x.comps, c.code.length ≤ 4096 ∧ 0 ≤ c.data ∧ c.data ≤ 8 := by
  rw [formD_eq] at h
  simp only [Bool.and_eq_true] at h
  have h1 := h.1.1.1.1.1
  unfold inB at h1
  rw [decide_eq_true_iff] at h1
  refine ⟨by omega, by omega, fun c hc => ?_⟩
  have h2 : (inB c.code.length 4 4096 && decide (c.code.length % 4 = 0) && inB c.data 1 8) = true := List.all_eq_true.1 h.2.1 c hc
  unfold inB at h2
  simp only [Bool.and_eq_true, decide_eq_true_iff] at h2
  omega
set_option maxHeartbeats 4000000 in
set_option maxRecDepth 100000 in
theorem where_no (x : ImgM) (w : World) (h : ImgAt w x) (hr : rightD x.d = false) : Calls Try.prog 22 #[x.val] w (WherePost w x.d) := by
  have H := Lib.hid h
  have HR := Lib.hid (fun w h => imgRight_any x w h)
  rw [hr] at HR
  have HRD := Lib.hid hr
  clear h hr
  go_enter Try.func22, Try.ntmps22
  go_wp2_with fail
  refine (HR.out _ (H.out.ext (by repeat first | (with_reducible exact Below.refl _ _) | (with_reducible apply Ext.alloc) | (with_reducible apply Ext.drew) | (with_reducible apply Ext.drewN) | (with_reducible refine Ext.set ?_ (by simp))))).mono ?_
  rintro e w2 ⟨rfl, hb2⟩
  obtain ⟨I2, J2, L2⟩ := new3 hb2
  have E2 : Ext w w2 := Ext.then (by repeat first | (with_reducible exact Below.refl _ _) | (with_reducible apply Ext.alloc) | (with_reducible apply Ext.drew) | (with_reducible apply Ext.drewN) | (with_reducible refine Ext.set ?_ (by simp))) hb2
  have hs2 : w.heap.size + 3 ≤ w2.heap.size := by have := hb2.size; simpa using this
  obtain ⟨y0, y1, y2, y3, y4⟩ := lie5 L2 (Below.refl _ w2)
  obtain ⟨x0, x1, x2, x3, x4⟩ := lie5 J2 (Below.refl _ w2)
  have fzr := frozen_row' J2
  have q2 := set5 (p := w.heap.size + 1) J2 (Nat.le_refl _) (.slice none 0 0) (.slice none 0 0) (.slice none 0 0) (.slice none 0 0) (.int .i64 0)
  have HQ := Lib.hid (And.intro q2 E2)
  clear q2 E2 hb2 I2 J2 L2
  go_wp2_with fail
  have q2 := HQ.out.1
  generalize ((((w2.setCell ⟨w.heap.size + 1, 0, none⟩ (.slice none 0 0)).setCell ⟨w.heap.size + 1, 1, none⟩ (.slice none 0 0)).setCell ⟨w.heap.size + 1, 2, none⟩ (.slice none 0 0)).setCell ⟨w.heap.size + 1, 3, none⟩ (.slice none 0 0)).setCell ⟨w.heap.size + 1, 4, none⟩ (.int .i64 0) = W7 at q2 ⊢
  obtain ⟨v0, v1, v2, v3, v4⟩ := lie5 q2.1 (Below.refl _ W7)
  refine bodyPost_ret (v := .agg #[.slice none 0 0, .slice none 0 0, .slice none 0 0, .slice none 0 0, .int .i64 0]) (by simp [results, Try.results22, go_sem, v0, v1, v2, v3, v4]) rfl ?_
  refine ⟨⟨none, 0, [], none, 0, [], none, 0, [], none, 0, [], 0⟩, ⟨.inl rfl, .inl rfl, .inl rfl, .inl rfl, Nat.le_refl _, Nat.le_refl _, Nat.le_refl _, Nat.le_refl _⟩, ?_, rfl, Only.below HQ.out.2 (Nat.le_succ _) q2.2⟩
  unfold whereD
  rw [HRD.out]
  rfl
theorem where_any (x : ImgM) (w : World) (h : ImgAt w x) : Calls Try.prog 22 #[x.val] w (WherePost w x.d) := by
  cases hr : rightD x.d with
  | false => exact where_no x w h hr
  | true =>
    have hf := rightD_form hr
    have h1 := formD_facts hf
    have h2 := form_nums hf
    have HR := fun w h => imgRight_any x w h
    rw [hr] at HR
    exact where_at x.strict x.heap x.full x.Ac x.cc x.comps x.Al x.cl x.links x.As x.cs x.shares w h h1.1 h1.2.2 h2.1 h2.2.1 h2.2.2 HR hr
end Go.Proofs.Ytgfnpcoigooblaa

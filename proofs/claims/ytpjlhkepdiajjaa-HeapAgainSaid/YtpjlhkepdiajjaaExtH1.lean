
/- Package extent: Give's last statement but one, apart. -/
import Derived.Test.YtpjlhkepdiajjaaExtH0
set_option linter.all false
namespace Go.Proofs.Ytpjlhkepdiajjaa
open Go.RowKit

/-- A part of a function's text, by its number. -/
def regionOf (n : Nat) : Code → Option Code
  | .region id ops d => if id = n then some (.region id ops d) else none
  | .seq a b => match regionOf n a with
    | some c => some c
    | none => regionOf n b
  | .cond _ a b => match regionOf n a with
    | some c => some c
    | none => regionOf n b
  | .block _ a => regionOf n a
  | .loop a => regionOf n a
  | .scope a => regionOf n a
  | _ => none

set_option maxHeartbeats 4000000 in
set_option maxRecDepth 20000 in
theorem give_tail (cd : Code) (hcd : Try.f38.body.bind (regionOf 14) = some cd) (p B i k : Nat) (a b z n X1 X2 : Int) (A : Option Addr) (c base : Nat) (R L : List Run) (w W : World)
    (HW : FreeAt W p a b (.slice A R.length c) base R) (KW : Kept p (Value.slice A R.length c).ownBlock w W) (w0 : W.cell? ⟨B, 0, none⟩ = some (.int .i64 X1)) (w1 : W.cell? ⟨B, 1, none⟩ = some (.int .i64 X2)) (hik : i ≤ k) (hk : k ≤ R.length)
    (hFX : Fine (X1, X2)) (hL : R.take i ++ [(X1, X2)] ++ R.drop k = L) (hlg : (giveR a b R z n).1.length ≤ 2000000) (hgv : giveR a b R z n = (L, true)) (u1 u2 u3 u4 u5 u6 u10 u11 u12 u13 u14 u15 u16 u17 u18 u19 u20 u21 u22 u23 u24 u25 u26 u27 u28 u29 u30 u31 u32 u33 u34 u35 u36 u37 u38 u39 u40 u41 u42 u43 u44 u45 u46 u47 u48 u49 u50 u51 u52 u53 u54 u55 u56 u57 u58 u59 u60 u61 u62 u63 u64 u65 u66 u67 u68 u69 u70 u71 u72 u73 u74 u75 u76 u77 u78 u79 u80 u81 u82 u83 u84 u85 u86 u87 u88 u89 u90 u91 u92 u93 u94 u95 u96 u97 u98 u99 u100 u101 u102 u103 u104 u105 u106 u107 u108 u109 u110 u111 u112 u113 u114 u115 u116 u117 u118 u119 u120 u121 u122 u123 u124 u125 u126 u127 u128 u129 u130 u131 u132 u133 u134 u135 u136 u137 u138 u139 u140 u141 u142 u143 u144 u145 u146 u147 u148 u149 u150 u151 u152 u153 u154 : Value) (K : Act → World → Prop) (PP : Ending → World → Prop)
    (hQ : ∀ (t143 t144 t145 t146 t147 t148 t149 t150 t151 t152 t153 t154 : Value) (w' : World), GivePost p a b (.slice A R.length c) base R z n w (.returned (.bool true)) w' → K ⟨#[.pointer (some ⟨p, 0, none⟩), u1, u2, u3, u4, u5, u6, .pointer (some ⟨B, 0, none⟩), .int .i64 (i : Int), .int .i64 (k : Int), u10, u11, u12, u13, u14, u15, u16, u17, u18, u19, u20, u21, u22, u23, u24, u25, u26, u27, u28, u29, u30, u31, u32, u33, u34, u35, u36, u37, u38, u39, u40, u41, u42, u43, u44, u45, u46, u47, u48, u49, u50, u51, u52, u53, u54, u55, u56, u57, u58, u59, u60, u61, u62, u63, u64, u65, u66, u67, u68, u69, u70, u71, u72, u73, u74, u75, u76, u77, u78, u79, u80, u81, u82, u83, u84, u85, u86, u87, u88, u89, u90, u91, u92, u93, u94, u95, u96, u97, u98, u99, u100, u101, u102, u103, u104, u105, u106, u107, u108, u109, u110, u111, u112, u113, u114, u115, u116, u117, u118, u119, u120, u121, u122, u123, u124, u125, u126, u127, u128, u129, u130, u131, u132, u133, u134, u135, u136, u137, u138, u139, u140, u141, u142, t143, t144, t145, t146, t147, t148, t149, t150, t151, t152, t153, t154], []⟩ w') :
    Code.wp Try.prog cd (Exit.then K (bodyPost Try.prog Try.f38 PP)) ⟨#[.pointer (some ⟨p, 0, none⟩), u1, u2, u3, u4, u5, u6, .pointer (some ⟨B, 0, none⟩), .int .i64 (i : Int), .int .i64 (k : Int), u10, u11, u12, u13, u14, u15, u16, u17, u18, u19, u20, u21, u22, u23, u24, u25, u26, u27, u28, u29, u30, u31, u32, u33, u34, u35, u36, u37, u38, u39, u40, u41, u42, u43, u44, u45, u46, u47, u48, u49, u50, u51, u52, u53, u54, u55, u56, u57, u58, u59, u60, u61, u62, u63, u64, u65, u66, u67, u68, u69, u70, u71, u72, u73, u74, u75, u76, u77, u78, u79, u80, u81, u82, u83, u84, u85, u86, u87, u88, u89, u90, u91, u92, u93, u94, u95, u96, u97, u98, u99, u100, u101, u102, u103, u104, u105, u106, u107, u108, u109, u110, u111, u112, u113, u114, u115, u116, u117, u118, u119, u120, u121, u122, u123, u124, u125, u126, u127, u128, u129, u130, u131, u132, u133, u134, u135, u136, u137, u138, u139, u140, u141, u142, u143, u144, u145, u146, u147, u148, u149, u150, u151, u152, u153, u154], []⟩ W := by
  simp only [Try.f38, Option.bind, regionOf] at hcd
  simp at hcd
  subst hcd
  have hne : (Value.slice A R.length c).ownBlock ≠ some W.heap.size := by
    intro e
    have := (HW.row.lt _ e).2
    omega
  have hpW : p < W.heap.size := HW.lt
  have hR := HW.len
  have hB : B < W.heap.size := cell_lt w0
  have z2 := HW.c2
  have HW := Lib.hid HW
  have HGV := Lib.hid (And.intro hgv hlg)
  have HFX := Lib.hid hFX
  have HQ := Lib.hid hQ
  clear hgv hlg hFX hQ
  go_wp2_with fail
  go_region_law (first
    | (go_simp; go_at_call 58; refine (replace_any base _ R i k (X1, X2) _ W.heap.size (own_ext HW.out.row (by repeat first | (with_reducible exact Below.refl _ _) | (with_reducible apply Ext.alloc) | (with_reducible apply Ext.drew) | (with_reducible apply Ext.drewN) | (with_reducible refine Ext.set ?_ (by simp)))) (by omega) (by omega) (by omega) (by first | exact heap_alloc_new _ _ | simpa using heap_alloc_new _ _) (by have := HW.out.low; simp; omega) hne).mono ?_; rintro e w2 ⟨v2, rfl, ho2, hg2, ha2⟩; rw [hL] at ho2; have hb2 := gave_blk HW.out (X := (X1, X2)) hg2; have u2 := cell_at2 hb2; have f2 := frozen_at2 hb2; obtain ⟨A2, k2, rfl, hk2, -⟩ := Arr.own ho2; dsimp only))
  all_goals
    exact HQ.out _ _ _ _ _ _ _ _ _ _ _ _ _ (give_end HW.out KW HFX.out hL HGV.out.2 HGV.out.1 ho2 hg2 ha2 hb2)
end Go.Proofs.Ytpjlhkepdiajjaa

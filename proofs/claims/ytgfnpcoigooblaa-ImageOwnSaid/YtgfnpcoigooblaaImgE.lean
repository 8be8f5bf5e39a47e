
/- Package image: all. -/
import Derived.Test.YtgfnpcoigooblaaImgC
set_option linter.all false
namespace Go.Proofs.Ytgfnpcoigooblaa
open Go.RowKit
theorem all_of_any {α : Type} (p : α → Bool) (l : List α) : (!(l.any fun x => !(p x))) = l.all p := by
  induction l with
  | nil => rfl
  | cons b l ih => rw [List.any_cons, List.all_cons, ← ih]; cases p b <;> simp

set_option maxHeartbeats 1000000 in
theorem allComp0 (A : Option Addr) (c : Nat) (l : List CompM) (g : Nat) (p : CompM → Bool) (w : World) (hA : Arr w A (l.flatMap CompM.cells)) (hR : l.length ≤ 140737488351232) (eg : ∀ args w, (callFunc g args).run Try.prog w = .ok (.enter g args) w)
    (hp : ∀ (W : World) (x : CompM), x ∈ l → Ext w W → Calls Try.prog g #[.agg #[.slice x.A x.code.length x.cap, .int .i64 x.data]] W fun e w' => e = .returned (.bool (p x)) ∧ Ext W w') :
    Calls Try.prog 37 #[.slice A l.length c, .func (.func g) #[] #[]] w fun e w' => e = .returned (.bool (l.all p)) ∧ Ext w w' := by
  have HT : TestsComp 61 (.pointer (some ⟨w.heap.size, 0, none⟩)) (fun x => !(p x)) l (w.alloc (.cells #[.func (.func g) #[] #[]] 74)) := by
    intro W x hx hW
    have hb : W.cell? ⟨w.heap.size, 0, none⟩ = some (.func (.func g) #[] #[]) := by
      have := new_at (b := w.heap.size) rfl hW
      simp [World.cell?, this]
    have hlt : w.heap.size < W.heap.size := by have := hW.size; simp at this; omega
    have HC := Lib.hid (hp (W.alloc (.cells #[.slice x.A x.code.length x.cap, .int .i64 x.data] 53)) x hx (by repeat first | (with_reducible exact Below.refl _ _) | (with_reducible apply Ext.alloc) | (with_reducible apply Ext.drew) | (with_reducible apply Ext.drewN) | (with_reducible refine Ext.set ?_ (by simp)) | (with_reducible refine Ext.then ?_ hW)))
    clear hW
    go_enter Try.func61, Try.ntmps61
    go_wp2_with fail
    refine HC.out.mono ?_
    rintro e w2 ⟨rfl, hb2⟩
    go_wp2_with fail
    go_ret
    exact ⟨rfl, (Ext.alloc (Below.refl _ W) _).then hb2⟩
  have HC := Lib.hid (containsComp A c l 61 (.pointer (some ⟨w.heap.size, 0, none⟩)) (fun x => !(p x)) (w.alloc (.cells #[.func (.func g) #[] #[]] 74)) (hA.ext (by repeat first | (with_reducible exact Below.refl _ _) | (with_reducible apply Ext.alloc) | (with_reducible apply Ext.drew) | (with_reducible apply Ext.drewN) | (with_reducible refine Ext.set ?_ (by simp)))) hR (fun args w => by kernel_rfl) HT)
  have hall : (!(l.any fun x => !(p x))) = l.all p := by
    exact all_of_any p l
  have HA := Lib.hid hall
  clear hall HT hp
  go_enter Try.func37, Try.ntmps37
  go_wp2_with fail
  refine HC.out.mono ?_
  rintro e w2 ⟨rfl, hb2⟩
  obtain ⟨z, hz⟩ : ∃ z, z = l.any fun x => !(p x) := ⟨_, rfl⟩
  rw [← hz]
  have HZ := Lib.hid hz
  clear hz
  go_wp2_with fail
  go_ret
  exact ⟨ret_bool (by rw [← HA.out, ← HZ.out]), (Ext.alloc (Below.refl _ w) _).then hb2⟩

set_option maxHeartbeats 1000000 in
theorem allComp1 (A : Option Addr) (c : Nat) (l : List CompM) (g : Nat) (q : Value) (p : CompM → Bool) (w : World) (hA : Arr w A (l.flatMap CompM.cells)) (hR : l.length ≤ 140737488351232) (eg : ∀ args w, (callFunc g args).run Try.prog w = .ok (.enter g args) w)
    (hp : ∀ (W : World) (x : CompM), x ∈ l → Ext w W → Calls Try.prog g #[.agg #[.slice x.A x.code.length x.cap, .int .i64 x.data], q] W fun e w' => e = .returned (.bool (p x)) ∧ Ext W w') :
    Calls Try.prog 37 #[.slice A l.length c, .func (.func g) #[] #[q]] w fun e w' => e = .returned (.bool (l.all p)) ∧ Ext w w' := by
  have HT : TestsComp 61 (.pointer (some ⟨w.heap.size, 0, none⟩)) (fun x => !(p x)) l (w.alloc (.cells #[.func (.func g) #[] #[q]] 74)) := by
    intro W x hx hW
    have hb : W.cell? ⟨w.heap.size, 0, none⟩ = some (.func (.func g) #[] #[q]) := by
      have := new_at (b := w.heap.size) rfl hW
      simp [World.cell?, this]
    have hlt : w.heap.size < W.heap.size := by have := hW.size; simp at this; omega
    have HC := Lib.hid (hp (W.alloc (.cells #[.slice x.A x.code.length x.cap, .int .i64 x.data] 53)) x hx (by repeat first | (with_reducible exact Below.refl _ _) | (with_reducible apply Ext.alloc) | (with_reducible apply Ext.drew) | (with_reducible apply Ext.drewN) | (with_reducible refine Ext.set ?_ (by simp)) | (with_reducible refine Ext.then ?_ hW)))
    clear hW
    go_enter Try.func61, Try.ntmps61
    go_wp2_with fail
    refine HC.out.mono ?_
    rintro e w2 ⟨rfl, hb2⟩
    go_wp2_with fail
    go_ret
    exact ⟨rfl, (Ext.alloc (Below.refl _ W) _).then hb2⟩
  have HC := Lib.hid (containsComp A c l 61 (.pointer (some ⟨w.heap.size, 0, none⟩)) (fun x => !(p x)) (w.alloc (.cells #[.func (.func g) #[] #[q]] 74)) (hA.ext (by repeat first | (with_reducible exact Below.refl _ _) | (with_reducible apply Ext.alloc) | (with_reducible apply Ext.drew) | (with_reducible apply Ext.drewN) | (with_reducible refine Ext.set ?_ (by simp)))) hR (fun args w => by kernel_rfl) HT)
  have hall : (!(l.any fun x => !(p x))) = l.all p := by
    exact all_of_any p l
  have HA := Lib.hid hall
  clear hall HT hp
  go_enter Try.func37, Try.ntmps37
  go_wp2_with fail
  refine HC.out.mono ?_
  rintro e w2 ⟨rfl, hb2⟩
  obtain ⟨z, hz⟩ : ∃ z, z = l.any fun x => !(p x) := ⟨_, rfl⟩
  rw [← hz]
  have HZ := Lib.hid hz
  clear hz
  go_wp2_with fail
  go_ret
  exact ⟨ret_bool (by rw [← HA.out, ← HZ.out]), (Ext.alloc (Below.refl _ w) _).then hb2⟩

set_option maxHeartbeats 1000000 in
theorem allLink1 (A : Option Addr) (c : Nat) (l : List LinkM) (g : Nat) (q : Value) (p : LinkM → Bool) (w : World) (hA : Arr w A (l.flatMap LinkM.cells)) (hR : l.length ≤ 140737488351232) (eg : ∀ args w, (callFunc g args).run Try.prog w = .ok (.enter g args) w)
    (hp : ∀ (W : World) (x : LinkM), x ∈ l → Ext w W → Calls Try.prog g #[.agg #[.int .i64 x.fr, .int .i64 x.to, .int .i64 x.at'], q] W fun e w' => e = .returned (.bool (p x)) ∧ Ext W w') :
    Calls Try.prog 52 #[.slice A l.length c, .func (.func g) #[] #[q]] w fun e w' => e = .returned (.bool (l.all p)) ∧ Ext w w' := by
  have HT : TestsLink 69 (.pointer (some ⟨w.heap.size, 0, none⟩)) (fun x => !(p x)) l (w.alloc (.cells #[.func (.func g) #[] #[q]] 91)) := by
    intro W x hx hW
    have hb : W.cell? ⟨w.heap.size, 0, none⟩ = some (.func (.func g) #[] #[q]) := by
      have := new_at (b := w.heap.size) rfl hW
      simp [World.cell?, this]
    have hlt : w.heap.size < W.heap.size := by have := hW.size; simp at this; omega
    have HC := Lib.hid (hp (W.alloc (.cells #[.int .i64 x.fr, .int .i64 x.to, .int .i64 x.at'] 68)) x hx (by repeat first | (with_reducible exact Below.refl _ _) | (with_reducible apply Ext.alloc) | (with_reducible apply Ext.drew) | (with_reducible apply Ext.drewN) | (with_reducible refine Ext.set ?_ (by simp)) | (with_reducible refine Ext.then ?_ hW)))
    clear hW
    go_enter Try.func69, Try.ntmps69
    go_wp2_with fail
    refine HC.out.mono ?_
    rintro e w2 ⟨rfl, hb2⟩
    go_wp2_with fail
    go_ret
    exact ⟨rfl, (Ext.alloc (Below.refl _ W) _).then hb2⟩
  have HC := Lib.hid (containsLink A c l 69 (.pointer (some ⟨w.heap.size, 0, none⟩)) (fun x => !(p x)) (w.alloc (.cells #[.func (.func g) #[] #[q]] 91)) (hA.ext (by repeat first | (with_reducible exact Below.refl _ _) | (with_reducible apply Ext.alloc) | (with_reducible apply Ext.drew) | (with_reducible apply Ext.drewN) | (with_reducible refine Ext.set ?_ (by simp)))) hR (fun args w => by kernel_rfl) HT)
  have hall : (!(l.any fun x => !(p x))) = l.all p := by
    exact all_of_any p l
  have HA := Lib.hid hall
  clear hall HT hp
  go_enter Try.func52, Try.ntmps52
  go_wp2_with fail
  refine HC.out.mono ?_
  rintro e w2 ⟨rfl, hb2⟩
  obtain ⟨z, hz⟩ : ∃ z, z = l.any fun x => !(p x) := ⟨_, rfl⟩
  rw [← hz]
  have HZ := Lib.hid hz
  clear hz
  go_wp2_with fail
  go_ret
  exact ⟨ret_bool (by rw [← HA.out, ← HZ.out]), (Ext.alloc (Below.refl _ w) _).then hb2⟩

set_option maxHeartbeats 1000000 in
theorem allShare1 (A : Option Addr) (c : Nat) (l : List ShareM) (g : Nat) (q : Value) (p : ShareM → Bool) (w : World) (hA : Arr w A (l.flatMap ShareM.cells)) (hR : l.length ≤ 140737488351232) (eg : ∀ args w, (callFunc g args).run Try.prog w = .ok (.enter g args) w)
    (hp : ∀ (W : World) (x : ShareM), x ∈ l → Ext w W → Calls Try.prog g #[.agg #[.int .i64 x.rd, .int .i64 x.wr], q] W fun e w' => e = .returned (.bool (p x)) ∧ Ext W w') :
    Calls Try.prog 56 #[.slice A l.length c, .func (.func g) #[] #[q]] w fun e w' => e = .returned (.bool (l.all p)) ∧ Ext w w' := by
  have HT : TestsShare 72 (.pointer (some ⟨w.heap.size, 0, none⟩)) (fun x => !(p x)) l (w.alloc (.cells #[.func (.func g) #[] #[q]] 95)) := by
    intro W x hx hW
    have hb : W.cell? ⟨w.heap.size, 0, none⟩ = some (.func (.func g) #[] #[q]) := by
      have := new_at (b := w.heap.size) rfl hW
      simp [World.cell?, this]
    have hlt : w.heap.size < W.heap.size := by have := hW.size; simp at this; omega
    have HC := Lib.hid (hp (W.alloc (.cells #[.int .i64 x.rd, .int .i64 x.wr] 70)) x hx (by repeat first | (with_reducible exact Below.refl _ _) | (with_reducible apply Ext.alloc) | (with_reducible apply Ext.drew) | (with_reducible apply Ext.drewN) | (with_reducible refine Ext.set ?_ (by simp)) | (with_reducible refine Ext.then ?_ hW)))
    clear hW
    go_enter Try.func72, Try.ntmps72
    go_wp2_with fail
    refine HC.out.mono ?_
    rintro e w2 ⟨rfl, hb2⟩
    go_wp2_with fail
    go_ret
    exact ⟨rfl, (Ext.alloc (Below.refl _ W) _).then hb2⟩
  have HC := Lib.hid (containsShare A c l 72 (.pointer (some ⟨w.heap.size, 0, none⟩)) (fun x => !(p x)) (w.alloc (.cells #[.func (.func g) #[] #[q]] 95)) (hA.ext (by repeat first | (with_reducible exact Below.refl _ _) | (with_reducible apply Ext.alloc) | (with_reducible apply Ext.drew) | (with_reducible apply Ext.drewN) | (with_reducible refine Ext.set ?_ (by simp)))) hR (fun args w => by kernel_rfl) HT)
  have hall : (!(l.any fun x => !(p x))) = l.all p := by
    exact all_of_any p l
  have HA := Lib.hid hall
  clear hall HT hp
  go_enter Try.func56, Try.ntmps56
  go_wp2_with fail
  refine HC.out.mono ?_
  rintro e w2 ⟨rfl, hb2⟩
  obtain ⟨z, hz⟩ : ∃ z, z = l.any fun x => !(p x) := ⟨_, rfl⟩
  rw [← hz]
  have HZ := Lib.hid hz
  clear hz
  go_wp2_with fail
  go_ret
  exact ⟨ret_bool (by rw [← HA.out, ← HZ.out]), (Ext.alloc (Below.refl _ w) _).then hb2⟩
end Go.Proofs.Ytgfnpcoigooblaa

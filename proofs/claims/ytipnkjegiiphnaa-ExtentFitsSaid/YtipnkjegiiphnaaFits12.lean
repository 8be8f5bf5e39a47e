/- ExtentFits: its walk. -/
import Derived.Test.YtipnkjegiiphnaaHead12
import Derived.Test.YtipnkjegiiphnaaOpenOps
import Derived.Test.YtipnkjegiiphnaaExtQ
import Derived.BigQuiet
set_option linter.all false
namespace Go.Proofs.Ytipnkjegiiphnaa
open Go.RowKit

set_option maxHeartbeats 4000000 in
set_option maxRecDepth 20000 in
theorem fits_short (n k : Int) (A : Option Addr) (c : Nat) (l : List Op12) (w : World) (h : Arr w A (opCells l)) (hlc : l.length ≤ c) (n0 : 0 ≤ n) (n1 : n < 256) (k0 : 0 ≤ k) (k1 : k < 256) (hl : l.length ≤ 200) :
    Calls Try.prog 6 #[.int .u8 n, .slice A l.length c, .int .u8 k] w fun e w' => e = .returned (.bool true) ∧ Ext w w' := by
  have hmb : mayBe 0 (16 * n) := ⟨by omega, by omega, by omega, by omega, by omega⟩
  go_enter Try.func6, Try.ntmps6
  go_wp2_with fail
  refine (head_any _).mono ?_
  rintro e w1 ⟨rfl, b1⟩
  go_wp2_with fail
  refine (new_yes 0 (16 * n) _ hmb).mono ?_
  rintro e w2 ⟨b2, p, v, rfl, hF⟩
  have E2 : Ext w w2 := b1.then b2
  have hbase : w.heap.size ≤ w1.heap.size := b1.size
  have hg : decide ((l.length : Int) > 200) = false := decide_eq_false (by omega)
  have HWF := wf_start hmb
  clear b1 b2
  go_wp2_with fail
  go_loopw [9] (fun i wr => ∃ (j : Nat) (v : Value) (R : List Run), j ≤ l.length ∧ i = .int .i64 (j : Int) ∧ FreeAt wr p 0 (16 * n) v w1.heap.size R ∧ WF 0 (16 * n) R ∧ Ext w wr) (fun i _ => l.length - (intOf i).toNat)
  case atStart => exact ⟨0, v, _, Nat.zero_le _, rfl, hF, HWF, E2⟩
  case round =>
    obtain ⟨j, v, R, hj, rfl, hF, hW, hE⟩ := hrel
    by_cases hlt : j < l.length
    · obtain ⟨b1, o1, rfl, -, q1⟩ := (h.ext hE).flat (s := 3) (fun _ => rfl) (by decide) hlt
      have x0 : wr.cell? ⟨b1, o1 + j * 3, none⟩ = some (.int .i64 l[j].what) := by simpa using q1 0 _ rfl
      have x1 := q1 1 _ rfl
      have x2 := q1 2 _ rfl
      clear q1
      have HF := Lib.hid hF
      have HW := Lib.hid hW
      by_cases hd : l[j].what < 3
      · have hd' : decide (l[j].what < 3) = true := decide_eq_true hd
        go_wp2_with fail
        refine (take_any _ _ _ _ _ _ _ _ HF.out).mono ?_
        intro e w4 h4
        unfold TakePost at h4
        obtain ⟨rfl, v4, F4, K4, -⟩ := h4
        go_wp2_with fail
        exact ⟨⟨j + 1, v4, _, by omega, by simp, F4, wf_take HW.out _, Below.trans hE (free_below HF.out K4 hbase)⟩, by simp [intOf]; omega⟩
      · have hd' : decide (l[j].what < 3) = false := decide_eq_false hd
        go_wp2_with fail
        go_region_law (first
          | (go_simp; go_at_call 13; refine (give_any _ _ _ _ _ _ _ _ _ (HF.out.ext (by repeat first | (with_reducible exact Below.refl _ _) | (with_reducible apply Ext.alloc) | (with_reducible apply Ext.drew) | (with_reducible apply Ext.drewN) | (with_reducible refine Ext.set ?_ (by simp)))) (give_len HW.out hmb.2.2.2.1 (by omega) hmb.2.2.2.2 _ _)).mono ?_; intro e w4 h4; unfold GivePost at h4; obtain ⟨rfl, v4, F4, K4, -⟩ := h4; dsimp only))
        all_goals
          go_wp2_with fail
          exact ⟨⟨j + 1, v4, _, by omega, by simp, F4, wf_give HW.out _ _, Below.trans hE (Below.trans (Below.mono (by repeat first | (with_reducible exact Below.refl _ _) | (with_reducible apply Ext.alloc) | (with_reducible apply Ext.drew) | (with_reducible apply Ext.drewN) | (with_reducible refine Ext.set ?_ (by simp))) hE.size) (free_below (HF.out.ext (by repeat first | (with_reducible exact Below.refl _ _) | (with_reducible apply Ext.alloc) | (with_reducible apply Ext.drew) | (with_reducible apply Ext.drewN) | (with_reducible refine Ext.set ?_ (by simp)))) K4 hbase))⟩, by simp [intOf]; omega⟩
    · obtain ⟨S, hS⟩ : ∃ S, S = 16 * (1 + k % 16) := ⟨_, rfl⟩
      have s1 : 1 ≤ S := by omega
      have s2 : S % 16 = 0 := by omega
      have s3 : S ≤ 256 := by omega
      have hti := take_iff (R := R) s1 s2
      have htf : ∀ (i : Nat) (hi : i < R.length), S ≤ R[i].2 - R[i].1 → (∀ j (hj : j < R.length), j < i → ¬ S ≤ R[j].2 - R[j].1) → (takeR R S).2.1 = R[i].1 ∧ (takeR R S).2.2 = true := fun i hi => take_first s1 s2 hi
      have htn : (∀ j (hj : j < R.length), ¬ S ≤ R[j].2 - R[j].1) → (takeR R S).2.2 = false := fun hn => by
        cases hb : (takeR R S).2.2 with
        | false => rfl
        | true =>
          obtain ⟨r, hr, h⟩ := (most_iff (by omega)).1 (hti.1 hb)
          obtain ⟨i, hi, rfl⟩ := List.getElem_of_mem hr
          exact absurd h (hn i hi)
      have HSS := Lib.hid hS
      clear hS
      go_wp2_with fail
      refine (runs_free _ _ _ _ _ _ _ hF).mono ?_
      rintro e w4 ⟨v4, rfl, ho4, b4⟩
      have F4 := hF.ext b4
      have E4 := hE.then b4
      clear hF b4 hE
      go_wp2_with fail
      refine (most_free _ _ _ _ _ _ _ F4).mono ?_
      rintro e w5 ⟨rfl, b5⟩
      have F5 := F4.ext b5
      have E5 := E4.then b5
      have ho5 := own_ext ho4 b5
      clear F4 b5 E4 ho4
      have T := take_any p 0 (16 * n) v _ R S w5 F5
      have HT := Lib.hid T
      clear T
      have hlen := F5.len
      have HFI := Lib.hid F5.fine
      go_wp2_with fail
      rw [show (16 * (1 + k % 16) : Int) = S from HSS.out.symm]
      refine HT.out.mono ?_
      intro e w6 h6
      unfold TakePost at h6
      generalize takeR R S = X at h6 hti htf htn
      obtain ⟨X1, at', is⟩ := X
      simp only at h6 hti htf htn
      obtain ⟨rfl, v6, F6, K6, -⟩ := h6
      have E6 : Ext w w6 := Below.trans E5 (free_below F5 K6 hbase)
      have ho6 := pair_kept F5 K6 ho5
      obtain ⟨A6, c6, rfl, hc6, ha6⟩ := Arr.own ho6
      clear F5 F6 K6 E5 ho5 ho6 HT
      have hcmp : is = decide (S ≤ mostR R) := by rw [Bool.eq_iff_iff, hti, decide_eq_true_iff]
      have HTF := Lib.hid (And.intro htf htn)
      clear htf htn hti
      subst hcmp
      generalize hq : decide (S ≤ mostR R) = q at HTF
      have hl16 : R.length ≤ 2000000 := hlen
      go_wp2_with fail
      go_loopw [15] (fun i wr => ∃ (j m : Nat), j ≤ R.length ∧ i = .int .i64 (j : Int) ∧ wr = w6.drewN m ∧ Hid (∀ x (hx : x < R.length), x < j → ¬ S ≤ R[x].2 - R[x].1)) (fun i _ => R.length - (intOf i).toNat)
      case atStart => exact ⟨0, 0, Nat.zero_le _, rfl, rfl, fun x _ hx => by omega⟩
      case round =>
        obtain ⟨j, m, hj, rfl, rfl, hall⟩ := hrel
        by_cases hlt : j < R.length
        · obtain ⟨b1, o1, rfl, -, q1⟩ := ha6.flat (s := 2) (fun _ => rfl) (by decide) hlt
          have x0 : w6.cell? ⟨b1, o1 + j * 2, none⟩ = some (.int .i64 R[j].1) := by simpa using q1 0 _ rfl
          have x1 := q1 1 _ rfl
          clear q1
          have hwr : IntKind.i64.wrap (R[j].2 - R[j].1) = R[j].2 - R[j].1 := IntWalk.i64_in _ (by obtain ⟨f0, f1, f2, f3⟩ := HFI.out R[j] (List.getElem_mem hlt); omega)
          by_cases hfit : S ≤ R[j].2 - R[j].1
          · have hge : decide (R[j].2 - R[j].1 ≥ S) = true := decide_eq_true hfit
            obtain ⟨hat, hqt⟩ := HTF.out.1 j hlt hfit (fun x hx hxj => by have := hall.out x hx hxj; omega)
            have hat' : (at' == R[j].1) = true := by simpa using hat
            clear hat
            go_wp2_with fail
            go_quiet (fail)
            go_wp2_with fail
            go_ret
            exact ⟨rfl, Ext.drewN E6 _⟩
          · have hge : decide (R[j].2 - R[j].1 ≥ S) = false := decide_eq_false hfit
            go_wp2_with fail
            go_quiet (fail)
            go_wp2_with fail
            exact ⟨⟨j + 1, _, by omega, by simp, rfl, fun x hx hxj => by rcases Nat.lt_succ_iff_lt_or_eq.1 hxj with hxj | rfl; (have := hall.out x hx hxj; omega); omega⟩, by simp [intOf]; omega⟩
        · have hno := HTF.out.2 fun x hx => by have := hall.out x hx (by omega); omega
          subst hno
          go_wp2_with fail
          go_ret
          exact ⟨rfl, Ext.drewN E6 _⟩
set_option maxHeartbeats 4000000 in
set_option maxRecDepth 20000 in
theorem fits_long (n k : Int) (A : Option Addr) (c : Nat) (l : List Op12) (w : World) (hlc : l.length ≤ c) (hcm : c ≤ maxLen) (n0 : 0 ≤ n) (n1 : n < 256) (hl : 200 < l.length) :
    Calls Try.prog 6 #[.int .u8 n, .slice A l.length c, .int .u8 k] w fun e w' => e = .returned (.bool true) ∧ Ext w w' := by
  have hmb : mayBe 0 (16 * n) := ⟨by omega, by omega, by omega, by omega, by omega⟩
  go_enter Try.func6, Try.ntmps6
  go_wp2_with fail
  refine (head_any _).mono ?_
  rintro e w1 ⟨rfl, b1⟩
  go_wp2_with fail
  refine (new_yes 0 (16 * n) _ hmb).mono ?_
  rintro e w2 ⟨b2, p, v, rfl, hF⟩
  have E2 : Ext w w2 := b1.then b2
  have hg : decide ((l.length : Int) > 200) = true := decide_eq_true (by omega)
  go_wp2_with fail
  go_ret
  exact ⟨rfl, E2⟩
theorem fits_any12 (n k : Int) (A : Option Addr) (c : Nat) (l : List Op12) (w : World) (h : Arr w A (opCells l)) (hlc : l.length ≤ c) (hcm : c ≤ maxLen) (n0 : 0 ≤ n) (n1 : n < 256) (k0 : 0 ≤ k) (k1 : k < 256) :
    Calls Try.prog 6 #[.int .u8 n, .slice A l.length c, .int .u8 k] w fun e w' => e = .returned (.bool true) ∧ Ext w w' := by
  by_cases hl : l.length ≤ 200
  · exact fits_short n k A c l w h hlc n0 n1 k0 k1 hl
  · exact fits_long n k A c l w hlc hcm n0 n1 (by omega)
end Go.Proofs.Ytipnkjegiiphnaa

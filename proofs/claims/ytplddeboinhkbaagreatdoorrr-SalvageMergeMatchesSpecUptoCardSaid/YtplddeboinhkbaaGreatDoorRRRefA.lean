/- The functions of the reference of chapter 1 on words and frames: what they return. -/

import Derived.Test.YtplddeboinhkbaaGreatDoorRRProg
import Derived.Test.YtplddeboinhkbaaGreatDoorRRFrameC
namespace Go.Proofs.YtplddeboinhkbaaGreatDoorRR
open Go.RowKit
theorem onesF_more : ∀ (k n : Nat), n < 2 ^ k → onesF k n = n % 2 + onesF (k - 1) (n / 2)
  | 0, n, h => by
    have : n = 0 := by simpa using h
    subst this
    rfl
  | k + 1, n, _ => by simp [onesF]
set_option maxHeartbeats 400000 in
theorem rodd_any (n : Nat) (w : World) (h1 : n < 65536) :
    Calls Tryz.prog 74 #[.int .i64 n] w fun e w' => e = .returned (.bool (oddB n)) ∧ Ext w w' := by
  go_enter Tryz.func74, Tryz.ntmps74
  go_wp2
  go_loop [0, 3] (fun m s => ∃ k a b : Nat, k ≤ 16 ∧ b < 2 ^ k ∧ a + onesF k b = ones n ∧ m = .int .i64 b ∧ s = .int .i64 a) (fun m _ => (intOf m).toNat)
  case atStart => exact ⟨16, 0, n, by omega, by omega, by unfold ones; omega, rfl, rfl⟩
  case round =>
    obtain ⟨k, a, b, hk, hb, hab, rfl, rfl⟩ := hrel
    have ha := onesF_le k b
    have ho := onesF_le 16 n
    have hle : a ≤ 16 := by unfold ones at hab; omega
    have h16 : b < 65536 := Nat.lt_of_lt_of_le hb (Nat.pow_le_pow_right (by decide) hk)
    by_cases hz : 0 < b
    · have hk0 : 0 < k := by
        rcases Nat.eq_zero_or_pos k with h | h
        · subst h; simp at hb; omega
        · exact h
      have HM := Lib.hid (onesF_more k b hb)
      have HA := Lib.hid hab
      have hb2 : b / 2 < 2 ^ (k - 1) := by
        have : 2 ^ k = 2 ^ (k - 1) * 2 := by rw [← Nat.pow_succ]; congr 1; omega
        omega
      clear hab ho ha
      go_wp2
      go_round
      case rel => exact ⟨k - 1, a + b % 2, b / 2, by omega, hb2, by have := HM.out; have := HA.out; omega, by go_num, by go_num⟩
      case measure => simp [intOf]; omega
    · obtain rfl : b = 0 := by omega
      have HA := Lib.hid hab
      have HZ := Lib.hid (onesF_zero k)
      clear hab
      go_wp2
      go_ret
      refine ⟨ret_bool ?_, Ext.refl w⟩
      have h2 := HA.out
      rw [HZ.out, Nat.add_zero] at h2
      subst h2
      exact odd_eq n
set_option maxHeartbeats 400000 in
theorem rword_any (d : Nat) (w : World) (h1 : d < 2048) :
    Calls Tryz.prog 54 #[.int .i64 d] w fun e w' => e = .returned (.int .i64 (wordN d : Nat)) ∧ Ext w w' := by
  by_cases h : oddB d = true
  · have ho := rodd_any d
    rw [h] at ho
    have HO := Lib.hid ho
    have hw := Lib.hid (show wordN d = d by simp [wordN, h])
    clear ho h
    go_enter Tryz.func54, Tryz.ntmps54
    go_wp2_with (go_at_call 74; refine (HO.out _ (by omega)).mono ?_; rintro e w1 ⟨rfl, hE⟩)
    go_ret
    exact ⟨by rw [hw.out]; rfl, hE⟩
  · have ho := rodd_any d
    have h' : oddB d = false := by simpa using h
    rw [h'] at ho
    have HO := Lib.hid ho
    have hw := Lib.hid (show wordN d = d + 2048 by simp [wordN, h'])
    clear ho h h'
    go_enter Tryz.func54, Tryz.ntmps54
    go_wp2_with (go_at_call 74; refine (HO.out _ (by omega)).mono ?_; rintro e w1 ⟨rfl, hE⟩)
    go_ret
    exact ⟨by rw [hw.out]; rfl, hE⟩
set_option maxHeartbeats 400000 in
theorem syncOf_any (n : Nat) (w : World) (h1 : n < 4194304) :
    Calls Tryz.prog 55 #[.int .i64 n] w fun e w' => e = .returned (.int .i64 (syncN n : Nat)) ∧ Ext w w' := by
  have i0 : ∀ w, (Instr.index 105 (.agg #[.int .i64 583, .int .i64 1464, .int .i64 2631, .int .i64 3512]) (.int .i64 0)).run Tryz.prog w = .ok (.int .i64 583) w := fun _ => by kernel_rfl
  have i1 : ∀ w, (Instr.index 105 (.agg #[.int .i64 583, .int .i64 1464, .int .i64 2631, .int .i64 3512]) (.int .i64 1)).run Tryz.prog w = .ok (.int .i64 1464) w := fun _ => by kernel_rfl
  have i2 : ∀ w, (Instr.index 105 (.agg #[.int .i64 583, .int .i64 1464, .int .i64 2631, .int .i64 3512]) (.int .i64 2)).run Tryz.prog w = .ok (.int .i64 2631) w := fun _ => by kernel_rfl
  have i3 : ∀ w, (Instr.index 105 (.agg #[.int .i64 583, .int .i64 1464, .int .i64 2631, .int .i64 3512]) (.int .i64 3)).run Tryz.prog w = .ok (.int .i64 3512) w := fun _ => by kernel_rfl
  have h4 : n % 4 = 0 ∨ n % 4 = 1 ∨ n % 4 = 2 ∨ n % 4 = 3 := by omega
  rcases h4 with h | h | h | h
  all_goals
    have hn : ((n : Nat) : Int) % 4 = ((n % 4 : Nat) : Int) := rfl
    rw [h] at hn
    have hv := Lib.hid (show syncN n = syncN (n % 4) from (syncN_mod n).symm)
    have hh := Lib.hid h
    clear h
    go_enter Tryz.func55, Tryz.ntmps55
    go_wp2
    go_ret
    exact ⟨by rw [hv.out, hh.out]; rfl, Ext.refl w⟩
set_option maxHeartbeats 400000 in
theorem rright_any (n : Nat) (w : World) (h1 : n < 65536) :
    Calls Tryz.prog 75 #[.int .u16 n] w fun e w' => e = .returned (.bool (rightB n)) ∧ Ext w w' := by
  by_cases h : n ≤ 4095
  · have h' : decide ((n : Int) ≤ 4095) = true := by simp; omega
    go_enter Tryz.func75, Tryz.ntmps75
    go_wp2_with (go_at_call 74; refine (rodd_any _ _ h1).mono ?_; rintro e w1 ⟨rfl, hE⟩)
    go_ret
    exact ⟨ret_bool (by simp only [rightB, h, decide_true, Bool.true_and]), hE⟩
  · have h' : decide ((n : Int) ≤ 4095) = false := by simp; omega
    go_enter Tryz.func75, Tryz.ntmps75
    go_wp2
    go_ret
    exact ⟨ret_bool (by simp [rightB, h]), Ext.refl w⟩
set_option maxHeartbeats 400000 in
theorem rnumberOf_any (f : List Nat) (w : World) (hf : FrameOk f) :
    Calls Tryz.prog 56 #[.agg (encF f)] w fun e w' => e = .returned (.int .i64 (numN f : Nat)) ∧ Ext w w' := by
  have c1 := encF_at hf 1 (by omega)
  have c2 := encF_at hf 2 (by omega)
  have b1 := hf.2 1
  have b2 := hf.2 2
  go_enter Tryz.func56, Tryz.ntmps56
  go_wp2
  go_ret
  exact ⟨rfl, (Ext.refl w).alloc _⟩
set_option maxHeartbeats 400000 in
theorem rsum_any (f : List Nat) (w : World) (hf : FrameOk f) :
    Calls Tryz.prog 57 #[.agg (encF f)] w fun e w' => e = .returned (.int .i64 (sumN f : Nat)) ∧ Ext w w' := by
  go_enter Tryz.func57, Tryz.ntmps57
  go_wp2
  go_loop [3, 4] (fun s i => ∃ k : Nat, k ≤ 60 ∧ i = .int .i64 (k + 1) ∧ s = .int .i64 (sumTo f k : Nat)) (fun _ i => 61 - (intOf i).toNat)
  case atStart => exact ⟨0, by omega, rfl, rfl⟩
  case round =>
    obtain ⟨k, hk, rfl, rfl⟩ := hrel
    by_cases hlt : k < 60
    · have hc := encF_at hf (k + 1) (by omega)
      have hb := hf.2 (k + 1)
      have hs := sumTo_lt f k
      have hx := Lib.hid (i64_xor_nat (sumTo f k) (wd f (k + 1) % 2048) (by omega) (by omega))
      go_wp2
      go_round
      case rel => exact ⟨k + 1, by omega, by go_num, val_int hx.out⟩
      case measure => simp [intOf]; omega
    · obtain rfl : k = 60 := by omega
      go_wp2
      go_ret
      exact ⟨rfl, (Ext.refl w).alloc _⟩
end Go.Proofs.YtplddeboinhkbaaGreatDoorRR

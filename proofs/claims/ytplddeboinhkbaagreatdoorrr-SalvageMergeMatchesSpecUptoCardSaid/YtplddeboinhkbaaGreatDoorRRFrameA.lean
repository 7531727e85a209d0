/- The functions of package frame on words, and those that read a frame behind a pointer: what they return. -/

import Derived.Test.YtplddeboinhkbaaGreatDoorRRProg
import Derived.Test.YtplddeboinhkbaaGreatDoorRRExt
import Derived.Test.YtplddeboinhkbaaGreatDoorRRPlain
namespace Go.Proofs.YtplddeboinhkbaaGreatDoorRR
open Go.RowKit
theorem quiet_index_tab {P : Program} {o : Oper} {a : Act} {C : World → Prop} {K : Act → Prop} (T : TypeId) (x i : Operand) (ho : o.op = .index T x i)
    (hT : P.underlying T = some .string) (s : ByteArray) (kd : IntKind) (k : Nat) (hx : a.eval x = .string s) (hi : a.eval i = .int kd (k : Int))
    (v : Nat) (hv : v < 256) (hs : s[k]? = some v.toUInt8) (h : K (a.put o.dst (.int .u8 (v : Int)))) : o.quiet P a C K := by
  refine ⟨.int .u8 (v : Int), fun w _ => ?_, h⟩
  have e : (v.toUInt8.toNat : Int) = (v : Int) := by simp; omega
  unfold Oper.quietAt execOp
  simp [ho, hx, hi, Instr.index, asIntOf, Sem.run_bind, run_underlying hT, hs, Oper.quietUpon]
  omega
theorem onesF8_lt (k : Nat) : onesF 8 k < 256 := by have := onesF_le 8 k; omega
theorem all_below (p : Nat → Bool) (n : Nat) (h : (List.range n).all p = true) (k : Nat) (hk : k < n) : p k = true :=
  List.all_eq_true.1 h k (List.mem_range.2 hk)
theorem tab_at (s : ByteArray) (h : (List.range 256).all (fun k => s[k]? == some (onesF 8 k).toUInt8) = true) (k : Nat) (hk : k < 256) : s[k]? = some (onesF 8 k).toUInt8 := by
  have := all_below _ 256 h k hk
  simpa using this
set_option maxRecDepth 100000 in
set_option maxHeartbeats 400000 in
theorem ones_any (n : Nat) (w : World) (h1 : n < 65536) :
    Calls Tryz.prog 88 #[.int .u16 n] w fun e w' => e = .returned (.int .i64 (ones n : Nat)) ∧ Ext w w' := by
  have e1 : (n : Int) / 256 = ((n / 256 : Nat) : Int) := rfl
  have e2 : bits BinOp.and IntKind.u16 (n : Int) 255 = ((n % 256 : Nat) : Int) := by rw [← nat_mask8 n]; exact u16_and_nat n 255 h1 (by decide)
  have E1 := Lib.hid e1; have E2 := Lib.hid e2
  have HO := Lib.hid (ones_bytes n)
  have b1 := onesF_le 8 (n / 256)
  have b2 := onesF_le 8 (n % 256)
  clear e1 e2
  go_enter Tryz.func88, Tryz.ntmps88
  go_wp2
  refine wp_region_ext (by kernel_rfl) (by kernel_rfl) ?_
  go_big_quiet_step (fail)
  go_big_quiet_step (fail)
  refine BigFrame.wpQuiet_want rfl fun K hK => ?_
  refine quiet_index_tab _ _ _ rfl Tryz.underlying9 _ .u16 (n / 256) rfl (val_int E1.out) (onesF 8 (n / 256)) (onesF8_lt _) (tab_at _ (by decide +kernel) _ (by omega)) (hK _ ?_)
  clear hK K
  simp only [Act.put, List.setIfInBounds_toArray, List.set_cons_zero, List.set_cons_succ]
  go_big_quiet_step (fail)
  go_big_quiet_step (fail)
  refine BigFrame.wpQuiet_want rfl fun K hK => ?_
  refine quiet_index_tab _ _ _ rfl Tryz.underlying9 _ .u16 (n % 256) rfl (val_int E2.out) (onesF 8 (n % 256)) (onesF8_lt _) (tab_at _ (by decide +kernel) _ (by omega)) (hK _ ?_)
  clear hK K
  simp only [Act.put, List.setIfInBounds_toArray, List.set_cons_zero, List.set_cons_succ]
  repeat (go_big_quiet_step (fail))
  refine wpQuiet_nil ?_
  rintro _ ⟨x, rfl⟩
  go_wp2
  go_ret
  refine ⟨ret_int ?_, x.ext⟩
  rw [HO.out]
  show (onesF 8 (n / 256) : Int) + (onesF 8 (n % 256) : Int) = _
  omega
theorem odd_eq (n : Nat) : (((ones n : Nat) : Int) % 2 == 1) = oddB n := by
  unfold oddB
  rw [Bool.eq_iff_iff]
  simp
  omega
set_option maxHeartbeats 400000 in
theorem odd_any (n : Nat) (w : World) (h1 : n < 65536) :
    Calls Tryz.prog 71 #[.int .u16 n] w fun e w' => e = .returned (.bool (rightB n)) ∧ Ext w w' := by
  by_cases h : n ≤ 4095
  · have h' : decide ((n : Int) ≤ 4095) = true := by simp; omega
    go_enter Tryz.func71, Tryz.ntmps71
    go_wp2_with (go_at_call 88; refine (ones_any _ _ h1).mono ?_; rintro e w1 ⟨rfl, hE⟩)
    go_ret
    exact ⟨ret_bool (by simp only [rightB, h, decide_true, Bool.true_and]; exact odd_eq n), hE⟩
  · have h' : decide ((n : Int) ≤ 4095) = false := by simp; omega
    go_enter Tryz.func71, Tryz.ntmps71
    go_wp2
    go_ret
    exact ⟨ret_bool (by simp [rightB, h]), Ext.refl w⟩
theorem data_val (n : Nat) (h1 : n < 65536) : wrap64 (bits BinOp.and IntKind.u16 (n : Int) 2047) = ((n % 2048 : Nat) : Int) := by
  have h2 := u16_and_nat n 2047 h1 (by decide)
  rw [nat_mask11 n] at h2
  show wrap64 (bits BinOp.and IntKind.u16 (n : Int) ((2047 : Nat) : Int)) = _
  rw [h2, IntWalk.wrap64_in _ (by omega)]
set_option maxHeartbeats 400000 in
theorem data_any (n : Nat) (w : World) (h1 : n < 65536) :
    Calls Tryz.prog 87 #[.int .u16 n] w fun e w' => e = .returned (.int .i64 (n % 2048 : Nat)) ∧ Ext w w' := by
  go_enter Tryz.func87, Tryz.ntmps87
  go_wp2
  go_ret
  exact ⟨ret_int (data_val n h1), Ext.refl w⟩
set_option maxHeartbeats 400000 in
theorem word_any (d : Nat) (w : World) (h1 : d < 2048) :
    Calls Tryz.prog 84 #[.int .i64 d] w fun e w' => e = .returned (.int .u16 (wordN d : Nat)) ∧ Ext w w' := by
  have hr : rightB d = oddB d := by simp [rightB]; omega
  have h2 := Lib.hid (u16_or_nat d 2048 (by omega) (by decide))
  have h3 := Lib.hid (or_2048 d h1)
  by_cases h : oddB d = true
  · have ho := odd_any d
    rw [hr, h] at ho
    have HO := Lib.hid ho
    have hw := Lib.hid (show wordN d = d by simp [wordN, h])
    clear ho hr h
    go_enter Tryz.func84, Tryz.ntmps84
    go_wp2_with (go_at_call 71; refine (HO.out _ (by omega)).mono ?_; rintro e w1 ⟨rfl, hE⟩)
    go_ret
    exact ⟨by rw [hw.out]; rfl, hE⟩
  · have ho := odd_any d
    have h' : oddB d = false := by simpa using h
    rw [hr, h'] at ho
    have HO := Lib.hid ho
    have hw := Lib.hid (show wordN d = d + 2048 by simp [wordN, h'])
    clear ho hr h h'
    go_enter Tryz.func84, Tryz.ntmps84
    go_wp2_with (go_at_call 71; refine (HO.out _ (by omega)).mono ?_; rintro e w1 ⟨rfl, hE⟩)
    go_ret
    refine ⟨ret_int ?_, hE⟩
    rw [hw.out, ← h3.out]
    exact h2.out
set_option maxHeartbeats 400000 in
theorem oddx_any (n : Nat) (w : World) (h1 : n < 65536) :
    Calls Tryz.prog 96 #[.int .u16 n] w fun e w' => e = .returned (.bool (rightB n)) ∧ Ext w w' := by
  go_enter Tryz.func96, Tryz.ntmps96
  go_wp2_with (go_at_call 71; refine (odd_any _ _ h1).mono ?_; rintro e w1 ⟨rfl, hE⟩)
  go_ret
  exact ⟨rfl, hE⟩
/-- A frame lies at offset o of block b. -/
def FAt (w : World) (b o : Nat) (f : List Nat) : Prop := ∀ k, k < 64 → w.cell? ⟨b, o + k, none⟩ = some (.int .u16 (wd f k : Nat))
theorem FAt.ext {w w' : World} {b o : Nat} {f : List Nat} (h : FAt w b o f) (hE : Ext w w') : FAt w' b o f := fun k hk => hE.cell (h k hk)
set_option maxHeartbeats 400000 in
theorem wide_any (b o : Nat) (f : List Nat) (w : World) (hF : FAt w b o f) :
    Calls Tryz.prog 67 #[.pointer (some ⟨b, o, none⟩)] w fun e w' => e = .returned (.bool (wideB f)) ∧ Ext w w' := by
  go_enter Tryz.func67, Tryz.ntmps67
  go_wp2
  go_loop [4] (fun i => ∃ k : Nat, k ≤ 64 ∧ i = .int .i64 k ∧ wideTo f k = false) (fun i => 64 - (intOf i).toNat)
  case atStart => exact ⟨0, by omega, rfl, rfl⟩
  case round =>
    obtain ⟨k, hk, rfl, hw⟩ := hrel
    have HW := Lib.hid hw
    clear hw
    by_cases hlt : k < 64
    · have hc := hF k hlt
      by_cases hx : 4095 < wd f k
      · have hx' : (4095 : Int) < (wd f k : Nat) := by omega
        go_wp2
        go_ret
        exact ⟨ret_bool ((wideTo_iff f 64).2 ⟨k, hlt, hx⟩).symm, Ext.refl w⟩
      · have hx' : ¬ (4095 : Int) < (wd f k : Nat) := by omega
        go_wp2
        go_round
        case rel => exact ⟨k + 1, by omega, by go_num, by simp [wideTo, HW.out]; omega⟩
        case measure => simp [intOf]; omega
    · obtain rfl : k = 64 := by omega
      go_wp2
      go_ret
      exact ⟨ret_bool HW.out.symm, Ext.refl w⟩
/-- The cells of a frame in every world behind. -/
theorem FAt.all {w : World} {b o : Nat} {f : List Nat} (h : FAt w b o f) (k : Nat) (hk : k < 64) : ∀ x : ExtW w, x.val.cell? ⟨b, o + k, none⟩ = some (.int .u16 (wd f k : Nat)) := fun x => x.ext.cell (h k hk)
theorem num_val (a b : Nat) (ha : a < 2048) (hb : b < 2048) : bits BinOp.or IntKind.i64 (a : Int) ((b : Int) * 2048) = ((a + b * 2048 : Nat) : Int) := by
  have h := i64_or_nat a (b * 2048) (by omega) (by omega)
  rw [Nat.or_comm, nat_join 11 (b * 2048) a (by omega) (by omega)] at h
  rw [show ((b : Int) * 2048) = ((b * 2048 : Nat) : Int) from by omega, h]
  omega
set_option maxHeartbeats 400000 in
theorem numberOf_any (b o : Nat) (f : List Nat) (w : World) (hf : FrameOk f) (hF : FAt w b o f) :
    Calls Tryz.prog 72 #[.pointer (some ⟨b, o, none⟩)] w fun e w' => e = .returned (.int .i64 (numN f : Nat)) ∧ Ext w w' := by
  have c1 := hF.all 1 (by omega)
  have c2 := hF.all 2 (by omega)
  have b1 := hf.2 1
  have b2 := hf.2 2
  go_enter Tryz.func72, Tryz.ntmps72
  go_wp2
  refine wp_region_ext (by kernel_rfl) (by kernel_rfl) ?_
  repeat (go_big_quiet_step ((go_at_call 87; refine calls_ext (data_any _ _ (by assumption)))))
  refine wpQuiet_nil ?_
  rintro _ ⟨x, rfl⟩
  go_wp2
  go_ret
  exact ⟨ret_int (num_val (wd f 1 % 2048) (wd f 2 % 2048) (by omega) (by omega)), x.ext⟩
set_option maxHeartbeats 400000 in
theorem sumOf_any (b o : Nat) (f : List Nat) (w : World) (hf : FrameOk f) (hF : FAt w b o f) :
    Calls Tryz.prog 85 #[.pointer (some ⟨b, o, none⟩)] w fun e w' => e = .returned (.int .i64 (sumN f : Nat)) ∧ Ext w w' := by
  go_enter Tryz.func85, Tryz.ntmps85
  go_wp2
  go_loopw [3, 5] (fun s i wr => ∃ k : Nat, k ≤ 60 ∧ i = .int .i64 k ∧ s = .int .i64 (sumTo f k : Nat) ∧ Ext w wr) (fun _ i _ => 60 - (intOf i).toNat)
  case atStart => exact ⟨0, by omega, rfl, rfl, Ext.refl w⟩
  case round =>
    obtain ⟨k, hk, rfl, rfl, hE⟩ := hrel
    by_cases hlt : k < 60
    · have hc := hE.cell (hF (k + 1) (by omega))
      have hb := hf.2 (k + 1)
      have hs := sumTo_lt f k
      have hx := Lib.hid (i64_xor_nat (sumTo f k) (wd f (k + 1) % 2048) (by omega) (by omega))
      go_wp2_with (go_at_call 87; refine (data_any _ _ hb).mono ?_; rintro e w1 ⟨rfl, hE1⟩)
      go_roundw
      case rel => exact ⟨k + 1, by omega, by go_num, val_int hx.out, hE.trans hE1⟩
      case measure => simp [intOf]; omega
    · obtain rfl : k = 60 := by omega
      go_wp2
      go_ret
      exact ⟨rfl, hE⟩
theorem top_bit (n : Nat) (hn : n < 4194304) : (bits BinOp.and IntKind.i64 (n : Int) 2097152 != 0) = (n / 2097152 % 2 == 1) := by
  have h : bits BinOp.and IntKind.i64 (n : Int) ((2097152 : Nat) : Int) = ((n &&& 2097152 : Nat) : Int) := i64_and_nat n 2097152 (by omega) (by decide)
  have h2 : n &&& 2097152 = n / 2097152 % 2 * 2097152 := nat_bit 21 n
  rw [h2] at h
  rw [Bool.eq_iff_iff]
  show (bits BinOp.and IntKind.i64 (n : Int) ((2097152 : Nat) : Int) != 0) = true ↔ _
  rw [h]
  simp
  omega
theorem low_bit (w j : Nat) (hw : w < 65536) : (bits BinOp.and IntKind.u16 ((w : Int) / 2 ^ j) 1 == 1) = (w / 2 ^ j % 2 == 1) := by
  have e : ((w : Int) / 2 ^ j) = ((w / 2 ^ j : Nat) : Int) := by simp
  have hle : w / 2 ^ j ≤ w := Nat.div_le_self _ _
  have h := u16_and_nat (w / 2 ^ j) 1 (by omega) (by decide)
  rw [nat_mask1] at h
  rw [e, Bool.eq_iff_iff]
  show (bits BinOp.and IntKind.u16 ((w / 2 ^ j : Nat) : Int) ((1 : Nat) : Int) == 1) = true ↔ _
  rw [h]
  simp
  omega
theorem shl_mask (n : Nat) (hn : n < 4194304) : bits BinOp.and IntKind.i64 ((n : Int) * 2) 4194303 = ((n * 2 % 4194304 : Nat) : Int) := by
  have h := i64_and_nat (n * 2) 4194303 (by omega) (by decide)
  rw [nat_mask22] at h
  rw [← h]
  congr 1
theorem crc_yes (n w j : Nat) (hn : n < 4194304) (hw : w < 65536)
    (h : (!(bits BinOp.and IntKind.i64 (n : Int) 2097152 != 0) == (bits BinOp.and IntKind.u16 ((w : Int) / 2 ^ j) 1 == 1)) = true) :
    bits BinOp.xor IntKind.i64 (bits BinOp.and IntKind.i64 ((n : Int) * 2) 4194303) 2097167 = (crcB n (w / 2 ^ j % 2) : Nat) := by
  rw [top_bit n hn, low_bit w j hw] at h
  rw [shl_mask n hn]
  have hx := i64_xor_nat (n * 2 % 4194304) 2097167 (by omega) (by decide)
  refine Eq.trans hx ?_
  unfold crcB
  rw [if_pos]
  revert h
  cases (n / 2097152 % 2 == 1) <;> cases (w / 2 ^ j % 2 == 1) <;> simp
theorem crc_no (n w j : Nat) (hn : n < 4194304) (hw : w < 65536)
    (h : (!(bits BinOp.and IntKind.i64 (n : Int) 2097152 != 0) == (bits BinOp.and IntKind.u16 ((w : Int) / 2 ^ j) 1 == 1)) = false) :
    bits BinOp.and IntKind.i64 ((n : Int) * 2) 4194303 = (crcB n (w / 2 ^ j % 2) : Nat) := by
  rw [top_bit n hn, low_bit w j hw] at h
  rw [shl_mask n hn]
  unfold crcB
  rw [if_neg]
  revert h
  cases (n / 2097152 % 2 == 1) <;> cases (w / 2 ^ j % 2 == 1) <;> simp
set_option maxHeartbeats 1000000 in
theorem checkOf_any (b o : Nat) (f : List Nat) (w : World) (hf : FrameOk f) (hF : FAt w b o f) :
    Calls Tryz.prog 86 #[.pointer (some ⟨b, o, none⟩)] w fun e w' => e = .returned (.int .i64 (crcN f : Nat)) ∧ Ext w w' := by
  go_enter Tryz.func86, Tryz.ntmps86
  go_wp2
  go_loop [3, 7] (fun n i => ∃ k : Nat, k ≤ 62 ∧ i = .int .i64 k ∧ n = .int .i64 (crcTo f k : Nat)) (fun _ i => 62 - (intOf i).toNat)
  case atStart => exact ⟨0, by omega, rfl, rfl⟩
  case round =>
    obtain ⟨k, hk, rfl, rfl⟩ := hrel
    by_cases hlt : k < 62
    · have hc := hF k (by omega)
      have hb := hf.2 k
      go_wp2
      go_loop [3, 5] (fun n j => ∃ m : Nat, m ≤ 12 ∧ j = .int .i64 (11 - m) ∧ n = .int .i64 (crcW (crcTo f k) (wd f k) m : Nat)) (fun _ j => (intOf j + 1).toNat)
      case atStart => exact ⟨0, by omega, rfl, rfl⟩
      case round =>
        obtain ⟨m, hm, rfl, rfl⟩ := hrel
        by_cases hlm : m < 12
        · have hn := crcW_lt (crcTo f k) (wd f k) (crcTo_lt f k) m
          go_wp2
          · rename_i hyes
            refine ⟨⟨m + 1, by omega, val_int (by omega), val_int (crc_yes _ _ _ hn hb hyes)⟩, by simp [intOf]; omega⟩
          · rename_i hno
            refine ⟨⟨m + 1, by omega, val_int (by omega), val_int (crc_no _ _ _ hn hb hno)⟩, by simp [intOf]; omega⟩
        · obtain rfl : m = 12 := by omega
          go_wp2
          go_round
          case rel => exact ⟨k + 1, by omega, by go_num, rfl⟩
          case measure => simp [intOf]; omega
    · obtain rfl : k = 62 := by omega
      go_wp2
      go_ret
      exact ⟨rfl, Ext.refl w⟩
end Go.Proofs.YtplddeboinhkbaaGreatDoorRR

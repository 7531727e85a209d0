/- The functions of the reference of chapter 1 that look at whole frames: the check, Wide, Number, Flaws, Sound: what they return. -/

import Derived.Test.YtplddeboinhkbaaGreatDoorRRProg
import Derived.Test.YtplddeboinhkbaaGreatDoorRRRefA
import Derived.Test.YtplddeboinhkbaaGreatDoorRRCrc
namespace Go.Proofs.YtplddeboinhkbaaGreatDoorRR
open Go.RowKit
theorem divBit_lt (f : List Nat) (i : Nat) : divBit f i < 2 := by unfold divBit; split <;> omega
theorem chk_bit (x j : Nat) (hx : x < 65536) : bits BinOp.and IntKind.i64 (wrap64 ((x : Nat) : Int) / 2 ^ j) 1 = ((x / 2 ^ j % 2 : Nat) : Int) := by
  rw [IntWalk.wrap64_in _ (by omega)]
  have e : ((x : Int) / 2 ^ j) = ((x / 2 ^ j : Nat) : Int) := by simp
  have hle : x / 2 ^ j ≤ x := Nat.div_le_self _ _
  have h := i64_and_nat (x / 2 ^ j) 1 (by omega) (by decide)
  rw [nat_mask1] at h
  rw [e]
  exact h
theorem chk_sum (d x j : Nat) (hd : d < 4194304) (hx : x < 65536) : wrap64 ((d : Int) * 2 + bits BinOp.and IntKind.i64 (wrap64 ((x : Nat) : Int) / 2 ^ j) 1) = ((d * 2 + x / 2 ^ j % 2 : Nat) : Int) := by
  rw [chk_bit x j hx, IntWalk.wrap64_in _ (by omega)]
  omega
theorem div_yes (d b : Nat) (hd : d < 4194304) (hb : b < 2) (h : 4194304 ≤ d * 2 + b) : bits BinOp.xor IntKind.i64 ((d * 2 + b : Nat) : Int) 6291471 = (divB d b : Nat) := by
  have hx := i64_xor_nat (d * 2 + b) 6291471 (by omega) (by decide)
  unfold divB
  rw [if_pos h]
  exact hx
theorem div_no (d b : Nat) (h : d * 2 + b < 4194304) : d * 2 + b = divB d b := by
  unfold divB
  rw [if_neg (by omega)]
set_option maxRecDepth 100000 in
set_option maxHeartbeats 1000000 in
theorem rcheck_any (f : List Nat) (w : World) (hf : FrameOk f) :
    Calls Tryz.prog 70 #[.agg (encF f)] w fun e w' => e = .returned (.int .i64 (crcN f : Nat)) ∧ Ext w w' := by
  go_enter Tryz.func70, Tryz.ntmps70
  go_wp2
  go_loop [3, 4] (fun r i => ∃ k : Nat, k ≤ 766 ∧ i = .int .i64 k ∧ r = .int .i64 (divSt f k : Nat)) (fun _ i => 766 - (intOf i).toNat)
  case atStart => exact ⟨0, by omega, rfl, rfl⟩
  case round =>
    obtain ⟨k, hk, rfl, rfl⟩ := hrel
    have hd := divSt_lt f k
    have hb := divBit_lt f k
    have HS := Lib.hid (divSt_succ f k)
    by_cases hlt : k < 744
    · have hc := encF_at hf (k / 12) (by omega)
      have HB := Lib.hid (show divBit f k = wd f (k / 12) / 2 ^ (11 - k % 12) % 2 by unfold divBit; rw [if_pos hlt])
      have HC := Lib.hid (chk_sum (divSt f k) (wd f (k / 12)) (11 - k % 12) hd (hf.2 _))
      go_wp2
      · rename_i hge
        rw [HC.out, ← HB.out] at hge
        rw [HC.out, ← HB.out]
        refine ⟨⟨k + 1, by omega, val_int (by omega), ?_⟩, by simp [intOf]; omega⟩
        rw [HS.out]
        exact val_int (div_yes _ _ hd hb (by omega))
      · rename_i hge
        rw [HC.out, ← HB.out] at hge
        rw [HC.out, ← HB.out]
        refine ⟨⟨k + 1, by omega, val_int (by omega), ?_⟩, by simp [intOf]; omega⟩
        rw [HS.out]
        exact val_int (by rw [div_no _ _ (by omega)])
    · have HB := Lib.hid (show divBit f k = 0 by unfold divBit; rw [if_neg hlt])
      by_cases h766 : k < 766
      · have hlt2 : ¬ (k : Int) < 744 := by omega
        have hlt3 : (k : Int) < 766 := by omega
        by_cases hge : 4194304 ≤ divSt f k * 2
        · have hq : decide ((4194304 : Int) ≤ ((divSt f k : Nat) : Int) * 2) = true := by simp; omega
          go_wp2
          refine ⟨⟨k + 1, by omega, val_int (by omega), ?_⟩, by simp [intOf]; omega⟩
          rw [HS.out, HB.out]
          have := div_yes (divSt f k) 0 hd (by decide) (by omega)
          exact val_int (by rw [← this]; simp)
        · have hq : decide ((4194304 : Int) ≤ ((divSt f k : Nat) : Int) * 2) = false := by simp; omega
          go_wp2
          refine ⟨⟨k + 1, by omega, val_int (by omega), ?_⟩, by simp [intOf]; omega⟩
          rw [HS.out, HB.out]
          exact val_int (by rw [← div_no _ _ (by omega)]; omega)
      · obtain rfl : k = 766 := by omega
        have HE := Lib.hid (divSt_end f)
        go_wp2
        go_ret
        exact ⟨by rw [HE.out]; rfl, (Ext.refl w).alloc _⟩
theorem index_frame {f : List Nat} (hf : FrameOk f) (k : Nat) (hk : k < 64) (w : World) : (Instr.index 27 (.agg (encF f)) (.int .i64 (k : Int))).run Tryz.prog w = .ok (.int .u16 (wd f k : Nat)) w :=
  run_index_agg w 27 25 64 _ Tryz.underlying27 Tryz.underlying25 rfl info_u16 (encF f) .i64 k hk _ (encF_at hf k hk)
set_option maxHeartbeats 400000 in
theorem rwide_any (f : List Nat) (w : World) (hf : FrameOk f) :
    Calls Tryz.prog 33 #[.agg (encF f)] w fun e w' => e = .returned (.bool (wideB f)) ∧ Ext w w' := by
  go_enter Tryz.func33, Tryz.ntmps33
  go_wp2_with ((with_reducible refine stop_load 27 rfl ?_))
  apply Stop.go
  refine wpList_world fun w1 e1 => ?_
  have hE1 := Ext.of_eq e1
  clear e1
  have hB0 : w1.heap[w.heap.size]? = some (.cells (encF f) 27 (0, 0)) := hE1.heap (block_new w _)
  have hE : Ext w w1 := ext_of_alloc _ hE1
  refine wpList_load_blk rfl _ _ rfl w.heap.size 0 rfl 64 _ _ _ _ hB0 Tryz.underlying27 rfl info_frame (by rw [encF_size hf]; omega) (encF f) (by rw [Nat.zero_add, ← encF_size hf, Array.extract_size]) ?_
  simp only [Act.put, List.setIfInBounds_toArray, List.set_cons_zero, List.set_cons_succ]
  go_wp2
  go_loop [6] (fun i => ∃ k : Nat, k ≤ 64 ∧ i = .int .i64 k ∧ wideTo f k = false) (fun i => 64 - (intOf i).toNat)
  case atStart => exact ⟨0, by omega, rfl, rfl⟩
  case round =>
    obtain ⟨k, hk, rfl, hw⟩ := hrel
    have HW := Lib.hid hw
    clear hw
    by_cases hlt : k < 64
    · have hc := index_frame hf k hlt
      by_cases hx : 4095 < wd f k
      · have hx' : (4095 : Int) < (wd f k : Nat) := by omega
        go_wp2
        go_ret
        exact ⟨ret_bool ((wideTo_iff f 64).2 ⟨k, hlt, hx⟩).symm, hE⟩
      · have hx' : ¬ (4095 : Int) < (wd f k : Nat) := by omega
        go_wp2
        go_round
        case rel => exact ⟨k + 1, by omega, by go_num, by simp [wideTo, HW.out]; omega⟩
        case measure => simp [intOf]; omega
    · obtain rfl : k = 64 := by omega
      go_wp2
      go_ret
      exact ⟨ret_bool HW.out.symm, hE⟩
set_option maxHeartbeats 400000 in
theorem rnumber_any (f : List Nat) (w : World) (hf : FrameOk f) :
    Calls Tryz.prog 53 #[.agg (encF f)] w fun e w' => e = .returned (.tuple #[.int .i64 (numV f : Nat), .bool (numOk f)]) ∧ Ext w w' := by
  have hF := fun (w : World) => FAt.of_alloc (w := w) (t := 27) hf
  have c1 := encF_at hf 1 (by omega)
  have c2 := encF_at hf 2 (by omega)
  have b1 := hf.2 1
  have b2 := hf.2 2
  have o1 := rright_any (wd f 1)
  have o2 := rright_any (wd f 2)
  by_cases h1 : rightB (wd f 1) = true
  · by_cases h2 : rightB (wd f 2) = true
    · rw [h1] at o1
      rw [h2] at o2
      have O1 := Lib.hid o1
      have O2 := Lib.hid o2
      have HN := Lib.hid (show numOk f = true by simp [numOk, h1, h2])
      have HV := Lib.hid (show numV f = numN f by simp [numV, HN.out])
      clear o1 o2 h1 h2
      go_enter Tryz.func53, Tryz.ntmps53
      go_wp2_with fail
      refine (O1.out _ b1).mono ?_
      rintro e w1 ⟨rfl, hE1⟩
      have k2 : w1.cell? ⟨w.heap.size, 2, none⟩ = some (.int .u16 (wd f 2 : Nat)) := hE1.cell (hF w 2 (by omega))
      go_wp2_with fail
      refine (O2.out _ b2).mono ?_
      rintro e w2 ⟨rfl, hE2⟩
      go_wp2_with ((with_reducible refine stop_load 27 rfl ?_))
      apply Stop.go
      refine wpList_load_blk rfl _ _ rfl w.heap.size 0 rfl 64 _ _ _ _ ((hE1.trans hE2).heap (block_new w _)) Tryz.underlying27 rfl info_frame (by rw [encF_size hf]; omega) (encF f) (by rw [Nat.zero_add, ← encF_size hf, Array.extract_size]) ?_
      simp only [Act.put, List.setIfInBounds_toArray, List.set_cons_zero, List.set_cons_succ]
      go_wp2_with fail
      refine (rnumberOf_any f _ hf).mono ?_
      rintro e w3 ⟨rfl, hE3⟩
      go_wp2
      go_ret2
      exact ⟨by rw [HV.out, HN.out]; rfl, ext_of_alloc _ ((hE1.trans hE2).trans hE3)⟩
    · have h2' : rightB (wd f 2) = false := by simpa using h2
      rw [h1] at o1
      rw [h2'] at o2
      have O1 := Lib.hid o1
      have O2 := Lib.hid o2
      have HN := Lib.hid (show numOk f = false by simp [numOk, h2'])
      have HV := Lib.hid (show numV f = 0 by simp [numV, HN.out])
      clear o1 o2 h1 h2 h2'
      go_enter Tryz.func53, Tryz.ntmps53
      go_wp2_with fail
      refine (O1.out _ b1).mono ?_
      rintro e w1 ⟨rfl, hE1⟩
      have k2 : w1.cell? ⟨w.heap.size, 2, none⟩ = some (.int .u16 (wd f 2 : Nat)) := hE1.cell (hF w 2 (by omega))
      go_wp2_with fail
      refine (O2.out _ b2).mono ?_
      rintro e w2 ⟨rfl, hE2⟩
      go_wp2
      go_ret2
      exact ⟨by rw [HV.out, HN.out]; rfl, ext_of_alloc _ (hE1.trans hE2)⟩
  · have h1' : rightB (wd f 1) = false := by simpa using h1
    rw [h1'] at o1
    have O1 := Lib.hid o1
    have HN := Lib.hid (show numOk f = false by simp [numOk, h1'])
    have HV := Lib.hid (show numV f = 0 by simp [numV, HN.out])
    clear o1 o2 h1 h1'
    go_enter Tryz.func53, Tryz.ntmps53
    go_wp2_with fail
    refine (O1.out _ b1).mono ?_
    rintro e w1 ⟨rfl, hE1⟩
    go_wp2
    go_ret2
    exact ⟨by rw [HV.out, HN.out]; rfl, ext_of_alloc _ hE1⟩
set_option maxHeartbeats 400000 in
theorem r4number_any (f : List Nat) (w : World) (hf : FrameOk f) :
    Calls Tryz.prog 30 #[.agg (encF f)] w fun e w' => e = .returned (.int .i64 (numV f : Nat)) ∧ Ext w w' := by
  go_enter Tryz.func30, Tryz.ntmps30
  go_wp2_with ((with_reducible refine stop_load 27 rfl ?_))
  apply Stop.go
  refine wpList_world fun w1 e1 => ?_
  have hE1 := Ext.of_eq e1
  clear e1
  have hB0 : w1.heap[w.heap.size]? = some (.cells (encF f) 27 (0, 0)) := hE1.heap (block_new w _)
  have hE : Ext w w1 := ext_of_alloc _ hE1
  refine wpList_load_blk rfl _ _ rfl w.heap.size 0 rfl 64 _ _ _ _ hB0 Tryz.underlying27 rfl info_frame (by rw [encF_size hf]; omega) (encF f) (by rw [Nat.zero_add, ← encF_size hf, Array.extract_size]) ?_
  simp only [Act.put, List.setIfInBounds_toArray, List.set_cons_zero, List.set_cons_succ]
  go_wp2_with fail
  refine (rnumber_any f _ hf).mono ?_
  rintro e w2 ⟨rfl, hE2⟩
  go_wp2
  go_ret
  exact ⟨rfl, hE.trans hE2⟩
end Go.Proofs.YtplddeboinhkbaaGreatDoorRR

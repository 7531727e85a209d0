/- Flaws and Sound of the reference of chapter 1: what they return. -/

import Derived.Test.YtplddeboinhkbaaGreatDoorRRProg
import Derived.Test.YtplddeboinhkbaaGreatDoorRRRefB
namespace Go.Proofs.YtplddeboinhkbaaGreatDoorRR
open Go.RowKit
theorem info_flaw : (Tryz.prog.info? 104).map (fun i => (i.zero, i.size, i.bytes)) = some (some (.agg #[.int .i64 0, .int .i64 0]), 2, 16) := by kernel_rfl
def FlawsPost (f : List Nat) (w : World) (e : Ending) (w' : World) : Prop := ∃ a n c, e = .returned (.slice a n c) ∧ (n = 0 ↔ soundB f = true) ∧ Ext w w'
/-- A slice of flaws of the call's own. -/
def FlawRow (w : World) (base : Nat) (v : Value) (n : Nat) : Prop := ∃ xs, w.ownsRow base 104 2 v n xs
theorem FlawRow.ext {w w' : World} {base : Nat} {v : Value} {n : Nat} (h : FlawRow w base v n) (hE : Ext w w') : FlawRow w' base v n := let ⟨xs, hx⟩ := h; ⟨xs, ownsRow_ext hx hE⟩
theorem FlawRow.shape {w : World} {base : Nat} {v : Value} {n : Nat} (h : FlawRow w base v n) : ∃ a c, v = .slice a n c := let ⟨_, hx⟩ := h; ownsRow_shape hx
theorem right_odd {f : List Nat} (h : wideB f = false) (k : Nat) (hk : k < 64) : rightB (wd f k) = oddB (wd f k) := by
  have h2 : ¬ 4095 < wd f k := fun hx => by
    have := (wideTo_iff f 64).2 ⟨k, hk, hx⟩
    unfold wideB at h
    rw [h] at this
    cases this
  simp [rightB]
  omega
set_option maxRecDepth 100000 in
set_option maxHeartbeats 4000000 in
theorem rflaws_any (f : List Nat) (w : World) (hf : FrameOk f) :
    Calls Tryz.prog 52 #[.agg (encF f)] w (FlawsPost f w) := by
  obtain ⟨i0, hi, hz0, hz1, hz2⟩ := info_parts info_flaw
  go_enter Tryz.func52, Tryz.ntmps52
  go_wp2_with ((with_reducible refine stop_load 27 rfl ?_))
  apply Stop.go
  refine wpList_world fun w1 e1 => ?_
  have hE1 := Ext.of_eq e1
  clear e1
  have hB0 : w1.heap[w.heap.size]? = some (.cells (encF f) 27 (0, 0)) := hE1.heap (block_new w _)
  have hE : Ext w w1 := ext_of_alloc _ hE1
  refine wpList_load_blk rfl _ _ rfl w.heap.size 0 rfl 64 _ _ _ _ hB0 Tryz.underlying27 rfl info_frame (by rw [encF_size hf]; omega) (encF f) (by rw [Nat.zero_add, ← encF_size hf, Array.extract_size]) ?_
  simp only [Act.put, List.setIfInBounds_toArray, List.set_cons_zero, List.set_cons_succ]
  have hE1' := hE
  go_wp2
  go_loopw [3, 8] (fun v i wr => ∃ k n : Nat, k ≤ 64 ∧ i = .int .i64 k ∧ n ≤ k ∧ FlawRow wr w1.heap.size v n ∧ (n = 0 ↔ wideTo f k = false) ∧ Ext w1 wr) (fun _ i _ => 64 - (intOf i).toNat)
  case atStart => exact ⟨0, 0, by omega, rfl, by omega, ⟨[], World.ownsRow_nil _ _ _ _⟩, by simp [wideTo], Ext.refl _⟩
  case round =>
    obtain ⟨k, n, hk, rfl, hnk, hrow, hw, hEr⟩ := hrel
    have HW := Lib.hid hw
    clear hw
    by_cases hlt : k < 64
    · have hc := index_frame hf k hlt
      by_cases hx : 4095 < wd f k
      · have hx' : (4095 : Int) < (wd f k : Nat) := by omega
        obtain ⟨xs, hown⟩ := hrow
        go_wp2_with ((with_reducible refine stop_dst 18 rfl ?_))
        apply Stop.go
        refine wpList_append_ext (hEr.alloc _) rfl _ _ 78 rfl 104 i0 _ 2 16 Tryz.underlying78 hi hz0 hz1 hz2 rfl (by decide) _ _ _ rfl (hown.alloc _) ⟨wr.heap.size, 0, none⟩ 1 1 [.int .i64 k, .int .i64 5] rfl rfl (cells_new wr _ _) (by simp [Value.oneCell']) (by unfold maxLen; omega) (by omega) fun v9 w9 hown9 hE9 => ?_
        simp only [Act.put, List.setIfInBounds_toArray, List.set_cons_zero, List.set_cons_succ]
        go_wp2
        exact ⟨⟨k + 1, n + 1, by omega, by go_num, by omega, ⟨_, hown9⟩, by simp [wideTo, hx], hE9⟩, by simp [intOf]; omega⟩
      · have hx' : ¬ (4095 : Int) < (wd f k : Nat) := by omega
        go_wp2
        go_roundw
        case rel => first | exact ⟨k + 1, n, by omega, by go_num, by omega, hrow, by rw [HW.out]; simp [wideTo]; omega, hEr⟩ | ((repeat apply Exists.intro); exact ⟨⟨k + 1, n, by omega, by go_num, by omega, hrow, by rw [HW.out]; simp [wideTo]; omega, hEr⟩, rfl⟩)
        case measure => simp [intOf]; omega
    · obtain rfl : k = 64 := by omega
      obtain ⟨ra, rc, rfl⟩ := hrow.shape
      by_cases hn : 0 < n
      · have hn' : (0 : Int) < (n : Nat) := by omega
        go_wp2
        go_ret
        refine ⟨ra, n, rc, rfl, ?_, hE.trans hEr⟩
        have hwide : wideB f = true := by
          cases h : wideB f with
          | true => rfl
          | false => have := HW.out.2 h; omega
        simp [soundB_eq, hwide]
        omega
      · obtain rfl : n = 0 := by omega
        have hwide := HW.out.1 rfl
        have HWide := Lib.hid (show wideB f = false from hwide)
        clear HW hn hwide
        have hB := hEr.heap hB0
        have hE := hE.trans hEr
        have cF := FAt.of_block hf hB
        have c0 : ∀ x : ExtW wr, x.val.cell? ⟨w.heap.size, 0, none⟩ = some (.int .u16 (wd f 0 : Nat)) := cF.all 0 (by omega)
        have b0 := hf.2 0
        have hnum := numN_lt f
        go_upto_region 10 with fail
        refine wp_region_ext (by kernel_rfl) (by kernel_rfl) ?_
        go_big_quiet_step (fail)
        go_big_quiet_step (fail)
        go_big_quiet_step (fail)
        refine BigFrame.wpQuiet_want rfl fun K hK => ?_
        refine quiet_load_blk _ _ rfl w.heap.size 0 rfl 64 _ _ _ _ (by rintro _ ⟨x, rfl⟩; exact x.ext.heap hB) Tryz.underlying27 rfl info_frame (by rw [encF_size hf]; omega) (encF f) (by rw [Nat.zero_add, ← encF_size hf, Array.extract_size]) (hK _ ?_)
        clear hK K
        simp only [Act.put, List.setIfInBounds_toArray, List.set_cons_zero, List.set_cons_succ]
        repeat (go_big_quiet_step ((first | (go_at_call 56; refine calls_ext (rnumberOf_any f _ hf)) | (go_at_call 55; refine calls_ext (syncOf_any _ _ hnum)))))
        refine wpQuiet_nil ?_
        rintro _ ⟨x, rfl⟩
        have hrow := hrow.ext x.ext
        have hB := x.ext.heap hB
        have hEr := hEr.trans x.ext
        have hE := hE.trans x.ext
        clear cF c0 b0 hnum
        go_upto_if 30 with fail
        go_cut [3] (fun v wx => ∃ n, n ≤ 1 ∧ FlawRow wx w1.heap.size v n ∧ (n = 0 ↔ synced f = true) ∧ Ext w1 wx)
        case first =>
          by_cases h2 : synced f = true
          · have h2' := nne_int (show (wd f 0 == syncN (numN f)) = true from h2)
            go_wp2_with fail
            go_meet
            exact ⟨0, by omega, hrow, by simp [h2], hEr⟩
          · have h2' := ne_int (show (wd f 0 == syncN (numN f)) = false by simpa [synced] using h2)
            obtain ⟨xs, hown⟩ := hrow
            generalize x.val = wr at *
            go_wp2_with ((with_reducible refine stop_dst 34 rfl ?_))
            apply Stop.go
            refine wpList_append_ext (hEr.alloc _) rfl _ _ 78 rfl 104 i0 _ 2 16 Tryz.underlying78 hi hz0 hz1 hz2 rfl (by decide) _ _ _ rfl (hown.alloc _) ⟨wr.heap.size, 0, none⟩ 1 1 [.int .i64 0, .int .i64 1] rfl rfl (cells_new wr _ _) (by simp [Value.oneCell']) (by unfold maxLen; omega) (by omega) fun v9 w9 hown9 hE9 => ?_
            simp only [Act.put, List.setIfInBounds_toArray, List.set_cons_zero, List.set_cons_succ]
            go_wp2_with fail
            go_meet
            exact ⟨1, by omega, ⟨_, hown9⟩, by simp [h2], hE9⟩
        case rest =>
          obtain ⟨n, hn1, hrow, hw2, hEr⟩ := hcut
          go_wp2
          go_loopw [3, 6] (fun v i wr => ∃ k n : Nat, k ≤ 63 ∧ i = .int .i64 (k + 1) ∧ n ≤ k + 1 ∧ FlawRow wr w1.heap.size v n ∧ (n = 0 ↔ (synced f = true ∧ oddTo f k = true)) ∧ Ext w1 wr) (fun _ i _ => 64 - (intOf i).toNat)
          case atStart => exact ⟨0, n, by omega, rfl, by omega, ‹_›, by rw [hw2]; simp [oddTo], hEr⟩
          case round =>
            obtain ⟨k, m, hk, rfl, hmk, hrow, hw, hEr⟩ := hrel
            have HW := Lib.hid hw
            have HW2 := Lib.hid hw2
            clear hw hw2
            by_cases hlt : k < 63
            · have hB := hEr.heap hB0
              have hc : wr.cell? ⟨w.heap.size, k + 1, none⟩ = some (.int .u16 (wd f (k + 1) : Nat)) := by have := FAt.of_block hf hB (k + 1) (by omega); rwa [Nat.zero_add] at this
              have hb := hf.2 (k + 1)
              have hro := Lib.hid (right_odd HWide.out (k + 1) (by omega))
              have co := rodd_any (wd f (k + 1))
              by_cases hr : oddB (wd f (k + 1)) = true
              · rw [hr] at co
                have CO := Lib.hid co
                have HR := Lib.hid hr
                clear co hr
                go_wp2_with (go_at_call 74; refine (CO.out _ hb).mono ?_; rintro e w2 ⟨rfl, hE2⟩)
                go_roundw
                case rel => first | exact ⟨k + 1, m, by omega, by go_num, by omega, hrow.ext hE2, by rw [HW.out, oddTo, hro.out, HR.out]; simp, hEr.trans hE2⟩ | ((repeat apply Exists.intro); exact ⟨⟨k + 1, m, by omega, by go_num, by omega, hrow.ext hE2, by rw [HW.out, oddTo, hro.out, HR.out]; simp, hEr.trans hE2⟩, rfl⟩)
                case measure => simp [intOf]; omega
              · have hr' : oddB (wd f (k + 1)) = false := by simpa using hr
                rw [hr'] at co
                have CO := Lib.hid co
                have HR := Lib.hid hr'
                clear co hr hr'
                go_wp2_with fail
                refine (CO.out _ hb).mono ?_
                rintro e w2 ⟨rfl, hE2⟩
                obtain ⟨xs, hown⟩ := hrow.ext hE2
                have hEr := hEr.trans hE2
                go_wp2_with ((with_reducible refine stop_dst 49 rfl ?_))
                apply Stop.go
                refine wpList_append_ext (hEr.alloc _) rfl _ _ 78 rfl 104 i0 _ 2 16 Tryz.underlying78 hi hz0 hz1 hz2 rfl (by decide) _ _ _ rfl (hown.alloc _) ⟨w2.heap.size, 0, none⟩ 1 1 [.int .i64 (((k : Nat) : Int) + 1), .int .i64 2] rfl rfl (cells_new w2 _ _) (by simp [Value.oneCell']) (by unfold maxLen; omega) (by omega) fun v9 w9 hown9 hE9 => ?_
                simp only [Act.put, List.setIfInBounds_toArray, List.set_cons_zero, List.set_cons_succ]
                go_wp2
                go_roundw
                case rel => first | exact ⟨k + 1, m + 1, by omega, by go_num, by omega, ⟨_, hown9⟩, by rw [oddTo, hro.out, HR.out]; simp, hE9⟩ | ((repeat apply Exists.intro); exact ⟨⟨k + 1, m + 1, by omega, by go_num, by omega, ⟨_, hown9⟩, by rw [oddTo, hro.out, HR.out]; simp, hE9⟩, rfl⟩)
                case measure => simp [intOf]; omega
            · obtain rfl : k = 63 := by omega
              have hB := hEr.heap hB0
              have cF := FAt.of_block hf hB
              have c61 : ∀ x : ExtW wr, x.val.cell? ⟨w.heap.size, 61, none⟩ = some (.int .u16 (wd f 61 : Nat)) := cF.all 61 (by omega)
              have b61 := hf.2 61
              go_upto_region 17 with fail
              refine wp_region_ext (by kernel_rfl) (by kernel_rfl) ?_
              go_big_quiet_step (fail)
              go_big_quiet_step (fail)
              go_big_quiet_step (fail)
              go_big_quiet_step (fail)
              refine BigFrame.wpQuiet_want rfl fun K hK => ?_
              refine quiet_load_blk _ _ rfl w.heap.size 0 rfl 64 _ _ _ _ (by rintro _ ⟨x, rfl⟩; exact x.ext.heap hB) Tryz.underlying27 rfl info_frame (by rw [encF_size hf]; omega) (encF f) (by rw [Nat.zero_add, ← encF_size hf, Array.extract_size]) (hK _ ?_)
              clear hK K
              simp only [Act.put, List.setIfInBounds_toArray, List.set_cons_zero, List.set_cons_succ]
              go_big_quiet_step ((go_at_call 57; refine calls_ext (rsum_any f _ hf)))
              go_big_quiet_step (fail)
              refine wpQuiet_nil ?_
              rintro _ ⟨y, rfl⟩
              have hrow := hrow.ext y.ext
              have hB := y.ext.heap hB
              have hEr := hEr.trans y.ext
              clear cF c61 b61
              go_upto_if 56 with fail
              go_cut [3] (fun v wx => ∃ n, n ≤ 65 ∧ FlawRow wx w1.heap.size v n ∧ (n = 0 ↔ (synced f = true ∧ oddTo f 63 = true ∧ (wd f 61 % 2048 == sumN f) = true)) ∧ Ext w1 wx)
              case first =>
                by_cases h3 : (wd f 61 % 2048 == sumN f) = true
                · have h3' : (((wd f 61 : Nat) : Int) % 2048 != ((sumN f : Nat) : Int)) = false := nne_int h3
                  go_wp2_with fail
                  go_meet
                  exact ⟨m, by omega, hrow, by rw [HW.out, h3]; simp, hEr⟩
                · have h3' : (((wd f 61 : Nat) : Int) % 2048 != ((sumN f : Nat) : Int)) = true := ne_int (show (wd f 61 % 2048 == sumN f) = false by simpa using h3)
                  obtain ⟨xs, hown⟩ := hrow
                  generalize y.val = wy at *
                  go_wp2_with ((with_reducible refine stop_dst 60 rfl ?_))
                  apply Stop.go
                  refine wpList_append_ext (hEr.alloc _) rfl _ _ 78 rfl 104 i0 _ 2 16 Tryz.underlying78 hi hz0 hz1 hz2 rfl (by decide) _ _ _ rfl (hown.alloc _) ⟨wy.heap.size, 0, none⟩ 1 1 [.int .i64 61, .int .i64 3] rfl rfl (cells_new wy _ _) (by simp [Value.oneCell']) (by unfold maxLen; omega) (by omega) fun v9 w9 hown9 hE9 => ?_
                  simp only [Act.put, List.setIfInBounds_toArray, List.set_cons_zero, List.set_cons_succ]
                  go_wp2_with fail
                  go_meet
                  exact ⟨m + 1, by omega, ⟨_, hown9⟩, by simp [h3], hE9⟩
              case rest =>
                obtain ⟨n3, hn3, hrow, hw3, hEr⟩ := hcut
                have HW3 := Lib.hid hw3
                clear hw3
                have hB := hEr.heap hB0
                have cF := FAt.of_block hf hB
                have c62 : ∀ x : ExtW wc, x.val.cell? ⟨w.heap.size, 62, none⟩ = some (.int .u16 (wd f 62 : Nat)) := cF.all 62 (by omega)
                have c63 : ∀ x : ExtW wc, x.val.cell? ⟨w.heap.size, 63, none⟩ = some (.int .u16 (wd f 63 : Nat)) := cF.all 63 (by omega)
                have b62 := hf.2 62
                have b63 := hf.2 63
                go_upto_region 19 with fail
                refine wp_region_ext (by kernel_rfl) (by kernel_rfl) ?_
                go_big_quiet_step (fail)
                go_big_quiet_step (fail)
                go_big_quiet_step (fail)
                go_big_quiet_step (fail)
                go_big_quiet_step (fail)
                go_big_quiet_step (fail)
                go_big_quiet_step (fail)
                go_big_quiet_step (fail)
                go_big_quiet_step (fail)
                go_big_quiet_step (fail)
                refine BigFrame.wpQuiet_want rfl fun K hK => ?_
                refine quiet_load_blk _ _ rfl w.heap.size 0 rfl 64 _ _ _ _ (by rintro _ ⟨x, rfl⟩; exact x.ext.heap hB) Tryz.underlying27 rfl info_frame (by rw [encF_size hf]; omega) (encF f) (by rw [Nat.zero_add, ← encF_size hf, Array.extract_size]) (hK _ ?_)
                clear hK K
                simp only [Act.put, List.setIfInBounds_toArray, List.set_cons_zero, List.set_cons_succ]
                go_big_quiet_step ((go_at_call 70; refine calls_ext (rcheck_any f _ hf)))
                go_big_quiet_step (fail)
                refine wpQuiet_nil ?_
                rintro _ ⟨z, rfl⟩
                have hrow := hrow.ext z.ext
                have hEr := hEr.trans z.ext
                clear cF c62 c63 b62 b63
                go_upto_if 73 with fail
                by_cases h4 : (wd f 62 % 2048 * 2048 + wd f 63 % 2048 == crcN f) = true
                · have h4' : (((wd f 62 : Nat) : Int) % 2048 * 2048 + ((wd f 63 : Nat) : Int) % 2048 != ((crcN f : Nat) : Int)) = false := nne_int h4
                  obtain ⟨sa, sc, rfl⟩ := hrow.shape
                  go_wp2_with fail
                  go_ret
                  refine ⟨sa, n3, sc, rfl, ?_, hE1'.trans hEr⟩
                  rw [HW3.out, soundB_eq, HWide.out]
                  simp only [checked, h4, Bool.not_false, Bool.true_and, Bool.and_true, Bool.and_eq_true]
                  constructor
                  · rintro ⟨a, b, c⟩
                    exact ⟨⟨a, c⟩, b⟩
                  · rintro ⟨⟨a, c⟩, b⟩
                    exact ⟨a, b, c⟩
                · have h4' : (((wd f 62 : Nat) : Int) % 2048 * 2048 + ((wd f 63 : Nat) : Int) % 2048 != ((crcN f : Nat) : Int)) = true := ne_int (show (wd f 62 % 2048 * 2048 + wd f 63 % 2048 == crcN f) = false by simpa using h4)
                  obtain ⟨xs, hown⟩ := hrow
                  generalize z.val = wz at *
                  go_wp2_with ((with_reducible refine stop_dst 77 rfl ?_))
                  apply Stop.go
                  refine wpList_append_ext (hEr.alloc _) rfl _ _ 78 rfl 104 i0 _ 2 16 Tryz.underlying78 hi hz0 hz1 hz2 rfl (by decide) _ _ _ rfl (hown.alloc _) ⟨wz.heap.size, 0, none⟩ 1 1 [.int .i64 62, .int .i64 4] rfl rfl (cells_new wz _ _) (by simp [Value.oneCell']) (by unfold maxLen; omega) (by omega) fun v9 w9 hown9 hE9 => ?_
                  simp only [Act.put, List.setIfInBounds_toArray, List.set_cons_zero, List.set_cons_succ]
                  obtain ⟨sa, sc, rfl⟩ := ownsRow_shape hown9
                  go_wp2_with fail
                  go_ret
                  refine ⟨sa, n3 + 1, sc, rfl, ?_, hE1'.trans hE9⟩
                  simp [soundB_eq, checked, h4]
set_option maxHeartbeats 400000 in
theorem rsound_any (f : List Nat) (w : World) (hf : FrameOk f) :
    Calls Tryz.prog 29 #[.agg (encF f)] w fun e w' => e = .returned (.bool (soundB f)) ∧ Ext w w' := by
  go_enter Tryz.func29, Tryz.ntmps29
  go_wp2_with ((with_reducible refine stop_load 27 rfl ?_))
  apply Stop.go
  refine wpList_world fun w1 e1 => ?_
  have hE1 := Ext.of_eq e1
  clear e1
  have hB0 : w1.heap[w.heap.size]? = some (.cells (encF f) 27 (0, 0)) := hE1.heap (block_new w _)
  have hE : Ext w w1 := ext_of_alloc _ hE1
  refine wpList_load_blk rfl _ _ rfl w.heap.size 0 rfl 64 _ _ _ _ hB0 Tryz.underlying27 rfl info_frame (by rw [encF_size hf]; omega) (encF f) (by rw [Nat.zero_add, ← encF_size hf, Array.extract_size]) ?_
  simp only [Act.put, List.setIfInBounds_toArray, List.set_cons_zero, List.set_cons_succ]
  go_wp2_with fail
  refine (rflaws_any f _ hf).mono ?_
  rintro e w2 ⟨a, n, c, rfl, hn, hE2⟩
  go_wp2
  go_ret
  refine ⟨ret_bool ?_, hE.trans hE2⟩
  rw [Bool.eq_iff_iff, ← hn]
  simp
end Go.Proofs.YtplddeboinhkbaaGreatDoorRR

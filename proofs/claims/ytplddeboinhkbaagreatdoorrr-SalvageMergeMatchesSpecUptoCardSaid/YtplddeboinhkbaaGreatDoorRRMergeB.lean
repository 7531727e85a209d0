/- The program's mended and Mended. -/

import Derived.Test.YtplddeboinhkbaaGreatDoorRRProg
import Derived.Test.YtplddeboinhkbaaGreatDoorRRMergeC
import Derived.Test.YtplddeboinhkbaaGreatDoorRRPrefix
namespace Go.Proofs.YtplddeboinhkbaaGreatDoorRR
open Go.RowKit
/-- How many words are lost, and the last of them. -/
def lostN (st : List Int) : Nat → Nat
  | 0 => 0
  | k + 1 => if sv st k = 0 then lostN st k + 1 else lostN st k
def lostAt (st : List Int) : Nat → Nat
  | 0 => 0
  | k + 1 => if sv st k = 0 then k else lostAt st k
theorem lostN_le (st : List Int) : ∀ k, lostN st k ≤ k
  | 0 => Nat.le_refl 0
  | k + 1 => by
    have := lostN_le st k
    unfold lostN
    split <;> omega
theorem lostAt_lt (st : List Int) : ∀ k, 0 < k → lostAt st k < k
  | 0, h => absurd h (Nat.lt_irrefl 0)
  | k + 1, _ => by
    unfold lostAt
    split
    · omega
    · rcases Nat.eq_zero_or_pos k with h | h
      · subst h; simp [lostAt]
      · have := lostAt_lt st k h
        omega
def mendR (r : SR) (f : List Nat) : SR := { r with f := f, st := (List.replicate 64 3).set (lostAt r.st 64) 2, sound := true, copies := 0 }
def mendedP (r : SR) : SR :=
  if r.sound || r.conf then r else if lostN r.st 64 ≠ 1 then r
  else if (replR r.f (lostAt r.st 64)).2 && soundAsB (replR r.f (lostAt r.st 64)).1 r.num then mendR r (replR r.f (lostAt r.st 64)).1 else r
theorem replR_ok {f : List Nat} (hf : FrameOk f) {i : Nat} (hi : i < 64) : FrameOk (replR f i).1 := by
  unfold replR
  split
  · exact zeroF_ok
  · split
    · exact replF_ok (hf.set i 0 hi (by omega)) hi
    · exact zeroF_ok
theorem mendR_ok {r : SR} {f : List Nat} (hf : FrameOk f) : RestOk (mendR r f) := ⟨hf, by simp [mendR]⟩
set_option maxRecDepth 100000 in
set_option maxHeartbeats 4000000 in
theorem mended_any (r : SR) (w : World) (h : RestOk r) (hS : SyncAt w) :
    Calls Tryz.prog 23 #[.agg (encR r)] w fun e w' => e = .returned (.agg (encR (mendedP r))) ∧ Ext w w' := by
  have HP := Lib.hid (show mendedP r = if r.sound || r.conf then r else if lostN r.st 64 ≠ 1 then r
    else if (replR r.f (lostAt r.st 64)).2 && soundAsB (replR r.f (lostAt r.st 64)).1 r.num then mendR r (replR r.f (lostAt r.st 64)).1 else r from rfl)
  generalize mendedP r = mp at HP ⊢
  have hcs := fun (ob : Obj) => (((RAt.new w r).ext ((Ext.refl _).alloc ob))).sound h
  have hcc := fun (ob : Obj) => (((RAt.new w r).ext ((Ext.refl _).alloc ob))).conf h
  by_cases s1 : r.sound = true
  · rw [s1] at hcs
    have HP2 := Lib.hid (show mp = r by rw [HP.out, s1]; simp)
    clear s1 HP hcc
    go_enter Tryz.func23, Tryz.ntmps23
    go_wp2_with ((with_reducible refine stop_load 30 rfl ?_))
    apply Stop.go
    refine wpList_world fun w1 e1 => ?_
    have hE1 := Ext.of_eq e1
    clear e1
    have hB : RAt w1 w.heap.size r := hE1.heap (block_old _ (block_new w _))
    have hZ := hE1.heap (heap_alloc2_new w _ _)
    have hE := ext_of_alloc _ (ext_of_alloc _ hE1)
    clear hE1
    refine wpList_load_blk rfl _ _ rfl w.heap.size 0 rfl 132 _ _ _ _ hB Tryz.underlying30 rfl info_rest (by rw [encR_size h]; omega) (encR r) (encR_whole h) ?_
    simp only [Act.put, List.setIfInBounds_toArray, List.set_cons_zero, List.set_cons_succ]
    go_wp2_with ((with_reducible refine stop_store 30 rfl ?_))
    apply Stop.go
    refine store_rest rfl _ _ rfl (w.heap.size + 1) rfl r h rfl _ hZ zero_rest fun w9 u9 => ?_
    dsimp only [Act.put]
    go_wp2
    exact bodyPost_ret (v := .agg (encR r)) (results_cell_row Tryz.results23 _ _ (w.heap.size + 1) _ _ _ _ rfl u9.here Tryz.underlying30 rfl (by rw [encR_size h]; exact info_rest)) rfl ⟨by rw [HP2.out], (hE.upd (by omega) u9)⟩
  · have s1' : r.sound = false := by simpa using s1
    rw [s1'] at hcs
    by_cases s2 : r.conf = true
    · rw [s2] at hcc
      have HP2 := Lib.hid (show mp = r by rw [HP.out, s1', s2]; simp)
      clear s1 s1' s2 HP
      go_enter Tryz.func23, Tryz.ntmps23
      go_wp2_with ((with_reducible refine stop_load 30 rfl ?_))
      apply Stop.go
      refine wpList_world fun w1 e1 => ?_
      have hE1 := Ext.of_eq e1
      clear e1
      have hB : RAt w1 w.heap.size r := hE1.heap (block_old _ (block_new w _))
      have hZ := hE1.heap (heap_alloc2_new w _ _)
      have hE := ext_of_alloc _ (ext_of_alloc _ hE1)
      clear hE1
      refine wpList_load_blk rfl _ _ rfl w.heap.size 0 rfl 132 _ _ _ _ hB Tryz.underlying30 rfl info_rest (by rw [encR_size h]; omega) (encR r) (encR_whole h) ?_
      simp only [Act.put, List.setIfInBounds_toArray, List.set_cons_zero, List.set_cons_succ]
      go_wp2_with ((with_reducible refine stop_store 30 rfl ?_))
      apply Stop.go
      refine store_rest rfl _ _ rfl (w.heap.size + 1) rfl r h rfl _ hZ zero_rest fun w9 u9 => ?_
      dsimp only [Act.put]
      go_wp2
      exact bodyPost_ret (v := .agg (encR r)) (results_cell_row Tryz.results23 _ _ (w.heap.size + 1) _ _ _ _ rfl u9.here Tryz.underlying30 rfl (by rw [encR_size h]; exact info_rest)) rfl ⟨by rw [HP2.out], (hE.upd (by omega) u9)⟩
    · have s2' : r.conf = false := by simpa using s2
      rw [s2'] at hcc
      have HP2 := Lib.hid (show mp = if lostN r.st 64 ≠ 1 then r else if (replR r.f (lostAt r.st 64)).2 && soundAsB (replR r.f (lostAt r.st 64)).1 r.num then mendR r (replR r.f (lostAt r.st 64)).1 else r by rw [HP.out, s1', s2']; simp)
      clear s1 s1' s2 HP
      go_enter Tryz.func23, Tryz.ntmps23
      go_wp2_with ((with_reducible refine stop_load 28 rfl ?_))
      apply Stop.go
      refine wpList_world fun w1 e1 => ?_
      have hE1 := Ext.of_eq e1
      clear e1
      have hB : RAt w1 w.heap.size r := hE1.heap (block_old _ (block_new w _))
      have hZ := hE1.heap (heap_alloc2_new w _ _)
      have hE := ext_of_alloc _ (ext_of_alloc _ hE1)
      clear hE1 hcs hcc
      refine wpList_load_blk rfl _ _ rfl w.heap.size 65 rfl 64 _ _ _ _ hB Tryz.underlying28 rfl info_states (by rw [encR_size h]; omega) (encS r.st) (encR_ext_st h) ?_
      simp only [Act.put, List.setIfInBounds_toArray, List.set_cons_zero, List.set_cons_succ]
      go_wp2
      go_loopw [3, 4, 18] (fun s3 s4 s18 wr => ∃ k : Nat, k ≤ 64 ∧ s3 = .int .i64 (lostN r.st k : Nat) ∧ s4 = .int .i64 (lostAt r.st k : Nat) ∧ s18 = .int .i64 k ∧ Ext w1 wr) (fun _ _ s18 _ => 64 - (intOf s18).toNat)
      case atStart => exact ⟨0, by omega, rfl, rfl, rfl, Ext.refl w1⟩
      case round =>
        obtain ⟨k, hk, rfl, rfl, rfl, hE2⟩ := hrel
        by_cases hlt : k < 64
        · have hi := fun w : World => index_states h.st k hlt w
          have hb := lostN_le r.st k
          by_cases h0 : sv r.st k = 0
          · have HA := Lib.hid (show lostN r.st (k + 1) = lostN r.st k + 1 by simp [lostN, h0])
            have HL := Lib.hid (show lostAt r.st (k + 1) = k by simp [lostAt, h0])
            rw [h0] at hi
            clear h0
            generalize lostN r.st k = a at HA hb ⊢
            generalize lostAt r.st k = q at ⊢
            go_wp2
            go_roundw
            case rel => first | exact ⟨k + 1, by omega, by rw [HA.out]; go_num, by rw [HL.out], by go_num, hE2⟩ | ((repeat apply Exists.intro); exact ⟨⟨k + 1, by omega, by rw [HA.out]; go_num, by rw [HL.out], by go_num, hE2⟩, rfl⟩)
            case measure => simp [intOf]; omega
          · have h0' : (sv r.st k == 0) = false := by simp [h0]
            have HA := Lib.hid (show lostN r.st (k + 1) = lostN r.st k by simp [lostN, h0])
            have HL := Lib.hid (show lostAt r.st (k + 1) = lostAt r.st k by simp [lostAt, h0])
            clear h0
            generalize lostN r.st k = a at HA hb ⊢
            generalize lostAt r.st k = q at HL ⊢
            go_wp2
            go_roundw
            case rel => first | exact ⟨k + 1, by omega, by rw [HA.out], by rw [HL.out], by go_num, hE2⟩ | ((repeat apply Exists.intro); exact ⟨⟨k + 1, by omega, by rw [HA.out], by rw [HL.out], by go_num, hE2⟩, rfl⟩)
            case measure => simp [intOf]; omega
        · obtain rfl : k = 64 := by omega
          have hB2 := hB.ext hE2
          have hZ2 := hE2.heap hZ
          have hE := hE.trans hE2
          have hql := lostAt_lt r.st 64 (by omega)
          have HM := Lib.hid (show mendR r = fun f => { r with f := f, st := (List.replicate 64 3).set (lostAt r.st 64) 2, sound := true, copies := 0 } from rfl)
          generalize lostAt r.st 64 = q at HP2 hql HM ⊢
          generalize lostN r.st 64 = a at HP2 ⊢
          clear hB hZ hE2
          by_cases ha : a = 1
          · subst ha
            have HP3 := Lib.hid (show mp = if (replR r.f q).2 && soundAsB (replR r.f q).1 r.num then mendR r (replR r.f q).1 else r by rw [HP2.out]; simp)
            have crp := fun (wx : World) (hx : Ext w wx) => replacedx_any r.f q wx h.f hql (hS.ext hx)
            have hfo := replR_ok h.f hql
            clear HP2
            generalize (replR r.f q).1 = f at HP3 crp hfo
            generalize (replR r.f q).2 = ok at HP3 crp
            go_wp2_with ((with_reducible refine stop_load 27 rfl ?_))
            apply Stop.go
            refine wpList_load_blk rfl _ _ rfl w.heap.size 1 rfl 64 _ _ _ _ hB2 Tryz.underlying27 rfl info_frame (by rw [encR_size h]; omega) (encF r.f) (encR_ext_f h) ?_
            simp only [Act.put, List.setIfInBounds_toArray, List.set_cons_zero, List.set_cons_succ]
            go_wp2_with fail
            refine (crp _ hE).mono ?_
            rintro e w3 ⟨rfl, hE3⟩
            have hB3 := hB2.ext hE3
            have hZ3 := hE3.heap hZ2
            have hE3 := hE.trans hE3
            clear hB2 hZ2 hE crp
            go_wp2_with ((with_reducible refine stop_store 27 rfl ?_))
            apply Stop.go
            refine wpList_world fun w4 e4 => ?_
            have hEa := Ext.of_eq e4
            clear e4
            refine wpList_store_whole rfl _ _ _ rfl w3.heap.size rfl (encF f) rfl _ _ (hEa.heap (block_new w3 _)) (by rw [encF_size hfo]; exact info_frame) (by rw [encF_size hfo]; rfl) (encF_one _) fun w5 u5 => ?_
            dsimp only [Act.put]
            have hF5 := u5.here
            have hEb := (ext_of_alloc _ hEa).upd (by simp) u5
            have hB5 := hB3.ext hEb
            have hZ5 := hEb.heap hZ3
            have hwf : w.heap.size + 1 < w3.heap.size := by
              rcases Nat.lt_or_ge (w.heap.size + 1) w3.heap.size with h' | h'
              · exact h'
              · rw [Array.getElem?_eq_none h'] at hZ3; cases hZ3
            have hE5 := hE3.trans hEb
            clear hEa hEb u5 hB3 hZ3 hE3
            generalize w3.heap.size = fb at hF5 hwf ⊢
            have hnm := hB5.num h
            cases ok with
            | false =>
              have HP4 := Lib.hid (show mp = r by rw [HP3.out]; rfl)
              clear HP3 HM
              go_wp2_with ((with_reducible refine stop_load 30 rfl ?_))
              apply Stop.go
              go_wp2_with ((with_reducible refine stop_load 30 rfl ?_))
              apply Stop.go
              refine wpList_load_blk rfl _ _ rfl w.heap.size 0 rfl 132 _ _ _ _ hB5 Tryz.underlying30 rfl info_rest (by rw [encR_size h]; omega) (encR r) (encR_whole h) ?_
              simp only [Act.put, List.setIfInBounds_toArray, List.set_cons_zero, List.set_cons_succ]
              go_wp2_with ((with_reducible refine stop_store 30 rfl ?_))
              apply Stop.go
              refine store_rest rfl _ _ rfl (w.heap.size + 1) rfl r h rfl _ hZ5 zero_rest fun w9 u9 => ?_
              dsimp only [Act.put]
              go_wp2
              exact bodyPost_ret (v := .agg (encR r)) (results_cell_row Tryz.results23 _ _ (w.heap.size + 1) _ _ _ _ rfl u9.here Tryz.underlying30 rfl (by rw [encR_size h]; exact info_rest)) rfl ⟨by rw [HP4.out], (hE5.upd (by omega) u9)⟩
            | true =>
              have ca := soundAs_any f r.num
              go_wp2_with ((with_reducible refine stop_load 27 rfl ?_))
              apply Stop.go
              refine wpList_wanted rfl fun K hK => ?_
              refine wp_load_blk _ _ rfl fb 0 rfl 64 _ _ _ _ hF5 Tryz.underlying27 rfl info_frame (by rw [encF_size hfo]; omega) (encF f) (by rw [Nat.zero_add, ← encF_size hfo, Array.extract_size]) (hK _ _ ?_)
              clear hK K
              simp only [Act.put, List.setIfInBounds_toArray, List.set_cons_zero, List.set_cons_succ]
              cases hsa : soundAsB f r.num with
              | false =>
                rw [hsa] at ca HP3
                have HP4 := Lib.hid (show mp = r by rw [HP3.out]; rfl)
                go_wp2_with fail
                refine (ca _ hfo (hS.ext hE5)).mono ?_
                rintro e w6 ⟨rfl, hE6⟩
                have hB6 := hB5.ext hE6
                have hZ6 := hE6.heap hZ5
                have hE6 := hE5.trans hE6
                clear HP3 HM hB5 hZ5 hE5
                go_wp2_with ((with_reducible refine stop_load 30 rfl ?_))
                apply Stop.go
                go_wp2_with ((with_reducible refine stop_load 30 rfl ?_))
                apply Stop.go
                refine wpList_load_blk rfl _ _ rfl w.heap.size 0 rfl 132 _ _ _ _ hB6 Tryz.underlying30 rfl info_rest (by rw [encR_size h]; omega) (encR r) (encR_whole h) ?_
                simp only [Act.put, List.setIfInBounds_toArray, List.set_cons_zero, List.set_cons_succ]
                go_wp2_with ((with_reducible refine stop_store 30 rfl ?_))
                apply Stop.go
                refine store_rest rfl _ _ rfl (w.heap.size + 1) rfl r h rfl _ hZ6 zero_rest fun w9 u9 => ?_
                dsimp only [Act.put]
                go_wp2
                exact bodyPost_ret (v := .agg (encR r)) (results_cell_row Tryz.results23 _ _ (w.heap.size + 1) _ _ _ _ rfl u9.here Tryz.underlying30 rfl (by rw [encR_size h]; exact info_rest)) rfl ⟨by rw [HP4.out], (hE6.upd (by omega) u9)⟩
              | true =>
                rw [hsa] at ca HP3
                have HP4 := Lib.hid (show mp = { r with f := f, st := (List.replicate 64 3).set q 2, sound := true, copies := 0 } by rw [HP3.out, HM.out]; rfl)
                go_wp2_with fail
                refine (ca _ hfo (hS.ext hE5)).mono ?_
                rintro e w6 ⟨rfl, hE6⟩
                have hB6 := hB5.ext hE6
                have hZ6 := hE6.heap hZ5
                have hF6 := hE6.heap hF5
                have hE6 := hE5.trans hE6
                clear HP3 HM hB5 hZ5 hE5 hF5 ca hnm
                go_wp2
                refine wp_region_prefix 3 (by kernel_rfl) (by kernel_rfl) (by kernel_rfl) ?_
                simp only [List.take_succ_cons, List.take_zero, List.drop_succ_cons, List.drop_zero]
                refine BigFrame.wpQuiet_want rfl fun K hK => ?_
                refine quiet_load_blk _ _ rfl fb 0 rfl 64 _ _ _ _ (by rintro _ ⟨x, rfl⟩; exact x.ext.heap hF6) Tryz.underlying27 rfl info_frame (by rw [encF_size hfo]; omega) (encF f) (by rw [Nat.zero_add, ← encF_size hfo, Array.extract_size]) (hK _ ?_)
                clear hK K
                simp only [Act.put, List.setIfInBounds_toArray, List.set_cons_zero, List.set_cons_succ]
                repeat (go_big_quiet_step ((go_at_call 42; refine calls_ext (filled_any 3 _))))
                refine wpQuiet_nil ?_
                rintro _ ⟨x, rfl⟩
                have hB7 := hB6.ext x.ext
                have hZ7 := x.ext.heap hZ6
                have hE7 := hE6.trans x.ext
                clear hB6 hZ6 hE6 hF6
                generalize x.val = w7 at hB7 hZ7 hE7 ⊢
                clear x
                have q1o : RestOk { r with f := f } := ⟨hfo, h.st⟩
                have q2o : RestOk { r with f := f, st := List.replicate 64 3 } := ⟨hfo, by simp⟩
                have q3o : RestOk { r with f := f, st := List.replicate 64 3, sound := true } := ⟨hfo, by simp⟩
                have q4o : RestOk { r with f := f, st := List.replicate 64 3, sound := true, copies := 0 } := ⟨hfo, by simp⟩
                have q5o : RestOk { r with f := f, st := (List.replicate 64 3).set q 2, sound := true, copies := 0 } := ⟨hfo, by simp⟩
                refine wpList_store_blk rfl _ _ _ rfl w.heap.size 1 rfl (encF f) rfl _ _ hB7 (by rw [encF_size hfo]; exact info_frame) (by rw [encR_size h, encF_size hfo]; omega) (encF_one _) fun w8 u8 => ?_
                dsimp only [Act.put]
                have hB8 := u8.here
                rw [setR_frame h _ hfo.1] at hB8
                have hZ8 := u8.keep hZ7 (by omega)
                have hE8 := hE7.upd (by omega) u8
                clear u8 hB7 hZ7 hE7
                go_wp2_with ((with_reducible refine stop_store 28 rfl ?_))
                apply Stop.go
                refine wpList_store_blk rfl _ _ _ rfl w.heap.size 65 rfl (encS (List.replicate 64 3)) rfl _ _ hB8 (by rw [encS_size (by simp)]; exact info_states) (by rw [encR_size q1o, encS_size (by simp)]; omega) (encS_one _) fun w9 u9 => ?_
                dsimp only [Act.put]
                have hB9 := u9.here
                rw [setR_states q1o _ (by simp)] at hB9
                have hZ9 := u9.keep hZ8 (by omega)
                have hE9 := hE8.upd (by omega) u9
                clear u9 hB8 hZ8 hE8
                go_wp2_with ((with_reducible refine stop_store 4 rfl ?_))
                apply Stop.go
                refine wpList_store1 rfl _ _ _ rfl w.heap.size 129 rfl (.bool true) rfl _ _ hB9 info_bool (by rw [encR_size q2o]; omega) rfl fun w10 u10 => ?_
                dsimp only [Act.put]
                have hB10 := u10.here
                rw [setR_sound q2o] at hB10
                have hZ10 := u10.keep hZ9 (by omega)
                have hE10 := hE9.upd (by omega) u10
                clear u10 hB9 hZ9 hE9
                go_wp2_with ((with_reducible refine stop_store 3 rfl ?_))
                apply Stop.go
                refine wpList_store1 rfl _ _ _ rfl w.heap.size 130 rfl (.int .i64 0) rfl _ _ hB10 info_int (by rw [encR_size q3o]; omega) rfl fun w11 u11 => ?_
                dsimp only [Act.put]
                have hB11 := u11.here
                rw [setR_copies q3o] at hB11
                have hZ11 := u11.keep hZ10 (by omega)
                have hE11 := hE10.upd (by omega) u11
                clear u11 hB10 hZ10 hE10
                go_wp2_with ((with_reducible refine stop_store 3 rfl ?_))
                apply Stop.go
                refine wpList_store1 rfl _ _ _ rfl w.heap.size (65 + q) rfl (.int .i64 2) rfl _ _ hB11 info_int (by rw [encR_size q4o]; omega) rfl fun w12 u12 => ?_
                dsimp only [Act.put]
                have hB12 := u12.here
                rw [setR_st q4o q hql] at hB12
                have hZ12 := u12.keep hZ11 (by omega)
                have hE12 := hE11.upd (by omega) u12
                clear u12 hB11 hZ11 hE11
                go_wp2_with ((with_reducible refine stop_load 30 rfl ?_))
                apply Stop.go
                refine wpList_load_blk rfl _ _ rfl w.heap.size 0 rfl 132 _ _ _ _ hB12 Tryz.underlying30 rfl info_rest (by rw [encR_size q5o]; omega) (encR { r with f := f, st := (List.replicate 64 3).set q 2, sound := true, copies := 0 }) (encR_whole q5o) ?_
                simp only [Act.put, List.setIfInBounds_toArray, List.set_cons_zero, List.set_cons_succ]
                go_wp2_with ((with_reducible refine stop_store 30 rfl ?_))
                apply Stop.go
                refine store_rest rfl _ _ rfl (w.heap.size + 1) rfl { r with f := f, st := (List.replicate 64 3).set q 2, sound := true, copies := 0 } q5o rfl _ hZ12 zero_rest fun w13 u13 => ?_
                dsimp only [Act.put]
                go_wp2
                exact bodyPost_ret (v := .agg (encR { r with f := f, st := (List.replicate 64 3).set q 2, sound := true, copies := 0 })) (results_cell_row Tryz.results23 _ _ (w.heap.size + 1) _ _ _ _ rfl u13.here Tryz.underlying30 rfl (by rw [encR_size q5o]; exact info_rest)) rfl ⟨by rw [HP4.out], (hE12.upd (by omega) u13)⟩
          · have ha' : (((a : Nat) : Int) != 1) = true := by simp; omega
            have HP3 := Lib.hid (show mp = r by rw [HP2.out, if_pos ha])
            clear HP2 HM ha
            go_wp2_with ((with_reducible refine stop_load 30 rfl ?_))
            apply Stop.go
            go_wp2_with ((with_reducible refine stop_load 30 rfl ?_))
            apply Stop.go
            refine wpList_load_blk rfl _ _ rfl w.heap.size 0 rfl 132 _ _ _ _ hB2 Tryz.underlying30 rfl info_rest (by rw [encR_size h]; omega) (encR r) (encR_whole h) ?_
            simp only [Act.put, List.setIfInBounds_toArray, List.set_cons_zero, List.set_cons_succ]
            go_wp2_with ((with_reducible refine stop_store 30 rfl ?_))
            apply Stop.go
            refine store_rest rfl _ _ rfl (w.heap.size + 1) rfl r h rfl _ hZ2 zero_rest fun w9 u9 => ?_
            dsimp only [Act.put]
            go_wp2
            exact bodyPost_ret (v := .agg (encR r)) (results_cell_row Tryz.results23 _ _ (w.heap.size + 1) _ _ _ _ rfl u9.here Tryz.underlying30 rfl (by rw [encR_size h]; exact info_rest)) rfl ⟨by rw [HP3.out], (hE.upd (by omega) u9)⟩
theorem mendedP_ok {r : SR} (h : RestOk r) : RestOk (mendedP r) := by
  unfold mendedP
  split
  · exact h
  · split
    · exact h
    · split
      · exact mendR_ok (replR_ok h.f (lostAt_lt r.st 64 (by omega)))
      · exact h
def mendedR (r : SR) : SR := if checkP r = 0 then mendedP r else zeroR 0
theorem mendedR_ok {r : SR} (h : RestOk r) : RestOk (mendedR r) := by
  unfold mendedR
  split
  · exact mendedP_ok h
  · exact zeroR_ok 0
set_option maxHeartbeats 1000000 in
theorem Mended_any (r : SR) (w : World) (h : RestOk r) (hS : SyncAt w) :
    Calls Tryz.prog 9 #[.agg (encR r)] w fun e w' => e = .returned (.tuple #[.agg (encR (mendedR r)), .int .i64 (checkP r)]) ∧ Ext w w' := by
  have hck := fun (wx : World) (hE : Ext w wx) => checkRest_any r wx h (hS.ext hE)
  have hmd := fun (wx : World) (hE : Ext w wx) => mended_any r wx h (hS.ext hE)
  have hmo := mendedP_ok h
  have HR := Lib.hid (show mendedR r = if checkP r = 0 then mendedP r else zeroR 0 from rfl)
  generalize mendedR r = mr at HR ⊢
  generalize checkP r = ce at HR hck ⊢
  generalize mendedP r = mp at HR hmd hmo
  go_enter Tryz.func9, Tryz.ntmps9
  go_wp2_with ((with_reducible refine stop_load 30 rfl ?_))
  apply Stop.go
  refine wpList_world fun w1 e1 => ?_
  have hE1 := Ext.of_eq e1
  clear e1
  have hB : RAt w1 w.heap.size r := hE1.heap (block_old _ (block_new w _))
  have hZ := hE1.heap (heap_alloc2_new w _ _)
  have hE := ext_of_alloc _ (ext_of_alloc _ hE1)
  clear hE1
  refine wpList_load_blk rfl _ _ rfl w.heap.size 0 rfl 132 _ _ _ _ hB Tryz.underlying30 rfl info_rest (by rw [encR_size h]; omega) (encR r) (encR_whole h) ?_
  simp only [Act.put, List.setIfInBounds_toArray, List.set_cons_zero, List.set_cons_succ]
  go_wp2_with fail
  refine (hck _ hE).mono ?_
  rintro e w2 ⟨rfl, hE2⟩
  have hB2 := hB.ext hE2
  have hZ2 := hE2.heap hZ
  have hE2 := hE.trans hE2
  clear hB hZ hE hck
  by_cases hc : ce = 0
  · subst hc
    have HR2 := Lib.hid (show mr = mp by rw [HR.out, if_pos rfl])
    clear HR
    go_wp2_with ((with_reducible refine stop_load 30 rfl ?_))
    apply Stop.go
    refine wpList_load_blk rfl _ _ rfl w.heap.size 0 rfl 132 _ _ _ _ hB2 Tryz.underlying30 rfl info_rest (by rw [encR_size h]; omega) (encR r) (encR_whole h) ?_
    simp only [Act.put, List.setIfInBounds_toArray, List.set_cons_zero, List.set_cons_succ]
    go_wp2_with fail
    refine (hmd _ hE2).mono ?_
    rintro e w3 ⟨rfl, hE3⟩
    have hZ3 := hE3.heap hZ2
    have hE3 := hE2.trans hE3
    clear hmd
    go_wp2_with ((with_reducible refine stop_store 30 rfl ?_))
    apply Stop.go
    refine store_rest rfl _ _ rfl (w.heap.size + 1) rfl mp hmo rfl _ hZ3 zero_rest fun w9 u9 => ?_
    dsimp only [Act.put]
    go_wp2
    exact bodyPost_ret (results_cell_tmp Tryz.results9 _ _ (w.heap.size + 1) 30 (encR mp) _ _ rfl (.int .i64 0) rfl u9.here Tryz.underlying30 rfl (by rw [encR_size hmo]; exact info_rest)) rfl ⟨(by rw [HR2.out]), (hE3.upd (by omega) u9)⟩
  · have hc' : (ce != 0) = true := by simpa using hc
    have HR2 := Lib.hid (show mr = zeroR 0 by rw [HR.out, if_neg hc])
    clear HR hc hmd
    go_wp2_with ((with_reducible refine stop_store 30 rfl ?_))
    apply Stop.go
    rw [build_zero]
    refine store_rest rfl _ _ rfl (w.heap.size + 1) rfl (zeroR 0) (zeroR_ok 0) rfl _ hZ2 zero_rest fun w9 u9 => ?_
    dsimp only [Act.put]
    go_wp2
    exact bodyPost_ret (results_cell_tmp Tryz.results9 _ _ (w.heap.size + 1) 30 (encR (zeroR 0)) _ _ rfl (.int .i64 ce) rfl u9.here Tryz.underlying30 rfl (by rw [encR_size (zeroR_ok 0)]; exact info_rest)) rfl ⟨(by rw [HR2.out]), (hE2.upd (by omega) u9)⟩
end Go.Proofs.YtplddeboinhkbaaGreatDoorRR

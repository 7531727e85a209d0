/- PutWord of the reference of chapter 1: what it returns. -/

import Derived.Test.YtplddeboinhkbaaGreatDoorRRProg
import Derived.Test.YtplddeboinhkbaaGreatDoorRRRefC
namespace Go.Proofs.YtplddeboinhkbaaGreatDoorRR
open Go.RowKit
set_option maxRecDepth 100000 in
set_option maxHeartbeats 2000000 in
theorem rput_any (f : List Nat) (i : Nat) (w : World) (hf : FrameOk f) (hi : i < 64) :
    Calls Tryz.prog 46 #[.agg (encF f), .int .i64 i] w fun e w' => e = .returned (.agg (encF (replF f i))) ∧ Ext w w' := by
  have hf' := replF_ok hf hi
  obtain ⟨f', hfe⟩ : ∃ f', f' = replF f i := ⟨_, rfl⟩
  rw [← hfe] at hf' ⊢
  have hx := Lib.hid (show (encF f').extract 0 (0 + 64) = encF f' by rw [Nat.zero_add, ← encF_size hf', Array.extract_size])
  have hs := sumTo_lt f 60
  have hc := crcTo_lt f 62
  have hsn := Lib.hid (show sumN f = sumTo f 60 from rfl)
  have hcn := Lib.hid (show crcN f = crcTo f 62 from rfl)
  have hn := numN_lt f
  have hcl : crcN f < 4194304 := hc
  have hsl : sumN f < 2048 := hs
  by_cases h0 : i = 0
  · subst h0
    have hw := Lib.hid (show f.set 0 (syncN (numN f)) = f' from hfe.symm)
    have hl := syncN_lt (numN f)
    clear hfe
    go_enter Tryz.func46, Tryz.ntmps46
    go_wp2_with ((with_reducible refine stop_load 27 rfl ?_))
    apply Stop.go
    refine wpList_world fun w1 e1 => ?_
    have hE1 := Ext.of_eq e1
    clear e1
    have hB0 : w1.heap[w.heap.size]? = some (.cells (encF f) 27 (0, 0)) := hE1.heap (block_old _ (block_new w _))
    obtain ⟨Z, hB1, hZ⟩ : ∃ Z : Array Value, w1.heap[w.heap.size + 1]? = some (.cells Z 27 (0, 0)) ∧ Z.size = 64 := ⟨_, hE1.heap (heap_alloc2_new w _ _), rfl⟩
    have hE : Ext w w1 := ext_of_alloc _ (ext_of_alloc _ hE1)
    clear hE1
    refine wpList_load_blk rfl _ _ rfl w.heap.size 0 rfl 64 _ _ _ _ hB0 Tryz.underlying27 rfl info_frame (by rw [encF_size hf]; omega) (encF f) (by rw [Nat.zero_add, ← encF_size hf, Array.extract_size]) ?_
    simp only [Act.put, List.setIfInBounds_toArray, List.set_cons_zero, List.set_cons_succ]
    go_wp2_with fail
    refine (rnumberOf_any f _ hf).mono ?_
    rintro e w2 ⟨rfl, hE2⟩
    have hB0 := hE2.heap hB0
    have hB1 := hE2.heap hB1
    have hE := hE.trans hE2
    clear hE2
    go_wp2_with fail
    refine (syncOf_any _ _ hn).mono ?_
    rintro e w2 ⟨rfl, hE2⟩
    have hB0 := hE2.heap hB0
    have hB1 := hE2.heap hB1
    have hE := hE.trans hE2
    clear hE2
    go_wp2_with ((with_reducible refine stop_store 25 rfl ?_))
    apply Stop.go
    refine wpList_store1 rfl _ _ _ rfl w.heap.size _ rfl (.int .u16 (syncN (numN f) : Nat)) rfl _ _ hB0 info_u16 (by rw [encF_size hf]; omega) rfl fun w2 u2 => ?_
    dsimp only [Act.put]
    go_wp2_with ((with_reducible refine stop_load 27 rfl ?_))
    apply Stop.go
    refine wpList_load_blk rfl _ _ rfl w.heap.size 0 rfl 64 _ _ _ _ u2.here Tryz.underlying27 rfl info_frame (by rw [Array.size_setIfInBounds, encF_size hf]; omega) (encF f') (by rw [encF_set, hw.out]; exact hx.out) ?_
    simp only [Act.put, List.setIfInBounds_toArray, List.set_cons_zero, List.set_cons_succ]
    go_wp2_with ((with_reducible refine stop_store 27 rfl ?_))
    apply Stop.go
    refine wpList_store_whole rfl _ _ _ rfl (w.heap.size + 1) rfl (encF f') rfl _ _ (u2.keep hB1 (by omega)) (by rw [encF_size hf']; exact info_frame) (by rw [encF_size hf', hZ]) (encF_one _) fun w3 u3 => ?_
    dsimp only [Act.put]
    go_wp2
    exact bodyPost_ret (v := .agg (encF f')) (results_cell_row Tryz.results46 _ _ (w.heap.size + 1) _ _ _ _ rfl u3.here Tryz.underlying27 rfl (by rw [encF_size hf']; exact info_frame)) rfl ⟨rfl, (hE.upd (by omega) u2).upd (by omega) u3⟩
  by_cases h1 : i = 61
  · subst h1
    have hw := Lib.hid (show f.set 61 (wordN (sumN f)) = f' by rw [hfe]; simp [replF, replW])
    have hl := wordN_lt (sumN f) (by rw [hsn.out]; omega)
    clear hfe h0
    go_enter Tryz.func46, Tryz.ntmps46
    go_wp2_with ((with_reducible refine stop_load 27 rfl ?_))
    apply Stop.go
    refine wpList_world fun w1 e1 => ?_
    have hE1 := Ext.of_eq e1
    clear e1
    have hB0 : w1.heap[w.heap.size]? = some (.cells (encF f) 27 (0, 0)) := hE1.heap (block_old _ (block_new w _))
    obtain ⟨Z, hB1, hZ⟩ : ∃ Z : Array Value, w1.heap[w.heap.size + 1]? = some (.cells Z 27 (0, 0)) ∧ Z.size = 64 := ⟨_, hE1.heap (heap_alloc2_new w _ _), rfl⟩
    have hE : Ext w w1 := ext_of_alloc _ (ext_of_alloc _ hE1)
    clear hE1
    refine wpList_load_blk rfl _ _ rfl w.heap.size 0 rfl 64 _ _ _ _ hB0 Tryz.underlying27 rfl info_frame (by rw [encF_size hf]; omega) (encF f) (by rw [Nat.zero_add, ← encF_size hf, Array.extract_size]) ?_
    simp only [Act.put, List.setIfInBounds_toArray, List.set_cons_zero, List.set_cons_succ]
    go_wp2_with fail
    refine (rsum_any f _ hf).mono ?_
    rintro e w2 ⟨rfl, hE2⟩
    have hB0 := hE2.heap hB0
    have hB1 := hE2.heap hB1
    have hE := hE.trans hE2
    clear hE2
    go_wp2_with fail
    refine (rword_any _ _ (by rw [hsn.out]; omega)).mono ?_
    rintro e w2 ⟨rfl, hE2⟩
    have hB0 := hE2.heap hB0
    have hB1 := hE2.heap hB1
    have hE := hE.trans hE2
    clear hE2
    go_wp2_with ((with_reducible refine stop_store 25 rfl ?_))
    apply Stop.go
    refine wpList_store1 rfl _ _ _ rfl w.heap.size _ rfl (.int .u16 (wordN (sumN f) : Nat)) rfl _ _ hB0 info_u16 (by rw [encF_size hf]; omega) rfl fun w2 u2 => ?_
    dsimp only [Act.put]
    go_wp2_with ((with_reducible refine stop_load 27 rfl ?_))
    apply Stop.go
    refine wpList_load_blk rfl _ _ rfl w.heap.size 0 rfl 64 _ _ _ _ u2.here Tryz.underlying27 rfl info_frame (by rw [Array.size_setIfInBounds, encF_size hf]; omega) (encF f') (by rw [encF_set, hw.out]; exact hx.out) ?_
    simp only [Act.put, List.setIfInBounds_toArray, List.set_cons_zero, List.set_cons_succ]
    go_wp2_with ((with_reducible refine stop_store 27 rfl ?_))
    apply Stop.go
    refine wpList_store_whole rfl _ _ _ rfl (w.heap.size + 1) rfl (encF f') rfl _ _ (u2.keep hB1 (by omega)) (by rw [encF_size hf']; exact info_frame) (by rw [encF_size hf', hZ]) (encF_one _) fun w3 u3 => ?_
    dsimp only [Act.put]
    go_wp2
    exact bodyPost_ret (v := .agg (encF f')) (results_cell_row Tryz.results46 _ _ (w.heap.size + 1) _ _ _ _ rfl u3.here Tryz.underlying27 rfl (by rw [encF_size hf']; exact info_frame)) rfl ⟨rfl, (hE.upd (by omega) u2).upd (by omega) u3⟩
  by_cases h2 : i = 62
  · subst h2
    have hw := Lib.hid (show f.set 62 (wordN (crcN f / 2048)) = f' by rw [hfe]; simp [replF, replW])
    have hl := wordN_lt (crcN f / 2048) (by rw [hcn.out]; omega)
    clear hfe h0 h1
    go_enter Tryz.func46, Tryz.ntmps46
    go_wp2_with ((with_reducible refine stop_load 27 rfl ?_))
    apply Stop.go
    refine wpList_world fun w1 e1 => ?_
    have hE1 := Ext.of_eq e1
    clear e1
    have hB0 : w1.heap[w.heap.size]? = some (.cells (encF f) 27 (0, 0)) := hE1.heap (block_old _ (block_new w _))
    obtain ⟨Z, hB1, hZ⟩ : ∃ Z : Array Value, w1.heap[w.heap.size + 1]? = some (.cells Z 27 (0, 0)) ∧ Z.size = 64 := ⟨_, hE1.heap (heap_alloc2_new w _ _), rfl⟩
    have hE : Ext w w1 := ext_of_alloc _ (ext_of_alloc _ hE1)
    clear hE1
    refine wpList_load_blk rfl _ _ rfl w.heap.size 0 rfl 64 _ _ _ _ hB0 Tryz.underlying27 rfl info_frame (by rw [encF_size hf]; omega) (encF f) (by rw [Nat.zero_add, ← encF_size hf, Array.extract_size]) ?_
    simp only [Act.put, List.setIfInBounds_toArray, List.set_cons_zero, List.set_cons_succ]
    go_wp2_with fail
    refine (rcheck_any f _ hf).mono ?_
    rintro e w2 ⟨rfl, hE2⟩
    have hB0 := hE2.heap hB0
    have hB1 := hE2.heap hB1
    have hE := hE.trans hE2
    clear hE2
    go_wp2_with fail
    rw [show ((crcN f : Nat) : Int) / 2048 = ((crcN f / 2048 : Nat) : Int) from rfl]
    refine (rword_any (crcN f / 2048) _ (by rw [hcn.out]; omega)).mono ?_
    rintro e w2 ⟨rfl, hE2⟩
    have hB0 := hE2.heap hB0
    have hB1 := hE2.heap hB1
    have hE := hE.trans hE2
    clear hE2
    go_wp2_with ((with_reducible refine stop_store 25 rfl ?_))
    apply Stop.go
    refine wpList_store1 rfl _ _ _ rfl w.heap.size _ rfl (.int .u16 (wordN (crcN f / 2048) : Nat)) rfl _ _ hB0 info_u16 (by rw [encF_size hf]; omega) rfl fun w2 u2 => ?_
    dsimp only [Act.put]
    go_wp2_with ((with_reducible refine stop_load 27 rfl ?_))
    apply Stop.go
    refine wpList_load_blk rfl _ _ rfl w.heap.size 0 rfl 64 _ _ _ _ u2.here Tryz.underlying27 rfl info_frame (by rw [Array.size_setIfInBounds, encF_size hf]; omega) (encF f') (by rw [encF_set, hw.out]; exact hx.out) ?_
    simp only [Act.put, List.setIfInBounds_toArray, List.set_cons_zero, List.set_cons_succ]
    go_wp2_with ((with_reducible refine stop_store 27 rfl ?_))
    apply Stop.go
    refine wpList_store_whole rfl _ _ _ rfl (w.heap.size + 1) rfl (encF f') rfl _ _ (u2.keep hB1 (by omega)) (by rw [encF_size hf']; exact info_frame) (by rw [encF_size hf', hZ]) (encF_one _) fun w3 u3 => ?_
    dsimp only [Act.put]
    go_wp2
    exact bodyPost_ret (v := .agg (encF f')) (results_cell_row Tryz.results46 _ _ (w.heap.size + 1) _ _ _ _ rfl u3.here Tryz.underlying27 rfl (by rw [encF_size hf']; exact info_frame)) rfl ⟨rfl, (hE.upd (by omega) u2).upd (by omega) u3⟩
  by_cases h3 : i = 63
  · subst h3
    have hw := Lib.hid (show f.set 63 (wordN (crcN f % 2048)) = f' by rw [hfe]; simp [replF, replW])
    have hl := wordN_lt (crcN f % 2048) (by omega)
    clear hfe h0 h1 h2
    go_enter Tryz.func46, Tryz.ntmps46
    go_wp2_with ((with_reducible refine stop_load 27 rfl ?_))
    apply Stop.go
    refine wpList_world fun w1 e1 => ?_
    have hE1 := Ext.of_eq e1
    clear e1
    have hB0 : w1.heap[w.heap.size]? = some (.cells (encF f) 27 (0, 0)) := hE1.heap (block_old _ (block_new w _))
    obtain ⟨Z, hB1, hZ⟩ : ∃ Z : Array Value, w1.heap[w.heap.size + 1]? = some (.cells Z 27 (0, 0)) ∧ Z.size = 64 := ⟨_, hE1.heap (heap_alloc2_new w _ _), rfl⟩
    have hE : Ext w w1 := ext_of_alloc _ (ext_of_alloc _ hE1)
    clear hE1
    refine wpList_load_blk rfl _ _ rfl w.heap.size 0 rfl 64 _ _ _ _ hB0 Tryz.underlying27 rfl info_frame (by rw [encF_size hf]; omega) (encF f) (by rw [Nat.zero_add, ← encF_size hf, Array.extract_size]) ?_
    simp only [Act.put, List.setIfInBounds_toArray, List.set_cons_zero, List.set_cons_succ]
    go_wp2_with fail
    refine (rcheck_any f _ hf).mono ?_
    rintro e w2 ⟨rfl, hE2⟩
    have hB0 := hE2.heap hB0
    have hB1 := hE2.heap hB1
    have hE := hE.trans hE2
    clear hE2
    go_wp2_with fail
    rw [show ((crcN f : Nat) : Int) % 2048 = ((crcN f % 2048 : Nat) : Int) from rfl]
    refine (rword_any (crcN f % 2048) _ (by omega)).mono ?_
    rintro e w2 ⟨rfl, hE2⟩
    have hB0 := hE2.heap hB0
    have hB1 := hE2.heap hB1
    have hE := hE.trans hE2
    clear hE2
    go_wp2_with ((with_reducible refine stop_store 25 rfl ?_))
    apply Stop.go
    refine wpList_store1 rfl _ _ _ rfl w.heap.size _ rfl (.int .u16 (wordN (crcN f % 2048) : Nat)) rfl _ _ hB0 info_u16 (by rw [encF_size hf]; omega) rfl fun w2 u2 => ?_
    dsimp only [Act.put]
    go_wp2_with ((with_reducible refine stop_load 27 rfl ?_))
    apply Stop.go
    refine wpList_load_blk rfl _ _ rfl w.heap.size 0 rfl 64 _ _ _ _ u2.here Tryz.underlying27 rfl info_frame (by rw [Array.size_setIfInBounds, encF_size hf]; omega) (encF f') (by rw [encF_set, hw.out]; exact hx.out) ?_
    simp only [Act.put, List.setIfInBounds_toArray, List.set_cons_zero, List.set_cons_succ]
    go_wp2_with ((with_reducible refine stop_store 27 rfl ?_))
    apply Stop.go
    refine wpList_store_whole rfl _ _ _ rfl (w.heap.size + 1) rfl (encF f') rfl _ _ (u2.keep hB1 (by omega)) (by rw [encF_size hf']; exact info_frame) (by rw [encF_size hf', hZ]) (encF_one _) fun w3 u3 => ?_
    dsimp only [Act.put]
    go_wp2
    exact bodyPost_ret (v := .agg (encF f')) (results_cell_row Tryz.results46 _ _ (w.heap.size + 1) _ _ _ _ rfl u3.here Tryz.underlying27 rfl (by rw [encF_size hf']; exact info_frame)) rfl ⟨rfl, (hE.upd (by omega) u2).upd (by omega) u3⟩
  have hw := Lib.hid (show f.set i (wordN (sumN f ^^^ (wd f i % 2048) ^^^ (wd f 61 % 2048))) = f' by rw [hfe]; simp [replF, replW, h0, h1, h2, h3])
  have t0 : ((i : Int) == 0) = false := by simp; omega
  have t1 : decide ((i : Int) ≤ 60) = true := by simp; omega
  have x1 : sumN f ^^^ (wd f i % 2048) < 2048 := Nat.xor_lt_two_pow (n := 11) hs (by omega)
  have x2 : sumN f ^^^ (wd f i % 2048) ^^^ (wd f 61 % 2048) < 2048 := Nat.xor_lt_two_pow (n := 11) x1 (by omega)
  have hv : bits BinOp.xor IntKind.i64 (bits BinOp.xor IntKind.i64 (((wd f i : Nat) : Int) % 2048) ((sumN f : Nat) : Int)) (((wd f 61 : Nat) : Int) % 2048) = ((sumN f ^^^ (wd f i % 2048) ^^^ (wd f 61 % 2048) : Nat) : Int) := by
    have X1 := i64_xor_nat (wd f i % 2048) (sumN f) (by omega) (by rw [hsn.out]; omega)
    rw [Nat.xor_comm] at X1
    have X2 := i64_xor_nat (sumN f ^^^ (wd f i % 2048)) (wd f 61 % 2048) (by omega) (by omega)
    rw [show ((wd f i : Nat) : Int) % 2048 = ((wd f i % 2048 : Nat) : Int) from rfl, show ((wd f 61 : Nat) : Int) % 2048 = ((wd f 61 % 2048 : Nat) : Int) from rfl, X1, X2]
  have cw := Lib.hid (fun (u : World) => rword_any _ u x2)
  rw [← hv] at cw
  have hl := wordN_lt _ x2
  have bi := hf.2 i
  have b61 := hf.2 61
  clear hfe h0 h1 h2 h3 hv
  go_enter Tryz.func46, Tryz.ntmps46
  go_upto_region 5 with fail
  refine wp_world fun w1 e1 => ?_
  have hE1 := Ext.of_eq e1
  clear e1
  have hB0 : w1.heap[w.heap.size]? = some (.cells (encF f) 27 (0, 0)) := hE1.heap (block_old _ (block_new w _))
  obtain ⟨Z, hB1, hZ⟩ : ∃ Z : Array Value, w1.heap[w.heap.size + 1]? = some (.cells Z 27 (0, 0)) ∧ Z.size = 64 := ⟨_, hE1.heap (heap_alloc2_new w _ _), rfl⟩
  have hE : Ext w w1 := ext_of_alloc _ (ext_of_alloc _ hE1)
  clear hE1
  have hF1 := FAt.of_block hf hB0
  have ci : ∀ x : ExtW w1, x.val.cell? ⟨w.heap.size, i, none⟩ = some (.int .u16 (wd f i : Nat)) := fun x => by have := hF1.all i hi x; rwa [Nat.zero_add] at this
  have c61 : ∀ x : ExtW w1, x.val.cell? ⟨w.heap.size, 61, none⟩ = some (.int .u16 (wd f 61 : Nat)) := hF1.all 61 (by omega)
  refine wp_region_tail 17 _ rfl rfl rfl (by kernel_rfl) (by kernel_rfl) (by kernel_rfl) ?_
  simp only [List.modify_succ_cons, List.modify_zero_cons, idle]
  go_big_quiet_step (fail)
  go_big_quiet_step (fail)
  go_big_quiet_step (fail)
  go_big_quiet_step (fail)
  go_big_quiet_step (fail)
  go_big_quiet_step (fail)
  refine BigFrame.wpQuiet_want rfl fun K hK => ?_
  refine quiet_load_blk _ _ rfl w.heap.size 0 rfl 64 _ _ _ _ (by rintro _ ⟨x, rfl⟩; exact x.ext.heap hB0) Tryz.underlying27 rfl info_frame (by rw [encF_size hf]; omega) (encF f) (by rw [Nat.zero_add, ← encF_size hf, Array.extract_size]) (hK _ ?_)
  clear hK K
  simp only [Act.put, List.setIfInBounds_toArray, List.set_cons_zero, List.set_cons_succ]
  go_big_quiet_step ((go_at_call 57; refine calls_ext (rsum_any f _ hf)))
  go_big_quiet_step (fail)
  go_big_quiet_step (fail)
  go_big_quiet_step (fail)
  go_big_quiet_step (fail)
  go_big_quiet_step (fail)
  go_big_quiet_step (fail)
  go_big_quiet_step ((go_at_call 54; refine calls_ext (cw.out _)))
  go_big_quiet_step (fail)
  go_big_quiet_step (fail)
  go_big_quiet_step (fail)
  refine wpQuiet_nil ?_
  rintro _ ⟨x, rfl⟩
  have hB0 := x.ext.heap hB0
  have hB1 := x.ext.heap hB1
  have hE := hE.trans x.ext
  refine wpList_store1 rfl _ _ _ rfl w.heap.size _ rfl (.int .u16 (wordN (sumN f ^^^ (wd f i % 2048) ^^^ (wd f 61 % 2048)) : Nat)) rfl _ _ hB0 info_u16 (by rw [encF_size hf]; omega) rfl fun w2 u2 => ?_
  dsimp only [Act.put]
  go_wp2_with ((with_reducible refine stop_load 27 rfl ?_))
  apply Stop.go
  refine wpList_load_blk rfl _ _ rfl w.heap.size 0 rfl 64 _ _ _ _ u2.here Tryz.underlying27 rfl info_frame (by rw [Array.size_setIfInBounds, encF_size hf]; omega) (encF f') (by rw [encF_set, hw.out]; exact hx.out) ?_
  simp only [Act.put, List.setIfInBounds_toArray, List.set_cons_zero, List.set_cons_succ]
  go_wp2_with ((with_reducible refine stop_store 27 rfl ?_))
  apply Stop.go
  refine wpList_store_whole rfl _ _ _ rfl (w.heap.size + 1) rfl (encF f') rfl _ _ (u2.keep hB1 (by omega)) (by rw [encF_size hf']; exact info_frame) (by rw [encF_size hf', hZ]) (encF_one _) fun w3 u3 => ?_
  dsimp only [Act.put]
  go_wp2
  exact bodyPost_ret (v := .agg (encF f')) (results_cell_row Tryz.results46 _ _ (w.heap.size + 1) _ _ _ _ rfl u3.here Tryz.underlying27 rfl (by rw [encF_size hf']; exact info_frame)) rfl ⟨rfl, (hE.upd (by omega) u2).upd (by omega) u3⟩
end Go.Proofs.YtplddeboinhkbaaGreatDoorRR

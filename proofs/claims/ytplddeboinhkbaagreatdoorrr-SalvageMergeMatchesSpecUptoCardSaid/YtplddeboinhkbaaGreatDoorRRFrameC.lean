/- The functions of package frame that put the word in its place with which a frame could be sound: what they return. -/

import Derived.Test.YtplddeboinhkbaaGreatDoorRRProg
import Derived.Test.YtplddeboinhkbaaGreatDoorRRFrameB
import Derived.Test.YtplddeboinhkbaaGreatDoorRRMem
namespace Go.Proofs.YtplddeboinhkbaaGreatDoorRR
open Go.RowKit
def replW (f : List Nat) (i : Nat) : Nat :=
  if i = 0 then syncN (numN f) else if i = 61 then wordN (sumN f) else if i = 62 then wordN (crcN f / 2048) else if i = 63 then wordN (crcN f % 2048)
  else wordN (sumN f ^^^ (wd f i % 2048) ^^^ (wd f 61 % 2048))
def replF (f : List Nat) (i : Nat) : List Nat := f.set i (replW f i)
theorem encF_set (f : List Nat) (i v : Nat) : (encF f).setIfInBounds i (.int .u16 (v : Nat)) = encF (f.set i v) := by
  simp [encF, List.map_set]
theorem wd_set (f : List Nat) (i v k : Nat) (hi : i < f.length) : wd (f.set i v) k = if k = i then v else wd f k := by
  unfold wd
  rw [List.getD_eq_getElem?_getD, List.getD_eq_getElem?_getD, List.getElem?_set]
  by_cases h : i = k
  · subst h; simp [hi]
  · simp [h, Ne.symm h]
theorem FrameOk.set {f : List Nat} (hf : FrameOk f) (i v : Nat) (hi : i < 64) (hv : v < 65536) : FrameOk (f.set i v) :=
  ⟨by simp [hf.1], fun k => by
    rw [wd_set f i v k (by rw [hf.1]; exact hi)]
    split
    · exact hv
    · exact hf.2 k⟩
theorem info_frame : (Tryz.prog.info? 27).map (·.size) = some 64 := by kernel_rfl
theorem encF_one (f : List Nat) : (encF f).all (·.oneCell') = true := by
  unfold encF
  rw [Array.all_eq_true_iff_forall_mem]
  intro v hv
  simp at hv
  obtain ⟨n, _, rfl⟩ := hv
  rfl
theorem wordN_lt' (d : Nat) (h : d < 2048) : wordN d < 65536 := by have := wordN_lt d h; omega
theorem replW_lt (f : List Nat) (i : Nat) : replW f i < 65536 := by
  unfold replW
  have h1 := syncN_lt (numN f)
  have h2 := crcTo_lt f 62
  have h3 := sumTo_lt f 60
  have h4 : (sumN f ^^^ (wd f i % 2048) ^^^ (wd f 61 % 2048)) < 2048 := Nat.xor_lt_two_pow (n := 11) (Nat.xor_lt_two_pow (n := 11) h3 (by omega)) (by omega)
  have h5 : crcN f / 2048 < 2048 := by unfold crcN; omega
  split
  · omega
  split
  · exact wordN_lt' _ h3
  split
  · exact wordN_lt' _ h5
  split
  · exact wordN_lt' _ (by omega)
  · exact wordN_lt' _ h4
theorem replF_ok {f : List Nat} (hf : FrameOk f) {i : Nat} (hi : i < 64) : FrameOk (replF f i) := hf.set i _ hi (replW_lt f i)
theorem info_u16 : (Tryz.prog.info? 25).map (·.size) = some 1 := by kernel_rfl
set_option maxHeartbeats 1000000 in
theorem replaced_any (f : List Nat) (i : Nat) (w : World) (hf : FrameOk f) (hi : i < 64) (hS : SyncAt w) :
    Calls Tryz.prog 68 #[.agg (encF f), .int .i64 i] w fun e w' => e = .returned (.agg (encF (replF f i))) ∧ Ext w w' := by
  have hF := FAt.of_alloc (w := w) (t := 27) hf
  have hf' := replF_ok hf hi
  obtain ⟨f', hfe⟩ : ∃ f', f' = replF f i := ⟨_, rfl⟩
  rw [← hfe] at hf' ⊢
  have hx := Lib.hid (show (encF f').extract 0 (0 + 64) = encF f' by rw [Nat.zero_add, ← encF_size hf', Array.extract_size])
  by_cases h0 : i = 0
  · subst h0
    have hw := Lib.hid (show f.set 0 (syncN (numN f)) = f' by rw [hfe]; simp [replF, replW])
    clear hfe
    go_enter Tryz.func68, Tryz.ntmps68
    go_wp2_with fail
    refine (numberOf_any _ _ f _ hf (hF.ext ((Ext.refl _).alloc _))).mono ?_
    rintro e w1 ⟨rfl, hE1⟩
    have hn := numN_lt f
    have cS := (hS.ext (ext_of_alloc _ (ext_of_alloc _ hE1))) (numN f % 4) (by omega)
    rw [syncN_mod] at cS
    have hB0 : w1.heap[w.heap.size]? = some (.cells (encF f) 27 (0, 0)) := hE1.heap (block_old _ (block_new w _))
    obtain ⟨Z, hB1, hZ⟩ : ∃ Z : Array Value, w1.heap[w.heap.size + 1]? = some (.cells Z 27 (0, 0)) ∧ Z.size = 64 := ⟨_, hE1.heap (heap_alloc2_new w _ _), rfl⟩
    have hE : Ext w w1 := ext_of_alloc _ (ext_of_alloc _ hE1)
    clear hE1
    go_wp2_with ((with_reducible refine stop_store 25 rfl ?_))
    apply Stop.go
    refine wpList_store1 rfl _ _ _ rfl w.heap.size _ rfl (.int .u16 (syncN (numN f) : Nat)) rfl _ _ hB0 info_u16 (by rw [encF_size hf]; omega) rfl fun w2 u2 => ?_
    dsimp only [Act.put]
    go_wp2_with ((with_reducible refine stop_load 27 rfl ?_))
    apply Stop.go
    refine wpList_load_blk rfl _ _ rfl w.heap.size 0 rfl 64 _ _ _ _ u2.here Tryz.underlying27 rfl info_frame (by rw [Array.size_setIfInBounds, encF_size hf]; omega) (encF f') (by rw [encF_set, hw.out]; exact hx.out) ?_
    simp only [Act.put, List.setIfInBounds_toArray, List.set_cons_zero, List.set_cons_succ]
    go_wp2_with ((with_reducible refine stop_store 27 rfl ?_))
    apply Stop.go
    refine wpList_store_whole rfl _ _ _ rfl (w.heap.size + 1) rfl (encF f') rfl _ _ (u2.keep hB1 (by omega)) (by rw [encF_size hf']; exact info_frame) (by rw [encF_size hf', hZ]) (encF_one _) fun w3 u3 => ?_
    dsimp only [Act.put]
    go_wp2
    exact bodyPost_ret (v := .agg (encF f')) (results_cell_row Tryz.results68 _ _ (w.heap.size + 1) _ _ _ _ rfl u3.here Tryz.underlying27 rfl (by rw [encF_size hf']; exact info_frame)) rfl ⟨rfl, (hE.upd (by omega) u2).upd (by omega) u3⟩
  by_cases h1 : i = 61
  · subst h1
    have hw := Lib.hid (show f.set 61 (wordN (sumN f)) = f' by rw [hfe]; simp [replF, replW])
    clear hfe h0
    go_enter Tryz.func68, Tryz.ntmps68
    go_wp2_with fail
    refine (sumOf_any _ _ f _ hf (hF.ext ((Ext.refl _).alloc _))).mono ?_
    rintro e w1 ⟨rfl, hE1⟩
    go_wp2_with fail
    refine (word_any _ _ (sumTo_lt f 60)).mono ?_
    rintro e w1 ⟨rfl, hE2⟩
    have hE1 := hE1.trans hE2
    clear hE2
    have hB0 : w1.heap[w.heap.size]? = some (.cells (encF f) 27 (0, 0)) := hE1.heap (block_old _ (block_new w _))
    obtain ⟨Z, hB1, hZ⟩ : ∃ Z : Array Value, w1.heap[w.heap.size + 1]? = some (.cells Z 27 (0, 0)) ∧ Z.size = 64 := ⟨_, hE1.heap (heap_alloc2_new w _ _), rfl⟩
    have hE : Ext w w1 := ext_of_alloc _ (ext_of_alloc _ hE1)
    clear hE1
    go_wp2_with ((with_reducible refine stop_store 25 rfl ?_))
    apply Stop.go
    refine wpList_store1 rfl _ _ _ rfl w.heap.size _ rfl (.int .u16 (wordN (sumN f) : Nat)) rfl _ _ hB0 info_u16 (by rw [encF_size hf]; omega) rfl fun w2 u2 => ?_
    dsimp only [Act.put]
    go_wp2_with ((with_reducible refine stop_load 27 rfl ?_))
    apply Stop.go
    refine wpList_load_blk rfl _ _ rfl w.heap.size 0 rfl 64 _ _ _ _ u2.here Tryz.underlying27 rfl info_frame (by rw [Array.size_setIfInBounds, encF_size hf]; omega) (encF f') (by rw [encF_set, hw.out]; exact hx.out) ?_
    simp only [Act.put, List.setIfInBounds_toArray, List.set_cons_zero, List.set_cons_succ]
    go_wp2_with ((with_reducible refine stop_store 27 rfl ?_))
    apply Stop.go
    refine wpList_store_whole rfl _ _ _ rfl (w.heap.size + 1) rfl (encF f') rfl _ _ (u2.keep hB1 (by omega)) (by rw [encF_size hf']; exact info_frame) (by rw [encF_size hf', hZ]) (encF_one _) fun w3 u3 => ?_
    dsimp only [Act.put]
    go_wp2
    exact bodyPost_ret (v := .agg (encF f')) (results_cell_row Tryz.results68 _ _ (w.heap.size + 1) _ _ _ _ rfl u3.here Tryz.underlying27 rfl (by rw [encF_size hf']; exact info_frame)) rfl ⟨rfl, (hE.upd (by omega) u2).upd (by omega) u3⟩
  by_cases h2 : i = 62
  · subst h2
    have hw := Lib.hid (show f.set 62 (wordN (crcN f / 2048)) = f' by rw [hfe]; simp [replF, replW])
    have hc := crcTo_lt f 62
    have hcn := Lib.hid (show crcN f = crcTo f 62 from rfl)
    clear hfe h0 h1
    go_enter Tryz.func68, Tryz.ntmps68
    go_wp2_with fail
    refine (checkOf_any _ _ f _ hf (hF.ext ((Ext.refl _).alloc _))).mono ?_
    rintro e w1 ⟨rfl, hE1⟩
    go_wp2_with fail
    rw [show ((crcN f : Nat) : Int) / 2048 = ((crcN f / 2048 : Nat) : Int) from rfl]
    refine (word_any _ _ (by rw [hcn.out]; omega)).mono ?_
    rintro e w1 ⟨rfl, hE2⟩
    have hE1 := hE1.trans hE2
    clear hE2
    have hB0 : w1.heap[w.heap.size]? = some (.cells (encF f) 27 (0, 0)) := hE1.heap (block_old _ (block_new w _))
    obtain ⟨Z, hB1, hZ⟩ : ∃ Z : Array Value, w1.heap[w.heap.size + 1]? = some (.cells Z 27 (0, 0)) ∧ Z.size = 64 := ⟨_, hE1.heap (heap_alloc2_new w _ _), rfl⟩
    have hE : Ext w w1 := ext_of_alloc _ (ext_of_alloc _ hE1)
    clear hE1
    go_wp2_with ((with_reducible refine stop_store 25 rfl ?_))
    apply Stop.go
    refine wpList_store1 rfl _ _ _ rfl w.heap.size _ rfl (.int .u16 (wordN (crcN f / 2048) : Nat)) rfl _ _ hB0 info_u16 (by rw [encF_size hf]; omega) rfl fun w2 u2 => ?_
    dsimp only [Act.put]
    go_wp2_with ((with_reducible refine stop_load 27 rfl ?_))
    apply Stop.go
    refine wpList_load_blk rfl _ _ rfl w.heap.size 0 rfl 64 _ _ _ _ u2.here Tryz.underlying27 rfl info_frame (by rw [Array.size_setIfInBounds, encF_size hf]; omega) (encF f') (by rw [encF_set, hw.out]; exact hx.out) ?_
    simp only [Act.put, List.setIfInBounds_toArray, List.set_cons_zero, List.set_cons_succ]
    go_wp2_with ((with_reducible refine stop_store 27 rfl ?_))
    apply Stop.go
    refine wpList_store_whole rfl _ _ _ rfl (w.heap.size + 1) rfl (encF f') rfl _ _ (u2.keep hB1 (by omega)) (by rw [encF_size hf']; exact info_frame) (by rw [encF_size hf', hZ]) (encF_one _) fun w3 u3 => ?_
    dsimp only [Act.put]
    go_wp2
    exact bodyPost_ret (v := .agg (encF f')) (results_cell_row Tryz.results68 _ _ (w.heap.size + 1) _ _ _ _ rfl u3.here Tryz.underlying27 rfl (by rw [encF_size hf']; exact info_frame)) rfl ⟨rfl, (hE.upd (by omega) u2).upd (by omega) u3⟩
  by_cases h3 : i = 63
  · subst h3
    have hw := Lib.hid (show f.set 63 (wordN (crcN f % 2048)) = f' by rw [hfe]; simp [replF, replW])
    have hc := crcTo_lt f 62
    have hcn := Lib.hid (show crcN f = crcTo f 62 from rfl)
    have ha := Lib.hid (show bits BinOp.and IntKind.i64 ((crcN f : Nat) : Int) 2047 = ((crcN f % 2048 : Nat) : Int) by rw [← nat_mask11]; exact i64_and_nat (crcN f) 2047 (by rw [hcn.out]; omega) (by decide))
    clear hfe h0 h1 h2
    go_enter Tryz.func68, Tryz.ntmps68
    go_wp2_with fail
    refine (checkOf_any _ _ f _ hf (hF.ext ((Ext.refl _).alloc _))).mono ?_
    rintro e w1 ⟨rfl, hE1⟩
    go_wp2_with fail
    rw [ha.out]
    refine (word_any _ _ (by omega)).mono ?_
    rintro e w1 ⟨rfl, hE2⟩
    have hE1 := hE1.trans hE2
    clear hE2
    have hB0 : w1.heap[w.heap.size]? = some (.cells (encF f) 27 (0, 0)) := hE1.heap (block_old _ (block_new w _))
    obtain ⟨Z, hB1, hZ⟩ : ∃ Z : Array Value, w1.heap[w.heap.size + 1]? = some (.cells Z 27 (0, 0)) ∧ Z.size = 64 := ⟨_, hE1.heap (heap_alloc2_new w _ _), rfl⟩
    have hE : Ext w w1 := ext_of_alloc _ (ext_of_alloc _ hE1)
    clear hE1
    go_wp2_with ((with_reducible refine stop_store 25 rfl ?_))
    apply Stop.go
    refine wpList_store1 rfl _ _ _ rfl w.heap.size _ rfl (.int .u16 (wordN (crcN f % 2048) : Nat)) rfl _ _ hB0 info_u16 (by rw [encF_size hf]; omega) rfl fun w2 u2 => ?_
    dsimp only [Act.put]
    go_wp2_with ((with_reducible refine stop_load 27 rfl ?_))
    apply Stop.go
    refine wpList_load_blk rfl _ _ rfl w.heap.size 0 rfl 64 _ _ _ _ u2.here Tryz.underlying27 rfl info_frame (by rw [Array.size_setIfInBounds, encF_size hf]; omega) (encF f') (by rw [encF_set, hw.out]; exact hx.out) ?_
    simp only [Act.put, List.setIfInBounds_toArray, List.set_cons_zero, List.set_cons_succ]
    go_wp2_with ((with_reducible refine stop_store 27 rfl ?_))
    apply Stop.go
    refine wpList_store_whole rfl _ _ _ rfl (w.heap.size + 1) rfl (encF f') rfl _ _ (u2.keep hB1 (by omega)) (by rw [encF_size hf']; exact info_frame) (by rw [encF_size hf', hZ]) (encF_one _) fun w3 u3 => ?_
    dsimp only [Act.put]
    go_wp2
    exact bodyPost_ret (v := .agg (encF f')) (results_cell_row Tryz.results68 _ _ (w.heap.size + 1) _ _ _ _ rfl u3.here Tryz.underlying27 rfl (by rw [encF_size hf']; exact info_frame)) rfl ⟨rfl, (hE.upd (by omega) u2).upd (by omega) u3⟩
  have hw := Lib.hid (show f.set i (wordN (sumN f ^^^ (wd f i % 2048) ^^^ (wd f 61 % 2048))) = f' by rw [hfe]; simp [replF, replW, h0, h1, h2, h3])
  have t0 : ((i : Int) == 0) = false := by simp; omega
  have t1 : ((i : Int) == 61) = false := by simp; omega
  have t2 : ((i : Int) == 62) = false := by simp; omega
  have t3 : ((i : Int) == 63) = false := by simp; omega
  have s0 := sumTo_lt f 60
  have x1 : sumN f ^^^ (wd f i % 2048) < 2048 := Nat.xor_lt_two_pow (n := 11) s0 (by omega)
  have x2 : sumN f ^^^ (wd f i % 2048) ^^^ (wd f 61 % 2048) < 2048 := Nat.xor_lt_two_pow (n := 11) x1 (by omega)
  have X1 := Lib.hid (i64_xor_nat (sumN f) (wd f i % 2048) (by have : sumN f = sumTo f 60 := rfl; omega) (by omega))
  have X2 := Lib.hid (i64_xor_nat (sumN f ^^^ (wd f i % 2048)) (wd f 61 % 2048) (by omega) (by omega))
  have bi := hf.2 i
  have b61 := hf.2 61
  have hv : bits BinOp.xor IntKind.i64 (bits BinOp.xor IntKind.i64 ((sumN f : Nat) : Int) (((wd f i : Nat) : Int) % 2048)) (((wd f 61 : Nat) : Int) % 2048) = ((sumN f ^^^ (wd f i % 2048) ^^^ (wd f 61 % 2048) : Nat) : Int) := by
    rw [show ((wd f i : Nat) : Int) % 2048 = ((wd f i % 2048 : Nat) : Int) from rfl, show ((wd f 61 : Nat) : Int) % 2048 = ((wd f 61 % 2048 : Nat) : Int) from rfl, X1.out, X2.out]
  have cw := Lib.hid (fun (u : World) => word_any _ u x2)
  rw [← hv] at cw
  clear hfe h0 h1 h2 h3 hv
  go_enter Tryz.func68, Tryz.ntmps68
  go_wp2
  refine wp_world fun w1 e1 => ?_
  have hE1 := Ext.of_eq e1
  clear e1
  have hB0 : w1.heap[w.heap.size]? = some (.cells (encF f) 27 (0, 0)) := hE1.heap (block_old _ (block_new w _))
  obtain ⟨Z, hB1, hZ⟩ : ∃ Z : Array Value, w1.heap[w.heap.size + 1]? = some (.cells Z 27 (0, 0)) ∧ Z.size = 64 := ⟨_, hE1.heap (heap_alloc2_new w _ _), rfl⟩
  have hE : Ext w w1 := ext_of_alloc _ (ext_of_alloc _ hE1)
  clear hE1
  have hF1 := FAt.of_block hf hB0
  have ci : ∀ x : ExtW w1, x.val.cell? ⟨w.heap.size, i, none⟩ = some (.int .u16 (wd f i : Nat)) := fun x => by have := hF1.all i hi x; rwa [Nat.zero_add] at this
  have c61 : ∀ x : ExtW w1, x.val.cell? ⟨w.heap.size, 61, none⟩ = some (.int .u16 (wd f 61 : Nat)) := hF1.all 61 (by omega)
  have cs := fun (x : ExtW w1) => sumOf_any w.heap.size 0 f x.val hf (hF1.ext x.ext)
  refine wp_region_tail 13 _ rfl rfl rfl (by kernel_rfl) (by kernel_rfl) (by kernel_rfl) ?_
  simp only [List.modify_succ_cons, List.modify_zero_cons, idle]
  repeat (go_big_quiet_step ((first | (go_at_call 85; refine calls_ext (cs _)) | (go_at_call 87; refine calls_ext (data_any _ _ (by assumption))) | (go_at_call 84; refine calls_ext (cw.out _)))))
  refine wpQuiet_nil ?_
  rintro _ ⟨x, rfl⟩
  have hB0 := x.ext.heap hB0
  have hB1 := x.ext.heap hB1
  have hE := hE.trans x.ext
  refine wpList_store1 rfl _ _ _ rfl w.heap.size _ rfl (.int .u16 (wordN (sumN f ^^^ (wd f i % 2048) ^^^ (wd f 61 % 2048)) : Nat)) rfl _ _ hB0 info_u16 (by rw [encF_size hf]; omega) rfl fun w2 u2 => ?_
  dsimp only [Act.put]
  go_wp2_with ((with_reducible refine stop_load 27 rfl ?_))
  apply Stop.go
  refine wpList_load_blk rfl _ _ rfl w.heap.size 0 rfl 64 _ _ _ _ u2.here Tryz.underlying27 rfl info_frame (by rw [Array.size_setIfInBounds, encF_size hf]; omega) (encF f') (by rw [encF_set, hw.out]; exact hx.out) ?_
  simp only [Act.put, List.setIfInBounds_toArray, List.set_cons_zero, List.set_cons_succ]
  go_wp2_with ((with_reducible refine stop_store 27 rfl ?_))
  apply Stop.go
  refine wpList_store_whole rfl _ _ _ rfl (w.heap.size + 1) rfl (encF f') rfl _ _ (u2.keep hB1 (by omega)) (by rw [encF_size hf']; exact info_frame) (by rw [encF_size hf', hZ]) (encF_one _) fun w3 u3 => ?_
  dsimp only [Act.put]
  go_wp2
  exact bodyPost_ret (v := .agg (encF f')) (results_cell_row Tryz.results68 _ _ (w.heap.size + 1) _ _ _ _ rfl u3.here Tryz.underlying27 rfl (by rw [encF_size hf']; exact info_frame)) rfl ⟨rfl, (hE.upd (by omega) u2).upd (by omega) u3⟩
def zeroF : List Nat := List.replicate 64 0
theorem zeroF_ok : FrameOk zeroF := ⟨rfl, fun k => by
  unfold wd zeroF
  rw [List.getD_eq_getElem?_getD, List.getElem?_replicate]
  split <;> simp⟩
/-- What Replaced returns. -/
def replR (f : List Nat) (i : Nat) : List Nat × Bool :=
  if wideB (f.set i 0) then (zeroF, false) else if soundB (replF (f.set i 0) i) then (replF (f.set i 0) i, true) else (zeroF, false)
set_option maxHeartbeats 1000000 in
theorem replacedx_any (f : List Nat) (i : Nat) (w : World) (hf : FrameOk f) (hi : i < 64) (hS : SyncAt w) :
    Calls Tryz.prog 45 #[.agg (encF f), .int .i64 i] w fun e w' => e = .returned (.tuple #[.agg (encF (replR f i).1), .bool (replR f i).2]) ∧ Ext w w' := by
  have hf0 := hf.set i 0 hi (by omega)
  have t0 : decide ((i : Int) < 0) = false := by simp
  have t1 : decide ((64 : Int) ≤ (i : Int)) = false := by simp; omega
  go_enter Tryz.func45, Tryz.ntmps45
  go_wp2_with ((with_reducible refine stop_store 25 rfl ?_))
  apply Stop.go
  refine wpList_world fun w1 e1 => ?_
  have hE1 := Ext.of_eq e1
  clear e1
  have hB0 : w1.heap[w.heap.size]? = some (.cells (encF f) 27 (0, 0)) := hE1.heap (block_old _ (block_new w _))
  obtain ⟨Z, hB1, hZ⟩ : ∃ Z : Array Value, w1.heap[w.heap.size + 1]? = some (.cells Z 27 (0, 0)) ∧ Z.size = 64 := ⟨_, hE1.heap (heap_alloc2_new w _ _), rfl⟩
  have hE : Ext w w1 := ext_of_alloc _ (ext_of_alloc _ hE1)
  clear hE1
  refine wpList_store1 rfl _ _ _ rfl w.heap.size _ rfl (.int .u16 (0 : Nat)) rfl _ _ hB0 info_u16 (by rw [encF_size hf]; omega) rfl fun w2 u2 => ?_
  dsimp only [Act.put]
  have hB0 := u2.here
  rw [encF_set] at hB0
  have hB1 := u2.keep hB1 (by omega)
  have hE := hE.upd (by omega) u2
  have cw := wide_any w.heap.size 0 (f.set i 0) w2 (FAt.of_block hf0 hB0)
  by_cases h1 : wideB (f.set i 0) = true
  · have HR := Lib.hid (show replR f i = (zeroF, false) by simp [replR, h1])
    rw [h1] at cw
    clear h1
    go_wp2_with fail
    refine cw.mono ?_
    rintro e w3 ⟨rfl, hE3⟩
    have hB1 := hE3.heap hB1
    have hE := hE.trans hE3
    clear cw
    go_wp2_with ((with_reducible refine stop_store 27 rfl ?_))
    apply Stop.go
    refine wpList_store_whole rfl _ _ _ rfl (w.heap.size + 1) rfl (encF zeroF) rfl _ _ hB1 (by rw [encF_size zeroF_ok]; exact info_frame) (by rw [encF_size zeroF_ok, hZ]) (encF_one _) fun w9 u9 => ?_
    dsimp only [Act.put]
    go_wp2
    exact bodyPost_ret (v := .tuple #[.agg (encF zeroF), .bool false]) (results_cell_tmp Tryz.results45 _ _ (w.heap.size + 1) _ _ _ _ rfl _ rfl u9.here Tryz.underlying27 rfl (by rw [encF_size zeroF_ok]; exact info_frame)) rfl ⟨by rw [HR.out], hE.upd (by omega) u9⟩
  have h1' : wideB (f.set i 0) = false := by simpa using h1
  rw [h1'] at cw
  go_wp2_with fail
  refine cw.mono ?_
  rintro e w3 ⟨rfl, hE3⟩
  have hB0 := hE3.heap hB0
  have hB1 := hE3.heap hB1
  have hE := hE.trans hE3
  clear cw
  obtain ⟨f0, hfe⟩ : ∃ f0, f0 = f.set i 0 := ⟨_, rfl⟩
  rw [← hfe] at hf0 hB0 h1'
  have hx := Lib.hid (show (encF f0).extract 0 (0 + 64) = encF f0 by rw [Nat.zero_add, ← encF_size hf0, Array.extract_size])
  have HF := Lib.hid hfe
  clear hfe h1
  go_wp2_with ((with_reducible refine stop_load 27 rfl ?_))
  apply Stop.go
  refine wpList_load_blk rfl _ _ rfl w.heap.size 0 rfl 64 _ _ _ _ hB0 Tryz.underlying27 rfl info_frame (by rw [encF_size hf0]; omega) (encF f0) hx.out ?_
  simp only [Act.put, List.setIfInBounds_toArray, List.set_cons_zero, List.set_cons_succ]
  go_wp2_with fail
  refine (replaced_any f0 i _ hf0 hi (hS.ext hE)).mono ?_
  rintro e w4 ⟨rfl, hE4⟩
  have hg := replF_ok hf0 hi
  obtain ⟨g, hge⟩ : ∃ g, g = replF f0 i := ⟨_, rfl⟩
  rw [← hge] at hg ⊢
  have HG := Lib.hid hge
  have hB1 := hE4.heap hB1
  have hE := hE.trans hE4
  clear hge
  go_wp2_with ((with_reducible refine stop_store 27 rfl ?_))
  apply Stop.go
  refine wpList_world fun w5 e5 => ?_
  have hE5 := Ext.of_eq e5
  clear e5
  obtain ⟨Y, hB2, hY⟩ : ∃ Y : Array Value, w5.heap[w4.heap.size]? = some (.cells Y 27 (0, 0)) ∧ Y.size = 64 := ⟨_, hE5.heap (block_new w4 _), rfl⟩
  have hE5 := ext_of_alloc _ hE5
  have hB1 := hE5.heap hB1
  have hE := hE.trans hE5
  have hsz := lt_of_block hB1
  have hlt : w.heap.size + 1 < w4.heap.size := lt_of_block ‹_›
  refine wpList_store_whole rfl _ _ _ rfl w4.heap.size rfl (encF g) rfl _ _ hB2 (by rw [encF_size hg]; exact info_frame) (by rw [encF_size hg, hY]) (encF_one _) fun w6 u6 => ?_
  dsimp only [Act.put]
  have hB1 := u6.keep hB1 (by omega)
  have hE := hE.upd (by omega) u6
  have hB2 := u6.here
  clear u6 hE5
  have cs := sound_any w4.heap.size 0 g w6 hg (FAt.of_block hg hB2) (hS.ext hE)
  by_cases h2 : soundB g = true
  · have HR := Lib.hid (show replR f i = (g, true) by
      have e1 := HF.out
      have e2 := HG.out
      subst e1
      subst e2
      unfold replR
      rw [if_neg (by rw [h1']; simp), if_pos h2])
    rw [h2] at cs
    clear h2 h1'
    go_wp2_with fail
    refine cs.mono ?_
    rintro e w7 ⟨rfl, hE7⟩
    have hB1 := hE7.heap hB1
    have hB2 := hE7.heap hB2
    have hE := hE.trans hE7
    clear cs
    have hxg := Lib.hid (show (encF g).extract 0 (0 + 64) = encF g by rw [Nat.zero_add, ← encF_size hg, Array.extract_size])
    go_wp2_with ((with_reducible refine stop_load 27 rfl ?_))
    apply Stop.go
    refine wpList_load_blk rfl _ _ rfl w4.heap.size 0 rfl 64 _ _ _ _ hB2 Tryz.underlying27 rfl info_frame (by rw [encF_size hg]; omega) (encF g) hxg.out ?_
    simp only [Act.put, List.setIfInBounds_toArray, List.set_cons_zero, List.set_cons_succ]
    go_wp2_with ((with_reducible refine stop_store 27 rfl ?_))
    apply Stop.go
    refine wpList_store_whole rfl _ _ _ rfl (w.heap.size + 1) rfl (encF g) rfl _ _ hB1 (by rw [encF_size hg]; exact info_frame) (by rw [encF_size hg, hZ]) (encF_one _) fun w9 u9 => ?_
    dsimp only [Act.put]
    go_wp2
    exact bodyPost_ret (v := .tuple #[.agg (encF g), .bool true]) (results_cell_tmp Tryz.results45 _ _ (w.heap.size + 1) _ _ _ _ rfl _ rfl u9.here Tryz.underlying27 rfl (by rw [encF_size hg]; exact info_frame)) rfl ⟨by rw [HR.out], hE.upd (by omega) u9⟩
  · have h2' : soundB g = false := by simpa using h2
    have HR := Lib.hid (show replR f i = (zeroF, false) by
      have e1 := HF.out
      have e2 := HG.out
      subst e1
      subst e2
      unfold replR
      rw [if_neg (by rw [h1']; simp), if_neg h2])
    rw [h2'] at cs
    clear h2 h2' h1'
    go_wp2_with fail
    refine cs.mono ?_
    rintro e w7 ⟨rfl, hE7⟩
    have hB1 := hE7.heap hB1
    have hE := hE.trans hE7
    clear cs
    go_wp2_with ((with_reducible refine stop_store 27 rfl ?_))
    apply Stop.go
    refine wpList_store_whole rfl _ _ _ rfl (w.heap.size + 1) rfl (encF zeroF) rfl _ _ hB1 (by rw [encF_size zeroF_ok]; exact info_frame) (by rw [encF_size zeroF_ok, hZ]) (encF_one _) fun w9 u9 => ?_
    dsimp only [Act.put]
    go_wp2
    exact bodyPost_ret (v := .tuple #[.agg (encF zeroF), .bool false]) (results_cell_tmp Tryz.results45 _ _ (w.heap.size + 1) _ _ _ _ rfl _ rfl u9.here Tryz.underlying27 rfl (by rw [encF_size zeroF_ok]; exact info_frame)) rfl ⟨by rw [HR.out], hE.upd (by omega) u9⟩
end Go.Proofs.YtplddeboinhkbaaGreatDoorRR

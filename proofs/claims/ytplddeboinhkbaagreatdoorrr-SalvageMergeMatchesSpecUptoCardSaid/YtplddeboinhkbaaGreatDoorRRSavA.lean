/- The reference's New and ToBytes: what they return. -/

import Derived.Test.YtplddeboinhkbaaGreatDoorRRProg
import Derived.Test.YtplddeboinhkbaaGreatDoorRRRefD
import Derived.Test.YtplddeboinhkbaaGreatDoorRRRefI
namespace Go.Proofs.YtplddeboinhkbaaGreatDoorRR
open Go.RowKit
def chkF (f : List Nat) : List Nat := (f.set 62 (wordN (crcN f / 2048))).set 63 (wordN (crcN f % 2048))
theorem crcN_lt (f : List Nat) : crcN f < 4194304 := crcTo_lt f 62
theorem sumN_lt (f : List Nat) : sumN f < 2048 := sumTo_lt f 60
theorem chkF_ok {f : List Nat} (hf : FrameOk f) : FrameOk (chkF f) := by
  have := crcN_lt f
  exact (hf.set 62 _ (by omega) (wordN_lt' _ (by omega))).set 63 _ (by omega) (wordN_lt' _ (by omega))
set_option maxHeartbeats 1000000 in
theorem rchecked_any (f : List Nat) (w : World) (hf : FrameOk f) :
    Calls Tryz.prog 58 #[.agg (encF f)] w fun e w' => e = .returned (.agg (encF (chkF f))) ∧ Ext w w' := by
  have hc := crcN_lt f
  have hw1 := wordN_lt (crcN f / 2048) (by omega)
  have hw2 := wordN_lt (crcN f % 2048) (by omega)
  have hco := chkF_ok hf
  have h1o : FrameOk (f.set 62 (wordN (crcN f / 2048))) := hf.set 62 _ (by omega) (by omega)
  have HQ := Lib.hid (show chkF f = (f.set 62 (wordN (crcN f / 2048))).set 63 (wordN (crcN f % 2048)) from rfl)
  go_enter Tryz.func58, Tryz.ntmps58
  go_wp2_with ((with_reducible refine stop_load 27 rfl ?_))
  apply Stop.go
  refine wpList_world fun w1 e1 => ?_
  have hE1 := Ext.of_eq e1
  clear e1
  have hB : w1.heap[w.heap.size]? = some (.cells (encF f) 27 (0, 0)) := hE1.heap (block_old _ (block_new w _))
  obtain ⟨Z, hZ, hZs⟩ : ∃ Z : Array Value, w1.heap[w.heap.size + 1]? = some (.cells Z 27 (0, 0)) ∧ Z.size = 64 := ⟨_, hE1.heap (heap_alloc2_new w _ _), rfl⟩
  have hE : Ext w w1 := ext_of_alloc _ (ext_of_alloc _ hE1)
  clear hE1
  refine wpList_load_blk rfl _ _ rfl w.heap.size 0 rfl 64 _ _ _ _ hB Tryz.underlying27 rfl info_frame (by rw [encF_size hf]; omega) (encF f) (by rw [Nat.zero_add, ← encF_size hf, Array.extract_size]) ?_
  simp only [Act.put, List.setIfInBounds_toArray, List.set_cons_zero, List.set_cons_succ]
  go_wp2_with fail
  refine (rcheck_any f _ hf).mono ?_
  rintro e w2 ⟨rfl, hE2⟩
  have hB := hE2.heap hB
  have hZ := hE2.heap hZ
  have hE := hE.trans hE2
  clear hE2
  go_wp2_with fail
  rw [show ((crcN f : Nat) : Int) / 2048 = ((crcN f / 2048 : Nat) : Int) from rfl]
  refine (rword_any _ _ (by omega)).mono ?_
  rintro e w2 ⟨rfl, hE2⟩
  have hB := hE2.heap hB
  have hZ := hE2.heap hZ
  have hE := hE.trans hE2
  clear hE2
  go_wp2_with fail
  rw [show ((crcN f : Nat) : Int) % 2048 = ((crcN f % 2048 : Nat) : Int) from rfl]
  refine (rword_any _ _ (by omega)).mono ?_
  rintro e w3 ⟨rfl, hE3⟩
  have hB := hE3.heap hB
  have hZ := hE3.heap hZ
  have hE := hE.trans hE3
  clear hE3
  generalize wordN (crcN f / 2048) = a1 at hw1 h1o HQ ⊢
  generalize wordN (crcN f % 2048) = a2 at hw2 HQ ⊢
  go_wp2_with ((with_reducible refine stop_store 25 rfl ?_))
  apply Stop.go
  refine wpList_store1 rfl _ _ _ rfl w.heap.size _ rfl (.int .u16 (a1 : Nat)) rfl _ _ hB info_u16 (by rw [encF_size hf]; omega) rfl fun w3 u3 => ?_
  dsimp only [Act.put]
  have hZ := u3.keep hZ (by omega)
  have hE := hE.upd (by omega) u3
  have hB3 := u3.here
  rw [encF_set] at hB3
  have hB : w3.heap[w.heap.size]? = some (.cells (encF (f.set 62 a1)) 27 (0, 0)) := hB3
  clear u3 hB3
  go_wp2_with ((with_reducible refine stop_store 25 rfl ?_))
  apply Stop.go
  refine wpList_store1 rfl _ _ _ rfl w.heap.size _ rfl (.int .u16 (a2 : Nat)) rfl _ _ hB info_u16 (by rw [encF_size h1o]; omega) rfl fun w3 u3 => ?_
  dsimp only [Act.put]
  have hZ := u3.keep hZ (by omega)
  have hE := hE.upd (by omega) u3
  have hB3 := u3.here
  rw [encF_set] at hB3
  have hB : w3.heap[w.heap.size]? = some (.cells (encF ((f.set 62 a1).set 63 a2)) 27 (0, 0)) := hB3
  clear u3 hB3
  rw [← HQ.out] at hB
  obtain ⟨q, hq⟩ : ∃ q, q = chkF f := ⟨_, rfl⟩
  rw [← hq] at hB hco
  have HR := Lib.hid hq
  clear hq
  go_wp2_with ((with_reducible refine stop_load 27 rfl ?_))
  apply Stop.go
  refine wpList_load_blk rfl _ _ rfl w.heap.size 0 rfl 64 _ _ _ _ hB Tryz.underlying27 rfl info_frame (by rw [encF_size hco]; omega) (encF q) (by rw [Nat.zero_add, ← encF_size hco, Array.extract_size]) ?_
  simp only [Act.put, List.setIfInBounds_toArray, List.set_cons_zero, List.set_cons_succ]
  go_wp2_with ((with_reducible refine stop_store 27 rfl ?_))
  apply Stop.go
  refine wpList_store_whole rfl _ _ _ rfl (w.heap.size + 1) rfl (encF q) rfl _ _ hZ (by rw [encF_size hco]; exact info_frame) (by rw [encF_size hco, hZs]) (encF_one _) fun w9 u9 => ?_
  dsimp only [Act.put]
  go_wp2
  exact bodyPost_ret (v := .agg (encF q)) (results_cell_row Tryz.results58 _ _ (w.heap.size + 1) _ _ _ _ rfl u9.here Tryz.underlying27 rfl (by rw [encF_size hco]; exact info_frame)) rfl ⟨by rw [HR.out], (hE.upd (by omega) u9)⟩
/-- The first k behind the sync word anew. -/
def sealTo (f : List Nat) : Nat → List Nat
  | 0 => f
  | k + 1 => (sealTo f k).set (k + 1) (wordN (wd (sealTo f k) (k + 1) % 2048))
def seal2 (f : List Nat) : List Nat := (sealTo f 60).set 0 (syncN (numN (sealTo f 60)))
def seal3 (f : List Nat) : List Nat := (seal2 f).set 61 (wordN (sumN (seal2 f)))
def sealF (f : List Nat) : List Nat := chkF (seal3 f)
theorem sealTo_ok {f : List Nat} (hf : FrameOk f) : ∀ k, k ≤ 60 → FrameOk (sealTo f k)
  | 0, _ => hf
  | k + 1, hk => (sealTo_ok hf k (by omega)).set (k + 1) _ (by omega) (wordN_lt' _ (by omega))
theorem syncN_lt' (n : Nat) : syncN n < 65536 := by have := syncN_lt n; omega
theorem seal2_ok {f : List Nat} (hf : FrameOk f) : FrameOk (seal2 f) := (sealTo_ok hf 60 (by omega)).set 0 _ (by omega) (syncN_lt' _)
theorem seal3_ok {f : List Nat} (hf : FrameOk f) : FrameOk (seal3 f) := (seal2_ok hf).set 61 _ (by omega) (wordN_lt' _ (sumN_lt _))
theorem sealF_ok {f : List Nat} (hf : FrameOk f) : FrameOk (sealF f) := chkF_ok (seal3_ok hf)
set_option maxHeartbeats 1000000 in
theorem rsealed_any (f : List Nat) (w : World) (hf : FrameOk f) :
    Calls Tryz.prog 32 #[.agg (encF f)] w fun e w' => e = .returned (.agg (encF (sealF f))) ∧ Ext w w' := by
  have HS := Lib.hid (sealTo_ok hf)
  go_enter Tryz.func32, Tryz.ntmps32
  go_wp2
  refine wp_world fun w1 e1 => ?_
  have hE1 := Ext.of_eq e1
  clear e1
  have hB : w1.heap[w.heap.size]? = some (.cells (encF f) 27 (0, 0)) := hE1.heap (block_old _ (block_new w _))
  obtain ⟨Z, hZ, hZs⟩ : ∃ Z : Array Value, w1.heap[w.heap.size + 1]? = some (.cells Z 27 (0, 0)) ∧ Z.size = 64 := ⟨_, hE1.heap (heap_alloc2_new w _ _), rfl⟩
  have hE : Ext w w1 := ext_of_alloc _ (ext_of_alloc _ hE1)
  clear hE1
  go_loopw [3] (fun i wr => ∃ k : Nat, k ≤ 60 ∧ i = .int .i64 ((k : Int) + 1) ∧ wr.heap[w.heap.size]? = some (.cells (encF (sealTo f k)) 27 (0, 0)) ∧ wr.heap[w.heap.size + 1]? = some (.cells Z 27 (0, 0)) ∧ Ext w wr) (fun i _ => 61 - (intOf i).toNat)
  case atStart => exact ⟨0, by omega, rfl, hB, hZ, hE⟩
  case round =>
    obtain ⟨k, hk, rfl, hBr, hZr, hEr⟩ := hrel
    clear hB hZ hE
    by_cases hlt : k < 60
    · have hfo := HS.out k (by omega)
      have HN := Lib.hid (show sealTo f (k + 1) = (sealTo f k).set (k + 1) (wordN (wd (sealTo f k) (k + 1) % 2048)) from rfl)
      generalize sealTo f k = p at hfo hBr HN
      have hc : wr.cell? ⟨w.heap.size, k + 1, none⟩ = some (.int .u16 (wd p (k + 1) : Nat)) := by have := FAt.of_block hfo hBr (k + 1) (by omega); rwa [Nat.zero_add] at this
      have hb := hfo.2 (k + 1)
      go_wp2_with fail
      rw [show ((wd p (k + 1) : Nat) : Int) % 2048 = ((wd p (k + 1) % 2048 : Nat) : Int) from rfl]
      refine (rword_any _ _ (by omega)).mono ?_
      rintro e w2 ⟨rfl, hE2⟩
      have hB2 := hE2.heap hBr
      have hZ2 := hE2.heap hZr
      have hE2 := hEr.trans hE2
      have hwl := wordN_lt (wd p (k + 1) % 2048) (by omega)
      clear hBr hZr hEr hc
      generalize wordN (wd p (k + 1) % 2048) = a at hwl HN ⊢
      go_wp2_with ((with_reducible refine stop_store 25 rfl ?_))
      apply Stop.go
      refine wpList_store1 rfl _ _ _ rfl w.heap.size (k + 1) rfl (.int .u16 (a : Nat)) rfl _ _ hB2 info_u16 (by rw [encF_size hfo]; omega) rfl fun w3 u3 => ?_
      dsimp only [Act.put]
      have hB3 := u3.here
      rw [encF_set, ← HN.out] at hB3
      have hZ3 := u3.keep hZ2 (by omega)
      have hE3 := hE2.upd (by omega) u3
      clear u3 hB2 hZ2 hE2
      go_wp2
      go_roundw
      case rel => first | exact ⟨k + 1, by omega, by go_num, hB3, hZ3, hE3⟩ | ((repeat apply Exists.intro); exact ⟨⟨k + 1, by omega, by go_num, hB3, hZ3, hE3⟩, rfl⟩)
      case measure => simp [intOf]; omega
    · obtain rfl : k = 60 := by omega
      have hfo := HS.out 60 (by omega)
      have H2 := Lib.hid (show seal2 f = (sealTo f 60).set 0 (syncN (numN (sealTo f 60))) from rfl)
      have H3 := Lib.hid (show seal3 f = (seal2 f).set 61 (wordN (sumN (seal2 f))) from rfl)
      have HF := Lib.hid (show sealF f = chkF (seal3 f) from rfl)
      have h2o := seal2_ok hf
      have h3o := seal3_ok hf
      have hFo := sealF_ok hf
      generalize sealTo f 60 = p at hfo H2 hBr
      generalize seal2 f = p2 at H2 H3 h2o
      generalize seal3 f = p3 at H3 HF h3o
      obtain ⟨q, hq⟩ : ∃ q, q = sealF f := ⟨_, rfl⟩
      rw [← hq] at HF hFo
      have HR := Lib.hid hq
      clear hq
      have hB := hBr
      have hZ := hZr
      have hE := hEr
      clear hBr hZr hEr
      have hn := numN_lt p
      have hsl := syncN_lt (numN p)
      have hu := sumN_lt p2
      have hwl := wordN_lt (sumN p2) hu
      go_wp2_with ((with_reducible refine stop_load 27 rfl ?_))
      apply Stop.go
      refine wpList_load_blk rfl _ _ rfl w.heap.size 0 rfl 64 _ _ _ _ hB Tryz.underlying27 rfl info_frame (by rw [encF_size hfo]; omega) (encF p) (by rw [Nat.zero_add, ← encF_size hfo, Array.extract_size]) ?_
      simp only [Act.put, List.setIfInBounds_toArray, List.set_cons_zero, List.set_cons_succ]
      go_wp2_with fail
      refine (rnumberOf_any p _ hfo).mono ?_
      rintro e w2 ⟨rfl, hE2⟩
      have hB := hE2.heap hB
      have hZ := hE2.heap hZ
      have hE := hE.trans hE2
      clear hE2
      go_wp2_with fail
      refine (syncOf_any _ _ hn).mono ?_
      rintro e w2 ⟨rfl, hE2⟩
      have hB := hE2.heap hB
      have hZ := hE2.heap hZ
      have hE := hE.trans hE2
      clear hE2
      generalize syncN (numN p) = a1 at hsl H2 ⊢
      go_wp2_with ((with_reducible refine stop_store 25 rfl ?_))
      apply Stop.go
      refine wpList_store1 rfl _ _ _ rfl w.heap.size _ rfl (.int .u16 (a1 : Nat)) rfl _ _ hB info_u16 (by rw [encF_size hfo]; omega) rfl fun w3 u3 => ?_
      dsimp only [Act.put]
      have hZ := u3.keep hZ (by omega)
      have hE := hE.upd (by omega) u3
      have hB3 := u3.here
      rw [encF_set] at hB3
      have hB : w3.heap[w.heap.size]? = some (.cells (encF (p.set 0 a1)) 27 (0, 0)) := hB3
      clear u3 hB3
      rw [← H2.out] at hB
      go_wp2_with ((with_reducible refine stop_load 27 rfl ?_))
      apply Stop.go
      refine wpList_load_blk rfl _ _ rfl w.heap.size 0 rfl 64 _ _ _ _ hB Tryz.underlying27 rfl info_frame (by rw [encF_size h2o]; omega) (encF p2) (by rw [Nat.zero_add, ← encF_size h2o, Array.extract_size]) ?_
      simp only [Act.put, List.setIfInBounds_toArray, List.set_cons_zero, List.set_cons_succ]
      go_wp2_with fail
      refine (rsum_any p2 _ h2o).mono ?_
      rintro e w2 ⟨rfl, hE2⟩
      have hB := hE2.heap hB
      have hZ := hE2.heap hZ
      have hE := hE.trans hE2
      clear hE2
      go_wp2_with fail
      refine (rword_any _ _ hu).mono ?_
      rintro e w2 ⟨rfl, hE2⟩
      have hB := hE2.heap hB
      have hZ := hE2.heap hZ
      have hE := hE.trans hE2
      clear hE2
      generalize wordN (sumN p2) = a2 at hwl H3 ⊢
      go_wp2_with ((with_reducible refine stop_store 25 rfl ?_))
      apply Stop.go
      refine wpList_store1 rfl _ _ _ rfl w.heap.size _ rfl (.int .u16 (a2 : Nat)) rfl _ _ hB info_u16 (by rw [encF_size h2o]; omega) rfl fun w3 u3 => ?_
      dsimp only [Act.put]
      have hZ := u3.keep hZ (by omega)
      have hE := hE.upd (by omega) u3
      have hB3 := u3.here
      rw [encF_set] at hB3
      have hB : w3.heap[w.heap.size]? = some (.cells (encF (p2.set 61 a2)) 27 (0, 0)) := hB3
      clear u3 hB3
      rw [← H3.out] at hB
      go_wp2_with ((with_reducible refine stop_load 27 rfl ?_))
      apply Stop.go
      refine wpList_load_blk rfl _ _ rfl w.heap.size 0 rfl 64 _ _ _ _ hB Tryz.underlying27 rfl info_frame (by rw [encF_size h3o]; omega) (encF p3) (by rw [Nat.zero_add, ← encF_size h3o, Array.extract_size]) ?_
      simp only [Act.put, List.setIfInBounds_toArray, List.set_cons_zero, List.set_cons_succ]
      go_wp2_with fail
      refine (rchecked_any p3 _ h3o).mono ?_
      rintro e w2 ⟨rfl, hE2⟩
      have hB := hE2.heap hB
      have hZ := hE2.heap hZ
      have hE := hE.trans hE2
      clear hE2
      rw [← HF.out]
      go_wp2_with ((with_reducible refine stop_store 27 rfl ?_))
      apply Stop.go
      refine wpList_store_whole rfl _ _ _ rfl (w.heap.size + 1) rfl (encF q) rfl _ _ hZ (by rw [encF_size hFo]; exact info_frame) (by rw [encF_size hFo, hZs]) (encF_one _) fun w9 u9 => ?_
      dsimp only [Act.put]
      go_wp2
      exact bodyPost_ret (v := .agg (encF q)) (results_cell_row Tryz.results32 _ _ (w.heap.size + 1) _ _ _ _ rfl u9.here Tryz.underlying27 rfl (by rw [encF_size hFo]; exact info_frame)) rfl ⟨by rw [HR.out], (hE.upd (by omega) u9)⟩
end Go.Proofs.YtplddeboinhkbaaGreatDoorRR

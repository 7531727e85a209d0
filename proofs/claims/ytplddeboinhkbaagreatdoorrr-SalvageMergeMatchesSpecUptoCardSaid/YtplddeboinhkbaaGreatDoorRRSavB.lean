/- The reference's New at the number 9 and no data, and the bytes of a frame. -/

import Derived.Test.YtplddeboinhkbaaGreatDoorRRProg
import Derived.Test.YtplddeboinhkbaaGreatDoorRRSavA
import Derived.Laws.OwnMore
import Derived.Deep.OwnRows
import Derived.IntWalk
namespace Go.Proofs.YtplddeboinhkbaaGreatDoorRR
open Go.RowKit
def halfN (f : List Nat) (n : Nat) : Nat := wd f (n / 3) / 2 ^ (8 - n % 3 * 4) % 16
theorem i64_and15 (a : Nat) (h : a < 65536) : bits BinOp.and IntKind.i64 (a : Int) 15 = ((a % 16 : Nat) : Int) := by
  have h1 := i64_and_nat a 15 (by omega) (by decide)
  have h2 : a &&& 15 = a % 16 := Nat.and_two_pow_sub_one_eq_mod a 4
  rw [h2] at h1
  exact h1
set_option maxHeartbeats 1000000 in
theorem rHalf_any (f : List Nat) (n : Nat) (w : World) (hf : FrameOk f) (hn : n < 192) :
    Calls Tryz.prog 59 #[.agg (encF f), .int .i64 n] w fun e w' => e = .returned (.int .i64 (halfN f n : Nat)) ∧ Ext w w' := by
  have c1 := encF_at hf (n / 3) (by omega)
  have b1 := hf.2 (n / 3)
  have h3 : n % 3 = 0 ∨ n % 3 = 1 ∨ n % 3 = 2 := by omega
  rcases h3 with h | h | h
  · have hm : ((n : Nat) : Int) % 3 = ((n % 3 : Nat) : Int) := rfl
    rw [h] at hm
    have HV := Lib.hid (show halfN f n = wd f (n / 3) / 2 ^ (8 - n % 3 * 4) % 16 from rfl)
    have HH := Lib.hid h
    clear h
    go_enter Tryz.func59, Tryz.ntmps59
    go_wp2
    go_ret
    refine ⟨ret_int ?_, (Ext.refl w).alloc _⟩
    rw [HV.out, HH.out]
    have h15 := i64_and15 (wd f (n / 3) / 256) (by omega)
    rw [show ((wd f (n / 3) / 256 : Nat) : Int) = ((wd f (n / 3) : Nat) : Int) / 256 from rfl] at h15
    rw [h15]
  · have hm : ((n : Nat) : Int) % 3 = ((n % 3 : Nat) : Int) := rfl
    rw [h] at hm
    have HV := Lib.hid (show halfN f n = wd f (n / 3) / 2 ^ (8 - n % 3 * 4) % 16 from rfl)
    have HH := Lib.hid h
    clear h
    go_enter Tryz.func59, Tryz.ntmps59
    go_wp2
    go_ret
    refine ⟨ret_int ?_, (Ext.refl w).alloc _⟩
    rw [HV.out, HH.out]
    have h15 := i64_and15 (wd f (n / 3) / 16) (by omega)
    rw [show ((wd f (n / 3) / 16 : Nat) : Int) = ((wd f (n / 3) : Nat) : Int) / 16 from rfl] at h15
    rw [h15]
  · have hm : ((n : Nat) : Int) % 3 = ((n % 3 : Nat) : Int) := rfl
    rw [h] at hm
    have HV := Lib.hid (show halfN f n = wd f (n / 3) / 2 ^ (8 - n % 3 * 4) % 16 from rfl)
    have HH := Lib.hid h
    clear h
    go_enter Tryz.func59, Tryz.ntmps59
    go_wp2
    go_ret
    refine ⟨ret_int ?_, (Ext.refl w).alloc _⟩
    rw [HV.out, HH.out]
    have h15 := i64_and15 (wd f (n / 3) / 1) (by omega)
    rw [show ((wd f (n / 3) / 1 : Nat) : Int) = ((wd f (n / 3) : Nat) : Int) / 1 from rfl] at h15
    rw [Int.ediv_one] at h15
    rw [h15, Nat.div_one]
theorem halfN_lt (f : List Nat) (n : Nat) : halfN f n < 16 := Nat.mod_lt _ (by decide)
def encB (l : List Nat) : Array Value := (l.map fun n => Value.int .u8 (n : Nat)).toArray
theorem encB_size (l : List Nat) : (encB l).size = l.length := by simp [encB]
theorem encB_at {l : List Nat} (k : Nat) (hk : k < l.length) : (encB l)[k]? = some (.int .u8 (wd l k : Nat)) := by
  simp [encB, wd, List.getD_eq_getElem?_getD, List.getElem?_eq_getElem hk]
theorem encB_set (l : List Nat) (i v : Nat) : (encB l).setIfInBounds i (.int .u8 (v : Nat)) = encB (l.set i v) := by
  simp [encB, List.map_set]
def byteN (f : List Nat) (i : Nat) : Nat := 16 * halfN f (2 * i) + halfN f (2 * i + 1)
/-- The first k bytes, and nought behind them. -/
def bytTo (g : Nat → Nat) (n k : Nat) : List Nat := (List.range n).map fun i => if i < k then g i else 0
theorem bytTo_length (g : Nat → Nat) (n k : Nat) : (bytTo g n k).length = n := by simp [bytTo]
theorem bytTo_set (g : Nat → Nat) (n k : Nat) (_hk : k < n) : (bytTo g n k).set k (g k) = bytTo g n (k + 1) := by
  apply List.ext_getElem (by simp [bytTo])
  intro j h1 h2
  rw [List.getElem_set]
  split
  · rename_i e; subst e; simp [bytTo]
  · rename_i e
    simp only [bytTo, List.getElem_map, List.getElem_range]
    by_cases h3 : j < k
    · simp [h3, show j < k + 1 from by omega]
    · simp [h3, show ¬ j < k + 1 from by omega]
def bytesF (f : List Nat) : List Nat := bytTo (byteN f) 96 96
theorem info_u8 : (Tryz.prog.info? 5).map (fun i => (i.zero, i.size, i.bytes)) = some (some (.int .u8 0), 1, 1) := by kernel_rfl
theorem info_u8s : (Tryz.prog.info? 5).map (·.size) = some 1 := by kernel_rfl
theorem made_bytes (g : Nat → Nat) (n : Nat) : madeCells #[.int .u8 0] n = encB (bytTo g n 0) := by
  apply Array.ext'
  rw [toList_madeCells_one]
  unfold encB bytTo
  simp only [Nat.not_lt_zero, if_false, List.map_map]
  apply List.ext_getElem (by simp)
  intro i h1 h2
  simp
theorem byteN_lt (f : List Nat) (i : Nat) : byteN f i < 256 := by
  have h1 := halfN_lt f (2 * i)
  have h2 := halfN_lt f (2 * i + 1)
  unfold byteN
  omega
set_option maxRecDepth 100000 in
set_option maxHeartbeats 1000000 in
theorem rbytes_any (f : List Nat) (w : World) (hf : FrameOk f) :
    Calls Tryz.prog 34 #[.agg (encF f)] w fun e w' => e = .returned (.slice (some ⟨w.heap.size + 1, 0, none⟩) 96 96) ∧ w'.heap[w.heap.size + 1]? = some (.cells (encB (bytesF f)) 5 (0, 0)) ∧ Ext w w' := by
  obtain ⟨i0, hi, hz0, hz1, hz2⟩ := info_parts info_u8
  have HM := Lib.hid (made_bytes (byteN f) 96)
  go_enter Tryz.func34, Tryz.ntmps34
  go_wp2_with ((with_reducible refine stop_dst 5 rfl ?_))
  apply Stop.go
  refine wpList_make_row _ rfl _ _ 41 rfl 5 i0 (.int .u8 0) Tryz.underlying41 hi hz0 hz1 rfl .i64 .i64 96 rfl rfl (by rw [hz2]; decide) (by decide) ?_
  rw [HM.out]
  simp only [Act.put, List.setIfInBounds_toArray, List.set_cons_zero, List.set_cons_succ]
  refine wpList_world fun w1 e1 => ?_
  have hE1 := Ext.of_eq e1
  clear e1
  have hG : w1.heap[w.heap.size + 1]? = some (.cells (encB (bytTo (byteN f) 96 0)) 5 (0, 0)) := hE1.heap (heap_alloc2_new w _ _)
  have hB : w1.heap[w.heap.size]? = some (.cells (encF f) 27 (0, 0)) := hE1.heap (block_old _ (block_new w _))
  have hE := ext_of_alloc _ (ext_of_alloc _ hE1)
  have hsz : (w.alloc (.cells (encF f) 27)).heap.size = w.heap.size + 1 := by simp
  rw [hsz]
  clear hE1 hsz hi hz0 hz1 hz2 i0
  go_wp2
  go_loopw [8] (fun i wr => ∃ k : Nat, k ≤ 96 ∧ i = .int .i64 k ∧ wr.heap[w.heap.size + 1]? = some (.cells (encB (bytTo (byteN f) 96 k)) 5 (0, 0)) ∧ wr.heap[w.heap.size]? = some (.cells (encF f) 27 (0, 0)) ∧ Ext w wr) (fun i _ => 96 - (intOf i).toNat)
  case atStart => exact ⟨0, by omega, rfl, hG, hB, hE⟩
  case round =>
    obtain ⟨k, hk, rfl, hGr, hBr, hEr⟩ := hrel
    clear hG hB hE
    by_cases hlt : k < 96
    · have h1 := halfN_lt f (2 * k)
      have h2 := halfN_lt f (2 * k + 1)
      have cw1 := fun u => rHalf_any f (2 * k) u hf (by omega)
      have cw2 := fun u => rHalf_any f (2 * k + 1) u hf (by omega)
      rw [show ((2 * k : Nat) : Int) = 2 * (k : Int) by omega] at cw1
      rw [show ((2 * k + 1 : Nat) : Int) = 2 * (k : Int) + 1 by omega] at cw2
      have HV := Lib.hid (show byteN f k = 16 * halfN f (2 * k) + halfN f (2 * k + 1) from rfl)
      have HS := Lib.hid (bytTo_set (byteN f) 96 k hlt)
      have hlen := bytTo_length (byteN f) 96 k
      generalize halfN f (2 * k) = a1 at h1 cw1 HV
      generalize halfN f (2 * k + 1) = a2 at h2 cw2 HV
      generalize byteN f k = v at HV HS
      generalize bytTo (byteN f) 96 k = l at hlen HS hGr
      have HL := Lib.hid hlen
      have CW1 := Lib.hid cw1
      have CW2 := Lib.hid cw2
      have hlt' : ((k : Nat) : Int) < 96 := by omega
      have s1 : IntKind.i64.wrap (2 * (k : Int)) = 2 * (k : Int) := IntWalk.i64_in _ (by omega)
      have s2 : IntKind.i64.wrap (2 * (k : Int) + 1) = 2 * (k : Int) + 1 := IntWalk.i64_in _ (by omega)
      have s3 : IntKind.i64.wrap (16 * (a1 : Int)) = 16 * (a1 : Int) := IntWalk.i64_in _ (by omega)
      have s4 : IntKind.i64.wrap (16 * (a1 : Int) + (a2 : Int)) = 16 * (a1 : Int) + (a2 : Int) := IntWalk.i64_in _ (by omega)
      clear cw1 cw2 hlen
      go_wp2
      refine wp_region_tail 15 _ rfl rfl rfl (by kernel_rfl) (by kernel_rfl) (by kernel_rfl) ?_
      simp only [List.modify_succ_cons, List.modify_zero_cons, idle]
      repeat (go_big_quiet_step (fail))
      refine BigFrame.wpQuiet_want rfl fun K hK => ?_
      refine quiet_load_blk _ _ rfl w.heap.size 0 rfl 64 _ _ _ _ (by rintro _ ⟨x, rfl⟩; exact x.ext.heap hBr) Tryz.underlying27 rfl info_frame (by rw [encF_size hf]; omega) (encF f) (by rw [Nat.zero_add, ← encF_size hf, Array.extract_size]) (hK _ ?_)
      clear hK K
      simp only [Act.put, List.setIfInBounds_toArray, List.set_cons_zero, List.set_cons_succ]
      go_big_quiet_step (fail)
      go_big_quiet_step (fail)
      go_big_quiet_step ((go_at_call 59; refine calls_ext (CW1.out _)))
      go_big_quiet_step (fail)
      refine BigFrame.wpQuiet_want rfl fun K hK => ?_
      refine quiet_load_blk _ _ rfl w.heap.size 0 rfl 64 _ _ _ _ (by rintro _ ⟨x, rfl⟩; exact x.ext.heap hBr) Tryz.underlying27 rfl info_frame (by rw [encF_size hf]; omega) (encF f) (by rw [Nat.zero_add, ← encF_size hf, Array.extract_size]) (hK _ ?_)
      clear hK K
      simp only [Act.put, List.setIfInBounds_toArray, List.set_cons_zero, List.set_cons_succ]
      go_big_quiet_step (fail)
      go_big_quiet_step (fail)
      go_big_quiet_step (fail)
      go_big_quiet_step ((go_at_call 59; refine calls_ext (CW2.out _)))
      go_big_quiet_step (fail)
      go_big_quiet_step (fail)
      go_big_quiet_step (fail)
      go_big_quiet_step (fail)
      refine wpQuiet_nil ?_
      rintro _ ⟨x, rfl⟩
      have hG2 := x.ext.heap hGr
      have hB2 := x.ext.heap hBr
      have hE2 := hEr.trans x.ext
      clear hGr hBr hEr
      refine wpList_store1 rfl _ _ _ rfl (w.heap.size + 1) k rfl (.int .u8 (v : Nat)) (val_int (by rw [HV.out]; omega)) _ _ hG2 info_u8s (by rw [encB_size, HL.out]; exact hlt) rfl fun w3 u3 => ?_
      dsimp only [Act.put]
      have hG3 := u3.here
      rw [encB_set, HS.out] at hG3
      have hB3 := u3.keep hB2 (by omega)
      have hE3 := hE2.upd (by omega) u3
      clear u3 hG2 hB2 hE2 s1 s2 s3 s4
      go_wp2
      go_roundw
      case rel => first | exact ⟨k + 1, by omega, by go_num, hG3, hB3, hE3⟩ | ((repeat apply Exists.intro); exact ⟨⟨k + 1, by omega, by go_num, hG3, hB3, hE3⟩, rfl⟩)
      case measure => simp [intOf]; omega
    · obtain rfl : k = 96 := by omega
      go_wp2
      go_ret
      exact ⟨rfl, hGr, hEr⟩
def ToPost (f : List Nat) (w : World) (e : Ending) (w' : World) : Prop := ∃ g, e = .returned (.tuple #[.slice (some ⟨g, 0, none⟩) 96 96, .int .i64 0]) ∧ w.heap.size ≤ g ∧ w'.heap[g]? = some (.cells (encB (bytesF f)) 5 (0, 0)) ∧ Ext w w'
set_option maxHeartbeats 1000000 in
theorem rToBytes_any (f : List Nat) (w : World) (hf : FrameOk f) (hw : wideB f = false) :
    Calls Tryz.prog 16 #[.agg (encF f)] w (ToPost f w) := by
  have cw := fun u => rwide_any f u hf
  rw [hw] at cw
  have cb := fun u => rbytes_any f u hf
  clear hw
  go_enter Tryz.func16, Tryz.ntmps16
  go_wp2_with ((with_reducible refine stop_load 27 rfl ?_))
  apply Stop.go
  refine wpList_world fun w1 e1 => ?_
  have hE1 := Ext.of_eq e1
  clear e1
  have hB0 : w1.heap[w.heap.size]? = some (.cells (encF f) 27 (0, 0)) := hE1.heap (block_new w _)
  have hE : Ext w w1 := ext_of_alloc _ hE1
  refine wpList_load_blk rfl _ _ rfl w.heap.size 0 rfl 64 _ _ _ _ hB0 Tryz.underlying27 rfl info_frame (by rw [encF_size hf]; omega) (encF f) (by rw [Nat.zero_add, ← encF_size hf, Array.extract_size]) ?_
  simp only [Act.put, List.setIfInBounds_toArray, List.set_cons_zero, List.set_cons_succ]
  go_wp2_with fail
  refine (cw _).mono ?_
  rintro e w2 ⟨rfl, hE2⟩
  have hB2 := hE2.heap hB0
  have hE2 := hE.trans hE2
  clear hB0 hE hE1
  go_wp2_with ((with_reducible refine stop_load 27 rfl ?_))
  apply Stop.go
  refine wpList_load_blk rfl _ _ rfl w.heap.size 0 rfl 64 _ _ _ _ hB2 Tryz.underlying27 rfl info_frame (by rw [encF_size hf]; omega) (encF f) (by rw [Nat.zero_add, ← encF_size hf, Array.extract_size]) ?_
  simp only [Act.put, List.setIfInBounds_toArray, List.set_cons_zero, List.set_cons_succ]
  go_wp2_with fail
  refine (cb _).mono ?_
  rintro e w3 ⟨rfl, hG3, hE3⟩
  have hE3 := hE2.trans hE3
  have hle := hE2.size
  have hle2 : w.heap.size ≤ w2.heap.size + 1 := by omega
  generalize w2.heap.size + 1 = g at hG3 hle2 ⊢
  go_wp2
  go_ret2
  exact ⟨g, rfl, hle2, hG3, hE3⟩
/-- The frame that New begins with at the number 9. -/
def f9a : List Nat := ((List.replicate 64 0).set 1 9).set 2 0
theorem f9a_ok : FrameOk f9a := (frameOk_zero.set 1 9 (by omega) (by omega)).set 2 0 (by simp) (by omega)
def f9 : List Nat := sealF f9a
theorem f9_ok : FrameOk f9 := sealF_ok f9a_ok
theorem f9a_zero (k : Nat) (hk : k < 58) : f9a.set (3 + k) 0 = f9a := by
  refine set_zero f9a_ok.1 (by omega) ?_
  unfold f9a
  rw [wd_set _ _ _ _ (by simp), if_neg (by omega), wd_set _ _ _ _ (by simp), if_neg (by omega), wd_rep _ _ (by omega)]
/-- A row of 58 noughts. -/
def DAt (w : World) (b o : Nat) : Prop := ∀ k, k < 58 → w.cell? ⟨b, o + k, none⟩ = some (.int .i64 0)
set_option maxRecDepth 100000 in
set_option maxHeartbeats 1000000 in
theorem rNew_any (b o c : Nat) (w : World) (hD : DAt w b o) :
    Calls Tryz.prog 15 #[.int .i64 9, .slice (some ⟨b, o, none⟩) 58 c] w fun e w' => e = .returned (.tuple #[.agg (encF f9), .int .i64 0]) ∧ Ext w w' := by
  have HF := Lib.hid (show f9 = sealF f9a from rfl)
  have h9o := f9_ok
  have hao := f9a_ok
  have HZ := Lib.hid f9a_zero
  have HA := Lib.hid (show f9a = ((List.replicate 64 0).set 1 9).set 2 0 from rfl)
  obtain ⟨q, hq⟩ : ∃ q, q = f9 := ⟨_, rfl⟩
  rw [← hq] at HF h9o ⊢
  clear hq
  obtain ⟨p, hp⟩ : ∃ p, p = f9a := ⟨_, rfl⟩
  rw [← hp] at HF HA HZ hao
  clear hp
  go_enter Tryz.func15, Tryz.ntmps15
  go_wp2_with ((with_reducible refine stop_store 27 rfl ?_))
  apply Stop.go
  refine wpList_world fun w1 e1 => ?_
  have hE1 := Ext.of_eq e1
  clear e1
  obtain ⟨Z, hZ, hZs⟩ : ∃ Z : Array Value, w1.heap[w.heap.size]? = some (.cells Z 27 (0, 0)) ∧ Z.size = 64 := ⟨_, hE1.heap (block_old _ (block_new w _)), rfl⟩
  have hN := hE1.heap (heap_alloc2_new w _ _)
  have hE := ext_of_alloc _ (ext_of_alloc _ hE1)
  clear hE1
  refine wpList_store_whole rfl _ _ _ rfl (w.heap.size + 1) rfl (encF (List.replicate 64 0)) rfl _ _ hN (by rw [encF_size frameOk_zero]; exact info_frame) (by rw [encF_size frameOk_zero]; rfl) (encF_one _) fun w2 u2 => ?_
  dsimp only [Act.put]
  have hB2 := u2.here
  have hZ2 := u2.keep hZ (by omega)
  have hE2 := hE.upd (by omega) u2
  clear u2 hN hZ hE
  go_wp2_with ((with_reducible refine stop_store 25 rfl ?_))
  apply Stop.go
  refine wpList_store1 rfl _ _ _ rfl (w.heap.size + 1) 1 rfl (.int .u16 ((9 : Nat) : Int)) rfl _ _ hB2 info_u16 (by rw [encF_size frameOk_zero]; omega) rfl fun w3 u3 => ?_
  dsimp only [Act.put]
  have hB3 := u3.here
  rw [encF_set] at hB3
  have hZ3 := u3.keep hZ2 (by omega)
  have hE3 := hE2.upd (by omega) u3
  clear u3 hB2 hZ2 hE2
  go_wp2_with ((with_reducible refine stop_store 25 rfl ?_))
  apply Stop.go
  refine wpList_store1 rfl _ _ _ rfl (w.heap.size + 1) 2 rfl (.int .u16 ((0 : Nat) : Int)) rfl _ _ hB3 info_u16 (by simp [encF]) rfl fun w4 u4 => ?_
  dsimp only [Act.put]
  have hB4 := u4.here
  rw [encF_set, ← HA.out] at hB4
  have hZ4 := u4.keep hZ3 (by omega)
  have hE4 := hE3.upd (by omega) u4
  clear u4 hB3 hZ3 hE3
  go_wp2
  go_loopw [31] (fun i wr => ∃ k : Nat, k ≤ 58 ∧ i = .int .i64 k ∧ wr.heap[w.heap.size + 1]? = some (.cells (encF p) 27 (0, 0)) ∧ wr.heap[w.heap.size]? = some (.cells Z 27 (0, 0)) ∧ Ext w wr) (fun i _ => 58 - (intOf i).toNat)
  case atStart => exact ⟨0, by omega, rfl, hB4, hZ4, hE4⟩
  case round =>
    obtain ⟨k, hk, rfl, hBr, hZr, hEr⟩ := hrel
    clear hB4 hZ4 hE4
    by_cases hlt : k < 58
    · have hc := hEr.cell (hD k hlt)
      go_wp2_with ((with_reducible refine stop_store 25 rfl ?_))
      apply Stop.go
      refine wpList_store1 rfl _ _ _ rfl (w.heap.size + 1) (3 + k) rfl (.int .u16 ((0 : Nat) : Int)) rfl _ _ hBr info_u16 (by rw [encF_size hao]; omega) rfl fun w3 u3 => ?_
      dsimp only [Act.put]
      have hB3 := u3.here
      rw [encF_set, HZ.out k hlt] at hB3
      have hZ3 := u3.keep hZr (by omega)
      have hE3 := hEr.upd (by omega) u3
      clear u3 hBr hZr hEr hc
      go_wp2
      go_roundw
      case rel => first | exact ⟨k + 1, by omega, by go_num, hB3, hZ3, hE3⟩ | ((repeat apply Exists.intro); exact ⟨⟨k + 1, by omega, by go_num, hB3, hZ3, hE3⟩, rfl⟩)
      case measure => simp [intOf]; omega
    · obtain rfl : k = 58 := by omega
      go_wp2_with ((with_reducible refine stop_load 27 rfl ?_))
      apply Stop.go
      refine wpList_load_blk rfl _ _ rfl (w.heap.size + 1) 0 rfl 64 _ _ _ _ hBr Tryz.underlying27 rfl info_frame (by rw [encF_size hao]; omega) (encF p) (by rw [Nat.zero_add, ← encF_size hao, Array.extract_size]) ?_
      simp only [Act.put, List.setIfInBounds_toArray, List.set_cons_zero, List.set_cons_succ]
      go_wp2_with fail
      refine (rsealed_any p _ hao).mono ?_
      rintro e w5 ⟨rfl, hE5⟩
      rw [← HF.out]
      have hZ5 := hE5.heap hZr
      have hE5 := hEr.trans hE5
      clear hBr hZr hEr
      go_wp2_with ((with_reducible refine stop_store 27 rfl ?_))
      apply Stop.go
      refine wpList_store_whole rfl _ _ _ rfl w.heap.size rfl (encF q) rfl _ _ hZ5 (by rw [encF_size h9o]; exact info_frame) (by rw [encF_size h9o, hZs]) (encF_one _) fun w9 u9 => ?_
      dsimp only [Act.put]
      go_wp2
      exact bodyPost_ret (results_cell_tmp Tryz.results15 _ _ w.heap.size 27 (encF q) _ _ rfl (.int .i64 0) rfl u9.here Tryz.underlying27 rfl (by rw [encF_size h9o]; exact info_frame)) rfl ⟨rfl, hE5.upd (by omega) u9⟩
end Go.Proofs.YtplddeboinhkbaaGreatDoorRR

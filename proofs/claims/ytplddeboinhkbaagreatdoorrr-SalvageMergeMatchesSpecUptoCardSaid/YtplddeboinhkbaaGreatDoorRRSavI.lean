/- The places beside the one certain place: there are none. -/

import Derived.Test.YtplddeboinhkbaaGreatDoorRRProg
import Derived.Test.YtplddeboinhkbaaGreatDoorRRSavH
namespace Go.Proofs.YtplddeboinhkbaaGreatDoorRR
open Go.RowKit
set_option maxRecDepth 100000 in
set_option maxHeartbeats 4000000 in
theorem places_any (fx b c g cap : Nat) (sn sm : Value) (w : World) (_hcap : 1 ≤ cap) (hX : w.heap[fx]? = some (.cells #[.slice (some ⟨b, 0, none⟩) 194 c, .slice (some ⟨g, 0, none⟩) 1 cap, sn, sm] 88 (0, 0)))
    (hg : w.cell? ⟨g, 0, none⟩ = some (.int .i64 2)) :
    Calls Tryz.prog 61 #[.pointer (some ⟨fx, 0, none⟩), .int .i64 0] w (fun e w' => e = .returned (.slice none 0 0) ∧ Ext w w') := by
  obtain ⟨i0, hi, hz0, hz1, hz2⟩ := info_parts info_intz
  have HI := Lib.hid hi
  have HZ0 := Lib.hid hz0
  have HZ1 := Lib.hid hz1
  clear hi hz0 hz1 hz2
  have hc0 : w.cell? ⟨fx, 0, none⟩ = some (.slice (some ⟨b, 0, none⟩) 194 c) := by rw [cell_of_row _ _ _ _ _ _ hX]; rfl
  have hc1 : w.cell? ⟨fx, 1, none⟩ = some (.slice (some ⟨g, 0, none⟩) 1 cap) := by rw [cell_of_row _ _ _ _ _ _ hX]; rfl
  clear hX
  go_enter Tryz.func61, Tryz.ntmps61
  go_wp2_with ((with_reducible refine stop_dst 19 rfl ?_))
  apply Stop.go
  refine wpList_buildSlice_to rfl 40 3 2 [(0, .const (.int .i64 (-194))), (1, .const (.int .i64 194))] rfl [(0, .int .i64 (-194)), (1, .int .i64 194)] rfl #[.int .i64 (-194), .int .i64 194] i0 _ Tryz.underlying40 HI.out HZ0.out (by rw [HZ1.out]; decide) (by rw [HZ1.out]; decide) (by rw [HZ1.out]; kernel_rfl) ?_
  simp only [Act.put, List.setIfInBounds_toArray, List.set_cons_zero, List.set_cons_succ]
  have hN := block_new w (.cells #[.int .i64 (-194), .int .i64 194] 3)
  have hE := ext_of_alloc (.cells #[.int .i64 (-194), .int .i64 194] 3) (Ext.refl (w.alloc (.cells #[.int .i64 (-194), .int .i64 194] 3)))
  generalize w.alloc (.cells #[.int .i64 (-194), .int .i64 194] 3) = w1 at hN hE ⊢
  have hn0 : w1.cell? ⟨w.heap.size, 0, none⟩ = some (.int .i64 (-194)) := by rw [cell_of_row _ _ _ _ _ _ hN]; rfl
  have hn1 : w1.cell? ⟨w.heap.size, 1, none⟩ = some (.int .i64 194) := by rw [cell_of_row _ _ _ _ _ _ hN]; rfl
  generalize w.heap.size = nb at hN hn0 hn1 ⊢
  have hc0 := hE.cell hc0
  clear hc1 hg hN
  go_wp2
  go_loopw [21, 5] (fun i o wr => ∃ k : Nat, k ≤ 2 ∧ i = .int .i64 k ∧ o = .slice none 0 0 ∧ wr = w1) (fun i _ _ => 2 - (intOf i).toNat)
  case atStart => exact ⟨0, by omega, rfl, rfl, rfl⟩
  case round =>
    obtain ⟨k, hk, rfl, rfl, rfl⟩ := hrel
    match k, hk with
    | 0, _ =>
      rw [show ((0 : Nat) : Int) = 0 from rfl]
      go_wp2
      go_loopw [9, 5] (fun p o wy => p = .int .i64 (-192) ∧ o = .slice none 0 0 ∧ wy = wr) (fun _ _ _ => 0)
      case atStart => exact ⟨rfl, rfl, rfl⟩
      case round =>
        obtain ⟨rfl, rfl, rfl⟩ := hrel
        go_wp2
        go_roundw
        case rel => exact ⟨1, by omega, rfl, rfl, trivial⟩
        case measure => simp [intOf]
    | 1, _ =>
      rw [show ((1 : Nat) : Int) = 1 from rfl]
      go_wp2
      go_loopw [9, 5] (fun p o wy => p = .int .i64 196 ∧ o = .slice none 0 0 ∧ wy = wr) (fun _ _ _ => 0)
      case atStart => exact ⟨rfl, rfl, rfl⟩
      case round =>
        obtain ⟨rfl, rfl, rfl⟩ := hrel
        go_wp2
        go_roundw
        case rel => exact ⟨2, by omega, rfl, rfl, trivial⟩
        case measure => simp [intOf]
    | 2, _ =>
      rw [show ((2 : Nat) : Int) = 2 from rfl]
      go_wp2
      go_ret
      exact ⟨rfl, hE⟩
end Go.Proofs.YtplddeboinhkbaaGreatDoorRR

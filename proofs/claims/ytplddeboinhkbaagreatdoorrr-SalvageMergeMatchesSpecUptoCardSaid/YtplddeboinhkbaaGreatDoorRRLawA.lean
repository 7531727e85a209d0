/- The contracts at an empty list, and at any list. -/

import Derived.Test.YtplddeboinhkbaaGreatDoorRRProg
import Derived.Test.YtplddeboinhkbaaGreatDoorRRSavO
import Derived.Test.YtplddeboinhkbaaGreatDoorRRRefH
import Derived.Test.YtplddeboinhkbaaGreatDoorRRRefI
import Derived.Test.YtplddeboinhkbaaGreatDoorRRMergeC
namespace Go.Proofs.YtplddeboinhkbaaGreatDoorRR
open Go.RowKit
set_option maxHeartbeats 1000000
theorem indexFunc_nil (ad : Option Addr) (c : Nat) (g : FuncId) (lb : Array Value) (w : World) :
    Calls Tryz.prog 31 #[.slice ad 0 c, .func (.func g) #[] lb] w fun e w' => e = .returned (.int .i64 (-1)) ∧ Ext w w' := by
  go_enter Tryz.func31, Tryz.ntmps31
  go_wp2
  go_loopw [5, 8] (fun _ i wr => i = .int .i64 0 ∧ wr = w) (fun _ _ _ => 0)
  case atStart => exact ⟨rfl, rfl⟩
  case round =>
    obtain ⟨rfl, rfl⟩ := hrel
    go_wp2
    go_ret
    exact ⟨rfl, Ext.refl _⟩
theorem vast_nil (ad : Option Addr) (c : Nat) (w : World) :
    Calls Tryz.prog 5 #[.slice ad 0 c] w fun e w' => e = .returned (.bool false) ∧ Ext w w' := by
  have hcon : Calls Tryz.prog 13 #[.slice ad 0 c, .func (.func 14) #[] #[]] w fun e w' => e = .returned (.bool false) ∧ Ext w w' := by
    go_enter Tryz.func13, Tryz.ntmps13
    go_wp2_with fail
    refine (indexFunc_nil _ _ _ _ _).mono ?_
    rintro e w1 ⟨rfl, hE1⟩
    go_wp2
    go_ret
    exact ⟨rfl, hE1⟩
  go_enter Tryz.func5, Tryz.ntmps5
  go_wp2_with fail
  refine (hcon).mono ?_
  rintro e w1 ⟨rfl, hE1⟩
  go_wp2
  go_ret
  exact ⟨rfl, hE1⟩
theorem checkAll_nil (ad : Option Addr) (c : Nat) (w : World) :
    Calls Tryz.prog 18 #[.slice ad 0 c] w fun e w' => e = .returned (.int .i64 0) ∧ Ext w w' := by
  go_enter Tryz.func18, Tryz.ntmps18
  go_wp2
  go_loopw [8] (fun i wr => i = .int .i64 0 ∧ wr = w) (fun _ _ => 0)
  case atStart => exact ⟨rfl, rfl⟩
  case round =>
    obtain ⟨rfl, rfl⟩ := hrel
    go_wp2
    go_ret
    exact ⟨rfl, Ext.refl _⟩
theorem restsFault_nil (ad : Option Addr) (c : Nat) (w : World) :
    Calls Tryz.prog 21 #[.slice ad 0 c] w fun e w' => e = .returned (.int .i64 0) ∧ Ext w w' := by
  go_enter Tryz.func21, Tryz.ntmps21
  go_wp2
  go_loopw [8] (fun i wr => i = .int .i64 0 ∧ wr = w) (fun _ _ => 0)
  case atStart => exact ⟨rfl, rfl⟩
  case round =>
    obtain ⟨rfl, rfl⟩ := hrel
    go_wp2
    go_ret
    exact ⟨rfl, Ext.refl _⟩
set_option maxRecDepth 100000 in
theorem Merge_nil (ad : Option Addr) (c : Nat) (w : World) :
    Calls Tryz.prog 7 #[.slice ad 0 c] w fun e w' => e = .returned (.tuple #[.agg (encR (zeroR 0)), .int .i64 13]) ∧ Ext w w' := by
  go_enter Tryz.func7, Tryz.ntmps7
  go_wp2_with fail
  refine (checkAll_nil ad c _).mono ?_
  rintro e w2 ⟨rfl, hE2⟩
  have hB : w2.cell? ⟨w.heap.size, 0, none⟩ = some (.slice ad 0 c) := hE2.cell (((Ext.refl _).alloc _).cell (by simp))
  have hZ := hE2.heap (heap_alloc2_new w _ _)
  have hE2 := ext_of_alloc _ (ext_of_alloc _ hE2)
  go_wp2_with ((with_reducible refine stop_store 30 rfl ?_))
  apply Stop.go
  rw [build_zero]
  refine store_rest rfl _ _ rfl (w.heap.size + 1) rfl (zeroR 0) (zeroR_ok 0) rfl _ hZ zero_rest fun w9 u9 => ?_
  dsimp only [Act.put]
  go_wp2
  exact bodyPost_ret (results_cell_tmp Tryz.results7 _ _ (w.heap.size + 1) 30 (encR (zeroR 0)) _ _ rfl (.int .i64 13) rfl u9.here Tryz.underlying30 rfl (by rw [encR_size (zeroR_ok 0)]; exact info_rest)) rfl ⟨rfl, hE2.upd (by omega) u9⟩
set_option maxRecDepth 100000 in
theorem rMerge_nil (ad : Option Addr) (c : Nat) (w : World) :
    Calls Tryz.prog 8 #[.slice ad 0 c] w fun e w' => e = .returned (.tuple #[.agg (encR (zeroR 0)), .int .i64 13]) ∧ Ext w w' := by
  go_enter Tryz.func8, Tryz.ntmps8
  go_wp2_with fail
  refine (restsFault_nil ad c _).mono ?_
  rintro e w2 ⟨rfl, hE2⟩
  have hZ := hE2.heap (block_new w _)
  have hE2 := ext_of_alloc _ hE2
  go_wp2_with ((with_reducible refine stop_store 30 rfl ?_))
  apply Stop.go
  rw [build_zero]
  refine store_rest rfl _ _ rfl w.heap.size rfl (zeroR 0) (zeroR_ok 0) rfl _ hZ zero_rest fun w9 u9 => ?_
  dsimp only [Act.put]
  go_wp2
  exact bodyPost_ret (results_cell_tmp Tryz.results8 _ _ w.heap.size 30 (encR (zeroR 0)) _ _ rfl (.int .i64 13) rfl u9.here Tryz.underlying30 rfl (by rw [encR_size (zeroR_ok 0)]; exact info_rest)) rfl ⟨rfl, hE2.upd (by omega) u9⟩
/-! ### Any list -/
/-- The value of a list of rests. -/
def LAt (w : World) (v : Value) (l : List SR) : Prop :=
  ∃ ad c, v = .slice ad l.length c ∧ (0 < l.length → ∃ b o, ad = some ⟨b, o, none⟩ ∧ RsAt w b o l)
theorem LAt.ext {w w' : World} {v : Value} {l : List SR} (h : LAt w v l) (hE : Ext w w') : LAt w' v l := by
  obtain ⟨ad, c, h1, h2⟩ := h
  refine ⟨ad, c, h1, fun h0 => ?_⟩
  obtain ⟨b, o, h3, h4⟩ := h2 h0
  exact ⟨b, o, h3, h4.ext hE⟩
theorem vast_all {v : Value} {l : List SR} {w : World} (hl : l.length < 10000) (hL : LAt w v l) (hO : RsOk l) :
    Calls Tryz.prog 5 #[v] w fun e w' => e = .returned (.bool (vastB l)) ∧ Ext w w' := by
  obtain ⟨ad, c, rfl, h⟩ := hL
  rcases Nat.eq_zero_or_pos l.length with h0 | h0
  · obtain rfl : l = [] := List.length_eq_zero_iff.1 h0
    exact vast_nil ad c w
  · obtain ⟨b, o, rfl, hR⟩ := h h0
    exact vast_any b o c l w hl hR hO
theorem Merge_all {v : Value} {l : List SR} {w : World} (hl : l.length < 10000) (hL : LAt w v l) (hO : RsOk l) (hC : chkAll l = 0 → CopOk l) (hS : SyncAt w) :
    Calls Tryz.prog 7 #[v] w fun e w' => e = .returned (.tuple #[.agg (encR (mergeR l)), .int .i64 (mergeE l)]) ∧ Ext w w' := by
  obtain ⟨ad, c, rfl, h⟩ := hL
  rcases Nat.eq_zero_or_pos l.length with h0 | h0
  · obtain rfl : l = [] := List.length_eq_zero_iff.1 h0
    exact Merge_nil ad c w
  · obtain ⟨b, o, rfl, hR⟩ := h h0
    exact Merge_any b o c l w hl h0 hR hO hC hS
theorem rMerge_all {v : Value} {l : List SR} {w : World} (hl : l.length < 10000) (hL : LAt w v l) (hO : RsOk l) (hC : chkAll l = 0 → CopOk l) :
    Calls Tryz.prog 8 #[v] w fun e w' => e = .returned (.tuple #[.agg (encR (mergeR l)), .int .i64 (mergeE l)]) ∧ Ext w w' := by
  obtain ⟨ad, c, rfl, h⟩ := hL
  rcases Nat.eq_zero_or_pos l.length with h0 | h0
  · obtain rfl : l = [] := List.length_eq_zero_iff.1 h0
    exact rMerge_nil ad c w
  · obtain ⟨b, o, rfl, hR⟩ := h h0
    exact rMerge_any b o c l w hl h0 hR hO hC
end Go.Proofs.YtplddeboinhkbaaGreatDoorRR

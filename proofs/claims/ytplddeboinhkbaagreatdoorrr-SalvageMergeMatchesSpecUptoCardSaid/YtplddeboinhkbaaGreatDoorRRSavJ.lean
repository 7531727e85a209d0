/- A row of one number is sorted. -/

import Derived.Test.YtplddeboinhkbaaGreatDoorRRProg
import Derived.Test.YtplddeboinhkbaaGreatDoorRRSavI
namespace Go.Proofs.YtplddeboinhkbaaGreatDoorRR
open Go.RowKit
theorem post_none {P : Program} {fn : Func} {R : Ending → World → Prop} {a : Act} {w : World} (hr : fn.results = #[]) (hd : a.defers = []) (hR : R (.returned (.tuple #[])) w) : bodyPost P fn R .normal a w ∧ bodyPost P fn R .ret a w :=
  ⟨bodyPost_end (results_none hr _ _ _) hd hR, bodyPost_ret (results_none hr _ _ _) hd hR⟩
set_option maxRecDepth 100000 in
set_option maxHeartbeats 4000000 in
theorem len64_one (w : World) : Calls Tryz.prog 107 #[.int .u64 1] w (fun e w' => e = .returned (.int .i64 1) ∧ w' = w) := by
  go_enter Tryz.func107, Tryz.ntmps107
  go_wp2
  go_ret
  exact ⟨by kernel_rfl, rfl⟩
set_option maxRecDepth 100000 in
set_option maxHeartbeats 4000000 in
theorem len_one (w : World) : Calls Tryz.prog 83 #[.int .u64 1] w (fun e w' => e = .returned (.int .i64 1) ∧ w' = w) := by
  go_enter Tryz.func83, Tryz.ntmps83
  go_wp2_with fail
  refine (len64_one _).mono ?_
  rintro e w1 ⟨rfl, hw1⟩
  subst hw1
  go_wp2
  go_ret
  exact ⟨rfl, rfl⟩
set_option maxRecDepth 100000 in
set_option maxHeartbeats 4000000 in
theorem insertion_one (c : Nat) (ad : Option Addr) (w : World) : Calls Tryz.prog 97 #[.slice ad 1 c, .int .i64 0, .int .i64 1] w (fun e w' => e = .returned (.tuple #[]) ∧ w' = w) := by
  go_enter Tryz.func97, Tryz.ntmps97
  go_wp2
  go_loopw [6] (fun i wr => i = .int .i64 1 ∧ wr = w) (fun _ _ => 0)
  case atStart => exact ⟨rfl, rfl⟩
  case round =>
    obtain ⟨rfl, rfl⟩ := hrel
    go_wp2
    (try simp only [Exit.inBlock, Exit.then])
    first
      | refine (post_none rfl rfl ?_).1
      | refine (post_none rfl rfl ?_).2
    exact ⟨rfl, rfl⟩
set_option maxRecDepth 100000 in
set_option maxHeartbeats 4000000 in
theorem pdq_one (c : Nat) (ad : Option Addr) (w : World) : Calls Tryz.prog 82 #[.slice ad 1 c, .int .i64 0, .int .i64 1, .int .i64 1] w (fun e w' => e = .returned (.tuple #[]) ∧ w' = w) := by
  go_enter Tryz.func82, Tryz.ntmps82
  go_wp2
  go_loopw [1, 2, 3] (fun i j k wr => i = .int .i64 0 ∧ j = .int .i64 1 ∧ k = .int .i64 1 ∧ wr = w) (fun _ _ _ _ => 0)
  case atStart => exact ⟨rfl, rfl, rfl, rfl⟩
  case round =>
    obtain ⟨rfl, rfl, rfl, rfl⟩ := hrel
    go_wp2_with fail
    refine (insertion_one _ _ _).mono ?_
    rintro e w1 ⟨rfl, hw1⟩
    subst hw1
    go_wp2
    (try simp only [Exit.inBlock, Exit.then])
    first
      | refine (post_none rfl rfl ?_).1
      | refine (post_none rfl rfl ?_).2
    exact ⟨rfl, rfl⟩
set_option maxRecDepth 100000 in
set_option maxHeartbeats 4000000 in
theorem sort_one (c : Nat) (ad : Option Addr) (w : World) : Calls Tryz.prog 66 #[.slice ad 1 c] w (fun e w' => e = .returned (.tuple #[]) ∧ w' = w) := by
  go_enter Tryz.func66, Tryz.ntmps66
  go_wp2_with fail
  refine (len_one _).mono ?_
  rintro e w1 ⟨rfl, hw1⟩
  subst hw1
  go_wp2_with fail
  refine (pdq_one _ _ _).mono ?_
  rintro e w1 ⟨rfl, hw1⟩
  subst hw1
  go_wp2
  (try simp only [Exit.inBlock, Exit.then])
  first
    | refine (post_none rfl rfl ?_).1
    | refine (post_none rfl rfl ?_).2
  exact ⟨rfl, rfl⟩
end Go.Proofs.YtplddeboinhkbaaGreatDoorRR

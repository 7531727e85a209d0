/- PROVED HERE: for every list of rests that, with the variable that the row lists, holds at most 1048576 values and letters, SalvageMergeMatchesSpec returns true and leaves the list as it was. CONDITION: frame.syncs begins as the program's text lays it (the card ties it). -/

import Derived.Test.YtplddeboinhkbaaGreatDoorRRProg
import Derived.Test.YtplddeboinhkbaaGreatDoorRRLawD
import Derived.Test.YtplddeboinhkbaaGreatDoorRRLawE
import Derived.Test.YtplddeboinhkbaaGreatDoorRRCards
import Derived.Test.YtplddeboinhkbaaGreatDoorRRTie
import Derived.WalkKit
import Derived.ProofKit
import Derived.OpenShut
import Derived.Deep.DeepHandedRow
import Derived.Lib.LaidTab
namespace Go.Proofs.YtplddeboinhkbaaGreatDoorRR
open Go.ChangeShapes Go.WideShapes Go.ChangeAt Go.RowKit Go.Deep
set_option maxRecDepth 100000
theorem reads3 (os : Os) {H : Type} (enc : TypeId × Value → H) : ∃ places, DataW.whole enc Tryz.prog ((laidWorld os).forCall (fun _ _ => 0) ⟨#[], #[.slice none 0 0], []⟩).memory Tryz.f3.params.toList Rows.salvageMergeMatchesSpecSpec.vars false #[Value.slice none 0 0].toList 8 = some ([.nil], [], places) :=
  ⟨[], by kernel_rfl⟩
theorem liftedUpto3 (os : Os) (started : os.Started) (H : Type) (enc : TypeId × Value → H) (F : Stop.Interp) :
    ReturnsInHanded {} Tryz.checked os 3 .any ((Rows.OpenSpec.upto Rows.salvageMergeMatchesSpecSpec).preRow enc Tryz.prog Tryz.f3 Rows.salvageMergeMatchesSpecUptoRow.domain false Rows.salvageMergeMatchesSpecUptoRow.laid) (((Rows.OpenSpec.upto Rows.salvageMergeMatchesSpecSpec).at F).post enc Tryz.prog Tryz.f3 false true false false) := by
  obtain ⟨places, hx⟩ := reads3 os enc
  refine returnsInHanded_of_row (C := Tryz.checked) (s := Rows.OpenSpec.upto Rows.salvageMergeMatchesSpecSpec) own started (by kernel_rfl) Tryz.func3
    (witness_row_at (enc := enc) (C := Tryz.checked) false (laidWorld os) #[.slice none 0 0] rfl (by kernel_rfl) (by kernel_rfl) (by kernel_rfl)
      (OpenSpec.preRow_of_cond 8 hx (by kernel_rfl) (fun k hk => by cases hk; exact small_nil H) (by kernel_rfl) (laid_met os))) ?_
  intro W base args ds gs before hval hW _ hcond _ hL _ _
  exact contract Tryz.params3 (by kernel_rfl) rfl (fun _ _ => rfl) (fun v l W hl hLA hO hS => matches_any hl hLA hO hS) H enc W base args ds gs before hval hW (syncAt_of hL) (hcond _ rfl)
theorem saidUpto3 : Rows.SalvageMergeMatchesSpecUptoSaid :=
  OpenClaim.holds_of_cond 3 Tryz.f3 rfl rfl rfl rfl rfl rfl rfl ⟨rfl, rfl, rfl, rfl, rfl⟩ rfl rfl rfl rfl rfl (by kernel_rfl) Tryz.func3 (by kernel_rfl)
    (of_decide_eq_true (by kernel_rfl)) (by unfold Func.isWrapper; first | (rw [if_pos (by decide +kernel)]; kernel_rfl) | (rw [if_neg (by decide +kernel)]; exact ⟨rfl, rfl⟩))
    (fun os started H enc _ F => by rw [OpenClaim.pre_eq_preRow]; exact liftedUpto3 os started H enc F)
theorem plain3 (f : FuncId) (fn : Func) (hf : Tryz.pinned.checked.prog.funcNamed "orangebox/orangeboxlaw4.SalvageMergeMatchesSpec" = some f) (hfn : Tryz.pinned.checked.prog.funcs[f]? = some fn) :
    false = Tryz.pinned.checked.prog.looks [] ∧ ∀ (j : Nat) t, fn.params[j]? = some t → Tryz.pinned.checked.prog.wantsStandIn t = false := by
  obtain rfl : f = 3 := Option.some.inj ((show Tryz.prog.funcNamed "orangebox/orangeboxlaw4.SalvageMergeMatchesSpec" = some 3 by kernel_rfl).symm.trans hf) |>.symm
  obtain rfl : fn = Tryz.f3 := (Option.some.inj (Tryz.func3.symm.trans hfn)).symm
  refine ⟨by kernel_rfl, fun j t ht => ?_⟩
  rw [Tryz.params3] at ht
  obtain rfl : t = 22 := by simpa using Array.mem_of_getElem? ht
  exact (show Tryz.prog.wantsStandIn 22 = false by kernel_rfl)
/-- The card of the second form. -/
theorem matches_cardUpto : Rows.SalvageMergeMatchesSpecUptoCardSaid :=
  Claim7.holds_tied_plain_at .later [] _ _ _ _ saidUpto3 (fun _ h => by cases h) (by kernel_rfl) (fun _ h => by cases h) salvageMergeMatchesSpecUpto_row_tie rfl ⟨rfl, rfl⟩ (by kernel_rfl) rfl plain3 (by kernel_rfl)
end Go.Proofs.YtplddeboinhkbaaGreatDoorRR

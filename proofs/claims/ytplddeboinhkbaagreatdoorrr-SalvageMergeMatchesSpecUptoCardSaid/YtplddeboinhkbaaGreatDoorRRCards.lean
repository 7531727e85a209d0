/-
  DERIVED. GIVEN WITH THE SEED: THE CARDS: each row of YtplddeboinhkbaaGreatDoorRRRows.lean that lists a variable, with what it lists TIED to the program's text (the seventh form; the later family's looks); each row that meets fmt, with fmt's text TOLD by the authors' own Lean function (tested against real Go, not proved from fmt's source: count such statements apart). THE CARD IS WHAT COUNTS. Prove the row's statement (the work); the ties are given (YtplddeboinhkbaaGreatDoorRRTie.lean); close each card by the builder's one call (the guide's Derived/Test/ToyasCard.lean, 'card_holds'). Laid BY PROGRAM, IN A SANDBOX (cutbox-door.mjs). By AI agents, Wed Nov 11 2026. No macro, syntax, notation, axiom, sorry.
-/
import Derived.Test.YtplddeboinhkbaaGreatDoorRRRows
import GoSem.ClaimSeven
namespace Go.Proofs.YtplddeboinhkbaaGreatDoorRR
namespace Rows

/-- THE TIED CARD OF 'orangeboxlaw4.SalvageMergeMatchesSpec'. -/
def salvageMergeMatchesSpecCard : Claim7 := { stood := { row := salvageMergeMatchesSpecRow, standIns := [], harness := (true, "12f0a6b5096bb05b8496ea1ab0ce3bfbb99e081969189bd7d9d97c38ddd4b5f6"), looks := false }, kinds := [], alts := [], laidByText := true, laidKinds := [.data], laidTests := true, laidLooks := .later }
def SalvageMergeMatchesSpecCardSaid : Prop := Claim7.holds Tryz.pinned (.plain (OpenSpec.ofChange salvageMergeMatchesSpecSpec)) salvageMergeMatchesSpecCard

/-- THE TIED CARD OF 'orangeboxlaw4.SalvageMergeIsRight'. -/
def salvageMergeIsRightCard : Claim7 := { stood := { row := salvageMergeIsRightRow, standIns := [], harness := (true, "12f0a6b5096bb05b8496ea1ab0ce3bfbb99e081969189bd7d9d97c38ddd4b5f6"), looks := false }, kinds := [], alts := [], laidByText := true, laidKinds := [.data], laidTests := true, laidLooks := .later }
def SalvageMergeIsRightCardSaid : Prop := Claim7.holds Tryz.pinned (.plain (OpenSpec.ofChange salvageMergeIsRightSpec)) salvageMergeIsRightCard

/-- THE SECOND FORM's CARD OF 'orangeboxlaw4.SalvageMergeMatchesSpec'. -/
def salvageMergeMatchesSpecUptoCard : Claim7 := { stood := { row := salvageMergeMatchesSpecUptoRow, standIns := [], harness := (true, "12f0a6b5096bb05b8496ea1ab0ce3bfbb99e081969189bd7d9d97c38ddd4b5f6"), looks := false }, kinds := [], alts := [], laidByText := true, laidKinds := [.data], laidTests := true, laidLooks := .later }
def SalvageMergeMatchesSpecUptoCardSaid : Prop := Claim7.holds Tryz.pinned (.plain (OpenSpec.upto salvageMergeMatchesSpecSpec)) salvageMergeMatchesSpecUptoCard

/-- THE SECOND FORM's CARD OF 'orangeboxlaw4.SalvageMergeIsRight'. -/
def salvageMergeIsRightUptoCard : Claim7 := { stood := { row := salvageMergeIsRightUptoRow, standIns := [], harness := (true, "12f0a6b5096bb05b8496ea1ab0ce3bfbb99e081969189bd7d9d97c38ddd4b5f6"), looks := false }, kinds := [], alts := [], laidByText := true, laidKinds := [.data], laidTests := true, laidLooks := .later }
def SalvageMergeIsRightUptoCardSaid : Prop := Claim7.holds Tryz.pinned (.plain (OpenSpec.upto salvageMergeIsRightSpec)) salvageMergeIsRightUptoCard
end Rows
end Go.Proofs.YtplddeboinhkbaaGreatDoorRR

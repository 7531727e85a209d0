/-
  NARROWER THAN 'FOR EVERY INPUT', by the rows' own cells (each row's printed sentence says how): SalvageMergeMatchesSpec: laid · SalvageMergeIsRight: laid.
  DERIVED. THE GIVEN ROWS OF THIS SEAT. 2 by the template 'for every input the law returns true; each argument reads behind the call as it read before'; 0 by the template 'total and deterministic' (their statements: YtplddeboinhkbaaGreatDoorRRTotals.lean).
  GIVEN WITH THE SEED: the statements are not yours to turn. If you find one false, say at which input.
  Laid BY PROGRAM, IN A SANDBOX (cutbox-rows.mjs): the forced cells as the released guide's own fill.sh prints them over the translation 4eb46cb2c1cf2c0f… (all of the seat's roots in one cut). By AI agents, Wed Nov 11 2026. No macro, syntax, notation, axiom, sorry.
-/
import Derived.Test.YtplddeboinhkbaaGreatDoorRRChecked
import GoSem.Claim
import GoSem.ClaimJoined
import GoSem.ClaimMapViews
import Derived.JoinedTies
import Derived.KernelRfl
namespace Go.Proofs.YtplddeboinhkbaaGreatDoorRR
/- THE CELL 'sum', in the pinned program and in every row, IS THE sha256 OF THE DUMP (.gsa) THAT YtplddeboinhkbaaGreatDoorRRProg.lean LOADS. Nothing in Lean hashes anything: it is a label: what it is worth is what the hold of that sum in a sandbox is worth. -/
noncomputable def Tryz.pinned : Pinned := { name := "ytplddeboinhkbaagreatdoorrr", sum := "4eb46cb2c1cf2c0f480671d43cc1b15eb099449af00652a3c743b01df31cab12", checked := Tryz.checked }
namespace Rows
def none {H : Type} : Left H := { results := [], args := [] }

/- WHAT THE LISTED PACKAGE-LEVEL VARIABLES READ AS WHEN THE CALL BEGINS. Each datum BY PROGRAM (the guide's laid-datum.mjs) off the statement by which the dump's own 'gosem.cut.vars' lays the variable. In a bare row this is a premise. The card (YtplddeboinhkbaaGreatDoorRRCards.lean) ties it to the program's text. -/
def laid_orangebox_frame_syncs {H : Type} : DataW H := .agg [.lit (.int .u16 583), .lit (.int .u16 1464), .lit (.int .u16 2631), .lit (.int .u16 3512)]

/-- 'orangeboxlaw4.SalvageMergeMatchesSpec': WHATEVER THE INPUT: true; the input reads as it did. -/
def salvageMergeMatchesSpecSpec : ChangeSpec := { name := "salvageMergeMatchesSpec", fn := fun _ => fun
  | [d] => { results := [.lit (.bool true)], args := [d] }
  | _ => none }
def salvageMergeMatchesSpecRow : OpenClaim := { program := "ytplddeboinhkbaagreatdoorrr", sum := "4eb46cb2c1cf2c0f480671d43cc1b15eb099449af00652a3c743b01df31cab12", func := "orangebox/orangeboxlaw4.SalvageMergeMatchesSpec", spec := "salvageMergeMatchesSpec", unfollowed := true, recurses := true, named := ["orangebox/frame.syncs"], apart := false, laid := [("orangebox/frame.syncs", laid_orangebox_frame_syncs)] }
def SalvageMergeMatchesSpecSaid : Prop := salvageMergeMatchesSpecRow.holds Tryz.pinned (OpenSpec.ofChange salvageMergeMatchesSpecSpec)

/-- ITS FALSE NEIGHBOUR: 'it returns false'. Refute it at one input. -/
def salvageMergeMatchesSpecWrong : ChangeSpec := { name := "salvageMergeMatchesSpec", fn := fun _ => fun
  | [d] => { results := [.lit (.bool false)], args := [d] }
  | _ => none }
def SalvageMergeMatchesSpecWrongFalsely : Prop := salvageMergeMatchesSpecRow.holds Tryz.pinned (OpenSpec.ofChange salvageMergeMatchesSpecWrong)

/-- 'orangeboxlaw4.SalvageMergeIsRight': WHATEVER THE INPUT: true; the input reads as it did. -/
def salvageMergeIsRightSpec : ChangeSpec := { name := "salvageMergeIsRight", fn := fun _ => fun
  | [d] => { results := [.lit (.bool true)], args := [d] }
  | _ => none }
def salvageMergeIsRightRow : OpenClaim := { program := "ytplddeboinhkbaagreatdoorrr", sum := "4eb46cb2c1cf2c0f480671d43cc1b15eb099449af00652a3c743b01df31cab12", func := "orangebox/orangeboxlaw4.SalvageMergeIsRight", spec := "salvageMergeIsRight", unfollowed := true, recurses := true, named := ["orangebox/frame.syncs"], apart := false, laid := [("orangebox/frame.syncs", laid_orangebox_frame_syncs)] }
def SalvageMergeIsRightSaid : Prop := salvageMergeIsRightRow.holds Tryz.pinned (OpenSpec.ofChange salvageMergeIsRightSpec)

/-- ITS FALSE NEIGHBOUR: 'it returns false'. Refute it at one input. -/
def salvageMergeIsRightWrong : ChangeSpec := { name := "salvageMergeIsRight", fn := fun _ => fun
  | [d] => { results := [.lit (.bool false)], args := [d] }
  | _ => none }
def SalvageMergeIsRightWrongFalsely : Prop := salvageMergeIsRightRow.holds Tryz.pinned (OpenSpec.ofChange salvageMergeIsRightWrong)

/- THE SECOND FORM. 'bulk': how many values and letters a reading holds, each counted each time it is reached (what is shared counts as often as it is met; a slice's spare places count too). A statement '..UptoSaid' is the law's where the arguments, and the package variables that the reading takes, are together of bulk at most 1048576: NARROWER than '..Said'. Prove '..Said' where nothing that the law and all that it calls make is longer than what came in: it says more and counts as full. Else prove '..UptoSaid'. A law counts once. -/
mutual
def uptoBulk {H : Type} : DataW H → Nat
  | .lit (.string bytes) => bytes.length + 1
  | .lit _ => 1
  | .nil => 1
  | .ptr d => uptoBulk d + 1
  | .slice elems spare => uptoBulkAll elems + uptoBulkAll spare + 1
  | .agg parts => uptoBulkAll parts + 1
  | .iface _ d => uptoBulk d + 1
  | .map entries => uptoBulkEntries entries + 1
  | .held _ => 1
def uptoBulkAll {H : Type} : List (DataW H) → Nat
  | [] => 0
  | d :: r => uptoBulk d + uptoBulkAll r
def uptoBulkEntries {H : Type} : List (Lit × DataW H) → Nat
  | [] => 0
  | x :: r => uptoBulkEntry x + uptoBulkEntries r
def uptoBulkEntry {H : Type} : Lit × DataW H → Nat
  | (.string bytes, d) => bytes.length + uptoBulk d + 1
  | (_, d) => uptoBulk d + 1
 end
def uptoSmall : (H : Type) → List (DataW H) → Bool := fun _ ds => decide (uptoBulkAll ds ≤ 1048576)
def OpenSpec.upto (s : _root_.Go.ChangeSpec) : _root_.Go.OpenSpec := { _root_.Go.OpenSpec.ofChange s with cond := some uptoSmall }

/-- 'orangeboxlaw4.SalvageMergeMatchesSpec', WHERE WHAT IT READS IS OF BULK AT MOST 1048576: true; the input reads as it did. -/
def salvageMergeMatchesSpecUptoRow : OpenClaim := { program := "ytplddeboinhkbaagreatdoorrr", sum := "4eb46cb2c1cf2c0f480671d43cc1b15eb099449af00652a3c743b01df31cab12", func := "orangebox/orangeboxlaw4.SalvageMergeMatchesSpec", spec := "salvageMergeMatchesSpec", unfollowed := true, recurses := true, named := ["orangebox/frame.syncs"], apart := false, laid := [("orangebox/frame.syncs", laid_orangebox_frame_syncs)], narrowed := true }
def SalvageMergeMatchesSpecUptoSaid : Prop := salvageMergeMatchesSpecUptoRow.holds Tryz.pinned (OpenSpec.upto salvageMergeMatchesSpecSpec)

/-- 'orangeboxlaw4.SalvageMergeIsRight', WHERE WHAT IT READS IS OF BULK AT MOST 1048576: true; the input reads as it did. -/
def salvageMergeIsRightUptoRow : OpenClaim := { program := "ytplddeboinhkbaagreatdoorrr", sum := "4eb46cb2c1cf2c0f480671d43cc1b15eb099449af00652a3c743b01df31cab12", func := "orangebox/orangeboxlaw4.SalvageMergeIsRight", spec := "salvageMergeIsRight", unfollowed := true, recurses := true, named := ["orangebox/frame.syncs"], apart := false, laid := [("orangebox/frame.syncs", laid_orangebox_frame_syncs)], narrowed := true }
def SalvageMergeIsRightUptoSaid : Prop := salvageMergeIsRightUptoRow.holds Tryz.pinned (OpenSpec.upto salvageMergeIsRightSpec)

end Rows
end Go.Proofs.YtplddeboinhkbaaGreatDoorRR

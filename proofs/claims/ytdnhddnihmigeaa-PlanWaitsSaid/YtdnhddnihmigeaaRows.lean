/-
  No cell of these rows narrows 'for every input' (looked for: loops, veiled, ifaces, maps, wideKeys, modest, calm, conditions, laid).
  DERIVED. THE GIVEN ROWS OF THIS SEAT. 11 by the template 'for every input the law returns true; each argument reads behind the call as it read before'; 0 by the template 'total and deterministic' (their statements: YtdnhddnihmigeaaTotals.lean).
  GIVEN WITH THE SEED: the statements are not yours to turn. If you find one false, say at which input.
  Laid BY PROGRAM, IN A SANDBOX (cutbox-rows.mjs): the forced cells as the released guide's own fill.sh prints them over the translation 505e779d1546c015… (all of the seat's roots in one cut). By AI agents, Wed Nov 11 2026. No macro, syntax, notation, axiom, sorry.
-/
import Derived.Test.YtdnhddnihmigeaaChecked
import GoSem.Claim
import GoSem.ClaimJoined
import GoSem.ClaimMapViews
import Derived.JoinedTies
import Derived.KernelRfl
namespace Go.Proofs.Ytdnhddnihmigeaa
/- THE CELL 'sum', in the pinned program and in every row, IS THE sha256 OF THE DUMP (.gsa) THAT YtdnhddnihmigeaaProg.lean LOADS. Nothing in Lean hashes anything: it is a label: what it is worth is what the hold of that sum in a sandbox is worth. -/
noncomputable def Try.pinned : Pinned := { name := "ytdnhddnihmigeaa", sum := "505e779d1546c015c7cb771ae97cd0329d826c73c15af361b49e185025c78a4b", checked := Try.checked }
namespace Rows
def none {H : Type} : Left H := { results := [], args := [] }

/-- 'switchbacklaw16.PlanNext': WHATEVER THE INPUT: true; the input reads as it did. -/
def planNextSpec : ChangeSpec := { name := "planNext", fn := fun _ => fun
  | [d1, d2, d3] => { results := [.lit (.bool true)], args := [d1, d2, d3] }
  | _ => none }
def planNextRow : OpenClaim := { program := "ytdnhddnihmigeaa", sum := "505e779d1546c015c7cb771ae97cd0329d826c73c15af361b49e185025c78a4b", func := "switchback/switchbacklaw16.PlanNext", spec := "planNext", apart := false }
def PlanNextSaid : Prop := planNextRow.holds Try.pinned (OpenSpec.ofChange planNextSpec)

/-- ITS FALSE NEIGHBOUR: 'it returns false'. Refute it at one input. -/
def planNextWrong : ChangeSpec := { name := "planNext", fn := fun _ => fun
  | [d1, d2, d3] => { results := [.lit (.bool false)], args := [d1, d2, d3] }
  | _ => none }
def PlanNextWrongFalsely : Prop := planNextRow.holds Try.pinned (OpenSpec.ofChange planNextWrong)

/-- 'switchbacklaw16.PlanFull': WHATEVER THE INPUT: true; the input reads as it did. -/
def planFullSpec : ChangeSpec := { name := "planFull", fn := fun _ => fun
  | [d1, d2, d3] => { results := [.lit (.bool true)], args := [d1, d2, d3] }
  | _ => none }
def planFullRow : OpenClaim := { program := "ytdnhddnihmigeaa", sum := "505e779d1546c015c7cb771ae97cd0329d826c73c15af361b49e185025c78a4b", func := "switchback/switchbacklaw16.PlanFull", spec := "planFull", apart := false }
def PlanFullSaid : Prop := planFullRow.holds Try.pinned (OpenSpec.ofChange planFullSpec)

/-- ITS FALSE NEIGHBOUR: 'it returns false'. Refute it at one input. -/
def planFullWrong : ChangeSpec := { name := "planFull", fn := fun _ => fun
  | [d1, d2, d3] => { results := [.lit (.bool false)], args := [d1, d2, d3] }
  | _ => none }
def PlanFullWrongFalsely : Prop := planFullRow.holds Try.pinned (OpenSpec.ofChange planFullWrong)

/-- 'switchbacklaw16.PlanWaits': WHATEVER THE INPUT: true; the input reads as it did. -/
def planWaitsSpec : ChangeSpec := { name := "planWaits", fn := fun _ => fun
  | [d1, d2] => { results := [.lit (.bool true)], args := [d1, d2] }
  | _ => none }
def planWaitsRow : OpenClaim := { program := "ytdnhddnihmigeaa", sum := "505e779d1546c015c7cb771ae97cd0329d826c73c15af361b49e185025c78a4b", func := "switchback/switchbacklaw16.PlanWaits", spec := "planWaits", apart := false }
def PlanWaitsSaid : Prop := planWaitsRow.holds Try.pinned (OpenSpec.ofChange planWaitsSpec)

/-- ITS FALSE NEIGHBOUR: 'it returns false'. Refute it at one input. -/
def planWaitsWrong : ChangeSpec := { name := "planWaits", fn := fun _ => fun
  | [d1, d2] => { results := [.lit (.bool false)], args := [d1, d2] }
  | _ => none }
def PlanWaitsWrongFalsely : Prop := planWaitsRow.holds Try.pinned (OpenSpec.ofChange planWaitsWrong)

/-- 'switchbacklaw16.PlanTime': WHATEVER THE INPUT: true; the input reads as it did. -/
def planTimeSpec : ChangeSpec := { name := "planTime", fn := fun _ => fun
  | [d1, d2, d3] => { results := [.lit (.bool true)], args := [d1, d2, d3] }
  | _ => none }
def planTimeRow : OpenClaim := { program := "ytdnhddnihmigeaa", sum := "505e779d1546c015c7cb771ae97cd0329d826c73c15af361b49e185025c78a4b", func := "switchback/switchbacklaw16.PlanTime", spec := "planTime", apart := false }
def PlanTimeSaid : Prop := planTimeRow.holds Try.pinned (OpenSpec.ofChange planTimeSpec)

/-- ITS FALSE NEIGHBOUR: 'it returns false'. Refute it at one input. -/
def planTimeWrong : ChangeSpec := { name := "planTime", fn := fun _ => fun
  | [d1, d2, d3] => { results := [.lit (.bool false)], args := [d1, d2, d3] }
  | _ => none }
def PlanTimeWrongFalsely : Prop := planTimeRow.holds Try.pinned (OpenSpec.ofChange planTimeWrong)

/-- 'switchbacklaw15.MayChecks': WHATEVER THE INPUT: true; the input reads as it did. -/
def mayChecksSpec : ChangeSpec := { name := "mayChecks", fn := fun _ => fun
  | [d1, d2, d3] => { results := [.lit (.bool true)], args := [d1, d2, d3] }
  | _ => none }
def mayChecksRow : OpenClaim := { program := "ytdnhddnihmigeaa", sum := "505e779d1546c015c7cb771ae97cd0329d826c73c15af361b49e185025c78a4b", func := "switchback/switchbacklaw15.MayChecks", spec := "mayChecks", apart := false }
def MayChecksSaid : Prop := mayChecksRow.holds Try.pinned (OpenSpec.ofChange mayChecksSpec)

/-- ITS FALSE NEIGHBOUR: 'it returns false'. Refute it at one input. -/
def mayChecksWrong : ChangeSpec := { name := "mayChecks", fn := fun _ => fun
  | [d1, d2, d3] => { results := [.lit (.bool false)], args := [d1, d2, d3] }
  | _ => none }
def MayChecksWrongFalsely : Prop := mayChecksRow.holds Try.pinned (OpenSpec.ofChange mayChecksWrong)

/-- 'switchbacklaw15.MayRecords': WHATEVER THE INPUT: true; the input reads as it did. -/
def mayRecordsSpec : ChangeSpec := { name := "mayRecords", fn := fun _ => fun
  | [d] => { results := [.lit (.bool true)], args := [d] }
  | _ => none }
def mayRecordsRow : OpenClaim := { program := "ytdnhddnihmigeaa", sum := "505e779d1546c015c7cb771ae97cd0329d826c73c15af361b49e185025c78a4b", func := "switchback/switchbacklaw15.MayRecords", spec := "mayRecords", apart := false }
def MayRecordsSaid : Prop := mayRecordsRow.holds Try.pinned (OpenSpec.ofChange mayRecordsSpec)

/-- ITS FALSE NEIGHBOUR: 'it returns false'. Refute it at one input. -/
def mayRecordsWrong : ChangeSpec := { name := "mayRecords", fn := fun _ => fun
  | [d] => { results := [.lit (.bool false)], args := [d] }
  | _ => none }
def MayRecordsWrongFalsely : Prop := mayRecordsRow.holds Try.pinned (OpenSpec.ofChange mayRecordsWrong)

/-- 'switchbacklaw15.MayPhases': WHATEVER THE INPUT: true; the input reads as it did. -/
def mayPhasesSpec : ChangeSpec := { name := "mayPhases", fn := fun _ => fun
  | [d1, d2, d3] => { results := [.lit (.bool true)], args := [d1, d2, d3] }
  | _ => none }
def mayPhasesRow : OpenClaim := { program := "ytdnhddnihmigeaa", sum := "505e779d1546c015c7cb771ae97cd0329d826c73c15af361b49e185025c78a4b", func := "switchback/switchbacklaw15.MayPhases", spec := "mayPhases", apart := false }
def MayPhasesSaid : Prop := mayPhasesRow.holds Try.pinned (OpenSpec.ofChange mayPhasesSpec)

/-- ITS FALSE NEIGHBOUR: 'it returns false'. Refute it at one input. -/
def mayPhasesWrong : ChangeSpec := { name := "mayPhases", fn := fun _ => fun
  | [d1, d2, d3] => { results := [.lit (.bool false)], args := [d1, d2, d3] }
  | _ => none }
def MayPhasesWrongFalsely : Prop := mayPhasesRow.holds Try.pinned (OpenSpec.ofChange mayPhasesWrong)

/-- 'switchbacklaw15.MayDeploys': WHATEVER THE INPUT: true; the input reads as it did. -/
def mayDeploysSpec : ChangeSpec := { name := "mayDeploys", fn := fun _ => fun
  | [d1, d2, d3] => { results := [.lit (.bool true)], args := [d1, d2, d3] }
  | _ => none }
def mayDeploysRow : OpenClaim := { program := "ytdnhddnihmigeaa", sum := "505e779d1546c015c7cb771ae97cd0329d826c73c15af361b49e185025c78a4b", func := "switchback/switchbacklaw15.MayDeploys", spec := "mayDeploys", apart := false }
def MayDeploysSaid : Prop := mayDeploysRow.holds Try.pinned (OpenSpec.ofChange mayDeploysSpec)

/-- ITS FALSE NEIGHBOUR: 'it returns false'. Refute it at one input. -/
def mayDeploysWrong : ChangeSpec := { name := "mayDeploys", fn := fun _ => fun
  | [d1, d2, d3] => { results := [.lit (.bool false)], args := [d1, d2, d3] }
  | _ => none }
def MayDeploysWrongFalsely : Prop := mayDeploysRow.holds Try.pinned (OpenSpec.ofChange mayDeploysWrong)

/-- 'switchbacklaw16.PlanSafe': WHATEVER THE INPUT: true; the input reads as it did. -/
def planSafeSpec : ChangeSpec := { name := "planSafe", fn := fun _ => fun
  | [d1, d2, d3] => { results := [.lit (.bool true)], args := [d1, d2, d3] }
  | _ => none }
def planSafeRow : OpenClaim := { program := "ytdnhddnihmigeaa", sum := "505e779d1546c015c7cb771ae97cd0329d826c73c15af361b49e185025c78a4b", func := "switchback/switchbacklaw16.PlanSafe", spec := "planSafe", unfollowed := true, recurses := true, apart := false }
def PlanSafeSaid : Prop := planSafeRow.holds Try.pinned (OpenSpec.ofChange planSafeSpec)

/-- ITS FALSE NEIGHBOUR: 'it returns false'. Refute it at one input. -/
def planSafeWrong : ChangeSpec := { name := "planSafe", fn := fun _ => fun
  | [d1, d2, d3] => { results := [.lit (.bool false)], args := [d1, d2, d3] }
  | _ => none }
def PlanSafeWrongFalsely : Prop := planSafeRow.holds Try.pinned (OpenSpec.ofChange planSafeWrong)

/-- 'switchbacklaw16.PlanSteps': WHATEVER THE INPUT: true; the input reads as it did. -/
def planStepsSpec : ChangeSpec := { name := "planSteps", fn := fun _ => fun
  | [d1, d2, d3] => { results := [.lit (.bool true)], args := [d1, d2, d3] }
  | _ => none }
def planStepsRow : OpenClaim := { program := "ytdnhddnihmigeaa", sum := "505e779d1546c015c7cb771ae97cd0329d826c73c15af361b49e185025c78a4b", func := "switchback/switchbacklaw16.PlanSteps", spec := "planSteps", unfollowed := true, recurses := true, apart := false }
def PlanStepsSaid : Prop := planStepsRow.holds Try.pinned (OpenSpec.ofChange planStepsSpec)

/-- ITS FALSE NEIGHBOUR: 'it returns false'. Refute it at one input. -/
def planStepsWrong : ChangeSpec := { name := "planSteps", fn := fun _ => fun
  | [d1, d2, d3] => { results := [.lit (.bool false)], args := [d1, d2, d3] }
  | _ => none }
def PlanStepsWrongFalsely : Prop := planStepsRow.holds Try.pinned (OpenSpec.ofChange planStepsWrong)

/-- 'switchbacklaw15.MayFolds': WHATEVER THE INPUT: true; the input reads as it did. -/
def mayFoldsSpec : ChangeSpec := { name := "mayFolds", fn := fun _ => fun
  | [d1, d2, d3] => { results := [.lit (.bool true)], args := [d1, d2, d3] }
  | _ => none }
def mayFoldsRow : OpenClaim := { program := "ytdnhddnihmigeaa", sum := "505e779d1546c015c7cb771ae97cd0329d826c73c15af361b49e185025c78a4b", func := "switchback/switchbacklaw15.MayFolds", spec := "mayFolds", unfollowed := true, recurses := true, apart := false }
def MayFoldsSaid : Prop := mayFoldsRow.holds Try.pinned (OpenSpec.ofChange mayFoldsSpec)

/-- ITS FALSE NEIGHBOUR: 'it returns false'. Refute it at one input. -/
def mayFoldsWrong : ChangeSpec := { name := "mayFolds", fn := fun _ => fun
  | [d1, d2, d3] => { results := [.lit (.bool false)], args := [d1, d2, d3] }
  | _ => none }
def MayFoldsWrongFalsely : Prop := mayFoldsRow.holds Try.pinned (OpenSpec.ofChange mayFoldsWrong)

/- THE SECOND FORM. 'bulk': how many values and letters a reading holds, each counted each time it is reached (what is shared counts as often as it is met; a slice's spare places count too). A statement '..UptoSaid' is the law's where the arguments, and the package variables that the reading takes, are together of bulk at most 1048576: NARROWER than '..Said'. Prove '..Said' where nothing that the law and all that it calls make is longer than what came in: it says more and counts as full. Else prove '..UptoSaid'. A law counts once. -/
mutual
def uptoBulk {H : Type} : DataW H → Nat
  | .lit (.string bytes) => bytes.length + 1
  | .lit _ => 1
  | .nil => 1
  | .ptr d => uptoBulk d + 1
  | .slice elems spare => uptoBulkAll elems + uptoBulkAll spare + 1
  | .agg parts => uptoBulkAll parts + 1
  | .iface _ d => uptoBulk d + 1
  | .map entries => uptoBulkEntries entries + 1
  | .held _ => 1
def uptoBulkAll {H : Type} : List (DataW H) → Nat
  | [] => 0
  | d :: r => uptoBulk d + uptoBulkAll r
def uptoBulkEntries {H : Type} : List (Lit × DataW H) → Nat
  | [] => 0
  | x :: r => uptoBulkEntry x + uptoBulkEntries r
def uptoBulkEntry {H : Type} : Lit × DataW H → Nat
  | (.string bytes, d) => bytes.length + uptoBulk d + 1
  | (_, d) => uptoBulk d + 1
 end
def uptoSmall : (H : Type) → List (DataW H) → Bool := fun _ ds => decide (uptoBulkAll ds ≤ 1048576)
def OpenSpec.upto (s : _root_.Go.ChangeSpec) : _root_.Go.OpenSpec := { _root_.Go.OpenSpec.ofChange s with cond := some uptoSmall }

/-- 'switchbacklaw16.PlanNext', WHERE WHAT IT READS IS OF BULK AT MOST 1048576: true; the input reads as it did. -/
def planNextUptoRow : OpenClaim := { program := "ytdnhddnihmigeaa", sum := "505e779d1546c015c7cb771ae97cd0329d826c73c15af361b49e185025c78a4b", func := "switchback/switchbacklaw16.PlanNext", spec := "planNext", apart := false, narrowed := true }
def PlanNextUptoSaid : Prop := planNextUptoRow.holds Try.pinned (OpenSpec.upto planNextSpec)

/-- 'switchbacklaw16.PlanFull', WHERE WHAT IT READS IS OF BULK AT MOST 1048576: true; the input reads as it did. -/
def planFullUptoRow : OpenClaim := { program := "ytdnhddnihmigeaa", sum := "505e779d1546c015c7cb771ae97cd0329d826c73c15af361b49e185025c78a4b", func := "switchback/switchbacklaw16.PlanFull", spec := "planFull", apart := false, narrowed := true }
def PlanFullUptoSaid : Prop := planFullUptoRow.holds Try.pinned (OpenSpec.upto planFullSpec)

/-- 'switchbacklaw16.PlanWaits', WHERE WHAT IT READS IS OF BULK AT MOST 1048576: true; the input reads as it did. -/
def planWaitsUptoRow : OpenClaim := { program := "ytdnhddnihmigeaa", sum := "505e779d1546c015c7cb771ae97cd0329d826c73c15af361b49e185025c78a4b", func := "switchback/switchbacklaw16.PlanWaits", spec := "planWaits", apart := false, narrowed := true }
def PlanWaitsUptoSaid : Prop := planWaitsUptoRow.holds Try.pinned (OpenSpec.upto planWaitsSpec)

/-- 'switchbacklaw16.PlanTime', WHERE WHAT IT READS IS OF BULK AT MOST 1048576: true; the input reads as it did. -/
def planTimeUptoRow : OpenClaim := { program := "ytdnhddnihmigeaa", sum := "505e779d1546c015c7cb771ae97cd0329d826c73c15af361b49e185025c78a4b", func := "switchback/switchbacklaw16.PlanTime", spec := "planTime", apart := false, narrowed := true }
def PlanTimeUptoSaid : Prop := planTimeUptoRow.holds Try.pinned (OpenSpec.upto planTimeSpec)

/-- 'switchbacklaw15.MayChecks', WHERE WHAT IT READS IS OF BULK AT MOST 1048576: true; the input reads as it did. -/
def mayChecksUptoRow : OpenClaim := { program := "ytdnhddnihmigeaa", sum := "505e779d1546c015c7cb771ae97cd0329d826c73c15af361b49e185025c78a4b", func := "switchback/switchbacklaw15.MayChecks", spec := "mayChecks", apart := false, narrowed := true }
def MayChecksUptoSaid : Prop := mayChecksUptoRow.holds Try.pinned (OpenSpec.upto mayChecksSpec)

/-- 'switchbacklaw15.MayRecords', WHERE WHAT IT READS IS OF BULK AT MOST 1048576: true; the input reads as it did. -/
def mayRecordsUptoRow : OpenClaim := { program := "ytdnhddnihmigeaa", sum := "505e779d1546c015c7cb771ae97cd0329d826c73c15af361b49e185025c78a4b", func := "switchback/switchbacklaw15.MayRecords", spec := "mayRecords", apart := false, narrowed := true }
def MayRecordsUptoSaid : Prop := mayRecordsUptoRow.holds Try.pinned (OpenSpec.upto mayRecordsSpec)

/-- 'switchbacklaw15.MayPhases', WHERE WHAT IT READS IS OF BULK AT MOST 1048576: true; the input reads as it did. -/
def mayPhasesUptoRow : OpenClaim := { program := "ytdnhddnihmigeaa", sum := "505e779d1546c015c7cb771ae97cd0329d826c73c15af361b49e185025c78a4b", func := "switchback/switchbacklaw15.MayPhases", spec := "mayPhases", apart := false, narrowed := true }
def MayPhasesUptoSaid : Prop := mayPhasesUptoRow.holds Try.pinned (OpenSpec.upto mayPhasesSpec)

/-- 'switchbacklaw15.MayDeploys', WHERE WHAT IT READS IS OF BULK AT MOST 1048576: true; the input reads as it did. -/
def mayDeploysUptoRow : OpenClaim := { program := "ytdnhddnihmigeaa", sum := "505e779d1546c015c7cb771ae97cd0329d826c73c15af361b49e185025c78a4b", func := "switchback/switchbacklaw15.MayDeploys", spec := "mayDeploys", apart := false, narrowed := true }
def MayDeploysUptoSaid : Prop := mayDeploysUptoRow.holds Try.pinned (OpenSpec.upto mayDeploysSpec)

/-- 'switchbacklaw16.PlanSafe', WHERE WHAT IT READS IS OF BULK AT MOST 1048576: true; the input reads as it did. -/
def planSafeUptoRow : OpenClaim := { program := "ytdnhddnihmigeaa", sum := "505e779d1546c015c7cb771ae97cd0329d826c73c15af361b49e185025c78a4b", func := "switchback/switchbacklaw16.PlanSafe", spec := "planSafe", unfollowed := true, recurses := true, apart := false, narrowed := true }
def PlanSafeUptoSaid : Prop := planSafeUptoRow.holds Try.pinned (OpenSpec.upto planSafeSpec)

/-- 'switchbacklaw16.PlanSteps', WHERE WHAT IT READS IS OF BULK AT MOST 1048576: true; the input reads as it did. -/
def planStepsUptoRow : OpenClaim := { program := "ytdnhddnihmigeaa", sum := "505e779d1546c015c7cb771ae97cd0329d826c73c15af361b49e185025c78a4b", func := "switchback/switchbacklaw16.PlanSteps", spec := "planSteps", unfollowed := true, recurses := true, apart := false, narrowed := true }
def PlanStepsUptoSaid : Prop := planStepsUptoRow.holds Try.pinned (OpenSpec.upto planStepsSpec)

/-- 'switchbacklaw15.MayFolds', WHERE WHAT IT READS IS OF BULK AT MOST 1048576: true; the input reads as it did. -/
def mayFoldsUptoRow : OpenClaim := { program := "ytdnhddnihmigeaa", sum := "505e779d1546c015c7cb771ae97cd0329d826c73c15af361b49e185025c78a4b", func := "switchback/switchbacklaw15.MayFolds", spec := "mayFolds", unfollowed := true, recurses := true, apart := false, narrowed := true }
def MayFoldsUptoSaid : Prop := mayFoldsUptoRow.holds Try.pinned (OpenSpec.upto mayFoldsSpec)

end Rows
end Go.Proofs.Ytdnhddnihmigeaa

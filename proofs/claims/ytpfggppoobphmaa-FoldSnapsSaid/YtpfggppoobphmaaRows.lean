/-
  No cell of these rows narrows 'for every input' (looked for: loops, veiled, ifaces, maps, wideKeys, modest, calm, conditions, laid).
  DERIVED. THE GIVEN ROWS OF THIS SEAT. 8 by the template 'for every input the law returns true; each argument reads behind the call as it read before'; 0 by the template 'total and deterministic' (their statements: YtpfggppoobphmaaTotals.lean).
  GIVEN WITH THE SEED: the statements are not yours to turn. If you find one false, say at which input.
  Laid BY PROGRAM, IN A SANDBOX (cutbox-rows.mjs): the forced cells as the released guide's own fill.sh prints them over the translation 36e733eee38acc78… (all of the seat's roots in one cut). By AI agents, Wed Nov 11 2026. No macro, syntax, notation, axiom, sorry.
-/
import Derived.Test.YtpfggppoobphmaaChecked
import GoSem.Claim
import GoSem.ClaimJoined
import GoSem.ClaimMapViews
import Derived.JoinedTies
import Derived.KernelRfl
namespace Go.Proofs.Ytpfggppoobphmaa
/- THE CELL 'sum', in the pinned program and in every row, IS THE sha256 OF THE DUMP (.gsa) THAT YtpfggppoobphmaaProg.lean LOADS. Nothing in Lean hashes anything: it is a label: what it is worth is what the hold of that sum in a sandbox is worth. -/
noncomputable def Try.pinned : Pinned := { name := "ytpfggppoobphmaa", sum := "36e733eee38acc780c4a3710b0ccf6185ee3233d02e7329c115e924c85ee33c0", checked := Try.checked }
namespace Rows
def none {H : Type} : Left H := { results := [], args := [] }

/-- 'switchbacklaw10.FoldSteps': WHATEVER THE INPUT: true; the input reads as it did. -/
def foldStepsSpec : ChangeSpec := { name := "foldSteps", fn := fun _ => fun
  | [d1, d2] => { results := [.lit (.bool true)], args := [d1, d2] }
  | _ => none }
def foldStepsRow : OpenClaim := { program := "ytpfggppoobphmaa", sum := "36e733eee38acc780c4a3710b0ccf6185ee3233d02e7329c115e924c85ee33c0", func := "switchback/switchbacklaw10.FoldSteps", spec := "foldSteps", unfollowed := true, recurses := true, apart := false }
def FoldStepsSaid : Prop := foldStepsRow.holds Try.pinned (OpenSpec.ofChange foldStepsSpec)

/-- ITS FALSE NEIGHBOUR: 'it returns false'. Refute it at one input. -/
def foldStepsWrong : ChangeSpec := { name := "foldSteps", fn := fun _ => fun
  | [d1, d2] => { results := [.lit (.bool false)], args := [d1, d2] }
  | _ => none }
def FoldStepsWrongFalsely : Prop := foldStepsRow.holds Try.pinned (OpenSpec.ofChange foldStepsWrong)

/-- 'switchbacklaw10.FoldAll': WHATEVER THE INPUT: true; the input reads as it did. -/
def foldAllSpec : ChangeSpec := { name := "foldAll", fn := fun _ => fun
  | [d1, d2] => { results := [.lit (.bool true)], args := [d1, d2] }
  | _ => none }
def foldAllRow : OpenClaim := { program := "ytpfggppoobphmaa", sum := "36e733eee38acc780c4a3710b0ccf6185ee3233d02e7329c115e924c85ee33c0", func := "switchback/switchbacklaw10.FoldAll", spec := "foldAll", unfollowed := true, recurses := true, apart := false }
def FoldAllSaid : Prop := foldAllRow.holds Try.pinned (OpenSpec.ofChange foldAllSpec)

/-- ITS FALSE NEIGHBOUR: 'it returns false'. Refute it at one input. -/
def foldAllWrong : ChangeSpec := { name := "foldAll", fn := fun _ => fun
  | [d1, d2] => { results := [.lit (.bool false)], args := [d1, d2] }
  | _ => none }
def FoldAllWrongFalsely : Prop := foldAllRow.holds Try.pinned (OpenSpec.ofChange foldAllWrong)

/-- 'switchbacklaw10.FoldRight': WHATEVER THE INPUT: true; the input reads as it did. -/
def foldRightSpec : ChangeSpec := { name := "foldRight", fn := fun _ => fun
  | [d1, d2] => { results := [.lit (.bool true)], args := [d1, d2] }
  | _ => none }
def foldRightRow : OpenClaim := { program := "ytpfggppoobphmaa", sum := "36e733eee38acc780c4a3710b0ccf6185ee3233d02e7329c115e924c85ee33c0", func := "switchback/switchbacklaw10.FoldRight", spec := "foldRight", unfollowed := true, recurses := true, apart := false }
def FoldRightSaid : Prop := foldRightRow.holds Try.pinned (OpenSpec.ofChange foldRightSpec)

/-- ITS FALSE NEIGHBOUR: 'it returns false'. Refute it at one input. -/
def foldRightWrong : ChangeSpec := { name := "foldRight", fn := fun _ => fun
  | [d1, d2] => { results := [.lit (.bool false)], args := [d1, d2] }
  | _ => none }
def FoldRightWrongFalsely : Prop := foldRightRow.holds Try.pinned (OpenSpec.ofChange foldRightWrong)

/-- 'switchbacklaw10.FoldRoutes': WHATEVER THE INPUT: true; the input reads as it did. -/
def foldRoutesSpec : ChangeSpec := { name := "foldRoutes", fn := fun _ => fun
  | [d1, d2] => { results := [.lit (.bool true)], args := [d1, d2] }
  | _ => none }
def foldRoutesRow : OpenClaim := { program := "ytpfggppoobphmaa", sum := "36e733eee38acc780c4a3710b0ccf6185ee3233d02e7329c115e924c85ee33c0", func := "switchback/switchbacklaw10.FoldRoutes", spec := "foldRoutes", unfollowed := true, recurses := true, apart := false }
def FoldRoutesSaid : Prop := foldRoutesRow.holds Try.pinned (OpenSpec.ofChange foldRoutesSpec)

/-- ITS FALSE NEIGHBOUR: 'it returns false'. Refute it at one input. -/
def foldRoutesWrong : ChangeSpec := { name := "foldRoutes", fn := fun _ => fun
  | [d1, d2] => { results := [.lit (.bool false)], args := [d1, d2] }
  | _ => none }
def FoldRoutesWrongFalsely : Prop := foldRoutesRow.holds Try.pinned (OpenSpec.ofChange foldRoutesWrong)

/-- 'switchbacklaw10.FoldGens': WHATEVER THE INPUT: true; the input reads as it did. -/
def foldGensSpec : ChangeSpec := { name := "foldGens", fn := fun _ => fun
  | [d1, d2] => { results := [.lit (.bool true)], args := [d1, d2] }
  | _ => none }
def foldGensRow : OpenClaim := { program := "ytpfggppoobphmaa", sum := "36e733eee38acc780c4a3710b0ccf6185ee3233d02e7329c115e924c85ee33c0", func := "switchback/switchbacklaw10.FoldGens", spec := "foldGens", unfollowed := true, recurses := true, apart := false }
def FoldGensSaid : Prop := foldGensRow.holds Try.pinned (OpenSpec.ofChange foldGensSpec)

/-- ITS FALSE NEIGHBOUR: 'it returns false'. Refute it at one input. -/
def foldGensWrong : ChangeSpec := { name := "foldGens", fn := fun _ => fun
  | [d1, d2] => { results := [.lit (.bool false)], args := [d1, d2] }
  | _ => none }
def FoldGensWrongFalsely : Prop := foldGensRow.holds Try.pinned (OpenSpec.ofChange foldGensWrong)

/-- 'switchbacklaw10.FoldSnaps': WHATEVER THE INPUT: true; the input reads as it did. -/
def foldSnapsSpec : ChangeSpec := { name := "foldSnaps", fn := fun _ => fun
  | [d1, d2, d3] => { results := [.lit (.bool true)], args := [d1, d2, d3] }
  | _ => none }
def foldSnapsRow : OpenClaim := { program := "ytpfggppoobphmaa", sum := "36e733eee38acc780c4a3710b0ccf6185ee3233d02e7329c115e924c85ee33c0", func := "switchback/switchbacklaw10.FoldSnaps", spec := "foldSnaps", unfollowed := true, recurses := true, apart := false }
def FoldSnapsSaid : Prop := foldSnapsRow.holds Try.pinned (OpenSpec.ofChange foldSnapsSpec)

/-- ITS FALSE NEIGHBOUR: 'it returns false'. Refute it at one input. -/
def foldSnapsWrong : ChangeSpec := { name := "foldSnaps", fn := fun _ => fun
  | [d1, d2, d3] => { results := [.lit (.bool false)], args := [d1, d2, d3] }
  | _ => none }
def FoldSnapsWrongFalsely : Prop := foldSnapsRow.holds Try.pinned (OpenSpec.ofChange foldSnapsWrong)

/-- 'switchbacklaw10.FoldDeploy': WHATEVER THE INPUT: true; the input reads as it did. -/
def foldDeploySpec : ChangeSpec := { name := "foldDeploy", fn := fun _ => fun
  | [d1, d2] => { results := [.lit (.bool true)], args := [d1, d2] }
  | _ => none }
def foldDeployRow : OpenClaim := { program := "ytpfggppoobphmaa", sum := "36e733eee38acc780c4a3710b0ccf6185ee3233d02e7329c115e924c85ee33c0", func := "switchback/switchbacklaw10.FoldDeploy", spec := "foldDeploy", unfollowed := true, recurses := true, apart := false }
def FoldDeploySaid : Prop := foldDeployRow.holds Try.pinned (OpenSpec.ofChange foldDeploySpec)

/-- ITS FALSE NEIGHBOUR: 'it returns false'. Refute it at one input. -/
def foldDeployWrong : ChangeSpec := { name := "foldDeploy", fn := fun _ => fun
  | [d1, d2] => { results := [.lit (.bool false)], args := [d1, d2] }
  | _ => none }
def FoldDeployWrongFalsely : Prop := foldDeployRow.holds Try.pinned (OpenSpec.ofChange foldDeployWrong)

/-- 'switchbacklaw10.FoldPhases': WHATEVER THE INPUT: true; the input reads as it did. -/
def foldPhasesSpec : ChangeSpec := { name := "foldPhases", fn := fun _ => fun
  | [d1, d2] => { results := [.lit (.bool true)], args := [d1, d2] }
  | _ => none }
def foldPhasesRow : OpenClaim := { program := "ytpfggppoobphmaa", sum := "36e733eee38acc780c4a3710b0ccf6185ee3233d02e7329c115e924c85ee33c0", func := "switchback/switchbacklaw10.FoldPhases", spec := "foldPhases", unfollowed := true, recurses := true, apart := false }
def FoldPhasesSaid : Prop := foldPhasesRow.holds Try.pinned (OpenSpec.ofChange foldPhasesSpec)

/-- ITS FALSE NEIGHBOUR: 'it returns false'. Refute it at one input. -/
def foldPhasesWrong : ChangeSpec := { name := "foldPhases", fn := fun _ => fun
  | [d1, d2] => { results := [.lit (.bool false)], args := [d1, d2] }
  | _ => none }
def FoldPhasesWrongFalsely : Prop := foldPhasesRow.holds Try.pinned (OpenSpec.ofChange foldPhasesWrong)

/- THE SECOND FORM. 'bulk': how many values and letters a reading holds, each counted each time it is reached (what is shared counts as often as it is met; a slice's spare places count too). A statement '..UptoSaid' is the law's where the arguments, and the package variables that the reading takes, are together of bulk at most 1048576: NARROWER than '..Said'. Prove '..Said' where nothing that the law and all that it calls make is longer than what came in: it says more and counts as full. Else prove '..UptoSaid'. A law counts once. -/
mutual
def uptoBulk {H : Type} : DataW H → Nat
  | .lit (.string bytes) => bytes.length + 1
  | .lit _ => 1
  | .nil => 1
  | .ptr d => uptoBulk d + 1
  | .slice elems spare => uptoBulkAll elems + uptoBulkAll spare + 1
  | .agg parts => uptoBulkAll parts + 1
  | .iface _ d => uptoBulk d + 1
  | .map entries => uptoBulkEntries entries + 1
  | .held _ => 1
def uptoBulkAll {H : Type} : List (DataW H) → Nat
  | [] => 0
  | d :: r => uptoBulk d + uptoBulkAll r
def uptoBulkEntries {H : Type} : List (Lit × DataW H) → Nat
  | [] => 0
  | x :: r => uptoBulkEntry x + uptoBulkEntries r
def uptoBulkEntry {H : Type} : Lit × DataW H → Nat
  | (.string bytes, d) => bytes.length + uptoBulk d + 1
  | (_, d) => uptoBulk d + 1
 end
def uptoSmall : (H : Type) → List (DataW H) → Bool := fun _ ds => decide (uptoBulkAll ds ≤ 1048576)
def OpenSpec.upto (s : _root_.Go.ChangeSpec) : _root_.Go.OpenSpec := { _root_.Go.OpenSpec.ofChange s with cond := some uptoSmall }

/-- 'switchbacklaw10.FoldSteps', WHERE WHAT IT READS IS OF BULK AT MOST 1048576: true; the input reads as it did. -/
def foldStepsUptoRow : OpenClaim := { program := "ytpfggppoobphmaa", sum := "36e733eee38acc780c4a3710b0ccf6185ee3233d02e7329c115e924c85ee33c0", func := "switchback/switchbacklaw10.FoldSteps", spec := "foldSteps", unfollowed := true, recurses := true, apart := false, narrowed := true }
def FoldStepsUptoSaid : Prop := foldStepsUptoRow.holds Try.pinned (OpenSpec.upto foldStepsSpec)

/-- 'switchbacklaw10.FoldAll', WHERE WHAT IT READS IS OF BULK AT MOST 1048576: true; the input reads as it did. -/
def foldAllUptoRow : OpenClaim := { program := "ytpfggppoobphmaa", sum := "36e733eee38acc780c4a3710b0ccf6185ee3233d02e7329c115e924c85ee33c0", func := "switchback/switchbacklaw10.FoldAll", spec := "foldAll", unfollowed := true, recurses := true, apart := false, narrowed := true }
def FoldAllUptoSaid : Prop := foldAllUptoRow.holds Try.pinned (OpenSpec.upto foldAllSpec)

/-- 'switchbacklaw10.FoldRight', WHERE WHAT IT READS IS OF BULK AT MOST 1048576: true; the input reads as it did. -/
def foldRightUptoRow : OpenClaim := { program := "ytpfggppoobphmaa", sum := "36e733eee38acc780c4a3710b0ccf6185ee3233d02e7329c115e924c85ee33c0", func := "switchback/switchbacklaw10.FoldRight", spec := "foldRight", unfollowed := true, recurses := true, apart := false, narrowed := true }
def FoldRightUptoSaid : Prop := foldRightUptoRow.holds Try.pinned (OpenSpec.upto foldRightSpec)

/-- 'switchbacklaw10.FoldRoutes', WHERE WHAT IT READS IS OF BULK AT MOST 1048576: true; the input reads as it did. -/
def foldRoutesUptoRow : OpenClaim := { program := "ytpfggppoobphmaa", sum := "36e733eee38acc780c4a3710b0ccf6185ee3233d02e7329c115e924c85ee33c0", func := "switchback/switchbacklaw10.FoldRoutes", spec := "foldRoutes", unfollowed := true, recurses := true, apart := false, narrowed := true }
def FoldRoutesUptoSaid : Prop := foldRoutesUptoRow.holds Try.pinned (OpenSpec.upto foldRoutesSpec)

/-- 'switchbacklaw10.FoldGens', WHERE WHAT IT READS IS OF BULK AT MOST 1048576: true; the input reads as it did. -/
def foldGensUptoRow : OpenClaim := { program := "ytpfggppoobphmaa", sum := "36e733eee38acc780c4a3710b0ccf6185ee3233d02e7329c115e924c85ee33c0", func := "switchback/switchbacklaw10.FoldGens", spec := "foldGens", unfollowed := true, recurses := true, apart := false, narrowed := true }
def FoldGensUptoSaid : Prop := foldGensUptoRow.holds Try.pinned (OpenSpec.upto foldGensSpec)

/-- 'switchbacklaw10.FoldSnaps', WHERE WHAT IT READS IS OF BULK AT MOST 1048576: true; the input reads as it did. -/
def foldSnapsUptoRow : OpenClaim := { program := "ytpfggppoobphmaa", sum := "36e733eee38acc780c4a3710b0ccf6185ee3233d02e7329c115e924c85ee33c0", func := "switchback/switchbacklaw10.FoldSnaps", spec := "foldSnaps", unfollowed := true, recurses := true, apart := false, narrowed := true }
def FoldSnapsUptoSaid : Prop := foldSnapsUptoRow.holds Try.pinned (OpenSpec.upto foldSnapsSpec)

/-- 'switchbacklaw10.FoldDeploy', WHERE WHAT IT READS IS OF BULK AT MOST 1048576: true; the input reads as it did. -/
def foldDeployUptoRow : OpenClaim := { program := "ytpfggppoobphmaa", sum := "36e733eee38acc780c4a3710b0ccf6185ee3233d02e7329c115e924c85ee33c0", func := "switchback/switchbacklaw10.FoldDeploy", spec := "foldDeploy", unfollowed := true, recurses := true, apart := false, narrowed := true }
def FoldDeployUptoSaid : Prop := foldDeployUptoRow.holds Try.pinned (OpenSpec.upto foldDeploySpec)

/-- 'switchbacklaw10.FoldPhases', WHERE WHAT IT READS IS OF BULK AT MOST 1048576: true; the input reads as it did. -/
def foldPhasesUptoRow : OpenClaim := { program := "ytpfggppoobphmaa", sum := "36e733eee38acc780c4a3710b0ccf6185ee3233d02e7329c115e924c85ee33c0", func := "switchback/switchbacklaw10.FoldPhases", spec := "foldPhases", unfollowed := true, recurses := true, apart := false, narrowed := true }
def FoldPhasesUptoSaid : Prop := foldPhasesUptoRow.holds Try.pinned (OpenSpec.upto foldPhasesSpec)

end Rows
end Go.Proofs.Ytpfggppoobphmaa

/-
  No cell of these rows narrows 'for every input' (looked for: loops, veiled, ifaces, maps, wideKeys, modest, calm, conditions, laid).
  DERIVED. THE GIVEN ROWS OF THIS SEAT. 7 by the template 'for every input the law returns true; each argument reads behind the call as it read before'; 0 by the template 'total and deterministic' (their statements: YtpebebhjmnmcbaaTotals.lean).
  GIVEN WITH THE SEED: the statements are not yours to turn. If you find one false, say at which input.
  Laid BY PROGRAM, IN A SANDBOX (cutbox-rows.mjs): the forced cells as the released guide's own fill.sh prints them over the translation 20396375330ea2a6… (all of the seat's roots in one cut). By AI agents, Wed Nov 11 2026. No macro, syntax, notation, axiom, sorry.
-/
import Derived.Test.YtpebebhjmnmcbaaChecked
import GoSem.Claim
import GoSem.ClaimJoined
import GoSem.ClaimMapViews
import Derived.JoinedTies
import Derived.KernelRfl
namespace Go.Proofs.Ytpebebhjmnmcbaa
/- THE CELL 'sum', in the pinned program and in every row, IS THE sha256 OF THE DUMP (.gsa) THAT YtpebebhjmnmcbaaProg.lean LOADS. Nothing in Lean hashes anything: it is a label: what it is worth is what the hold of that sum in a sandbox is worth. -/
noncomputable def Try.pinned : Pinned := { name := "ytpebebhjmnmcbaa", sum := "20396375330ea2a601e7141fd58f6d6f49545d700b6eb5e614662447f15deba6", checked := Try.checked }
namespace Rows
def none {H : Type} : Left H := { results := [], args := [] }

/-- 'switchbacklaw17.ModelSettles': WHATEVER THE INPUT: true; the input reads as it did. -/
def modelSettlesSpec : ChangeSpec := { name := "modelSettles", fn := fun _ => fun
  | [d1, d2] => { results := [.lit (.bool true)], args := [d1, d2] }
  | _ => none }
def modelSettlesRow : OpenClaim := { program := "ytpebebhjmnmcbaa", sum := "20396375330ea2a601e7141fd58f6d6f49545d700b6eb5e614662447f15deba6", func := "switchback/switchbacklaw17.ModelSettles", spec := "modelSettles", unfollowed := true, recurses := true, apart := false }
def ModelSettlesSaid : Prop := modelSettlesRow.holds Try.pinned (OpenSpec.ofChange modelSettlesSpec)

/-- ITS FALSE NEIGHBOUR: 'it returns false'. Refute it at one input. -/
def modelSettlesWrong : ChangeSpec := { name := "modelSettles", fn := fun _ => fun
  | [d1, d2] => { results := [.lit (.bool false)], args := [d1, d2] }
  | _ => none }
def ModelSettlesWrongFalsely : Prop := modelSettlesRow.holds Try.pinned (OpenSpec.ofChange modelSettlesWrong)

/-- 'switchbacklaw17.ModelTicks': WHATEVER THE INPUT: true; the input reads as it did. -/
def modelTicksSpec : ChangeSpec := { name := "modelTicks", fn := fun _ => fun
  | [d1, d2] => { results := [.lit (.bool true)], args := [d1, d2] }
  | _ => none }
def modelTicksRow : OpenClaim := { program := "ytpebebhjmnmcbaa", sum := "20396375330ea2a601e7141fd58f6d6f49545d700b6eb5e614662447f15deba6", func := "switchback/switchbacklaw17.ModelTicks", spec := "modelTicks", unfollowed := true, recurses := true, apart := false }
def ModelTicksSaid : Prop := modelTicksRow.holds Try.pinned (OpenSpec.ofChange modelTicksSpec)

/-- ITS FALSE NEIGHBOUR: 'it returns false'. Refute it at one input. -/
def modelTicksWrong : ChangeSpec := { name := "modelTicks", fn := fun _ => fun
  | [d1, d2] => { results := [.lit (.bool false)], args := [d1, d2] }
  | _ => none }
def ModelTicksWrongFalsely : Prop := modelTicksRow.holds Try.pinned (OpenSpec.ofChange modelTicksWrong)

/-- 'switchbacklaw17.ModelPlays': WHATEVER THE INPUT: true; the input reads as it did. -/
def modelPlaysSpec : ChangeSpec := { name := "modelPlays", fn := fun _ => fun
  | [d1, d2] => { results := [.lit (.bool true)], args := [d1, d2] }
  | _ => none }
def modelPlaysRow : OpenClaim := { program := "ytpebebhjmnmcbaa", sum := "20396375330ea2a601e7141fd58f6d6f49545d700b6eb5e614662447f15deba6", func := "switchback/switchbacklaw17.ModelPlays", spec := "modelPlays", unfollowed := true, recurses := true, apart := false }
def ModelPlaysSaid : Prop := modelPlaysRow.holds Try.pinned (OpenSpec.ofChange modelPlaysSpec)

/-- ITS FALSE NEIGHBOUR: 'it returns false'. Refute it at one input. -/
def modelPlaysWrong : ChangeSpec := { name := "modelPlays", fn := fun _ => fun
  | [d1, d2] => { results := [.lit (.bool false)], args := [d1, d2] }
  | _ => none }
def ModelPlaysWrongFalsely : Prop := modelPlaysRow.holds Try.pinned (OpenSpec.ofChange modelPlaysWrong)

/-- 'switchbacklaw17.ModelReplies': WHATEVER THE INPUT: true; the input reads as it did. -/
def modelRepliesSpec : ChangeSpec := { name := "modelReplies", fn := fun _ => fun
  | [d1, d2] => { results := [.lit (.bool true)], args := [d1, d2] }
  | _ => none }
def modelRepliesRow : OpenClaim := { program := "ytpebebhjmnmcbaa", sum := "20396375330ea2a601e7141fd58f6d6f49545d700b6eb5e614662447f15deba6", func := "switchback/switchbacklaw17.ModelReplies", spec := "modelReplies", unfollowed := true, recurses := true, apart := false }
def ModelRepliesSaid : Prop := modelRepliesRow.holds Try.pinned (OpenSpec.ofChange modelRepliesSpec)

/-- ITS FALSE NEIGHBOUR: 'it returns false'. Refute it at one input. -/
def modelRepliesWrong : ChangeSpec := { name := "modelReplies", fn := fun _ => fun
  | [d1, d2] => { results := [.lit (.bool false)], args := [d1, d2] }
  | _ => none }
def ModelRepliesWrongFalsely : Prop := modelRepliesRow.holds Try.pinned (OpenSpec.ofChange modelRepliesWrong)

/-- 'switchbacklaw17.ModelSwitches': WHATEVER THE INPUT: true; the input reads as it did. -/
def modelSwitchesSpec : ChangeSpec := { name := "modelSwitches", fn := fun _ => fun
  | [d1, d2] => { results := [.lit (.bool true)], args := [d1, d2] }
  | _ => none }
def modelSwitchesRow : OpenClaim := { program := "ytpebebhjmnmcbaa", sum := "20396375330ea2a601e7141fd58f6d6f49545d700b6eb5e614662447f15deba6", func := "switchback/switchbacklaw17.ModelSwitches", spec := "modelSwitches", unfollowed := true, recurses := true, apart := false }
def ModelSwitchesSaid : Prop := modelSwitchesRow.holds Try.pinned (OpenSpec.ofChange modelSwitchesSpec)

/-- ITS FALSE NEIGHBOUR: 'it returns false'. Refute it at one input. -/
def modelSwitchesWrong : ChangeSpec := { name := "modelSwitches", fn := fun _ => fun
  | [d1, d2] => { results := [.lit (.bool false)], args := [d1, d2] }
  | _ => none }
def ModelSwitchesWrongFalsely : Prop := modelSwitchesRow.holds Try.pinned (OpenSpec.ofChange modelSwitchesWrong)

/-- 'switchbacklaw17.ModelKeeps': WHATEVER THE INPUT: true; the input reads as it did. -/
def modelKeepsSpec : ChangeSpec := { name := "modelKeeps", fn := fun _ => fun
  | [d1, d2] => { results := [.lit (.bool true)], args := [d1, d2] }
  | _ => none }
def modelKeepsRow : OpenClaim := { program := "ytpebebhjmnmcbaa", sum := "20396375330ea2a601e7141fd58f6d6f49545d700b6eb5e614662447f15deba6", func := "switchback/switchbacklaw17.ModelKeeps", spec := "modelKeeps", unfollowed := true, recurses := true, apart := false }
def ModelKeepsSaid : Prop := modelKeepsRow.holds Try.pinned (OpenSpec.ofChange modelKeepsSpec)

/-- ITS FALSE NEIGHBOUR: 'it returns false'. Refute it at one input. -/
def modelKeepsWrong : ChangeSpec := { name := "modelKeeps", fn := fun _ => fun
  | [d1, d2] => { results := [.lit (.bool false)], args := [d1, d2] }
  | _ => none }
def ModelKeepsWrongFalsely : Prop := modelKeepsRow.holds Try.pinned (OpenSpec.ofChange modelKeepsWrong)

/-- 'switchbacklaw17.ModelAborts': WHATEVER THE INPUT: true; the input reads as it did. -/
def modelAbortsSpec : ChangeSpec := { name := "modelAborts", fn := fun _ => fun
  | [d1, d2] => { results := [.lit (.bool true)], args := [d1, d2] }
  | _ => none }
def modelAbortsRow : OpenClaim := { program := "ytpebebhjmnmcbaa", sum := "20396375330ea2a601e7141fd58f6d6f49545d700b6eb5e614662447f15deba6", func := "switchback/switchbacklaw17.ModelAborts", spec := "modelAborts", unfollowed := true, recurses := true, apart := false }
def ModelAbortsSaid : Prop := modelAbortsRow.holds Try.pinned (OpenSpec.ofChange modelAbortsSpec)

/-- ITS FALSE NEIGHBOUR: 'it returns false'. Refute it at one input. -/
def modelAbortsWrong : ChangeSpec := { name := "modelAborts", fn := fun _ => fun
  | [d1, d2] => { results := [.lit (.bool false)], args := [d1, d2] }
  | _ => none }
def ModelAbortsWrongFalsely : Prop := modelAbortsRow.holds Try.pinned (OpenSpec.ofChange modelAbortsWrong)

/- THE SECOND FORM. 'bulk': how many values and letters a reading holds, each counted each time it is reached (what is shared counts as often as it is met; a slice's spare places count too). A statement '..UptoSaid' is the law's where the arguments, and the package variables that the reading takes, are together of bulk at most 1048576: NARROWER than '..Said'. Prove '..Said' where nothing that the law and all that it calls make is longer than what came in: it says more and counts as full. Else prove '..UptoSaid'. A law counts once. -/
mutual
def uptoBulk {H : Type} : DataW H → Nat
  | .lit (.string bytes) => bytes.length + 1
  | .lit _ => 1
  | .nil => 1
  | .ptr d => uptoBulk d + 1
  | .slice elems spare => uptoBulkAll elems + uptoBulkAll spare + 1
  | .agg parts => uptoBulkAll parts + 1
  | .iface _ d => uptoBulk d + 1
  | .map entries => uptoBulkEntries entries + 1
  | .held _ => 1
def uptoBulkAll {H : Type} : List (DataW H) → Nat
  | [] => 0
  | d :: r => uptoBulk d + uptoBulkAll r
def uptoBulkEntries {H : Type} : List (Lit × DataW H) → Nat
  | [] => 0
  | x :: r => uptoBulkEntry x + uptoBulkEntries r
def uptoBulkEntry {H : Type} : Lit × DataW H → Nat
  | (.string bytes, d) => bytes.length + uptoBulk d + 1
  | (_, d) => uptoBulk d + 1
 end
def uptoSmall : (H : Type) → List (DataW H) → Bool := fun _ ds => decide (uptoBulkAll ds ≤ 1048576)
def OpenSpec.upto (s : _root_.Go.ChangeSpec) : _root_.Go.OpenSpec := { _root_.Go.OpenSpec.ofChange s with cond := some uptoSmall }

/-- 'switchbacklaw17.ModelSettles', WHERE WHAT IT READS IS OF BULK AT MOST 1048576: true; the input reads as it did. -/
def modelSettlesUptoRow : OpenClaim := { program := "ytpebebhjmnmcbaa", sum := "20396375330ea2a601e7141fd58f6d6f49545d700b6eb5e614662447f15deba6", func := "switchback/switchbacklaw17.ModelSettles", spec := "modelSettles", unfollowed := true, recurses := true, apart := false, narrowed := true }
def ModelSettlesUptoSaid : Prop := modelSettlesUptoRow.holds Try.pinned (OpenSpec.upto modelSettlesSpec)

/-- 'switchbacklaw17.ModelTicks', WHERE WHAT IT READS IS OF BULK AT MOST 1048576: true; the input reads as it did. -/
def modelTicksUptoRow : OpenClaim := { program := "ytpebebhjmnmcbaa", sum := "20396375330ea2a601e7141fd58f6d6f49545d700b6eb5e614662447f15deba6", func := "switchback/switchbacklaw17.ModelTicks", spec := "modelTicks", unfollowed := true, recurses := true, apart := false, narrowed := true }
def ModelTicksUptoSaid : Prop := modelTicksUptoRow.holds Try.pinned (OpenSpec.upto modelTicksSpec)

/-- 'switchbacklaw17.ModelPlays', WHERE WHAT IT READS IS OF BULK AT MOST 1048576: true; the input reads as it did. -/
def modelPlaysUptoRow : OpenClaim := { program := "ytpebebhjmnmcbaa", sum := "20396375330ea2a601e7141fd58f6d6f49545d700b6eb5e614662447f15deba6", func := "switchback/switchbacklaw17.ModelPlays", spec := "modelPlays", unfollowed := true, recurses := true, apart := false, narrowed := true }
def ModelPlaysUptoSaid : Prop := modelPlaysUptoRow.holds Try.pinned (OpenSpec.upto modelPlaysSpec)

/-- 'switchbacklaw17.ModelReplies', WHERE WHAT IT READS IS OF BULK AT MOST 1048576: true; the input reads as it did. -/
def modelRepliesUptoRow : OpenClaim := { program := "ytpebebhjmnmcbaa", sum := "20396375330ea2a601e7141fd58f6d6f49545d700b6eb5e614662447f15deba6", func := "switchback/switchbacklaw17.ModelReplies", spec := "modelReplies", unfollowed := true, recurses := true, apart := false, narrowed := true }
def ModelRepliesUptoSaid : Prop := modelRepliesUptoRow.holds Try.pinned (OpenSpec.upto modelRepliesSpec)

/-- 'switchbacklaw17.ModelSwitches', WHERE WHAT IT READS IS OF BULK AT MOST 1048576: true; the input reads as it did. -/
def modelSwitchesUptoRow : OpenClaim := { program := "ytpebebhjmnmcbaa", sum := "20396375330ea2a601e7141fd58f6d6f49545d700b6eb5e614662447f15deba6", func := "switchback/switchbacklaw17.ModelSwitches", spec := "modelSwitches", unfollowed := true, recurses := true, apart := false, narrowed := true }
def ModelSwitchesUptoSaid : Prop := modelSwitchesUptoRow.holds Try.pinned (OpenSpec.upto modelSwitchesSpec)

/-- 'switchbacklaw17.ModelKeeps', WHERE WHAT IT READS IS OF BULK AT MOST 1048576: true; the input reads as it did. -/
def modelKeepsUptoRow : OpenClaim := { program := "ytpebebhjmnmcbaa", sum := "20396375330ea2a601e7141fd58f6d6f49545d700b6eb5e614662447f15deba6", func := "switchback/switchbacklaw17.ModelKeeps", spec := "modelKeeps", unfollowed := true, recurses := true, apart := false, narrowed := true }
def ModelKeepsUptoSaid : Prop := modelKeepsUptoRow.holds Try.pinned (OpenSpec.upto modelKeepsSpec)

/-- 'switchbacklaw17.ModelAborts', WHERE WHAT IT READS IS OF BULK AT MOST 1048576: true; the input reads as it did. -/
def modelAbortsUptoRow : OpenClaim := { program := "ytpebebhjmnmcbaa", sum := "20396375330ea2a601e7141fd58f6d6f49545d700b6eb5e614662447f15deba6", func := "switchback/switchbacklaw17.ModelAborts", spec := "modelAborts", unfollowed := true, recurses := true, apart := false, narrowed := true }
def ModelAbortsUptoSaid : Prop := modelAbortsUptoRow.holds Try.pinned (OpenSpec.upto modelAbortsSpec)

end Rows
end Go.Proofs.Ytpebebhjmnmcbaa

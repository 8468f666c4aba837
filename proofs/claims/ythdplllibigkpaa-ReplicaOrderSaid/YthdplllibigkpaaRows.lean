/-
  No cell of these rows narrows 'for every input' (looked for: loops, veiled, ifaces, maps, wideKeys, modest, calm, conditions, laid).
  DERIVED. THE GIVEN ROWS OF THIS SEAT. 8 by the template 'for every input the law returns true; each argument reads behind the call as it read before'; 0 by the template 'total and deterministic' (their statements: YthdplllibigkpaaTotals.lean).
  GIVEN WITH THE SEED: the statements are not yours to turn. If you find one false, say at which input.
  Laid BY PROGRAM, IN A SANDBOX (cutbox-rows.mjs): the forced cells as the released guide's own fill.sh prints them over the translation 1ed5cb9215044f37… (all of the seat's roots in one cut). By AI agents, Wed Nov 11 2026. No macro, syntax, notation, axiom, sorry.
-/
import Derived.Test.YthdplllibigkpaaChecked
import GoSem.Claim
import GoSem.ClaimJoined
import GoSem.ClaimMapViews
import Derived.JoinedTies
import Derived.KernelRfl
namespace Go.Proofs.Ythdplllibigkpaa
/- THE CELL 'sum', in the pinned program and in every row, IS THE sha256 OF THE DUMP (.gsa) THAT YthdplllibigkpaaProg.lean LOADS. Nothing in Lean hashes anything: it is a label: what it is worth is what the hold of that sum in a sandbox is worth. -/
noncomputable def Try.pinned : Pinned := { name := "ythdplllibigkpaa", sum := "1ed5cb9215044f372a55e02989d24ae51611258a87054c519a3c2bc6b034791d", checked := Try.checked }
namespace Rows
def none {H : Type} : Left H := { results := [], args := [] }

/-- 'switchbacklaw13.ReplicaFull': WHATEVER THE INPUT: true; the input reads as it did. -/
def replicaFullSpec : ChangeSpec := { name := "replicaFull", fn := fun _ => fun
  | [d1, d2, d3] => { results := [.lit (.bool true)], args := [d1, d2, d3] }
  | _ => none }
def replicaFullRow : OpenClaim := { program := "ythdplllibigkpaa", sum := "1ed5cb9215044f372a55e02989d24ae51611258a87054c519a3c2bc6b034791d", func := "switchback/switchbacklaw13.ReplicaFull", spec := "replicaFull", apart := false }
def ReplicaFullSaid : Prop := replicaFullRow.holds Try.pinned (OpenSpec.ofChange replicaFullSpec)

/-- ITS FALSE NEIGHBOUR: 'it returns false'. Refute it at one input. -/
def replicaFullWrong : ChangeSpec := { name := "replicaFull", fn := fun _ => fun
  | [d1, d2, d3] => { results := [.lit (.bool false)], args := [d1, d2, d3] }
  | _ => none }
def ReplicaFullWrongFalsely : Prop := replicaFullRow.holds Try.pinned (OpenSpec.ofChange replicaFullWrong)

/-- 'switchbacklaw13.ReplicaScales': WHATEVER THE INPUT: true; the input reads as it did. -/
def replicaScalesSpec : ChangeSpec := { name := "replicaScales", fn := fun _ => fun
  | [d1, d2] => { results := [.lit (.bool true)], args := [d1, d2] }
  | _ => none }
def replicaScalesRow : OpenClaim := { program := "ythdplllibigkpaa", sum := "1ed5cb9215044f372a55e02989d24ae51611258a87054c519a3c2bc6b034791d", func := "switchback/switchbacklaw13.ReplicaScales", spec := "replicaScales", apart := false }
def ReplicaScalesSaid : Prop := replicaScalesRow.holds Try.pinned (OpenSpec.ofChange replicaScalesSpec)

/-- ITS FALSE NEIGHBOUR: 'it returns false'. Refute it at one input. -/
def replicaScalesWrong : ChangeSpec := { name := "replicaScales", fn := fun _ => fun
  | [d1, d2] => { results := [.lit (.bool false)], args := [d1, d2] }
  | _ => none }
def ReplicaScalesWrongFalsely : Prop := replicaScalesRow.holds Try.pinned (OpenSpec.ofChange replicaScalesWrong)

/-- 'switchbacklaw13.ReplicaOrder': WHATEVER THE INPUT: true; the input reads as it did. -/
def replicaOrderSpec : ChangeSpec := { name := "replicaOrder", fn := fun _ => fun
  | [d1, d2] => { results := [.lit (.bool true)], args := [d1, d2] }
  | _ => none }
def replicaOrderRow : OpenClaim := { program := "ythdplllibigkpaa", sum := "1ed5cb9215044f372a55e02989d24ae51611258a87054c519a3c2bc6b034791d", func := "switchback/switchbacklaw13.ReplicaOrder", spec := "replicaOrder", apart := false }
def ReplicaOrderSaid : Prop := replicaOrderRow.holds Try.pinned (OpenSpec.ofChange replicaOrderSpec)

/-- ITS FALSE NEIGHBOUR: 'it returns false'. Refute it at one input. -/
def replicaOrderWrong : ChangeSpec := { name := "replicaOrder", fn := fun _ => fun
  | [d1, d2] => { results := [.lit (.bool false)], args := [d1, d2] }
  | _ => none }
def ReplicaOrderWrongFalsely : Prop := replicaOrderRow.holds Try.pinned (OpenSpec.ofChange replicaOrderWrong)

/-- 'switchbacklaw13.ReplicaPlays': WHATEVER THE INPUT: true; the input reads as it did. -/
def replicaPlaysSpec : ChangeSpec := { name := "replicaPlays", fn := fun _ => fun
  | [d] => { results := [.lit (.bool true)], args := [d] }
  | _ => none }
def replicaPlaysRow : OpenClaim := { program := "ythdplllibigkpaa", sum := "1ed5cb9215044f372a55e02989d24ae51611258a87054c519a3c2bc6b034791d", func := "switchback/switchbacklaw13.ReplicaPlays", spec := "replicaPlays", apart := false }
def ReplicaPlaysSaid : Prop := replicaPlaysRow.holds Try.pinned (OpenSpec.ofChange replicaPlaysSpec)

/-- ITS FALSE NEIGHBOUR: 'it returns false'. Refute it at one input. -/
def replicaPlaysWrong : ChangeSpec := { name := "replicaPlays", fn := fun _ => fun
  | [d] => { results := [.lit (.bool false)], args := [d] }
  | _ => none }
def ReplicaPlaysWrongFalsely : Prop := replicaPlaysRow.holds Try.pinned (OpenSpec.ofChange replicaPlaysWrong)

/-- 'switchbacklaw14.FleetPlays': WHATEVER THE INPUT: true; the input reads as it did. -/
def fleetPlaysSpec : ChangeSpec := { name := "fleetPlays", fn := fun _ => fun
  | [d1, d2] => { results := [.lit (.bool true)], args := [d1, d2] }
  | _ => none }
def fleetPlaysRow : OpenClaim := { program := "ythdplllibigkpaa", sum := "1ed5cb9215044f372a55e02989d24ae51611258a87054c519a3c2bc6b034791d", func := "switchback/switchbacklaw14.FleetPlays", spec := "fleetPlays", apart := false }
def FleetPlaysSaid : Prop := fleetPlaysRow.holds Try.pinned (OpenSpec.ofChange fleetPlaysSpec)

/-- ITS FALSE NEIGHBOUR: 'it returns false'. Refute it at one input. -/
def fleetPlaysWrong : ChangeSpec := { name := "fleetPlays", fn := fun _ => fun
  | [d1, d2] => { results := [.lit (.bool false)], args := [d1, d2] }
  | _ => none }
def FleetPlaysWrongFalsely : Prop := fleetPlaysRow.holds Try.pinned (OpenSpec.ofChange fleetPlaysWrong)

/-- 'switchbacklaw14.FleetApart': WHATEVER THE INPUT: true; the input reads as it did. -/
def fleetApartSpec : ChangeSpec := { name := "fleetApart", fn := fun _ => fun
  | [d1, d2] => { results := [.lit (.bool true)], args := [d1, d2] }
  | _ => none }
def fleetApartRow : OpenClaim := { program := "ythdplllibigkpaa", sum := "1ed5cb9215044f372a55e02989d24ae51611258a87054c519a3c2bc6b034791d", func := "switchback/switchbacklaw14.FleetApart", spec := "fleetApart", apart := false }
def FleetApartSaid : Prop := fleetApartRow.holds Try.pinned (OpenSpec.ofChange fleetApartSpec)

/-- ITS FALSE NEIGHBOUR: 'it returns false'. Refute it at one input. -/
def fleetApartWrong : ChangeSpec := { name := "fleetApart", fn := fun _ => fun
  | [d1, d2] => { results := [.lit (.bool false)], args := [d1, d2] }
  | _ => none }
def FleetApartWrongFalsely : Prop := fleetApartRow.holds Try.pinned (OpenSpec.ofChange fleetApartWrong)

/-- 'switchbacklaw14.FleetSame': WHATEVER THE INPUT: true; the input reads as it did. -/
def fleetSameSpec : ChangeSpec := { name := "fleetSame", fn := fun _ => fun
  | [d1, d2] => { results := [.lit (.bool true)], args := [d1, d2] }
  | _ => none }
def fleetSameRow : OpenClaim := { program := "ythdplllibigkpaa", sum := "1ed5cb9215044f372a55e02989d24ae51611258a87054c519a3c2bc6b034791d", func := "switchback/switchbacklaw14.FleetSame", spec := "fleetSame", apart := false }
def FleetSameSaid : Prop := fleetSameRow.holds Try.pinned (OpenSpec.ofChange fleetSameSpec)

/-- ITS FALSE NEIGHBOUR: 'it returns false'. Refute it at one input. -/
def fleetSameWrong : ChangeSpec := { name := "fleetSame", fn := fun _ => fun
  | [d1, d2] => { results := [.lit (.bool false)], args := [d1, d2] }
  | _ => none }
def FleetSameWrongFalsely : Prop := fleetSameRow.holds Try.pinned (OpenSpec.ofChange fleetSameWrong)

/-- 'switchbacklaw14.FleetFull': WHATEVER THE INPUT: true; the input reads as it did. -/
def fleetFullSpec : ChangeSpec := { name := "fleetFull", fn := fun _ => fun
  | [d] => { results := [.lit (.bool true)], args := [d] }
  | _ => none }
def fleetFullRow : OpenClaim := { program := "ythdplllibigkpaa", sum := "1ed5cb9215044f372a55e02989d24ae51611258a87054c519a3c2bc6b034791d", func := "switchback/switchbacklaw14.FleetFull", spec := "fleetFull", apart := false }
def FleetFullSaid : Prop := fleetFullRow.holds Try.pinned (OpenSpec.ofChange fleetFullSpec)

/-- ITS FALSE NEIGHBOUR: 'it returns false'. Refute it at one input. -/
def fleetFullWrong : ChangeSpec := { name := "fleetFull", fn := fun _ => fun
  | [d] => { results := [.lit (.bool false)], args := [d] }
  | _ => none }
def FleetFullWrongFalsely : Prop := fleetFullRow.holds Try.pinned (OpenSpec.ofChange fleetFullWrong)

/- THE SECOND FORM. 'bulk': how many values and letters a reading holds, each counted each time it is reached (what is shared counts as often as it is met; a slice's spare places count too). A statement '..UptoSaid' is the law's where the arguments, and the package variables that the reading takes, are together of bulk at most 1048576: NARROWER than '..Said'. Prove '..Said' where nothing that the law and all that it calls make is longer than what came in: it says more and counts as full. Else prove '..UptoSaid'. A law counts once. -/
mutual
def uptoBulk {H : Type} : DataW H → Nat
  | .lit (.string bytes) => bytes.length + 1
  | .lit _ => 1
  | .nil => 1
  | .ptr d => uptoBulk d + 1
  | .slice elems spare => uptoBulkAll elems + uptoBulkAll spare + 1
  | .agg parts => uptoBulkAll parts + 1
  | .iface _ d => uptoBulk d + 1
  | .map entries => uptoBulkEntries entries + 1
  | .held _ => 1
def uptoBulkAll {H : Type} : List (DataW H) → Nat
  | [] => 0
  | d :: r => uptoBulk d + uptoBulkAll r
def uptoBulkEntries {H : Type} : List (Lit × DataW H) → Nat
  | [] => 0
  | x :: r => uptoBulkEntry x + uptoBulkEntries r
def uptoBulkEntry {H : Type} : Lit × DataW H → Nat
  | (.string bytes, d) => bytes.length + uptoBulk d + 1
  | (_, d) => uptoBulk d + 1
 end
def uptoSmall : (H : Type) → List (DataW H) → Bool := fun _ ds => decide (uptoBulkAll ds ≤ 1048576)
def OpenSpec.upto (s : _root_.Go.ChangeSpec) : _root_.Go.OpenSpec := { _root_.Go.OpenSpec.ofChange s with cond := some uptoSmall }

/-- 'switchbacklaw13.ReplicaFull', WHERE WHAT IT READS IS OF BULK AT MOST 1048576: true; the input reads as it did. -/
def replicaFullUptoRow : OpenClaim := { program := "ythdplllibigkpaa", sum := "1ed5cb9215044f372a55e02989d24ae51611258a87054c519a3c2bc6b034791d", func := "switchback/switchbacklaw13.ReplicaFull", spec := "replicaFull", apart := false, narrowed := true }
def ReplicaFullUptoSaid : Prop := replicaFullUptoRow.holds Try.pinned (OpenSpec.upto replicaFullSpec)

/-- 'switchbacklaw13.ReplicaScales', WHERE WHAT IT READS IS OF BULK AT MOST 1048576: true; the input reads as it did. -/
def replicaScalesUptoRow : OpenClaim := { program := "ythdplllibigkpaa", sum := "1ed5cb9215044f372a55e02989d24ae51611258a87054c519a3c2bc6b034791d", func := "switchback/switchbacklaw13.ReplicaScales", spec := "replicaScales", apart := false, narrowed := true }
def ReplicaScalesUptoSaid : Prop := replicaScalesUptoRow.holds Try.pinned (OpenSpec.upto replicaScalesSpec)

/-- 'switchbacklaw13.ReplicaOrder', WHERE WHAT IT READS IS OF BULK AT MOST 1048576: true; the input reads as it did. -/
def replicaOrderUptoRow : OpenClaim := { program := "ythdplllibigkpaa", sum := "1ed5cb9215044f372a55e02989d24ae51611258a87054c519a3c2bc6b034791d", func := "switchback/switchbacklaw13.ReplicaOrder", spec := "replicaOrder", apart := false, narrowed := true }
def ReplicaOrderUptoSaid : Prop := replicaOrderUptoRow.holds Try.pinned (OpenSpec.upto replicaOrderSpec)

/-- 'switchbacklaw13.ReplicaPlays', WHERE WHAT IT READS IS OF BULK AT MOST 1048576: true; the input reads as it did. -/
def replicaPlaysUptoRow : OpenClaim := { program := "ythdplllibigkpaa", sum := "1ed5cb9215044f372a55e02989d24ae51611258a87054c519a3c2bc6b034791d", func := "switchback/switchbacklaw13.ReplicaPlays", spec := "replicaPlays", apart := false, narrowed := true }
def ReplicaPlaysUptoSaid : Prop := replicaPlaysUptoRow.holds Try.pinned (OpenSpec.upto replicaPlaysSpec)

/-- 'switchbacklaw14.FleetPlays', WHERE WHAT IT READS IS OF BULK AT MOST 1048576: true; the input reads as it did. -/
def fleetPlaysUptoRow : OpenClaim := { program := "ythdplllibigkpaa", sum := "1ed5cb9215044f372a55e02989d24ae51611258a87054c519a3c2bc6b034791d", func := "switchback/switchbacklaw14.FleetPlays", spec := "fleetPlays", apart := false, narrowed := true }
def FleetPlaysUptoSaid : Prop := fleetPlaysUptoRow.holds Try.pinned (OpenSpec.upto fleetPlaysSpec)

/-- 'switchbacklaw14.FleetApart', WHERE WHAT IT READS IS OF BULK AT MOST 1048576: true; the input reads as it did. -/
def fleetApartUptoRow : OpenClaim := { program := "ythdplllibigkpaa", sum := "1ed5cb9215044f372a55e02989d24ae51611258a87054c519a3c2bc6b034791d", func := "switchback/switchbacklaw14.FleetApart", spec := "fleetApart", apart := false, narrowed := true }
def FleetApartUptoSaid : Prop := fleetApartUptoRow.holds Try.pinned (OpenSpec.upto fleetApartSpec)

/-- 'switchbacklaw14.FleetSame', WHERE WHAT IT READS IS OF BULK AT MOST 1048576: true; the input reads as it did. -/
def fleetSameUptoRow : OpenClaim := { program := "ythdplllibigkpaa", sum := "1ed5cb9215044f372a55e02989d24ae51611258a87054c519a3c2bc6b034791d", func := "switchback/switchbacklaw14.FleetSame", spec := "fleetSame", apart := false, narrowed := true }
def FleetSameUptoSaid : Prop := fleetSameUptoRow.holds Try.pinned (OpenSpec.upto fleetSameSpec)

/-- 'switchbacklaw14.FleetFull', WHERE WHAT IT READS IS OF BULK AT MOST 1048576: true; the input reads as it did. -/
def fleetFullUptoRow : OpenClaim := { program := "ythdplllibigkpaa", sum := "1ed5cb9215044f372a55e02989d24ae51611258a87054c519a3c2bc6b034791d", func := "switchback/switchbacklaw14.FleetFull", spec := "fleetFull", apart := false, narrowed := true }
def FleetFullUptoSaid : Prop := fleetFullUptoRow.holds Try.pinned (OpenSpec.upto fleetFullSpec)

end Rows
end Go.Proofs.Ythdplllibigkpaa

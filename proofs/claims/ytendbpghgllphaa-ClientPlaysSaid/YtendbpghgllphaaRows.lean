/-
  No cell of these rows narrows 'for every input' (looked for: loops, veiled, ifaces, maps, wideKeys, modest, calm, conditions, laid).
  DERIVED. THE GIVEN ROWS OF THIS SEAT. 9 by the template 'for every input the law returns true; each argument reads behind the call as it read before'; 0 by the template 'total and deterministic' (their statements: YtendbpghgllphaaTotals.lean).
  GIVEN WITH THE SEED: the statements are not yours to turn. If you find one false, say at which input.
  Laid BY PROGRAM, IN A SANDBOX (cutbox-rows.mjs): the forced cells as the released guide's own fill.sh prints them over the translation 9bacdf70bc1465d1… (all of the seat's roots in one cut). By AI agents, Wed Nov 11 2026. No macro, syntax, notation, axiom, sorry.
-/
import Derived.Test.YtendbpghgllphaaChecked
import GoSem.Claim
import GoSem.ClaimJoined
import GoSem.ClaimMapViews
import Derived.JoinedTies
import Derived.KernelRfl
namespace Go.Proofs.Ytendbpghgllphaa
/- THE CELL 'sum', in the pinned program and in every row, IS THE sha256 OF THE DUMP (.gsa) THAT YtendbpghgllphaaProg.lean LOADS. Nothing in Lean hashes anything: it is a label: what it is worth is what the hold of that sum in a sandbox is worth. -/
noncomputable def Try.pinned : Pinned := { name := "ytendbpghgllphaa", sum := "9bacdf70bc1465d1b0ac45904edd84cef7d25ff0fc34f99de0b4e3377a9223fb", checked := Try.checked }
namespace Rows
def none {H : Type} : Left H := { results := [], args := [] }

/-- 'switchbacklaw11.RouterFences': WHATEVER THE INPUT: true; the input reads as it did. -/
def routerFencesSpec : ChangeSpec := { name := "routerFences", fn := fun _ => fun
  | [d] => { results := [.lit (.bool true)], args := [d] }
  | _ => none }
def routerFencesRow : OpenClaim := { program := "ytendbpghgllphaa", sum := "9bacdf70bc1465d1b0ac45904edd84cef7d25ff0fc34f99de0b4e3377a9223fb", func := "switchback/switchbacklaw11.RouterFences", spec := "routerFences", apart := false }
def RouterFencesSaid : Prop := routerFencesRow.holds Try.pinned (OpenSpec.ofChange routerFencesSpec)

/-- ITS FALSE NEIGHBOUR: 'it returns false'. Refute it at one input. -/
def routerFencesWrong : ChangeSpec := { name := "routerFences", fn := fun _ => fun
  | [d] => { results := [.lit (.bool false)], args := [d] }
  | _ => none }
def RouterFencesWrongFalsely : Prop := routerFencesRow.holds Try.pinned (OpenSpec.ofChange routerFencesWrong)

/-- 'switchbacklaw11.RouterLost': WHATEVER THE INPUT: true; the input reads as it did. -/
def routerLostSpec : ChangeSpec := { name := "routerLost", fn := fun _ => fun
  | [d1, d2, d3] => { results := [.lit (.bool true)], args := [d1, d2, d3] }
  | _ => none }
def routerLostRow : OpenClaim := { program := "ytendbpghgllphaa", sum := "9bacdf70bc1465d1b0ac45904edd84cef7d25ff0fc34f99de0b4e3377a9223fb", func := "switchback/switchbacklaw11.RouterLost", spec := "routerLost", apart := false }
def RouterLostSaid : Prop := routerLostRow.holds Try.pinned (OpenSpec.ofChange routerLostSpec)

/-- ITS FALSE NEIGHBOUR: 'it returns false'. Refute it at one input. -/
def routerLostWrong : ChangeSpec := { name := "routerLost", fn := fun _ => fun
  | [d1, d2, d3] => { results := [.lit (.bool false)], args := [d1, d2, d3] }
  | _ => none }
def RouterLostWrongFalsely : Prop := routerLostRow.holds Try.pinned (OpenSpec.ofChange routerLostWrong)

/-- 'switchbacklaw11.RouterOnce': WHATEVER THE INPUT: true; the input reads as it did. -/
def routerOnceSpec : ChangeSpec := { name := "routerOnce", fn := fun _ => fun
  | [d1, d2] => { results := [.lit (.bool true)], args := [d1, d2] }
  | _ => none }
def routerOnceRow : OpenClaim := { program := "ytendbpghgllphaa", sum := "9bacdf70bc1465d1b0ac45904edd84cef7d25ff0fc34f99de0b4e3377a9223fb", func := "switchback/switchbacklaw11.RouterOnce", spec := "routerOnce", apart := false }
def RouterOnceSaid : Prop := routerOnceRow.holds Try.pinned (OpenSpec.ofChange routerOnceSpec)

/-- ITS FALSE NEIGHBOUR: 'it returns false'. Refute it at one input. -/
def routerOnceWrong : ChangeSpec := { name := "routerOnce", fn := fun _ => fun
  | [d1, d2] => { results := [.lit (.bool false)], args := [d1, d2] }
  | _ => none }
def RouterOnceWrongFalsely : Prop := routerOnceRow.holds Try.pinned (OpenSpec.ofChange routerOnceWrong)

/-- 'switchbacklaw11.RouterPlays': WHATEVER THE INPUT: true; the input reads as it did. -/
def routerPlaysSpec : ChangeSpec := { name := "routerPlays", fn := fun _ => fun
  | [d] => { results := [.lit (.bool true)], args := [d] }
  | _ => none }
def routerPlaysRow : OpenClaim := { program := "ytendbpghgllphaa", sum := "9bacdf70bc1465d1b0ac45904edd84cef7d25ff0fc34f99de0b4e3377a9223fb", func := "switchback/switchbacklaw11.RouterPlays", spec := "routerPlays", apart := false }
def RouterPlaysSaid : Prop := routerPlaysRow.holds Try.pinned (OpenSpec.ofChange routerPlaysSpec)

/-- ITS FALSE NEIGHBOUR: 'it returns false'. Refute it at one input. -/
def routerPlaysWrong : ChangeSpec := { name := "routerPlays", fn := fun _ => fun
  | [d] => { results := [.lit (.bool false)], args := [d] }
  | _ => none }
def RouterPlaysWrongFalsely : Prop := routerPlaysRow.holds Try.pinned (OpenSpec.ofChange routerPlaysWrong)

/-- 'switchbacklaw11.RouterFuses': WHATEVER THE INPUT: true; the input reads as it did. -/
def routerFusesSpec : ChangeSpec := { name := "routerFuses", fn := fun _ => fun
  | [d1, d2] => { results := [.lit (.bool true)], args := [d1, d2] }
  | _ => none }
def routerFusesRow : OpenClaim := { program := "ytendbpghgllphaa", sum := "9bacdf70bc1465d1b0ac45904edd84cef7d25ff0fc34f99de0b4e3377a9223fb", func := "switchback/switchbacklaw11.RouterFuses", spec := "routerFuses", apart := false }
def RouterFusesSaid : Prop := routerFusesRow.holds Try.pinned (OpenSpec.ofChange routerFusesSpec)

/-- ITS FALSE NEIGHBOUR: 'it returns false'. Refute it at one input. -/
def routerFusesWrong : ChangeSpec := { name := "routerFuses", fn := fun _ => fun
  | [d1, d2] => { results := [.lit (.bool false)], args := [d1, d2] }
  | _ => none }
def RouterFusesWrongFalsely : Prop := routerFusesRow.holds Try.pinned (OpenSpec.ofChange routerFusesWrong)

/-- 'switchbacklaw12.ClientTries': WHATEVER THE INPUT: true; the input reads as it did. -/
def clientTriesSpec : ChangeSpec := { name := "clientTries", fn := fun _ => fun
  | [d1, d2, d3] => { results := [.lit (.bool true)], args := [d1, d2, d3] }
  | _ => none }
def clientTriesRow : OpenClaim := { program := "ytendbpghgllphaa", sum := "9bacdf70bc1465d1b0ac45904edd84cef7d25ff0fc34f99de0b4e3377a9223fb", func := "switchback/switchbacklaw12.ClientTries", spec := "clientTries", apart := false }
def ClientTriesSaid : Prop := clientTriesRow.holds Try.pinned (OpenSpec.ofChange clientTriesSpec)

/-- ITS FALSE NEIGHBOUR: 'it returns false'. Refute it at one input. -/
def clientTriesWrong : ChangeSpec := { name := "clientTries", fn := fun _ => fun
  | [d1, d2, d3] => { results := [.lit (.bool false)], args := [d1, d2, d3] }
  | _ => none }
def ClientTriesWrongFalsely : Prop := clientTriesRow.holds Try.pinned (OpenSpec.ofChange clientTriesWrong)

/-- 'switchbacklaw12.ClientStops': WHATEVER THE INPUT: true; the input reads as it did. -/
def clientStopsSpec : ChangeSpec := { name := "clientStops", fn := fun _ => fun
  | [d1, d2, d3] => { results := [.lit (.bool true)], args := [d1, d2, d3] }
  | _ => none }
def clientStopsRow : OpenClaim := { program := "ytendbpghgllphaa", sum := "9bacdf70bc1465d1b0ac45904edd84cef7d25ff0fc34f99de0b4e3377a9223fb", func := "switchback/switchbacklaw12.ClientStops", spec := "clientStops", apart := false }
def ClientStopsSaid : Prop := clientStopsRow.holds Try.pinned (OpenSpec.ofChange clientStopsSpec)

/-- ITS FALSE NEIGHBOUR: 'it returns false'. Refute it at one input. -/
def clientStopsWrong : ChangeSpec := { name := "clientStops", fn := fun _ => fun
  | [d1, d2, d3] => { results := [.lit (.bool false)], args := [d1, d2, d3] }
  | _ => none }
def ClientStopsWrongFalsely : Prop := clientStopsRow.holds Try.pinned (OpenSpec.ofChange clientStopsWrong)

/-- 'switchbacklaw12.ClientCounts': WHATEVER THE INPUT: true; the input reads as it did. -/
def clientCountsSpec : ChangeSpec := { name := "clientCounts", fn := fun _ => fun
  | [d1, d2, d3] => { results := [.lit (.bool true)], args := [d1, d2, d3] }
  | _ => none }
def clientCountsRow : OpenClaim := { program := "ytendbpghgllphaa", sum := "9bacdf70bc1465d1b0ac45904edd84cef7d25ff0fc34f99de0b4e3377a9223fb", func := "switchback/switchbacklaw12.ClientCounts", spec := "clientCounts", apart := false }
def ClientCountsSaid : Prop := clientCountsRow.holds Try.pinned (OpenSpec.ofChange clientCountsSpec)

/-- ITS FALSE NEIGHBOUR: 'it returns false'. Refute it at one input. -/
def clientCountsWrong : ChangeSpec := { name := "clientCounts", fn := fun _ => fun
  | [d1, d2, d3] => { results := [.lit (.bool false)], args := [d1, d2, d3] }
  | _ => none }
def ClientCountsWrongFalsely : Prop := clientCountsRow.holds Try.pinned (OpenSpec.ofChange clientCountsWrong)

/-- 'switchbacklaw12.ClientPlays': WHATEVER THE INPUT: true; the input reads as it did. -/
def clientPlaysSpec : ChangeSpec := { name := "clientPlays", fn := fun _ => fun
  | [d] => { results := [.lit (.bool true)], args := [d] }
  | _ => none }
def clientPlaysRow : OpenClaim := { program := "ytendbpghgllphaa", sum := "9bacdf70bc1465d1b0ac45904edd84cef7d25ff0fc34f99de0b4e3377a9223fb", func := "switchback/switchbacklaw12.ClientPlays", spec := "clientPlays", apart := false }
def ClientPlaysSaid : Prop := clientPlaysRow.holds Try.pinned (OpenSpec.ofChange clientPlaysSpec)

/-- ITS FALSE NEIGHBOUR: 'it returns false'. Refute it at one input. -/
def clientPlaysWrong : ChangeSpec := { name := "clientPlays", fn := fun _ => fun
  | [d] => { results := [.lit (.bool false)], args := [d] }
  | _ => none }
def ClientPlaysWrongFalsely : Prop := clientPlaysRow.holds Try.pinned (OpenSpec.ofChange clientPlaysWrong)

/- THE SECOND FORM. 'bulk': how many values and letters a reading holds, each counted each time it is reached (what is shared counts as often as it is met; a slice's spare places count too). A statement '..UptoSaid' is the law's where the arguments, and the package variables that the reading takes, are together of bulk at most 1048576: NARROWER than '..Said'. Prove '..Said' where nothing that the law and all that it calls make is longer than what came in: it says more and counts as full. Else prove '..UptoSaid'. A law counts once. -/
mutual
def uptoBulk {H : Type} : DataW H → Nat
  | .lit (.string bytes) => bytes.length + 1
  | .lit _ => 1
  | .nil => 1
  | .ptr d => uptoBulk d + 1
  | .slice elems spare => uptoBulkAll elems + uptoBulkAll spare + 1
  | .agg parts => uptoBulkAll parts + 1
  | .iface _ d => uptoBulk d + 1
  | .map entries => uptoBulkEntries entries + 1
  | .held _ => 1
def uptoBulkAll {H : Type} : List (DataW H) → Nat
  | [] => 0
  | d :: r => uptoBulk d + uptoBulkAll r
def uptoBulkEntries {H : Type} : List (Lit × DataW H) → Nat
  | [] => 0
  | x :: r => uptoBulkEntry x + uptoBulkEntries r
def uptoBulkEntry {H : Type} : Lit × DataW H → Nat
  | (.string bytes, d) => bytes.length + uptoBulk d + 1
  | (_, d) => uptoBulk d + 1
 end
def uptoSmall : (H : Type) → List (DataW H) → Bool := fun _ ds => decide (uptoBulkAll ds ≤ 1048576)
def OpenSpec.upto (s : _root_.Go.ChangeSpec) : _root_.Go.OpenSpec := { _root_.Go.OpenSpec.ofChange s with cond := some uptoSmall }

/-- 'switchbacklaw11.RouterFences', WHERE WHAT IT READS IS OF BULK AT MOST 1048576: true; the input reads as it did. -/
def routerFencesUptoRow : OpenClaim := { program := "ytendbpghgllphaa", sum := "9bacdf70bc1465d1b0ac45904edd84cef7d25ff0fc34f99de0b4e3377a9223fb", func := "switchback/switchbacklaw11.RouterFences", spec := "routerFences", apart := false, narrowed := true }
def RouterFencesUptoSaid : Prop := routerFencesUptoRow.holds Try.pinned (OpenSpec.upto routerFencesSpec)

/-- 'switchbacklaw11.RouterLost', WHERE WHAT IT READS IS OF BULK AT MOST 1048576: true; the input reads as it did. -/
def routerLostUptoRow : OpenClaim := { program := "ytendbpghgllphaa", sum := "9bacdf70bc1465d1b0ac45904edd84cef7d25ff0fc34f99de0b4e3377a9223fb", func := "switchback/switchbacklaw11.RouterLost", spec := "routerLost", apart := false, narrowed := true }
def RouterLostUptoSaid : Prop := routerLostUptoRow.holds Try.pinned (OpenSpec.upto routerLostSpec)

/-- 'switchbacklaw11.RouterOnce', WHERE WHAT IT READS IS OF BULK AT MOST 1048576: true; the input reads as it did. -/
def routerOnceUptoRow : OpenClaim := { program := "ytendbpghgllphaa", sum := "9bacdf70bc1465d1b0ac45904edd84cef7d25ff0fc34f99de0b4e3377a9223fb", func := "switchback/switchbacklaw11.RouterOnce", spec := "routerOnce", apart := false, narrowed := true }
def RouterOnceUptoSaid : Prop := routerOnceUptoRow.holds Try.pinned (OpenSpec.upto routerOnceSpec)

/-- 'switchbacklaw11.RouterPlays', WHERE WHAT IT READS IS OF BULK AT MOST 1048576: true; the input reads as it did. -/
def routerPlaysUptoRow : OpenClaim := { program := "ytendbpghgllphaa", sum := "9bacdf70bc1465d1b0ac45904edd84cef7d25ff0fc34f99de0b4e3377a9223fb", func := "switchback/switchbacklaw11.RouterPlays", spec := "routerPlays", apart := false, narrowed := true }
def RouterPlaysUptoSaid : Prop := routerPlaysUptoRow.holds Try.pinned (OpenSpec.upto routerPlaysSpec)

/-- 'switchbacklaw11.RouterFuses', WHERE WHAT IT READS IS OF BULK AT MOST 1048576: true; the input reads as it did. -/
def routerFusesUptoRow : OpenClaim := { program := "ytendbpghgllphaa", sum := "9bacdf70bc1465d1b0ac45904edd84cef7d25ff0fc34f99de0b4e3377a9223fb", func := "switchback/switchbacklaw11.RouterFuses", spec := "routerFuses", apart := false, narrowed := true }
def RouterFusesUptoSaid : Prop := routerFusesUptoRow.holds Try.pinned (OpenSpec.upto routerFusesSpec)

/-- 'switchbacklaw12.ClientTries', WHERE WHAT IT READS IS OF BULK AT MOST 1048576: true; the input reads as it did. -/
def clientTriesUptoRow : OpenClaim := { program := "ytendbpghgllphaa", sum := "9bacdf70bc1465d1b0ac45904edd84cef7d25ff0fc34f99de0b4e3377a9223fb", func := "switchback/switchbacklaw12.ClientTries", spec := "clientTries", apart := false, narrowed := true }
def ClientTriesUptoSaid : Prop := clientTriesUptoRow.holds Try.pinned (OpenSpec.upto clientTriesSpec)

/-- 'switchbacklaw12.ClientStops', WHERE WHAT IT READS IS OF BULK AT MOST 1048576: true; the input reads as it did. -/
def clientStopsUptoRow : OpenClaim := { program := "ytendbpghgllphaa", sum := "9bacdf70bc1465d1b0ac45904edd84cef7d25ff0fc34f99de0b4e3377a9223fb", func := "switchback/switchbacklaw12.ClientStops", spec := "clientStops", apart := false, narrowed := true }
def ClientStopsUptoSaid : Prop := clientStopsUptoRow.holds Try.pinned (OpenSpec.upto clientStopsSpec)

/-- 'switchbacklaw12.ClientCounts', WHERE WHAT IT READS IS OF BULK AT MOST 1048576: true; the input reads as it did. -/
def clientCountsUptoRow : OpenClaim := { program := "ytendbpghgllphaa", sum := "9bacdf70bc1465d1b0ac45904edd84cef7d25ff0fc34f99de0b4e3377a9223fb", func := "switchback/switchbacklaw12.ClientCounts", spec := "clientCounts", apart := false, narrowed := true }
def ClientCountsUptoSaid : Prop := clientCountsUptoRow.holds Try.pinned (OpenSpec.upto clientCountsSpec)

/-- 'switchbacklaw12.ClientPlays', WHERE WHAT IT READS IS OF BULK AT MOST 1048576: true; the input reads as it did. -/
def clientPlaysUptoRow : OpenClaim := { program := "ytendbpghgllphaa", sum := "9bacdf70bc1465d1b0ac45904edd84cef7d25ff0fc34f99de0b4e3377a9223fb", func := "switchback/switchbacklaw12.ClientPlays", spec := "clientPlays", apart := false, narrowed := true }
def ClientPlaysUptoSaid : Prop := clientPlaysUptoRow.holds Try.pinned (OpenSpec.upto clientPlaysSpec)

end Rows
end Go.Proofs.Ytendbpghgllphaa

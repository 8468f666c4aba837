/-
  No cell of these rows narrows 'for every input' (looked for: loops, veiled, ifaces, maps, wideKeys, modest, calm, conditions, laid).
  DERIVED. THE GIVEN ROWS OF THIS SEAT. 10 by the template 'for every input the law returns true; each argument reads behind the call as it read before'; 0 by the template 'total and deterministic' (their statements: YtnecfmoccnifcaaTotals.lean).
  GIVEN WITH THE SEED: the statements are not yours to turn. If you find one false, say at which input.
  Laid BY PROGRAM, IN A SANDBOX (cutbox-rows.mjs): the forced cells as the released guide's own fill.sh prints them over the translation 775ccf85c7a99193… (all of the seat's roots in one cut). By AI agents, Wed Nov 11 2026. No macro, syntax, notation, axiom, sorry.
-/
import Derived.Test.YtnecfmoccnifcaaChecked
import GoSem.Claim
import GoSem.ClaimJoined
import GoSem.ClaimMapViews
import Derived.JoinedTies
import Derived.KernelRfl
namespace Go.Proofs.Ytnecfmoccnifcaa
/- THE CELL 'sum', in the pinned program and in every row, IS THE sha256 OF THE DUMP (.gsa) THAT YtnecfmoccnifcaaProg.lean LOADS. Nothing in Lean hashes anything: it is a label: what it is worth is what the hold of that sum in a sandbox is worth. -/
noncomputable def Try.pinned : Pinned := { name := "ytnecfmoccnifcaa", sum := "775ccf85c7a991936714f56977b203b5b3de41f827f7189314bbda660612e3fe", checked := Try.checked }
namespace Rows
def none {H : Type} : Left H := { results := [], args := [] }

/-- 'switchbacklaw04.FusePlays': WHATEVER THE INPUT: true; the input reads as it did. -/
def fusePlaysSpec : ChangeSpec := { name := "fusePlays", fn := fun _ => fun
  | [d] => { results := [.lit (.bool true)], args := [d] }
  | _ => none }
def fusePlaysRow : OpenClaim := { program := "ytnecfmoccnifcaa", sum := "775ccf85c7a991936714f56977b203b5b3de41f827f7189314bbda660612e3fe", func := "switchback/switchbacklaw04.FusePlays", spec := "fusePlays", apart := false }
def FusePlaysSaid : Prop := fusePlaysRow.holds Try.pinned (OpenSpec.ofChange fusePlaysSpec)

/-- ITS FALSE NEIGHBOUR: 'it returns false'. Refute it at one input. -/
def fusePlaysWrong : ChangeSpec := { name := "fusePlays", fn := fun _ => fun
  | [d] => { results := [.lit (.bool false)], args := [d] }
  | _ => none }
def FusePlaysWrongFalsely : Prop := fusePlaysRow.holds Try.pinned (OpenSpec.ofChange fusePlaysWrong)

/-- 'switchbacklaw04.FuseCounts': WHATEVER THE INPUT: true; the input reads as it did. -/
def fuseCountsSpec : ChangeSpec := { name := "fuseCounts", fn := fun _ => fun
  | [d1, d2, d3] => { results := [.lit (.bool true)], args := [d1, d2, d3] }
  | _ => none }
def fuseCountsRow : OpenClaim := { program := "ytnecfmoccnifcaa", sum := "775ccf85c7a991936714f56977b203b5b3de41f827f7189314bbda660612e3fe", func := "switchback/switchbacklaw04.FuseCounts", spec := "fuseCounts", apart := false }
def FuseCountsSaid : Prop := fuseCountsRow.holds Try.pinned (OpenSpec.ofChange fuseCountsSpec)

/-- ITS FALSE NEIGHBOUR: 'it returns false'. Refute it at one input. -/
def fuseCountsWrong : ChangeSpec := { name := "fuseCounts", fn := fun _ => fun
  | [d1, d2, d3] => { results := [.lit (.bool false)], args := [d1, d2, d3] }
  | _ => none }
def FuseCountsWrongFalsely : Prop := fuseCountsRow.holds Try.pinned (OpenSpec.ofChange fuseCountsWrong)

/-- 'switchbacklaw04.FuseAnew': WHATEVER THE INPUT: true; the input reads as it did. -/
def fuseAnewSpec : ChangeSpec := { name := "fuseAnew", fn := fun _ => fun
  | [d1, d2, d3] => { results := [.lit (.bool true)], args := [d1, d2, d3] }
  | _ => none }
def fuseAnewRow : OpenClaim := { program := "ytnecfmoccnifcaa", sum := "775ccf85c7a991936714f56977b203b5b3de41f827f7189314bbda660612e3fe", func := "switchback/switchbacklaw04.FuseAnew", spec := "fuseAnew", apart := false }
def FuseAnewSaid : Prop := fuseAnewRow.holds Try.pinned (OpenSpec.ofChange fuseAnewSpec)

/-- ITS FALSE NEIGHBOUR: 'it returns false'. Refute it at one input. -/
def fuseAnewWrong : ChangeSpec := { name := "fuseAnew", fn := fun _ => fun
  | [d1, d2, d3] => { results := [.lit (.bool false)], args := [d1, d2, d3] }
  | _ => none }
def FuseAnewWrongFalsely : Prop := fuseAnewRow.holds Try.pinned (OpenSpec.ofChange fuseAnewWrong)

/-- 'switchbacklaw04.FuseAll': WHATEVER THE INPUT: true; the input reads as it did. -/
def fuseAllSpec : ChangeSpec := { name := "fuseAll", fn := fun _ => fun
  | [d] => { results := [.lit (.bool true)], args := [d] }
  | _ => none }
def fuseAllRow : OpenClaim := { program := "ytnecfmoccnifcaa", sum := "775ccf85c7a991936714f56977b203b5b3de41f827f7189314bbda660612e3fe", func := "switchback/switchbacklaw04.FuseAll", spec := "fuseAll", apart := false }
def FuseAllSaid : Prop := fuseAllRow.holds Try.pinned (OpenSpec.ofChange fuseAllSpec)

/-- ITS FALSE NEIGHBOUR: 'it returns false'. Refute it at one input. -/
def fuseAllWrong : ChangeSpec := { name := "fuseAll", fn := fun _ => fun
  | [d] => { results := [.lit (.bool false)], args := [d] }
  | _ => none }
def FuseAllWrongFalsely : Prop := fuseAllRow.holds Try.pinned (OpenSpec.ofChange fuseAllWrong)

/-- 'switchbacklaw01.NumAdds': WHATEVER THE INPUT: true; the input reads as it did. -/
def numAddsSpec : ChangeSpec := { name := "numAdds", fn := fun _ => fun
  | [d1, d2, d3] => { results := [.lit (.bool true)], args := [d1, d2, d3] }
  | _ => none }
def numAddsRow : OpenClaim := { program := "ytnecfmoccnifcaa", sum := "775ccf85c7a991936714f56977b203b5b3de41f827f7189314bbda660612e3fe", func := "switchback/switchbacklaw01.NumAdds", spec := "numAdds", apart := false }
def NumAddsSaid : Prop := numAddsRow.holds Try.pinned (OpenSpec.ofChange numAddsSpec)

/-- ITS FALSE NEIGHBOUR: 'it returns false'. Refute it at one input. -/
def numAddsWrong : ChangeSpec := { name := "numAdds", fn := fun _ => fun
  | [d1, d2, d3] => { results := [.lit (.bool false)], args := [d1, d2, d3] }
  | _ => none }
def NumAddsWrongFalsely : Prop := numAddsRow.holds Try.pinned (OpenSpec.ofChange numAddsWrong)

/-- 'switchbacklaw01.NumLess': WHATEVER THE INPUT: true; the input reads as it did. -/
def numLessSpec : ChangeSpec := { name := "numLess", fn := fun _ => fun
  | [d1, d2] => { results := [.lit (.bool true)], args := [d1, d2] }
  | _ => none }
def numLessRow : OpenClaim := { program := "ytnecfmoccnifcaa", sum := "775ccf85c7a991936714f56977b203b5b3de41f827f7189314bbda660612e3fe", func := "switchback/switchbacklaw01.NumLess", spec := "numLess", apart := false }
def NumLessSaid : Prop := numLessRow.holds Try.pinned (OpenSpec.ofChange numLessSpec)

/-- ITS FALSE NEIGHBOUR: 'it returns false'. Refute it at one input. -/
def numLessWrong : ChangeSpec := { name := "numLess", fn := fun _ => fun
  | [d1, d2] => { results := [.lit (.bool false)], args := [d1, d2] }
  | _ => none }
def NumLessWrongFalsely : Prop := numLessRow.holds Try.pinned (OpenSpec.ofChange numLessWrong)

/-- 'switchbacklaw01.NumClamps': WHATEVER THE INPUT: true; the input reads as it did. -/
def numClampsSpec : ChangeSpec := { name := "numClamps", fn := fun _ => fun
  | [d1, d2, d3] => { results := [.lit (.bool true)], args := [d1, d2, d3] }
  | _ => none }
def numClampsRow : OpenClaim := { program := "ytnecfmoccnifcaa", sum := "775ccf85c7a991936714f56977b203b5b3de41f827f7189314bbda660612e3fe", func := "switchback/switchbacklaw01.NumClamps", spec := "numClamps", apart := false }
def NumClampsSaid : Prop := numClampsRow.holds Try.pinned (OpenSpec.ofChange numClampsSpec)

/-- ITS FALSE NEIGHBOUR: 'it returns false'. Refute it at one input. -/
def numClampsWrong : ChangeSpec := { name := "numClamps", fn := fun _ => fun
  | [d1, d2, d3] => { results := [.lit (.bool false)], args := [d1, d2, d3] }
  | _ => none }
def NumClampsWrongFalsely : Prop := numClampsRow.holds Try.pinned (OpenSpec.ofChange numClampsWrong)

/-- 'switchbacklaw01.NumSmall': WHATEVER THE INPUT: true; the input reads as it did. -/
def numSmallSpec : ChangeSpec := { name := "numSmall", fn := fun _ => fun
  | [d1, d2, d3] => { results := [.lit (.bool true)], args := [d1, d2, d3] }
  | _ => none }
def numSmallRow : OpenClaim := { program := "ytnecfmoccnifcaa", sum := "775ccf85c7a991936714f56977b203b5b3de41f827f7189314bbda660612e3fe", func := "switchback/switchbacklaw01.NumSmall", spec := "numSmall", apart := false }
def NumSmallSaid : Prop := numSmallRow.holds Try.pinned (OpenSpec.ofChange numSmallSpec)

/-- ITS FALSE NEIGHBOUR: 'it returns false'. Refute it at one input. -/
def numSmallWrong : ChangeSpec := { name := "numSmall", fn := fun _ => fun
  | [d1, d2, d3] => { results := [.lit (.bool false)], args := [d1, d2, d3] }
  | _ => none }
def NumSmallWrongFalsely : Prop := numSmallRow.holds Try.pinned (OpenSpec.ofChange numSmallWrong)

/-- 'switchbacklaw01.NumTwice': WHATEVER THE INPUT: true; the input reads as it did. -/
def numTwiceSpec : ChangeSpec := { name := "numTwice", fn := fun _ => fun
  | [d1, d2, d3] => { results := [.lit (.bool true)], args := [d1, d2, d3] }
  | _ => none }
def numTwiceRow : OpenClaim := { program := "ytnecfmoccnifcaa", sum := "775ccf85c7a991936714f56977b203b5b3de41f827f7189314bbda660612e3fe", func := "switchback/switchbacklaw01.NumTwice", spec := "numTwice", apart := false }
def NumTwiceSaid : Prop := numTwiceRow.holds Try.pinned (OpenSpec.ofChange numTwiceSpec)

/-- ITS FALSE NEIGHBOUR: 'it returns false'. Refute it at one input. -/
def numTwiceWrong : ChangeSpec := { name := "numTwice", fn := fun _ => fun
  | [d1, d2, d3] => { results := [.lit (.bool false)], args := [d1, d2, d3] }
  | _ => none }
def NumTwiceWrongFalsely : Prop := numTwiceRow.holds Try.pinned (OpenSpec.ofChange numTwiceWrong)

/-- 'switchbacklaw01.NumRise': WHATEVER THE INPUT: true; the input reads as it did. -/
def numRiseSpec : ChangeSpec := { name := "numRise", fn := fun _ => fun
  | [d1, d2, d3] => { results := [.lit (.bool true)], args := [d1, d2, d3] }
  | _ => none }
def numRiseRow : OpenClaim := { program := "ytnecfmoccnifcaa", sum := "775ccf85c7a991936714f56977b203b5b3de41f827f7189314bbda660612e3fe", func := "switchback/switchbacklaw01.NumRise", spec := "numRise", apart := false }
def NumRiseSaid : Prop := numRiseRow.holds Try.pinned (OpenSpec.ofChange numRiseSpec)

/-- ITS FALSE NEIGHBOUR: 'it returns false'. Refute it at one input. -/
def numRiseWrong : ChangeSpec := { name := "numRise", fn := fun _ => fun
  | [d1, d2, d3] => { results := [.lit (.bool false)], args := [d1, d2, d3] }
  | _ => none }
def NumRiseWrongFalsely : Prop := numRiseRow.holds Try.pinned (OpenSpec.ofChange numRiseWrong)

/- THE SECOND FORM. 'bulk': how many values and letters a reading holds, each counted each time it is reached (what is shared counts as often as it is met; a slice's spare places count too). A statement '..UptoSaid' is the law's where the arguments, and the package variables that the reading takes, are together of bulk at most 1048576: NARROWER than '..Said'. Prove '..Said' where nothing that the law and all that it calls make is longer than what came in: it says more and counts as full. Else prove '..UptoSaid'. A law counts once. -/
mutual
def uptoBulk {H : Type} : DataW H → Nat
  | .lit (.string bytes) => bytes.length + 1
  | .lit _ => 1
  | .nil => 1
  | .ptr d => uptoBulk d + 1
  | .slice elems spare => uptoBulkAll elems + uptoBulkAll spare + 1
  | .agg parts => uptoBulkAll parts + 1
  | .iface _ d => uptoBulk d + 1
  | .map entries => uptoBulkEntries entries + 1
  | .held _ => 1
def uptoBulkAll {H : Type} : List (DataW H) → Nat
  | [] => 0
  | d :: r => uptoBulk d + uptoBulkAll r
def uptoBulkEntries {H : Type} : List (Lit × DataW H) → Nat
  | [] => 0
  | x :: r => uptoBulkEntry x + uptoBulkEntries r
def uptoBulkEntry {H : Type} : Lit × DataW H → Nat
  | (.string bytes, d) => bytes.length + uptoBulk d + 1
  | (_, d) => uptoBulk d + 1
 end
def uptoSmall : (H : Type) → List (DataW H) → Bool := fun _ ds => decide (uptoBulkAll ds ≤ 1048576)
def OpenSpec.upto (s : _root_.Go.ChangeSpec) : _root_.Go.OpenSpec := { _root_.Go.OpenSpec.ofChange s with cond := some uptoSmall }

/-- 'switchbacklaw04.FusePlays', WHERE WHAT IT READS IS OF BULK AT MOST 1048576: true; the input reads as it did. -/
def fusePlaysUptoRow : OpenClaim := { program := "ytnecfmoccnifcaa", sum := "775ccf85c7a991936714f56977b203b5b3de41f827f7189314bbda660612e3fe", func := "switchback/switchbacklaw04.FusePlays", spec := "fusePlays", apart := false, narrowed := true }
def FusePlaysUptoSaid : Prop := fusePlaysUptoRow.holds Try.pinned (OpenSpec.upto fusePlaysSpec)

/-- 'switchbacklaw04.FuseCounts', WHERE WHAT IT READS IS OF BULK AT MOST 1048576: true; the input reads as it did. -/
def fuseCountsUptoRow : OpenClaim := { program := "ytnecfmoccnifcaa", sum := "775ccf85c7a991936714f56977b203b5b3de41f827f7189314bbda660612e3fe", func := "switchback/switchbacklaw04.FuseCounts", spec := "fuseCounts", apart := false, narrowed := true }
def FuseCountsUptoSaid : Prop := fuseCountsUptoRow.holds Try.pinned (OpenSpec.upto fuseCountsSpec)

/-- 'switchbacklaw04.FuseAnew', WHERE WHAT IT READS IS OF BULK AT MOST 1048576: true; the input reads as it did. -/
def fuseAnewUptoRow : OpenClaim := { program := "ytnecfmoccnifcaa", sum := "775ccf85c7a991936714f56977b203b5b3de41f827f7189314bbda660612e3fe", func := "switchback/switchbacklaw04.FuseAnew", spec := "fuseAnew", apart := false, narrowed := true }
def FuseAnewUptoSaid : Prop := fuseAnewUptoRow.holds Try.pinned (OpenSpec.upto fuseAnewSpec)

/-- 'switchbacklaw04.FuseAll', WHERE WHAT IT READS IS OF BULK AT MOST 1048576: true; the input reads as it did. -/
def fuseAllUptoRow : OpenClaim := { program := "ytnecfmoccnifcaa", sum := "775ccf85c7a991936714f56977b203b5b3de41f827f7189314bbda660612e3fe", func := "switchback/switchbacklaw04.FuseAll", spec := "fuseAll", apart := false, narrowed := true }
def FuseAllUptoSaid : Prop := fuseAllUptoRow.holds Try.pinned (OpenSpec.upto fuseAllSpec)

/-- 'switchbacklaw01.NumAdds', WHERE WHAT IT READS IS OF BULK AT MOST 1048576: true; the input reads as it did. -/
def numAddsUptoRow : OpenClaim := { program := "ytnecfmoccnifcaa", sum := "775ccf85c7a991936714f56977b203b5b3de41f827f7189314bbda660612e3fe", func := "switchback/switchbacklaw01.NumAdds", spec := "numAdds", apart := false, narrowed := true }
def NumAddsUptoSaid : Prop := numAddsUptoRow.holds Try.pinned (OpenSpec.upto numAddsSpec)

/-- 'switchbacklaw01.NumLess', WHERE WHAT IT READS IS OF BULK AT MOST 1048576: true; the input reads as it did. -/
def numLessUptoRow : OpenClaim := { program := "ytnecfmoccnifcaa", sum := "775ccf85c7a991936714f56977b203b5b3de41f827f7189314bbda660612e3fe", func := "switchback/switchbacklaw01.NumLess", spec := "numLess", apart := false, narrowed := true }
def NumLessUptoSaid : Prop := numLessUptoRow.holds Try.pinned (OpenSpec.upto numLessSpec)

/-- 'switchbacklaw01.NumClamps', WHERE WHAT IT READS IS OF BULK AT MOST 1048576: true; the input reads as it did. -/
def numClampsUptoRow : OpenClaim := { program := "ytnecfmoccnifcaa", sum := "775ccf85c7a991936714f56977b203b5b3de41f827f7189314bbda660612e3fe", func := "switchback/switchbacklaw01.NumClamps", spec := "numClamps", apart := false, narrowed := true }
def NumClampsUptoSaid : Prop := numClampsUptoRow.holds Try.pinned (OpenSpec.upto numClampsSpec)

/-- 'switchbacklaw01.NumSmall', WHERE WHAT IT READS IS OF BULK AT MOST 1048576: true; the input reads as it did. -/
def numSmallUptoRow : OpenClaim := { program := "ytnecfmoccnifcaa", sum := "775ccf85c7a991936714f56977b203b5b3de41f827f7189314bbda660612e3fe", func := "switchback/switchbacklaw01.NumSmall", spec := "numSmall", apart := false, narrowed := true }
def NumSmallUptoSaid : Prop := numSmallUptoRow.holds Try.pinned (OpenSpec.upto numSmallSpec)

/-- 'switchbacklaw01.NumTwice', WHERE WHAT IT READS IS OF BULK AT MOST 1048576: true; the input reads as it did. -/
def numTwiceUptoRow : OpenClaim := { program := "ytnecfmoccnifcaa", sum := "775ccf85c7a991936714f56977b203b5b3de41f827f7189314bbda660612e3fe", func := "switchback/switchbacklaw01.NumTwice", spec := "numTwice", apart := false, narrowed := true }
def NumTwiceUptoSaid : Prop := numTwiceUptoRow.holds Try.pinned (OpenSpec.upto numTwiceSpec)

/-- 'switchbacklaw01.NumRise', WHERE WHAT IT READS IS OF BULK AT MOST 1048576: true; the input reads as it did. -/
def numRiseUptoRow : OpenClaim := { program := "ytnecfmoccnifcaa", sum := "775ccf85c7a991936714f56977b203b5b3de41f827f7189314bbda660612e3fe", func := "switchback/switchbacklaw01.NumRise", spec := "numRise", apart := false, narrowed := true }
def NumRiseUptoSaid : Prop := numRiseUptoRow.holds Try.pinned (OpenSpec.upto numRiseSpec)

end Rows
end Go.Proofs.Ytnecfmoccnifcaa

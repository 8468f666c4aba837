/-
  DERIVED. GIVEN WITH THE SEED: THE CARDS: each row of YtkkacjmjjhjpeaaDoorRows.lean that lists a variable, with what it lists TIED to the program's text (the seventh form; the later family's looks); each row that meets fmt, with fmt's text TOLD by the authors' own Lean function (tested against real Go, not proved from fmt's source: count such statements apart). THE CARD IS WHAT COUNTS. Prove the row's statement (the work); the ties are given (YtkkacjmjjhjpeaaDoorTie.lean); close each card by the builder's one call (the guide's Derived/Test/ToyasCard.lean, 'card_holds'). Laid BY PROGRAM, IN A SANDBOX (cutbox-door.mjs). By AI agents, Wed Nov 11 2026. No macro, syntax, notation, axiom, sorry.
-/
import Derived.Test.YtkkacjmjjhjpeaaDoorRows
import GoSem.ClaimSeven
namespace Go.Proofs.YtkkacjmjjhjpeaaDoor
namespace Rows

/-- THE TIED CARD OF 'switchbacklaw24.StatusLines'. -/
def statusLinesCard : Claim7 := { stood := { row := statusLinesRow, standIns := [], harness := (true, "556b20e27d14315df8f4de5297f456c2619c6ef66337082aeeeff60f28999aa1"), looks := false }, kinds := [], alts := [], laidByText := true, laidKinds := [.data, .data, .data], laidTests := true, laidLooks := .later }
def StatusLinesCardSaid : Prop := Claim7.holds Tryd.pinned (.plain (OpenSpec.ofChange statusLinesSpec)) statusLinesCard

/-- THE TIED CARD OF 'switchbacklaw24.StatusNames'. -/
def statusNamesCard : Claim7 := { stood := { row := statusNamesRow, standIns := [], harness := (true, "556b20e27d14315df8f4de5297f456c2619c6ef66337082aeeeff60f28999aa1"), looks := false }, kinds := [], alts := [], laidByText := true, laidKinds := [.data, .data, .data], laidTests := true, laidLooks := .later }
def StatusNamesCardSaid : Prop := Claim7.holds Tryd.pinned (.plain (OpenSpec.ofChange statusNamesSpec)) statusNamesCard

/-- THE TIED CARD OF 'switchbacklaw24.StatusOne'. -/
def statusOneCard : Claim7 := { stood := { row := statusOneRow, standIns := [], harness := (true, "556b20e27d14315df8f4de5297f456c2619c6ef66337082aeeeff60f28999aa1"), looks := false }, kinds := [], alts := [], laidByText := true, laidKinds := [.data, .data, .data], laidTests := true, laidLooks := .later }
def StatusOneCardSaid : Prop := Claim7.holds Tryd.pinned (.plain (OpenSpec.ofChange statusOneSpec)) statusOneCard

/-- THE TIED CARD OF 'switchbacklaw24.StatusShape'. -/
def statusShapeCard : Claim7 := { stood := { row := statusShapeRow, standIns := [], harness := (true, "556b20e27d14315df8f4de5297f456c2619c6ef66337082aeeeff60f28999aa1"), looks := false }, kinds := [], alts := [], laidByText := true, laidKinds := [.data, .data, .data], laidTests := true, laidLooks := .later }
def StatusShapeCardSaid : Prop := Claim7.holds Tryd.pinned (.plain (OpenSpec.ofChange statusShapeSpec)) statusShapeCard

/-- THE TIED CARD OF 'switchbacklaw24.StatusReports'. -/
def statusReportsCard : Claim7 := { stood := { row := statusReportsRow, standIns := [], harness := (true, "556b20e27d14315df8f4de5297f456c2619c6ef66337082aeeeff60f28999aa1"), looks := false }, kinds := [], alts := [], laidByText := true, laidKinds := [.data, .data, .data], laidTests := true, laidLooks := .later }
def StatusReportsCardSaid : Prop := Claim7.holds Tryd.pinned (.plain (OpenSpec.ofChange statusReportsSpec)) statusReportsCard

/-- THE SECOND FORM's CARD OF 'switchbacklaw24.StatusLines'. -/
def statusLinesUptoCard : Claim7 := { stood := { row := statusLinesUptoRow, standIns := [], harness := (true, "556b20e27d14315df8f4de5297f456c2619c6ef66337082aeeeff60f28999aa1"), looks := false }, kinds := [], alts := [], laidByText := true, laidKinds := [.data, .data, .data], laidTests := true, laidLooks := .later }
def StatusLinesUptoCardSaid : Prop := Claim7.holds Tryd.pinned (.plain (OpenSpec.upto statusLinesSpec)) statusLinesUptoCard

/-- THE SECOND FORM's CARD OF 'switchbacklaw24.StatusNames'. -/
def statusNamesUptoCard : Claim7 := { stood := { row := statusNamesUptoRow, standIns := [], harness := (true, "556b20e27d14315df8f4de5297f456c2619c6ef66337082aeeeff60f28999aa1"), looks := false }, kinds := [], alts := [], laidByText := true, laidKinds := [.data, .data, .data], laidTests := true, laidLooks := .later }
def StatusNamesUptoCardSaid : Prop := Claim7.holds Tryd.pinned (.plain (OpenSpec.upto statusNamesSpec)) statusNamesUptoCard

/-- THE SECOND FORM's CARD OF 'switchbacklaw24.StatusOne'. -/
def statusOneUptoCard : Claim7 := { stood := { row := statusOneUptoRow, standIns := [], harness := (true, "556b20e27d14315df8f4de5297f456c2619c6ef66337082aeeeff60f28999aa1"), looks := false }, kinds := [], alts := [], laidByText := true, laidKinds := [.data, .data, .data], laidTests := true, laidLooks := .later }
def StatusOneUptoCardSaid : Prop := Claim7.holds Tryd.pinned (.plain (OpenSpec.upto statusOneSpec)) statusOneUptoCard

/-- THE SECOND FORM's CARD OF 'switchbacklaw24.StatusShape'. -/
def statusShapeUptoCard : Claim7 := { stood := { row := statusShapeUptoRow, standIns := [], harness := (true, "556b20e27d14315df8f4de5297f456c2619c6ef66337082aeeeff60f28999aa1"), looks := false }, kinds := [], alts := [], laidByText := true, laidKinds := [.data, .data, .data], laidTests := true, laidLooks := .later }
def StatusShapeUptoCardSaid : Prop := Claim7.holds Tryd.pinned (.plain (OpenSpec.upto statusShapeSpec)) statusShapeUptoCard

/-- THE SECOND FORM's CARD OF 'switchbacklaw24.StatusReports'. -/
def statusReportsUptoCard : Claim7 := { stood := { row := statusReportsUptoRow, standIns := [], harness := (true, "556b20e27d14315df8f4de5297f456c2619c6ef66337082aeeeff60f28999aa1"), looks := false }, kinds := [], alts := [], laidByText := true, laidKinds := [.data, .data, .data], laidTests := true, laidLooks := .later }
def StatusReportsUptoCardSaid : Prop := Claim7.holds Tryd.pinned (.plain (OpenSpec.upto statusReportsSpec)) statusReportsUptoCard
end Rows
end Go.Proofs.YtkkacjmjjhjpeaaDoor

/- What the laws of a model call. No condition. -/
import Derived.Test.YtpebebhjmnmcbaaMd8
set_option maxRecDepth 100000
set_option linter.unusedSimpArgs false
set_option linter.unusedVariables false
namespace Go.Proofs.Ytpebebhjmnmcbaa.Md
open Go Go.Proofs.Ytpebebhjmnmcbaa.Sx
theorem same_mreply (args : List SV) (hp : List SB) : (csOf (g_mreply args hp)).same hp := by
  unfold g_mreply
  split
  · generalize hd : decM _ = q
    cases q with
    | none => trivial
    | some p =>
      obtain ⟨m, N, ge⟩ := p
      obtain rfl := decM_spec hd
      exact ⟨rfl, rfl⟩
  · trivial
theorem ok_mreplyR : SumOk Try.prog 14 (roSumT fun a hp => csOf (g_mreply a hp)) := sumOk_ro same_mreply (ok_csOf ok_mreply)
@[reducible] noncomputable def PL : Sums := (12, denilS (genSumT g_mnew)) :: (10, valSum g_aw) :: (11, greatSum) :: (13, genSumN g_do) :: (14, roSumT fun a hp => csOf (g_mreply a hp)) :: (16, genSum g_mop) :: (17, genSum g_mtick) :: (20, valSum Fold.g_rright) :: (28, valSum Fold.g_rfull) :: S0
theorem okPL : SumsOk Try.prog PL := ((((((((okS0.cons Fold.ok_rfull).cons Fold.ok_rright).cons ok_mtick).cons ok_mop).cons ok_mreplyR).cons ok_do).cons ok_great).cons ok_aw).cons ok_mnew
end Go.Proofs.Ytpebebhjmnmcbaa.Md

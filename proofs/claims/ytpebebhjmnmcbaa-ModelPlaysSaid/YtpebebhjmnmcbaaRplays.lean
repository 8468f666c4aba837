/- The law RouterPlays: true, and no memory that was there is written. -/
import Derived.Test.YtpebebhjmnmcbaaRrel
set_option maxRecDepth 100000
set_option linter.unusedSimpArgs false
set_option linter.unusedVariables false
namespace Go.Proofs.Ytpebebhjmnmcbaa.Rt
open Go Go.Proofs.Ytpebebhjmnmcbaa.Sx
@[reducible] noncomputable def SP : Sums := (76, (genSumT g_mcall)) :: (51, (genSumT g_mscript)) :: SX
theorem okSP : SumsOk Try.prog SP := ((okSX.cons ok_mscript).cons ok_mcall)
theorem cut_enc (k : Nat) (o : Nat → Int) : subG (fun j => encI (o j)) k = fun j => encI (o (k + j)) := by
  funext j
  rw [subG_eq]
theorem cat_enc2 (i0 n : Nat) (o : Nat → Int) (l : List Int) : catG (subG (fun j => encI (o j)) i0) (fun j => [.int .i64 (l.getD j 0)]) n = fun j => encI (if j < n then o (i0 + j) else l.getD (j - n) 0) := by
  funext j
  by_cases h : j < n
  · rw [catG_lt h, subG_eq, if_pos h]
  · rw [catG_ge (by omega), if_neg h]
end Go.Proofs.Ytpebebhjmnmcbaa.Rt

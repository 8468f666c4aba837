/- How a state begins; sums. No condition. -/
import Derived.Test.YtpebebhjmnmcbaaPlan
set_option maxRecDepth 100000
set_option linter.unusedSimpArgs false
set_option linter.unusedVariables false
namespace Go.Proofs.Ytpebebhjmnmcbaa.Fold
open Go Go.Proofs.Ytpebebhjmnmcbaa.Sx
@[reducible] noncomputable def FF : Sums := (57, valSum g_right) :: S0
theorem okFF : SumsOk Try.prog FF := (okS0.cons ok_right)
noncomputable def ffirstV (rev : Int) (n : Int) : St × Bool := (bif !rightV (St.mk 0 0 rev 0 n 0 true false 0 0 0 0) then (⟨0, 0, 0, 0, 0, 0, false, false, 0, 0, 0, 0⟩, false) else (⟨0, 0, rev, 0, n, 0, true, false, 0, 0, 0, 0⟩, true))
@[reducible] def k_ffirst {R : Type} (K : TV → List (Option SB) → Option R) (v : St × Bool) : Option R := K (.tup [.agg (encSt (v).1), .c (.bool (v).2)]) []
theorem t_ffirst {R : Type} (rev : Int) (n : Int) (K : TV → List (Option SB) → Option R) : runFn Try.prog FF 10 Try.f30 (bodyOf Try.f30) [.c (.int .i64 rev), .c (.int .i64 n)] [] K = k_ffirst K (ffirstV rev n) := by
  refine Eq.trans (b := (bif !rightV (St.mk 0 0 rev 0 n 0 true false 0 0 0 0) then K (TV.tup [SV.agg [CV.int IntKind.i64 0, CV.int IntKind.i64 0, CV.int IntKind.i64 0, CV.int IntKind.i64 0, CV.int IntKind.i64 0, CV.int IntKind.i64 0, CV.bool false, CV.bool false, CV.int IntKind.i64 0, CV.int IntKind.i64 0, CV.int IntKind.i64 0, CV.int IntKind.i64 0], SV.c (CV.bool false)]) [] else K (TV.tup [SV.agg [CV.int IntKind.i64 0, CV.int IntKind.i64 0, CV.int IntKind.i64 rev, CV.int IntKind.i64 0, CV.int IntKind.i64 n, CV.int IntKind.i64 0, CV.bool true, CV.bool false, CV.int IntKind.i64 0, CV.int IntKind.i64 0, CV.int IntKind.i64 0, CV.int IntKind.i64 0], SV.c (CV.bool true)]) [])) (by kernel_rfl) ?_
  unfold ffirstV
  repeat' (first | exact rfl | refine push (k_ffirst K) ?_ ?_)
noncomputable def g_ffirst : List SV → Option TV
  | [.c (.int .i64 rev), .c (.int .i64 n)] => some (.tup [.agg (encSt (ffirstV rev n).1), .c (.bool (ffirstV rev n).2)])
  | _ => none
theorem ok_ffirst : SumOk Try.prog 30 (valSum g_ffirst) := by
  refine sumOk_val okFF mixed Try.func30 (c := bodyOf Try.f30) (by kernel_rfl) (by kernel_rfl) ?_
  intro args tv h
  unfold g_ffirst at h
  split at h
  · cases h
    exact ⟨fun _ => rfl, fun _ => rfl, 10, t_ffirst _ _ _⟩
  · cases h
noncomputable def maddV (a : Int) (b : Int) (most : Int) : Int := (bif decide (foldMax a [0] ≥ foldMax most [0]) then foldMax most [0] else (bif decide (foldMax b [0] ≥ IntKind.i64.wrap (foldMax most [0] - foldMax a [0])) then foldMax most [0] else IntKind.i64.wrap (foldMax a [0] + foldMax b [0])))
@[reducible] def k_madd {R : Type} (K : TV → List (Option SB) → Option R) (v : Int) : Option R := K (.s (.c (.int .i64 (v)))) []
theorem t_madd {R : Type} (a : Int) (b : Int) (most : Int) (K : TV → List (Option SB) → Option R) : runFn Try.prog S0 10 Try.f41 (bodyOf Try.f41) [.c (.int .i64 a), .c (.int .i64 b), .c (.int .i64 most)] [] K = k_madd K (maddV a b most) := by
  refine Eq.trans (b := (bif decide (foldMax a [0] ≥ foldMax most [0]) then K (TV.s (SV.c (CV.int IntKind.i64 (foldMax most [0])))) [] else (bif decide (foldMax b [0] ≥ IntKind.i64.wrap (foldMax most [0] - foldMax a [0])) then K (TV.s (SV.c (CV.int IntKind.i64 (foldMax most [0])))) [] else K (TV.s (SV.c (CV.int IntKind.i64 (IntKind.i64.wrap (foldMax a [0] + foldMax b [0]))))) []))) (by kernel_rfl) ?_
  unfold maddV
  repeat' (first | exact rfl | refine push (k_madd K) ?_ ?_)
noncomputable def g_madd : List SV → Option TV
  | [.c (.int .i64 a), .c (.int .i64 b), .c (.int .i64 most)] => some (.s (.c (.int .i64 (maddV a b most))))
  | _ => none
theorem ok_madd : SumOk Try.prog 41 (valSum g_madd) := by
  refine sumOk_val okS0 mixed Try.func41 (c := bodyOf Try.f41) (by kernel_rfl) (by kernel_rfl) ?_
  intro args tv h
  unfold g_madd at h
  split at h
  · cases h
    exact ⟨fun _ => rfl, fun _ => rfl, 10, t_madd _ _ _ _⟩
  · cases h
end Go.Proofs.Ytpebebhjmnmcbaa.Fold

/- What a record makes of a state. No condition. -/
import Derived.Test.YtpebebhjmnmcbaaFold
set_option maxRecDepth 100000
set_option linter.unusedSimpArgs false
set_option linter.unusedVariables false
namespace Go.Proofs.Ytpebebhjmnmcbaa.Fold
open Go Go.Proofs.Ytpebebhjmnmcbaa.Sx
def fin (s : St) (x : Bool × St) : St × Bool := bif x.1 then (x.2, true) else (s, false)
noncomputable def stepV (s : St) (r : Rc) : St × Bool :=
  bif rightV s then bif r.kind == 1 then fin s (deployV s r) else bif r.kind == 2 then fin s (abortV s r) else bif r.kind == 4 then fin s (preV s r) else bif r.kind == 9 then fin s (postV s r)
    else bif r.kind == 5 then fin s (prepareV s r) else bif r.kind == 7 then fin s (cancelV s r) else bif r.kind == 8 then fin s (appliedV s r) else bif r.kind == 3 then fin s (warmV s r)
    else bif r.kind == 6 then fin s (commitV s r) else bif r.kind == 10 then fin s (scaledV s r) else (s, false) else (s, false)
@[reducible] def k_step {R : Type} (K : TV → List (Option SB) → Option R) (v : St × Bool) : Option R := K (.tup [.agg (encSt (v).1), .c (.bool (v).2)]) []
theorem t_step {R : Type} (s : St) (r : Rc) (K : TV → List (Option SB) → Option R) : runFn Try.prog SD 10 Try.f66 (bodyOf Try.f66) [.agg (encSt s), .agg (encRc r)] [] K = k_step K (stepV s r) := by
  refine Eq.trans (b := (bif r.kind == 1 then (bif !rightV s then K (TV.tup [SV.agg (encSt s), SV.c (CV.bool false)]) [] else (bif act s then (bif !(deployV s r).fst then K (TV.tup [SV.agg (encSt s), SV.c (CV.bool false)]) [] else K (TV.tup [SV.agg (encSt (deployV s r).snd), SV.c (CV.bool true)]) []) else none)) else (bif r.kind == 2 then (bif !rightV s then K (TV.tup [SV.agg (encSt s), SV.c (CV.bool false)]) [] else (bif act s then (bif !(abortV s r).fst then K (TV.tup [SV.agg (encSt s), SV.c (CV.bool false)]) [] else K (TV.tup [SV.agg (encSt (abortV s r).snd), SV.c (CV.bool true)]) []) else none)) else (bif r.kind == 4 then (bif !rightV s then K (TV.tup [SV.agg (encSt s), SV.c (CV.bool false)]) [] else (bif act s then (bif !(preV s r).fst then K (TV.tup [SV.agg (encSt s), SV.c (CV.bool false)]) [] else K (TV.tup [SV.agg (encSt (preV s r).snd), SV.c (CV.bool true)]) []) else none)) else (bif r.kind == 9 then (bif !rightV s then K (TV.tup [SV.agg (encSt s), SV.c (CV.bool false)]) [] else (bif act s then (bif !(postV s r).fst then K (TV.tup [SV.agg (encSt s), SV.c (CV.bool false)]) [] else K (TV.tup [SV.agg (encSt (postV s r).snd), SV.c (CV.bool true)]) []) else none)) else (bif r.kind == 5 then (bif !rightV s then K (TV.tup [SV.agg (encSt s), SV.c (CV.bool false)]) [] else (bif act s then (bif !(prepareV s r).fst then K (TV.tup [SV.agg (encSt s), SV.c (CV.bool false)]) [] else K (TV.tup [SV.agg (encSt (prepareV s r).snd), SV.c (CV.bool true)]) []) else none)) else (bif r.kind == 7 then (bif !rightV s then K (TV.tup [SV.agg (encSt s), SV.c (CV.bool false)]) [] else (bif act s then (bif !(cancelV s r).fst then K (TV.tup [SV.agg (encSt s), SV.c (CV.bool false)]) [] else K (TV.tup [SV.agg (encSt (cancelV s r).snd), SV.c (CV.bool true)]) []) else none)) else (bif r.kind == 8 then (bif !rightV s then K (TV.tup [SV.agg (encSt s), SV.c (CV.bool false)]) [] else (bif act s then (bif !(appliedV s r).fst then K (TV.tup [SV.agg (encSt s), SV.c (CV.bool false)]) [] else K (TV.tup [SV.agg (encSt (appliedV s r).snd), SV.c (CV.bool true)]) []) else none)) else (bif r.kind == 3 then (bif !rightV s then K (TV.tup [SV.agg (encSt s), SV.c (CV.bool false)]) [] else (bif act s then (bif !(warmV s r).fst then K (TV.tup [SV.agg (encSt s), SV.c (CV.bool false)]) [] else K (TV.tup [SV.agg (encSt (warmV s r).snd), SV.c (CV.bool true)]) []) else none)) else (bif r.kind == 6 then (bif !rightV s then K (TV.tup [SV.agg (encSt s), SV.c (CV.bool false)]) [] else (bif act s then (bif !(commitV s r).fst then K (TV.tup [SV.agg (encSt s), SV.c (CV.bool false)]) [] else K (TV.tup [SV.agg (encSt (commitV s r).snd), SV.c (CV.bool true)]) []) else none)) else (bif r.kind == 10 then (bif !rightV s then K (TV.tup [SV.agg (encSt s), SV.c (CV.bool false)]) [] else (bif act s then (bif !(scaledV s r).fst then K (TV.tup [SV.agg (encSt s), SV.c (CV.bool false)]) [] else K (TV.tup [SV.agg (encSt (scaledV s r).snd), SV.c (CV.bool true)]) []) else none)) else K (TV.tup [SV.agg (encSt s), SV.c (CV.bool false)]) []))))))))))) (by kernel_rfl) ?_
  cases hr : rightV s with
  | false => simp only [stepV, hr, k_step, cond_false, Bool.not_false, cond_true, Bool.cond_self] <;> rfl
  | true =>
    have ha := right_act hr
    have fp : ∀ x : Bool × St, (bif !x.1 then K (.tup [.agg (encSt s), .c (.bool false)]) [] else K (.tup [.agg (encSt x.2), .c (.bool true)]) []) = k_step K (fin s x) := by
      rintro ⟨b, n⟩; cases b <;> rfl
    simp only [stepV, hr, ha, cond_true, Bool.not_true, cond_false]
    repeat' (first | exact rfl | exact fp _ | refine push (k_step K) ?_ ?_)
noncomputable def g_step : List SV → Option TV
  | [.agg l_s, .agg l_r] => (decSt l_s).bind fun s => (decRc l_r).bind fun r => some (.tup [.agg (encSt (stepV s r).1), .c (.bool (stepV s r).2)])
  | _ => none
theorem ok_step : SumOk Try.prog 66 (valSum g_step) := by
  refine sumOk_val okSD mixed Try.func66 (c := bodyOf Try.f66) (by kernel_rfl) (by kernel_rfl) ?_
  intro args tv h
  unfold g_step at h
  split at h
  · have hq := Option.bind_eq_some_iff.1 h
    clear h
    obtain ⟨s, h_s, h⟩ := hq
    obtain rfl := decSt_spec _ _ h_s
    have hq := Option.bind_eq_some_iff.1 h
    clear h
    obtain ⟨r, h_r, h⟩ := hq
    obtain rfl := decRc_spec _ _ h_r
    cases h
    exact ⟨fun _ => rfl, fun _ => rfl, 10, t_step _ _ _⟩
  · cases h
@[reducible] noncomputable def SE : Sums := (66, valSum g_step) :: SD
theorem okSE : SumsOk Try.prog SE := (okSD.cons ok_step)
end Go.Proofs.Ytpebebhjmnmcbaa.Fold

/- The laws of a record's step: true, and no memory that was there is written. -/
import Derived.Test.YtpfggppoobphmaaAll2
set_option maxRecDepth 100000
set_option linter.unusedSimpArgs false
set_option linter.unusedVariables false
namespace Go.Proofs.Ytpfggppoobphmaa.Fold
open Go Go.Proofs.Ytpfggppoobphmaa.Sx
@[reducible] noncomputable def TA : Sums := (14, valSum g_right) :: (11, valSum g_step) :: (32, valSum g_ffirst) :: (16, allSum) :: S0
theorem okTA : SumsOk Try.prog TA := ((((okS0.cons ok_all).cons ok_ffirst).cons ok_step).cons ok_right)
noncomputable def awake10V  : Bool := true
@[reducible] def k_awake10 {R : Type} (K : TV → List (Option SB) → Option R) (v : Bool) : Option R := K (.s (.c (.bool (v)))) []
theorem t_awake10 {R : Type}  (K : TV → List (Option SB) → Option R) : runFn Try.prog TA 10 Try.f13 (bodyOf Try.f13) [] [] K = k_awake10 K (awake10V) := by
  refine Eq.trans (b := K (TV.s (SV.c (CV.bool true))) []) (by kernel_rfl) ?_
  unfold awake10V
  repeat' (first | exact rfl | refine push (k_awake10 K) ?_ ?_)
noncomputable def g_awake10 : List SV → Option TV
  | [] => some (.s (.c (.bool (awake10V))))
  | _ => none
theorem ok_awake10 : SumOk Try.prog 13 (valSum g_awake10) := by
  refine sumOk_val okTA mixed Try.func13 (c := bodyOf Try.f13) (by kernel_rfl) (by kernel_rfl) ?_
  intro args tv h
  unfold g_awake10 at h
  split at h
  · cases h
    exact ⟨fun _ => rfl, fun _ => rfl, 10, t_awake10  _⟩
  · cases h
@[reducible] noncomputable def TB : Sums := (13, valSum g_awake10) :: (15, valSum g_rright) :: (12, valSum g_rstep) :: (18, valSumB g_rblank) :: (17, allSum) :: TA
theorem okTB : SumsOk Try.prog TB := (((((okTA.cons ok_rall).cons ok_rblank).cons ok_rstep).cons ok_rright).cons ok_awake10)
theorem step_other {s : St} {r : Rc} (h : r.kind ≠ 1 ∧ r.kind ≠ 2 ∧ r.kind ≠ 3 ∧ r.kind ≠ 4 ∧ r.kind ≠ 5 ∧ r.kind ≠ 6 ∧ r.kind ≠ 7 ∧ r.kind ≠ 8 ∧ r.kind ≠ 9 ∧ r.kind ≠ 10) : stepV s r = (s, false) := by
  have b : ∀ k : Int, r.kind ≠ k → (r.kind == k) = false := fun k h => by simp [h]
  obtain ⟨h1, h2, h3, h4, h5, h6, h7, h8, h9, h10⟩ := h
  unfold stepV
  rw [b 1 h1, b 2 h2, b 3 h3, b 4 h4, b 5 h5, b 6 h6, b 7 h7, b 8 h8, b 9 h9, b 10 h10]
  cases rightV s <;> rfl
theorem t_FoldSteps {R : Type} (s : St) (r : Rc) (K : TV → List (Option SB) → Option R) : runFn Try.prog TB 10 Try.f3 (bodyOf Try.f3) [.agg (encSt s), .agg (encRc r)] [] K = (bif (stepV s r).fst.phase == (stepV s r).fst.phase && ((stepV s r).fst.active == (stepV s r).fst.active && ((stepV s r).fst.rev0 == (stepV s r).fst.rev0 && ((stepV s r).fst.rev1 == (stepV s r).fst.rev1 && ((stepV s r).fst.want0 == (stepV s r).fst.want0 && ((stepV s r).fst.want1 == (stepV s r).fst.want1 && ((stepV s r).fst.passed0 == (stepV s r).fst.passed0 && ((stepV s r).fst.passed1 == (stepV s r).fst.passed1 && ((stepV s r).fst.delay == (stepV s r).fst.delay && ((stepV s r).fst.gen == (stepV s r).fst.gen && ((stepV s r).fst.switch == (stepV s r).fst.switch && ((stepV s r).fst.flip == (stepV s r).fst.flip && true))))))))))) then (bif (stepV s r).snd == (stepV s r).snd then K (TV.s (SV.c (CV.bool (rightV s == rightV s)))) [] else K (TV.s (SV.c (CV.bool false))) []) else K (TV.s (SV.c (CV.bool false))) []) := by kernel_rfl
theorem FoldSteps (s : St) (r : Rc) (q_s : wfSt s) (q_r : wfRc r) (w : World) (v_s : Value) (hv_s : ∀ X ρ, (SV.agg (encSt s)).R X ρ v_s) (v_r : Value) (hv_r : ∀ X ρ, (SV.agg (encRc r)).R X ρ v_r) : Calls Try.prog 3 #[v_s, v_r] w fun e w' => e = .returned (.bool true) ∧ RowKit.Below w.heap.size w w' := by
  refine law_calls okTB mixed Try.func3 (c := bodyOf Try.f3) (by kernel_rfl) lawK_spec (fuel := 10) (args := [.agg (encSt s), .agg (encRc r)]) (hp0 := []) (X := fun _ _ => False) (ρ := fun _ => none) (vs := [v_s, v_r]) ?_ ⟨hv_s _ _, hv_r _ _, trivial⟩ (by intro b sb h; simp at h) (fun _ _ => rfl)
  rw [t_FoldSteps]
  simp [lawK]
theorem t_FoldRight {R : Type} (s : St) (r : Rc) (K : TV → List (Option SB) → Option R) : runFn Try.prog TB 10 Try.f5 (bodyOf Try.f5) [.agg (encSt s), .agg (encRc r)] [] K = (bif !rightV s then (bif (stepV s r).fst.phase == s.phase && ((stepV s r).fst.active == s.active && ((stepV s r).fst.rev0 == s.rev0 && ((stepV s r).fst.rev1 == s.rev1 && ((stepV s r).fst.want0 == s.want0 && ((stepV s r).fst.want1 == s.want1 && ((stepV s r).fst.passed0 == s.passed0 && ((stepV s r).fst.passed1 == s.passed1 && ((stepV s r).fst.delay == s.delay && ((stepV s r).fst.gen == s.gen && ((stepV s r).fst.switch == s.switch && ((stepV s r).fst.flip == s.flip && true))))))))))) then K (TV.s (SV.c (CV.bool !(stepV s r).snd))) [] else K (TV.s (SV.c (CV.bool false))) []) else (bif rightV (stepV s r).fst then (bif rightV (stepV s r).fst then (bif (stepV s r).snd then K (TV.s (SV.c (CV.bool true))) [] else K (TV.s (SV.c (CV.bool ((stepV s r).fst.phase == s.phase && ((stepV s r).fst.active == s.active && ((stepV s r).fst.rev0 == s.rev0 && ((stepV s r).fst.rev1 == s.rev1 && ((stepV s r).fst.want0 == s.want0 && ((stepV s r).fst.want1 == s.want1 && ((stepV s r).fst.passed0 == s.passed0 && ((stepV s r).fst.passed1 == s.passed1 && ((stepV s r).fst.delay == s.delay && ((stepV s r).fst.gen == s.gen && ((stepV s r).fst.switch == s.switch && ((stepV s r).fst.flip == s.flip && true))))))))))))))) []) else K (TV.s (SV.c (CV.bool false))) []) else K (TV.s (SV.c (CV.bool false))) [])) := by kernel_rfl
theorem FoldRight (s : St) (r : Rc) (q_s : wfSt s) (q_r : wfRc r) (w : World) (v_s : Value) (hv_s : ∀ X ρ, (SV.agg (encSt s)).R X ρ v_s) (v_r : Value) (hv_r : ∀ X ρ, (SV.agg (encRc r)).R X ρ v_r) : Calls Try.prog 5 #[v_s, v_r] w fun e w' => e = .returned (.bool true) ∧ RowKit.Below w.heap.size w w' := by
  refine law_calls okTB mixed Try.func5 (c := bodyOf Try.f5) (by kernel_rfl) lawK_spec (fuel := 10) (args := [.agg (encSt s), .agg (encRc r)]) (hp0 := []) (X := fun _ _ => False) (ρ := fun _ => none) (vs := [v_s, v_r]) ?_ ⟨hv_s _ _, hv_r _ _, trivial⟩ (by intro b sb h; simp at h) (fun _ _ => rfl)
  rw [t_FoldRight]
  cases hr : rightV s with
  | false =>
    have : stepV s r = (s, false) := by unfold stepV; rw [hr]; rfl
    rw [this]
    simp [lawK]
  | true =>
    have h2 : (stepV s r).2 = false → stepV s r = (s, false) := step_false
    have h3 : rightV (stepV s r).1 = true := step_keep hr
    simp only [h3, cond_true, cond_false, Bool.not_true, lawK_if]
    cases hs : (stepV s r).2 with
    | true => simp
    | false => rw [h2 hs]; simp
end Go.Proofs.Ytpfggppoobphmaa.Fold

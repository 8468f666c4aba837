/- More laws of a record's step: true, and no memory that was there is written. -/
import Derived.Test.YtpfggppoobphmaaLaw10
set_option maxRecDepth 100000
set_option linter.unusedSimpArgs false
set_option linter.unusedVariables false
namespace Go.Proofs.Ytpfggppoobphmaa.Fold
open Go Go.Proofs.Ytpfggppoobphmaa.Sx
theorem t_FoldPhases {R : Type} (s : St) (r : Rc) (K : TV → List (Option SB) → Option R) : runFn Try.prog TB 20 Try.f10 (bodyOf Try.f10) [.agg (encSt s), .agg (encRc r)] [] K = (bif !(stepV s r).snd then K (TV.s (SV.c (CV.bool true))) [] else (bif !rightV s then K (TV.s (SV.c (CV.bool true))) [] else (bif s.phase == 0 then (bif 1 == (stepV s r).fst.phase then K (TV.s (SV.c (CV.bool true))) [] else K (TV.s (SV.c (CV.bool false))) []) else (bif s.phase == 1 then (bif 0 == (stepV s r).fst.phase then K (TV.s (SV.c (CV.bool true))) [] else (bif 1 == (stepV s r).fst.phase then K (TV.s (SV.c (CV.bool true))) [] else (bif 2 == (stepV s r).fst.phase then K (TV.s (SV.c (CV.bool true))) [] else K (TV.s (SV.c (CV.bool false))) []))) else (bif s.phase == 2 then (bif 0 == (stepV s r).fst.phase then K (TV.s (SV.c (CV.bool true))) [] else (bif 1 == (stepV s r).fst.phase then K (TV.s (SV.c (CV.bool true))) [] else (bif 3 == (stepV s r).fst.phase then K (TV.s (SV.c (CV.bool true))) [] else K (TV.s (SV.c (CV.bool false))) []))) else (bif s.phase == 3 then (bif 0 == (stepV s r).fst.phase then K (TV.s (SV.c (CV.bool true))) [] else (bif 3 == (stepV s r).fst.phase then K (TV.s (SV.c (CV.bool true))) [] else (bif 4 == (stepV s r).fst.phase then K (TV.s (SV.c (CV.bool true))) [] else K (TV.s (SV.c (CV.bool false))) []))) else (bif s.phase == 4 then (bif 5 == (stepV s r).fst.phase then K (TV.s (SV.c (CV.bool true))) [] else (bif 6 == (stepV s r).fst.phase then K (TV.s (SV.c (CV.bool true))) [] else K (TV.s (SV.c (CV.bool false))) [])) else (bif s.phase == 5 then (bif 0 == (stepV s r).fst.phase then K (TV.s (SV.c (CV.bool true))) [] else (bif 6 == (stepV s r).fst.phase then K (TV.s (SV.c (CV.bool true))) [] else K (TV.s (SV.c (CV.bool false))) [])) else (bif s.phase == 6 then (bif 6 == (stepV s r).fst.phase then K (TV.s (SV.c (CV.bool true))) [] else (bif 7 == (stepV s r).fst.phase then K (TV.s (SV.c (CV.bool true))) [] else K (TV.s (SV.c (CV.bool false))) [])) else (bif s.phase == 7 then (bif 0 == (stepV s r).fst.phase then K (TV.s (SV.c (CV.bool true))) [] else K (TV.s (SV.c (CV.bool false))) []) else K (TV.s (SV.c (CV.bool false))) [])))))))))) := by kernel_rfl
theorem FoldPhases (s : St) (r : Rc) (q_s : wfSt s) (q_r : wfRc r) (w : World) (v_s : Value) (hv_s : ∀ X ρ, (SV.agg (encSt s)).R X ρ v_s) (v_r : Value) (hv_r : ∀ X ρ, (SV.agg (encRc r)).R X ρ v_r) : Calls Try.prog 10 #[v_s, v_r] w fun e w' => e = .returned (.bool true) ∧ RowKit.Below w.heap.size w w' := by
  refine law_calls okTB mixed Try.func10 (c := bodyOf Try.f10) (by kernel_rfl) lawK_spec (fuel := 20) (args := [.agg (encSt s), .agg (encRc r)]) (hp0 := []) (X := fun _ _ => False) (ρ := fun _ => none) (vs := [v_s, v_r]) ?_ ⟨hv_s _ _, hv_r _ _, trivial⟩ (by intro b sb h; simp at h) (fun _ _ => rfl)
  rw [t_FoldPhases]
  cases hr : rightV s with
  | false =>
    have : stepV s r = (s, false) := by unfold stepV; rw [hr]; rfl
    rw [this]
    rfl
  | true =>
    simp only [cond_true, cond_false, Bool.not_true, lawK_if]
    have ha := right_act hr
    clear q_s q_r hv_s hv_r
    obtain ⟨phase, active, rev0, rev1, want0, want1, passed0, passed1, delay, gen, switch, flip⟩ := s
    obtain ⟨kind, rev, n, dl, rgen, tick, pass, y1, y2, y3, y4, y5, y6, y7, y8, y9, y10, y11, y12⟩ := r
    have hk : kind = 8 ∨ (kind = 1 ∨ kind = 2 ∨ kind = 3 ∨ kind = 4 ∨ kind = 5 ∨ kind = 6 ∨ kind = 7 ∨ kind = 9 ∨ kind = 10) ∨ (kind ≠ 1 ∧ kind ≠ 2 ∧ kind ≠ 3 ∧ kind ≠ 4 ∧ kind ≠ 5 ∧ kind ≠ 6 ∧ kind ≠ 7 ∧ kind ≠ 8 ∧ kind ≠ 9 ∧ kind ≠ 10) := by omega
    rcases act_iff.1 ha with ha | ha <;> (simp only at ha; subst ha)
    · have hr' := hr
      rw [right0] at hr'
      have hg1 : IntKind.i64.wrap (gen + 1) = gen + 1 := wi (by omega)
      have hg2 : IntKind.i64.wrap (gen - 1) = gen - 1 := wi (by omega)
      generalize hq : stepV _ _ = q
      obtain ⟨n, ok⟩ := q
      cases ok
      · simp
      rcases hk with rfl | hk | hk
      · by_cases c1 : switch = 2 <;> by_cases c2 : rgen = gen <;> by_cases c3 : 0 ≤ tick <;> by_cases c4 : tick ≤ 1073741824 <;>
          simp [stepV, hr, fin, deployV, abortV, preV, postV, prepareV, cancelV, appliedV, warmV, commitV, scaledV, turnV, clearV, otherV, w0, w1, hg1, hg2, inV_eq, selI, c1, c2, c3, c4] at hq <;> simp [selI, selB] <;> grind (splits := 60) (gen := 60)
      · rcases hk with rfl | rfl | rfl | rfl | rfl | rfl | rfl | rfl | rfl <;> simp [stepV, hr, fin, deployV, abortV, preV, postV, prepareV, cancelV, appliedV, warmV, commitV, scaledV, turnV, clearV, otherV, w0, w1, hg1, hg2, inV_eq, selI] at hq <;> simp [selI, selB] <;> grind (splits := 60) (gen := 60)
      · rw [step_other hk] at hq
        cases hq
    · have hr' := hr
      rw [right1] at hr'
      have hg1 : IntKind.i64.wrap (gen + 1) = gen + 1 := wi (by omega)
      have hg2 : IntKind.i64.wrap (gen - 1) = gen - 1 := wi (by omega)
      generalize hq : stepV _ _ = q
      obtain ⟨n, ok⟩ := q
      cases ok
      · simp
      rcases hk with rfl | hk | hk
      · by_cases c1 : switch = 2 <;> by_cases c2 : rgen = gen <;> by_cases c3 : 0 ≤ tick <;> by_cases c4 : tick ≤ 1073741824 <;>
          simp [stepV, hr, fin, deployV, abortV, preV, postV, prepareV, cancelV, appliedV, warmV, commitV, scaledV, turnV, clearV, otherV, w0, w1, hg1, hg2, inV_eq, selI, c1, c2, c3, c4] at hq <;> simp [selI, selB] <;> grind (splits := 60) (gen := 60)
      · rcases hk with rfl | rfl | rfl | rfl | rfl | rfl | rfl | rfl | rfl <;> simp [stepV, hr, fin, deployV, abortV, preV, postV, prepareV, cancelV, appliedV, warmV, commitV, scaledV, turnV, clearV, otherV, w0, w1, hg1, hg2, inV_eq, selI] at hq <;> simp [selI, selB] <;> grind (splits := 60) (gen := 60)
      · rw [step_other hk] at hq
        cases hq
end Go.Proofs.Ytpfggppoobphmaa.Fold

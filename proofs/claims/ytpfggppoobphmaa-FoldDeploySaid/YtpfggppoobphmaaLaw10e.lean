/- More laws of a record's step: true, and no memory that was there is written. -/
import Derived.Test.YtpfggppoobphmaaLaw10d
set_option maxRecDepth 100000
set_option linter.unusedSimpArgs false
set_option linter.unusedVariables false
namespace Go.Proofs.Ytpfggppoobphmaa.Fold
open Go Go.Proofs.Ytpfggppoobphmaa.Sx
theorem t_FoldDeploy {R : Type} (s : St) (r : Rc) (K : TV → List (Option SB) → Option R) : runFn Try.prog TB 10 Try.f9 (bodyOf Try.f9) [.agg (encSt s), .agg (encRc r)] [] K = (bif !(stepV s r).snd then K (TV.s (SV.c (CV.bool true))) [] else (bif r.kind != 1 then K (TV.s (SV.c (CV.bool true))) [] else (bif !rightV s then K (TV.s (SV.c (CV.bool true))) [] else (bif (stepV s r).fst.phase != 1 then K (TV.s (SV.c (CV.bool false))) [] else (bif decide (0 ≤ IntKind.i64.wrap (1 - s.active)) && decide (IntKind.i64.wrap (1 - s.active) < 2) then (bif selI (IntKind.i64.wrap (1 - s.active)) 0 [(stepV s r).fst.rev0, (stepV s r).fst.rev1] != r.rev then K (TV.s (SV.c (CV.bool false))) [] else (bif decide (0 ≤ IntKind.i64.wrap (1 - s.active)) && decide (IntKind.i64.wrap (1 - s.active) < 2) then (bif selI (IntKind.i64.wrap (1 - s.active)) 0 [(stepV s r).fst.want0, (stepV s r).fst.want1] != r.n then K (TV.s (SV.c (CV.bool false))) [] else (bif decide (0 ≤ IntKind.i64.wrap (1 - s.active)) && decide (IntKind.i64.wrap (1 - s.active) < 2) then (bif selB (IntKind.i64.wrap (1 - s.active)) 0 [(stepV s r).fst.passed0, (stepV s r).fst.passed1] then K (TV.s (SV.c (CV.bool false))) [] else (bif (stepV s r).fst.delay != r.delay then K (TV.s (SV.c (CV.bool false))) [] else (bif (stepV s r).fst.active != s.active then K (TV.s (SV.c (CV.bool false))) [] else (bif (stepV s r).fst.gen != s.gen then K (TV.s (SV.c (CV.bool false))) [] else (bif act s then (bif (stepV (stepV s r).fst (Rc.mk 2 0 0 0 0 0 false 0 0 0 0 0 0 false false 0 0 0 0)).snd then K (TV.s (SV.c (CV.bool ((stepV (stepV s r).fst (Rc.mk 2 0 0 0 0 0 false 0 0 0 0 0 0 false false 0 0 0 0)).fst.phase == (rblankV s).phase && ((stepV (stepV s r).fst (Rc.mk 2 0 0 0 0 0 false 0 0 0 0 0 0 false false 0 0 0 0)).fst.active == (rblankV s).active && ((stepV (stepV s r).fst (Rc.mk 2 0 0 0 0 0 false 0 0 0 0 0 0 false false 0 0 0 0)).fst.rev0 == (rblankV s).rev0 && ((stepV (stepV s r).fst (Rc.mk 2 0 0 0 0 0 false 0 0 0 0 0 0 false false 0 0 0 0)).fst.rev1 == (rblankV s).rev1 && ((stepV (stepV s r).fst (Rc.mk 2 0 0 0 0 0 false 0 0 0 0 0 0 false false 0 0 0 0)).fst.want0 == (rblankV s).want0 && ((stepV (stepV s r).fst (Rc.mk 2 0 0 0 0 0 false 0 0 0 0 0 0 false false 0 0 0 0)).fst.want1 == (rblankV s).want1 && ((stepV (stepV s r).fst (Rc.mk 2 0 0 0 0 0 false 0 0 0 0 0 0 false false 0 0 0 0)).fst.passed0 == (rblankV s).passed0 && ((stepV (stepV s r).fst (Rc.mk 2 0 0 0 0 0 false 0 0 0 0 0 0 false false 0 0 0 0)).fst.passed1 == (rblankV s).passed1 && ((stepV (stepV s r).fst (Rc.mk 2 0 0 0 0 0 false 0 0 0 0 0 0 false false 0 0 0 0)).fst.delay == r.delay && ((stepV (stepV s r).fst (Rc.mk 2 0 0 0 0 0 false 0 0 0 0 0 0 false false 0 0 0 0)).fst.gen == (rblankV s).gen && ((stepV (stepV s r).fst (Rc.mk 2 0 0 0 0 0 false 0 0 0 0 0 0 false false 0 0 0 0)).fst.switch == (rblankV s).switch && ((stepV (stepV s r).fst (Rc.mk 2 0 0 0 0 0 false 0 0 0 0 0 0 false false 0 0 0 0)).fst.flip == (rblankV s).flip && true))))))))))))))) [] else K (TV.s (SV.c (CV.bool false))) []) else none))))) else none)) else none)) else none))))) := by kernel_rfl
theorem FoldDeploy (s : St) (r : Rc) (q_s : wfSt s) (q_r : wfRc r) (w : World) (v_s : Value) (hv_s : ∀ X ρ, (SV.agg (encSt s)).R X ρ v_s) (v_r : Value) (hv_r : ∀ X ρ, (SV.agg (encRc r)).R X ρ v_r) : Calls Try.prog 9 #[v_s, v_r] w fun e w' => e = .returned (.bool true) ∧ RowKit.Below w.heap.size w w' := by
  refine law_calls okTB mixed Try.func9 (c := bodyOf Try.f9) (by kernel_rfl) lawK_spec (fuel := 10) (args := [.agg (encSt s), .agg (encRc r)]) (hp0 := []) (X := fun _ _ => False) (ρ := fun _ => none) (vs := [v_s, v_r]) ?_ ⟨hv_s _ _, hv_r _ _, trivial⟩ (by intro b sb h; simp at h) (fun _ _ => rfl)
  rw [t_FoldDeploy]
  cases hr : rightV s with
  | false =>
    have : stepV s r = (s, false) := by unfold stepV; rw [hr]; rfl
    rw [this]
    rfl
  | true =>
    have ha := right_act hr
    simp only [cond_true, cond_false, Bool.not_true, lawK_if, ha]
    clear q_s q_r hv_s hv_r
    obtain ⟨phase, active, rev0, rev1, want0, want1, passed0, passed1, delay, gen, switch, flip⟩ := s
    obtain ⟨kind, rev, n, dl, rgen, tick, pass, y1, y2, y3, y4, y5, y6, y7, y8, y9, y10, y11, y12⟩ := r
    rcases act_iff.1 ha with ha | ha <;> (simp only at ha; subst ha)
    · have hr' := hr
      rw [right0] at hr'
      have hg1 : IntKind.i64.wrap (gen + 1) = gen + 1 := wi (by omega)
      have hg2 : IntKind.i64.wrap (gen - 1) = gen - 1 := wi (by omega)
      have hg3 : IntKind.i64.wrap (gen + 1 - 1) = gen := by rw [wi (by omega)]; omega
      have hkeep : Rgt (stepV ⟨phase, 0, rev0, rev1, want0, want1, passed0, passed1, delay, gen, switch, flip⟩ ⟨kind, rev, n, dl, rgen, tick, pass, y1, y2, y3, y4, y5, y6, y7, y8, y9, y10, y11, y12⟩) := step_keep hr
      generalize hq : stepV ⟨phase, 0, rev0, rev1, want0, want1, passed0, passed1, delay, gen, switch, flip⟩ ⟨kind, rev, n, dl, rgen, tick, pass, y1, y2, y3, y4, y5, y6, y7, y8, y9, y10, y11, y12⟩ = q at hkeep ⊢
      obtain ⟨s', ok⟩ := q
      have hkeep : rightV s' = true := hkeep
      cases ok
      · simp
      by_cases hk : kind = 1
      · subst hk
        have hq2 : fin ⟨phase, 0, rev0, rev1, want0, want1, passed0, passed1, delay, gen, switch, flip⟩ (deployV ⟨phase, 0, rev0, rev1, want0, want1, passed0, passed1, delay, gen, switch, flip⟩ ⟨1, rev, n, dl, rgen, tick, pass, y1, y2, y3, y4, y5, y6, y7, y8, y9, y10, y11, y12⟩) = (s', true) := by rw [← hq]; unfold stepV; rw [hr]; rfl
        have hq3 := fin_true hq2
        clear hq hq2
        unfold deployV at hq3
        repeat' (rcases cond_cases hq3 with ⟨hc, hq3⟩ | ⟨hc, hq3⟩)
        all_goals cases hq3
        all_goals simp [stepV, hr, fin, deployV, abortV, preV, postV, prepareV, cancelV, appliedV, warmV, commitV, scaledV, turnV, clearV, otherV, w0, w1, hg1, hg2, inV_eq, selI, hkeep, rblankV, selB] at * <;> grind (splits := 60) (gen := 60)
      · have hb : (kind != 1) = true := by simp [hk]
        simp only [hb, cond_true, Bool.not_true, cond_false]
    · have hr' := hr
      rw [right1] at hr'
      have hg1 : IntKind.i64.wrap (gen + 1) = gen + 1 := wi (by omega)
      have hg2 : IntKind.i64.wrap (gen - 1) = gen - 1 := wi (by omega)
      have hg3 : IntKind.i64.wrap (gen + 1 - 1) = gen := by rw [wi (by omega)]; omega
      have hkeep : Rgt (stepV ⟨phase, 1, rev0, rev1, want0, want1, passed0, passed1, delay, gen, switch, flip⟩ ⟨kind, rev, n, dl, rgen, tick, pass, y1, y2, y3, y4, y5, y6, y7, y8, y9, y10, y11, y12⟩) := step_keep hr
      generalize hq : stepV ⟨phase, 1, rev0, rev1, want0, want1, passed0, passed1, delay, gen, switch, flip⟩ ⟨kind, rev, n, dl, rgen, tick, pass, y1, y2, y3, y4, y5, y6, y7, y8, y9, y10, y11, y12⟩ = q at hkeep ⊢
      obtain ⟨s', ok⟩ := q
      have hkeep : rightV s' = true := hkeep
      cases ok
      · simp
      by_cases hk : kind = 1
      · subst hk
        have hq2 : fin ⟨phase, 1, rev0, rev1, want0, want1, passed0, passed1, delay, gen, switch, flip⟩ (deployV ⟨phase, 1, rev0, rev1, want0, want1, passed0, passed1, delay, gen, switch, flip⟩ ⟨1, rev, n, dl, rgen, tick, pass, y1, y2, y3, y4, y5, y6, y7, y8, y9, y10, y11, y12⟩) = (s', true) := by rw [← hq]; unfold stepV; rw [hr]; rfl
        have hq3 := fin_true hq2
        clear hq hq2
        unfold deployV at hq3
        repeat' (rcases cond_cases hq3 with ⟨hc, hq3⟩ | ⟨hc, hq3⟩)
        all_goals cases hq3
        all_goals simp [stepV, hr, fin, deployV, abortV, preV, postV, prepareV, cancelV, appliedV, warmV, commitV, scaledV, turnV, clearV, otherV, w0, w1, hg1, hg2, inV_eq, selI, hkeep, rblankV, selB] at * <;> grind (splits := 60) (gen := 60)
      · have hb : (kind != 1) = true := by simp [hk]
        simp only [hb, cond_true, Bool.not_true, cond_false]
end Go.Proofs.Ytpfggppoobphmaa.Fold

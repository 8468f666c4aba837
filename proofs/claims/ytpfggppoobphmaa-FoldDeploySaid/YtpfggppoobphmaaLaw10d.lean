/- More laws of a record's step: true, and no memory that was there is written. -/
import Derived.Test.YtpfggppoobphmaaLaw10
set_option maxRecDepth 100000
set_option linter.unusedSimpArgs false
set_option linter.unusedVariables false
namespace Go.Proofs.Ytpfggppoobphmaa.Fold
open Go Go.Proofs.Ytpfggppoobphmaa.Sx
theorem cond_cases {α : Type} {b : Bool} {x y z : α} (h : (bif b then x else y) = z) : (b = true ∧ x = z) ∨ (b = false ∧ y = z) := by cases b <;> simp_all
theorem fin_true {s n : St} {x : Bool × St} (h : fin s x = (n, true)) : x = (true, n) := by
  obtain ⟨b, m⟩ := x
  cases b <;> simp_all [fin]
theorem t_FoldGens {R : Type} (s : St) (r : Rc) (K : TV → List (Option SB) → Option R) : runFn Try.prog TB 10 Try.f7 (bodyOf Try.f7) [.agg (encSt s), .agg (encRc r)] [] K = (bif !(stepV s r).snd then K (TV.s (SV.c (CV.bool true))) [] else (bif !rightV s then K (TV.s (SV.c (CV.bool true))) [] else (bif r.kind == 5 then (bif (stepV s r).fst.gen == IntKind.i64.wrap (s.gen + 1) then (bif (stepV (stepV s r).fst (Rc.mk 7 0 0 0 r.gen 0 false 0 0 0 0 0 0 false false 0 0 0 0)).snd then K (TV.s (SV.c (CV.bool ((stepV (stepV s r).fst (Rc.mk 7 0 0 0 r.gen 0 false 0 0 0 0 0 0 false false 0 0 0 0)).fst.phase == s.phase && ((stepV (stepV s r).fst (Rc.mk 7 0 0 0 r.gen 0 false 0 0 0 0 0 0 false false 0 0 0 0)).fst.active == s.active && ((stepV (stepV s r).fst (Rc.mk 7 0 0 0 r.gen 0 false 0 0 0 0 0 0 false false 0 0 0 0)).fst.rev0 == s.rev0 && ((stepV (stepV s r).fst (Rc.mk 7 0 0 0 r.gen 0 false 0 0 0 0 0 0 false false 0 0 0 0)).fst.rev1 == s.rev1 && ((stepV (stepV s r).fst (Rc.mk 7 0 0 0 r.gen 0 false 0 0 0 0 0 0 false false 0 0 0 0)).fst.want0 == s.want0 && ((stepV (stepV s r).fst (Rc.mk 7 0 0 0 r.gen 0 false 0 0 0 0 0 0 false false 0 0 0 0)).fst.want1 == s.want1 && ((stepV (stepV s r).fst (Rc.mk 7 0 0 0 r.gen 0 false 0 0 0 0 0 0 false false 0 0 0 0)).fst.passed0 == s.passed0 && ((stepV (stepV s r).fst (Rc.mk 7 0 0 0 r.gen 0 false 0 0 0 0 0 0 false false 0 0 0 0)).fst.passed1 == s.passed1 && ((stepV (stepV s r).fst (Rc.mk 7 0 0 0 r.gen 0 false 0 0 0 0 0 0 false false 0 0 0 0)).fst.delay == s.delay && ((stepV (stepV s r).fst (Rc.mk 7 0 0 0 r.gen 0 false 0 0 0 0 0 0 false false 0 0 0 0)).fst.gen == s.gen && ((stepV (stepV s r).fst (Rc.mk 7 0 0 0 r.gen 0 false 0 0 0 0 0 0 false false 0 0 0 0)).fst.switch == s.switch && ((stepV (stepV s r).fst (Rc.mk 7 0 0 0 r.gen 0 false 0 0 0 0 0 0 false false 0 0 0 0)).fst.flip == s.flip && true))))))))))))))) [] else K (TV.s (SV.c (CV.bool false))) []) else K (TV.s (SV.c (CV.bool false))) []) else (bif r.kind == 7 then (bif (stepV s r).fst.gen == IntKind.i64.wrap (s.gen - 1) then K (TV.s (SV.c (CV.bool ((stepV s r).fst.switch == 0)))) [] else K (TV.s (SV.c (CV.bool false))) []) else K (TV.s (SV.c (CV.bool ((stepV s r).fst.gen == s.gen)))) [])))) := by kernel_rfl
theorem FoldGens (s : St) (r : Rc) (q_s : wfSt s) (q_r : wfRc r) (w : World) (v_s : Value) (hv_s : ∀ X ρ, (SV.agg (encSt s)).R X ρ v_s) (v_r : Value) (hv_r : ∀ X ρ, (SV.agg (encRc r)).R X ρ v_r) : Calls Try.prog 7 #[v_s, v_r] w fun e w' => e = .returned (.bool true) ∧ RowKit.Below w.heap.size w w' := by
  refine law_calls okTB mixed Try.func7 (c := bodyOf Try.f7) (by kernel_rfl) lawK_spec (fuel := 10) (args := [.agg (encSt s), .agg (encRc r)]) (hp0 := []) (X := fun _ _ => False) (ρ := fun _ => none) (vs := [v_s, v_r]) ?_ ⟨hv_s _ _, hv_r _ _, trivial⟩ (by intro b sb h; simp at h) (fun _ _ => rfl)
  rw [t_FoldGens]
  cases hr : rightV s with
  | false =>
    have : stepV s r = (s, false) := by unfold stepV; rw [hr]; rfl
    rw [this]
    rfl
  | true =>
    have ha := right_act hr
    simp only [cond_true, cond_false, Bool.not_true, lawK_if, ha]
    clear q_s q_r hv_s hv_r
    obtain ⟨phase, active, rev0, rev1, want0, want1, passed0, passed1, delay, gen, switch, flip⟩ := s
    obtain ⟨kind, rev, n, dl, rgen, tick, pass, y1, y2, y3, y4, y5, y6, y7, y8, y9, y10, y11, y12⟩ := r
    have hk : kind = 5 ∨ kind = 8 ∨ (kind = 1 ∨ kind = 2 ∨ kind = 3 ∨ kind = 4 ∨ kind = 6 ∨ kind = 7 ∨ kind = 9 ∨ kind = 10) ∨ (kind ≠ 1 ∧ kind ≠ 2 ∧ kind ≠ 3 ∧ kind ≠ 4 ∧ kind ≠ 5 ∧ kind ≠ 6 ∧ kind ≠ 7 ∧ kind ≠ 8 ∧ kind ≠ 9 ∧ kind ≠ 10) := by omega
    rcases act_iff.1 ha with ha | ha <;> (simp only at ha; subst ha)
    · have hr' := hr
      rw [right0] at hr'
      have hg1 : IntKind.i64.wrap (gen + 1) = gen + 1 := wi (by omega)
      have hg2 : IntKind.i64.wrap (gen - 1) = gen - 1 := wi (by omega)
      have hg3 : IntKind.i64.wrap (gen + 1 - 1) = gen := by rw [wi (by omega)]; omega
      have hkeep : Rgt (stepV ⟨phase, 0, rev0, rev1, want0, want1, passed0, passed1, delay, gen, switch, flip⟩ ⟨kind, rev, n, dl, rgen, tick, pass, y1, y2, y3, y4, y5, y6, y7, y8, y9, y10, y11, y12⟩) := step_keep hr
      generalize hq : stepV ⟨phase, 0, rev0, rev1, want0, want1, passed0, passed1, delay, gen, switch, flip⟩ ⟨kind, rev, n, dl, rgen, tick, pass, y1, y2, y3, y4, y5, y6, y7, y8, y9, y10, y11, y12⟩ = q at hkeep ⊢
      obtain ⟨s', ok⟩ := q
      have hkeep : rightV s' = true := hkeep
      cases ok
      · simp
      rcases hk with rfl | rfl | hk | hk
      · simp only at ⊢
        have hq2 : fin ⟨phase, 0, rev0, rev1, want0, want1, passed0, passed1, delay, gen, switch, flip⟩ (prepareV ⟨phase, 0, rev0, rev1, want0, want1, passed0, passed1, delay, gen, switch, flip⟩ ⟨5, rev, n, dl, rgen, tick, pass, y1, y2, y3, y4, y5, y6, y7, y8, y9, y10, y11, y12⟩) = (s', true) := by rw [← hq]; unfold stepV; rw [hr]; rfl
        have hq3 := fin_true hq2
        clear hq hq2
        unfold prepareV at hq3
        repeat' (rcases cond_cases hq3 with ⟨hc, hq3⟩ | ⟨hc, hq3⟩)
        all_goals cases hq3
        all_goals simp [stepV, hr, fin, deployV, abortV, preV, postV, prepareV, cancelV, appliedV, warmV, commitV, scaledV, turnV, clearV, otherV, w0, w1, hg1, hg2, inV_eq, selI, hkeep, hg3] at * <;> grind (splits := 60) (gen := 60)
      · by_cases c1 : switch = 2 <;> by_cases c2 : rgen = gen <;> by_cases c3 : 0 ≤ tick <;> by_cases c4 : tick ≤ 1073741824 <;>
          simp [stepV, hr, fin, deployV, abortV, preV, postV, prepareV, cancelV, appliedV, warmV, commitV, scaledV, turnV, clearV, otherV, w0, w1, hg1, hg2, inV_eq, selI, c1, c2, c3, c4] at hq <;> grind (splits := 60) (gen := 60)
      · rcases hk with rfl | rfl | rfl | rfl | rfl | rfl | rfl | rfl <;> simp [stepV, hr, fin, deployV, abortV, preV, postV, prepareV, cancelV, appliedV, warmV, commitV, scaledV, turnV, clearV, otherV, w0, w1, hg1, hg2, inV_eq, selI] at hq <;> grind (splits := 60) (gen := 60)
      · rw [step_other hk] at hq
        cases hq
    · have hr' := hr
      rw [right1] at hr'
      have hg1 : IntKind.i64.wrap (gen + 1) = gen + 1 := wi (by omega)
      have hg2 : IntKind.i64.wrap (gen - 1) = gen - 1 := wi (by omega)
      have hg3 : IntKind.i64.wrap (gen + 1 - 1) = gen := by rw [wi (by omega)]; omega
      have hkeep : Rgt (stepV ⟨phase, 1, rev0, rev1, want0, want1, passed0, passed1, delay, gen, switch, flip⟩ ⟨kind, rev, n, dl, rgen, tick, pass, y1, y2, y3, y4, y5, y6, y7, y8, y9, y10, y11, y12⟩) := step_keep hr
      generalize hq : stepV ⟨phase, 1, rev0, rev1, want0, want1, passed0, passed1, delay, gen, switch, flip⟩ ⟨kind, rev, n, dl, rgen, tick, pass, y1, y2, y3, y4, y5, y6, y7, y8, y9, y10, y11, y12⟩ = q at hkeep ⊢
      obtain ⟨s', ok⟩ := q
      have hkeep : rightV s' = true := hkeep
      cases ok
      · simp
      rcases hk with rfl | rfl | hk | hk
      · simp only at ⊢
        have hq2 : fin ⟨phase, 1, rev0, rev1, want0, want1, passed0, passed1, delay, gen, switch, flip⟩ (prepareV ⟨phase, 1, rev0, rev1, want0, want1, passed0, passed1, delay, gen, switch, flip⟩ ⟨5, rev, n, dl, rgen, tick, pass, y1, y2, y3, y4, y5, y6, y7, y8, y9, y10, y11, y12⟩) = (s', true) := by rw [← hq]; unfold stepV; rw [hr]; rfl
        have hq3 := fin_true hq2
        clear hq hq2
        unfold prepareV at hq3
        repeat' (rcases cond_cases hq3 with ⟨hc, hq3⟩ | ⟨hc, hq3⟩)
        all_goals cases hq3
        all_goals simp [stepV, hr, fin, deployV, abortV, preV, postV, prepareV, cancelV, appliedV, warmV, commitV, scaledV, turnV, clearV, otherV, w0, w1, hg1, hg2, inV_eq, selI, hkeep, hg3] at * <;> grind (splits := 60) (gen := 60)
      · by_cases c1 : switch = 2 <;> by_cases c2 : rgen = gen <;> by_cases c3 : 0 ≤ tick <;> by_cases c4 : tick ≤ 1073741824 <;>
          simp [stepV, hr, fin, deployV, abortV, preV, postV, prepareV, cancelV, appliedV, warmV, commitV, scaledV, turnV, clearV, otherV, w0, w1, hg1, hg2, inV_eq, selI, c1, c2, c3, c4] at hq <;> grind (splits := 60) (gen := 60)
      · rcases hk with rfl | rfl | rfl | rfl | rfl | rfl | rfl | rfl <;> simp [stepV, hr, fin, deployV, abortV, preV, postV, prepareV, cancelV, appliedV, warmV, commitV, scaledV, turnV, clearV, otherV, w0, w1, hg1, hg2, inV_eq, selI] at hq <;> grind (splits := 60) (gen := 60)
      · rw [step_other hk] at hq
        cases hq
end Go.Proofs.Ytpfggppoobphmaa.Fold

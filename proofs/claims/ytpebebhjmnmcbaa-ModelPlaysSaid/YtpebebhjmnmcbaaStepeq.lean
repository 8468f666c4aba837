/- What each record makes of a right state, and what is to be done in it, in plain terms. -/
import Derived.Test.YtpebebhjmnmcbaaFoldLaw
import Derived.Test.YtpebebhjmnmcbaaPlan
import Derived.Test.YtpebebhjmnmcbaaMay
set_option maxRecDepth 100000
set_option linter.unusedSimpArgs false
set_option linter.unusedVariables false
namespace Go.Proofs.Ytpebebhjmnmcbaa.Fold
open Go Go.Proofs.Ytpebebhjmnmcbaa.Sx
@[reducible] def rec0 (k gen tick : Int) (pass : Bool) : Rc := ⟨k, 0, 0, 0, gen, tick, pass, 0, 0, 0, 0, 0, 0, false, false, 0, 0, 0, 0⟩
theorem bne_dec (a b : Int) : (a != b) = !decide (a = b) := by by_cases h : a = b <;> simp [h]
theorem beq_dec (a b : Int) : (a == b) = decide (a = b) := by by_cases h : a = b <;> simp [h]
/-- The other slot has nothing. -/
def clr (s : St) : St := if s.active = 0 then ⟨0, s.active, s.rev0, 0, s.want0, 0, s.passed0, false, s.delay, s.gen, s.switch, s.flip⟩ else ⟨0, s.active, 0, s.rev1, 0, s.want1, false, s.passed1, s.delay, s.gen, s.switch, s.flip⟩
def setPh (s : St) (p : Int) : St := ⟨p, s.active, s.rev0, s.rev1, s.want0, s.want1, s.passed0, s.passed1, s.delay, s.gen, s.switch, s.flip⟩
def setSw (s : St) (g w : Int) : St := ⟨s.phase, s.active, s.rev0, s.rev1, s.want0, s.want1, s.passed0, s.passed1, s.delay, g, w, s.flip⟩
def setPass (s : St) : St := if s.active = 0 then ⟨3, s.active, s.rev0, s.rev1, s.want0, s.want1, s.passed0, true, s.delay, s.gen, s.switch, s.flip⟩ else ⟨3, s.active, s.rev0, s.rev1, s.want0, s.want1, true, s.passed1, s.delay, s.gen, s.switch, s.flip⟩
def turned (s : St) (tick : Int) : St := ⟨if s.phase = 3 then 4 else 7, 1 - s.active, s.rev0, s.rev1, s.want0, s.want1, s.passed0, s.passed1, s.delay, s.gen, 0, tick⟩
def deployed (s : St) (r : Rc) : St := if s.active = 0 then ⟨1, s.active, s.rev0, r.rev, s.want0, r.n, s.passed0, false, r.delay, s.gen, s.switch, s.flip⟩ else ⟨1, s.active, r.rev, s.rev1, r.n, s.want1, false, s.passed1, r.delay, s.gen, s.switch, s.flip⟩
theorem step_prepare {s : St} (h : rightV s = true) (g t : Int) (p : Bool) : stepV s (rec0 5 g t p) = if (s.phase = 3 ∨ s.phase = 6) ∧ s.switch = 0 ∧ g = s.gen + 1 ∧ g ≤ 1048576 then (setSw s g 1, true) else (s, false) := by
  have ha := right_act h
  have hg := (right_rt h).gen
  have hw : IntKind.i64.wrap (s.gen + 1) = s.gen + 1 := wi (by omega)
  unfold stepV
  rw [h]
  obtain ⟨phase, active, rev0, rev1, want0, want1, passed0, passed1, delay, gen, switch, flip⟩ := s
  rcases act_iff.1 ha with ha | ha <;> (simp only at ha; subst ha) <;> simp only at hw <;> simp [prepareV, fin, setSw, hw] <;> grind
theorem step_cancel {s : St} (h : rightV s = true) (g t : Int) (p : Bool) : stepV s (rec0 7 g t p) = if s.switch = 1 ∧ g = s.gen then (setSw s (s.gen - 1) 0, true) else (s, false) := by
  have ha := right_act h
  have hg := (right_rt h).gen
  have hw : IntKind.i64.wrap (s.gen - 1) = s.gen - 1 := wi (by omega)
  unfold stepV
  rw [h]
  obtain ⟨phase, active, rev0, rev1, want0, want1, passed0, passed1, delay, gen, switch, flip⟩ := s
  rcases act_iff.1 ha with ha | ha <;> (simp only at ha; subst ha) <;> simp only at hw <;> by_cases c1 : switch = 1 <;> by_cases c2 : g = gen <;> simp [cancelV, turnV, bne_dec, beq_dec, fin, setSw, hw, c1, c2]
theorem step_commit {s : St} (h : rightV s = true) (g t : Int) (p : Bool) : stepV s (rec0 6 g t p) = if s.switch = 1 ∧ g = s.gen then (setSw s s.gen 2, true) else (s, false) := by
  have ha := right_act h
  unfold stepV
  rw [h]
  obtain ⟨phase, active, rev0, rev1, want0, want1, passed0, passed1, delay, gen, switch, flip⟩ := s
  rcases act_iff.1 ha with ha | ha <;> (simp only at ha; subst ha) <;> by_cases c1 : switch = 1 <;> by_cases c2 : g = gen <;> simp [commitV, turnV, bne_dec, beq_dec, fin, setSw, c1, c2]
theorem step_applied {s : St} (h : rightV s = true) (g t : Int) (p : Bool) : stepV s (rec0 8 g t p) = if (0 ≤ t ∧ t ≤ 1073741824) ∧ s.switch = 2 ∧ g = s.gen then (turned s t, true) else (s, false) := by
  have ha := right_act h
  unfold stepV
  rw [h]
  obtain ⟨phase, active, rev0, rev1, want0, want1, passed0, passed1, delay, gen, switch, flip⟩ := s
  rcases act_iff.1 ha with ha | ha <;> (simp only at ha; subst ha) <;> by_cases c0 : 0 ≤ t ∧ t ≤ 1073741824 <;> by_cases c1 : switch = 2 <;> by_cases c2 : g = gen <;> by_cases c3 : phase = 3 <;> simp [appliedV, turnV, bne_dec, beq_dec, fin, turned, inV_eq, otherV, w0, w1, c0, c1, c2, c3]
theorem step_warm {s : St} (h : rightV s = true) (g t : Int) (p : Bool) : stepV s (rec0 3 g t p) = if s.phase = 1 then (setPh s 2, true) else (s, false) := by
  have ha := right_act h
  unfold stepV
  rw [h]
  obtain ⟨phase, active, rev0, rev1, want0, want1, passed0, passed1, delay, gen, switch, flip⟩ := s
  rcases act_iff.1 ha with ha | ha <;> (simp only at ha; subst ha) <;> by_cases c1 : phase = 1 <;> simp [warmV, bne_dec, beq_dec, fin, setPh, c1]
theorem clear_eq {s : St} (ha : act s = true) : clearV s = (true, clr s) := by
  obtain ⟨phase, active, rev0, rev1, want0, want1, passed0, passed1, delay, gen, switch, flip⟩ := s
  rcases act_iff.1 ha with ha | ha <;> (simp only at ha; subst ha) <;> simp [clearV, clr, otherV, w0, w1]
theorem step_scaled {s : St} (h : rightV s = true) (g t : Int) (p : Bool) : stepV s (rec0 10 g t p) = if s.phase = 5 ∨ s.phase = 7 then (clr s, true) else (s, false) := by
  have ha := right_act h
  have hc := clear_eq ha
  unfold stepV
  rw [h]
  obtain ⟨phase, active, rev0, rev1, want0, want1, passed0, passed1, delay, gen, switch, flip⟩ := s
  rcases act_iff.1 ha with ha | ha <;> (simp only at ha; subst ha) <;> by_cases c1 : phase = 5 <;> by_cases c2 : phase = 7 <;> simp [scaledV, bne_dec, beq_dec, fin, c1, c2] at hc ⊢ <;> simp_all
theorem step_abort {s : St} (h : rightV s = true) (g t : Int) (p : Bool) : stepV s (rec0 2 g t p) = if s.phase = 1 ∨ s.phase = 2 ∨ s.phase = 3 ∧ s.switch = 0 then (clr s, true) else if s.phase = 4 ∨ s.phase = 5 then (setPh s 6, true) else (s, false) := by
  have ha := right_act h
  have hc := clear_eq ha
  unfold stepV
  rw [h]
  obtain ⟨phase, active, rev0, rev1, want0, want1, passed0, passed1, delay, gen, switch, flip⟩ := s
  rcases act_iff.1 ha with ha | ha <;> (simp only at ha; subst ha) <;> simp only [abortV] <;> rw [hc] <;> by_cases c1 : phase = 1 <;> by_cases c2 : phase = 2 <;> by_cases c3 : phase = 3 <;> by_cases c4 : phase = 4 <;> by_cases c5 : phase = 5 <;> by_cases c6 : switch = 0 <;> simp [bne_dec, beq_dec, fin, setPh, c1, c2, c3, c4, c5, c6] <;> omega
theorem step_pre {s : St} (h : rightV s = true) (g t : Int) (p : Bool) : stepV s (rec0 4 g t p) = if s.phase = 2 then (if p = true then setPass s else clr s, true) else (s, false) := by
  have ha := right_act h
  have hc := clear_eq ha
  unfold stepV
  rw [h]
  obtain ⟨phase, active, rev0, rev1, want0, want1, passed0, passed1, delay, gen, switch, flip⟩ := s
  rcases act_iff.1 ha with ha | ha <;> (simp only at ha; subst ha) <;> simp only [preV] <;> rw [hc] <;> by_cases c1 : phase = 2 <;> cases p <;> simp [bne_dec, beq_dec, fin, setPass, otherV, w0, w1, c1]
theorem step_post {s : St} (h : rightV s = true) (g t : Int) (p : Bool) : stepV s (rec0 9 g t p) = if s.phase = 4 then (setPh s (if p = true then 5 else 6), true) else (s, false) := by
  have ha := right_act h
  unfold stepV
  rw [h]
  obtain ⟨phase, active, rev0, rev1, want0, want1, passed0, passed1, delay, gen, switch, flip⟩ := s
  rcases act_iff.1 ha with ha | ha <;> (simp only at ha; subst ha) <;> by_cases c1 : phase = 4 <;> cases p <;> simp [postV, bne_dec, beq_dec, fin, setPh, c1]
end Go.Proofs.Ytpebebhjmnmcbaa.Fold

/- What a step does to a state, in plain terms. No condition beyond those that each theorem names. -/
import Derived.Test.YtpebebhjmnmcbaaFold2
set_option maxRecDepth 100000
set_option linter.unusedSimpArgs false
set_option linter.unusedVariables false
namespace Go.Proofs.Ytpebebhjmnmcbaa.Fold
open Go Go.Proofs.Ytpebebhjmnmcbaa.Sx
theorem lawK_b (b : Bool) (h : b = true) : lawK (.s (.c (.bool b))) [] = some () := by subst h; rfl
theorem lawK_if (b : Bool) : lawK (.s (.c (.bool b))) [] = bif b then some () else none := rfl
theorem bnd {a : Int} (h : (Lit.int .i64 a).wf = true) : -9223372036854775808 ≤ a ∧ a ≤ 9223372036854775807 := by
  simp [Lit.wf, IntKind.min, IntKind.max, IntKind.signed, IntKind.bits] at h
  omega
/-- What Right tells. -/
structure Rt (s : St) : Prop where
  phase : 0 ≤ s.phase ∧ s.phase ≤ 7
  delay : 0 ≤ s.delay ∧ s.delay ≤ 65536
  gen : 0 ≤ s.gen ∧ s.gen ≤ 1048576
  switch : 0 ≤ s.switch ∧ s.switch ≤ 2
  flip : 0 ≤ s.flip ∧ s.flip ≤ 1073741824
theorem right_rt {s : St} (h : rightV s = true) : Rt s := by
  simp only [rightV, inV_eq, Bool.and_eq_true, decide_eq_true_eq] at h
  exact ⟨by omega, by omega, by omega, by omega, by omega⟩
theorem wis {x : Int} (h : 0 ≤ x ∧ x ≤ 2000000) : IntKind.i64.wrap x = x := wi (by omega)
/-- Right, with the active slot at hand. -/
theorem right0 {phase rev0 rev1 want0 want1 : Int} {passed0 passed1 : Bool} {delay gen switch flip : Int} : rightV ⟨phase, 0, rev0, rev1, want0, want1, passed0, passed1, delay, gen, switch, flip⟩ = true ↔
    (0 ≤ phase ∧ phase ≤ 7) ∧ (0 ≤ delay ∧ delay ≤ 65536) ∧ (0 ≤ gen ∧ gen ≤ 1048576) ∧ (0 ≤ switch ∧ switch ≤ 2) ∧ (0 ≤ flip ∧ flip ≤ 1073741824) ∧ (1 ≤ rev0 ∧ rev0 ≤ 1073741824) ∧ (1 ≤ want0 ∧ want0 ≤ 32) ∧ passed0 = true ∧
    (switch = 0 ∨ (phase = 3 ∨ phase = 6) ∧ gen ≠ 0) ∧ (phase ≠ 0 ∨ rev1 = 0 ∧ want1 = 0 ∧ passed1 = false) ∧ (phase = 0 ∨ (1 ≤ rev1 ∧ rev1 ≤ 1073741824) ∧ (1 ≤ want1 ∧ want1 ≤ 32) ∧ rev1 ≠ rev0 ∧ (passed1 = false ↔ phase = 1 ∨ phase = 2)) := by
  simp only [rightV, inV_eq, selI, selB]
  cases passed0 <;> cases passed1 <;> simp <;> grind
theorem right1 {phase rev0 rev1 want0 want1 : Int} {passed0 passed1 : Bool} {delay gen switch flip : Int} : rightV ⟨phase, 1, rev0, rev1, want0, want1, passed0, passed1, delay, gen, switch, flip⟩ = true ↔
    (0 ≤ phase ∧ phase ≤ 7) ∧ (0 ≤ delay ∧ delay ≤ 65536) ∧ (0 ≤ gen ∧ gen ≤ 1048576) ∧ (0 ≤ switch ∧ switch ≤ 2) ∧ (0 ≤ flip ∧ flip ≤ 1073741824) ∧ (1 ≤ rev1 ∧ rev1 ≤ 1073741824) ∧ (1 ≤ want1 ∧ want1 ≤ 32) ∧ passed1 = true ∧
    (switch = 0 ∨ (phase = 3 ∨ phase = 6) ∧ gen ≠ 0) ∧ (phase ≠ 0 ∨ rev0 = 0 ∧ want0 = 0 ∧ passed0 = false) ∧ (phase = 0 ∨ (1 ≤ rev0 ∧ rev0 ≤ 1073741824) ∧ (1 ≤ want0 ∧ want0 ≤ 32) ∧ rev0 ≠ rev1 ∧ (passed0 = false ↔ phase = 1 ∨ phase = 2)) := by
  simp only [rightV, inV_eq, selI, selB]
  cases passed0 <;> cases passed1 <;> simp <;> grind
theorem pcond {α : Type} (P : α → Prop) {b : Bool} {x y : α} (hx : b = true → P x) (hy : b = false → P y) : P (bif b then x else y) := by cases b <;> simp_all
def Fell (s : St) (x : St × Bool) : Prop := x.2 = false → x = (s, false)
theorem step_false {s : St} {r : Rc} : Fell s (stepV s r) := by
  have hf : ∀ x : Bool × St, Fell s (fin s x) := by rintro ⟨b, n⟩ h; cases b <;> simp_all [fin]
  unfold stepV
  repeat' (first | exact hf _ | refine pcond (Fell s) (fun _ => ?_) (fun _ => ?_) | (intro _; rfl))
def Keep (x : Bool × St) : Prop := x.1 = true → rightV x.2 = true
theorem keep_deploy {s : St} {r : Rc} (h : rightV s = true) : Keep (deployV s r) := by
  have ha := right_act h
  obtain ⟨phase, active, rev0, rev1, want0, want1, passed0, passed1, delay, gen, switch, flip⟩ := s
  rcases act_iff.1 ha with ha | ha <;> (simp only at ha; subst ha)
  · rw [right0] at h
    have hg1 : IntKind.i64.wrap (gen + 1) = gen + 1 := wi (by omega)
    have hg2 : IntKind.i64.wrap (gen - 1) = gen - 1 := wi (by omega)
    unfold deployV
    repeat' (first | refine pcond Keep (fun _ => ?_) (fun _ => ?_))
    all_goals (intro hh; simp [right0, right1, inV_eq, clearV, turnV, otherV, w0, w1, selI, selB] at *; first | done | grind)
  · rw [right1] at h
    have hg1 : IntKind.i64.wrap (gen + 1) = gen + 1 := wi (by omega)
    have hg2 : IntKind.i64.wrap (gen - 1) = gen - 1 := wi (by omega)
    unfold deployV
    repeat' (first | refine pcond Keep (fun _ => ?_) (fun _ => ?_))
    all_goals (intro hh; simp [right0, right1, inV_eq, clearV, turnV, otherV, w0, w1, selI, selB] at *; first | done | grind)
theorem keep_abort {s : St} {r : Rc} (h : rightV s = true) : Keep (abortV s r) := by
  have ha := right_act h
  obtain ⟨phase, active, rev0, rev1, want0, want1, passed0, passed1, delay, gen, switch, flip⟩ := s
  rcases act_iff.1 ha with ha | ha <;> (simp only at ha; subst ha)
  · rw [right0] at h
    have hg1 : IntKind.i64.wrap (gen + 1) = gen + 1 := wi (by omega)
    have hg2 : IntKind.i64.wrap (gen - 1) = gen - 1 := wi (by omega)
    unfold abortV
    repeat' (first | refine pcond Keep (fun _ => ?_) (fun _ => ?_))
    all_goals (intro hh; simp [right0, right1, inV_eq, clearV, turnV, otherV, w0, w1, selI, selB] at *; first | done | grind)
  · rw [right1] at h
    have hg1 : IntKind.i64.wrap (gen + 1) = gen + 1 := wi (by omega)
    have hg2 : IntKind.i64.wrap (gen - 1) = gen - 1 := wi (by omega)
    unfold abortV
    repeat' (first | refine pcond Keep (fun _ => ?_) (fun _ => ?_))
    all_goals (intro hh; simp [right0, right1, inV_eq, clearV, turnV, otherV, w0, w1, selI, selB] at *; first | done | grind)
theorem keep_pre {s : St} {r : Rc} (h : rightV s = true) : Keep (preV s r) := by
  have ha := right_act h
  obtain ⟨phase, active, rev0, rev1, want0, want1, passed0, passed1, delay, gen, switch, flip⟩ := s
  rcases act_iff.1 ha with ha | ha <;> (simp only at ha; subst ha)
  · rw [right0] at h
    have hg1 : IntKind.i64.wrap (gen + 1) = gen + 1 := wi (by omega)
    have hg2 : IntKind.i64.wrap (gen - 1) = gen - 1 := wi (by omega)
    unfold preV
    repeat' (first | refine pcond Keep (fun _ => ?_) (fun _ => ?_))
    all_goals (intro hh; simp [right0, right1, inV_eq, clearV, turnV, otherV, w0, w1, selI, selB] at *; first | done | grind)
  · rw [right1] at h
    have hg1 : IntKind.i64.wrap (gen + 1) = gen + 1 := wi (by omega)
    have hg2 : IntKind.i64.wrap (gen - 1) = gen - 1 := wi (by omega)
    unfold preV
    repeat' (first | refine pcond Keep (fun _ => ?_) (fun _ => ?_))
    all_goals (intro hh; simp [right0, right1, inV_eq, clearV, turnV, otherV, w0, w1, selI, selB] at *; first | done | grind)
theorem keep_post {s : St} {r : Rc} (h : rightV s = true) : Keep (postV s r) := by
  have ha := right_act h
  obtain ⟨phase, active, rev0, rev1, want0, want1, passed0, passed1, delay, gen, switch, flip⟩ := s
  rcases act_iff.1 ha with ha | ha <;> (simp only at ha; subst ha)
  · rw [right0] at h
    have hg1 : IntKind.i64.wrap (gen + 1) = gen + 1 := wi (by omega)
    have hg2 : IntKind.i64.wrap (gen - 1) = gen - 1 := wi (by omega)
    unfold postV
    repeat' (first | refine pcond Keep (fun _ => ?_) (fun _ => ?_))
    all_goals (intro hh; simp [right0, right1, inV_eq, clearV, turnV, otherV, w0, w1, selI, selB] at *; first | done | grind)
  · rw [right1] at h
    have hg1 : IntKind.i64.wrap (gen + 1) = gen + 1 := wi (by omega)
    have hg2 : IntKind.i64.wrap (gen - 1) = gen - 1 := wi (by omega)
    unfold postV
    repeat' (first | refine pcond Keep (fun _ => ?_) (fun _ => ?_))
    all_goals (intro hh; simp [right0, right1, inV_eq, clearV, turnV, otherV, w0, w1, selI, selB] at *; first | done | grind)
theorem keep_prepare {s : St} {r : Rc} (h : rightV s = true) : Keep (prepareV s r) := by
  have ha := right_act h
  obtain ⟨phase, active, rev0, rev1, want0, want1, passed0, passed1, delay, gen, switch, flip⟩ := s
  rcases act_iff.1 ha with ha | ha <;> (simp only at ha; subst ha)
  · rw [right0] at h
    have hg1 : IntKind.i64.wrap (gen + 1) = gen + 1 := wi (by omega)
    have hg2 : IntKind.i64.wrap (gen - 1) = gen - 1 := wi (by omega)
    unfold prepareV
    repeat' (first | refine pcond Keep (fun _ => ?_) (fun _ => ?_))
    all_goals (intro hh; simp [right0, right1, inV_eq, clearV, turnV, otherV, w0, w1, selI, selB] at *; first | done | grind)
  · rw [right1] at h
    have hg1 : IntKind.i64.wrap (gen + 1) = gen + 1 := wi (by omega)
    have hg2 : IntKind.i64.wrap (gen - 1) = gen - 1 := wi (by omega)
    unfold prepareV
    repeat' (first | refine pcond Keep (fun _ => ?_) (fun _ => ?_))
    all_goals (intro hh; simp [right0, right1, inV_eq, clearV, turnV, otherV, w0, w1, selI, selB] at *; first | done | grind)
theorem keep_cancel {s : St} {r : Rc} (h : rightV s = true) : Keep (cancelV s r) := by
  have ha := right_act h
  obtain ⟨phase, active, rev0, rev1, want0, want1, passed0, passed1, delay, gen, switch, flip⟩ := s
  rcases act_iff.1 ha with ha | ha <;> (simp only at ha; subst ha)
  · rw [right0] at h
    have hg1 : IntKind.i64.wrap (gen + 1) = gen + 1 := wi (by omega)
    have hg2 : IntKind.i64.wrap (gen - 1) = gen - 1 := wi (by omega)
    unfold cancelV
    by_cases c1 : switch = 1 <;> by_cases c2 : r.gen = gen <;> simp [turnV, c1, c2, Keep, right0, right1, inV_eq, otherV, w0, w1, hg1, hg2] <;> grind [right0, right1]
  · rw [right1] at h
    have hg1 : IntKind.i64.wrap (gen + 1) = gen + 1 := wi (by omega)
    have hg2 : IntKind.i64.wrap (gen - 1) = gen - 1 := wi (by omega)
    unfold cancelV
    by_cases c1 : switch = 1 <;> by_cases c2 : r.gen = gen <;> simp [turnV, c1, c2, Keep, right0, right1, inV_eq, otherV, w0, w1, hg1, hg2] <;> grind [right0, right1]
theorem keep_applied {s : St} {r : Rc} (h : rightV s = true) : Keep (appliedV s r) := by
  have ha := right_act h
  obtain ⟨phase, active, rev0, rev1, want0, want1, passed0, passed1, delay, gen, switch, flip⟩ := s
  rcases act_iff.1 ha with ha | ha <;> (simp only at ha; subst ha)
  · rw [right0] at h
    have hg1 : IntKind.i64.wrap (gen + 1) = gen + 1 := wi (by omega)
    have hg2 : IntKind.i64.wrap (gen - 1) = gen - 1 := wi (by omega)
    unfold appliedV
    by_cases c1 : switch = 2 <;> by_cases c2 : r.gen = gen <;> simp [turnV, c1, c2, Keep, right0, right1, inV_eq, otherV, w0, w1, hg1, hg2] <;> grind [right0, right1]
  · rw [right1] at h
    have hg1 : IntKind.i64.wrap (gen + 1) = gen + 1 := wi (by omega)
    have hg2 : IntKind.i64.wrap (gen - 1) = gen - 1 := wi (by omega)
    unfold appliedV
    by_cases c1 : switch = 2 <;> by_cases c2 : r.gen = gen <;> simp [turnV, c1, c2, Keep, right0, right1, inV_eq, otherV, w0, w1, hg1, hg2] <;> grind [right0, right1]
theorem keep_warm {s : St} {r : Rc} (h : rightV s = true) : Keep (warmV s r) := by
  have ha := right_act h
  obtain ⟨phase, active, rev0, rev1, want0, want1, passed0, passed1, delay, gen, switch, flip⟩ := s
  rcases act_iff.1 ha with ha | ha <;> (simp only at ha; subst ha)
  · rw [right0] at h
    have hg1 : IntKind.i64.wrap (gen + 1) = gen + 1 := wi (by omega)
    have hg2 : IntKind.i64.wrap (gen - 1) = gen - 1 := wi (by omega)
    unfold warmV
    repeat' (first | refine pcond Keep (fun _ => ?_) (fun _ => ?_))
    all_goals (intro hh; simp [right0, right1, inV_eq, clearV, turnV, otherV, w0, w1, selI, selB] at *; first | done | grind)
  · rw [right1] at h
    have hg1 : IntKind.i64.wrap (gen + 1) = gen + 1 := wi (by omega)
    have hg2 : IntKind.i64.wrap (gen - 1) = gen - 1 := wi (by omega)
    unfold warmV
    repeat' (first | refine pcond Keep (fun _ => ?_) (fun _ => ?_))
    all_goals (intro hh; simp [right0, right1, inV_eq, clearV, turnV, otherV, w0, w1, selI, selB] at *; first | done | grind)
theorem keep_commit {s : St} {r : Rc} (h : rightV s = true) : Keep (commitV s r) := by
  have ha := right_act h
  obtain ⟨phase, active, rev0, rev1, want0, want1, passed0, passed1, delay, gen, switch, flip⟩ := s
  rcases act_iff.1 ha with ha | ha <;> (simp only at ha; subst ha)
  · rw [right0] at h
    have hg1 : IntKind.i64.wrap (gen + 1) = gen + 1 := wi (by omega)
    have hg2 : IntKind.i64.wrap (gen - 1) = gen - 1 := wi (by omega)
    unfold commitV
    by_cases c1 : switch = 1 <;> by_cases c2 : r.gen = gen <;> simp [turnV, c1, c2, Keep, right0, right1, inV_eq, otherV, w0, w1, hg1, hg2] <;> grind [right0, right1]
  · rw [right1] at h
    have hg1 : IntKind.i64.wrap (gen + 1) = gen + 1 := wi (by omega)
    have hg2 : IntKind.i64.wrap (gen - 1) = gen - 1 := wi (by omega)
    unfold commitV
    by_cases c1 : switch = 1 <;> by_cases c2 : r.gen = gen <;> simp [turnV, c1, c2, Keep, right0, right1, inV_eq, otherV, w0, w1, hg1, hg2] <;> grind [right0, right1]
theorem keep_scaled {s : St} {r : Rc} (h : rightV s = true) : Keep (scaledV s r) := by
  have ha := right_act h
  obtain ⟨phase, active, rev0, rev1, want0, want1, passed0, passed1, delay, gen, switch, flip⟩ := s
  rcases act_iff.1 ha with ha | ha <;> (simp only at ha; subst ha)
  · rw [right0] at h
    have hg1 : IntKind.i64.wrap (gen + 1) = gen + 1 := wi (by omega)
    have hg2 : IntKind.i64.wrap (gen - 1) = gen - 1 := wi (by omega)
    unfold scaledV
    repeat' (first | refine pcond Keep (fun _ => ?_) (fun _ => ?_))
    all_goals (intro hh; simp [right0, right1, inV_eq, clearV, turnV, otherV, w0, w1, selI, selB] at *; first | done | grind)
  · rw [right1] at h
    have hg1 : IntKind.i64.wrap (gen + 1) = gen + 1 := wi (by omega)
    have hg2 : IntKind.i64.wrap (gen - 1) = gen - 1 := wi (by omega)
    unfold scaledV
    repeat' (first | refine pcond Keep (fun _ => ?_) (fun _ => ?_))
    all_goals (intro hh; simp [right0, right1, inV_eq, clearV, turnV, otherV, w0, w1, selI, selB] at *; first | done | grind)
def Rgt (x : St × Bool) : Prop := rightV x.1 = true
theorem fin_keep {s : St} {x : Bool × St} (h : rightV s = true) (hx : Keep x) : Rgt (fin s x) := by
  obtain ⟨b, n⟩ := x
  cases b
  · exact h
  · exact hx rfl
theorem step_keep {s : St} {r : Rc} (h : rightV s = true) : Rgt (stepV s r) := by
  unfold stepV
  rw [h]
  exact pcond Rgt (fun _ => pcond Rgt (fun _ => fin_keep h (keep_deploy h)) fun _ => pcond Rgt (fun _ => fin_keep h (keep_abort h)) fun _ => pcond Rgt (fun _ => fin_keep h (keep_pre h)) fun _ => pcond Rgt (fun _ => fin_keep h (keep_post h)) fun _ =>
    pcond Rgt (fun _ => fin_keep h (keep_prepare h)) fun _ => pcond Rgt (fun _ => fin_keep h (keep_cancel h)) fun _ => pcond Rgt (fun _ => fin_keep h (keep_applied h)) fun _ => pcond Rgt (fun _ => fin_keep h (keep_warm h)) fun _ => pcond Rgt (fun _ => fin_keep h (keep_commit h)) fun _ =>
    pcond Rgt (fun _ => fin_keep h (keep_scaled h)) fun _ => h) fun _ => h
end Go.Proofs.Ytpebebhjmnmcbaa.Fold

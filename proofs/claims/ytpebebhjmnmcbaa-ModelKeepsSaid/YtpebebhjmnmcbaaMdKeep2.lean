/- What an act makes of how many are wanted, part 2: a step. Plain. -/
import Derived.Test.YtpebebhjmnmcbaaMdKeep
set_option maxRecDepth 100000
set_option linter.unusedSimpArgs false
set_option linter.unusedVariables false
namespace Go.Proofs.Ytpebebhjmnmcbaa.Md
open Go Go.Proofs.Ytpebebhjmnmcbaa.Sx
def WS (m m' : Md) : Prop := m'.st.want0 = m.st.want0 ∧ m'.st.want1 = m.st.want1
theorem ws_route {m : Md} {N : Nat} (h : Inv m N) (hs : m.st.switch = 2) (o : Nat → Int) : WS m (routeV m o).2 := by
  have hst := Fold.step_applied h.right m.st.gen m.tick false
  rw [if_pos ⟨h.tick, hs, rfl⟩] at hst
  unfold routeV
  cases (Rt.csetV m.r o (toM m) m.tries).1 == 0 with
  | true =>
    rw [cond_true]
    have e1 : (putM (withR m (Rt.csetV m.r o (toM m) m.tries).2.2) (recA m.st.gen m.tick)).st = Fold.turned m.st m.tick := by
      show (Fold.stepV m.st (Fold.rec0 8 m.st.gen m.tick false)).1 = _
      rw [hst]
    unfold WS
    rw [e1]
    exact ⟨rfl, rfl⟩
  | false => exact ⟨rfl, rfl⟩
theorem ws_1 {m : Md} {N : Nat} (h : Inv m N) (hs : m.st.switch = 1) (o : Nat → Int) (k : Nat) : WS m (stepG o (k + 2) m).2 := by
  rw [step1 h hs]
  by_cases hf : fullO m = true
  · rw [if_pos hf]
    have hstep := Fold.step_commit h.right m.st.gen 0 false
    rw [if_pos ⟨hs, rfl⟩] at hstep
    have e1 : (putM m (Fold.rec0 6 m.st.gen 0 false)).st = Fold.setSw m.st m.st.gen 2 := by
      show (Fold.stepV m.st (Fold.rec0 6 m.st.gen 0 false)).1 = _
      rw [hstep]
    have := ws_route (inv_put h (Fold.rec0 6 m.st.gen 0 false)) (by rw [e1]; rfl) o
    unfold WS at this
    rw [e1] at this
    exact this
  · rw [if_neg hf]
    have hstep := Fold.step_cancel h.right m.st.gen 0 false
    rw [if_pos ⟨hs, rfl⟩] at hstep
    have e1 : (putM m (Fold.rec0 7 m.st.gen 0 false)).st = Fold.setSw m.st (m.st.gen - 1) 0 := by
      show (Fold.stepV m.st (Fold.rec0 7 m.st.gen 0 false)).1 = _
      rw [hstep]
    unfold WS
    simp only
    rw [e1]
    exact ⟨rfl, rfl⟩
theorem wf_0 {m : Md} {N : Nat} (h : Inv m N) (o : Nat → Int) (k : Nat) : WF m (stepG o (k + 3) m).2 := by
  obtain ⟨hs, hp, hg, _⟩ := right_sw h.right
  by_cases s2 : m.st.switch = 2
  · rw [step2 h s2]; exact .inl (ws_route h s2 o)
  by_cases s1 : m.st.switch = 1
  · exact .inl (ws_1 h s1 o (k + 1))
  have s0 : m.st.switch = 0 := by omega
  conv => rhs; unfold stepG
  rw [nx_eq h.right]
  by_cases p1 : m.st.phase = 1
  · rw [if_pos p1]
    cases hf : fullO m with
    | true =>
      left
      show (Fold.stepV m.st (Fold.rec0 3 0 0 false)).1.want0 = _ ∧ (Fold.stepV m.st (Fold.rec0 3 0 0 false)).1.want1 = _
      rw [Fold.step_warm h.right, if_pos p1]
      exact ⟨rfl, rfl⟩
    | false => exact .inl ⟨rfl, rfl⟩
  rw [if_neg p1]
  by_cases p3 : m.st.phase = 3 ∨ m.st.phase = 6
  · rw [if_pos p3, if_neg s2, if_neg s1]
    by_cases hf : fullO m = true
    · rw [if_pos hf]
      have hstep := Fold.step_prepare h.right (m.st.gen + 1) 0 false
      by_cases hm : m.st.gen + 1 ≤ 1048576
      · rw [if_pos ⟨p3, s0, rfl, hm⟩] at hstep
        simp only
        rw [hstep]
        have e1 : (putM m (Fold.rec0 5 (m.st.gen + 1) 0 false)).st = Fold.setSw m.st (m.st.gen + 1) 1 := by
          show (Fold.stepV m.st (Fold.rec0 5 (m.st.gen + 1) 0 false)).1 = _
          rw [hstep]
        have := ws_1 (inv_put h (Fold.rec0 5 (m.st.gen + 1) 0 false)) (by rw [e1]; rfl) o k
        unfold WS at this
        rw [e1] at this
        exact .inl this
      · rw [if_neg (by omega)] at hstep
        simp only
        rw [hstep]
        left
        show (Fold.stepV m.st (Fold.rec0 5 (m.st.gen + 1) 0 false)).1.want0 = _ ∧ (Fold.stepV m.st (Fold.rec0 5 (m.st.gen + 1) 0 false)).1.want1 = _
        rw [hstep]; exact ⟨rfl, rfl⟩
    · rw [if_neg hf]; exact .inl ⟨rfl, rfl⟩
  · rw [if_neg p3]
    by_cases p7 : m.st.phase = 7 ∨ m.st.phase = 5 ∧ ¬ Fold.lessV m.tick m.st.flip < m.st.delay
    · rw [if_pos p7]
      right
      have hst := Fold.step_scaled h.right 0 0 false
      rw [if_pos (by omega)] at hst
      have e1 : (putM m (Fold.rec0 10 0 0 false)).st = Fold.clr m.st := by
        show (Fold.stepV m.st (Fold.rec0 10 0 0 false)).1 = _
        rw [hst]
      refine ⟨rfl, s0, ?_, ?_, .inr (.inl p7)⟩
      · show Fold.wantA (putM m (Fold.rec0 10 0 0 false)).st = _
        rw [e1]; exact (clr_want m.st).1
      · show (putM m (Fold.rec0 10 0 0 false)).st.active = _
        rw [e1]; exact (clr_want m.st).2
    · rw [if_neg p7]; exact .inl ⟨rfl, rfl⟩
end Go.Proofs.Ytpebebhjmnmcbaa.Md

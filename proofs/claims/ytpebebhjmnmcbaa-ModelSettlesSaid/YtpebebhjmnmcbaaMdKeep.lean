/- What an act makes of how many are wanted. Plain. -/
import Derived.Test.YtpebebhjmnmcbaaMdCell2
set_option maxRecDepth 100000
set_option linter.unusedSimpArgs false
set_option linter.unusedVariables false
namespace Go.Proofs.Ytpebebhjmnmcbaa.Md
open Go Go.Proofs.Ytpebebhjmnmcbaa.Sx
def aheadP (m : Md) : Prop := m.st.phase = 1 ∨ m.st.phase = 2 ∨ m.st.phase = 3 ∧ m.st.switch = 0
def behindP (m : Md) : Prop := m.st.phase = 7 ∨ m.st.phase = 5 ∧ ¬ Fold.lessV m.tick m.st.flip < m.st.delay
/-- The wanted ones stay, or the other slot's alone change, as they may. -/
def WF (m m' : Md) : Prop := (m'.st.want0 = m.st.want0 ∧ m'.st.want1 = m.st.want1) ∨ (m'.r = m.r ∧ m.st.switch = 0 ∧ Fold.wantA m'.st = Fold.wantA m.st ∧ m'.st.active = m.st.active ∧ (aheadP m ∨ behindP m ∨ Fold.wantO m.st ≤ Fold.wantO m'.st))
theorem clr_want (s : Fold.St) : Fold.wantA (Fold.clr s) = Fold.wantA s ∧ (Fold.clr s).active = s.active := by
  unfold Fold.clr Fold.wantA
  by_cases h : s.active = 0
  · rw [if_pos h]; simp [h]
  · rw [if_neg h]; simp [h]
theorem dep_want (s : Fold.St) (r : Fold.Rc) : Fold.wantA (Fold.deployed s r) = Fold.wantA s ∧ (Fold.deployed s r).active = s.active ∧ Fold.wantO (Fold.deployed s r) = r.n := by
  unfold Fold.deployed Fold.wantA Fold.wantO
  by_cases h : s.active = 0
  · rw [if_pos h]; simp [h]
  · rw [if_neg h]; simp [h]
theorem pass_want (s : Fold.St) : (Fold.setPass s).want0 = s.want0 ∧ (Fold.setPass s).want1 = s.want1 := by
  unfold Fold.setPass
  by_cases h : s.active = 0
  · rw [if_pos h]; exact ⟨rfl, rfl⟩
  · rw [if_neg h]; exact ⟨rfl, rfl⟩
/-- In the stable phase nothing is wanted of the other slot. -/
theorem stable_want {s : Fold.St} (h : Fold.rightV s = true) (hp : s.phase = 0) : Fold.wantO s = 0 := by
  have ha := Fold.right_act h
  obtain ⟨phase, active, rev0, rev1, want0, want1, passed0, passed1, delay, gen, switch, flip⟩ := s
  simp only at hp
  rcases Fold.act_iff.1 ha with ha | ha <;> (simp only at ha; subst ha)
  · rw [Fold.right0] at h
    obtain ⟨_, _, _, _, _, _, _, _, _, h10, _⟩ := h
    rcases h10 with h10 | h10
    · exact absurd hp h10
    · exact h10.2.1
  · rw [Fold.right1] at h
    obtain ⟨_, _, _, _, _, _, _, _, _, h10, _⟩ := h
    rcases h10 with h10 | h10
    · exact absurd hp h10
    · exact h10.2.1
theorem wf_op {m : Md} {N : Nat} (h : Inv m N) (o : Fold.Ask) : WF m (opV m o).2 := by
  obtain ⟨hs, hp, hg, _⟩ := right_sw h.right
  have hph := (Fold.right_rt h.right).phase
  unfold opV
  cases hc : Fold.checkV m.st o m.tick != 0 with
  | true => exact .inl ⟨rfl, rfl⟩
  | false =>
    have hc : Fold.checkV m.st o m.tick = 0 := by simpa using hc
    rw [cond_false]
    have key : ∀ s', (Fold.stepV m.st (Fold.recordV o)).1 = s' → ((s'.want0 = m.st.want0 ∧ s'.want1 = m.st.want1) ∨ (m.st.switch = 0 ∧ Fold.wantA s' = Fold.wantA m.st ∧ s'.active = m.st.active ∧ (aheadP m ∨ behindP m ∨ Fold.wantO m.st ≤ Fold.wantO s'))) → WF m (putM m (Fold.recordV o)) := by
      intro s' hs' hw
      have e : (putM m (Fold.recordV o)).st = s' := hs'
      unfold WF
      rw [e]
      rcases hw with hw | hw
      · exact .inl hw
      · exact .inr ⟨rfl, hw⟩
    rw [Fold.check_eq h.act] at hc
    by_cases k1 : o.kind = 1
    · have e : Fold.recordV o = Fold.recD o.rev o.n o.delay := by rw [Fold.record_eq, if_pos k1]
      have hst := Fold.step_deploy h.right o.rev o.n o.delay
      rw [← e] at hst
      by_cases hcond : m.st.phase ≤ 2 ∧ (1 ≤ o.rev ∧ o.rev ≤ 1073741824) ∧ (1 ≤ o.n ∧ o.n ≤ 32) ∧ (0 ≤ o.delay ∧ o.delay ≤ 65536) ∧ o.rev ≠ Fold.revA m.st ∧ m.st.gen ≤ 1048574
      · rw [if_pos hcond] at hst
        obtain ⟨d1, d2, d3⟩ := dep_want m.st (Fold.recordV o)
        refine key _ (by rw [hst]) (.inr ⟨by omega, d1, d2, ?_⟩)
        by_cases p0 : m.st.phase = 0
        · right; right
          rw [d3, stable_want h.right p0, e]
          show 0 ≤ o.n
          omega
        · left; unfold aheadP; omega
      · rw [if_neg hcond] at hst
        exact key _ (by rw [hst]) (.inl ⟨rfl, rfl⟩)
    · rw [if_neg k1] at hc
      by_cases k4 : o.kind = 4
      · have e : Fold.recordV o = Fold.rec0 4 0 0 o.pass := by rw [Fold.record_eq, if_neg k1, if_pos (.inl k4), k4]
        have hst := Fold.step_pre h.right 0 0 o.pass
        rw [← e] at hst
        by_cases p2 : m.st.phase = 2
        · rw [if_pos p2] at hst
          cases hb : o.pass with
          | true => rw [hb] at hst; exact key (Fold.setPass m.st) (by rw [hst]; rfl) (.inl (pass_want m.st))
          | false =>
            rw [hb] at hst
            exact key (Fold.clr m.st) (by rw [hst]; rfl) (.inr ⟨by omega, (clr_want m.st).1, (clr_want m.st).2, .inl (by unfold aheadP; omega)⟩)
        · rw [if_neg p2] at hst
          exact key _ (by rw [hst]) (.inl ⟨rfl, rfl⟩)
      · by_cases k9 : o.kind = 9
        · have e : Fold.recordV o = Fold.rec0 9 0 0 o.pass := by rw [Fold.record_eq, if_neg k1, if_pos (.inr k9), k9]
          have hst := Fold.step_post h.right 0 0 o.pass
          rw [← e] at hst
          by_cases p4 : m.st.phase = 4
          · rw [if_pos p4] at hst; exact key (Fold.setPh m.st (if o.pass = true then 5 else 6)) (by rw [hst]) (.inl ⟨rfl, rfl⟩)
          · rw [if_neg p4] at hst; exact key _ (by rw [hst]) (.inl ⟨rfl, rfl⟩)
        · by_cases k2 : o.kind = 2
          · have e : Fold.recordV o = Fold.rec0 2 0 0 false := by rw [Fold.record_eq, if_neg k1, if_neg (by omega), k2]
            have hst := Fold.step_abort h.right 0 0 false
            rw [← e] at hst
            by_cases pa : m.st.phase = 1 ∨ m.st.phase = 2 ∨ m.st.phase = 3 ∧ m.st.switch = 0
            · rw [if_pos pa] at hst
              exact key _ (by rw [hst]) (.inr ⟨by omega, (clr_want m.st).1, (clr_want m.st).2, .inl pa⟩)
            · rw [if_neg pa] at hst
              by_cases pb : m.st.phase = 4 ∨ m.st.phase = 5
              · rw [if_pos pb] at hst; exact key (Fold.setPh m.st 6) (by rw [hst]) (.inl ⟨rfl, rfl⟩)
              · rw [if_neg pb] at hst; exact key _ (by rw [hst]) (.inl ⟨rfl, rfl⟩)
          · rw [if_neg k2, if_neg k4, if_neg k9] at hc
            cases hc
end Go.Proofs.Ytpebebhjmnmcbaa.Md

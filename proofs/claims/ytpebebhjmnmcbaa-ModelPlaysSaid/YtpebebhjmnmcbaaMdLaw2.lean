/- A step of a model ends; an act may be done. Plain. -/
import Derived.Test.YtpebebhjmnmcbaaMdLaw
import Derived.Test.YtpebebhjmnmcbaaStepeq2
set_option maxRecDepth 100000
set_option linter.unusedSimpArgs false
set_option linter.unusedVariables false
namespace Go.Proofs.Ytpebebhjmnmcbaa.Md
open Go Go.Proofs.Ytpebebhjmnmcbaa.Sx
/-- Right, with the switch and the phase at hand. -/
theorem right_sw {s : Fold.St} (h : Fold.rightV s = true) : (0 ≤ s.switch ∧ s.switch ≤ 2) ∧ (s.switch = 0 ∨ (s.phase = 3 ∨ s.phase = 6) ∧ s.gen ≠ 0) ∧ (0 ≤ s.gen ∧ s.gen ≤ 1048576) ∧ (s.active = 0 ∨ s.active = 1) := by
  have ha := Fold.right_act h
  obtain ⟨phase, active, rev0, rev1, want0, want1, passed0, passed1, delay, gen, switch, flip⟩ := s
  rcases Fold.act_iff.1 ha with ha | ha <;> (simp only at ha; subst ha)
  · rw [Fold.right0] at h
    obtain ⟨a1, a2, a3, a4, a5, a6, a7, a8, a9, _⟩ := h
    exact ⟨a4, a9, a3, .inl rfl⟩
  · rw [Fold.right1] at h
    obtain ⟨a1, a2, a3, a4, a5, a6, a7, a8, a9, _⟩ := h
    exact ⟨a4, a9, a3, .inr rfl⟩
noncomputable def fullO (m : Md) : Bool := Fold.fullV m.st (viewM m) (IntKind.i64.wrap (1 - m.st.active))
/-- What is to be done, of a right state. -/
theorem nx_eq {m : Md} (h : Fold.rightV m.st = true) : nxV m =
    if m.st.phase = 1 then (if fullO m = true then (1, Fold.rec0 3 0 0 false) else (0, Fold.rec0 0 0 0 false))
    else if m.st.phase = 3 ∨ m.st.phase = 6 then
      (if m.st.switch = 2 then (5, Fold.rec0 0 0 0 false) else if m.st.switch = 1 then (if fullO m = true then (3, Fold.rec0 6 m.st.gen 0 false) else (4, Fold.rec0 7 m.st.gen 0 false))
        else if fullO m = true then (2, Fold.rec0 5 (m.st.gen + 1) 0 false) else (0, Fold.rec0 0 0 0 false))
    else if m.st.phase = 7 ∨ m.st.phase = 5 ∧ ¬ Fold.lessV m.tick m.st.flip < m.st.delay then (6, Fold.rec0 10 0 0 false) else (0, Fold.rec0 0 0 0 false) := by
  obtain ⟨_, _, hg, _⟩ := right_sw h
  have e : IntKind.i64.wrap (m.st.gen + 1) = m.st.gen + 1 := wi (by omega)
  unfold nxV fullO
  rw [Fold.next_eq, e]
theorem done2 {m : Md} (h : Fold.rightV m.st = true) (hs : m.st.switch = 2) (k : Nat) : doneG (k + 1) m = true ∧ (nxV m).1 = 5 := by
  obtain ⟨_, h2, _, _⟩ := right_sw h
  have hn : (nxV m).1 = 5 := by
    rw [nx_eq h, if_neg (show ¬ m.st.phase = 1 by omega), if_pos (show m.st.phase = 3 ∨ m.st.phase = 6 by omega), if_pos hs]
  refine ⟨?_, hn⟩
  unfold doneG
  rw [hn]; rfl
theorem done1 {m : Md} (h : Fold.rightV m.st = true) (hs : m.st.switch = 1) (k : Nat) : doneG (k + 2) m = true := by
  obtain ⟨_, h2, hg, _⟩ := right_sw h
  have hn : nxV m = if fullO m = true then (3, Fold.rec0 6 m.st.gen 0 false) else (4, Fold.rec0 7 m.st.gen 0 false) := by
    rw [nx_eq h, if_neg (show ¬ m.st.phase = 1 by omega), if_pos (show m.st.phase = 3 ∨ m.st.phase = 6 by omega), if_neg (show ¬ m.st.switch = 2 by omega), if_pos hs]
  unfold doneG
  rw [hn]
  by_cases hf : fullO m = true
  · rw [if_pos hf]
    have hstep := Fold.step_commit h m.st.gen 0 false
    rw [if_pos ⟨hs, rfl⟩] at hstep
    simp only
    rw [hstep]
    have hr : Fold.rightV (putM m (Fold.rec0 6 m.st.gen 0 false)).st = true := Fold.step_keep h
    refine (done2 hr ?_ k).1
    show (Fold.stepV m.st (Fold.rec0 6 m.st.gen 0 false)).1.switch = 2
    rw [hstep]; rfl
  · rw [if_neg hf]; rfl
theorem done {m : Md} (h : Fold.rightV m.st = true) (k : Nat) : doneG (k + 3) m = true := by
  obtain ⟨h1, h2, hg, _⟩ := right_sw h
  by_cases s2 : m.st.switch = 2
  · exact (done2 h s2 (k + 2)).1
  by_cases s1 : m.st.switch = 1
  · exact done1 h s1 (k + 1)
  have s0 : m.st.switch = 0 := by omega
  unfold doneG
  rw [nx_eq h]
  by_cases p1 : m.st.phase = 1
  · rw [if_pos p1]; cases fullO m <;> rfl
  rw [if_neg p1]
  by_cases p3 : m.st.phase = 3 ∨ m.st.phase = 6
  · rw [if_pos p3, if_neg s2, if_neg s1]
    by_cases hf : fullO m = true
    · rw [if_pos hf]
      have hstep := Fold.step_prepare h (m.st.gen + 1) 0 false
      by_cases hm : m.st.gen + 1 ≤ 1048576
      · rw [if_pos ⟨p3, s0, rfl, hm⟩] at hstep
        simp only
        rw [hstep]
        have hr : Fold.rightV (putM m (Fold.rec0 5 (m.st.gen + 1) 0 false)).st = true := Fold.step_keep h
        refine done1 hr ?_ k
        show (Fold.stepV m.st (Fold.rec0 5 (m.st.gen + 1) 0 false)).1.switch = 1
        rw [hstep]; rfl
      · rw [if_neg (by omega)] at hstep
        simp only
        rw [hstep]; rfl
    · rw [if_neg hf]; rfl
  · rw [if_neg p3]
    by_cases p7 : m.st.phase = 7 ∨ m.st.phase = 5 ∧ ¬ Fold.lessV m.tick m.st.flip < m.st.delay
    · rw [if_pos p7]; rfl
    · rw [if_neg p7]; rfl
theorem Inv.act {m : Md} {N : Nat} (h : Inv m N) : Fold.act m.st = true := Fold.right_act h.right
/-- An act may be done. -/
theorem Inv.ok {m : Md} {N : Nat} (h : Inv m N) (a : Ac) (hl : N + a.outL.length ≤ 4294967296) : okDo m N a = true := by
  have hn := h.n
  unfold okDo
  cases a.kind == 1 with
  | true => exact h.act
  | false =>
    cases a.kind == 2 with
    | true =>
      rw [cond_false, cond_true, decide_eq_true h.n.symm, decide_eq_true (show m.r.n + a.outL.length ≤ 4294967296 by omega), done (inv_pre h (n := m.r.n + a.outL.length)).right 1]
      rfl
    | false =>
      cases a.kind == 3 with
      | true => exact h.small
      | false => rfl
/-- How a model begins. -/
theorem inv_new {rev n tries : Int} (h : (Fold.ffirstV rev n).2 = true) : Inv (newM rev n tries) 0 := by
  have hr : Fold.rightV (Fold.ffirstV rev n).1 = true := by
    unfold Fold.ffirstV at h ⊢
    cases hb : Fold.rightV (Fold.St.mk 0 0 rev 0 n 0 true false 0 0 0 0) with
    | true => exact hb
    | false => rw [hb] at h; cases h
  obtain ⟨h1, h2⟩ := right_want hr
  have hw : ∀ s : Rep.Sl, ∀ (k : Nat) (i : Int), (Rep.fillIt k i s).want = s.want ∧ (Clean s → Clean (Rep.fillIt k i s)) := by
    intro s k
    induction k generalizing s with
    | zero => intro i; exact ⟨rfl, id⟩
    | succ k ih =>
      intro i
      unfold Rep.fillIt
      obtain ⟨g1, g2⟩ := ih (Rep.sreadyS s i true) (i + 1)
      exact ⟨g1.trans (Rep.ready_want ..), fun hc => g2 (clean_ready hc _ _)⟩
  refine ⟨hr, by show (0 : Int) ≤ 0 ∧ (0 : Int) ≤ 1073741824; omega, ((hw _ _ _).1).trans (capN_id h1.1 h1.2), ((hw _ _ _).1).trans (capN_id h2.1 h2.2), (hw _ _ _).2 (clean_scale _ _), (hw _ _ _).2 (clean_scale _ _), rfl⟩
end Go.Proofs.Ytpebebhjmnmcbaa.Md

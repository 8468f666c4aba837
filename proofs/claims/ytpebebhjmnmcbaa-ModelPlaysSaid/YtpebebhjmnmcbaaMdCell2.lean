/- The route and the state of a model, part 2: a step. Plain. -/
import Derived.Test.YtpebebhjmnmcbaaMdCell
set_option maxRecDepth 100000
set_option linter.unusedSimpArgs false
set_option linter.unusedVariables false
namespace Go.Proofs.Ytpebebhjmnmcbaa.Md
open Go Go.Proofs.Ytpebebhjmnmcbaa.Sx
/-- What a step makes of the route. -/
structure SF (m m' : Md) : Prop where
  ci : CI m'
  ch : ¬ (m'.r.slot = m.r.slot ∧ m'.r.gen = m.r.gen) → m'.r.slot = 1 - m.st.active ∧ m.r.gen < m'.r.gen ∧ (m.st.phase = 3 ∨ m.st.phase = 6) ∧ (m.st.switch = 0 → fullO m = true)
theorem to_eq {m : Md} {N : Nat} (h : Inv m N) : toM m = ⟨1 - m.st.active, m.st.gen⟩ := by
  obtain ⟨_, _, _, h4⟩ := right_sw h.right
  unfold toM
  rw [wi (by omega)]
theorem sf_route {m : Md} {N : Nat} (h : Inv m N) (hc : CI m) (hs : m.st.switch = 2) (o : Nat → Int) : SF m (routeV m o).2 := by
  obtain ⟨_, hp, _, _⟩ := right_sw h.right
  have hp : m.st.phase = 3 ∨ m.st.phase = 6 := by omega
  obtain ⟨c1, c2⟩ := cset_cell m.r o (toM m) m.tries
  rw [to_eq h] at c1 c2
  simp only at c1 c2
  unfold routeV
  rw [to_eq h]
  generalize Rt.csetV m.r o ⟨1 - m.st.active, m.st.gen⟩ m.tries = x at c1 c2
  obtain ⟨e, n, r'⟩ := x
  simp only at c1 c2 ⊢
  have hch : ¬ (r'.slot = m.r.slot ∧ r'.gen = m.r.gen) → r'.slot = 1 - m.st.active ∧ m.r.gen < r'.gen := by
    intro hn
    rcases c1 with c1 | ⟨a, b, c⟩
    · exact absurd c1 hn
    · exact ⟨a, by omega⟩
  cases he : e == 0 with
  | true =>
    have he : e = 0 := by simpa using he
    obtain ⟨s1, s2⟩ := c2 he
    rw [cond_true]
    have hst := Fold.step_applied h.right m.st.gen m.tick false
    rw [if_pos ⟨h.tick, hs, rfl⟩] at hst
    have e1 : (putM (withR m r') (recA m.st.gen m.tick)).st = Fold.turned m.st m.tick := by
      show (Fold.stepV m.st (Fold.rec0 8 m.st.gen m.tick false)).1 = _
      rw [hst]
    have e2 : (putM (withR m r') (recA m.st.gen m.tick)).r = r' := rfl
    refine ⟨⟨?_, ?_, ?_, ?_⟩, ?_⟩
    · rw [e1, e2]; intro _; exact s1
    · rw [e1, e2]; exact .inl s1
    · rw [e1, e2]; exact Int.le_of_eq s2
    · rw [e1, e2]; intro hz; cases hz
    · rw [e2]
      intro hn
      obtain ⟨a, b⟩ := hch hn
      exact ⟨a, b, hp, fun hz => by omega⟩
  | false =>
    rw [cond_false]
    refine ⟨⟨fun hz => absurd hs hz, ?_, ?_, fun hz => ?_⟩, ?_⟩
    · show r'.slot = m.st.active ∨ r'.slot = 1 - m.st.active
      rcases c1 with ⟨a, b⟩ | ⟨a, b, c⟩
      · rw [a]; exact hc.slot2
      · exact .inr a
    · show r'.gen ≤ m.st.gen
      rcases c1 with ⟨a, b⟩ | ⟨a, b, c⟩
      · rw [b]; exact hc.gen
      · exact Int.le_of_eq b
    · have hz : m.st.switch = 1 := hz
      omega
    · intro hn
      obtain ⟨a, b⟩ := hch hn
      exact ⟨a, b, hp, fun hz => by omega⟩
theorem step2 {m : Md} {N : Nat} (h : Inv m N) (hs : m.st.switch = 2) (o : Nat → Int) (k : Nat) : stepG o (k + 1) m = routeV m o := by
  have hn := (done2 h.right hs k).2
  unfold stepG
  rw [hn]
  rfl
/-- With a switch that is prepared. -/
theorem step1 {m : Md} {N : Nat} (h : Inv m N) (hs : m.st.switch = 1) (o : Nat → Int) (k : Nat) : stepG o (k + 2) m = if fullO m = true then routeV (putM m (Fold.rec0 6 m.st.gen 0 false)) o else (0, putM m (Fold.rec0 7 m.st.gen 0 false)) := by
  obtain ⟨_, hp, _, _⟩ := right_sw h.right
  have hn : nxV m = if fullO m = true then (3, Fold.rec0 6 m.st.gen 0 false) else (4, Fold.rec0 7 m.st.gen 0 false) := by
    rw [nx_eq h.right, if_neg (show ¬ m.st.phase = 1 by omega), if_pos (show m.st.phase = 3 ∨ m.st.phase = 6 by omega), if_neg (show ¬ m.st.switch = 2 by omega), if_pos hs]
  conv => lhs; unfold stepG
  rw [hn]
  by_cases hf : fullO m = true
  · rw [if_pos hf, if_pos hf]
    have hstep := Fold.step_commit h.right m.st.gen 0 false
    rw [if_pos ⟨hs, rfl⟩] at hstep
    simp only
    rw [hstep]
    refine (step2 (inv_put h _) ?_ o k)
    show (Fold.stepV m.st (Fold.rec0 6 m.st.gen 0 false)).1.switch = 2
    rw [hstep]; rfl
  · rw [if_neg hf, if_neg hf]; rfl
theorem sf_1 {m : Md} {N : Nat} (h : Inv m N) (hc : CI m) (hs : m.st.switch = 1) (o : Nat → Int) (k : Nat) : SF m (stepG o (k + 2) m).2 := by
  obtain ⟨_, hp, _, _⟩ := right_sw h.right
  rw [step1 h hs]
  by_cases hf : fullO m = true
  · rw [if_pos hf]
    have hstep := Fold.step_commit h.right m.st.gen 0 false
    rw [if_pos ⟨hs, rfl⟩] at hstep
    have e1 : (putM m (Fold.rec0 6 m.st.gen 0 false)).st = Fold.setSw m.st m.st.gen 2 := by
      show (Fold.stepV m.st (Fold.rec0 6 m.st.gen 0 false)).1 = _
      rw [hstep]
    have hc1 : CI (putM m (Fold.rec0 6 m.st.gen 0 false)) := by
      refine ⟨?_, ?_, ?_, ?_⟩ <;> rw [e1]
      · intro hz; exact absurd rfl hz
      · exact hc.slot2
      · exact hc.gen
      · intro hz; cases hz
    obtain ⟨g1, g2⟩ := sf_route (inv_put h _) hc1 (by rw [e1]; rfl) o
    rw [e1] at g2
    exact ⟨g1, fun hn => ⟨(g2 hn).1, (g2 hn).2.1, by omega, fun hz => by omega⟩⟩
  · rw [if_neg hf]
    have hstep := Fold.step_cancel h.right m.st.gen 0 false
    rw [if_pos ⟨hs, rfl⟩] at hstep
    have e1 : (putM m (Fold.rec0 7 m.st.gen 0 false)).st = Fold.setSw m.st (m.st.gen - 1) 0 := by
      show (Fold.stepV m.st (Fold.rec0 7 m.st.gen 0 false)).1 = _
      rw [hstep]
    have := hc.gen1 hs
    refine ⟨⟨?_, ?_, ?_, ?_⟩, fun hn => absurd ⟨rfl, rfl⟩ hn⟩ <;> simp only [e1]
    · intro _; exact hc.slot (by omega)
    · exact hc.slot2
    · show m.r.gen ≤ m.st.gen - 1; omega
    · intro hz; cases hz
theorem sf_0 {m : Md} {N : Nat} (h : Inv m N) (hc : CI m) (o : Nat → Int) (k : Nat) : SF m (stepG o (k + 3) m).2 := by
  obtain ⟨hs, hp, hg, _⟩ := right_sw h.right
  by_cases s2 : m.st.switch = 2
  · rw [step2 h s2]; exact sf_route h hc s2 o
  by_cases s1 : m.st.switch = 1
  · exact sf_1 h hc s1 o (k + 1)
  have s0 : m.st.switch = 0 := by omega
  have hsame : ∀ x : Fold.Rc, Same3 m.st (Fold.stepV m.st x).1 → SF m (putM m x) := fun x hx => ⟨hc.same hx rfl, fun hn => absurd ⟨rfl, rfl⟩ hn⟩
  have hself : SF m m := ⟨hc, fun hn => absurd ⟨rfl, rfl⟩ hn⟩
  conv => rhs; unfold stepG
  rw [nx_eq h.right]
  by_cases p1 : m.st.phase = 1
  · rw [if_pos p1]
    cases hf : fullO m with
    | true =>
      refine hsame (Fold.rec0 3 0 0 false) ?_
      rw [Fold.step_warm h.right, if_pos p1]
      exact ⟨rfl, rfl, rfl⟩
    | false => exact hself
  rw [if_neg p1]
  by_cases p3 : m.st.phase = 3 ∨ m.st.phase = 6
  · rw [if_pos p3, if_neg s2, if_neg s1]
    by_cases hf : fullO m = true
    · rw [if_pos hf]
      have hstep := Fold.step_prepare h.right (m.st.gen + 1) 0 false
      by_cases hm : m.st.gen + 1 ≤ 1048576
      · rw [if_pos ⟨p3, s0, rfl, hm⟩] at hstep
        simp only
        rw [hstep]
        have e1 : (putM m (Fold.rec0 5 (m.st.gen + 1) 0 false)).st = Fold.setSw m.st (m.st.gen + 1) 1 := by
          show (Fold.stepV m.st (Fold.rec0 5 (m.st.gen + 1) 0 false)).1 = _
          rw [hstep]
        have hg1 := hc.gen
        have hc1 : CI (putM m (Fold.rec0 5 (m.st.gen + 1) 0 false)) := by
          refine ⟨?_, ?_, ?_, ?_⟩ <;> rw [e1]
          · intro _; exact hc.slot (by omega)
          · exact hc.slot2
          · show m.r.gen ≤ m.st.gen + 1; omega
          · intro _; show m.r.gen < m.st.gen + 1; omega
        obtain ⟨g1, g2⟩ := sf_1 (inv_put h _) hc1 (by rw [e1]; rfl) o k
        rw [e1] at g2
        exact ⟨g1, fun hn => ⟨(g2 hn).1, (g2 hn).2.1, p3, fun _ => hf⟩⟩
      · rw [if_neg (by omega)] at hstep
        simp only
        rw [hstep]
        refine hsame (Fold.rec0 5 (m.st.gen + 1) 0 false) ?_
        rw [hstep]; exact ⟨rfl, rfl, rfl⟩
    · rw [if_neg hf]; exact hself
  · rw [if_neg p3]
    by_cases p7 : m.st.phase = 7 ∨ m.st.phase = 5 ∧ ¬ Fold.lessV m.tick m.st.flip < m.st.delay
    · rw [if_pos p7]
      refine hsame (Fold.rec0 10 0 0 false) ?_
      rw [Fold.step_scaled h.right]
      split
      · exact same_clr _
      · exact ⟨rfl, rfl, rfl⟩
    · rw [if_neg p7]; exact hself
/-- Scripted, all stands as it did. -/
theorem pre_eq {m : Md} {N : Nat} (h : Inv m N) (n : Nat) : pre m n = ⟨m.st, m.a, m.b, ⟨m.r.slot, m.r.gen, m.r.writes, 0, n, m.r.left, m.r.blown, m.r.count⟩, m.tries, m.tick⟩ := by
  obtain ⟨h1, h2⟩ := right_want h.right
  unfold pre
  have e1 : Rep.sscale m.a m.st.want0 = m.a := by rw [← h.a]; exact scale_self h.ca (by rw [h.a]; exact h1.1) (by rw [h.a]; exact h1.2)
  have e2 : Rep.sscale m.b m.st.want1 = m.b := by rw [← h.b]; exact scale_self h.cb (by rw [h.b]; exact h2.1) (by rw [h.b]; exact h2.2)
  rw [e1, e2]
theorem sf_step {m : Md} {N : Nat} (h : Inv m N) (hc : CI m) (n : Nat) (o : Nat → Int) : SF m (mstepV m n o).2 := by
  have hi := inv_pre h (n := n)
  unfold mstepV
  rw [pre_eq h] at hi ⊢
  obtain ⟨g1, g2⟩ := sf_0 hi ⟨hc.slot, hc.slot2, hc.gen, hc.gen1⟩ o 1
  exact ⟨g1, g2⟩
end Go.Proofs.Ytpebebhjmnmcbaa.Md

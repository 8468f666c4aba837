/- How a model settles. Plain, part 2: a round. -/
import Derived.Test.YtpebebhjmnmcbaaMset
import Derived.Test.YtpebebhjmnmcbaaMabort
set_option maxRecDepth 100000
set_option linter.unusedSimpArgs false
set_option linter.unusedVariables false
namespace Go.Proofs.Ytpebebhjmnmcbaa.Md
open Go Go.Proofs.Ytpebebhjmnmcbaa.Sx
/-- What stays true of a model as it settles. -/
structure Set2 (m : Md) (N : Nat) (B : Int) : Prop where
  inv : Inv m N
  ci : CI m
  free : Free m.r
  two : m.st.switch = 2 → Newer m.r ⟨1 - m.st.active, m.st.gen⟩
  flip : m.st.flip ≤ m.tick
  gen : m.st.gen ≤ B
/-- Its record leaves the route alone, or the switch isn't committed behind it. -/
theorem Set2.put {m : Md} {N : Nat} {B B' : Int} (h : Set2 m N B) (x : Fold.Rc) {s' : Fold.St} (e : (Fold.stepV m.st x).1 = s') (hc : CI (putM m x)) (h2 : s'.switch = 2 → Newer m.r ⟨1 - s'.active, s'.gen⟩) (hf : s'.flip ≤ m.tick) (hg : s'.gen ≤ B') : Set2 (putM m x) N B' := by
  have e1 : (putM m x).st = s' := e
  refine ⟨inv_put h.inv x, hc, h.free, ?_, ?_, ?_⟩
  · rw [e1]; exact h2
  · rw [e1]; exact hf
  · rw [e1]; exact hg
/-- The wanted ones stay as they are: so do the replicas. -/
theorem put_same {m : Md} {N : Nat} (h : Inv m N) (x : Fold.Rc) (e0 : (Fold.stepV m.st x).1.want0 = m.st.want0) (e1 : (Fold.stepV m.st x).1.want1 = m.st.want1) : (putM m x).a = m.a ∧ (putM m x).b = m.b := by
  obtain ⟨h1, h2⟩ := right_want h.right
  refine ⟨?_, ?_⟩
  · show Rep.sscale m.a (Fold.stepV m.st x).1.want0 = m.a
    rw [e0, ← h.a]; exact scale_self h.ca (by rw [h.a]; exact h1.1) (by rw [h.a]; exact h1.2)
  · show Rep.sscale m.b (Fold.stepV m.st x).1.want1 = m.b
    rw [e1, ← h.b]; exact scale_self h.cb (by rw [h.b]; exact h2.1) (by rw [h.b]; exact h2.2)
/-- The other slot is full, where something is wanted of it. -/
theorem fullO_ok {m : Md} {N : Nat} (h : Inv m N) (hr : AllR m) (hp : m.st.phase ≠ 0) : fullO m = true := by
  obtain ⟨r1, r2⟩ := hr
  have ha := h.act
  have hA := h.a
  have hB := h.b
  have hw : 1 ≤ Fold.wantO m.st := by
    have hr := h.right
    have ha := Fold.right_act hr
    revert hp hr ha
    generalize m.st = s
    intro hp hr ha
    obtain ⟨phase, active, rev0, rev1, want0, want1, passed0, passed1, delay, gen, switch, flip⟩ := s
    rcases Fold.act_iff.1 ha with ha | ha <;> (simp only at ha hp; subst ha)
    · rw [Fold.right0] at hr
      obtain ⟨_, _, _, _, _, _, _, _, _, _, h11⟩ := hr
      show 1 ≤ want1
      rcases h11 with h11 | h11
      · exact absurd h11 hp
      · exact h11.2.1.1
    · rw [Fold.right1] at hr
      obtain ⟨_, _, _, _, _, _, _, _, _, _, h11⟩ := hr
      show 1 ≤ want0
      rcases h11 with h11 | h11
      · exact absurd h11 hp
      · exact h11.2.1.1
  unfold fullO Fold.fullV
  rcases Fold.act_iff.1 ha with ha | ha
  · rw [ha, wi (by omega)]
    simp [viewM, r2, hB]
    have : Fold.wantO m.st = m.st.want1 := by unfold Fold.wantO; rw [if_pos ha]
    omega
  · rw [ha, wi (by omega)]
    simp [viewM, r1, hA]
    have : Fold.wantO m.st = m.st.want0 := by unfold Fold.wantO; rw [if_neg (by omega)]
    omega
/-- How far a phase is from the stable one. -/
def rank (p : Int) : Nat := if p = 0 then 0 else if p = 1 then 3 else if p = 2 ∨ p = 3 ∨ p = 6 then 2 else 1
def meas (m : Md) : Nat := rank m.st.phase + m.r.n
theorem route_set {m : Md} {N : Nat} {B : Int} (h : Set2 m N B) (hs : m.st.switch = 2) (o : Nat → Int) : Set2 (routeV m o).2 N B ∧ meas (routeV m o).2 < meas m := by
  have hI := inv_route h.inv o
  have hci := (sf_route h.inv h.ci hs o).ci
  obtain ⟨_, hp, hg, ha⟩ := right_sw h.inv.right
  have hp : (m.st.phase = 3 ∨ m.st.phase = 6) ∧ m.st.gen ≠ 0 := by omega
  obtain ⟨c1, c2⟩ := cset_f o (to := toM m) m.tries (by rw [to_eq h.inv]; simp only; omega) (by rw [to_eq h.inv]; simp only; omega) h.free (by rw [to_eq h.inv]; exact h.two hs)
  unfold routeV at hI hci ⊢
  revert hI hci c1 c2
  generalize Rt.csetV m.r o (toM m) m.tries = x
  obtain ⟨e, n, r'⟩ := x
  intro hI hci c1 c2
  simp only at hI hci c2 ⊢
  have f1 := c1.free
  have f2 := c1.newer
  have f3 := c1.n
  have f4 := c1.res
  simp only at f1 f2 f3 f4
  rw [to_eq h.inv] at f2
  cases he : e == 0 with
  | true =>
    have he : e = 0 := by simpa using he
    subst he
    have hb : ((0 : Int) == 0) = true := rfl
    simp only [hb, cond_true] at hI hci ⊢
    have hst := Fold.step_applied h.inv.right m.st.gen m.tick false
    rw [if_pos ⟨h.inv.tick, hs, rfl⟩] at hst
    have e1 : (putM (withR m r') (recA m.st.gen m.tick)).st = Fold.turned m.st m.tick := by
      show (Fold.stepV m.st (Fold.rec0 8 m.st.gen m.tick false)).1 = _
      rw [hst]
    refine ⟨⟨hI, hci, f1, ?_, ?_, ?_⟩, ?_⟩
    · rw [e1]; intro hz; cases hz
    · rw [e1]; exact Int.le_refl _
    · rw [e1]; exact h.gen
    · unfold meas
      rw [e1]
      show rank (if m.st.phase = 3 then 4 else 7) + r'.n < _
      rcases hp.1 with p | p <;> rw [p] <;> simp [rank] <;> omega
  | false =>
    have he : e ≠ 0 := by simpa using he
    have hb : (e == 0) = false := by simpa using he
    simp only [hb, cond_false] at hI hci ⊢
    refine ⟨⟨hI, hci, f1, fun _ => f2, h.flip, h.gen⟩, ?_⟩
    have := c2 he
    show rank m.st.phase + r'.n < rank m.st.phase + m.r.n
    omega
theorem commit_set {m : Md} {N : Nat} {B : Int} (h : Set2 m N B) (hs : m.st.switch = 1) (hf : fullO m = true) (o : Nat → Int) (k : Nat) : Set2 (stepG o (k + 2) m).2 N B ∧ meas (stepG o (k + 2) m).2 < meas m := by
  obtain ⟨_, hp, _, _⟩ := right_sw h.inv.right
  rw [step1 h.inv hs, if_pos hf]
  have hstep := Fold.step_commit h.inv.right m.st.gen 0 false
  rw [if_pos ⟨hs, rfl⟩] at hstep
  have e0 : (Fold.stepV m.st (Fold.rec0 6 m.st.gen 0 false)).1 = Fold.setSw m.st m.st.gen 2 := by rw [hstep]
  have e1 : (putM m (Fold.rec0 6 m.st.gen 0 false)).st = Fold.setSw m.st m.st.gen 2 := e0
  have hg1 := h.ci.gen1 hs
  have hc1 : CI (putM m (Fold.rec0 6 m.st.gen 0 false)) := by
    refine ⟨?_, ?_, ?_, ?_⟩ <;> rw [e1]
    · intro hz; exact absurd rfl hz
    · exact h.ci.slot2
    · exact h.ci.gen
    · intro hz; cases hz
  have h2 : Set2 (putM m (Fold.rec0 6 m.st.gen 0 false)) N B := h.put _ e0 hc1 (fun _ => .inl hg1) h.flip h.gen
  obtain ⟨r1, r2⟩ := route_set h2 (by rw [e1]; rfl) o
  refine ⟨r1, Nat.lt_of_lt_of_le r2 ?_⟩
  unfold meas
  rw [e1]
  exact Nat.le_refl _
/-- A step, with all replicas ready. -/
theorem step_set {m : Md} {N : Nat} {B : Int} (h : Set2 m N B) (hr : AllR m) (hB : B ≤ 1048575) (hd : m.st.phase = 5 → m.st.flip + m.st.delay ≤ m.tick) (hp2 : m.st.phase ≠ 2) (hp4 : m.st.phase ≠ 4) (o : Nat → Int) (k : Nat) :
    Set2 (stepG o (k + 3) m).2 N (B + 1) ∧ (m.st.phase ≠ 0 → meas (stepG o (k + 3) m).2 < meas m) ∧ (m.st.phase = 0 → (stepG o (k + 3) m).2 = m) := by
  obtain ⟨hs, hp, hg, ha⟩ := right_sw h.inv.right
  have hph := (Fold.right_rt h.inv.right).phase
  have up : ∀ {m' : Md}, Set2 m' N B → Set2 m' N (B + 1) := fun h' => ⟨h'.inv, h'.ci, h'.free, h'.two, h'.flip, by have := h'.gen; omega⟩
  by_cases s2 : m.st.switch = 2
  · rw [step2 h.inv s2]
    obtain ⟨r1, r2⟩ := route_set h s2 o
    exact ⟨up r1, fun _ => r2, fun h0 => by omega⟩
  by_cases s1 : m.st.switch = 1
  · obtain ⟨r1, r2⟩ := commit_set h s1 (fullO_ok h.inv hr (by omega)) o (k + 1)
    exact ⟨up r1, fun _ => r2, fun h0 => by omega⟩
  have s0 : m.st.switch = 0 := by omega
  unfold stepG
  rw [nx_eq h.inv.right]
  by_cases p1 : m.st.phase = 1
  · rw [if_pos p1, if_pos (fullO_ok h.inv hr (by omega))]
    have hst := Fold.step_warm h.inv.right 0 0 false
    rw [if_pos p1] at hst
    have e0 : (Fold.stepV m.st (Fold.rec0 3 0 0 false)).1 = Fold.setPh m.st 2 := by rw [hst]
    refine ⟨h.put _ e0 (h.ci.same (by rw [show (putM m (Fold.rec0 3 0 0 false)).st = _ from e0]; exact ⟨rfl, rfl, rfl⟩) rfl) (fun hz => absurd (show m.st.switch = 2 from hz) s2) h.flip (show m.st.gen ≤ B + 1 by have := h.gen; omega), fun _ => ?_, fun h0 => by omega⟩
    show meas (putM m (Fold.rec0 3 0 0 false)) < meas m
    unfold meas
    rw [show (putM m (Fold.rec0 3 0 0 false)).st = Fold.setPh m.st 2 from e0, p1]
    show rank 2 + m.r.n < rank 1 + m.r.n
    simp [rank]
  rw [if_neg p1]
  by_cases p3 : m.st.phase = 3 ∨ m.st.phase = 6
  · rw [if_pos p3, if_neg s2, if_neg s1, if_pos (fullO_ok h.inv hr (by omega))]
    have hgB := h.gen
    have hst := Fold.step_prepare h.inv.right (m.st.gen + 1) 0 false
    rw [if_pos ⟨p3, s0, rfl, by omega⟩] at hst
    have e0 : (Fold.stepV m.st (Fold.rec0 5 (m.st.gen + 1) 0 false)).1 = Fold.setSw m.st (m.st.gen + 1) 1 := by rw [hst]
    have e1 : (putM m (Fold.rec0 5 (m.st.gen + 1) 0 false)).st = Fold.setSw m.st (m.st.gen + 1) 1 := e0
    have hg1 := h.ci.gen
    have hc1 : CI (putM m (Fold.rec0 5 (m.st.gen + 1) 0 false)) := by
      refine ⟨?_, ?_, ?_, ?_⟩ <;> rw [e1]
      · intro _; exact h.ci.slot (by omega)
      · exact h.ci.slot2
      · show m.r.gen ≤ m.st.gen + 1; omega
      · intro _; show m.r.gen < m.st.gen + 1; omega
    have h1 : Set2 (putM m (Fold.rec0 5 (m.st.gen + 1) 0 false)) N (B + 1) := h.put _ e0 hc1 (fun hz => by cases hz) h.flip (show m.st.gen + 1 ≤ B + 1 by omega)
    obtain ⟨q1, q2⟩ := put_same h.inv (Fold.rec0 5 (m.st.gen + 1) 0 false) (by rw [e0]; rfl) (by rw [e0]; rfl)
    have hr1 : AllR (putM m (Fold.rec0 5 (m.st.gen + 1) 0 false)) := by
      unfold AllR
      rw [q1, q2]
      exact hr
    simp only
    rw [hst]
    have hf1 : fullO (putM m (Fold.rec0 5 (m.st.gen + 1) 0 false)) = true := fullO_ok h1.inv hr1 (by rw [e1]; show m.st.phase ≠ 0; omega)
    obtain ⟨r1, r2⟩ := commit_set h1 (by rw [e1]; rfl) hf1 o k
    refine ⟨r1, fun _ => Nat.lt_of_lt_of_le r2 ?_, fun h0 => by omega⟩
    unfold meas
    rw [e1]
    exact Nat.le_refl _
  rw [if_neg p3]
  by_cases p7 : m.st.phase = 7 ∨ m.st.phase = 5 ∧ ¬ Fold.lessV m.tick m.st.flip < m.st.delay
  · rw [if_pos p7]
    have hst := Fold.step_scaled h.inv.right 0 0 false
    rw [if_pos (show m.st.phase = 5 ∨ m.st.phase = 7 by omega)] at hst
    have e0 : (Fold.stepV m.st (Fold.rec0 10 0 0 false)).1 = Fold.clr m.st := by rw [hst]
    have hsame := same_clr m.st
    have hfl : (Fold.clr m.st).flip = m.st.flip := by unfold Fold.clr; split <;> rfl
    refine ⟨h.put _ e0 (h.ci.same (by rw [show (putM m (Fold.rec0 10 0 0 false)).st = _ from e0]; exact hsame) rfl) (fun hz => absurd (hsame.2.2.symm.trans hz) s2) (by rw [hfl]; exact h.flip) (by rw [hsame.2.1]; have := h.gen; omega), fun _ => ?_, fun h0 => by omega⟩
    show meas (putM m (Fold.rec0 10 0 0 false)) < meas m
    unfold meas
    rw [show (putM m (Fold.rec0 10 0 0 false)).st = Fold.clr m.st from e0, (clr_other m.st).2.2]
    show rank 0 + m.r.n < _
    rcases p7 with p | ⟨p, _⟩ <;> rw [p] <;> simp [rank]
  · rw [if_neg p7]
    have hl : m.st.phase = 5 → ¬ Fold.lessV m.tick m.st.flip < m.st.delay := by
      intro p5
      have := hd p5
      have ht := h.inv.tick
      have hfr := Fold.right_rt h.inv.right
      have d1 := hfr.delay
      have d2 := hfr.flip
      intro hlt
      unfold Fold.lessV at hlt
      by_cases c : m.tick ≤ m.st.flip
      · rw [decide_eq_true c] at hlt; simp only [cond_true] at hlt; omega
      · rw [decide_eq_false c, decide_eq_false (show ¬ m.st.flip < 0 by omega), wi (x := m.tick - m.st.flip) (by omega)] at hlt; simp only [cond_false] at hlt; omega
    have p0 : m.st.phase = 0 := by
      have h5 : m.st.phase ≠ 5 := fun p5 => p7 (.inr ⟨p5, hl p5⟩)
      omega
    exact ⟨up h, fun hz => absurd p0 hz, fun _ => rfl⟩
end Go.Proofs.Ytpebebhjmnmcbaa.Md

/- How a model settles. Plain, part 3: whatever is done keeps what settling needs; a round. -/
import Derived.Test.YtpebebhjmnmcbaaMset2
import Derived.Test.YtpebebhjmnmcbaaMabort
set_option maxRecDepth 100000
set_option linter.unusedSimpArgs false
set_option linter.unusedVariables false
namespace Go.Proofs.Ytpebebhjmnmcbaa.Md
open Go Go.Proofs.Ytpebebhjmnmcbaa.Sx
theorem Set2.up {m : Md} {N : Nat} {B B' : Int} (h : Set2 m N B) (hB : B ≤ B') : Set2 m N B' := ⟨h.inv, h.ci, h.free, h.two, h.flip, by have := h.gen; omega⟩
/-- What a step leaves, of whatever is ready. -/
structure StepF (m : Md) (N : Nat) (B : Int) (m' : Md) : Prop where
  set : Set2 m' N B
  n : m'.r.n ≤ m.r.n
  tick : m'.tick = m.tick
  tries : m'.tries = m.tries
theorem route_keep {m : Md} {N : Nat} {B : Int} (h : Set2 m N B) (hs : m.st.switch = 2) (o : Nat → Int) : StepF m N B (routeV m o).2 := by
  refine ⟨(route_set h hs o).1, ?_, ?_, ?_⟩
  · obtain ⟨c1, c2⟩ := cset_f o (to := toM m) m.tries (by rw [to_eq h.inv]; have := right_sw h.inv.right; simp only; omega) (by rw [to_eq h.inv]; have := right_sw h.inv.right; simp only; omega) h.free (by rw [to_eq h.inv]; exact h.two hs)
    have := c1.n
    unfold routeV
    cases (Rt.csetV m.r o (toM m) m.tries).1 == 0 <;> exact this
  · unfold routeV
    cases (Rt.csetV m.r o (toM m) m.tries).1 == 0 <;> rfl
  · unfold routeV
    cases (Rt.csetV m.r o (toM m) m.tries).1 == 0 <;> rfl
theorem keep_1 {m : Md} {N : Nat} {B : Int} (h : Set2 m N B) (hs : m.st.switch = 1) (o : Nat → Int) (k : Nat) : StepF m N B (stepG o (k + 2) m).2 := by
  have hg1 := h.ci.gen1 hs
  rw [step1 h.inv hs]
  by_cases hf : fullO m = true
  · rw [if_pos hf]
    have hstep := Fold.step_commit h.inv.right m.st.gen 0 false
    rw [if_pos ⟨hs, rfl⟩] at hstep
    have e0 : (Fold.stepV m.st (Fold.rec0 6 m.st.gen 0 false)).1 = Fold.setSw m.st m.st.gen 2 := by rw [hstep]
    have e1 : (putM m (Fold.rec0 6 m.st.gen 0 false)).st = Fold.setSw m.st m.st.gen 2 := e0
    have hc1 : CI (putM m (Fold.rec0 6 m.st.gen 0 false)) := by
      refine ⟨?_, ?_, ?_, ?_⟩ <;> rw [e1]
      · intro hz; exact absurd rfl hz
      · exact h.ci.slot2
      · exact h.ci.gen
      · intro hz; cases hz
    have h2 : Set2 (putM m (Fold.rec0 6 m.st.gen 0 false)) N B := h.put _ e0 hc1 (fun _ => .inl hg1) h.flip h.gen
    have r := route_keep h2 (by rw [e1]; rfl) o
    exact ⟨r.set, r.n, r.tick, r.tries⟩
  · rw [if_neg hf]
    have hstep := Fold.step_cancel h.inv.right m.st.gen 0 false
    rw [if_pos ⟨hs, rfl⟩] at hstep
    have e0 : (Fold.stepV m.st (Fold.rec0 7 m.st.gen 0 false)).1 = Fold.setSw m.st (m.st.gen - 1) 0 := by rw [hstep]
    have hci : CI (putM m (Fold.rec0 7 m.st.gen 0 false)) := by
      refine ⟨?_, ?_, ?_, ?_⟩ <;> rw [show (putM m (Fold.rec0 7 m.st.gen 0 false)).st = _ from e0]
      · intro _; exact h.ci.slot (by omega)
      · exact h.ci.slot2
      · show m.r.gen ≤ m.st.gen - 1; omega
      · intro hz; cases hz
    exact ⟨h.put _ e0 hci (fun hz => by cases hz) h.flip (by have := h.gen; show m.st.gen - 1 ≤ B; omega), Nat.le_refl _, rfl, rfl⟩
theorem keep_0 {m : Md} {N : Nat} {B : Int} (h : Set2 m N B) (o : Nat → Int) (k : Nat) : StepF m N (B + 1) (stepG o (k + 3) m).2 := by
  obtain ⟨hs, hp, hg, _⟩ := right_sw h.inv.right
  have hgB := h.gen
  by_cases s2 : m.st.switch = 2
  · rw [step2 h.inv s2]
    have r := route_keep h s2 o
    exact ⟨r.set.up (by omega), r.n, r.tick, r.tries⟩
  by_cases s1 : m.st.switch = 1
  · have r := keep_1 h s1 o (k + 1)
    exact ⟨r.set.up (by omega), r.n, r.tick, r.tries⟩
  have s0 : m.st.switch = 0 := by omega
  have hsame : ∀ x : Fold.Rc, Same3 m.st (Fold.stepV m.st x).1 → (Fold.stepV m.st x).1.flip = m.st.flip → StepF m N (B + 1) (putM m x) := fun x hx hfl =>
    ⟨h.put x rfl (h.ci.same hx rfl) (fun hz => absurd (hx.2.2.symm.trans hz) s2) (by rw [hfl]; exact h.flip) (by rw [hx.2.1]; omega), Nat.le_refl _, rfl, rfl⟩
  have hself : StepF m N (B + 1) m := ⟨h.up (by omega), Nat.le_refl _, rfl, rfl⟩
  have hfl : (Fold.clr m.st).flip = m.st.flip := by unfold Fold.clr; split <;> rfl
  unfold stepG
  rw [nx_eq h.inv.right]
  by_cases p1 : m.st.phase = 1
  · rw [if_pos p1]
    cases hf : fullO m with
    | true =>
      refine hsame (Fold.rec0 3 0 0 false) ?_ ?_
      · rw [Fold.step_warm h.inv.right, if_pos p1]; exact ⟨rfl, rfl, rfl⟩
      · rw [Fold.step_warm h.inv.right, if_pos p1]; rfl
    | false => exact hself
  rw [if_neg p1]
  by_cases p3 : m.st.phase = 3 ∨ m.st.phase = 6
  · rw [if_pos p3, if_neg s2, if_neg s1]
    by_cases hf : fullO m = true
    · rw [if_pos hf]
      have hst := Fold.step_prepare h.inv.right (m.st.gen + 1) 0 false
      by_cases hm : m.st.gen + 1 ≤ 1048576
      · rw [if_pos ⟨p3, s0, rfl, hm⟩] at hst
        simp only
        rw [hst]
        have e0 : (Fold.stepV m.st (Fold.rec0 5 (m.st.gen + 1) 0 false)).1 = Fold.setSw m.st (m.st.gen + 1) 1 := by rw [hst]
        have e1 : (putM m (Fold.rec0 5 (m.st.gen + 1) 0 false)).st = Fold.setSw m.st (m.st.gen + 1) 1 := e0
        have hg1 := h.ci.gen
        have hc1 : CI (putM m (Fold.rec0 5 (m.st.gen + 1) 0 false)) := by
          refine ⟨?_, ?_, ?_, ?_⟩ <;> rw [e1]
          · intro _; exact h.ci.slot (by omega)
          · exact h.ci.slot2
          · show m.r.gen ≤ m.st.gen + 1; omega
          · intro _; show m.r.gen < m.st.gen + 1; omega
        have h1 : Set2 (putM m (Fold.rec0 5 (m.st.gen + 1) 0 false)) N (B + 1) := h.put _ e0 hc1 (fun hz => by cases hz) h.flip (show m.st.gen + 1 ≤ B + 1 by omega)
        have r := keep_1 h1 (by rw [e1]; rfl) o k
        exact ⟨r.set, r.n, r.tick, r.tries⟩
      · rw [if_neg (by omega)] at hst
        simp only
        rw [hst]
        refine hsame (Fold.rec0 5 (m.st.gen + 1) 0 false) ?_ ?_
        · rw [hst]; exact ⟨rfl, rfl, rfl⟩
        · rw [hst]
    · rw [if_neg hf]; exact hself
  · rw [if_neg p3]
    by_cases p7 : m.st.phase = 7 ∨ m.st.phase = 5 ∧ ¬ Fold.lessV m.tick m.st.flip < m.st.delay
    · rw [if_pos p7]
      refine hsame (Fold.rec0 10 0 0 false) ?_ ?_
      · rw [Fold.step_scaled h.inv.right]
        split
        · exact same_clr _
        · exact ⟨rfl, rfl, rfl⟩
      · rw [Fold.step_scaled h.inv.right]
        split
        · exact hfl
        · rfl
    · rw [if_neg p7]; exact hself
theorem pre_set {m : Md} {N : Nat} {B : Int} (h : Set2 m N B) (n : Nat) : Set2 (pre m n) n B := by
  have hi := inv_pre h.inv (n := n)
  rw [pre_eq h.inv] at hi ⊢
  exact ⟨hi, ⟨h.ci.slot, h.ci.slot2, h.ci.gen, h.ci.gen1⟩, h.free, h.two, h.flip, h.gen⟩
/-- What an operation keeps. -/
theorem op_flip {m : Md} {N : Nat} (h : Inv m N) (o : Fold.Ask) : (opV m o).2.st.flip = m.st.flip ∧ (opV m o).2.tick = m.tick := by
  refine ⟨?_, ?_⟩
  · rcases op_res (m := m) o with ⟨c, e⟩ | ⟨c, e⟩
    · rw [e]
    · rw [e]
      show (Fold.stepV m.st (Fold.recordV o)).1.flip = m.st.flip
      have hfl : (Fold.clr m.st).flip = m.st.flip := by unfold Fold.clr; split <;> rfl
      rw [Fold.record_eq]
      rw [Fold.check_eq h.act] at c
      by_cases k1 : o.kind = 1
      · rw [if_pos k1, Fold.step_deploy h.right]
        split
        · unfold Fold.deployed; simp only; split <;> rfl
        · rfl
      · rw [if_neg k1] at c ⊢
        by_cases k4 : o.kind = 4
        · rw [if_pos (.inl k4), k4, Fold.step_pre h.right]
          split
          · simp only; split
            · unfold Fold.setPass; split <;> rfl
            · exact hfl
          · rfl
        · by_cases k9 : o.kind = 9
          · rw [if_pos (.inr k9), k9, Fold.step_post h.right]
            split <;> rfl
          · by_cases k2 : o.kind = 2
            · rw [if_neg (by omega), k2, Fold.step_abort h.right]
              split
              · exact hfl
              · split <;> rfl
            · rw [if_neg k2, if_neg k4, if_neg k9] at c
              cases c
  · rcases op_res (m := m) o with ⟨c, e⟩ | ⟨c, e⟩ <;> rw [e] <;> rfl
theorem op_set {m : Md} {N : Nat} {B : Int} (h : Set2 m N B) (o : Fold.Ask) : Set2 (opV m o).2 N B := by
  obtain ⟨⟨a1, a2, a3⟩, hr⟩ := op_same3 h.inv o
  obtain ⟨f1, f2⟩ := op_flip h.inv o
  refine ⟨inv_op h.inv o, ci_op h.inv h.ci o, by rw [hr]; exact h.free, ?_, by rw [f1, f2]; exact h.flip, by rw [a2]; exact h.gen⟩
  rw [a3, a1, a2, hr]
  exact h.two
/-- An act that isn't a tick. -/
theorem do_set {m : Md} {N : Nat} {B : Int} (h : Set2 m N B) (o : Nat → Int) (a : Ac) (hk : a.kind ≠ 4) : Set2 (doV m N o a).m (doV m N o a).N (B + 1) ∧ (doV m N o a).m.r.n ≤ m.r.n + a.outL.length ∧ (doV m N o a).m.tick = m.tick := by
  unfold doV
  by_cases k1 : a.kind = 1
  · rw [show (a.kind == 1) = true by simpa using k1, cond_true]
    obtain ⟨_, hr⟩ := op_same3 h.inv (askA a)
    exact ⟨(op_set h _).up (by omega), by simp only; rw [hr]; omega, (op_flip h.inv _).2⟩
  rw [show (a.kind == 1) = false by simpa using k1, cond_false]
  by_cases k2 : a.kind = 2
  · rw [show (a.kind == 2) = true by simpa using k2, cond_true]
    have r := keep_0 (pre_set h (m.r.n + a.outL.length)) (catO m.r.i0 m.r.n o a.outL) 1
    exact ⟨r.set, r.n, r.tick⟩
  rw [show (a.kind == 2) = false by simpa using k2, cond_false]
  by_cases k3 : a.kind = 3
  · rw [show (a.kind == 3) = true by simpa using k3, cond_true]
    have hi := inv_ready h.inv a.slot a.n a.on
    exact ⟨⟨hi, ⟨h.ci.slot, h.ci.slot2, h.ci.gen, h.ci.gen1⟩, h.free, h.two, h.flip, by have := h.gen; show m.st.gen ≤ B + 1; omega⟩, by show m.r.n ≤ _; omega, rfl⟩
  rw [show (a.kind == 3) = false by simpa using k3, cond_false, show (a.kind == 4) = false by simpa using hk, cond_false]
  exact ⟨h.up (by omega), by simp only; omega, rfl⟩
/-! ### A round -/
@[reducible] noncomputable def askP (m : Md) : Fold.Ask := ⟨4, selI (IntKind.i64.wrap (1 - m.st.active)) 0 [m.st.rev0, m.st.rev1], 0, 0, true⟩
@[reducible] noncomputable def askQ (m : Md) : Fold.Ask := ⟨9, selI m.st.active 0 [m.st.rev0, m.st.rev1], 0, 0, true⟩
noncomputable def rp4 (m : Md) : Md := (opV (fillM m) (askP m)).2
noncomputable def rp9 (m : Md) : Md := (opV (rp4 m) (askQ m)).2
noncomputable def rpt (m : Md) : Md := tickM (rp9 m) m.st.delay
noncomputable def rdM (m : Md) (o : Nat → Int) : Md := (mstepV (rpt m) (rpt m).r.n (catO (rpt m).r.i0 (rpt m).r.n o [])).2
theorem rev_o {s : Fold.St} (h : Fold.rightV s = true) : selI (IntKind.i64.wrap (1 - s.active)) 0 [s.rev0, s.rev1] = Fold.revO s ∧ (s.phase ≠ 0 → 1 ≤ Fold.revO s ∧ Fold.revO s ≤ 1073741824) := by
  have ha := Fold.right_act h
  obtain ⟨phase, active, rev0, rev1, want0, want1, passed0, passed1, delay, gen, switch, flip⟩ := s
  rcases Fold.act_iff.1 ha with ha | ha <;> (simp only at ha; subst ha)
  · rw [Fold.right0] at h
    rw [wi (by simp)]
    simp [Fold.revO, selI]
    omega
  · rw [Fold.right1] at h
    rw [wi (by simp)]
    simp [Fold.revO, selI]
    omega
theorem all_of {m m' : Md} (h : AllR m) (ha : m'.a = m.a) (hb : m'.b = m.b) : AllR m' := by unfold AllR; rw [ha, hb]; exact h
theorem pass_keep (s : Fold.St) : (Fold.setPass s).want0 = s.want0 ∧ (Fold.setPass s).want1 = s.want1 ∧ (Fold.setPass s).phase = 3 ∧ Fold.revA (Fold.setPass s) = Fold.revA s ∧ (Fold.setPass s).delay = s.delay ∧ (Fold.setPass s).flip = s.flip := by
  unfold Fold.setPass Fold.revA
  by_cases h : s.active = 0
  · simp [h]
  · simp [h]
/-- Behind filling and both gates. -/
structure GateF (m m' : Md) (N : Nat) (B : Int) : Prop where
  set : Set2 m' N B
  all : AllR m'
  n : m'.r.n = m.r.n
  tick : m'.tick = m.tick
  delay : m'.st.delay = m.st.delay
  meas : meas m' ≤ meas m
  no2 : m'.st.phase ≠ 2
  no4 : m'.st.phase ≠ 4
  p0 : m.st.phase = 0 ↔ m'.st.phase = 0
theorem fill_set {m : Md} {N : Nat} {B : Int} (h : Set2 m N B) : Set2 (fillM m) N B := by
  obtain ⟨f1, f2, f3⟩ := fill_f h.inv
  refine ⟨f1, h.ci.same (by rw [f2.st]; exact ⟨rfl, rfl, rfl⟩) f2.r, by rw [f2.r]; exact h.free, by rw [f2.st, f2.r]; exact h.two, by rw [f2.st, f2.tick]; exact h.flip, by rw [f2.st]; exact h.gen⟩
theorem check_P {s : Fold.St} (h : Fold.rightV s = true) (t : Int) : (s.phase = 2 → Fold.checkV s ⟨4, Fold.revO s, 0, 0, true⟩ t = 0) ∧ (s.phase ≠ 2 → Fold.checkV s ⟨4, Fold.revO s, 0, 0, true⟩ t ≠ 0) := by
  have hc := Fold.check_eq (Fold.right_act h) ⟨4, Fold.revO s, 0, 0, true⟩ t
  rw [if_neg (show ¬ ((4 : Int) = 1) by decide), if_neg (show ¬ ((4 : Int) = 2) by decide), if_pos rfl] at hc
  refine ⟨fun p => ?_, fun p => ?_⟩
  · rw [hc, if_neg (not_not_intro ((rev_o h).2 (by omega))), if_neg (not_not_intro p), if_neg (not_not_intro rfl)]
  · rw [hc]
    split
    · decide
    · decide
theorem check_Q {s : Fold.St} (h : Fold.rightV s = true) (t : Int) : (s.phase = 4 → Fold.checkV s ⟨9, Fold.revA s, 0, 0, true⟩ t = 0) ∧ (s.phase ≠ 4 → Fold.checkV s ⟨9, Fold.revA s, 0, 0, true⟩ t ≠ 0) := by
  have hc := Fold.check_eq (Fold.right_act h) ⟨9, Fold.revA s, 0, 0, true⟩ t
  rw [if_neg (show ¬ ((9 : Int) = 1) by decide), if_neg (show ¬ ((9 : Int) = 2) by decide), if_neg (show ¬ ((9 : Int) = 4) by decide), if_pos rfl] at hc
  refine ⟨fun p => ?_, fun p => ?_⟩
  · rw [hc, if_neg (not_not_intro (rev_ok h).1), if_neg (not_not_intro p), if_neg (not_not_intro rfl)]
  · rw [hc]
    split
    · decide
    · decide
theorem op_P {m : Md} {N : Nat} (h : Inv m N) : (m.st.phase = 2 → (opV m ⟨4, Fold.revO m.st, 0, 0, true⟩).2 = putM m (Fold.rec0 4 0 0 true)) ∧ (m.st.phase ≠ 2 → (opV m ⟨4, Fold.revO m.st, 0, 0, true⟩).2 = m) := by
  obtain ⟨c1, c2⟩ := check_P h.right m.tick
  have hrec : Fold.recordV ⟨4, Fold.revO m.st, 0, 0, true⟩ = Fold.rec0 4 0 0 true := by rw [Fold.record_eq]; rfl
  refine ⟨fun p => ?_, fun p => ?_⟩
  · rcases op_res (m := m) ⟨4, Fold.revO m.st, 0, 0, true⟩ with ⟨c, e⟩ | ⟨c, e⟩
    · exact absurd (c1 p) c
    · rw [e, hrec]
  · rcases op_res (m := m) ⟨4, Fold.revO m.st, 0, 0, true⟩ with ⟨c, e⟩ | ⟨c, e⟩
    · rw [e]
    · exact absurd c (c2 p)
theorem op_Q {m : Md} {N : Nat} (h : Inv m N) : (m.st.phase = 4 → (opV m ⟨9, Fold.revA m.st, 0, 0, true⟩).2 = putM m (Fold.rec0 9 0 0 true)) ∧ (m.st.phase ≠ 4 → (opV m ⟨9, Fold.revA m.st, 0, 0, true⟩).2 = m) := by
  obtain ⟨c1, c2⟩ := check_Q h.right m.tick
  have hrec : Fold.recordV ⟨9, Fold.revA m.st, 0, 0, true⟩ = Fold.rec0 9 0 0 true := by rw [Fold.record_eq]; rfl
  refine ⟨fun p => ?_, fun p => ?_⟩
  · rcases op_res (m := m) ⟨9, Fold.revA m.st, 0, 0, true⟩ with ⟨c, e⟩ | ⟨c, e⟩
    · exact absurd (c1 p) c
    · rw [e, hrec]
  · rcases op_res (m := m) ⟨9, Fold.revA m.st, 0, 0, true⟩ with ⟨c, e⟩ | ⟨c, e⟩
    · rw [e]
    · exact absurd c (c2 p)
structure Gate4 (m m' : Md) : Prop where
  all : AllR m'
  r : m'.r = m.r
  tick : m'.tick = m.tick
  delay : m'.st.delay = m.st.delay
  ph : (m.st.phase = 2 ∧ m'.st.phase = 3) ∨ (m.st.phase ≠ 2 ∧ m'.st.phase = m.st.phase)
  rev : Fold.revA m'.st = Fold.revA m.st
theorem gate4 {m : Md} {N : Nat} (h : Inv m N) (hr : AllR m) : Gate4 m (opV m ⟨4, Fold.revO m.st, 0, 0, true⟩).2 := by
  obtain ⟨o1, o2⟩ := op_P h
  by_cases p2 : m.st.phase = 2
  · rw [o1 p2]
    have hst := Fold.step_pre h.right 0 0 true
    rw [if_pos p2, if_pos rfl] at hst
    have e0 : (Fold.stepV m.st (Fold.rec0 4 0 0 true)).1 = Fold.setPass m.st := by rw [hst]
    have e1 : (putM m (Fold.rec0 4 0 0 true)).st = Fold.setPass m.st := e0
    obtain ⟨w0, w1, w2, w3, w4, w5⟩ := pass_keep m.st
    obtain ⟨q1, q2⟩ := put_same h (Fold.rec0 4 0 0 true) (by rw [e0]; exact w0) (by rw [e0]; exact w1)
    exact ⟨all_of hr q1 q2, rfl, rfl, by rw [e1]; exact w4, .inl ⟨p2, by rw [e1]; exact w2⟩, by rw [e1]; exact w3⟩
  · rw [o2 p2]
    exact ⟨hr, rfl, rfl, rfl, .inr ⟨p2, rfl⟩, rfl⟩
theorem gate9 {m : Md} {N : Nat} (h : Inv m N) (hr : AllR m) : AllR (opV m ⟨9, Fold.revA m.st, 0, 0, true⟩).2 ∧ (opV m ⟨9, Fold.revA m.st, 0, 0, true⟩).2.r = m.r ∧ (opV m ⟨9, Fold.revA m.st, 0, 0, true⟩).2.tick = m.tick ∧ (opV m ⟨9, Fold.revA m.st, 0, 0, true⟩).2.st.delay = m.st.delay ∧
    ((m.st.phase = 4 ∧ (opV m ⟨9, Fold.revA m.st, 0, 0, true⟩).2.st.phase = 5) ∨ (m.st.phase ≠ 4 ∧ (opV m ⟨9, Fold.revA m.st, 0, 0, true⟩).2.st.phase = m.st.phase)) := by
  obtain ⟨o1, o2⟩ := op_Q h
  by_cases p4 : m.st.phase = 4
  · rw [o1 p4]
    have hst := Fold.step_post h.right 0 0 true
    rw [if_pos p4, if_pos rfl] at hst
    have e0 : (Fold.stepV m.st (Fold.rec0 9 0 0 true)).1 = Fold.setPh m.st 5 := by rw [hst]
    have e1 : (putM m (Fold.rec0 9 0 0 true)).st = Fold.setPh m.st 5 := e0
    obtain ⟨q1, q2⟩ := put_same h (Fold.rec0 9 0 0 true) (by rw [e0]; rfl) (by rw [e0]; rfl)
    exact ⟨all_of hr q1 q2, rfl, rfl, by rw [e1]; rfl, .inl ⟨p4, by rw [e1]; rfl⟩⟩
  · rw [o2 p4]
    exact ⟨hr, rfl, rfl, rfl, .inr ⟨p4, rfl⟩⟩
theorem gates {m : Md} {N : Nat} {B : Int} (h : Set2 m N B) : GateF m (rp9 m) N B := by
  obtain ⟨f1, f2, f3⟩ := fill_f h.inv
  have g1 := fill_set h
  have eP : askP m = ⟨4, Fold.revO (fillM m).st, 0, 0, true⟩ := by unfold askP; rw [(rev_o h.inv.right).1, f2.st]
  have s4 : Set2 (rp4 m) N B := op_set g1 (askP m)
  have q4 : Gate4 (fillM m) (rp4 m) := by unfold rp4; rw [eP]; exact gate4 f1 f3
  have eQ : askQ m = ⟨9, Fold.revA (rp4 m).st, 0, 0, true⟩ := by unfold askQ; rw [(rev_ok h.inv.right).2, q4.rev, f2.st]
  have s9 : Set2 (rp9 m) N B := op_set s4 (askQ m)
  have q9 := gate9 s4.inv q4.all
  rw [← eQ] at q9
  obtain ⟨a1, a2, a3, a4, a5⟩ := q9
  have hph := (Fold.right_rt h.inv.right).phase
  have b5 := q4.ph
  rw [f2.st] at b5
  have er : (rp9 m).r = m.r := a2.trans (q4.r.trans f2.r)
  have a5 : ((rp4 m).st.phase = 4 ∧ (rp9 m).st.phase = 5) ∨ ((rp4 m).st.phase ≠ 4 ∧ (rp9 m).st.phase = (rp4 m).st.phase) := a5
  refine ⟨s9, a1, by rw [er], a3.trans (q4.tick.trans f2.tick), a4.trans (q4.delay.trans (by rw [f2.st])), ?_, by omega, by omega, by omega⟩
  unfold meas
  rw [er]
  generalize (rp9 m).st.phase = x at a5
  generalize (rp4 m).st.phase = y at a5 b5
  generalize m.st.phase = z at b5
  have : rank x ≤ rank z := by
    rcases b5 with ⟨p, q⟩ | ⟨p, q⟩
    · rcases a5 with ⟨p', q'⟩ | ⟨p', q'⟩
      · omega
      · rw [q', q, p]; simp [rank]
    · rcases a5 with ⟨p', q'⟩ | ⟨p', q'⟩
      · rw [q', ← q, p']; simp [rank]
      · rw [q', q]; exact Nat.le_refl _
  omega
theorem tick_set {m : Md} {N : Nat} {B : Int} (h : Set2 m N B) {d : Int} (hd : 0 ≤ d) (ht : m.tick + d ≤ 1073741824) : Set2 (tickM m d) N B ∧ (tickM m d).tick = m.tick + d := by
  have e := tick_min h.inv d
  have e : (tickM m d).tick = m.tick + d := by omega
  refine ⟨⟨inv_tick h.inv d, ⟨h.ci.slot, h.ci.slot2, h.ci.gen, h.ci.gen1⟩, h.free, h.two, ?_, h.gen⟩, e⟩
  have := h.flip
  show m.st.flip ≤ (tickM m d).tick
  omega
theorem rd_set {m : Md} {N : Nat} {B : Int} (h : Set2 m N B) (hB : B ≤ 1048575) (ht : m.tick ≤ 1000000000) (o : Nat → Int) :
    Set2 (rdM m o) (rpt m).r.n (B + 1) ∧ (rdM m o).tick ≤ m.tick + 65536 ∧ (m.st.phase ≠ 0 → meas (rdM m o) < meas m) ∧ (m.st.phase = 0 → (rdM m o).st.phase = 0) ∧ (rpt m).r.n ≤ m.r.n ∧ (rdM m o).r.n ≤ m.r.n := by
  have g := gates h
  have hd := (Fold.right_rt h.inv.right).delay
  obtain ⟨t1, t2⟩ := tick_set g.set (d := m.st.delay) hd.1 (by rw [g.tick]; omega)
  have en : (rpt m).r.n = m.r.n := g.n
  have hp := pre_set t1 (rpt m).r.n
  have e0 := pre_eq t1.inv (rpt m).r.n
  have hall : AllR (pre (rpt m) (rpt m).r.n) := by
    have e0 : pre (rpt m) (rpt m).r.n = _ := e0
    rw [e0]
    exact g.all
  have hst : (pre (rpt m) (rpt m).r.n).st = (rp9 m).st := rfl
  have htk : (pre (rpt m) (rpt m).r.n).tick = m.tick + m.st.delay := t2.trans (by rw [g.tick])
  obtain ⟨r1, r2, r3⟩ := step_set (m := pre (rpt m) (rpt m).r.n) hp hall hB (fun p5 => by
    rw [hst, htk, g.delay]
    have := g.set.flip
    rw [g.tick] at this
    omega) (by rw [hst]; exact g.no2) (by rw [hst]; exact g.no4) (catO (rpt m).r.i0 (rpt m).r.n o []) 1
  have hm : meas (pre (rpt m) (rpt m).r.n) ≤ meas m := g.meas
  have k := keep_0 hp (catO (rpt m).r.i0 (rpt m).r.n o []) 1
  refine ⟨r1, ?_, fun p => ?_, fun p => ?_, Nat.le_of_eq en, Nat.le_trans k.n (Nat.le_of_eq en)⟩
  · have e : (rdM m o).tick = (pre (rpt m) (rpt m).r.n).tick := k.tick
    rw [e, htk]; omega
  · exact Nat.lt_of_lt_of_le (r2 (by rw [hst]; exact fun hz => p (g.p0.2 hz))) hm
  · have hz : (pre (rpt m) (rpt m).r.n).st.phase = 0 := by rw [hst]; exact g.p0.1 p
    have e : rdM m o = pre (rpt m) (rpt m).r.n := r3 hz
    rw [e]; exact hz
end Go.Proofs.Ytpebebhjmnmcbaa.Md

/- What stays true of a model. Plain. -/
import Derived.Test.YtpebebhjmnmcbaaMd9
import Derived.Test.YtpebebhjmnmcbaaFoldLaw
set_option maxRecDepth 100000
set_option linter.unusedSimpArgs false
set_option linter.unusedVariables false
namespace Go.Proofs.Ytpebebhjmnmcbaa.Md
open Go Go.Proofs.Ytpebebhjmnmcbaa.Sx
/-- None beyond those that are wanted is ready. -/
def Clean (s : Rep.Sl) : Prop := ∀ j : Nat, s.want ≤ (j : Int) → s.f j = false
theorem f_big (s : Rep.Sl) (j : Nat) (h : 32 ≤ j) : s.f j = false := by
  obtain ⟨k, rfl⟩ : ∃ k, j = k + 32 := ⟨j - 32, by omega⟩
  rfl
theorem clean_scale (s : Rep.Sl) (n : Int) : Clean (Rep.sscale s n) := by
  intro j hj
  have hj : Rep.capN n ≤ (j : Int) := hj
  by_cases h : j < 32
  · unfold Rep.sscale
    rw [Rep.mkS_f _ _ _ h]
    unfold Rep.cutF
    rw [decide_eq_true hj]; rfl
  · exact f_big _ _ (by omega)
theorem scale_self {s : Rep.Sl} (h : Clean s) (h0 : 0 ≤ s.want) (h1 : s.want ≤ 32) : Rep.sscale s s.want = s := by
  have hc : Rep.capN s.want = s.want := by
    unfold Rep.capN foldMin foldMax foldMax foldMin
    (repeat' split) <;> omega
  unfold Rep.sscale
  rw [hc]
  conv => rhs; rw [← Rep.mkS_self s]
  refine Rep.mkS_congr _ _ _ fun j hj => ?_
  unfold Rep.cutF
  by_cases c : s.want ≤ (j : Int)
  · rw [decide_eq_true c, h j c]; rfl
  · rw [decide_eq_false c]; rfl
theorem clean_ready {s : Rep.Sl} (h : Clean s) (i : Int) (b : Bool) : Clean (Rep.sreadyS s i b) := by
  intro j hj
  rw [Rep.ready_want] at hj
  unfold Rep.sreadyS
  cases hb : Rep.sreadyB s i with
  | false => exact h j hj
  | true =>
    rw [cond_true]
    by_cases h32 : j < 32
    · rw [Rep.mkS_f _ _ _ h32]
      have : i < s.want := by
        unfold Rep.sreadyB at hb
        by_cases c : i < 0
        · rw [decide_eq_true c] at hb; cases hb
        · rw [decide_eq_false c] at hb
          by_cases c2 : i ≥ s.want
          · rw [decide_eq_true c2] at hb; cases hb
          · omega
      have e : (i == (j : Int)) = false := by simp; omega
      rw [e, cond_false]
      exact h j hj
    · exact f_big _ _ (by omega)
theorem capN_id {n : Int} (h0 : 0 ≤ n) (h1 : n ≤ 32) : Rep.capN n = n := by
  unfold Rep.capN foldMin foldMax foldMax foldMin
  (repeat' split) <;> omega
theorem right_want {s : Fold.St} (h : Fold.rightV s = true) : (0 ≤ s.want0 ∧ s.want0 ≤ 32) ∧ (0 ≤ s.want1 ∧ s.want1 ≤ 32) := by
  have ha := Fold.right_act h
  obtain ⟨phase, active, rev0, rev1, want0, want1, passed0, passed1, delay, gen, switch, flip⟩ := s
  rcases Fold.act_iff.1 ha with ha | ha <;> (simp only at ha; subst ha)
  · rw [Fold.right0] at h; simp only; omega
  · rw [Fold.right1] at h; simp only; omega
/-- What stays true. -/
structure Inv (m : Md) (N : Nat) : Prop where
  right : Fold.rightV m.st = true
  tick : 0 ≤ m.tick ∧ m.tick ≤ 1073741824
  a : m.a.want = m.st.want0
  b : m.b.want = m.st.want1
  ca : Clean m.a
  cb : Clean m.b
  n : m.r.i0 + m.r.n = N
theorem Inv.small {m : Md} {N : Nat} (h : Inv m N) : small m = true := by
  obtain ⟨h1, h2⟩ := right_want h.right
  unfold Md.small
  rw [h.a, h.b, decide_eq_true h1.2, decide_eq_true h2.2]; rfl
theorem inv_put {m : Md} {N : Nat} (h : Inv m N) (x : Fold.Rc) : Inv (putM m x) N := by
  have hr : Fold.rightV (Fold.stepV m.st x).1 = true := Fold.step_keep (s := m.st) (r := x) h.right
  obtain ⟨h1, h2⟩ := right_want hr
  exact ⟨hr, h.tick, capN_id h1.1 h1.2, capN_id h2.1 h2.2, clean_scale _ _, clean_scale _ _, h.n⟩
theorem inv_op {m : Md} {N : Nat} (h : Inv m N) (o : Fold.Ask) : Inv (opV m o).2 N := by
  unfold opV
  cases Fold.checkV m.st o m.tick != 0
  · exact inv_put h _
  · exact h
theorem add_tick {t n : Int} (h : 0 ≤ t ∧ t ≤ 1073741824) : Fold.maddV t n 1073741824 = min (t + max n 0) 1073741824 := by
  unfold Fold.maddV
  have e1 : foldMax t [0] = t := by unfold foldMax foldMax; split <;> omega
  have e2 : foldMax (1073741824 : Int) [0] = 1073741824 := rfl
  have e3 : foldMax n [0] = max n 0 := by unfold foldMax foldMax; split <;> omega
  rw [e1, e2, e3, wi (x := 1073741824 - t) (by omega)]
  by_cases c1 : t ≥ 1073741824
  · rw [decide_eq_true c1, cond_true]; omega
  · rw [decide_eq_false c1, cond_false]
    by_cases c2 : max n 0 ≥ 1073741824 - t
    · rw [decide_eq_true c2, cond_true]; omega
    · rw [decide_eq_false c2, cond_false, wi (by omega)]; omega
theorem inv_tick {m : Md} {N : Nat} (h : Inv m N) (n : Int) : Inv (tickM m n) N := by
  refine ⟨h.right, ?_, h.a, h.b, h.ca, h.cb, h.n⟩
  have := h.tick
  show 0 ≤ Fold.maddV m.tick n 1073741824 ∧ Fold.maddV m.tick n 1073741824 ≤ 1073741824
  rw [add_tick h.tick]
  omega
theorem inv_ready {m : Md} {N : Nat} (h : Inv m N) (slot i : Int) (on : Bool) : Inv (readyM m slot i on) N := by
  have hf : ∀ x : Rep.Sl × Rep.Sl, Clean x.1 → Clean x.2 → (Rep.fready x slot i on).2.1.want = x.1.want ∧ (Rep.fready x slot i on).2.2.want = x.2.want ∧ Clean (Rep.fready x slot i on).2.1 ∧ Clean (Rep.fready x slot i on).2.2 := by
    intro x c1 c2
    unfold Rep.fready
    by_cases h0 : slot = 0
    · rw [if_pos h0]; exact ⟨Rep.ready_want .., rfl, clean_ready c1 _ _, c2⟩
    · rw [if_neg h0]
      by_cases h1 : slot = 1
      · rw [if_pos h1]; exact ⟨rfl, Rep.ready_want .., c1, clean_ready c2 _ _⟩
      · rw [if_neg h1]; exact ⟨rfl, rfl, c1, c2⟩
  obtain ⟨h1, h2, h3, h4⟩ := hf (m.a, m.b) h.ca h.cb
  exact ⟨h.right, h.tick, h1.trans h.a, h2.trans h.b, h3, h4, h.n⟩
theorem cset_n (r : Rt.Rou) (o : Nat → Int) (to : Rt.Cell) (T : Int) : (Rt.csetV r o to T).2.2.i0 + (Rt.csetV r o to T).2.2.n = r.i0 + r.n := by
  unfold Rt.csetV
  rw [Rt.setG_n]
theorem inv_withR {m : Md} {N : Nat} (h : Inv m N) {r : Rt.Rou} (hr : r.i0 + r.n = N) : Inv (withR m r) N := ⟨h.right, h.tick, h.a, h.b, h.ca, h.cb, hr⟩
theorem inv_route {m : Md} {N : Nat} (h : Inv m N) (o : Nat → Int) : Inv (routeV m o).2 N := by
  have hw : Inv (withR m (Rt.csetV m.r o (toM m) m.tries).2.2) N := inv_withR h ((cset_n ..).trans h.n)
  unfold routeV
  cases (Rt.csetV m.r o (toM m) m.tries).1 == 0
  · exact hw
  · exact inv_put hw _
theorem inv_stepG {N : Nat} (o : Nat → Int) : ∀ {k : Nat} {m : Md}, Inv m N → Inv (stepG o k m).2 N
  | 0, m, h => h
  | k + 1, m, h => by
    unfold stepG
    cases (nxV m).1 == 2 || (nxV m).1 == 3 with
    | true =>
      rw [cond_true]
      cases (Fold.stepV m.st (nxV m).2).2 with
      | true => exact inv_stepG o (inv_put h _)
      | false => exact inv_put h _
    | false =>
      rw [cond_false]
      cases (nxV m).1 == 5 with
      | true => exact inv_route h o
      | false =>
        rw [cond_false]
        cases (nxV m).1 == 0 with
        | true => exact h
        | false => exact inv_put h _
theorem inv_pre {m : Md} {N n : Nat} (h : Inv m N) : Inv (pre m n) n := by
  obtain ⟨h1, h2⟩ := right_want h.right
  exact ⟨h.right, h.tick, capN_id h1.1 h1.2, capN_id h2.1 h2.2, clean_scale _ _, clean_scale _ _, by show 0 + n = n; omega⟩
theorem inv_do {m : Md} {N : Nat} (h : Inv m N) (o : Nat → Int) (a : Ac) : Inv (doV m N o a).m (doV m N o a).N := by
  unfold doV
  cases a.kind == 1 with
  | true => exact inv_op h _
  | false =>
    rw [cond_false]
    cases a.kind == 2 with
    | true => exact inv_stepG _ (inv_pre h)
    | false =>
      rw [cond_false]
      cases a.kind == 3 with
      | true => exact inv_ready h ..
      | false =>
        rw [cond_false]
        cases a.kind == 4 with
        | true => exact inv_tick h _
        | false => exact h
theorem do_N (m : Md) (N : Nat) (o : Nat → Int) (a : Ac) (h : m.r.n ≤ N) : (doV m N o a).N ≤ N + a.outL.length := by
  unfold doV
  cases a.kind == 1 <;> cases a.kind == 2 <;> cases a.kind == 3 <;> cases a.kind == 4 <;> simp only [cond_true, cond_false] <;> omega
end Go.Proofs.Ytpebebhjmnmcbaa.Md

/- What an act makes of how many are wanted, part 3: any act; what the law asks of a slot. Plain. -/
import Derived.Test.YtpebebhjmnmcbaaMdKeep2
set_option maxRecDepth 100000
set_option linter.unusedSimpArgs false
set_option linter.unusedVariables false
namespace Go.Proofs.Ytpebebhjmnmcbaa.Md
open Go Go.Proofs.Ytpebebhjmnmcbaa.Sx
def WD (m m' : Md) : Prop := (m'.st.want0 = m.st.want0 ∧ m'.st.want1 = m.st.want1) ∨ (m'.r.slot = m.r.slot ∧ m.st.switch = 0 ∧ Fold.wantA m'.st = Fold.wantA m.st ∧ m'.st.active = m.st.active ∧ (aheadP m ∨ behindP m ∨ Fold.wantO m.st ≤ Fold.wantO m'.st))
theorem WF.wd {m m' : Md} (h : WF m m') : WD m m' := by
  rcases h with h | ⟨h1, h2⟩
  · exact .inl h
  · exact .inr ⟨by rw [h1], h2⟩
theorem wd_do {m : Md} {N : Nat} (h : Inv m N) (o : Nat → Int) (a : Ac) : WD m (doV m N o a).m := by
  unfold doV
  cases a.kind == 1 with
  | true => exact (wf_op h _).wd
  | false =>
    rw [cond_false]
    cases a.kind == 2 with
    | true =>
      have hi := inv_pre h (n := m.r.n + a.outL.length)
      rw [cond_true]
      unfold mstepV
      simp only
      rw [pre_eq h] at hi ⊢
      exact (wf_0 hi (catO m.r.i0 m.r.n o a.outL) 1).wd
    | false =>
      rw [cond_false]
      cases a.kind == 3 with
      | true => exact .inl ⟨rfl, rfl⟩
      | false =>
        rw [cond_false]
        cases a.kind == 4 with
        | true => exact .inl ⟨rfl, rfl⟩
        | false => exact .inl ⟨rfl, rfl⟩
def wantS (s : Fold.St) (slot : Int) : Int := if slot = 0 then s.want0 else s.want1
/-- The delay is over. -/
theorem less_eq {t f d : Int} (ht : 0 ≤ t ∧ t ≤ 1073741824) (hf : 0 ≤ f ∧ f ≤ 1073741824) (hd : 0 ≤ d) : ¬ Fold.lessV t f < d → d = 0 ∨ t - f ≥ d := by
  unfold Fold.lessV
  by_cases c : t ≤ f
  · rw [decide_eq_true c]; simp only [cond_true]; omega
  · rw [decide_eq_false c, decide_eq_false (show ¬ f < 0 by omega), wi (x := t - f) (by omega)]; simp only [cond_false]; omega
/-- What the law asks of a slot of which fewer are wanted. -/
theorem keep_slot {m : Md} {N : Nat} (h : Inv m N) (hc : CI m) (o : Nat → Int) (a : Ac) (slot : Int) (hs : slot = 0 ∨ slot = 1) (hw : wantS (doV m N o a).m.st slot < wantS m.st slot) :
    slot ≠ m.st.active ∧ slot ≠ m.r.slot ∧ slot ≠ (doV m N o a).m.r.slot ∧ (aheadP m ∨ m.st.phase = 7 ∨ m.st.phase = 5 ∧ (m.st.delay = 0 ∨ m.tick - m.st.flip ≥ m.st.delay)) := by
  have hb : behindP m → m.st.phase = 7 ∨ m.st.phase = 5 ∧ (m.st.delay = 0 ∨ m.tick - m.st.flip ≥ m.st.delay) := by
    rintro (hb | ⟨hb, hl⟩)
    · exact .inl hb
    · exact .inr ⟨hb, less_eq h.tick (Fold.right_rt h.right).flip (Fold.right_rt h.right).delay.1 hl⟩
  obtain ⟨_, _, _, h4⟩ := right_sw h.right
  rcases wd_do h o a with ⟨w0, w1⟩ | ⟨e1, e2, e3, e4, e5⟩
  · exfalso
    unfold wantS at hw
    rcases hs with rfl | rfl <;> simp at hw <;> omega
  · have hsl := hc.slot (by omega)
    have hne : slot ≠ m.st.active := by
      intro he
      unfold wantS at hw
      unfold Fold.wantA at e3
      rw [e4] at e3
      rcases hs with rfl | rfl <;> simp [← he] at hw e3 <;> omega
    refine ⟨hne, by rw [hsl]; exact hne, by rw [e1, hsl]; exact hne, ?_⟩
    rcases e5 with e5 | e5 | e5
    · exact .inl e5
    · exact .inr (hb e5)
    · exfalso
      unfold wantS at hw
      unfold Fold.wantO at e5
      rw [e4] at e5
      rcases hs with rfl | rfl
      · have : m.st.active = 1 := by omega
        simp [this] at hw e5; omega
      · have : m.st.active = 0 := by omega
        simp [this] at hw e5; omega
end Go.Proofs.Ytpebebhjmnmcbaa.Md

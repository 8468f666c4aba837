/- The route and the state of a model. Plain. -/
import Derived.Test.YtpebebhjmnmcbaaMdLaw2
set_option maxRecDepth 100000
set_option linter.unusedSimpArgs false
set_option linter.unusedVariables false
namespace Go.Proofs.Ytpebebhjmnmcbaa.Md
open Go Go.Proofs.Ytpebebhjmnmcbaa.Sx
/-! ### What calls make of a route -/
theorem next_cell (r : Rt.Rou) (o : Nat → Int) : (Rt.nextV r o).2.slot = r.slot ∧ (Rt.nextV r o).2.gen = r.gen := by
  unfold Rt.nextV
  cases (r.n : Int) == 0 <;> exact ⟨rfl, rfl⟩
theorem set_cell (r : Rt.Rou) (o : Nat → Int) (c : Rt.Cell) : ((Rt.setV r o c).2.slot = r.slot ∧ (Rt.setV r o c).2.gen = r.gen ∨ (Rt.setV r o c).2.slot = c.slot ∧ (Rt.setV r o c).2.gen = c.gen ∧ c.gen > r.gen) ∧ ((Rt.setV r o c).1 = 0 → (Rt.setV r o c).2.slot = c.slot ∧ (Rt.setV r o c).2.gen = c.gen) := by
  unfold Rt.setV
  by_cases h : c.gen > r.gen
  · rw [decide_eq_true h]; exact ⟨.inr ⟨rfl, rfl, h⟩, fun _ => ⟨rfl, rfl⟩⟩
  · rw [decide_eq_false h]
    cases h1 : c.slot == r.slot && c.gen == r.gen with
    | true =>
      simp only [Bool.and_eq_true, beq_iff_eq] at h1
      exact ⟨.inl ⟨rfl, rfl⟩, fun _ => ⟨h1.1.symm, h1.2.symm⟩⟩
    | false => exact ⟨.inl ⟨rfl, rfl⟩, fun h => by cases h⟩
def Cell2 (r r' : Rt.Rou) (to : Rt.Cell) (e : Int) : Prop := (r'.slot = r.slot ∧ r'.gen = r.gen ∨ r'.slot = to.slot ∧ r'.gen = to.gen ∧ to.gen > r.gen) ∧ (e = 0 → r'.slot = to.slot ∧ r'.gen = to.gen)
theorem call_cell (r : Rt.Rou) (o : Nat → Int) (to : Rt.Cell) : Cell2 r (Rt.callV r o to.gen to.slot).2 to (Rt.callV r o to.gen to.slot).1 := by
  have hn := next_cell (Rt.spend1 r) o
  have h1 : (Rt.spend1 r).slot = r.slot ∧ (Rt.spend1 r).gen = r.gen := ⟨rfl, rfl⟩
  have hs := set_cell (Rt.nextV (Rt.spend1 r) o).2 o ⟨to.slot, to.gen⟩
  rw [hn.1, hn.2, h1.1, h1.2] at hs
  unfold Rt.callV
  cases !(to.slot == 0 || to.slot == 1) || (decide (to.gen < 1) || decide (to.gen > 1048576)) with
  | true => exact ⟨.inl ⟨rfl, rfl⟩, fun h => by cases h⟩
  | false =>
    rw [cond_false]
    cases !(Rt.spendV (Rt.fu r)).1 with
    | true => exact ⟨.inl ⟨rfl, rfl⟩, fun h => by cases h⟩
    | false =>
      rw [cond_false]
      cases (Rt.nextV (Rt.spend1 r) o).1 == 2 with
      | true => exact ⟨.inl ⟨hn.1.trans h1.1, hn.2.trans h1.2⟩, fun h => by cases h⟩
      | false =>
        rw [cond_false]
        cases (Rt.nextV (Rt.spend1 r) o).1 == 1 with
        | true => exact ⟨hs.1, fun h => by cases h⟩
        | false => exact hs
theorem setG_cell (o : Nat → Int) (to : Rt.Cell) (T : Int) : ∀ (k : Nat) (n : Int) (r : Rt.Rou), Cell2 r (Rt.setG o to T k n r).2.2 to (Rt.setG o to T k n r).1
  | 0, n, r => ⟨.inl ⟨rfl, rfl⟩, fun h => by cases h⟩
  | k + 1, n, r => by
    have hc := call_cell r o to
    unfold Rt.setG
    cases (Rt.callV r o to.gen to.slot).1 != 10 with
    | true => exact hc
    | false =>
      rw [cond_false]
      cases n == T with
      | true => exact hc
      | false =>
        rw [cond_false]
        obtain ⟨i1, i2⟩ := setG_cell o to T k (n + 1) (Rt.callV r o to.gen to.slot).2
        refine ⟨?_, i2⟩
        rcases hc.1 with ⟨a, b⟩ | ⟨a, b, c⟩
        · rw [a, b] at i1; exact i1
        · rcases i1 with ⟨x, y⟩ | ⟨x, y, z⟩
          · exact .inr ⟨x.trans a, y.trans b, c⟩
          · exact .inr ⟨x, y, c⟩
theorem cset_cell (r : Rt.Rou) (o : Nat → Int) (to : Rt.Cell) (T : Int) : Cell2 r (Rt.csetV r o to T).2.2 to (Rt.csetV r o to T).1 := setG_cell ..
/-! ### What records make of active, generation and switch -/
def Same3 (s s' : Fold.St) : Prop := s'.active = s.active ∧ s'.gen = s.gen ∧ s'.switch = s.switch
theorem same_clr (s : Fold.St) : Same3 s (Fold.clr s) := by
  unfold Fold.clr
  by_cases h : s.active = 0
  · rw [if_pos h]; exact ⟨rfl, rfl, rfl⟩
  · rw [if_neg h]; exact ⟨rfl, rfl, rfl⟩
theorem same_pass (s : Fold.St) : Same3 s (Fold.setPass s) := by
  unfold Fold.setPass
  by_cases h : s.active = 0
  · rw [if_pos h]; exact ⟨rfl, rfl, rfl⟩
  · rw [if_neg h]; exact ⟨rfl, rfl, rfl⟩
theorem same_dep (s : Fold.St) (r : Fold.Rc) : Same3 s (Fold.deployed s r) := by
  unfold Fold.deployed
  by_cases h : s.active = 0
  · rw [if_pos h]; exact ⟨rfl, rfl, rfl⟩
  · rw [if_neg h]; exact ⟨rfl, rfl, rfl⟩
/-- What an operation makes of a right state, of whatever kind: its check, and the state behind it. -/
theorem op_same3 {m : Md} {N : Nat} (h : Inv m N) (o : Fold.Ask) : Same3 m.st (opV m o).2.st ∧ (opV m o).2.r = m.r := by
  unfold opV
  cases hc : Fold.checkV m.st o m.tick != 0 with
  | true => exact ⟨⟨rfl, rfl, rfl⟩, rfl⟩
  | false =>
    refine ⟨?_, rfl⟩
    have hc : Fold.checkV m.st o m.tick = 0 := by simpa using hc
    rw [cond_false]
    show Same3 m.st (Fold.stepV m.st (Fold.recordV o)).1
    rw [Fold.record_eq]
    rw [Fold.check_eq h.act] at hc
    by_cases k1 : o.kind = 1
    · rw [if_pos k1, Fold.step_deploy h.right]
      split
      · exact same_dep _ _
      · exact ⟨rfl, rfl, rfl⟩
    · rw [if_neg k1] at hc ⊢
      by_cases k4 : o.kind = 4
      · rw [if_pos (.inl k4), k4, Fold.step_pre h.right]
        split
        · simp only; split
          · exact same_pass _
          · exact same_clr _
        · exact ⟨rfl, rfl, rfl⟩
      · by_cases k9 : o.kind = 9
        · rw [if_pos (.inr k9), k9, Fold.step_post h.right]
          split
          · exact ⟨rfl, rfl, rfl⟩
          · exact ⟨rfl, rfl, rfl⟩
        · by_cases k2 : o.kind = 2
          · rw [if_neg (by omega), k2, Fold.step_abort h.right]
            split
            · exact same_clr _
            · split <;> exact ⟨rfl, rfl, rfl⟩
          · rw [if_neg k2, if_neg k4, if_neg k9] at hc
            cases hc
/-- The route names the active slot, but while a committed switch wasn't told. -/
structure CI (m : Md) : Prop where
  slot : m.st.switch ≠ 2 → m.r.slot = m.st.active
  slot2 : m.r.slot = m.st.active ∨ m.r.slot = 1 - m.st.active
  gen : m.r.gen ≤ m.st.gen
  gen1 : m.st.switch = 1 → m.r.gen < m.st.gen
theorem CI.same {m m' : Md} (h : CI m) (hs : Same3 m.st m'.st) (hr : m'.r = m.r) : CI m' := by
  obtain ⟨s1, s2, s3⟩ := hs
  refine ⟨?_, ?_, ?_, ?_⟩ <;> rw [hr]
  · rw [s3, s1]; exact h.slot
  · rw [s1]; exact h.slot2
  · rw [s2]; exact h.gen
  · rw [s3, s2]; exact h.gen1
theorem ci_op {m : Md} {N : Nat} (h : Inv m N) (hc : CI m) (o : Fold.Ask) : CI (opV m o).2 := hc.same (op_same3 h o).1 (op_same3 h o).2
end Go.Proofs.Ytpebebhjmnmcbaa.Md

/- The router and the reference's one go together. No condition. -/
import Derived.Test.YtpebebhjmnmcbaaRpref
set_option maxRecDepth 100000
set_option linter.unusedSimpArgs false
set_option linter.unusedVariables false
namespace Go.Proofs.Ytpebebhjmnmcbaa.Rt
open Go Go.Proofs.Ytpebebhjmnmcbaa.Sx
/-- A fuse and the reference's. -/
structure RelF (s : F) (g : RF) : Prop where
  count : s.count = g.count
  blown : s.blown = g.blown
  left : s.left = if g.armed = true then g.left else -1
  le : g.armed = true → 0 ≤ g.left ∧ g.left ≤ 9223372036854775807
theorem rel_spend {s : F} {g : RF} (h : RelF s g) : (spendV s).1 = (mspendV g).1 ∧ RelF (spendV s).2 (mspendV g).2 := by
  obtain ⟨sl, sb, sc⟩ := s
  obtain ⟨ga, gl, gb, gc⟩ := g
  obtain ⟨h1, h2, h3, h4⟩ := h
  simp only at h1 h2 h3 h4
  subst h1 h2
  unfold spendV mspendV
  cases ga with
  | false =>
    simp only [Bool.false_eq_true, if_false] at h3
    subst h3
    cases sb <;> exact ⟨by trivial, ⟨rfl, rfl, rfl, fun h => by cases h⟩⟩
  | true =>
    simp only [if_true] at h3
    subst h3
    have := h4 rfl
    cases sb with
    | true =>
      simp only [cond_true]
      cases hz : sl == 0 <;> exact ⟨by trivial, ⟨rfl, rfl, rfl, fun _ => this⟩⟩
    | false =>
      simp only [cond_true, cond_false]
      cases hz : sl == 0 with
      | true => exact ⟨by trivial, ⟨rfl, rfl, rfl, fun _ => this⟩⟩
      | false =>
        have hz : sl ≠ 0 := by simpa using hz
        rw [decide_eq_true (show sl > 0 by omega)]
        simp only [cond_true, cond_false]
        rw [wi (x := sl - 1) (by omega)]
        exact ⟨by trivial, ⟨rfl, rfl, rfl, fun _ => by simp only; omega⟩⟩
theorem foldMax1 (n : Int) : foldMax n [0] = if n < 0 then 0 else n := by
  simp only [foldMax]
  repeat' split
  all_goals omega
theorem rel_new : RelF ⟨-1, false, 0⟩ ⟨false, 0, false, 0⟩ := ⟨rfl, rfl, rfl, fun h => by cases h⟩
/-- What comes of a call of the reference. -/
@[reducible] noncomputable def mc {α : Type} (r : Rm) (o : Nat → Int) (gen slot : Int) (F' G : Int → Rm → α) : α :=
  bif decide (slot < 0) then F' 1 r else bif decide (slot > 1) then F' 1 r else bif decide (gen < 1) then F' 1 r else bif decide (gen > 1048576) then F' 1 r else bif !(mspendV (mfu r)).1 then F' 2 (mspend1 r) else
  bif decide ((r.n : Int) > 0) then G (mpop (mspend1 r) (o (addI r.i0 0)) gen slot).1 (mcut (mpop (mspend1 r) (o (addI r.i0 0)) gen slot).2) else
  bif decide (gen > r.gen) then F' 0 (mset (mspend1 r) gen slot).2 else bif decide (gen < r.gen) then F' 11 (mspend1 r) else bif slot != r.slot then F' 11 (mspend1 r) else F' 0 (mspend1 r)
/-- Was an outcome used; the error; the router. -/
noncomputable def mres (r : Rm) (o : Nat → Int) (gen slot : Int) : Bool × Int × Rm := mc r o gen slot (fun e r => (false, e, r)) (fun e r => (true, e, r))
theorem mc_eq {α : Type} (r : Rm) (o : Nat → Int) (gen slot : Int) (F' G : Int → Rm → α) : mc r o gen slot F' G = bif (mres r o gen slot).1 then G (mres r o gen slot).2.1 (mres r o gen slot).2.2 else F' (mres r o gen slot).2.1 (mres r o gen slot).2.2 := by
  unfold mres mc
  cases decide (slot < 0) <;> simp only [cond_true, cond_false]
  cases decide (slot > 1) <;> simp only [cond_true, cond_false]
  cases decide (gen < 1) <;> simp only [cond_true, cond_false]
  cases decide (gen > 1048576) <;> simp only [cond_true, cond_false]
  cases !(mspendV (mfu r)).1 <;> simp only [cond_true, cond_false]
  cases decide ((r.n : Int) > 0) <;> simp only [cond_true, cond_false]
  cases decide (gen > r.gen) <;> simp only [cond_true, cond_false]
  cases decide (gen < r.gen) <;> simp only [cond_true, cond_false]
  cases slot != r.slot <;> rfl
/-- A router and the reference's. -/
structure RelR (r : Rou) (o : Nat → Int) (m : Rm) (o' : Nat → Int) : Prop where
  slot : r.slot = m.slot
  gen : r.gen = m.gen
  writes : r.writes = m.writes
  n : r.n = m.n
  out : ∀ j, j < r.n → o (r.i0 + j) = o' (m.i0 + j)
  fuse : RelF (fu r) (mfu m)
/-- The outcomes behind a call. -/
def mouts (m : Rm) (o : Nat → Int) (used : Bool) : Nat → Int := bif used then fun j => o (m.i0 + 1 + j) else o
theorem rel_set {r : Rou} {o : Nat → Int} {m : Rm} {o' : Nat → Int} (h : RelR r o m o') (gen slot : Int) : (setV r o ⟨slot, gen⟩).1 = (mset m gen slot).1 ∧ RelR (setV r o ⟨slot, gen⟩).2 o (mset m gen slot).2 o' := by
  unfold setV mset
  simp only [h.slot, h.gen]
  by_cases h1 : gen > m.gen
  · rw [decide_eq_true h1]
    exact ⟨by trivial, ⟨rfl, rfl, by simp only [cond_true, h.writes], h.n, h.out, h.fuse⟩⟩
  · rw [decide_eq_false h1]
    simp only [cond_false]
    by_cases h2 : gen < m.gen
    · rw [decide_eq_true h2, show (gen == m.gen) = false by simp; omega]
      simp only [Bool.and_false, cond_false, cond_true]
      exact ⟨by trivial, h⟩
    · rw [decide_eq_false h2, show (gen == m.gen) = true by simp; omega]
      simp only [Bool.and_true, cond_false]
      by_cases h3 : slot = m.slot
      · rw [show (slot == m.slot) = true by simpa using h3, show (slot != m.slot) = false by simpa using h3]
        exact ⟨rfl, h⟩
      · rw [show (slot == m.slot) = false by simpa using h3, show (slot != m.slot) = true by simpa using h3]
        exact ⟨rfl, h⟩
theorem mset_keeps (m : Rm) (gen slot : Int) : (mset m gen slot).2.i0 = m.i0 ∧ (mset m gen slot).2.n = m.n := by
  unfold mset
  cases decide (gen > m.gen) <;> cases decide (gen < m.gen) <;> cases slot != m.slot <;> exact ⟨rfl, rfl⟩
theorem mpop_keeps (m : Rm) (x gen slot : Int) : (mpop m x gen slot).2.i0 = m.i0 ∧ (mpop m x gen slot).2.n = m.n := by
  unfold mpop
  have := mset_keeps m gen slot
  cases x == 2 <;> cases x == 1 <;> first | exact ⟨rfl, rfl⟩ | exact this
theorem rel_call {r : Rou} {o : Nat → Int} {m : Rm} {o' : Nat → Int} (h : RelR r o m o') (gen slot : Int) : (callV r o gen slot).1 = (mres m o' gen slot).2.1 ∧ RelR (callV r o gen slot).2 o (mres m o' gen slot).2.2 (mouts m o' (mres m o' gen slot).1) ∧
    ((mres m o' gen slot).1 = true → (mres m o' gen slot).2.2.i0 = 0 ∧ (mres m o' gen slot).2.2.n = m.n - 1) ∧ ((mres m o' gen slot).1 = false → (mres m o' gen slot).2.2.i0 = m.i0 ∧ (mres m o' gen slot).2.2.n = m.n ∧ (mres m o' gen slot).2.1 ≠ 10) := by
  unfold callV
  by_cases c1 : slot < 0
  · have e : mres m o' gen slot = (false, 1, m) := by unfold mres mc; rw [decide_eq_true c1]; rfl
    rw [e, show (slot == 0) = false by simp; omega, show (slot == 1) = false by simp; omega]
    exact ⟨rfl, h, fun h => (by cases h), fun _ => ⟨rfl, rfl, by simp⟩⟩
  by_cases c2 : slot > 1
  · have e : mres m o' gen slot = (false, 1, m) := by unfold mres mc; rw [decide_eq_false c1, decide_eq_true c2]; rfl
    rw [e, show (slot == 0) = false by simp; omega, show (slot == 1) = false by simp; omega]
    exact ⟨rfl, h, fun h => (by cases h), fun _ => ⟨rfl, rfl, by simp⟩⟩
  have hs : (slot == 0 || slot == 1) = true := by
    simp only [Bool.or_eq_true, beq_iff_eq]; omega
  rw [hs]
  by_cases c3 : gen < 1
  · have e : mres m o' gen slot = (false, 1, m) := by unfold mres mc; rw [decide_eq_false c1, decide_eq_false c2, decide_eq_true c3]; rfl
    rw [e, decide_eq_true c3]
    exact ⟨rfl, h, fun h => (by cases h), fun _ => ⟨rfl, rfl, by simp⟩⟩
  by_cases c4 : gen > 1048576
  · have e : mres m o' gen slot = (false, 1, m) := by unfold mres mc; rw [decide_eq_false c1, decide_eq_false c2, decide_eq_false c3, decide_eq_true c4]; rfl
    rw [e, decide_eq_false c3, decide_eq_true c4]
    exact ⟨rfl, h, fun h => (by cases h), fun _ => ⟨rfl, rfl, by simp⟩⟩
  rw [decide_eq_false c3, decide_eq_false c4]
  simp only [Bool.not_true, Bool.or_self, cond_false]
  obtain ⟨g1, g2⟩ := rel_spend h.fuse
  have hr : RelR (spend1 r) o (mspend1 m) o' := ⟨h.slot, h.gen, h.writes, h.n, h.out, g2⟩
  rw [g1]
  cases hb : (mspendV (mfu m)).1 with
  | false =>
    have e : mres m o' gen slot = (false, 2, mspend1 m) := by unfold mres mc; rw [decide_eq_false c1, decide_eq_false c2, decide_eq_false c3, decide_eq_false c4, hb]; rfl
    rw [e]
    exact ⟨rfl, hr, fun h => (by cases h), fun _ => ⟨rfl, rfl, by simp⟩⟩
  | true =>
    simp only [Bool.not_true, cond_false]
    by_cases hn : m.n = 0
    · have e0 : nextV (spend1 r) o = (0, spend1 r) := by
        unfold nextV
        have : ((spend1 r).n : Int) == 0 := by
          have : (spend1 r).n = 0 := by rw [hr.n]; exact hn
          simp [this]
        rw [this]; rfl
      rw [e0]
      have e : mres m o' gen slot = (false, mset (mspend1 m) gen slot) := by
        have hm : mset (mspend1 m) gen slot = bif decide (gen > m.gen) then (0, ⟨slot, gen, IntKind.i64.wrap (m.writes + 1), m.i0, m.n, (mspend1 m).armed, (mspend1 m).left, (mspend1 m).blown, (mspend1 m).count⟩) else bif decide (gen < m.gen) then (11, mspend1 m) else bif slot != m.slot then (11, mspend1 m) else (0, mspend1 m) := rfl
        unfold mres mc
        rw [decide_eq_false c1, decide_eq_false c2, decide_eq_false c3, decide_eq_false c4, hb, decide_eq_false (show ¬ ((m.n : Int) > 0) by omega), hm]
        cases decide (gen > m.gen) <;> cases decide (gen < m.gen) <;> cases slot != m.slot <;> rfl
      rw [e]
      obtain ⟨k1, k2⟩ := rel_set hr gen slot
      have k3 := mset_keeps (mspend1 m) gen slot
      refine ⟨k1, k2, fun h => (by cases h), fun _ => ⟨k3.1, k3.2, ?_⟩⟩
      unfold mset
      cases decide (gen > (mspend1 m).gen) <;> cases decide (gen < (mspend1 m).gen) <;> cases slot != (mspend1 m).slot <;> simp
    · have hn' : r.n ≠ 0 := by rw [h.n]; exact hn
      have e0 : nextV (spend1 r) o = (o' m.i0, ⟨(spend1 r).slot, (spend1 r).gen, (spend1 r).writes, r.i0 + 1, r.n - 1, (spend1 r).left, (spend1 r).blown, (spend1 r).count⟩) := by
        unfold nextV
        have : ((spend1 r).n : Int) == 0 ↔ False := by
          have e : (spend1 r).n = r.n := rfl
          simp [e, hn']
        rw [show (((spend1 r).n : Int) == 0) = false by simpa using this]
        simp only [cond_false, addI_eq]
        have : o (r.i0 + 0) = o' (m.i0 + 0) := h.out 0 (by omega)
        rw [show (spend1 r).i0 + 0 = r.i0 + 0 from rfl, this]
        rfl
      have e : mres m o' gen slot = (true, (mpop (mspend1 m) (o' m.i0) gen slot).1, mcut (mpop (mspend1 m) (o' m.i0) gen slot).2) := by
        unfold mres mc
        rw [decide_eq_false c1, decide_eq_false c2, decide_eq_false c3, decide_eq_false c4, hb, decide_eq_true (show ((m.n : Int) > 0) by omega), addI_eq]
        rfl
      rw [e, e0]
      have k3 := mpop_keeps (mspend1 m) (o' m.i0) gen slot
      have hcut : ∀ (r2 : Rou) (m2 : Rm), RelR r2 o m2 o' → r2.i0 = r.i0 → m2.i0 = m.i0 → m2.n = m.n → RelR ⟨r2.slot, r2.gen, r2.writes, r.i0 + 1, r.n - 1, r2.left, r2.blown, r2.count⟩ o (mcut m2) (mouts m o' true) := by
        intro r2 m2 hh h1 h2 h3
        refine ⟨hh.slot, hh.gen, hh.writes, ?_, ?_, hh.fuse⟩
        · show r.n - 1 = m2.n - 1
          rw [h3, h.n]
        · intro j hj
          simp only at hj
          show o (r.i0 + 1 + j) = (fun j => o' (m.i0 + 1 + j)) (0 + j)
          have := h.out (1 + j) (by omega)
          simp only [← Nat.add_assoc] at this
          simpa using this
      have hset : ∀ r3 : Rou, r3 = ⟨(spend1 r).slot, (spend1 r).gen, (spend1 r).writes, r.i0 + 1, r.n - 1, (spend1 r).left, (spend1 r).blown, (spend1 r).count⟩ → setV r3 o ⟨slot, gen⟩ = ((setV (spend1 r) o ⟨slot, gen⟩).1, ⟨(setV (spend1 r) o ⟨slot, gen⟩).2.slot, (setV (spend1 r) o ⟨slot, gen⟩).2.gen, (setV (spend1 r) o ⟨slot, gen⟩).2.writes, r.i0 + 1, r.n - 1, (setV (spend1 r) o ⟨slot, gen⟩).2.left, (setV (spend1 r) o ⟨slot, gen⟩).2.blown, (setV (spend1 r) o ⟨slot, gen⟩).2.count⟩) := by
        rintro r3 rfl
        unfold setV
        simp only
        cases decide (gen > (spend1 r).gen) <;> cases (slot == (spend1 r).slot && gen == (spend1 r).gen) <;> rfl
      obtain ⟨k1, k2⟩ := rel_set hr gen slot
      have k4 := mset_keeps (mspend1 m) gen slot
      have k5 : (setV (spend1 r) o ⟨slot, gen⟩).2.i0 = r.i0 := by
        unfold setV
        cases decide ((⟨slot, gen⟩ : Cell).gen > (spend1 r).gen) <;> cases ((⟨slot, gen⟩ : Cell).slot == (spend1 r).slot && (⟨slot, gen⟩ : Cell).gen == (spend1 r).gen) <;> rfl
      refine ⟨?_, ?_, fun _ => ⟨rfl, ?_⟩, fun h => by cases h⟩
      · simp only
        rw [hset _ rfl]
        unfold mpop
        cases o' m.i0 == 2 <;> simp only [cond_true, cond_false]
        cases o' m.i0 == 1 <;> simp only [cond_true, cond_false]
        exact k1
      · simp only
        rw [hset _ rfl]
        unfold mpop
        cases o' m.i0 == 2 <;> simp only [cond_true, cond_false]
        · cases o' m.i0 == 1 <;> simp only [cond_true, cond_false]
          · exact hcut _ _ k2 k5 k4.1 k4.2
          · exact hcut _ _ k2 k5 k4.1 k4.2
        · exact hcut (spend1 r) (mspend1 m) hr rfl rfl rfl
      · show (mpop (mspend1 m) (o' m.i0) gen slot).2.n - 1 = m.n - 1
        rw [k3.2]
        rfl
end Go.Proofs.Ytpebebhjmnmcbaa.Rt

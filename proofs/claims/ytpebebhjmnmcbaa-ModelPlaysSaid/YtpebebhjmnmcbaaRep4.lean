/- Copies of a slot's replicas; answers that are fixed; both sides go together. No condition. -/
import Derived.Test.YtpebebhjmnmcbaaRep3
set_option maxRecDepth 100000
set_option linter.unusedSimpArgs false
set_option linter.unusedVariables false
namespace Go.Proofs.Ytpebebhjmnmcbaa.Rep
open Go Go.Proofs.Ytpebebhjmnmcbaa.Sx
/-! ### Both sides -/
/-- A slot's replicas and the reference's list. -/
structure RelS (s : Sl) (n : Nat) (g : Nat → List CV) : Prop where
  inv : Inv s
  want : s.want = (n : Int)
  get : ∀ j, j < n → g j = encB1 (s.f j)
theorem RelS.le {s : Sl} {n : Nat} {g : Nat → List CV} (h : RelS s n g) : n ≤ 32 := by
  have := h.inv.high
  have := h.want
  omega
theorem RelS.fix {s : Sl} {n : Nat} {g : Nat → List CV} (h : RelS s n g) : fixB n g = fun j => encB1 (decide (j < n) && s.f j) := by
  rw [fixB_good fun j hj => ⟨_, h.get j hj⟩]
  funext j
  by_cases hj : j < n
  · rw [h.get j hj]; rfl
  · rw [decide_eq_false hj]; rfl
theorem RelS.chk {s : Sl} {n : Nat} {g : Nat → List CV} (h : RelS s n g) : chkL n n (fixB n g) = true := by
  rw [h.fix]
  have := h.le
  exact chkL_true (by omega)
theorem RelS.again {s : Sl} {n : Nat} {g : Nat → List CV} (h : RelS s n g) : RelS s n (fixB n g) := by
  refine ⟨h.inv, h.want, fun j hj => ?_⟩
  rw [h.fix]
  show encB1 (decide (j < n) && s.f j) = _
  rw [decide_eq_true hj]
  rfl
theorem cnt_stop {f : Nat → Bool} : ∀ (m k i : Nat) (c : Int), (∀ j, k ≤ j → j < m → f (i + j) = false) → k ≤ m → cntN f m i c = cntN f k i c
  | 0, k, i, c, _, hk => by
    have : k = 0 := by omega
    subst this; rfl
  | m + 1, 0, i, c, h, _ => by
    show cntN f m (i + 1) (bif f i then c + 1 else c) = c
    have h0 : f i = false := h 0 (by omega) (by omega)
    rw [h0]
    exact cnt_stop m 0 (i + 1) c (fun j h1 h2 => by
      have := h (j + 1) (by omega) (by omega)
      rwa [show i + (j + 1) = i + 1 + j by omega] at this) (by omega)
  | m + 1, k + 1, i, c, h, hk => by
    unfold cntN
    exact cnt_stop m k (i + 1) _ (fun j h1 h2 => by
      have := h (j + 1) (by omega) (by omega)
      rwa [show i + (j + 1) = i + 1 + j by omega] at this) (by omega)
theorem RelS.cnt {s : Sl} {n : Nat} {g : Nat → List CV} (h : RelS s n g) : rcnt n (fixB n g) = scount s := by
  unfold rcnt scount
  have hle := h.le
  have hw := h.want
  rw [h.fix]
  rw [cnt_congr (g := s.f) n 0 0 (fun j hj => by
    rw [Nat.zero_add]
    show (decide (j < n) && s.f j) = s.f j
    rw [decide_eq_true hj]; rfl)]
  rw [cnt_stop (f := s.f) 32 n 0 0 (fun j h1 h2 => by
    rw [Nat.zero_add]
    exact h.inv.off j h2 (by omega)) hle]
theorem RelS.scale {s : Sl} {n : Nat} {g : Nat → List CV} (h : RelS s n g) (k : Int) : RelS (sscale s k) (capN k).toNat (fun j => encB1 (cutL (fun j => decB1 (fixB n g j)) n (capN k).toNat j)) := by
  obtain ⟨h1, h2⟩ := capN_b k
  refine ⟨inv_scale h.inv, by show capN k = _; omega, fun j hj => ?_⟩
  have hle := h.le
  have hw := h.want
  rw [h.fix]
  unfold sscale
  rw [mkS_f _ _ j (by omega)]
  show encB1 (cutL (fun j => decide (j < n) && s.f j) n (capN k).toNat j) = encB1 (cutF (capN k) s.f j)
  unfold cutL cutF
  rw [decide_eq_true hj, decide_eq_false (show ¬ capN k ≤ (j : Int) by omega)]
  simp only [Bool.true_and, cond_false]
  by_cases hn : j < n
  · rw [decide_eq_true hn]; rfl
  · rw [decide_eq_false hn, h.inv.off j (by omega) (by omega)]; rfl
theorem RelS.ready {s : Sl} {n : Nat} {g : Nat → List CV} (h : RelS s n g) {k : Int} (h1 : 0 ≤ k) (h2 : k < (n : Int)) (b : Bool) : sreadyB s k = true ∧ RelS (sreadyS s k b) n (fun j => encB1 (bif Nat.beq j k.toNat then b else decB1 (fixB n g j))) := by
  have hle := h.le
  have hw := h.want
  have e : sreadyB s k = true := by
    unfold sreadyB
    rw [decide_eq_false (show ¬ k < 0 by omega), decide_eq_false (show ¬ k ≥ s.want by omega)]; rfl
  refine ⟨e, inv_ready h.inv, ?_, fun j hj => ?_⟩
  · unfold sreadyS
    rw [e]
    exact hw
  · unfold sreadyS
    rw [e, cond_true, mkS_f _ _ j (by omega), h.fix]
    congr 1
    show _ = (bif k == (j : Int) then b else s.f j)
    by_cases hj2 : j = k.toNat
    · rw [show Nat.beq j k.toNat = true by rw [hj2]; simp, show (k == (j : Int)) = true by simp; omega]
      rfl
    · rw [show (k == (j : Int)) = false by simp; omega, show Nat.beq j k.toNat = false from by cases hb : Nat.beq j k.toNat with
        | false => rfl
        | true => exact absurd (Nat.eq_of_beq_eq_true hb) hj2]
      show (decide (j < n) && s.f j) = s.f j
      rw [decide_eq_true hj]; rfl
theorem RelS.unready {s : Sl} {n : Nat} {g : Nat → List CV} (h : RelS s n g) {k : Int} (h1 : k < 0 ∨ (n : Int) ≤ k) (b : Bool) : sreadyB s k = false ∧ sreadyS s k b = s := by
  have hw := h.want
  have e : sreadyB s k = false := by
    unfold sreadyB
    by_cases h2 : k < 0
    · rw [decide_eq_true h2]; rfl
    · rw [decide_eq_false h2, decide_eq_true (show k ≥ s.want by omega)]; rfl
  refine ⟨e, ?_⟩
  unfold sreadyS
  rw [e]; rfl
theorem relS_new : RelS z0 0 nilG := ⟨inv_z0, rfl, fun j hj => absurd hj (Nat.not_lt_zero j)⟩
end Go.Proofs.Ytpebebhjmnmcbaa.Rep

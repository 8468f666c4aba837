/- Laws of a fleet: what they need in common. No condition. -/
import Derived.Test.YtpebebhjmnmcbaaFill
set_option maxRecDepth 100000
set_option linter.unusedSimpArgs false
set_option linter.unusedVariables false
namespace Go.Proofs.Ytpebebhjmnmcbaa.Rep
open Go Go.Proofs.Ytpebebhjmnmcbaa.Sx
structure Ac where
  kind : Int
  slot : Int
  n : Int
  on : Bool
  w0 : Int
  w1 : Int
  deriving Inhabited
def encAc (s : Ac) : List CV := [.int .i64 s.kind, .int .i64 s.slot, .int .i64 s.n, .bool s.on, .int .i64 s.w0, .int .i64 s.w1]
def decAc : List CV → Option Ac
  | [.int .i64 a0, .int .i64 a1, .int .i64 a2, .bool a3, .int .i64 a4, .int .i64 a5] => some ⟨a0, a1, a2, a3, a4, a5⟩
  | _ => none
def decAcD : List CV → Ac
  | [.int .i64 a0, .int .i64 a1, .int .i64 a2, .bool a3, .int .i64 a4, .int .i64 a5] => ⟨a0, a1, a2, a3, a4, a5⟩
  | _ => default
theorem decAc_spec (l : List CV) (s : Ac) (h : decAc l = some s) : l = encAc s := by
  unfold decAc at h; split at h <;> cases h; rfl
theorem encAc_ren (s : Ac) (π) : (encAc s).map (CV.ren π) = encAc s := rfl
theorem backAc (s : Ac) : decAcD (encAc s) = s := rfl
structure wfAc (s : Ac) : Prop where
  kind : (Lit.int .i64 s.kind).wf = true
  slot : (Lit.int .i64 s.slot).wf = true
  n : (Lit.int .i64 s.n).wf = true
  w0 : (Lit.int .i64 s.w0).wf = true
  w1 : (Lit.int .i64 s.w1).wf = true
theorem opAc (cvs : List CV) (vs : List Value) (h : LeafRs [.int .i64, .int .i64, .int .i64, .bool, .int .i64, .int .i64] cvs vs) : ∃ x, cvs = encAc x ∧ wfAc x := by
  obtain ⟨_, _, _, _, rfl, rfl, ⟨a0, rfl, rfl, w0⟩, h0⟩ := h.cons_inv
  obtain ⟨_, _, _, _, rfl, rfl, ⟨a1, rfl, rfl, w1⟩, h1⟩ := h0.cons_inv
  obtain ⟨_, _, _, _, rfl, rfl, ⟨a2, rfl, rfl, w2⟩, h2⟩ := h1.cons_inv
  obtain ⟨_, _, _, _, rfl, rfl, ⟨a3, rfl, rfl⟩, h3⟩ := h2.cons_inv
  obtain ⟨_, _, _, _, rfl, rfl, ⟨a4, rfl, rfl, w4⟩, h4⟩ := h3.cons_inv
  obtain ⟨_, _, _, _, rfl, rfl, ⟨a5, rfl, rfl, w5⟩, h5⟩ := h4.cons_inv
  obtain ⟨rfl, rfl⟩ := h5.nil_inv
  exact ⟨⟨a0, a1, a2, a3, a4, a5⟩, rfl, ⟨w0, w1, w2, w4, w5⟩⟩
/-- The wanted ones are some of 32; the others aren't ready. -/
structure Inv (s : Sl) : Prop where
  low : 0 ≤ s.want
  high : s.want ≤ 32
  off : ∀ j : Nat, j < 32 → s.want ≤ j → s.f j = false
theorem cnt_le {f : Nat → Bool} {w : Int} : ∀ (k i : Nat) (n : Int), (∀ j, j < k → w ≤ ((i + j : Nat) : Int) → f (i + j) = false) → n ≤ cntN f k i n ∧ cntN f k i n ≤ n + k ∧ cntN f k i n ≤ n + max (w - i) 0
  | 0, i, n, _ => by unfold cntN; omega
  | k + 1, i, n, h => by
    unfold cntN
    have ih := cnt_le (f := f) (w := w) k (i + 1) (bif f i then n + 1 else n) fun j hj hw => by
      have := h (j + 1) (by omega)
      rw [show i + (j + 1) = i + 1 + j by omega] at this
      exact this hw
    have h0 := h 0 (by omega)
    cases hf : f i with
    | true =>
      rw [hf] at ih
      simp only [cond_true] at ih ⊢
      have : ¬ w ≤ (i : Int) := fun hw => by
        have := h0 (by simpa using hw)
        simp [hf] at this
      omega
    | false =>
      rw [hf] at ih
      simp only [cond_false] at ih ⊢
      omega
theorem count_le {s : Sl} (h : Inv s) : 0 ≤ scount s ∧ scount s ≤ s.want := by
  have := cnt_le (f := s.f) (w := s.want) 32 0 0 fun j hj hw => by
    rw [Nat.zero_add] at hw ⊢
    exact h.off j hj hw
  have := h.low
  unfold scount
  omega
theorem inv_z0 : Inv z0 := ⟨by decide, by decide, fun j hj _ => mkS_f 0 _ j hj⟩
theorem inv_scale {s : Sl} {n : Int} (h : Inv s) : Inv (sscale s n) := by
  obtain ⟨h1, h2⟩ := capN_b n
  refine ⟨h1, h2, fun j hj hw => ?_⟩
  unfold sscale at hw ⊢
  rw [mkS_f _ _ _ hj]
  unfold cutF
  rw [decide_eq_true hw]; rfl
theorem inv_ready {s : Sl} {i : Int} {b : Bool} (h : Inv s) : Inv (sreadyS s i b) := by
  unfold sreadyS
  cases hb : sreadyB s i with
  | false => exact h
  | true =>
    refine ⟨h.low, h.high, fun j hj hw => ?_⟩
    rw [cond_true] at hw ⊢
    rw [mkS_f _ _ _ hj]
    have hw : s.want ≤ (j : Int) := hw
    have : (i == (j : Int)) = false := by
      rw [beq_eq_false_iff_ne]
      intro he
      subst he
      unfold sreadyB at hb
      rw [decide_eq_true (show (j : Int) ≥ s.want from hw)] at hb
      cases h : decide ((j : Int) < 0) <;> rw [h] at hb <;> cases hb
    rw [this]
    exact h.off j hj hw
theorem inv_fillIt : ∀ (k : Nat) (i : Int) (s : Sl), Inv s → Inv (fillIt k i s)
  | 0, _, _, h => h
  | k + 1, i, s, h => inv_fillIt k (i + 1) _ (inv_ready h)
theorem inv_fill {s : Sl} (h : Inv s) : Inv (ffill s) := inv_fillIt _ _ _ h
theorem inv_fready {x : Sl × Sl} {slot i : Int} {on : Bool} (h : Inv x.1 ∧ Inv x.2) : Inv (fready x slot i on).2.1 ∧ Inv (fready x slot i on).2.2 := by
  unfold fready
  split
  · exact ⟨inv_ready h.1, h.2⟩
  · split
    · exact ⟨h.1, inv_ready h.2⟩
    · exact h
end Go.Proofs.Ytpebebhjmnmcbaa.Rep

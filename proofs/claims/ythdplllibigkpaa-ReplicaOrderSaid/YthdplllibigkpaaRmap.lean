/- A set of the ready ones, kept in a map. No condition. -/
import Derived.Test.YthdplllibigkpaaRep4
set_option maxRecDepth 100000
set_option linter.unusedSimpArgs false
set_option linter.unusedVariables false
namespace Go.Proofs.Ythdplllibigkpaa.Rep
open Go Go.Proofs.Ythdplllibigkpaa.Sx
@[reducible] def encI (x : Int) : List CV := [.int .i64 x]
def decI : List CV → Int
  | [.int .i64 x] => x
  | _ => 0
theorem backI (x : Int) : decI (encI x) = x := rfl
structure wfI (x : Int) : Prop where
  x : (Lit.int .i64 x).wf = true
theorem opI (cvs : List CV) (vs : List Value) (h : LeafRs [.int .i64] cvs vs) : ∃ x, cvs = encI x ∧ wfI x := by
  obtain ⟨_, _, _, _, rfl, rfl, ⟨a, rfl, rfl, w⟩, h0⟩ := h.cons_inv
  obtain ⟨rfl, rfl⟩ := h0.nil_inv
  exact ⟨a, rfl, ⟨w⟩⟩
def one (b : Bool) : Int := bif b then 1 else 0
theorem cnt_shift (f : Nat → Bool) : ∀ (m i : Nat) (c : Int), cntN f m i c = c + cntN f m i 0
  | 0, _, c => by simp [cntN]
  | m + 1, i, c => by
    unfold cntN
    rw [cnt_shift f m (i + 1) (bif f i then c + 1 else c), cnt_shift f m (i + 1) (bif f i then 0 + 1 else 0)]
    cases f i <;> simp only [cond_true, cond_false] <;> omega
theorem cnt_succ (f : Nat → Bool) (m i : Nat) : cntN f (m + 1) i 0 = one (f i) + cntN f m (i + 1) 0 := by
  show cntN f m (i + 1) (bif f i then 0 + 1 else 0) = _
  rw [cnt_shift]
  unfold one
  cases f i <;> simp
theorem cnt_upd {f g : Nat → Bool} {k : Nat} (h : ∀ j, j ≠ k → g j = f j) : ∀ (m i : Nat), i ≤ k → k < i + m → cntN g m i 0 + one (f k) = cntN f m i 0 + one (g k)
  | 0, i, h1, h2 => by omega
  | m + 1, i, h1, h2 => by
    rw [cnt_succ, cnt_succ]
    by_cases hk : k = i
    · subst hk
      have : cntN g m (k + 1) 0 = cntN f m (k + 1) 0 := cnt_congr m (k + 1) 0 fun j _ => h _ (by omega)
      omega
    · have := cnt_upd h m (i + 1) (by omega) (by omega)
      rw [h i (by omega)]
      omega
theorem readyB_iff {s : Sl} {j : Int} : sreadyB s j = true ↔ 0 ≤ j ∧ j < s.want := by
  unfold sreadyB
  by_cases h1 : j < 0
  · rw [decide_eq_true h1]; simp; omega
  · rw [decide_eq_false h1]
    by_cases h2 : j ≥ s.want
    · rw [decide_eq_true h2]; simp; omega
    · rw [decide_eq_false h2]; simp; omega
theorem readyS_want (s : Sl) (k : Int) (b : Bool) : (sreadyS s k b).want = s.want := by
  unfold sreadyS
  cases sreadyB s k <;> rfl
theorem readyS_f {s : Sl} {k : Int} {b : Bool} (h : sreadyB s k = true) (j : Nat) (hj : j < 32) : (sreadyS s k b).f j = bif k == (j : Int) then b else s.f j := by
  unfold sreadyS
  rw [h, cond_true, mkS_f _ _ j hj]
theorem count_ready {s : Sl} (hi : Inv s) {k : Int} (h : sreadyB s k = true) (b : Bool) : scount (sreadyS s k b) + one (s.f k.toNat) = scount s + one b := by
  obtain ⟨h1, h2⟩ := readyB_iff.1 h
  have h3 := hi.high
  have e : scount (sreadyS s k b) = cntN (fun j => bif k == (j : Int) then b else s.f j) 32 0 0 := by
    unfold scount
    refine cnt_congr 32 0 0 fun j hj => ?_
    rw [Nat.zero_add]
    exact readyS_f h j hj
  rw [e]
  have hk : (bif k == ((k.toNat : Nat) : Int) then b else s.f k.toNat) = b := by
    rw [show (k == ((k.toNat : Nat) : Int)) = true by simp; omega]; rfl
  have := cnt_upd (f := s.f) (g := fun j => bif k == (j : Int) then b else s.f j) (k := k.toNat) (fun j hj => by
    show (bif k == (j : Int) then b else s.f j) = s.f j
    rw [show (k == (j : Int)) = false by simp; omega]; rfl) 32 0 (by omega) (by omega)
  rw [hk] at this
  exact this
theorem getM_put (n j : Int) (x : Bool) : ∀ es : List (Int × Bool), getM j (putM' n x es) = bif j == n then some x else getM j es
  | [] => by
    show (bif j == n then some x else none) = _
    rfl
  | (k, v) :: r => by
    unfold putM'
    cases hk : n == k with
    | true =>
      have hk : n = k := by simpa using hk
      subst hk
      show (bif j == n then some x else getM j r) = (bif j == n then some x else bif j == n then some v else getM j r)
      cases j == n <;> rfl
    | false =>
      show (bif j == k then some v else getM j (putM' n x r)) = (bif j == n then some x else bif j == k then some v else getM j r)
      rw [getM_put n j x r]
      have hk : n ≠ k := by simpa using hk
      cases h1 : j == k with
      | false => rfl
      | true =>
        have h1 : j = k := by simpa using h1
        subst h1
        rw [show (j == n) = false by simp; omega]
        rfl
/-- The map holds just the ready ones. -/
structure MI (s : Sl) (es : List (Int × Bool)) : Prop where
  inv : Inv s
  get : ∀ j, getM j es = bif sreadyB s j && s.f j.toNat then some true else none
  len : (es.length : Int) = scount s
theorem scale_f {s : Sl} {n : Int} (j : Nat) (hj : j < 32) : (sscale s n).f j = bif decide (capN n ≤ (j : Int)) then false else s.f j := by
  unfold sscale
  rw [mkS_f _ _ j hj]; rfl
theorem count_zero {s : Sl} (h : ∀ j, j < 32 → s.f j = false) : scount s = 0 := by
  unfold scount
  rw [cnt_stop (f := s.f) 32 0 0 0 (fun j _ h2 => by rw [Nat.zero_add]; exact h j h2) (by omega)]
  rfl
theorem new_f (n : Int) (j : Nat) (hj : j < 32) : (sscale z0 n).f j = false := by
  rw [scale_f j hj]
  have : z0.f j = false := mkS_f 0 _ j hj
  rw [this]
  cases decide (capN n ≤ (j : Int)) <;> rfl
theorem mi_new (n : Int) : MI (sscale z0 n) [] := by
  refine ⟨inv_scale inv_z0, fun j => ?_, ?_⟩
  · cases h : sreadyB (sscale z0 n) j with
    | false => rfl
    | true =>
      obtain ⟨h1, h2⟩ := readyB_iff.1 h
      have h3 := (capN_b n).2
      have h2 : j < capN n := h2
      rw [new_f n j.toNat (by omega)]
      rfl
  · rw [count_zero fun j hj => new_f n j hj]; rfl
def stepM (x : Sl × List (Int × Bool)) (j : Int) : Sl × List (Int × Bool) := (sreadyS x.1 j true, bif sreadyB x.1 j then putM' j true x.2 else x.2)
theorem mi_step {x : Sl × List (Int × Bool)} (h : MI x.1 x.2) (k : Int) : MI (stepM x k).1 (stepM x k).2 := by
  obtain ⟨s, es⟩ := x
  unfold stepM
  simp only at h ⊢
  cases hb : sreadyB s k with
  | false =>
    have : sreadyS s k true = s := by unfold sreadyS; rw [hb]; rfl
    rw [this]
    exact h
  | true =>
    obtain ⟨h1, h2⟩ := readyB_iff.1 hb
    have h3 := h.inv.high
    simp only [cond_true]
    have hc := count_ready h.inv hb true
    refine ⟨inv_ready h.inv, fun j => ?_, ?_⟩
    · rw [getM_put]
      have e : sreadyB (sreadyS s k true) j = sreadyB s j := by
        unfold sreadyB
        rw [readyS_want]
      rw [e]
      by_cases hj : j = k
      · subst hj
        rw [hb, readyS_f hb j.toNat (by omega), show (j == ((j.toNat : Nat) : Int)) = true by simp; omega, show (j == j) = true by simp]
        rfl
      · rw [show (j == k) = false by simpa using hj, cond_false, h.get j]
        cases hb2 : sreadyB s j with
        | false => rfl
        | true =>
          obtain ⟨g1, g2⟩ := readyB_iff.1 hb2
          rw [readyS_f hb j.toNat (by omega), show (k == ((j.toNat : Nat) : Int)) = false by simp; omega]
          rfl
    · have hg := h.get k
      rw [hb] at hg
      have hl := h.len
      cases hf : s.f k.toNat with
      | true =>
        rw [hf] at hg hc
        simp only [Bool.and_self, cond_true] at hg
        rw [putM'_length hg]
        unfold one at hc
        simp only [cond_true] at hc
        omega
      | false =>
        rw [hf] at hg hc
        simp only [Bool.and_false, cond_false] at hg
        rw [putM'_none hg]
        unfold one at hc
        simp only [cond_true, cond_false] at hc
        simp only [List.length_append, List.length_singleton]
        omega
def itM (f : Nat → Int) : Nat → Nat → Sl × List (Int × Bool) → Sl × List (Int × Bool)
  | 0, _, x => x
  | k + 1, i, x => itM f k (i + 1) (stepM x (f i))
theorem mi_it (f : Nat → Int) : ∀ (k i : Nat) (x : Sl × List (Int × Bool)), MI x.1 x.2 → MI (itM f k i x).1 (itM f k i x).2 ∧ (itM f k i x).1.want = x.1.want
  | 0, _, _, h => ⟨h, rfl⟩
  | k + 1, i, x, h => by
    obtain ⟨h1, h2⟩ := mi_it f k (i + 1) (stepM x (f i)) (mi_step h (f i))
    exact ⟨h1, h2.trans (readyS_want ..)⟩
theorem full_iff {s : Sl} : sfull s = (decide (s.want > 0) && scount s == s.want) := rfl
end Go.Proofs.Ythdplllibigkpaa.Rep

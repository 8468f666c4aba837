/- The reference's disk: Crash, the second loop. No condition. -/
import Derived.Test.YtkkacjmjjhjpeaaDkr5
set_option maxRecDepth 100000
set_option linter.unusedSimpArgs false
set_option linter.unusedVariables false
namespace Go.Proofs.Ytkkacjmjjhjpeaa.Dk
open Go Go.Proofs.Ytkkacjmjjhjpeaa.Sx
@[reducible] noncomputable def cutM (z torn : Int) : Int := clampV torn 0 z
@[reducible] noncomputable def ix (i : Int) : Nat := addI 0 i.toNat
@[reducible] noncomputable def tb (z : Int) (L : Nat → ByteArray) (Wi : Nat → Int) (Wt : Nat → ByteArray) (torn : Int) (x : Nat) : ByteArray := (Wt x).extract 0 (cutM z torn).toNat ++ (L (addI 0 (Wi x).toNat)).extract (cutM z torn).toNat ((L (addI 0 (Wi x).toNat)).size : Int).toNat
@[reducible] noncomputable def setOK (n : Nat) (L : Nat → ByteArray) (w : Int) : Bool := Nat.beq n n && ((chkRo encS decS fun j => encS (L j)) && (decide (n ≤ 4294967296) && (decide (0 ≤ w) && decide (w < (n : Int)))))
@[reducible] def fin2 (hp : List SB) (nn : Nat) : St := ⟨[(0, .s (.c (.ptr 0 0)))], hp.map some, nn, 120⟩
@[reducible] noncomputable def tk {R : Type} (z : Int) (n : Nat) (L Nw : Nat → ByteArray) (k : Nat) (Wi : Nat → Int) (Wt : Nat → ByteArray) (f : RF) (keep torn last kk i : Int) (K : Ex → St → Option R) : Option R :=
  chain [decide (0 ≤ i) && decide (i < (k : Int)), decide (ix i < k)] (bif i == last then
    chain [true && decide (0 ≤ cutM z torn) && decide (cutM z torn ≤ ((Wt (ix i)).size : Int)), decide (0 ≤ i) && decide (i < (k : Int)), decide (ix i < k), decide (0 ≤ Wi (ix i)) && decide (Wi (ix i) < (n : Int)), decide (addI 0 (Wi (ix i)).toNat < n),
      decide (0 ≤ cutM z torn) && decide (cutM z torn ≤ ((L (addI 0 (Wi (ix i)).toNat)).size : Int)) && decide (((L (addI 0 (Wi (ix i)).toNat)).size : Int) ≤ ((L (addI 0 (Wi (ix i)).toNat)).size : Int)),
      decide (((Wt (ix i)).extract 0 (cutM z torn).toNat).size + ((L (addI 0 (Wi (ix i)).toNat)).extract (cutM z torn).toNat ((L (addI 0 (Wi (ix i)).toNat)).size : Int).toNat).size ≤ 9223372036854775807),
      decide (0 ≤ i) && decide (i < (k : Int)), decide (ix i < k), setOK n L (Wi (ix i))] (K .normal (encX0 9 (hpA ⟨z, n, setS L (Wi (ix i)).toNat (tb z L Wi Wt torn (ix i)), Nw, k, Wi, Wt, f, false⟩) 6 keep torn last (hw kk) (IntKind.i64.wrap (i + 1))))
    else chain [decide (0 ≤ i) && decide (i < (k : Int)), decide (ix i < k), setOK n L (Wi (ix i))] (K .normal (encX0 9 (hpA ⟨z, n, setS L (Wi (ix i)).toNat (Wt (ix i)), Nw, k, Wi, Wt, f, false⟩) 6 keep torn last (hw kk) (IntKind.i64.wrap (i + 1)))))
@[reducible] noncomputable def r2T {R : Type} (hp : List SB) (nn : Nat) (z : Int) (n : Nat) (L Nw : Nat → ByteArray) (k : Nat) (Wi : Nat → Int) (Wt : Nat → ByteArray) (f : RF) (keep torn last kk i : Int) (K : Ex → St → Option R) : Option R :=
  bif decide (i < (k : Int)) then bif i.tmod 64 == 0 then (bif keep.tmod 2 == 1 then tk z n L Nw k Wi Wt f keep torn last keep i K else K .normal (encX0 9 hp nn keep torn last (hw keep) (IntKind.i64.wrap (i + 1)))) else
    (bif kk.tmod 2 == 1 then tk z n L Nw k Wi Wt f keep torn last kk i K else K .normal (encX0 9 hp nn keep torn last (hw kk) (IntKind.i64.wrap (i + 1))))
  else K (.exit 2) (fin2 hp nn)
theorem round2A {R : Type} (z : Int) (n : Nat) (L Nw : Nat → ByteArray) (k : Nat) (Wi : Nat → Int) (Wt : Nat → ByteArray) (f : RF) (keep torn last kk i : Int) (K : Ex → St → Option R) : roundK Try.prog SM [] 10 2 (resMask Try.f24.results.toList) (lpAt Try.f24 1) (encX0 9 (hpA ⟨z, n, L, Nw, k, Wi, Wt, f, false⟩) 6 keep torn last kk i) K =
    r2T (hpA ⟨z, n, L, Nw, k, Wi, Wt, f, false⟩) 6 z n L Nw k Wi Wt f keep torn last kk i K := by kernel_rfl
theorem round2H {R : Type} (z : Int) (n : Nat) (L Nw : Nat → ByteArray) (k : Nat) (Wi : Nat → Int) (Wt : Nat → ByteArray) (f : RF) (keep torn last kk i : Int) (K : Ex → St → Option R) : roundK Try.prog SM [] 10 2 (resMask Try.f24.results.toList) (lpAt Try.f24 1) (encX0 9 (hpH ⟨z, n, L, Nw, k, Wi, Wt, f, true⟩) 5 keep torn last kk i) K =
    r2T (hpH ⟨z, n, L, Nw, k, Wi, Wt, f, true⟩) 5 z n L L k Wi Wt f keep torn last kk i K := by kernel_rfl
theorem round2 {R : Type} (m : M) (keep torn last kk i : Int) (K : Ex → St → Option R) : roundK Try.prog SM [] 10 2 (resMask Try.f24.results.toList) (lpAt Try.f24 1) (encX0 9 (hpR m) (nnM m) keep torn last kk i) K =
    r2T (hpR m) (nnM m) m.size m.n m.L (nowM m) m.k m.Wi m.Wt m.fu keep torn last kk i K := by
  obtain ⟨z, n, L, Nw, k, Wi, Wt, f, sh⟩ := m
  cases sh
  · exact round2A ..
  · exact round2H ..
structure GoodM (m : M) : Prop where
  size : 128 ≤ m.size ∧ m.size ≤ 1024
  n : 4 ≤ m.n ∧ m.n ≤ 1024
  L : ∀ j, j < m.n → ((m.L j).size : Int) = m.size
  W : ∀ j, j < m.k → (0 ≤ m.Wi j ∧ m.Wi j < m.n) ∧ ((m.Wt j).size : Int) = m.size
  k : m.k ≤ 4294967295
/-- What a round makes of the sector. -/
noncomputable def tbV (p : LX) : ByteArray := bif (p.i : Int) == p.last then (p.m.Wt p.i).extract 0 (cutM p.m.size p.torn).toNat ++ (p.m.L (p.m.Wi p.i).toNat).extract (cutM p.m.size p.torn).toNat (p.m.L (p.m.Wi p.i).toNat).size else p.m.Wt p.i
@[reducible] noncomputable def takeM (p : LX) : M := ⟨p.m.size, p.m.n, setS p.m.L (p.m.Wi p.i).toNat (tbV p), nowM p.m, p.m.k, p.m.Wi, p.m.Wt, p.m.fu, false⟩
noncomputable def nx2 (p : LX) : LX := ⟨bif bit p then takeM p else p.m, p.keep, p.torn, p.last, hw (kb p), p.i + 1⟩
theorem tb_size {z : Int} {x y : ByteArray} (torn : Int) (hz : 0 ≤ z) (hx : (x.size : Int) = z) (hy : (y.size : Int) = z) : ((x.extract 0 (cutM z torn).toNat ++ y.extract (cutM z torn).toNat y.size).size : Int) = z := by
  have := clamp_spec torn 0 z hz
  rw [ByteArray.size_append, ByteArray.size_extract, ByteArray.size_extract]
  omega
theorem GoodM.take {p : LX} (h : GoodM p.m) (hi : p.i < p.m.k) : GoodM (takeM p) := by
  have hw := h.W p.i hi
  refine ⟨h.size, h.n, fun j hj => ?_, h.W, h.k⟩
  show ((setS p.m.L (p.m.Wi p.i).toNat (tbV p) j).size : Int) = _
  by_cases he : j = (p.m.Wi p.i).toNat
  · subst he
    rw [setS_at]
    unfold tbV
    cases (p.i : Int) == p.last
    · exact hw.2
    · exact tb_size _ (by have := h.size; omega) hw.2 (h.L _ hj)
  · rw [setS_ne _ _ he]
    exact h.L j hj
theorem GoodM.nx2 {p : LX} (h : GoodM p.m) (hi : p.i < p.m.k) : GoodM (nx2 p).m := by
  unfold Dk.nx2
  cases bit p
  · exact h
  · exact h.take hi
noncomputable def ok2 (p : LX) : Bool := @decide (GoodM p.m ∧ p.i ≤ p.m.k) (Classical.propDecidable _)
theorem ok2_spec {p : LX} : ok2 p = true ↔ GoodM p.m ∧ p.i ≤ p.m.k := by unfold ok2; rw [@decide_eq_true_eq _ (Classical.propDecidable _)]
@[reducible] noncomputable def Lp2g : LoopSum := formSumC decX2 chkX normX (goSum ok2 (fun p => p.m.k - p.i) (fun _ => false) nx2 (.exit 9) (fun p => fin2 (hpR p.m) (nnM p.m)) (.exit 2) (fun p => fin2 (hpR p.m) (nnM p.m)))
theorem tk_eq {R : Type} {p : LX} (h : GoodM p.m) (hi : p.i < p.m.k) (kk : Int) (K : Ex → St → Option R) : tk p.m.size p.m.n p.m.L (nowM p.m) p.m.k p.m.Wi p.m.Wt p.m.fu p.keep p.torn p.last kk p.i K =
    K .normal (encX0 9 (hpA (takeM p)) 6 p.keep p.torn p.last (hw kk) ((p.i : Int) + 1)) := by
  have hw' := h.W p.i hi
  have hz := h.size
  have hn := h.n
  have hk := h.k
  have hc : 0 ≤ cutM p.m.size p.torn ∧ cutM p.m.size p.torn ≤ p.m.size := clamp_spec p.torn 0 p.m.size (by omega)
  have hL := h.L (p.m.Wi p.i).toNat (by omega)
  have e : ix (p.i : Int) = p.i := by unfold ix; rw [Int.toNat_natCast, ai0]
  have hS : setOK p.m.n p.m.L (p.m.Wi p.i) = true := and2 (Nat.beq_refl _) (and2 (chkRo_true (dec := decS) (enc := encS) (fun _ => rfl) _) (and2 (decide_eq_true (by omega)) (and2 (decide_eq_true hw'.1.1) (decide_eq_true hw'.1.2))))
  unfold tk
  rw [e, ai0, wi (x := (p.i : Int) + 1) (by omega)]
  have hii : (decide (0 ≤ (p.i : Int)) && decide ((p.i : Int) < (p.m.k : Int))) = true := and2 (decide_eq_true (by omega)) (decide_eq_true (by omega))
  have hix : decide (p.i < p.m.k) = true := decide_eq_true hi
  refine chain_step' hii (chain_step' hix ?_)
  unfold takeM tbV
  cases hl : (p.i : Int) == p.last
  · simp only [cond_false]
    exact chain_step' hii (chain_step' hix (chain_step' hS rfl))
  · simp only [cond_true]
    refine chain_step' (and2 (and2 rfl (decide_eq_true hc.1)) (decide_eq_true (by omega))) (chain_step' hii (chain_step' hix (chain_step' (and2 (decide_eq_true hw'.1.1) (decide_eq_true hw'.1.2)) (chain_step' (decide_eq_true (by omega)) (chain_step' (and2 (and2 (decide_eq_true hc.1) (decide_eq_true (by omega))) (decide_eq_true (Int.le_refl _))) (chain_step' (decide_eq_true (by rw [ByteArray.size_extract, ByteArray.size_extract]; omega)) (chain_step' hii (chain_step' hix (chain_step' hS ?_)))))))))
    unfold tb
    rw [ai0]
    rfl
theorem loop2 : LoopOk Try.prog SM [] 10 2 (resMask Try.f24.results.toList) (lpAt Try.f24 1) Lp2g := by
  refine LoopOk.go (enc := encX 9) decX2_spec (by simp) (by simp) ?_ ?_ ?_
  · intro R p K _ _ h; cases h
  · rintro R p c K h1 h2 _
    obtain ⟨g, hi⟩ := ok2_spec.1 h1
    have hlt : p.i < p.m.k := by omega
    have hk := g.k
    refine ⟨?_, ok2_spec.2 ⟨g.nx2 hlt, ?_⟩, ?_⟩
    · rw [round2]
      unfold r2T
      rw [decide_eq_true (show (p.i : Int) < p.m.k by omega), cond_true, tk_eq g hlt, tk_eq g hlt, wi (x := (p.i : Int) + 1) (by omega)]
      unfold Dk.nx2 bit kb
      cases h3 : (p.i : Int).tmod 64 == 0
      · simp only [cond_false]
        cases h4 : p.kk.tmod 2 == 1 <;> rfl
      · simp only [cond_true]
        cases h4 : p.keep.tmod 2 == 1 <;> rfl
    · unfold Dk.nx2
      cases bit p
      · exact hlt
      · exact hlt
    · unfold Dk.nx2
      cases bit p
      · show p.m.k - (p.i + 1) = c
        omega
      · show p.m.k - (p.i + 1) = c
        omega
  · rintro R p K h1 h2
    obtain ⟨g, hi⟩ := ok2_spec.1 h1
    rw [round2]
    unfold r2T
    rw [decide_eq_false (show ¬ (p.i : Int) < p.m.k by omega)]
    rfl
end Go.Proofs.Ytkkacjmjjhjpeaa.Dk

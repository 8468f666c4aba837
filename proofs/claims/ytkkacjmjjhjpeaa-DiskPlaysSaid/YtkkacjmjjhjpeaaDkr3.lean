/- The reference's disk: Write, New. No condition. -/
import Derived.Test.YtkkacjmjjhjpeaaDkr2
set_option maxRecDepth 100000
set_option linter.unusedSimpArgs false
set_option linter.unusedVariables false
namespace Go.Proofs.Ytkkacjmjjhjpeaa.Dk
open Go Go.Proofs.Ytkkacjmjjhjpeaa.Sx
@[reducible] def addM (m : M) (i : Int) (b : ByteArray) (f : RF) : M := ⟨m.size, m.n, m.L, setS (nowM m) i.toNat b, m.k + 1, pushG 0 m.Wi i m.k, pushG ByteArray.empty m.Wt b m.k, f, false⟩
noncomputable def V_mwrite : List SV → M → Cs
  | [.c (.ptr 0 0), .c (.int .i64 i), .c (.str b)], m => .br (decide (i < 0)) (oR (.s (i64 1)) m) (.br (decide (i ≥ (m.n : Int))) (oR (.s (i64 1)) m) (.br ((b.size : Int) != m.size) (oR (.s (i64 1)) m) (.br (!(mspendV m.fu).1) (oR (.s (i64 2)) (withF m (mspendV m.fu).2)) (.br (decide (m.n ≤ 4294967296) && decide (m.k + 1 ≤ 4294967296)) (oA (.s (i64 0)) (addM m i b (mspendV m.fu).2)) .no))))
  | _, _ => .no
@[reducible] def litI (x : Int) : Nat → List CV := litZ 1 [CV.int .i64 0] (setRange (repN 1 1 [CV.int .i64 0]) 0 (SV.c (CV.int .i64 x)).cells)
@[reducible] def litS (x : ByteArray) : Nat → List CV := litZ 1 [CV.str ⟨#[]⟩] (setRange (repN 1 1 [CV.str ⟨#[]⟩]) 0 (SV.c (CV.str x)).cells)
@[reducible] noncomputable def wrT {R : Type} (z : Int) (n : Nat) (L Nw : Nat → ByteArray) (k : Nat) (Wi : Nat → Int) (Wt : Nat → ByteArray) (f : RF) (i : Int) (b : ByteArray) (A1 A2 : Option R) (K : TV → List (Option SB) → Option R) : Option R :=
  bif decide (i < 0) then A1 else bif decide (i ≥ (n : Int)) then A1 else bif (b.size : Int) != z then A1 else bif !(mspendV f).1 then A2 else
    chain [Nat.beq n n && ((chkRo encS decS fun j => encS (Nw j)) && (decide (n ≤ 4294967296) && (decide (0 ≤ i) && decide (i < (n : Int))))), decide (addI 0 k ≤ k), decide (addI 0 k ≤ 4294967296), decide (addI 0 k = addI 0 (addI 0 k)), decide (addI (addI 0 k) 1 ≤ 4294967296), decide (addI 0 k ≤ k), decide (addI 0 k ≤ 4294967296), decide (addI 0 k = addI 0 (addI 0 k)), decide (addI (addI 0 k) 1 ≤ 4294967296)]
      (K (.s (i64 0)) [some (.cells [.int .i64 z, .slc 2 0 n, .slc 3 0 n, .slc 4 0 (addI (addI 0 k) 1), .slc 5 0 (addI (addI 0 k) 1), .ptr 1 0]), some (cRF (mspendV f).2), some (vS n L), some (vS n (setS Nw i.toNat b)), some (.vec 1 [] (.gen (addI (addI 0 k) 1) (catG (fun j => encI (Wi j)) (litI i) (addI 0 k)))), some (.vec 1 [] (.gen (addI (addI 0 k) 1) (catG (fun j => encS (Wt j)) (litS b) (addI 0 k))))])
theorem t_mwriteA {R : Type} (z : Int) (n : Nat) (L Nw : Nat → ByteArray) (k : Nat) (Wi : Nat → Int) (Wt : Nat → ByteArray) (f : RF) (i : Int) (b : ByteArray) (K : TV → List (Option SB) → Option R) : runFnN Try.prog SM [] 10 2 Try.f22 (bodyOf Try.f22) [.c (.ptr 0 0), i64 i, stv b] (hpA ⟨z, n, L, Nw, k, Wi, Wt, f, false⟩) K =
    wrT z n L Nw k Wi Wt f i b (K (.s (i64 1)) ((hpA ⟨z, n, L, Nw, k, Wi, Wt, f, false⟩).map some)) (K (.s (i64 2)) ((hpA ⟨z, n, L, Nw, k, Wi, Wt, (mspendV f).2, false⟩).map some)) K := by kernel_rfl
theorem t_mwriteH {R : Type} (z : Int) (n : Nat) (L Nw : Nat → ByteArray) (k : Nat) (Wi : Nat → Int) (Wt : Nat → ByteArray) (f : RF) (i : Int) (b : ByteArray) (K : TV → List (Option SB) → Option R) : runFnN Try.prog SM [] 10 2 Try.f22 (bodyOf Try.f22) [.c (.ptr 0 0), i64 i, stv b] (hpH ⟨z, n, L, Nw, k, Wi, Wt, f, true⟩) K =
    wrT z n L L k Wi Wt f i b (K (.s (i64 1)) ((hpH ⟨z, n, L, Nw, k, Wi, Wt, f, true⟩).map some)) (K (.s (i64 2)) ((hpH ⟨z, n, L, Nw, k, Wi, Wt, (mspendV f).2, true⟩).map some)) K := by kernel_rfl
theorem litI_eq (x : Int) : litI x = fun j => encI ([x].getD j 0) := rfl
theorem litS_eq (x : ByteArray) : litS x = fun j => encS ([x].getD j ByteArray.empty) := rfl
theorem wrT_ok {z : Int} {n : Nat} {L Nw : Nat → ByteArray} {k : Nat} {Wi : Nat → Int} {Wt : Nat → ByteArray} {f : RF} {i : Int} {b : ByteArray} {sh : Bool} {x : Out} {Nx : Nat → ByteArray} (hN : nowM ⟨z, n, L, Nx, k, Wi, Wt, f, sh⟩ = Nw) (h : (V_mwrite [.c (.ptr 0 0), .c (.int .i64 i), .c (.str b)] ⟨z, n, L, Nx, k, Wi, Wt, f, sh⟩).pick = some x) :
    x.hp.length = 2 ∧ wrT z n L Nw k Wi Wt f i b (some ((TV.s (i64 1)), (hpR ⟨z, n, L, Nx, k, Wi, Wt, f, sh⟩).map some)) (some ((TV.s (i64 2)), (hpR ⟨z, n, L, Nx, k, Wi, Wt, (mspendV f).2, sh⟩).map some)) (fun tv hp => some (tv, hp)) = some (x.tv, x.hp ++ x.nw.map some) := by
  subst hN
  unfold V_mwrite at h
  unfold wrT
  simp only [Cs.pick] at h
  cases h1 : decide (i < 0) with
  | true =>
    rw [h1] at h
    cases sh <;> cases h <;> exact ⟨rfl, rfl⟩
  | false =>
    rw [h1] at h
    cases h2 : decide (i ≥ (n : Int)) with
    | true =>
      rw [h2] at h
      cases sh <;> cases h <;> exact ⟨rfl, rfl⟩
    | false =>
      rw [h2] at h
      cases h3 : (b.size : Int) != z with
      | true =>
        rw [h3] at h
        cases sh <;> cases h <;> exact ⟨rfl, rfl⟩
      | false =>
        rw [h3] at h
        cases h4 : !(mspendV f).1 with
        | true =>
          rw [h4] at h
          cases sh <;> cases h <;> exact ⟨rfl, rfl⟩
        | false =>
          rw [h4] at h
          cases h5 : decide (n ≤ 4294967296) && decide (k + 1 ≤ 4294967296) with
          | false => rw [h5] at h; cases h
          | true =>
            rw [h5] at h
            cases h
            simp only [Bool.and_eq_true, decide_eq_true_eq] at h5
            have h1 := of_decide_eq_false h1
            have h2 := of_decide_eq_false h2
            refine ⟨rfl, ?_⟩
            simp only [cond_false]
            rw [ai0, ai0, addI_eq, litI_eq, litS_eq, catG_I, catG_S]
            refine chain_step' (and2 (Nat.beq_refl _) (and2 (chkRo_true (dec := decS) (enc := encS) (fun _ => rfl) _) (and2 (decide_eq_true h5.1) (and2 (decide_eq_true (by omega)) (decide_eq_true (by omega)))))) ?_
            refine chain_step' (decide_eq_true (Nat.le_refl _)) (chain_step' (decide_eq_true (by omega)) (chain_step' (decide_eq_true rfl) (chain_step' (decide_eq_true h5.2) (chain_step' (decide_eq_true (Nat.le_refl _)) (chain_step' (decide_eq_true (by omega)) (chain_step' (decide_eq_true rfl) (chain_step' (decide_eq_true h5.2) rfl)))))))
theorem ok_mwrite : SumOk Try.prog 22 (genSumN (gR V_mwrite)) := by
  refine okNR okSM Try.func22 (c := bodyOf Try.f22) (by kernel_rfl) (by kernel_rfl) ?_
  intro args m x h
  have h' := h
  unfold V_mwrite at h'
  split at h'
  · rename_i i b
    clear h'
    obtain ⟨z, n, L, Nw, k, Wi, Wt, f, sh⟩ := m
    cases sh
    · obtain ⟨q1, q2⟩ := wrT_ok (Nw := Nw) rfl h
      exact ⟨q1, [], 10, LoopsOk.nil, (t_mwriteA ..).trans q2⟩
    · obtain ⟨q1, q2⟩ := wrT_ok (Nw := L) rfl h
      exact ⟨q1, [], 10, LoopsOk.nil, (t_mwriteH ..).trans q2⟩
  · cases h'
end Go.Proofs.Ytkkacjmjjhjpeaa.Dk

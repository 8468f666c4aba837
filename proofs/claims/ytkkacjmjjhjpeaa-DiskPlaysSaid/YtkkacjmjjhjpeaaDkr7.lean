/- The reference's disk: Crash. No condition. -/
import Derived.Test.YtkkacjmjjhjpeaaDkr6
set_option maxRecDepth 100000
set_option linter.unusedSimpArgs false
set_option linter.unusedVariables false
namespace Go.Proofs.Ytkkacjmjjhjpeaa.Dk
open Go Go.Proofs.Ytkkacjmjjhjpeaa.Sx
theorem goA_1 : ∀ (c : Nat) (p : LX), (goA (fun _ => false) nx1 c p).1 = false ∧ (goA (fun _ => false) nx1 c p).2.m = p.m ∧ (goA (fun _ => false) nx1 c p).2.keep = p.keep ∧ (goA (fun _ => false) nx1 c p).2.torn = p.torn
  | 0, _ => ⟨rfl, rfl, rfl, rfl⟩
  | c + 1, p => goA_1 c (nx1 p)
theorem goA_2f : ∀ (c : Nat) (p : LX), (goA (fun _ => false) nx2 c p).1 = false
  | 0, _ => rfl
  | c + 1, p => goA_2f c (nx2 p)
noncomputable def la (p : LX) : Int := (goA (fun _ => false) nx1 (p.m.k - p.i) p).2.last
noncomputable def q2 (p : LX) : M := (goA (fun _ => false) nx2 (p.m.k - p.i) p).2.m
@[reducible] noncomputable def Lp1 : LoopSum := formSumC decX1 chkX normX (fun p R K => cond (ok1 p) (K (.exit 0) (fin1 (hpR p.m) (nnM p.m) p.keep p.torn (la p))) none)
@[reducible] noncomputable def Lp2 : LoopSum := formSumC decX2 chkX normX (fun p R K => cond (ok2 p) (cond (q2 p).sh (K (.exit 2) (fin2 (hpH (q2 p)) 5)) (K (.exit 2) (fin2 (hpA (q2 p)) 6))) none)
theorem formSumC_imp {β α : Type} {dec : St → Option β} {chk : β → Bool} {norm : β → α} {t t' : α → (R : Type) → (Ex → St → Option R) → Option R} (h : ∀ p R K r, t p R K = some r → t' p R K = some r) {R : Type} {st : St} {K : Ex → St → Option R} {r : R} (hs : formSumC dec chk norm t R st K = some r) : formSumC dec chk norm t' R st K = some r := by
  unfold formSumC at hs ⊢
  split at hs
  · rename_i p hp
    cases hc : chk p with
    | false => rw [hc] at hs; cases hs
    | true =>
      rw [hc] at hs
      exact h _ _ _ _ hs
  · cases hs
theorem loop1' : LoopOk Try.prog SM [] 10 2 (resMask Try.f24.results.toList) (lpAt Try.f24 0) Lp1 := by
  intro R st K r h
  refine loop1 R st K r (formSumC_imp (fun p R K r h => ?_) h)
  obtain ⟨h1, h2, h3, h4⟩ := goA_1 (p.m.k - p.i) p
  unfold goSum
  cases hk : ok1 p with
  | false => rw [hk] at h; cases h
  | true =>
    rw [hk] at h
    rw [h1]
    dsimp only
    rw [h2, h3, h4]
    exact h
theorem loop2' : LoopOk Try.prog SM [] 10 2 (resMask Try.f24.results.toList) (lpAt Try.f24 1) Lp2 := by
  intro R st K r h
  refine loop2 R st K r (formSumC_imp (fun p R K r h => ?_) h)
  unfold goSum
  cases hk : ok2 p with
  | false => rw [hk] at h; cases h
  | true =>
    rw [hk] at h
    rw [goA_2f]
    show K (.exit 2) (fin2 (hpR (q2 p)) (nnM (q2 p))) = some r
    simp only [cond_true] at h
    cases hs : (q2 p).sh with
    | false =>
      rw [hs] at h
      unfold hpR nnM
      rw [hs]
      exact h
    | true =>
      rw [hs] at h
      unfold hpR nnM
      rw [hs]
      exact h
@[reducible] noncomputable def x1 (m : M) (keep torn : Int) : LX := ⟨m, keep, torn, -1, keep, 0⟩
@[reducible] noncomputable def x2 (m : M) (keep torn : Int) : LX := ⟨m, keep, torn, la (x1 m keep torn), keep, 0⟩
@[reducible] noncomputable def crM (m : M) (keep torn : Int) : M := q2 (x2 m keep torn)
@[reducible] noncomputable def mcrashV (m : M) (keep torn : Int) : M := noneM (crM m keep torn) (crM m keep torn).L (mresetV (crM m keep torn).fu)
@[reducible] noncomputable def outC {R : Type} (m : M) (K : TV → List (Option SB) → Option R) : Option R := K (.tup []) [some (.cells [.int .i64 m.size, .slc 2 0 m.n, .slc 2 0 m.n, .nils, .nils, .ptr 1 0]), some (cRF (mresetV m.fu)), some (vS m.n m.L)]
@[reducible] noncomputable def LC2 : List (Nat × LoopSum) := [(0, Lp1), (2, Lp2)]
theorem t_mcrashA {R : Type} (z : Int) (n : Nat) (L Nw : Nat → ByteArray) (k : Nat) (Wi : Nat → Int) (Wt : Nat → ByteArray) (f : RF) (keep torn : Int) (K : TV → List (Option SB) → Option R) : runFnN Try.prog SM LC2 10 2 Try.f24 (bodyOf Try.f24) [.c (.ptr 0 0), .c (.int .u64 keep), i64 torn] (hpA ⟨z, n, L, Nw, k, Wi, Wt, f, false⟩) K =
    chain [chkX (⟨z, n, L, Nw, k, Wi, Wt, f, false⟩, rawS ⟨z, n, L, Nw, k, Wi, Wt, f, false⟩, keep, torn, -1, keep, 0, 6), ok1 (x1 ⟨z, n, L, Nw, k, Wi, Wt, f, false⟩ keep torn),
      chkX (⟨z, n, L, Nw, k, Wi, Wt, f, false⟩, rawS ⟨z, n, L, Nw, k, Wi, Wt, f, false⟩, keep, torn, la (x1 ⟨z, n, L, Nw, k, Wi, Wt, f, false⟩ keep torn), keep, 0, 6), ok2 (x2 ⟨z, n, L, Nw, k, Wi, Wt, f, false⟩ keep torn)]
      (bif (crM ⟨z, n, L, Nw, k, Wi, Wt, f, false⟩ keep torn).sh then outC (crM ⟨z, n, L, Nw, k, Wi, Wt, f, false⟩ keep torn) K else outC (crM ⟨z, n, L, Nw, k, Wi, Wt, f, false⟩ keep torn) K) := by kernel_rfl
theorem t_mcrashH {R : Type} (z : Int) (n : Nat) (L : Nat → ByteArray) (k : Nat) (Wi : Nat → Int) (Wt : Nat → ByteArray) (f : RF) (keep torn : Int) (K : TV → List (Option SB) → Option R) : runFnN Try.prog SM LC2 10 2 Try.f24 (bodyOf Try.f24) [.c (.ptr 0 0), .c (.int .u64 keep), i64 torn] (hpH ⟨z, n, L, L, k, Wi, Wt, f, true⟩) K =
    chain [chkX (⟨z, n, L, L, k, Wi, Wt, f, true⟩, rawS ⟨z, n, L, L, k, Wi, Wt, f, true⟩, keep, torn, -1, keep, 0, 5), ok1 (x1 ⟨z, n, L, L, k, Wi, Wt, f, true⟩ keep torn),
      chkX (⟨z, n, L, L, k, Wi, Wt, f, true⟩, rawS ⟨z, n, L, L, k, Wi, Wt, f, true⟩, keep, torn, la (x1 ⟨z, n, L, L, k, Wi, Wt, f, true⟩ keep torn), keep, 0, 5), ok2 (x2 ⟨z, n, L, L, k, Wi, Wt, f, true⟩ keep torn)]
      (bif (crM ⟨z, n, L, L, k, Wi, Wt, f, true⟩ keep torn).sh then outC (crM ⟨z, n, L, L, k, Wi, Wt, f, true⟩ keep torn) K else outC (crM ⟨z, n, L, L, k, Wi, Wt, f, true⟩ keep torn) K) := by kernel_rfl
theorem chkX_self (m : M) (keep torn last kk : Int) : chkX (m, rawS m, keep, torn, last, kk, 0, nnM m) = true := by
  unfold chkX
  simp only [Bool.and_eq_true, decide_eq_true_eq]
  exact ⟨oqR_self m, Int.le_refl 0, Nat.beq_refl _⟩
noncomputable def gM (m : M) : Bool := @decide (GoodM m ∧ (m.sh = true → m.Nw = m.L)) (Classical.propDecidable _)
theorem gM_spec {m : M} : gM m = true ↔ GoodM m ∧ (m.sh = true → m.Nw = m.L) := by unfold gM; rw [@decide_eq_true_eq _ (Classical.propDecidable _)]
noncomputable def V_mcrash : List SV → M → Cs
  | [.c (.ptr 0 0), .c (.int .u64 keep), .c (.int .i64 torn)], m => .br (gM m) (oHn (.tup []) (mcrashV m keep torn)) .no
  | _, _ => .no
theorem ok_mcrash0 : SumOk Try.prog 24 (genSumN (gR V_mcrash)) := by
  refine okNR okSM Try.func24 (c := bodyOf Try.f24) (by kernel_rfl) (by kernel_rfl) ?_
  intro args m x h
  unfold V_mcrash at h
  split at h
  · rename_i keep torn
    cases hk : gM m with
    | false => rw [hk] at h; cases h
    | true =>
      rw [hk] at h
      cases h
      obtain ⟨g, hsh⟩ := gM_spec.1 hk
      refine ⟨rfl, LC2, 10, loopsOk_ix 2 (by kernel_rfl) ⟨⟨trivial, loopOk_here (n := 0) (by kernel_rfl) rfl loop1'⟩, loopOk_here (n := 2) (by kernel_rfl) rfl loop2'⟩, ?_⟩
      have h1 : ok1 (x1 m keep torn) = true := by
        unfold ok1
        rw [Bool.and_eq_true, decide_eq_true_eq, decide_eq_true_eq]
        exact ⟨Nat.zero_le _, Nat.le_trans g.k (by omega)⟩
      have h2 : ok2 (x2 m keep torn) = true := ok2_spec.2 ⟨g, Nat.zero_le _⟩
      have c1 := chkX_self m keep torn (-1) keep
      have c2 := chkX_self m keep torn (la (x1 m keep torn)) keep
      obtain ⟨z, n, L, Nw, k, Wi, Wt, f, sh⟩ := m
      cases sh
      · refine (t_mcrashA ..).trans (chain_step' c1 (chain_step' h1 (chain_step' c2 (chain_step' h2 ?_))))
        cases (crM ⟨z, n, L, Nw, k, Wi, Wt, f, false⟩ keep torn).sh <;> rfl
      · have hN : Nw = L := hsh rfl
        subst hN
        refine (t_mcrashH ..).trans (chain_step' c1 (chain_step' h1 (chain_step' c2 (chain_step' h2 ?_))))
        cases (crM ⟨z, n, Nw, Nw, k, Wi, Wt, f, true⟩ keep torn).sh <;> rfl
  · cases h
theorem ok_mcrash : SumOk Try.prog 24 (denilWS (denilWS (genSumN (gR V_mcrash)))) := sumOk_denilW (sumOk_denilW ok_mcrash0)
end Go.Proofs.Ytkkacjmjjhjpeaa.Dk

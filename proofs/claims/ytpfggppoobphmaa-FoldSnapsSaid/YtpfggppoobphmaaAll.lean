/- What many records make of a state, in the program and in its reference. No condition. -/
import Derived.Test.YtpfggppoobphmaaFold3
import Derived.Test.YtpfggppoobphmaaSxC
set_option maxRecDepth 100000
set_option linter.unusedSimpArgs false
set_option linter.unusedVariables false
namespace Go.Proofs.Ytpfggppoobphmaa.Fold
open Go Go.Proofs.Ytpfggppoobphmaa.Sx
def stOf (r : Rc) : St := ⟨r.xphase, r.xactive, r.xrev0, r.xrev1, r.xwant0, r.xwant1, r.xpassed0, r.xpassed1, r.xdelay, r.xgen, r.xswitch, r.xflip⟩
noncomputable def doV (i : Int) (s : St) (r : Rc) : St × Bool := bif i == 0 && r.kind == 11 then (bif rightV (stOf r) then (stOf r, true) else (s, false)) else stepV s r
theorem step_11 {s : St} {r : Rc} (h : (r.kind == 11) = true) : stepV s r = (s, false) := by
  have h : r.kind = 11 := by simpa using h
  unfold stepV
  rw [h]
  cases rightV s <;> rfl
/-- The state behind n records, from the i-th on, and how many could come. -/
noncomputable def foldN (f : Nat → Rc) : Nat → Nat → St → St × Nat
  | 0, i, s => (s, i)
  | k + 1, i, s => bif (doV i s (f i)).2 then foldN f k (i + 1) (doV i s (f i)).1 else (s, i)
noncomputable def allV (s : St) (f : Nat → Rc) (n : Nat) : St × Nat := foldN f n 0 s

@[reducible] def AL := Int × Nat × Nat × Nat × St × St × (Nat → Rc)
noncomputable def okL : AL → Bool
  | (i, i0, n, N, _, _, _) => decide (0 ≤ i ∧ i ≤ n ∧ n ≤ 4611686018427387904 ∧ i0 + n ≤ N)
def cntL : AL → Nat
  | (i, _, n, _, _, _, _) => n - i.toNat
noncomputable def brkL : AL → Bool
  | (i, i0, _, _, s, _, f) => !(doV i s (f (addI i0 i.toNat))).2
noncomputable def nxL : AL → AL
  | (i, i0, n, N, s, z, f) => (IntKind.i64.wrap (i + 1), i0, n, N, (doV i s (f (addI i0 i.toNat))).1, z, f)
@[reducible] def BL := Int × Int × Nat × Nat × Nat × Nat × Nat × St × St × (Nat → List CV)
noncomputable def chkL : BL → Bool
  | (_, m, i0, n, i0', n', _, _, _, f) => Nat.beq i0 i0' && Nat.beq n n' && decide (m = n) && chkRo encRc decRcD f
def normL : BL → AL
  | (i, _, i0, n, _, _, N, s, z, f) => (i, i0, n, N, s, z, fun j => decRcD (f j))
theorem go_fold {f : Nat → Rc} {i0 n N : Nat} {z : St} (hn : n ≤ 4611686018427387904) : ∀ (k i : Nat) (s : St), i + k = n →
    ((goA brkL nxL k ((i : Int), i0, n, N, s, z, f)).2.2.2.2.2.1, (goA brkL nxL k ((i : Int), i0, n, N, s, z, f)).2.1) = ((foldN (fun j => f (addI i0 j)) k i s).1, ((foldN (fun j => f (addI i0 j)) k i s).2 : Int)) ∧ (goA brkL nxL k ((i : Int), i0, n, N, s, z, f)).2.2.2.1 = n ∧
    ((goA brkL nxL k ((i : Int), i0, n, N, s, z, f)).1 = false → (foldN (fun j => f (addI i0 j)) k i s).2 = n)
  | 0, i, s, h => ⟨rfl, rfl, fun _ => by simpa [foldN] using h⟩
  | k + 1, i, s, h => by
    simp only [goA, foldN]
    have e : brkL ((i : Int), i0, n, N, s, z, f) = !(doV i s (f (addI i0 i))).2 := rfl
    rw [e]
    cases hd : (doV i s (f (addI i0 i))).2 with
    | false => exact ⟨rfl, rfl, fun h => by cases h⟩
    | true =>
      simp only [Bool.not_true, cond_false, cond_true]
      have e2 : nxL ((i : Int), i0, n, N, s, z, f) = (((i + 1 : Nat) : Int), i0, n, N, (doV i s (f (addI i0 i))).1, z, f) := by
        show (IntKind.i64.wrap ((i : Int) + 1), i0, n, N, _, z, f) = _
        rw [wi (by omega)]
        rfl
      rw [e2]
      exact go_fold hn k (i + 1) _ (by omega)

/-! ### The program's -/
def encL : AL → Sx.St
  | (i, i0, n, N, s, z, f) => ⟨[(1, .s (.c (.slc 0 i0 n))), (2, .s (.c (.ptr 1 0))), (4, .s (.c (.ptr 2 0))), (10, .s (.c (.slc 0 i0 n))), (11, .s (.c (.int .i64 (n : Int)))), (12, .s (.c (.int .i64 i)))],
      [some (.ro 19 (.gen N fun j => encRc (f j))), some (.cells (encSt s)), some (.cells (encSt z))], 3, 46⟩
def decL : Sx.St → Option BL
  | ⟨[(1, .s (.c (.slc 0 i0 n))), (2, .s (.c (.ptr 1 0))), (4, .s (.c (.ptr 2 0))), (10, .s (.c (.slc 0 i0' n'))), (11, .s (.c (.int .i64 m))), (12, .s (.c (.int .i64 i)))], [some (.ro 19 (.gen N f)), some (.cells s), some (.cells z)], 3, 46⟩ =>
    match decSt s, decSt z with
    | some s, some z => some (i, m, i0, n, i0', n', N, s, z, f)
    | _, _ => none
  | _ => none
theorem decL_spec (st : Sx.St) (p : BL) (h : decL st = some p) (hc : chkL p = true) : st = encL (normL p) := by
  unfold decL at h
  split at h
  · split at h
    · rename_i h1 h2
      cases h
      simp only [chkL, Bool.and_eq_true, decide_eq_true_eq] at hc
      obtain ⟨⟨⟨e0, e1⟩, rfl⟩, e2⟩ := hc
      obtain rfl := Nat.eq_of_beq_eq_true e0
      obtain rfl := Nat.eq_of_beq_eq_true e1
      obtain rfl := decSt_spec _ _ h1
      obtain rfl := decSt_spec _ _ h2
      have g := chkRo_spec e2
      unfold normL encL
      simp only
      rw [← g]
    · cases h
  · cases h
def outL : AL → Sx.St
  | (i, _, _, N, s, _, f) => ⟨[(4, .s (.c (.ptr 1 0))), (5, .s (.c (.int .i64 i)))], [some (.ro 19 (.gen N fun j => encRc (f j))), some (.cells (encSt s))], 2, 46⟩
def finL : AL → Sx.St
  | (_, i0, n, N, s, z, f) => ⟨[(1, .s (.c (.slc 0 i0 n))), (2, .s (.c (.ptr 1 0))), (4, .s (.c (.ptr 2 0)))], [some (.ro 19 (.gen N fun j => encRc (f j))), some (.cells (encSt s)), some (.cells (encSt z))], 3, 46⟩
@[reducible] noncomputable def LL : List (Nat × LoopSum) := [(0, formSumC decL chkL normL (goSum okL cntL brkL nxL .ret outL (.exit 0) finL))]
theorem roundL {R : Type} (L : List (Nat × LoopSum)) (i : Int) (i0 n N : Nat) (s z : St) (f : Nat → Rc) (K : Ex → Sx.St → Option R) : roundK Try.prog SE L 10 1 (resMask Try.f16.results.toList) (lpAt Try.f16 0) (encL (i, i0, n, N, s, z, f)) K =
    bif decide (i < n) then bif decide (0 ≤ i) && decide (i < n) then bif decide (addI i0 i.toNat < N) then
      bif i == 0 then bif (f (addI i0 i.toNat)).kind == 11 then bif rightV (stOf (f (addI i0 i.toNat))) then K .normal (encL (IntKind.i64.wrap (i + 1), i0, n, N, stOf (f (addI i0 i.toNat)), z, f))
        else bif !(stepV s (f (addI i0 i.toNat))).2 then K .ret (outL (i, i0, n, N, s, z, f)) else K .normal (encL (IntKind.i64.wrap (i + 1), i0, n, N, (stepV s (f (addI i0 i.toNat))).1, z, f))
        else bif !(stepV s (f (addI i0 i.toNat))).2 then K .ret (outL (i, i0, n, N, s, z, f)) else K .normal (encL (IntKind.i64.wrap (i + 1), i0, n, N, (stepV s (f (addI i0 i.toNat))).1, z, f))
        else bif !(stepV s (f (addI i0 i.toNat))).2 then K .ret (outL (i, i0, n, N, s, z, f)) else K .normal (encL (IntKind.i64.wrap (i + 1), i0, n, N, (stepV s (f (addI i0 i.toNat))).1, z, f))
      else none else none else K (.exit 0) (finL (i, i0, n, N, s, z, f)) := by kernel_rfl
theorem roundL_do {R : Type} (L : List (Nat × LoopSum)) {i : Int} {i0 n N : Nat} (s z : St) (f : Nat → Rc) (K : Ex → Sx.St → Option R) (h0 : 0 ≤ i) (hi : i < n) (hN : i0 + n ≤ N) :
    roundK Try.prog SE L 10 1 (resMask Try.f16.results.toList) (lpAt Try.f16 0) (encL (i, i0, n, N, s, z, f)) K =
    bif brkL (i, i0, n, N, s, z, f) then K .ret (outL (i, i0, n, N, s, z, f)) else K .normal (encL (nxL (i, i0, n, N, s, z, f))) := by
  rw [roundL]
  have e1 : decide (i < (n : Int)) = true := by simpa using hi
  have e2 : decide (0 ≤ i) = true := by simpa using h0
  have e3 : decide (addI i0 i.toNat < N) = true := by rw [addI_eq, decide_eq_true_eq]; omega
  rw [e1, e2, e3]
  simp only [cond_true, Bool.and_self, brkL, nxL, doV]
  generalize f (addI i0 i.toNat) = r
  cases c1 : i == 0 with
  | false => generalize stepV s r = q; obtain ⟨a, b⟩ := q; cases b <;> rfl
  | true =>
    cases c2 : r.kind == 11 with
    | false => generalize stepV s r = q; obtain ⟨a, b⟩ := q; cases b <;> rfl
    | true =>
      rw [step_11 c2]
      cases rightV (stOf r) <;> rfl
theorem loopL : LoopOk Try.prog SE LL 10 1 (resMask Try.f16.results.toList) (lpAt Try.f16 0) (formSumC decL chkL normL (goSum okL cntL brkL nxL .ret outL (.exit 0) finL)) := by
  refine LoopOk.go decL_spec (by simp) (by simp) ?_ ?_ ?_
  · rintro R ⟨i, i0, n, N, s, z, f⟩ K hok hc hb
    simp only [okL, decide_eq_true_eq, cntL] at hok hc
    rw [roundL_do LL s z f K hok.1 (by omega) hok.2.2.2, hb]
    rfl
  · rintro R ⟨i, i0, n, N, s, z, f⟩ k K hok hc hb
    simp only [okL, decide_eq_true_eq, cntL] at hok hc
    refine ⟨by rw [roundL_do LL s z f K hok.1 (by omega) hok.2.2.2, hb]; rfl, ?_, ?_⟩
    · have e : nxL (i, i0, n, N, s, z, f) = (i + 1, i0, n, N, (doV i s (f (addI i0 i.toNat))).1, z, f) := by
        show (IntKind.i64.wrap (i + 1), i0, n, N, _, z, f) = _
        rw [wi (by omega)]
      rw [e]
      simp only [okL, decide_eq_true_eq]
      omega
    · show n - (IntKind.i64.wrap (i + 1)).toNat = k
      rw [wi (by omega)]
      omega
  · rintro R ⟨i, i0, n, N, s, z, f⟩ K hok hc
    simp only [okL, decide_eq_true_eq, cntL] at hok hc
    rw [roundL]
    have e1 : decide (i < (n : Int)) = false := by rw [decide_eq_false_iff_not]; omega
    rw [e1]
    rfl
theorem loopsL : LoopsOk Try.prog SE LL 10 1 (resMask Try.f16.results.toList) (loopsOf (resMask Try.f16.results.toList) (bodyOf Try.f16) [] (resMask Try.f16.results.toList)) :=
  loopsOk_ix 1 (by kernel_rfl) ⟨trivial, loopOk_here (n := 0) (by kernel_rfl) rfl loopL⟩
@[reducible] def z0 : St := ⟨0, 0, 0, 0, 0, 0, false, false, 0, 0, 0, 0⟩
@[reducible] noncomputable def resL (s : St) (i0 n N : Nat) (f : Nat → Rc) : Bool × AL := goA brkL nxL (n - 0) (0, i0, n, N, s, z0, f)
theorem t_all {R : Type} (s : St) (i0 n N : Nat) (f : Nat → Rc) (K : TV → List (Option SB) → Option R) : runFnL Try.prog SE LL 10 Try.f16 (bodyOf Try.f16) [.agg (encSt s), .c (.slc 0 i0 n)] [.ro 19 (.gen N fun i => encRc (f i))] K =
    bif Nat.beq i0 i0 && Nat.beq n n && decide ((n : Int) = n) && chkRo encRc decRcD (fun i => encRc (f i)) then bif okL (0, i0, n, N, s, z0, f) then
      bif (resL s i0 n N f).1 then K (.tup [.agg (encSt (resL s i0 n N f).2.2.2.2.2.1), .c (.int .i64 (resL s i0 n N f).2.1)]) [some (.ro 19 (.gen (resL s i0 n N f).2.2.2.2.1 fun i => encRc ((resL s i0 n N f).2.2.2.2.2.2.2 i)))]
      else K (.tup [.agg (encSt (resL s i0 n N f).2.2.2.2.2.1), .c (.int .i64 ((resL s i0 n N f).2.2.2.1 : Int))]) [some (.ro 19 (.gen (resL s i0 n N f).2.2.2.2.1 fun i => encRc ((resL s i0 n N f).2.2.2.2.2.2.2 i)))] else none else none := by kernel_rfl
end Go.Proofs.Ytpfggppoobphmaa.Fold

/- The reference's disk: New. No condition. -/
import Derived.Test.YtkkacjmjjhjpeaaDkr3
import Derived.Test.YtkkacjmjjhjpeaaDtorn
set_option maxRecDepth 100000
set_option linter.unusedSimpArgs false
set_option linter.unusedVariables false
namespace Go.Proofs.Ytkkacjmjjhjpeaa.Dk
open Go Go.Proofs.Ytkkacjmjjhjpeaa.Sx
structure LQ where
  na : Int
  b : ByteArray
  z : Int
  L : Nat → ByteArray
  L2 : Nat → ByteArray
  Wi : Nat → Int
  Wt : Nat → ByteArray
  f : RF
  t : Nat
@[reducible] def encQ0 (p : LQ) (i : Int) : St := ⟨[(1, .s (i64 p.na)), (7, .s (.c (.ptr 1 0))), (8, .s (stv p.b)), (9, .s (i64 i))], [some (cRF p.f), some (.cells [.int .i64 p.z, .slc 2 0 p.t, .slc 3 0 p.t, .slc 4 0 0, .slc 5 0 0, .ptr 0 0]), some (vS p.t p.L), some (vS p.t p.L2), some (vI 0 p.Wi), some (vS 0 p.Wt)], 6, 48⟩
@[reducible] def encQ (p : LQ) : St := encQ0 p p.t
def finQ (p : LQ) : St := ⟨[(7, .s (.c (.ptr 1 0)))], [some (cRF p.f), some (.cells [.int .i64 p.z, .slc 2 0 p.t, .slc 3 0 p.t, .slc 4 0 0, .slc 5 0 0, .ptr 0 0]), some (vS p.t p.L), some (vS p.t p.L2), some (vI 0 p.Wi), some (vS 0 p.Wt)], 6, 48⟩
theorem roundQ {R : Type} (p : LQ) (K : Ex → St → Option R) : roundK Try.prog SM [] 10 1 (resMask Try.f19.results.toList) (lpAt Try.f19 0) (encQ0 p p.t) K =
    bif decide ((p.t : Int) < clampV p.na 4 1024) then chain [decide (p.t = addI 0 p.t), decide (addI p.t 1 ≤ 4294967296), decide (p.t = addI 0 p.t), decide (addI p.t 1 ≤ 4294967296)]
      (K .normal ⟨[(1, .s (i64 p.na)), (7, .s (.c (.ptr 1 0))), (8, .s (stv p.b)), (9, .s (i64 (IntKind.i64.wrap ((p.t : Int) + 1))))], [some (cRF p.f), some (.cells [.int .i64 p.z, .slc 2 0 (addI p.t 1), .slc 3 0 (addI p.t 1), .slc 4 0 0, .slc 5 0 0, .ptr 0 0]), some (.vec 1 [] (.gen (addI p.t 1) (catG (fun j => encS (p.L j)) (litS p.b) p.t))), some (.vec 1 [] (.gen (addI p.t 1) (catG (fun j => encS (p.L2 j)) (litS p.b) p.t))), some (vI 0 p.Wi), some (vS 0 p.Wt)], 6, 48⟩)
    else K (.exit 0) (finQ p) := by kernel_rfl
@[reducible] def PQ := (Int × ByteArray × Int × Int × RF) × (Nat × Nat × Nat × Nat) × (Nat → List CV) × (Nat → List CV) × (Nat → List CV) × (Nat → List CV)
def decQ : St → Option PQ
  | ⟨[(1, .s (.c (.int .i64 na))), (7, .s (.c (.ptr 1 0))), (8, .s (.c (.str b))), (9, .s (.c (.int .i64 i)))], [some (.cells [.bool a, .int .i64 l, .bool c, .int .i64 d]), some (.cells [.int .i64 z, .slc 2 0 t1, .slc 3 0 t2, .slc 4 0 0, .slc 5 0 0, .ptr 0 0]), some (.vec 1 [] (.gen t3 gL)), some (.vec 1 [] (.gen t4 gN)), some (.vec 1 [] (.gen 0 gI)), some (.vec 1 [] (.gen 0 gT))], 6, 48⟩ => some ((na, b, z, i, ⟨a, l, c, d⟩), (t1, t2, t3, t4), gL, gN, gI, gT)
  | _ => none
noncomputable def chkQ (p : PQ) : Bool := match p with
  | ((na, b, z, i, f), (t1, t2, t3, t4), gL, gN, gI, gT) => decide (i = t1) && (Nat.beq t2 t1 && (Nat.beq t3 t1 && (Nat.beq t4 t1 && (chkRo encS decS gL && (chkRo encS decS gN && (chkRo encI decI gI && chkRo encS decS gT))))))
def normQ (p : PQ) : LQ := match p with
  | ((na, b, z, i, f), (t1, t2, t3, t4), gL, gN, gI, gT) => ⟨na, b, z, fun j => decS (gL j), fun j => decS (gN j), fun j => decI (gI j), fun j => decS (gT j), f, t1⟩
theorem decQ_spec (st : St) (p : PQ) (h : decQ st = some p) (hc : chkQ p = true) : st = encQ (normQ p) := by
  unfold decQ at h
  split at h
  · rename_i na b i a l c d z t1 t2 t3 gL t4 gN gI gT
    cases h
    unfold chkQ at hc
    simp only [Bool.and_eq_true, decide_eq_true_eq] at hc
    obtain ⟨h1, h2, h3, h4, h5, h6, h7, h8⟩ := hc
    have h2 := Nat.eq_of_beq_eq_true h2
    have h3 := Nat.eq_of_beq_eq_true h3
    have h4 := Nat.eq_of_beq_eq_true h4
    have h5 := chkRo_spec h5
    have h6 := chkRo_spec h6
    have h7 := chkRo_spec h7
    have h8 := chkRo_spec h8
    subst h1 h2 h3 h4
    show _ = St.mk _ [_, _, some (SB.vec 1 [] (.gen _ fun j => encS (decS (gL j)))), some (SB.vec 1 [] (.gen _ fun j => encS (decS (gN j)))), some (SB.vec 1 [] (.gen _ fun j => encI (decI (gI j)))), some (SB.vec 1 [] (.gen _ fun j => encS (decS (gT j))))] _ _
    rw [← h5, ← h6, ← h7, ← h8]
    rfl
  · cases h
noncomputable def okQ (p : LQ) : Bool := decide ((p.t : Int) ≤ clampV p.na 4 1024) && decide (clampV p.na 4 1024 ≤ 1024)
def nxQ (p : LQ) : LQ := ⟨p.na, p.b, p.z, pushG ByteArray.empty p.L p.b p.t, pushG ByteArray.empty p.L2 p.b p.t, p.Wi, p.Wt, p.f, p.t + 1⟩
@[reducible] noncomputable def LpQ : LoopSum := formSumC decQ chkQ normQ (goSum okQ (fun p => (clampV p.na 4 1024).toNat - p.t) (fun _ => false) nxQ (.exit 9) finQ (.exit 0) finQ)
theorem loopQ : LoopOk Try.prog SM [] 10 1 (resMask Try.f19.results.toList) (lpAt Try.f19 0) LpQ := by
  refine LoopOk.go (enc := encQ) decQ_spec (by simp) (by simp) ?_ ?_ ?_
  · intro R p K _ _ h; cases h
  · rintro R p c K h1 h2 _
    unfold okQ at h1
    simp only [Bool.and_eq_true, decide_eq_true_eq] at h1
    refine ⟨?_, ?_, ?_⟩
    · rw [roundQ, decide_eq_true (show (p.t : Int) < clampV p.na 4 1024 by omega), cond_true, wi (x := (p.t : Int) + 1) (by omega), litS_eq, catG_S, catG_S, addI_eq p.t 1, ai0]
      exact chain_step' (decide_eq_true rfl) (chain_step' (decide_eq_true (by omega)) (chain_step' (decide_eq_true rfl) (chain_step' (decide_eq_true (by omega)) rfl)))
    · unfold okQ nxQ
      simp only [Bool.and_eq_true, decide_eq_true_eq]
      exact ⟨by omega, h1.2⟩
    · show (clampV p.na 4 1024).toNat - (p.t + 1) = c
      omega
  · rintro R p K h1 h2
    have h1' := h1
    unfold okQ at h1'
    simp only [Bool.and_eq_true, decide_eq_true_eq] at h1'
    rw [roundQ, decide_eq_false (show ¬ (p.t : Int) < clampV p.na 4 1024 by omega)]
    rfl
theorem goA_Q : ∀ (c : Nat) (p : LQ), (∀ j, j < p.t → p.L j = p.b) → (∀ j, j < p.t → p.L2 j = p.b) → (goA (fun _ => false) nxQ c p).1 = false ∧ ∃ L L2, (goA (fun _ => false) nxQ c p).2 = ⟨p.na, p.b, p.z, L, L2, p.Wi, p.Wt, p.f, p.t + c⟩ ∧ (∀ j, j < p.t + c → L j = p.b) ∧ (∀ j, j < p.t + c → L2 j = p.b)
  | 0, p, h1, h2 => ⟨rfl, p.L, p.L2, rfl, h1, h2⟩
  | c + 1, p, h1, h2 => by
    have step : ∀ (X : Nat → ByteArray), (∀ j, j < p.t → X j = p.b) → ∀ j, j < p.t + 1 → pushG ByteArray.empty X p.b p.t j = p.b := by
      intro X hX j hj
      by_cases he : j = p.t
      · subst he; exact pushG_at
      · rw [pushG_lt (by omega)]; exact hX j (by omega)
    obtain ⟨r1, L, L2, r2, r3, r4⟩ := goA_Q c (nxQ p) (step p.L h1) (step p.L2 h2)
    refine ⟨r1, L, L2, ?_, fun j hj => r3 j (by show j < p.t + 1 + c; omega), fun j hj => r4 j (by show j < p.t + 1 + c; omega)⟩
    refine Eq.trans r2 ?_
    show LQ.mk p.na p.b p.z L L2 p.Wi p.Wt p.f (p.t + 1 + c) = _
    rw [show p.t + 1 + c = p.t + (c + 1) by omega]
@[reducible] noncomputable def zr (z : Int) : ByteArray := strOfNums (bytesAt (fun _ => [CV.int .u8 0]) 0 (clampV z 128 1024).toNat)
@[reducible] noncomputable def q0 (z n : Int) (f : RF) : LQ := ⟨n, zr z, clampV z 128 1024, fun _ => ByteArray.empty, fun _ => ByteArray.empty, fun _ => 0, fun _ => ByteArray.empty, f, 0⟩
@[reducible] def cQ (p : LQ) : SB := .cells [.int .i64 p.z, .slc 2 0 p.t, .slc 3 0 p.t, .slc 4 0 0, .slc 5 0 0, .ptr 0 0]
@[reducible] noncomputable def gaQ (z n : Int) (f : RF) : Bool × LQ := goA (fun _ => false) nxQ ((clampV n 4 1024).toNat - 0) (q0 z n f)
theorem t_mnew {R : Type} (z n : Int) (f : RF) (K : TV → List (Option SB) → Option R) : runFnN Try.prog SM [(0, LpQ)] 10 1 Try.f19 (bodyOf Try.f19) [i64 z, i64 n, .c (.ptr 0 0)] [cRF f] K =
    chain [decide (clampV z 128 1024 = clampV z 128 1024) && decide (0 ≤ clampV z 128 1024) && decide (clampV z 128 1024 ≤ 16777216), decide (addI 0 (clampV z 128 1024).toNat ≤ (clampV z 128 1024).toNat) && bytesOk (fun _ => [CV.int .u8 0]) 0 (clampV z 128 1024).toNat,
      chkQ ((n, zr z, clampV z 128 1024, 0, f), (0, 0, 0, 0), (fun _ => encS ByteArray.empty), (fun _ => encS ByteArray.empty), (fun _ => encI 0), fun _ => encS ByteArray.empty), okQ (q0 z n f)]
      (bif (gaQ z n f).1 then none else K (.s (.c (.ptr 1 0))) [some (cRF (gaQ z n f).2.f), some (cQ (gaQ z n f).2), some (vS (gaQ z n f).2.t (gaQ z n f).2.L), some (vS (gaQ z n f).2.t (gaQ z n f).2.L2), some (vI 0 (gaQ z n f).2.Wi), some (vS 0 (gaQ z n f).2.Wt)]) := by kernel_rfl
theorem bytesOk_zero : ∀ (k i : Nat), bytesOk (fun _ => [CV.int .u8 0]) i k = true
  | 0, _ => rfl
  | k + 1, i => by
    show (isByte [CV.int .u8 0] && bytesOk (fun _ => [CV.int .u8 0]) (i + 1) k) = true
    rw [bytesOk_zero k (i + 1)]
    rfl
noncomputable def mnewV (z n : Int) (f : RF) : M := ⟨clampV z 128 1024, (gaQ z n f).2.t, (gaQ z n f).2.L, (gaQ z n f).2.L2, 0, (gaQ z n f).2.Wi, (gaQ z n f).2.Wt, f, false⟩
@[reducible] def cAN (m : M) : SB := .cells [.int .i64 m.size, .slc 2 0 m.n, .slc 3 0 m.n, .slc 4 0 m.k, .slc 5 0 m.k, .ptr 0 0]
theorem clamp_spec (z lo hi : Int) (h : lo ≤ hi) : lo ≤ clampV z lo hi ∧ clampV z lo hi ≤ hi := by
  unfold clampV
  by_cases h1 : z < lo
  · rw [decide_eq_true h1]; exact ⟨Int.le_refl _, h⟩
  · rw [decide_eq_false h1]
    by_cases h2 : z > hi
    · rw [decide_eq_true h2]; exact ⟨h, Int.le_refl _⟩
    · rw [decide_eq_false h2]
      show lo ≤ z ∧ z ≤ hi
      omega
theorem gaQ_spec (z n : Int) (f : RF) : (gaQ z n f).1 = false ∧ (gaQ z n f).2.z = clampV z 128 1024 ∧ (gaQ z n f).2.f = f ∧ (gaQ z n f).2.t = (clampV n 4 1024).toNat ∧ (∀ j, j < (clampV n 4 1024).toNat → (gaQ z n f).2.L j = zr z) ∧ (∀ j, j < (clampV n 4 1024).toNat → (gaQ z n f).2.L2 j = zr z) := by
  obtain ⟨r1, L, L2, r2, r3, r4⟩ := goA_Q ((clampV n 4 1024).toNat - 0) (q0 z n f) (fun j hj => absurd hj (Nat.not_lt_zero j)) (fun j hj => absurd hj (Nat.not_lt_zero j))
  refine ⟨r1, ?_⟩
  unfold gaQ
  rw [r2]
  have e : (q0 z n f).t + ((clampV n 4 1024).toNat - 0) = (clampV n 4 1024).toNat := by show 0 + ((clampV n 4 1024).toNat - 0) = _; omega
  refine ⟨rfl, rfl, e, fun j hj => r3 j (by omega), fun j hj => r4 j (by omega)⟩
noncomputable def g_mnew : List SV → List SB → Cs
  | [.c (.int .i64 z), .c (.int .i64 n), .c (.ptr 0 0)], [.cells [.bool a, .int .i64 l, .bool b, .int .i64 c]] => .out ⟨true, .s (.c (.ptr 1 0)), [some (cRF ⟨a, l, b, c⟩)], cAN (mnewV z n ⟨a, l, b, c⟩) :: rowsA (mnewV z n ⟨a, l, b, c⟩)⟩
  | _, _ => .no
theorem ok_mnew : SumOk Try.prog 19 (genSumN g_mnew) := by
  refine sumOk_genN okSM mixed Try.func19 (c := bodyOf Try.f19) (by kernel_rfl) (by kernel_rfl) ?_
  intro args hp x h
  unfold g_mnew at h ⊢
  split at h
  · rename_i z n a l b c
    cases h
    refine ⟨[(0, LpQ)], 10, loopsOk_ix 1 (by kernel_rfl) ⟨trivial, loopOk_here (n := 0) (by kernel_rfl) rfl loopQ⟩, (t_mnew z n ⟨a, l, b, c⟩ _).trans ?_⟩
    have hz := clamp_spec z 128 1024 (by omega)
    have hn := clamp_spec n 4 1024 (by omega)
    obtain ⟨e1, e2, e3, e4, _, _⟩ := gaQ_spec z n ⟨a, l, b, c⟩
    refine chain_step' (and2 (and2 (decide_eq_true rfl) (decide_eq_true (by omega))) (decide_eq_true (by omega))) (chain_step' (and2 (decide_eq_true (by rw [ai0]; omega)) (bytesOk_zero _ _)) (chain_step' ?_ (chain_step' ?_ ?_)))
    · unfold chkQ
      simp only [Bool.and_eq_true, decide_eq_true_eq]
      exact ⟨rfl, rfl, rfl, rfl, chkRo_true (dec := decS) (enc := encS) (fun _ => rfl) fun _ => ByteArray.empty, chkRo_true (dec := decS) (enc := encS) (fun _ => rfl) fun _ => ByteArray.empty, chkRo_true (dec := decI) (enc := encI) (fun _ => rfl) fun _ => (0 : Int), chkRo_true (dec := decS) (enc := encS) (fun _ => rfl) fun _ => ByteArray.empty⟩
    · unfold okQ
      simp only [Bool.and_eq_true, decide_eq_true_eq]
      refine ⟨?_, hn.2⟩
      show ((0 : Nat) : Int) ≤ clampV n 4 1024
      omega
    · show cond (gaQ z n ⟨a, l, b, c⟩).1 none _ = _
      rw [e1, cond_false, e3]
      show some _ = some (_, [some (cRF ⟨a, l, b, c⟩)] ++ (cAN (mnewV z n ⟨a, l, b, c⟩) :: rowsA (mnewV z n ⟨a, l, b, c⟩)).map some)
      unfold cQ
      rw [e2]
      rfl
  · cases h
theorem zr_eq (z : Int) : zr z = repB ⟨#[0]⟩ (clampV z 128 1024).toNat := by
  apply ba_ext
  have h := fill_list 0 (clampV z 128 1024).toNat
  have e : (⟨#[0]⟩ : ByteArray) = oneB 0 := rfl
  rw [e, h]
  show (List.map (fun n : Int => UInt8.ofNat n.toNat) ((List.range (clampV z 128 1024).toNat).map fun j => Sx.byteOf [CV.int .u8 0])).toArray.toList = _
  rw [List.map_map]
  show List.map (fun _ => (0 : UInt8)) (List.range (clampV z 128 1024).toNat) = List.replicate _ 0
  rw [List.map_const', List.length_range]
end Go.Proofs.Ytkkacjmjjhjpeaa.Dk

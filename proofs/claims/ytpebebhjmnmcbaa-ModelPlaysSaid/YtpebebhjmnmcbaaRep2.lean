/- What the methods of a slot's replicas come to, part 2. No condition. -/
import Derived.Test.YtpebebhjmnmcbaaRep
set_option maxRecDepth 100000
set_option linter.unusedSimpArgs false
set_option linter.unusedVariables false
namespace Go.Proofs.Ytpebebhjmnmcbaa.Rep
open Go Go.Proofs.Ytpebebhjmnmcbaa.Sx
def selL (f : Nat → Bool) : List Bool := [f 0, f 1, f 2, f 3, f 4, f 5, f 6, f 7, f 8, f 9, f 10, f 11, f 12, f 13, f 14, f 15, f 16, f 17, f 18, f 19, f 20, f 21, f 22, f 23, f 24, f 25, f 26, f 27, f 28, f 29, f 30, f 31]
theorem sel32 (f : Nat → Bool) : ∀ (n : Nat), n < 32 → selB (n : Int) 0 (selL f) = f n
  | 0, _ => rfl
  | 1, _ => rfl
  | 2, _ => rfl
  | 3, _ => rfl
  | 4, _ => rfl
  | 5, _ => rfl
  | 6, _ => rfl
  | 7, _ => rfl
  | 8, _ => rfl
  | 9, _ => rfl
  | 10, _ => rfl
  | 11, _ => rfl
  | 12, _ => rfl
  | 13, _ => rfl
  | 14, _ => rfl
  | 15, _ => rfl
  | 16, _ => rfl
  | 17, _ => rfl
  | 18, _ => rfl
  | 19, _ => rfl
  | 20, _ => rfl
  | 21, _ => rfl
  | 22, _ => rfl
  | 23, _ => rfl
  | 24, _ => rfl
  | 25, _ => rfl
  | 26, _ => rfl
  | 27, _ => rfl
  | 28, _ => rfl
  | 29, _ => rfl
  | 30, _ => rfl
  | 31, _ => rfl
  | n + 32, h => by omega
def capN (n : Int) : Int := foldMin (foldMax n [0]) [32]
theorem capN_b (n : Int) : 0 ≤ capN n ∧ capN n ≤ 32 := by
  unfold capN foldMin foldMax foldMax foldMin
  constructor <;> (repeat' split) <;> omega

/-! ### New, Want, Ready -/
@[reducible] def z0 : Sl := mkS 0 fun _ => false
noncomputable def g_snew : List SV → List SB → Option Out
  | [], [] => some ⟨true, .s (.c (.ptr 0 0)), [], [.cells (encSl z0)]⟩
  | _, _ => none
theorem ok_snew : SumOk Try.prog 58 (genSum g_snew) := by
  refine sumOk_gen okS0 mixed Try.func58 (c := bodyOf Try.f58) (by kernel_rfl) (by kernel_rfl) ?_
  intro args hp x h _ _
  unfold g_snew at h
  split at h
  · cases h; exact ⟨10, by kernel_rfl⟩
  · cases h
theorem t_swant {R : Type} (s : Sl) (K : TV → List (Option SB) → Option R) : runFn Try.prog S0 10 Try.f60 (bodyOf Try.f60) [.c (.ptr 0 0)] [.cells (encSl s)] K = K (.s (i64 s.want)) [some (.cells (encSl s))] := by kernel_rfl
noncomputable def g_swant : Sl → List SV → Option (Bool × TV × Option Sl)
  | s, [] => some (true, .s (i64 s.want), none)
  | _, _ => none
theorem ok_swant : SumOk Try.prog 60 (ptrValC encSl decSl g_swant) := by
  refine sumOk_ptrC okS0 mixed Try.func60 (c := bodyOf Try.f60) (by kernel_rfl) (by kernel_rfl) decSl_spec encSl_ren ?_
  intro s rest tv s' h
  unfold g_swant at h
  split at h
  · cases h; exact ⟨fun _ => rfl, fun _ => rfl, [], 10, LoopsOk.nil, t_swant s _⟩
  · cases h
def sreadyB (s : Sl) (i : Int) : Bool := bif decide (i < 0) then false else bif decide (i ≥ s.want) then false else true
def sreadyS (s : Sl) (i : Int) (b : Bool) : Sl := bif sreadyB s i then mkS s.want (fun j => bif i == (j : Int) then b else s.f j) else s
theorem t_sready {R : Type} (s : Sl) (i : Int) (b : Bool) (K : TV → List (Option SB) → Option R) : runFn Try.prog S0 10 Try.f61 (bodyOf Try.f61) [.c (.ptr 0 0), .c (.int .i64 i), .c (.bool b)] [.cells (encSl s)] K =
    bif decide (i < 0) then K (.s (bl false)) [some (.cells (encSl s))] else bif decide (i ≥ s.want) then K (.s (bl false)) [some (.cells (encSl s))] else bif decide (0 ≤ i) && decide (i < 32) then K (.s (bl true)) [some (.cells (encSl (mkS s.want fun j => bif i == (j : Int) then b else s.f j)))] else none := by kernel_rfl
noncomputable def g_sready : Sl → List SV → Option (Bool × TV × Option Sl)
  | s, [.c (.int .i64 i), .c (.bool b)] => some (decide (s.want ≤ 32), .s (bl (sreadyB s i)), some (sreadyS s i b))
  | _, _ => none
theorem ok_sready : SumOk Try.prog 61 (ptrValC encSl decSl g_sready) := by
  refine sumOk_ptrC okS0 mixed Try.func61 (c := bodyOf Try.f61) (by kernel_rfl) (by kernel_rfl) decSl_spec encSl_ren ?_
  intro s rest tv s' h
  unfold g_sready at h
  split at h
  · rename_i i b
    simp only [Option.some.injEq, Prod.mk.injEq] at h
    obtain ⟨hp1, rfl, rfl⟩ := h
    rw [decide_eq_true_eq] at hp1
    refine ⟨fun _ => rfl, fun _ => rfl, [], 10, LoopsOk.nil, (t_sready s i b _).trans ?_⟩
    unfold sreadyS sreadyB
    by_cases h1 : i < 0
    · rw [decide_eq_true h1]; rfl
    · by_cases h2 : i ≥ s.want
      · rw [decide_eq_false h1, decide_eq_true h2]; rfl
      · rw [decide_eq_false h1, decide_eq_false h2, decide_eq_true (show 0 ≤ i by omega), decide_eq_true (show i < 32 by omega)]; rfl
  · cases h

/-! ### Scale -/
@[reducible] def SA := Int × Sl
def encSc : SA → Sx.St
  | (i, s) => ⟨[(0, .s (.c (.ptr 0 0))), (4, .s (.c (.int .i64 i)))], [some (.cells (encSl s))], 1, 24⟩
def decSc : Sx.St → Option SA
  | ⟨[(0, .s (.c (.ptr 0 0))), (4, .s (.c (.int .i64 i)))], [some (.cells cs)], 1, 24⟩ => (decSl cs).map fun s => (i, s)
  | _ => none
theorem decSc_spec (st : Sx.St) (p : SA) (h : decSc st = some p) (_ : (fun _ : SA => true) p = true) : st = encSc (id p) := by
  unfold decSc at h
  split at h
  · obtain ⟨s, hs, rfl⟩ := Option.map_eq_some_iff.1 h
    obtain rfl := decSl_spec _ _ hs
    rfl
  · cases h
def cutF (i : Int) (f : Nat → Bool) : Nat → Bool := fun j => bif decide (i ≤ (j : Int)) then false else f j
def finSc (s : Sl) : Sx.St := ⟨[], [some (.cells (encSl s))], 1, 24⟩
noncomputable def tSc (p : SA) (R : Type) (K : Ex → Sx.St → Option R) : Option R := bif decide (0 ≤ p.1 ∧ p.1 ≤ 32) then K (.exit 0) (finSc (mkS p.2.want (cutF p.1 p.2.f))) else none
@[reducible] noncomputable def LSc : List (Nat × LoopSum) := [(0, formSumC decSc (fun _ => true) id tSc)]
theorem roundSc {R : Type} (L : List (Nat × LoopSum)) (i : Int) (s : Sl) (K : Ex → Sx.St → Option R) : roundK Try.prog S0 L 10 1 (resMask Try.f59.results.toList) (lpAt Try.f59 0) (encSc (i, s)) K =
    bif decide (i < 32) then bif decide (0 ≤ i) && decide (i < 32) then K .normal (encSc (IntKind.i64.wrap (i + 1), mkS s.want fun j => bif i == (j : Int) then false else s.f j)) else none else K (.exit 0) (finSc s) := by kernel_rfl
theorem okSc : LoopOk Try.prog S0 LSc 10 1 (resMask Try.f59.results.toList) (lpAt Try.f59 0) (formSumC decSc (fun _ => true) id tSc) := by
  refine LoopOk.ofC decSc_spec (fun p => (32 - p.1).toNat) ?_
  rintro ⟨i, s⟩ R K x h
  unfold tSc at h
  simp only at h
  by_cases hi : 0 ≤ i ∧ i ≤ 32
  · rw [decide_eq_true hi, cond_true] at h
    by_cases h2 : i < 32
    · left
      refine ⟨(i + 1, mkS s.want fun j => bif i == (j : Int) then false else s.f j), by simp only; omega, fun K' => ?_, ?_⟩
      · rw [roundSc, decide_eq_true h2, decide_eq_true hi.1, wi (by omega)]; rfl
      · unfold tSc
        simp only
        rw [decide_eq_true (show 0 ≤ i + 1 ∧ i + 1 ≤ 32 by omega), cond_true]
        have e : mkS s.want (cutF (i + 1) (mkS s.want fun j => bif i == (j : Int) then false else s.f j).f) = mkS s.want (cutF i s.f) := by
          refine mkS_congr _ _ _ fun j hj => ?_
          unfold cutF
          rw [mkS_f _ _ _ hj]
          by_cases a : i + 1 ≤ (j : Int)
          · rw [decide_eq_true a, decide_eq_true (show i ≤ (j : Int) by omega)]; rfl
          · by_cases b : i = (j : Int)
            · rw [decide_eq_false a, decide_eq_true (show i ≤ (j : Int) by omega)]
              have : (i == (j : Int)) = true := by simp [b]
              rw [this]; rfl
            · rw [decide_eq_false a, decide_eq_false (show ¬ i ≤ (j : Int) by omega)]
              have : (i == (j : Int)) = false := by simp [b]
              rw [this]; rfl
        have h' : K (.exit 0) (finSc (mkS s.want (cutF i s.f))) = some x := h
        rw [← e] at h'
        exact h'
    · right
      have : i = 32 := by omega
      subst this
      have e : mkS s.want (cutF 32 s.f) = s := by rfl
      rw [e] at h
      exact ⟨.exit 0, _, by simp, fun K' => by rw [roundSc]; rfl, h⟩
  · rw [decide_eq_false hi] at h
    cases h
theorem loopsSc : LoopsOk Try.prog S0 LSc 10 1 (resMask Try.f59.results.toList) (loopsOf (resMask Try.f59.results.toList) (bodyOf Try.f59) [] (resMask Try.f59.results.toList)) :=
  loopsOk_ix 1 (by kernel_rfl) ⟨trivial, loopOk_here (n := 0) (by kernel_rfl) rfl okSc⟩
def sscale (s : Sl) (n : Int) : Sl := mkS (capN n) (cutF (capN n) s.f)
theorem t_sscale {R : Type} (s : Sl) (n : Int) (K : TV → List (Option SB) → Option R) : runFnL Try.prog S0 LSc 10 Try.f59 (bodyOf Try.f59) [.c (.ptr 0 0), .c (.int .i64 n)] [.cells (encSl s)] K =
    bif decide (0 ≤ capN n ∧ capN n ≤ 32) then K (.tup []) [some (.cells (encSl (sscale s n)))] else none := by kernel_rfl
noncomputable def g_sscale : Sl → List SV → Option (Bool × TV × Option Sl)
  | s, [.c (.int .i64 n)] => some (true, .tup [], some (sscale s n))
  | _, _ => none
theorem ok_sscale : SumOk Try.prog 59 (ptrValC encSl decSl g_sscale) := by
  refine sumOk_ptrC okS0 mixed Try.func59 (c := bodyOf Try.f59) (by kernel_rfl) (by kernel_rfl) decSl_spec encSl_ren ?_
  intro s rest tv s' h
  unfold g_sscale at h
  split at h
  · cases h
    refine ⟨fun _ => rfl, fun _ => rfl, LSc, 10, loopsSc, ?_⟩
    rw [t_sscale, decide_eq_true (capN_b _)]
    rfl
  · cases h

/-! ### Count, Full -/
def cntN (f : Nat → Bool) : Nat → Nat → Int → Int
  | 0, _, n => n
  | k + 1, i, n => cntN f k (i + 1) (bif f i then n + 1 else n)
def scount (s : Sl) : Int := cntN s.f 32 0 0
@[reducible] def CA := Int × Int × Sl
def encCn : CA → Sx.St
  | (i, n, s) => ⟨[(3, .s (.c (.int .i64 n))), (9, .s (.agg (bits s))), (10, .s (.c (.int .i64 i)))], [some (.cells (encSl s))], 1, 18⟩
def decBits : List CV → Option Sl
  | .bool q0 :: .bool q1 :: .bool q2 :: .bool q3 :: .bool q4 :: .bool q5 :: .bool q6 :: .bool q7 :: .bool q8 :: .bool q9 :: .bool q10 :: .bool q11 :: .bool q12 :: .bool q13 :: .bool q14 :: .bool q15 :: .bool q16 :: .bool q17 :: .bool q18 :: .bool q19 :: .bool q20 :: .bool q21 :: .bool q22 :: .bool q23 :: .bool q24 :: .bool q25 :: .bool q26 :: .bool q27 :: .bool q28 :: .bool q29 :: .bool q30 :: .bool q31 :: [] => some (Sl.mk 0 q0 q1 q2 q3 q4 q5 q6 q7 q8 q9 q10 q11 q12 q13 q14 q15 q16 q17 q18 q19 q20 q21 q22 q23 q24 q25 q26 q27 q28 q29 q30 q31)
  | _ => none
theorem decBits_spec (l : List CV) (f : Sl) (h : decBits l = some f) : l = bits f := by
  unfold decBits at h; split at h <;> cases h; rfl
@[reducible] def CB := Int × Int × Sl × Sl
def decCn : Sx.St → Option CB
  | ⟨[(3, .s (.c (.int .i64 n))), (9, .s (.agg l)), (10, .s (.c (.int .i64 i)))], [some (.cells cs)], 1, 18⟩ => (decSl cs).bind fun s => (decBits l).map fun f => (i, n, f, s)
  | _ => none
noncomputable def chkCn : CB → Bool
  | (_, _, f, s) => @decide (bits f = bits s) (Classical.propDecidable _)
def normCn : CB → CA
  | (i, n, _, s) => (i, n, s)
theorem decCn_spec (st : Sx.St) (p : CB) (h : decCn st = some p) (hc : chkCn p = true) : st = encCn (normCn p) := by
  unfold decCn at h
  split at h
  · obtain ⟨s, hs, h⟩ := Option.bind_eq_some_iff.1 h
    obtain ⟨f, hf, rfl⟩ := Option.map_eq_some_iff.1 h
    obtain rfl := decSl_spec _ _ hs
    obtain rfl := decBits_spec _ _ hf
    have hc := (@decide_eq_true_eq _ (Classical.propDecidable _)).mp hc
    unfold normCn encCn
    simp only
    rw [hc]
  · cases h
def finCn (n : Int) (s : Sl) : Sx.St := ⟨[(3, .s (.c (.int .i64 n)))], [some (.cells (encSl s))], 1, 18⟩
noncomputable def tCn (p : CA) (R : Type) (K : Ex → Sx.St → Option R) : Option R := bif decide (0 ≤ p.1 ∧ p.1 ≤ 32 ∧ 0 ≤ p.2.1 ∧ p.2.1 ≤ p.1) then K (.exit 0) (finCn (cntN p.2.2.f (32 - p.1.toNat) p.1.toNat p.2.1) p.2.2) else none
@[reducible] noncomputable def LCn : List (Nat × LoopSum) := [(0, formSumC decCn chkCn normCn tCn)]
theorem roundCn {R : Type} (L : List (Nat × LoopSum)) (i n : Int) (s : Sl) (K : Ex → Sx.St → Option R) : roundK Try.prog S0 L 10 1 (resMask Try.f62.results.toList) (lpAt Try.f62 0) (encCn (i, n, s)) K =
    bif decide (i < 32) then bif decide (0 ≤ i) && decide (i < 32) then bif selB i 0 (selL s.f) then K .normal (encCn (IntKind.i64.wrap (i + 1), IntKind.i64.wrap (n + 1), s)) else K .normal (encCn (IntKind.i64.wrap (i + 1), n, s)) else none else K (.exit 0) (finCn n s) := by kernel_rfl
theorem okCn : LoopOk Try.prog S0 LCn 10 1 (resMask Try.f62.results.toList) (lpAt Try.f62 0) (formSumC decCn chkCn normCn tCn) := by
  refine LoopOk.ofC decCn_spec (fun p => (32 - p.1).toNat) ?_
  rintro ⟨i, n, s⟩ R K x h
  unfold tCn at h
  simp only at h
  by_cases hi : 0 ≤ i ∧ i ≤ 32 ∧ 0 ≤ n ∧ n ≤ i
  · rw [decide_eq_true hi, cond_true] at h
    by_cases h2 : i < 32
    · left
      have hsel : selB i 0 (selL s.f) = s.f i.toNat := by
        have := sel32 s.f i.toNat (by omega)
        rwa [show ((i.toNat : Nat) : Int) = i by omega] at this
      have hst : cntN s.f (32 - i.toNat) i.toNat n = cntN s.f (32 - (i + 1).toNat) (i + 1).toNat (bif s.f i.toNat then n + 1 else n) := by
        rw [show 32 - i.toNat = (32 - (i + 1).toNat) + 1 by omega, show (i + 1).toNat = i.toNat + 1 by omega]
        rfl
      refine ⟨(i + 1, bif s.f i.toNat then n + 1 else n, s), by simp only; omega, fun K' => ?_, ?_⟩
      · rw [roundCn, decide_eq_true h2, decide_eq_true hi.1, hsel, wi (x := i + 1) (by omega), wi (x := n + 1) (by omega)]
        cases s.f i.toNat <;> rfl
      · unfold tCn
        simp only
        rw [hst] at h
        rw [decide_eq_true (show 0 ≤ i + 1 ∧ i + 1 ≤ 32 ∧ 0 ≤ (bif s.f i.toNat then n + 1 else n) ∧ (bif s.f i.toNat then n + 1 else n) ≤ i + 1 by cases s.f i.toNat <;> simp only [cond_true, cond_false] <;> omega), cond_true]
        exact h
    · right
      have : i = 32 := by omega
      subst this
      exact ⟨.exit 0, _, by simp, fun K' => by rw [roundCn]; rfl, h⟩
  · rw [decide_eq_false hi] at h
    cases h
theorem loopsCn : LoopsOk Try.prog S0 LCn 10 1 (resMask Try.f62.results.toList) (loopsOf (resMask Try.f62.results.toList) (bodyOf Try.f62) [] (resMask Try.f62.results.toList)) :=
  loopsOk_ix 1 (by kernel_rfl) ⟨trivial, loopOk_here (n := 0) (by kernel_rfl) rfl okCn⟩
theorem t_scount {R : Type} (s : Sl) (K : TV → List (Option SB) → Option R) : runFnL Try.prog S0 LCn 10 Try.f62 (bodyOf Try.f62) [.c (.ptr 0 0)] [.cells (encSl s)] K =
    bif @decide (bits (Sl.mk 0 s.b0 s.b1 s.b2 s.b3 s.b4 s.b5 s.b6 s.b7 s.b8 s.b9 s.b10 s.b11 s.b12 s.b13 s.b14 s.b15 s.b16 s.b17 s.b18 s.b19 s.b20 s.b21 s.b22 s.b23 s.b24 s.b25 s.b26 s.b27 s.b28 s.b29 s.b30 s.b31) = bits s) (Classical.propDecidable _) then K (.s (i64 (scount s))) [some (.cells (encSl s))] else none := by kernel_rfl
noncomputable def g_scount : Sl → List SV → Option (Bool × TV × Option Sl)
  | s, [] => some (true, .s (i64 (scount s)), none)
  | _, _ => none
theorem ok_scount : SumOk Try.prog 62 (ptrValC encSl decSl g_scount) := by
  refine sumOk_ptrC okS0 mixed Try.func62 (c := bodyOf Try.f62) (by kernel_rfl) (by kernel_rfl) decSl_spec encSl_ren ?_
  intro s rest tv s' h
  unfold g_scount at h
  split at h
  · cases h
    refine ⟨fun _ => rfl, fun _ => rfl, LCn, 10, loopsCn, ?_⟩
    rw [t_scount, @decide_eq_true _ (Classical.propDecidable _) (by rfl)]
    rfl
  · cases h
@[reducible] noncomputable def SC1 : Sums := (62, (ptrValC encSl decSl g_scount)) :: S0
theorem okSC1 : SumsOk Try.prog SC1 := (okS0.cons ok_scount)
theorem cnt_congr {f g : Nat → Bool} : ∀ (k i : Nat) (n : Int), (∀ j, j < k → f (i + j) = g (i + j)) → cntN f k i n = cntN g k i n
  | 0, _, _, _ => rfl
  | k + 1, i, n, h => by
    unfold cntN
    rw [show f i = g i from h 0 (by omega)]
    exact cnt_congr k (i + 1) _ fun j hj => by
      have := h (j + 1) (by omega)
      rwa [show i + (j + 1) = i + 1 + j by omega] at this
end Go.Proofs.Ytpebebhjmnmcbaa.Rep

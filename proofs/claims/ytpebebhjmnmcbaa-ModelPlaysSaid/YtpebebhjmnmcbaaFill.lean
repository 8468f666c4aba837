/- What filling a fleet comes to. No condition. -/
import Derived.Test.YtpebebhjmnmcbaaFleet
set_option maxRecDepth 100000
set_option linter.unusedSimpArgs false
set_option linter.unusedVariables false
namespace Go.Proofs.Ytpebebhjmnmcbaa.Rep
open Go Go.Proofs.Ytpebebhjmnmcbaa.Sx
theorem loopOk_or {P : Program} {Su : Sums} {L : List (Nat × LoopSum)} {fuel keepN rt : Nat} {lp : Lp} {l1 l2 : LoopSum} {d : Sx.St → Bool} (h1 : LoopOk P Su L fuel keepN rt lp l1) (h2 : LoopOk P Su L fuel keepN rt lp l2) : LoopOk P Su L fuel keepN rt lp (fun R st K => bif d st then l1 R st K else l2 R st K) := by
  intro R st K r h
  cases hd : d st with
  | true => simp only [hd, cond_true] at h; exact h1 R st K r h
  | false => simp only [hd, cond_false] at h; exact h2 R st K r h
def fillIt : Nat → Int → Sl → Sl
  | 0, _, s => s
  | k + 1, i, s => fillIt k (i + 1) (sreadyS s i true)
theorem ready_want (s : Sl) (i : Int) (b : Bool) : (sreadyS s i b).want = s.want := by
  unfold sreadyS
  cases sreadyB s i <;> rfl
@[reducible] def FA := Int × Int × Sl × Sl
def enc1 : FA → Sx.St
  | (i, m, a, b) => ⟨[(3, .s (.c (.ptr 1 0))), (8, .s (.agg [.ptr 1 0, .ptr 2 0])), (9, .s (.c (.int .i64 0))), (13, .s (.c (.int .i64 m))), (14, .s (.c (.int .i64 i)))], (hpF a b).map some, 3, 22⟩
def enc2 : FA → Sx.St
  | (i, m, a, b) => ⟨[(3, .s (.c (.ptr 2 0))), (8, .s (.agg [.ptr 1 0, .ptr 2 0])), (9, .s (.c (.int .i64 1))), (13, .s (.c (.int .i64 m))), (14, .s (.c (.int .i64 i)))], (hpF a b).map some, 3, 22⟩
@[reducible] def FB := Int × Int × Int × Sl × Sl
def dec1 : Sx.St → Option FB
  | ⟨[(3, .s (.c (.ptr 1 0))), (8, .s (.agg [.ptr 1 0, .ptr 2 0])), (9, .s (.c (.int .i64 c))), (13, .s (.c (.int .i64 m))), (14, .s (.c (.int .i64 i)))], [some (.cells [.ptr 1 0, .ptr 2 0]), some (.cells x), some (.cells y)], 3, 22⟩ => (decSl x).bind fun a => (decSl y).map fun b => (c, i, m, a, b)
  | _ => none
def dec2 : Sx.St → Option FB
  | ⟨[(3, .s (.c (.ptr 2 0))), (8, .s (.agg [.ptr 1 0, .ptr 2 0])), (9, .s (.c (.int .i64 c))), (13, .s (.c (.int .i64 m))), (14, .s (.c (.int .i64 i)))], [some (.cells [.ptr 1 0, .ptr 2 0]), some (.cells x), some (.cells y)], 3, 22⟩ => (decSl x).bind fun a => (decSl y).map fun b => (c, i, m, a, b)
  | _ => none
def chk1 : FB → Bool
  | (c, _, _, _, _) => c == 0
def chk2 : FB → Bool
  | (c, _, _, _, _) => c == 1
def norm12 : FB → FA
  | (_, i, m, a, b) => (i, m, a, b)
theorem dec1_spec (st : Sx.St) (p : FB) (h : dec1 st = some p) (hc : chk1 p = true) : st = enc1 (norm12 p) := by
  unfold dec1 at h
  split at h
  · obtain ⟨a, ha, h⟩ := Option.bind_eq_some_iff.1 h
    obtain ⟨b, hb, rfl⟩ := Option.map_eq_some_iff.1 h
    obtain rfl := decSl_spec _ _ ha
    obtain rfl := decSl_spec _ _ hb
    simp only [chk1, beq_iff_eq] at hc
    subst hc
    rfl
  · cases h
theorem dec2_spec (st : Sx.St) (p : FB) (h : dec2 st = some p) (hc : chk2 p = true) : st = enc2 (norm12 p) := by
  unfold dec2 at h
  split at h
  · obtain ⟨a, ha, h⟩ := Option.bind_eq_some_iff.1 h
    obtain ⟨b, hb, rfl⟩ := Option.map_eq_some_iff.1 h
    obtain rfl := decSl_spec _ _ ha
    obtain rfl := decSl_spec _ _ hb
    simp only [chk2, beq_iff_eq] at hc
    subst hc
    rfl
  · cases h
def finFi (c : Int) (a b : Sl) : Sx.St := ⟨[(8, .s (.agg [.ptr 1 0, .ptr 2 0])), (9, .s (.c (.int .i64 c)))], (hpF a b).map some, 3, 22⟩
noncomputable def t1 (p : FA) (R : Type) (K : Ex → Sx.St → Option R) : Option R := bif decide (0 ≤ p.1 ∧ p.1 ≤ p.2.1 ∧ p.2.1 = p.2.2.1.want ∧ p.2.1 ≤ 32) then K (.exit 2) (finFi 0 (fillIt (p.2.1 - p.1).toNat p.1 p.2.2.1) p.2.2.2) else none
noncomputable def t2 (p : FA) (R : Type) (K : Ex → Sx.St → Option R) : Option R := bif decide (0 ≤ p.1 ∧ p.1 ≤ p.2.1 ∧ p.2.1 = p.2.2.2.want ∧ p.2.1 ≤ 32) then K (.exit 2) (finFi 1 p.2.2.1 (fillIt (p.2.1 - p.1).toNat p.1 p.2.2.2)) else none
def isOne : Sx.St → Bool
  | ⟨(_, .s (.c (.ptr 1 0))) :: _, _, _, _⟩ => true
  | _ => false
@[reducible] noncomputable def LFi : List (Nat × LoopSum) := [(2, fun R st K => bif isOne st then formSumC dec1 chk1 norm12 t1 R st K else formSumC dec2 chk2 norm12 t2 R st K)]
theorem round1 {R : Type} (L : List (Nat × LoopSum)) (i m : Int) (a b : Sl) (K : Ex → Sx.St → Option R) : roundK Try.prog FS1 L 10 3 (resMask Try.f35.results.toList) (lpAt Try.f35 1) (enc1 (i, m, a, b)) K =
    bif decide (i < m) then bif decide (a.want ≤ 32) then K .normal (enc1 (IntKind.i64.wrap (i + 1), m, sreadyS a i true, b)) else none else K (.exit 2) (finFi 0 a b) := by kernel_rfl
theorem round2 {R : Type} (L : List (Nat × LoopSum)) (i m : Int) (a b : Sl) (K : Ex → Sx.St → Option R) : roundK Try.prog FS1 L 10 3 (resMask Try.f35.results.toList) (lpAt Try.f35 1) (enc2 (i, m, a, b)) K =
    bif decide (i < m) then bif decide (b.want ≤ 32) then K .normal (enc2 (IntKind.i64.wrap (i + 1), m, a, sreadyS b i true)) else none else K (.exit 2) (finFi 1 a b) := by kernel_rfl
theorem okF1 : LoopOk Try.prog FS1 LFi 10 3 (resMask Try.f35.results.toList) (lpAt Try.f35 1) (formSumC dec1 chk1 norm12 t1) := by
  refine LoopOk.ofC dec1_spec (fun p => (p.2.1 - p.1).toNat) ?_
  rintro ⟨i, m, a, b⟩ R K x h
  unfold t1 at h
  simp only at h
  by_cases hi : 0 ≤ i ∧ i ≤ m ∧ m = a.want ∧ m ≤ 32
  · rw [decide_eq_true hi, cond_true] at h
    by_cases h2 : i < m
    · left
      refine ⟨(i + 1, m, sreadyS a i true, b), by simp only; omega, fun K' => ?_, ?_⟩
      · rw [round1, decide_eq_true h2, decide_eq_true (show a.want ≤ 32 by omega), wi (by omega)]; rfl
      · unfold t1
        simp only
        rw [show (m - i).toNat = (m - (i + 1)).toNat + 1 by omega] at h
        rw [decide_eq_true (show 0 ≤ i + 1 ∧ i + 1 ≤ m ∧ m = (sreadyS a i true).want ∧ m ≤ 32 by rw [ready_want]; exact ⟨by omega, by omega, hi.2.2⟩), cond_true]
        exact h
    · right
      have : i = m := by omega
      subst this
      rw [show (i - i).toNat = 0 by omega] at h
      exact ⟨.exit 2, _, by simp, fun K' => by rw [round1, decide_eq_false h2]; rfl, h⟩
  · rw [decide_eq_false hi] at h
    cases h
theorem okF2 : LoopOk Try.prog FS1 LFi 10 3 (resMask Try.f35.results.toList) (lpAt Try.f35 1) (formSumC dec2 chk2 norm12 t2) := by
  refine LoopOk.ofC dec2_spec (fun p => (p.2.1 - p.1).toNat) ?_
  rintro ⟨i, m, a, b⟩ R K x h
  unfold t2 at h
  simp only at h
  by_cases hi : 0 ≤ i ∧ i ≤ m ∧ m = b.want ∧ m ≤ 32
  · rw [decide_eq_true hi, cond_true] at h
    by_cases h2 : i < m
    · left
      refine ⟨(i + 1, m, a, sreadyS b i true), by simp only; omega, fun K' => ?_, ?_⟩
      · rw [round2, decide_eq_true h2, decide_eq_true (show b.want ≤ 32 by omega), wi (by omega)]; rfl
      · unfold t2
        simp only
        rw [show (m - i).toNat = (m - (i + 1)).toNat + 1 by omega] at h
        rw [decide_eq_true (show 0 ≤ i + 1 ∧ i + 1 ≤ m ∧ m = (sreadyS b i true).want ∧ m ≤ 32 by rw [ready_want]; exact ⟨by omega, by omega, hi.2.2⟩), cond_true]
        exact h
    · right
      have : i = m := by omega
      subst this
      rw [show (i - i).toNat = 0 by omega] at h
      exact ⟨.exit 2, _, by simp, fun K' => by rw [round2, decide_eq_false h2]; rfl, h⟩
  · rw [decide_eq_false hi] at h
    cases h
theorem loopsFi : LoopsOk Try.prog FS1 LFi 10 3 (resMask Try.f35.results.toList) (loopsOf (resMask Try.f35.results.toList) (bodyOf Try.f35) [] (resMask Try.f35.results.toList)) :=
  loopsOk_ix 2 (by kernel_rfl) ⟨⟨trivial, loopOk_none (n := 0) (by kernel_rfl) rfl⟩, loopOk_here (n := 2) (by kernel_rfl) rfl (loopOk_or okF1 okF2)⟩
theorem t_ffill {R : Type} (a b : Sl) (K : TV → List (Option SB) → Option R) : runFnL Try.prog FS1 LFi 10 Try.f35 (bodyOf Try.f35) [.c (.ptr 0 0)] (hpF a b) K =
    bif decide (0 ≤ (0 : Int) ∧ 0 ≤ a.want ∧ a.want = a.want ∧ a.want ≤ 32) then bif decide (0 ≤ (0 : Int) ∧ 0 ≤ b.want ∧ b.want = b.want ∧ b.want ≤ 32) then K (.tup []) ((hpF (fillIt (a.want - 0).toNat 0 a) (fillIt (b.want - 0).toNat 0 b)).map some) else none else none := by kernel_rfl
@[reducible] def ffill (s : Sl) : Sl := fillIt (s.want - 0).toNat 0 s
noncomputable def g_ffill : List SV → List SB → Option Out
  | [.c (.ptr 0 0)], hp => (decF hp).map fun x => ⟨decide (0 ≤ x.1.want) && decide (x.1.want ≤ 32) && (decide (0 ≤ x.2.want) && decide (x.2.want ≤ 32)), .tup [], (hpF (ffill x.1) (ffill x.2)).map some, []⟩
  | _, _ => none
theorem ok_ffill : SumOk Try.prog 35 (genSum g_ffill) := by
  refine sumOk_genL okFS1 mixed Try.func35 (c := bodyOf Try.f35) (by kernel_rfl) (by kernel_rfl) ?_
  intro args hp x h hp1 hlen
  clear hlen
  unfold g_ffill at h
  split at h
  · obtain ⟨⟨a, b⟩, ha, h⟩ := Option.map_eq_some_iff.1 h
    cases h
    obtain rfl := decF_spec ha
    have hp1 : (decide (0 ≤ a.want) && decide (a.want ≤ 32) && (decide (0 ≤ b.want) && decide (b.want ≤ 32))) = true := hp1
    simp only [Bool.and_eq_true, decide_eq_true_eq] at hp1
    refine ⟨LFi, 10, loopsFi, ?_⟩
    simp only [List.map_nil, List.append_nil]
    refine (t_ffill a b _).trans ?_
    rw [decide_eq_true (show 0 ≤ (0 : Int) ∧ 0 ≤ a.want ∧ a.want = a.want ∧ a.want ≤ 32 by omega), decide_eq_true (show 0 ≤ (0 : Int) ∧ 0 ≤ b.want ∧ b.want = b.want ∧ b.want ≤ 32 by omega)]
    rfl
  · cases h
@[reducible] noncomputable def FL0 : Sums := (31, (genSum g_fnew)) :: (34, (genSum g_fapply)) :: (56, (genSum g_fready)) :: (37, (genSum g_fview)) :: (35, (genSum g_ffill)) :: S0
theorem okFL0 : SumsOk Try.prog FL0 := (((((okS0.cons ok_ffill).cons ok_fview).cons ok_fready).cons ok_fapply).cons ok_fnew)
end Go.Proofs.Ytpebebhjmnmcbaa.Rep

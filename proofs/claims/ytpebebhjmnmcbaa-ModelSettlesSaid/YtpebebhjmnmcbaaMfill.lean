/- What filling a model comes to. No condition. -/
import Derived.Test.YtpebebhjmnmcbaaMset2
set_option maxRecDepth 100000
set_option linter.unusedSimpArgs false
set_option linter.unusedVariables false
namespace Go.Proofs.Ytpebebhjmnmcbaa.Md
open Go Go.Proofs.Ytpebebhjmnmcbaa.Sx
@[reducible] noncomputable def PX : Sums := (29, genSum g_mready) :: S0
theorem okPX : SumsOk Try.prog PX := okS0.cons ok_mready
noncomputable def fillO : Nat → Int → Md → Md
  | 0, _, m => m
  | k + 1, c, m => fillO k (c + 1) (fillK c 32 0 m)
theorem small_ready (m : Md) (slot i : Int) (on : Bool) : small (readyM m slot i on) = small m := by
  have h : (readyM m slot i on).a.want = m.a.want ∧ (readyM m slot i on).b.want = m.b.want := by
    unfold readyM Rep.fready
    by_cases h0 : slot = 0
    · simp only [if_pos h0]; exact ⟨Rep.ready_want .., trivial⟩
    · by_cases h1 : slot = 1
      · simp only [if_neg h0, if_pos h1]; exact ⟨trivial, Rep.ready_want ..⟩
      · simp only [if_neg h0, if_neg h1]; exact ⟨trivial, trivial⟩
  unfold small
  rw [h.1, h.2]
theorem small_fillK (slot : Int) : ∀ (k : Nat) (i : Int) (m : Md), small (fillK slot k i m) = small m
  | 0, _, _ => rfl
  | k + 1, i, m => (small_fillK slot k (i + 1) _).trans (small_ready ..)
@[reducible] def FI := Int × Int × Int × Md × Nat × (Nat → List CV)
def encF2 : FI → Sx.St
  | (c, slot, i, m, N, ge) => ⟨[(0, .s (.c (.ptr 0 0))), (2, .s (.c (.int .i64 slot))), (4, .s (.c (.int .i64 c))), (7, .s (.c (.int .i64 i)))], (hpM m N ge).map some, 7, 16⟩
def decF2 : Sx.St → Option FI
  | ⟨[(0, .s (.c (.ptr 0 0))), (2, .s (.c (.int .i64 slot))), (4, .s (.c (.int .i64 c))), (7, .s (.c (.int .i64 i)))], [some b0, some b1, some b2, some b3, some b4, some b5, some b6], 7, 16⟩ => (decM [b0, b1, b2, b3, b4, b5, b6]).map fun p => (c, slot, i, p.1, p.2.1, p.2.2)
  | _ => none
theorem decF2_spec (st : Sx.St) (p : FI) (h : decF2 st = some p) (_ : (fun _ : FI => true) p = true) : st = encF2 (id p) := by
  unfold decF2 at h
  split at h
  · obtain ⟨⟨m, N, ge⟩, hm, h⟩ := Option.map_eq_some_iff.1 h
    cases h
    have hv := decM_spec hm
    simp only [List.cons.injEq, and_true] at hv
    obtain ⟨rfl, rfl, rfl, rfl, rfl, rfl, rfl⟩ := hv
    rfl
  · cases h
def finF2 (c : Int) (m : Md) (N : Nat) (ge : Nat → List CV) : Sx.St := ⟨[(0, .s (.c (.ptr 0 0))), (4, .s (.c (.int .i64 c)))], (hpM m N ge).map some, 7, 16⟩
noncomputable def tF2 (p : FI) (R : Type) (K : Ex → Sx.St → Option R) : Option R := match p with
  | (c, slot, i, m, N, ge) => bif decide (0 ≤ i ∧ i ≤ 32) && small m then K (.exit 2) (finF2 c (fillK slot (32 - i).toNat i m) N ge) else none
@[reducible] def FO := Int × Md × Nat × (Nat → List CV)
def encF0 : FO → Sx.St
  | (c, m, N, ge) => ⟨[(0, .s (.c (.ptr 0 0))), (4, .s (.c (.int .i64 c)))], (hpM m N ge).map some, 7, 16⟩
def decF0 : Sx.St → Option FO
  | ⟨[(0, .s (.c (.ptr 0 0))), (4, .s (.c (.int .i64 c)))], [some b0, some b1, some b2, some b3, some b4, some b5, some b6], 7, 16⟩ => (decM [b0, b1, b2, b3, b4, b5, b6]).map fun p => (c, p.1, p.2.1, p.2.2)
  | _ => none
theorem decF0_spec (st : Sx.St) (p : FO) (h : decF0 st = some p) (_ : (fun _ : FO => true) p = true) : st = encF0 (id p) := by
  unfold decF0 at h
  split at h
  · obtain ⟨⟨m, N, ge⟩, hm, h⟩ := Option.map_eq_some_iff.1 h
    cases h
    have hv := decM_spec hm
    simp only [List.cons.injEq, and_true] at hv
    obtain ⟨rfl, rfl, rfl, rfl, rfl, rfl, rfl⟩ := hv
    rfl
  · cases h
def finF0 (m : Md) (N : Nat) (ge : Nat → List CV) : Sx.St := ⟨[], (hpM m N ge).map some, 7, 16⟩
noncomputable def tF0 (p : FO) (R : Type) (K : Ex → Sx.St → Option R) : Option R := match p with
  | (c, m, N, ge) => bif decide (0 ≤ c ∧ c ≤ 2) && small m then K (.exit 0) (finF0 (fillO (2 - c).toNat c m) N ge) else none
@[reducible] noncomputable def LF : List (Nat × LoopSum) := [(0, formSumC decF0 (fun _ => true) id tF0), (2, formSumC decF2 (fun _ => true) id tF2)]
theorem roundF2 {R : Type} (L : List (Nat × LoopSum)) (c slot i : Int) (m : Md) (N : Nat) (ge : Nat → List CV) (K : Ex → Sx.St → Option R) : roundK Try.prog PX L 20 7 (resMask Try.f15.results.toList) (lpAt Try.f15 1) (encF2 (c, slot, i, m, N, ge)) K =
    bif decide (i < 32) then bif small m then K .normal (encF2 (c, slot, IntKind.i64.wrap (i + 1), readyM m slot i true, N, ge)) else none else K (.exit 2) (finF2 c m N ge) := by kernel_rfl
theorem roundF0 {R : Type} (c : Int) (m : Md) (N : Nat) (ge : Nat → List CV) (K : Ex → Sx.St → Option R) : roundK Try.prog PX LF 20 7 (resMask Try.f15.results.toList) (lpAt Try.f15 0) (encF0 (c, m, N, ge)) K =
    bif decide (c < 2) then bif decide (0 ≤ (0 : Int) ∧ (0 : Int) ≤ 32) && small m then K .normal (encF0 (IntKind.i64.wrap (c + 1), fillK c (32 - (0 : Int)).toNat 0 m, N, ge)) else none else K (.exit 0) (finF0 m N ge) := by kernel_rfl
theorem okF2 (L : List (Nat × LoopSum)) : LoopOk Try.prog PX L 20 7 (resMask Try.f15.results.toList) (lpAt Try.f15 1) (formSumC decF2 (fun _ => true) id tF2) := by
  refine LoopOk.ofC decF2_spec (fun p => (32 - p.2.2.1).toNat) ?_
  rintro ⟨c, slot, i, m, N, ge⟩ R K x h
  unfold tF2 at h
  simp only [id] at h
  cases hc : decide (0 ≤ i ∧ i ≤ 32) && small m with
  | false => rw [hc] at h; cases h
  | true =>
    rw [hc, cond_true] at h
    simp only [Bool.and_eq_true, decide_eq_true_eq] at hc
    obtain ⟨h1, h2⟩ := hc
    by_cases hi : i < 32
    · left
      refine ⟨(c, slot, i + 1, readyM m slot i true, N, ge), by simp only; omega, fun K' => by rw [roundF2, decide_eq_true hi, h2, wi (x := i + 1) (by omega)]; rfl, ?_⟩
      unfold tF2
      simp only [id]
      rw [show (32 - i).toNat = (32 - (i + 1)).toNat + 1 by omega] at h
      rw [decide_eq_true (show 0 ≤ i + 1 ∧ i + 1 ≤ 32 by omega), small_ready, h2]
      exact h
    · right
      rw [show (32 - i).toNat = 0 by omega] at h
      exact ⟨.exit 2, _, by simp, fun K' => by rw [roundF2, decide_eq_false hi]; rfl, h⟩
theorem okF0 : LoopOk Try.prog PX LF 20 7 (resMask Try.f15.results.toList) (lpAt Try.f15 0) (formSumC decF0 (fun _ => true) id tF0) := by
  refine LoopOk.ofC decF0_spec (fun p => (2 - p.1).toNat) ?_
  rintro ⟨c, m, N, ge⟩ R K x h
  unfold tF0 at h
  simp only [id] at h
  cases hc : decide (0 ≤ c ∧ c ≤ 2) && small m with
  | false => rw [hc] at h; cases h
  | true =>
    rw [hc, cond_true] at h
    simp only [Bool.and_eq_true, decide_eq_true_eq] at hc
    obtain ⟨h1, h2⟩ := hc
    by_cases hi : c < 2
    · left
      refine ⟨(c + 1, fillK c 32 0 m, N, ge), by simp only; omega, fun K' => by rw [roundF0, decide_eq_true hi, h2, wi (x := c + 1) (by omega)]; rfl, ?_⟩
      unfold tF0
      simp only [id]
      rw [show (2 - c).toNat = (2 - (c + 1)).toNat + 1 by omega] at h
      rw [decide_eq_true (show 0 ≤ c + 1 ∧ c + 1 ≤ 2 by omega), small_fillK, h2]
      exact h
    · right
      rw [show (2 - c).toNat = 0 by omega] at h
      exact ⟨.exit 0, _, by simp, fun K' => by rw [roundF0, decide_eq_false hi]; rfl, h⟩
theorem loopsF : LoopsOk Try.prog PX LF 20 7 (resMask Try.f15.results.toList) (loopsOf (resMask Try.f15.results.toList) (bodyOf Try.f15) [] (resMask Try.f15.results.toList)) :=
  loopsOk_ix 2 (by kernel_rfl) ⟨⟨trivial, loopOk_here (n := 0) (by kernel_rfl) rfl okF0⟩, loopOk_here (n := 2) (by kernel_rfl) rfl (okF2 _)⟩
theorem t_mfill {R : Type} (m : Md) (N : Nat) (ge : Nat → List CV) (K : TV → List (Option SB) → Option R) : runFnL Try.prog PX LF 20 Try.f15 (bodyOf Try.f15) [.c (.ptr 0 0)] (hpM m N ge) K =
    bif decide (0 ≤ (0 : Int) ∧ (0 : Int) ≤ 2) && small m then K (.tup []) ((hpM (fillO (2 - (0 : Int)).toNat 0 m) N ge).map some) else none := by kernel_rfl
noncomputable def g_mfill : List SV → List SB → Option Out
  | [.c (.ptr 0 0)], hp => (decM hp).map fun p => ⟨small p.1, .tup [], (hpM (fillM p.1) p.2.1 p.2.2).map some, []⟩
  | _, _ => none
theorem ok_mfill : SumOk Try.prog 15 (genSum g_mfill) := by
  refine sumOk_genL okPX mixed Try.func15 (c := bodyOf Try.f15) (by kernel_rfl) (by kernel_rfl) ?_
  intro args hp x h hp1 hlen
  clear hlen
  unfold g_mfill at h
  split at h
  · obtain ⟨⟨m, N, ge⟩, hm, h⟩ := Option.map_eq_some_iff.1 h
    cases h
    obtain rfl := decM_spec hm
    have hp1 : small m = true := hp1
    refine ⟨LF, 20, loopsF, ?_⟩
    refine (t_mfill m N ge _).trans ?_
    rw [hp1, decide_eq_true (show (0 : Int) ≤ 0 ∧ (0 : Int) ≤ 2 by omega)]
    rfl
  · cases h
/-- What the law of settling calls. -/
@[reducible] noncomputable def PZ : Sums := (15, genSum g_mfill) :: (18, genSumN g_mstep) :: PL
theorem okPZ : SumsOk Try.prog PZ := (okPL.cons ok_mstep).cons ok_mfill
end Go.Proofs.Ytpebebhjmnmcbaa.Md

/- The laws FuseAll and FuseAnew: true, and no memory that was there is written. -/
import Derived.Test.YtnecfmoccnifcaaFuse
set_option maxRecDepth 100000
set_option linter.unusedSimpArgs false
namespace Go.Proofs.Ytnecfmoccnifcaa.FuseLaw
open Go Go.Proofs.Ytnecfmoccnifcaa.Sx Go.Proofs.Ytnecfmoccnifcaa.Fuse

/-! ### awake -/
@[reducible] def sFuse : Sums := [(13, newSum gNew), (15, ptrVal encF decF gArm), (17, ptrVal encF decF gSpend), (19, ptrVal encF decF gReset), (21, ptrVal encF decF gBlown), (22, ptrVal encF decF gCount)]
theorem okFuse : SumsOk Try.prog sFuse := (((((SumsOk.nil.cons ok_count).cons ok_blown).cons ok_reset).cons ok_spend).cons ok_arm).cons ok_new
def gTrue : List SV → Option TV
  | [] => some (.s (bl true))
  | _ => none
theorem t_awake : runFn Try.prog sFuse 10 Try.f14 (bodyOf Try.f14) [] [] (fun tv hp => some (tv, hp)) = some (.s (bl true), []) := by kernel_rfl
theorem ok_awake : SumOk Try.prog 14 (valSum gTrue) := by
  refine sumOk_val okFuse mixed Try.func14 (c := bodyOf Try.f14) (by kernel_rfl) (by kernel_rfl) ?_
  intro args tv h
  unfold gTrue at h
  split at h
  · cases h
    exact ⟨fun _ => rfl, fun _ => rfl, 10, t_awake⟩
  · cases h
@[reducible] def sLaw : Sums := (14, valSum gTrue) :: sFuse
theorem okLaw : SumsOk Try.prog sLaw := okFuse.cons ok_awake

/-! ### FuseAll -/
@[reducible] def st6 (n m i : Int) (s : F) : St := ⟨[(0, .s (i64 n)), (3, .s (.c (.ptr 0 0))), (21, .s (i64 m)), (22, .s (i64 i))], [some (.cells (encF s))], 1, 50⟩
@[reducible] def x6 (n : Int) (s : F) : St := ⟨[(0, .s (i64 n)), (3, .s (.c (.ptr 0 0)))], [some (.cells (encF s))], 1, 50⟩
@[reducible] def r6 : St := ⟨[(2, .s (bl false))], [], 0, 50⟩
@[reducible] def P6 := Int × Int × Int × F
def enc6 (p : P6) : St := st6 p.1 p.2.1 p.2.2.1 p.2.2.2
def dec6 : St → Option P6
  | ⟨[(0, .s (.c (.int .i64 n))), (3, .s (.c (.ptr 0 0))), (21, .s (.c (.int .i64 m))), (22, .s (.c (.int .i64 i)))], [some (.cells [.int .i64 l, .bool b, .int .i64 c])], 1, 50⟩ => some (n, m, i, ⟨l, b, c⟩)
  | _ => none
theorem dec6_spec (st : St) (p : P6) (h : dec6 st = some p) : st = enc6 p := by
  unfold dec6 at h; split at h <;> cases h; rfl
def good6 (n m i : Int) (s : F) : Bool := decide (n = m ∧ 0 ≤ i ∧ i ≤ n ∧ n ≤ 1000 ∧ s.left = -1 ∧ s.blown = false ∧ s.count = i)
def t6 (p : P6) (R : Type) (K : Ex → St → Option R) : Option R := bif good6 p.1 p.2.1 p.2.2.1 p.2.2.2 then K (.exit 0) (x6 p.1 ⟨-1, false, p.1⟩) else none
@[reducible] def L6 : List (Nat × LoopSum) := [(0, formSum dec6 t6)]
theorem round6 {R : Type} (n m i : Int) (s : F) (K : Ex → St → Option R) : roundK Try.prog sLaw L6 10 0 (resMask Try.f6.results.toList) (lpAt Try.f6 0) (enc6 (n, m, i, s)) K =
    bif decide (i < m) then (bif !spendB s then K .ret r6 else bif (spendF s).blown then K .ret r6 else bif (spendF s).count != IntKind.i64.wrap (i + 1) then K .ret r6 else K .normal (enc6 (n, m, IntKind.i64.wrap (i + 1), spendF s))) else K (.exit 0) (x6 n s) := by kernel_rfl
theorem wi {x : Int} (h : -9223372036854775808 ≤ x ∧ x ≤ 9223372036854775807) : IntKind.i64.wrap x = x := by
  simp [IntKind.wrap, IntKind.bits, IntKind.signed]; omega
theorem ok6 : LoopOk Try.prog sLaw L6 10 0 (resMask Try.f6.results.toList) (lpAt Try.f6 0) (formSum dec6 t6) := by
  refine LoopOk.of dec6_spec (fun p => (p.1 - p.2.2.1).toNat) ?_
  rintro ⟨n, m, i, s⟩ R K r h
  unfold t6 at h
  simp only at h
  cases hg : good6 n m i s with
  | false => rw [hg] at h; cases h
  | true =>
    rw [hg] at h
    simp only [cond_true] at h
    have hg' := hg
    simp only [good6, decide_eq_true_eq] at hg'
    obtain ⟨rfl, h1, h2, h3, h4, h5, h6⟩ := hg'
    obtain ⟨l, b, c⟩ := s
    simp only at h4 h5 h6
    subst h4 h5 h6
    by_cases hi : c < n
    · left
      have e : spendF ⟨-1, false, c⟩ = ⟨-1, false, c + 1⟩ := by
        simp [spendF, out]; exact wi (by omega)
      have eb : spendB ⟨-1, false, c⟩ = true := rfl
      refine ⟨(n, n, c + 1, ⟨-1, false, c + 1⟩), ?_, ?_, ?_⟩
      · simp only; omega
      · intro K'
        rw [round6, e, eb, wi (x := c + 1) (by omega)]
        simp [hi]
      · unfold t6
        have : good6 n n (c + 1) ⟨-1, false, c + 1⟩ = true := by
          unfold good6; rw [decide_eq_true_eq]; refine ⟨rfl, by omega, by omega, h3, rfl, rfl, rfl⟩
        simp only [this, cond_true]
        exact h
    · right
      have : c = n := by omega
      subst this
      refine ⟨.exit 0, _, by simp, fun K' => ?_, h⟩
      rw [round6]
      simp
theorem loops6 : LoopsOk Try.prog sLaw L6 10 0 (resMask Try.f6.results.toList) (loopsOf (resMask Try.f6.results.toList) (bodyOf Try.f6) [] (resMask Try.f6.results.toList)) :=
  loopsOk_ix 1 (by kernel_rfl) ⟨trivial, loopOk_here (n := 0) (by kernel_rfl) rfl ok6⟩
theorem t_FuseAll (n : Int) : runFnL Try.prog sLaw L6 10 Try.f6 (bodyOf Try.f6) [i64 n] [] lawK =
    bif decide (n < 0) then some () else bif decide (n > 1000) then some () else bif good6 n n 0 ⟨-1, false, 0⟩ then (bif (resetF ⟨-1, false, n⟩).count == n then some () else none) else none := by kernel_rfl
theorem FuseAll (a : Int) (_ : (Lit.int .i64 a).wf = true) (w : World) :
    Calls Try.prog 6 #[.int .i64 a] w fun e w' => e = .returned (.bool true) ∧ RowKit.Below w.heap.size w w' := by
  refine law_callsL okLaw mixed Try.func6 (c := bodyOf Try.f6) (by kernel_rfl) lawK_spec (fuel := 10) (args := [i64 a]) (hp0 := []) (X := fun _ _ => False) (ρ := fun _ => none) (vs := [.int .i64 a]) loops6 ?_ ⟨rfl, trivial⟩ (by intro b sb h; simp at h) (fun _ _ => rfl)
  rw [t_FuseAll]
  by_cases c1 : a < 0
  · simp [c1]
  · by_cases c2 : a > 1000
    · simp [c2]
    · have : good6 a a 0 ⟨-1, false, 0⟩ = true := by unfold good6; rw [decide_eq_true_eq]; refine ⟨rfl, by omega, by omega, by omega, rfl, rfl, rfl⟩
      rw [this]
      simp [c1, c2, resetF]
end Go.Proofs.Ytnecfmoccnifcaa.FuseLaw

/- How a router begins, and is scripted; answers that are fixed. No condition. -/
import Derived.Test.YtpebebhjmnmcbaaRt2
set_option maxRecDepth 100000
set_option linter.unusedSimpArgs false
set_option linter.unusedVariables false
namespace Go.Proofs.Ytpebebhjmnmcbaa.Rt
open Go Go.Proofs.Ytpebebhjmnmcbaa.Sx
noncomputable def g_rnew : List SV → List SB → Option Out
  | [.c (.ptr 0 0)], [.cells [.int .i64 l, .bool b, .int .i64 c]] => some ⟨true, .s (.c (.ptr 1 0)), [some (.cells [.int .i64 l, .bool b, .int .i64 c])], [.cells [.int .i64 0, .int .i64 0, .nils, .int .i64 0, .ptr 0 0]]⟩
  | _, _ => none
theorem t_rnew (l c : Int) (b : Bool) : runFn Try.prog S0 10 Try.f32 (bodyOf Try.f32) [.c (.ptr 0 0)] [.cells [.int .i64 l, .bool b, .int .i64 c]] (fun tv hp => some (tv, hp)) =
    some (.s (.c (.ptr 1 0)), [some (.cells [.int .i64 l, .bool b, .int .i64 c]), some (.cells [.int .i64 0, .int .i64 0, .nils, .int .i64 0, .ptr 0 0])]) := by kernel_rfl
theorem ok_rnew : SumOk Try.prog 32 (genSum g_rnew) := by
  refine sumOk_gen okS0 mixed Try.func32 (c := bodyOf Try.f32) (by kernel_rfl) (by kernel_rfl) ?_
  intro args hp x h _ _
  unfold g_rnew at h
  split at h
  · cases h; exact ⟨10, t_rnew ..⟩
  · cases h
noncomputable def g_script : List SV → List SB → Option Out
  | [.c (.ptr 0 0), .c (.slc 1 0 n)], [.cells [.int .i64 a, .int .i64 b, .nils, .int .i64 w, .ptr 2 0], .vec 1 [] (.gen N ge), .cells [.int .i64 l, .bool c, .int .i64 d]] =>
    some ⟨decide (n ≤ N) && decide (n ≤ 4294967296), .tup [], [some (.cells [.int .i64 a, .int .i64 b, .slc 3 0 n, .int .i64 w, .ptr 2 0]), some (.vec 1 [] (.gen N ge)), some (.cells [.int .i64 l, .bool c, .int .i64 d])], [.vec 1 [] (.gen n ge)]⟩
  | _, _ => none
theorem t_script {R : Type} (a b w l d : Int) (c : Bool) (n N : Nat) (ge : Nat → List CV) (K : TV → List (Option SB) → Option R) : runFn Try.prog S0 10 Try.f42 (bodyOf Try.f42) [.c (.ptr 0 0), .c (.slc 1 0 n)]
    [.cells [.int .i64 a, .int .i64 b, .nils, .int .i64 w, .ptr 2 0], .vec 1 [] (.gen N ge), .cells [.int .i64 l, .bool c, .int .i64 d]] K =
    bif decide (n ≤ N) then bif decide (n ≤ 4294967296) then K (.tup []) [some (.cells [.int .i64 a, .int .i64 b, .slc 3 0 n, .int .i64 w, .ptr 2 0]), some (.vec 1 [] (.gen N ge)), some (.cells [.int .i64 l, .bool c, .int .i64 d]), some (.vec 1 [] (.gen n ge))] else none else none := by kernel_rfl
theorem ok_script : SumOk Try.prog 42 (genSum g_script) := by
  refine sumOk_gen okS0 mixed Try.func42 (c := bodyOf Try.f42) (by kernel_rfl) (by kernel_rfl) ?_
  intro args hp x h hp1 _
  unfold g_script at h
  split at h
  · cases h
    simp only [Bool.and_eq_true] at hp1
    exact ⟨10, by rw [t_script, hp1.1, hp1.2]; rfl⟩
  · cases h
@[reducible] noncomputable def SL : Sums := (33, (genSum g_fnew)) :: (32, (genSum g_rnew)) :: (42, (genSum g_script)) :: (95, (genSum g_call)) :: (36, (genSum g_cell)) :: (70, (genSum g_cset)) :: (99, ptrVal encF decF g_spend) :: S0
theorem okSL : SumsOk Try.prog SL := (((((((okS0.cons ok_spend).cons ok_cset).cons ok_cell).cons ok_call).cons ok_script).cons ok_rnew).cons ok_fnew)
def ttV : Bool := true
theorem chkB_of {r : Rou} {N : Nat} {ge : Nat → List CV} (e : ge = fun j => encI (decID (ge j))) (h : r.i0 + r.n ≤ N) : chkB r N ge = true := by
  unfold chkB chkRo
  rw [decide_eq_true h, @decide_eq_true _ (Classical.propDecidable _) e]
  rfl
theorem chkB_cell (r : Rou) (o : Nat → Int) (N : Nat) (ge : Nat → List CV) : chkB (cellV r o).2 N ge = chkB r N ge := rfl
theorem chkB_writes (r : Rou) (o : Nat → Int) (N : Nat) (ge : Nat → List CV) : chkB (writesV r o).2 N ge = chkB r N ge := rfl
theorem setG_n (o : Nat → Int) (to : Cell) (T : Int) : ∀ (k : Nat) (n : Int) (r : Rou), (setG o to T k n r).2.2.i0 + (setG o to T k n r).2.2.n = r.i0 + r.n
  | 0, _, _ => rfl
  | k + 1, n, r => by
    unfold setG
    cases (callV r o to.gen to.slot).1 != 10 <;> simp only [cond_true, cond_false]
    · cases n == T <;> simp only [cond_true, cond_false]
      · rw [setG_n o to T k, call_n]
      · exact call_n ..
    · exact call_n ..
theorem chkB_cset (r : Rou) (o : Nat → Int) (to : Cell) (T : Int) (N : Nat) (ge : Nat → List CV) : chkB (csetV r o to T).2.2 N ge = chkB r N ge := by
  unfold chkB csetV
  rw [setG_n]
noncomputable def triesV (n : Int) : Int := (bif decide (n < 1) then 1 else (bif decide (n > 8) then 8 else n))
@[reducible] def k_tries {R : Type} (K : TV → List (Option SB) → Option R) (v : Int) : Option R := K (.s (.c (.int .i64 (v)))) []
theorem t_tries {R : Type} (n : Int) (K : TV → List (Option SB) → Option R) : runFn Try.prog S0 10 Try.f75 (bodyOf Try.f75) [.c (.int .i64 n)] [] K = k_tries K (triesV n) := by
  refine Eq.trans (b := (bif decide (n < 1) then K (TV.s (SV.c (CV.int IntKind.i64 1))) [] else (bif decide (n > 8) then K (TV.s (SV.c (CV.int IntKind.i64 8))) [] else K (TV.s (SV.c (CV.int IntKind.i64 n))) []))) (by kernel_rfl) ?_
  unfold triesV
  repeat' (first | exact rfl | refine push (k_tries K) ?_ ?_)
noncomputable def g_tries : List SV → Option TV
  | [.c (.int .i64 n)] => some (.s (.c (.int .i64 (triesV n))))
  | _ => none
theorem ok_tries : SumOk Try.prog 75 (valSum g_tries) := by
  refine sumOk_val okS0 mixed Try.func75 (c := bodyOf Try.f75) (by kernel_rfl) (by kernel_rfl) ?_
  intro args tv h
  unfold g_tries at h
  split at h
  · cases h
    exact ⟨fun _ => rfl, fun _ => rfl, 10, t_tries _ _⟩
  · cases h
@[reducible] noncomputable def SM : Sums := (75, valSum g_tries) :: SL
theorem okSM : SumsOk Try.prog SM := (okSL.cons ok_tries)
end Go.Proofs.Ytpebebhjmnmcbaa.Rt

/- The reference's checks, records and plans are the program's. No condition but those that each theorem names. -/
import Derived.Test.YtpebebhjmnmcbaaFold3
import Derived.Test.YtpebebhjmnmcbaaMd9
import Derived.Test.YtpebebhjmnmcbaaMdLaw
set_option maxRecDepth 100000
set_option linter.unusedSimpArgs false
set_option linter.unusedVariables false
namespace Go.Proofs.Ytpebebhjmnmcbaa.Fold
open Go Go.Proofs.Ytpebebhjmnmcbaa.Sx
def upV (n : Int) : Int := bif decide (n < 0) then 0 else IntKind.u64.wrap n
def g_rup : List SV → Option TV
  | [.c (.int .i64 n)] => some (.s (.c (.int .u64 (upV n))))
  | _ => none
theorem t_rup {R : Type} (n : Int) (K : TV → List (Option SB) → Option R) : runFn Try.prog S0 10 Try.f77 (bodyOf Try.f77) [.c (.int .i64 n)] [] K = bif decide (n < 0) then K (.s (.c (.int .u64 0))) [] else K (.s (.c (.int .u64 (IntKind.u64.wrap n)))) [] := by kernel_rfl
theorem ok_rup : SumOk Try.prog 77 (valSum g_rup) := by
  refine sumOk_val okS0 mixed Try.func77 (c := bodyOf Try.f77) (by kernel_rfl) (by kernel_rfl) ?_
  intro args tv h
  unfold g_rup at h
  split at h
  · rename_i n
    cases h
    refine ⟨fun _ => rfl, fun _ => rfl, 10, (t_rup n _).trans ?_⟩
    unfold upV
    cases decide (n < 0) <;> rfl
  · cases h
@[reducible] noncomputable def RU : Sums := (77, (valSum g_rup)) :: S0
theorem okRU : SumsOk Try.prog RU := (okS0.cons ok_rup)
noncomputable def raddV (a : Int) (b : Int) (most : Int) : Int := (bif decide (IntKind.u64.wrap (upV a + upV b) > upV most) then IntKind.i64.wrap (upV most) else IntKind.i64.wrap (IntKind.u64.wrap (upV a + upV b)))
@[reducible] def k_radd {R : Type} (K : TV → List (Option SB) → Option R) (v : Int) : Option R := K (.s (.c (.int .i64 (v)))) []
theorem t_radd {R : Type} (a : Int) (b : Int) (most : Int) (K : TV → List (Option SB) → Option R) : runFn Try.prog RU 10 Try.f55 (bodyOf Try.f55) [.c (.int .i64 a), .c (.int .i64 b), .c (.int .i64 most)] [] K = k_radd K (raddV a b most) := by
  refine Eq.trans (b := (bif decide (IntKind.u64.wrap (upV a + upV b) > upV most) then K (TV.s (SV.c (CV.int IntKind.i64 (IntKind.i64.wrap (upV most))))) [] else K (TV.s (SV.c (CV.int IntKind.i64 (IntKind.i64.wrap (IntKind.u64.wrap (upV a + upV b)))))) [])) (by kernel_rfl) ?_
  unfold raddV
  repeat' (first | exact rfl | refine push (k_radd K) ?_ ?_)
noncomputable def g_radd : List SV → Option TV
  | [.c (.int .i64 a), .c (.int .i64 b), .c (.int .i64 most)] => some (.s (.c (.int .i64 (raddV a b most))))
  | _ => none
theorem ok_radd : SumOk Try.prog 55 (valSum g_radd) := by
  refine sumOk_val okRU mixed Try.func55 (c := bodyOf Try.f55) (by kernel_rfl) (by kernel_rfl) ?_
  intro args tv h
  unfold g_radd at h
  split at h
  · cases h
    exact ⟨fun _ => rfl, fun _ => rfl, 10, t_radd _ _ _ _⟩
  · cases h
/-! ### They are the same -/
theorem inm_eq2 (n l h : Int) : inmV n l h = decide (l ≤ n ∧ n ≤ h) := by
  unfold inmV
  grind
theorem rcheck_eq {s : St} (h : rightV s = true) (o : Ask) (now : Int) : rcheckV s o now = checkV s o now := by
  have hr := right_rt h
  have ha := right_act h
  clear h
  obtain ⟨phase, active, rev0, rev1, want0, want1, passed0, passed1, delay, gen, switch, flip⟩ := s
  obtain ⟨kind, rev, n, dl, pass⟩ := o
  obtain ⟨h1, h2, h3, h4, h5⟩ := hr
  simp only at h1 h2 h3 h4 h5
  refine Eq.symm ?_
  rcases act_iff.1 ha with ha | ha <;> (simp only at ha; subst ha; clear ha) <;>
    simp [checkV, rcheckV, mdeployV, mabortV, gateV, inm_eq2, w0, w1] <;> grind (splits := 100) (gen := 100)
theorem rrecord_eq (o : Ask) : rrecordV o = recordV o := by
  obtain ⟨kind, rev, n, dl, pass⟩ := o
  unfold recordV rrecordV
  grind
theorem uw {x : Int} (h : 0 ≤ x ∧ x < 18446744073709551616) : IntKind.u64.wrap x = x := by
  simp [IntKind.wrap, IntKind.bits, IntKind.signed]; omega
theorem less_p2 {a b : Int} (ha : a ≤ 9223372036854775807) (hb : 0 ≤ b) : lessV a b = if a ≤ b then 0 else a - b := by
  unfold lessV
  by_cases h : a ≤ b
  · simp [h]
  · have e1 : decide (b < 0) = false := by simp; omega
    rw [e1, wi (x := a - b) (by omega)]
    simp [h]
theorem rless_p2 {a b : Int} (ha : a ≤ 9223372036854775807) (hb : 0 ≤ b) : rlessV a b = if a ≤ b then 0 else a - b := by
  unfold rlessV
  by_cases h : a ≤ b
  · simp [h]
  · rw [uw (x := a) (by omega), uw (x := b) (by omega), uw (x := a - b) (by omega), wi (x := a - b) (by omega)]
    have e1 : decide (a - b > 9223372036854775807) = false := by simp; omega
    rw [e1]
    simp [h]
theorem rnext_eq {s : St} (hr : rightV s = true) (v : Vw) {now : Int} (hn : now ≤ 9223372036854775807) : rnextV s v now = nextV s v now := by
  have ht := right_rt hr
  have e1 : lessV now s.flip = rlessV now s.flip := by rw [less_p2 hn ht.flip.1, rless_p2 hn ht.flip.1]
  refine Eq.symm ?_
  unfold nextV rnextV pturnV
  rw [e1]
  generalize fullV s v (IntKind.i64.wrap (1 - s.active)) = f
  generalize rlessV now s.flip = d
  obtain ⟨h1, h2, h3, h4, h5⟩ := ht
  clear e1
  obtain ⟨phase, active, rev0, rev1, want0, want1, passed0, passed1, delay, gen, switch, flip⟩ := s
  simp only at h1 h4
  have hp : phase = 0 ∨ phase = 1 ∨ phase = 2 ∨ phase = 3 ∨ phase = 4 ∨ phase = 5 ∨ phase = 6 ∨ phase = 7 := by omega
  have hs : switch = 0 ∨ switch = 1 ∨ switch = 2 := by omega
  rcases hp with rfl | rfl | rfl | rfl | rfl | rfl | rfl | rfl <;> rcases hs with rfl | rfl | rfl <;> cases f <;> simp <;> grind
theorem radd_eq {t n : Int} (ht : 0 ≤ t ∧ t ≤ 1073741824) (hn : -9223372036854775808 ≤ n ∧ n ≤ 9223372036854775807) : raddV t n 1073741824 = maddV t n 1073741824 := by
  rw [Md.add_tick ht]
  have e1 : upV t = t := by unfold upV; rw [decide_eq_false (by omega), cond_false, uw (by omega)]
  have e2 : upV 1073741824 = 1073741824 := rfl
  have e3 : upV n = max n 0 := by
    unfold upV
    by_cases h : n < 0
    · rw [decide_eq_true h, cond_true]; omega
    · rw [decide_eq_false h, cond_false, uw (by omega)]; omega
  unfold raddV
  rw [e1, e2, e3, uw (x := t + max n 0) (by omega)]
  by_cases h : t + max n 0 > 1073741824
  · rw [decide_eq_true h, cond_true]; rw [wi (by omega)]; omega
  · rw [decide_eq_false h, cond_false, wi (by omega)]; omega
end Go.Proofs.Ytpebebhjmnmcbaa.Fold

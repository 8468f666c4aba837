/- The laws of what may be done: true, and no memory that was there is written. -/
import Derived.Test.YtdnhddnihmigeaaMay
import Derived.Test.YtdnhddnihmigeaaFoldLaw
set_option maxRecDepth 100000
set_option linter.unusedSimpArgs false
set_option linter.unusedVariables false
namespace Go.Proofs.Ytdnhddnihmigeaa.Fold
open Go Go.Proofs.Ytdnhddnihmigeaa.Sx
@[reducible] noncomputable def MD : Sums := (20, valSum g_awake15) :: MC
theorem okMD : SumsOk Try.prog MD := (okMC.cons ok_awake15)
theorem inmV_eq (n l h : Int) : inmV n l h = decide (l ≤ n ∧ n ≤ h) := by
  unfold inmV
  grind
theorem check_eq {s : St} (h : rightV s = true) (o : Ask) (now : Int) : checkV s o now = rcheckV s o now := by
  have hr := right_rt h
  have ha := right_act h
  clear h
  obtain ⟨phase, active, rev0, rev1, want0, want1, passed0, passed1, delay, gen, switch, flip⟩ := s
  obtain ⟨kind, rev, n, dl, pass⟩ := o
  obtain ⟨h1, h2, h3, h4, h5⟩ := hr
  simp only at h1 h2 h3 h4 h5
  rcases act_iff.1 ha with ha | ha <;> (simp only at ha; subst ha; clear ha) <;>
    simp [checkV, rcheckV, mdeployV, mabortV, gateV, inmV_eq, w0, w1] <;> grind (splits := 100) (gen := 100)
theorem t_MayChecks {R : Type} (s : St) (o : Ask) (now : Int) (K : TV → List (Option SB) → Option R) : runFn Try.prog MD 10 Try.f7 (bodyOf Try.f7) [.agg (encSt s), .agg (encAsk o), .c (.int .i64 now)] [] K = (bif !rightV s then K (TV.s (SV.c (CV.bool true))) [] else (bif act s then (bif act s then K (TV.s (SV.c (CV.bool (checkV s o now == rcheckV s o now)))) [] else none) else none)) := by kernel_rfl
theorem MayChecks (s : St) (o : Ask) (now : Int) (q_s : wfSt s) (q_o : wfAsk o) (q_now : (Lit.int .i64 now).wf = true) (w : World) (v_s : Value) (hv_s : ∀ X ρ, (SV.agg (encSt s)).R X ρ v_s) (v_o : Value) (hv_o : ∀ X ρ, (SV.agg (encAsk o)).R X ρ v_o) : Calls Try.prog 7 #[v_s, v_o, .int .i64 now] w fun e w' => e = .returned (.bool true) ∧ RowKit.Below w.heap.size w w' := by
  refine law_calls okMD mixed Try.func7 (c := bodyOf Try.f7) (by kernel_rfl) lawK_spec (fuel := 10) (args := [.agg (encSt s), .agg (encAsk o), .c (.int .i64 now)]) (hp0 := []) (X := fun _ _ => False) (ρ := fun _ => none) (vs := [v_s, v_o, .int .i64 now]) ?_ ⟨hv_s _ _, hv_o _ _, rfl, trivial⟩ (by intro b sb h; simp at h) (fun _ _ => rfl)
  rw [t_MayChecks]
  cases hr : rightV s with
  | false => simp only [cond_true, cond_false, Bool.not_false]; rfl
  | true =>
    simp only [right_act hr, cond_true, cond_false, Bool.not_true]
    exact lawK_b _ (by rw [check_eq hr]; simp)
theorem record_eq (o : Ask) : recordV o = rrecordV o := by
  obtain ⟨kind, rev, n, dl, pass⟩ := o
  unfold recordV rrecordV
  grind
theorem t_MayRecords {R : Type} (o : Ask) (K : TV → List (Option SB) → Option R) : runFn Try.prog MD 10 Try.f8 (bodyOf Try.f8) [.agg (encAsk o)] [] K = K (TV.s (SV.c (CV.bool ((recordV o).kind == (rrecordV o).kind && ((recordV o).rev == (rrecordV o).rev && ((recordV o).n == (rrecordV o).n && ((recordV o).delay == (rrecordV o).delay && ((recordV o).gen == (rrecordV o).gen && ((recordV o).tick == (rrecordV o).tick && ((recordV o).pass == (rrecordV o).pass && ((recordV o).xphase == (rrecordV o).xphase && ((recordV o).xactive == (rrecordV o).xactive && ((recordV o).xrev0 == (rrecordV o).xrev0 && ((recordV o).xrev1 == (rrecordV o).xrev1 && ((recordV o).xwant0 == (rrecordV o).xwant0 && ((recordV o).xwant1 == (rrecordV o).xwant1 && ((recordV o).xpassed0 == (rrecordV o).xpassed0 && ((recordV o).xpassed1 == (rrecordV o).xpassed1 && ((recordV o).xdelay == (rrecordV o).xdelay && ((recordV o).xgen == (rrecordV o).xgen && ((recordV o).xswitch == (rrecordV o).xswitch && ((recordV o).xflip == (rrecordV o).xflip && true)))))))))))))))))))))) [] := by kernel_rfl
theorem MayRecords (o : Ask) (q_o : wfAsk o) (w : World) (v_o : Value) (hv_o : ∀ X ρ, (SV.agg (encAsk o)).R X ρ v_o) : Calls Try.prog 8 #[v_o] w fun e w' => e = .returned (.bool true) ∧ RowKit.Below w.heap.size w w' := by
  refine law_calls okMD mixed Try.func8 (c := bodyOf Try.f8) (by kernel_rfl) lawK_spec (fuel := 10) (args := [.agg (encAsk o)]) (hp0 := []) (X := fun _ _ => False) (ρ := fun _ => none) (vs := [v_o]) ?_ ⟨hv_o _ _, trivial⟩ (by intro b sb h; simp at h) (fun _ _ => rfl)
  rw [t_MayRecords]
  rw [record_eq]
  simp [lawK]
end Go.Proofs.Ytdnhddnihmigeaa.Fold

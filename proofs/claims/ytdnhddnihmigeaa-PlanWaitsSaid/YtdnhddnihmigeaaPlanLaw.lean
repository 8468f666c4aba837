/- The laws of what is to be done: true, and no memory that was there is written. -/
import Derived.Test.YtdnhddnihmigeaaPlan
set_option maxRecDepth 100000
set_option linter.unusedSimpArgs false
set_option linter.unusedVariables false
namespace Go.Proofs.Ytdnhddnihmigeaa.Fold
open Go Go.Proofs.Ytdnhddnihmigeaa.Sx
structure N2 where
  a : Int
  b : Int
  deriving Inhabited
def encN2 (s : N2) : List CV := [.int .i64 s.a, .int .i64 s.b]
def decN2 : List CV → Option N2
  | [.int .i64 a0, .int .i64 a1] => some ⟨a0, a1⟩
  | _ => none
def decN2D : List CV → N2
  | [.int .i64 a0, .int .i64 a1] => ⟨a0, a1⟩
  | _ => default
theorem decN2_spec (l : List CV) (s : N2) (h : decN2 l = some s) : l = encN2 s := by
  unfold decN2 at h; split at h <;> cases h; rfl
theorem encN2_ren (s : N2) (π) : (encN2 s).map (CV.ren π) = encN2 s := rfl
theorem backN2 (s : N2) : decN2D (encN2 s) = s := rfl
structure wfN2 (s : N2) : Prop where
  a : (Lit.int .i64 s.a).wf = true
  b : (Lit.int .i64 s.b).wf = true
theorem opN2 (cvs : List CV) (vs : List Value) (h : LeafRs [.int .i64, .int .i64] cvs vs) : ∃ x, cvs = encN2 x ∧ wfN2 x := by
  obtain ⟨_, _, _, _, rfl, rfl, ⟨a0, rfl, rfl, w0⟩, h0⟩ := h.cons_inv
  obtain ⟨_, _, _, _, rfl, rfl, ⟨a1, rfl, rfl, w1⟩, h1⟩ := h0.cons_inv
  obtain ⟨rfl, rfl⟩ := h1.nil_inv
  exact ⟨⟨a0, a1⟩, rfl, ⟨w0, w1⟩⟩
theorem less_p {a b : Int} (ha : a ≤ 9223372036854775807) (hb : 0 ≤ b) : lessV a b = if a ≤ b then 0 else a - b := by
  unfold lessV
  by_cases h : a ≤ b
  · simp [h]
  · have e1 : decide (b < 0) = false := by simp; omega
    rw [e1, wi (x := a - b) (by omega)]
    simp [h]
theorem uw {x : Int} (h : 0 ≤ x ∧ x < 18446744073709551616) : IntKind.u64.wrap x = x := by
  simp [IntKind.wrap, IntKind.bits, IntKind.signed]; omega
theorem rless_p {a b : Int} (ha : a ≤ 9223372036854775807) (hb : 0 ≤ b) : rlessV a b = if a ≤ b then 0 else a - b := by
  unfold rlessV
  by_cases h : a ≤ b
  · simp [h]
  · rw [uw (x := a) (by omega), uw (x := b) (by omega), uw (x := a - b) (by omega), wi (x := a - b) (by omega)]
    have e1 : decide (a - b > 9223372036854775807) = false := by simp; omega
    rw [e1]
    simp [h]
theorem next_eq {s : St} (hr : rightV s = true) (v : Vw) {now : Int} (hn : now ≤ 9223372036854775807) : nextV s v now = rnextV s v now := by
  have ht := right_rt hr
  have e1 : lessV now s.flip = rlessV now s.flip := by rw [less_p hn ht.flip.1, rless_p hn ht.flip.1]
  unfold nextV rnextV pturnV
  rw [e1]
  generalize fullV s v (IntKind.i64.wrap (1 - s.active)) = f
  generalize rlessV now s.flip = d
  obtain ⟨h1, h2, h3, h4, h5⟩ := ht
  clear e1
  obtain ⟨phase, active, rev0, rev1, want0, want1, passed0, passed1, delay, gen, switch, flip⟩ := s
  simp only at h1 h4
  have hp : phase = 0 ∨ phase = 1 ∨ phase = 2 ∨ phase = 3 ∨ phase = 4 ∨ phase = 5 ∨ phase = 6 ∨ phase = 7 := by omega
  have hs : switch = 0 ∨ switch = 1 ∨ switch = 2 := by omega
  rcases hp with rfl | rfl | rfl | rfl | rfl | rfl | rfl | rfl <;> rcases hs with rfl | rfl | rfl <;> cases f <;> simp <;> grind
theorem t_PlanFull {R : Type} (s : St) (v : Vw) (slot : Int) (K : TV → List (Option SB) → Option R) : runFn Try.prog PD 10 Try.f4 (bodyOf Try.f4) [.agg (encSt s), .agg (encVw v), .c (.int .i64 slot)] [] K = K (TV.s (SV.c (CV.bool (fullV s v slot == fullV s v slot)))) [] := by kernel_rfl
theorem PlanFull (s : St) (v : Vw) (slot : Int) (q_s : wfSt s) (q_v : wfVw v) (q_slot : (Lit.int .i64 slot).wf = true) (w : World) (v_s : Value) (hv_s : ∀ X ρ, (SV.agg (encSt s)).R X ρ v_s) (v_v : Value) (hv_v : ∀ X ρ, (SV.agg (encVw v)).R X ρ v_v) : Calls Try.prog 4 #[v_s, v_v, .int .i64 slot] w fun e w' => e = .returned (.bool true) ∧ RowKit.Below w.heap.size w w' := by
  refine law_calls okPD mixed Try.func4 (c := bodyOf Try.f4) (by kernel_rfl) lawK_spec (fuel := 10) (args := [.agg (encSt s), .agg (encVw v), .c (.int .i64 slot)]) (hp0 := []) (X := fun _ _ => False) (ρ := fun _ => none) (vs := [v_s, v_v, .int .i64 slot]) ?_ ⟨hv_s _ _, hv_v _ _, rfl, trivial⟩ (by intro b sb h; simp at h) (fun _ _ => rfl)
  rw [t_PlanFull]
  simp [lawK]
theorem t_PlanNext {R : Type} (s : St) (v : Vw) (now : Int) (K : TV → List (Option SB) → Option R) : runFn Try.prog PD 10 Try.f3 (bodyOf Try.f3) [.agg (encSt s), .agg (encVw v), .c (.int .i64 now)] [] K = (bif !rightV s then K (TV.s (SV.c (CV.bool true))) [] else (bif (nextV s v now).fst == (rnextV s v now).fst then K (TV.s (SV.c (CV.bool ((nextV s v now).snd.kind == (rnextV s v now).snd.kind && ((nextV s v now).snd.rev == (rnextV s v now).snd.rev && ((nextV s v now).snd.n == (rnextV s v now).snd.n && ((nextV s v now).snd.delay == (rnextV s v now).snd.delay && ((nextV s v now).snd.gen == (rnextV s v now).snd.gen && ((nextV s v now).snd.tick == (rnextV s v now).snd.tick && ((nextV s v now).snd.pass == (rnextV s v now).snd.pass && ((nextV s v now).snd.xphase == (rnextV s v now).snd.xphase && ((nextV s v now).snd.xactive == (rnextV s v now).snd.xactive && ((nextV s v now).snd.xrev0 == (rnextV s v now).snd.xrev0 && ((nextV s v now).snd.xrev1 == (rnextV s v now).snd.xrev1 && ((nextV s v now).snd.xwant0 == (rnextV s v now).snd.xwant0 && ((nextV s v now).snd.xwant1 == (rnextV s v now).snd.xwant1 && ((nextV s v now).snd.xpassed0 == (rnextV s v now).snd.xpassed0 && ((nextV s v now).snd.xpassed1 == (rnextV s v now).snd.xpassed1 && ((nextV s v now).snd.xdelay == (rnextV s v now).snd.xdelay && ((nextV s v now).snd.xgen == (rnextV s v now).snd.xgen && ((nextV s v now).snd.xswitch == (rnextV s v now).snd.xswitch && ((nextV s v now).snd.xflip == (rnextV s v now).snd.xflip && true)))))))))))))))))))))) [] else K (TV.s (SV.c (CV.bool false))) [])) := by kernel_rfl
theorem PlanNext (s : St) (v : Vw) (now : Int) (q_s : wfSt s) (q_v : wfVw v) (q_now : (Lit.int .i64 now).wf = true) (w : World) (v_s : Value) (hv_s : ∀ X ρ, (SV.agg (encSt s)).R X ρ v_s) (v_v : Value) (hv_v : ∀ X ρ, (SV.agg (encVw v)).R X ρ v_v) : Calls Try.prog 3 #[v_s, v_v, .int .i64 now] w fun e w' => e = .returned (.bool true) ∧ RowKit.Below w.heap.size w w' := by
  refine law_calls okPD mixed Try.func3 (c := bodyOf Try.f3) (by kernel_rfl) lawK_spec (fuel := 10) (args := [.agg (encSt s), .agg (encVw v), .c (.int .i64 now)]) (hp0 := []) (X := fun _ _ => False) (ρ := fun _ => none) (vs := [v_s, v_v, .int .i64 now]) ?_ ⟨hv_s _ _, hv_v _ _, rfl, trivial⟩ (by intro b sb h; simp at h) (fun _ _ => rfl)
  rw [t_PlanNext]
  cases hr : rightV s with
  | false => simp only [cond_true, cond_false, Bool.not_false]; rfl
  | true =>
    rw [next_eq hr v (bnd q_now).2]
    simp [lawK]
theorem t_PlanWaits {R : Type} (s : St) (now : Int) (K : TV → List (Option SB) → Option R) : runFn Try.prog PD 10 Try.f5 (bodyOf Try.f5) [.agg (encSt s), .c (.int .i64 now)] [] K = (bif !rightV s then K (TV.s (SV.c (CV.bool true))) [] else (bif s.phase == 0 then K (TV.s (SV.c (CV.bool ((nextV s (Vw.mk s.want0 s.want1 0 0) now).fst == 0)))) [] else (bif s.phase == 1 then K (TV.s (SV.c (CV.bool ((nextV s (Vw.mk s.want0 s.want1 0 0) now).fst == 0)))) [] else (bif s.phase == 2 then K (TV.s (SV.c (CV.bool ((nextV s (Vw.mk s.want0 s.want1 0 0) now).fst == 0)))) [] else (bif s.phase == 4 then K (TV.s (SV.c (CV.bool ((nextV s (Vw.mk s.want0 s.want1 0 0) now).fst == 0)))) [] else (bif (nextV s (Vw.mk s.want0 s.want1 0 0) now).fst == 0 then K (TV.s (SV.c (CV.bool true))) [] else (bif (nextV s (Vw.mk s.want0 s.want1 0 0) now).fst == 4 then K (TV.s (SV.c (CV.bool true))) [] else (bif (nextV s (Vw.mk s.want0 s.want1 0 0) now).fst == 5 then K (TV.s (SV.c (CV.bool true))) [] else K (TV.s (SV.c (CV.bool ((nextV s (Vw.mk s.want0 s.want1 0 0) now).fst == 6)))) [])))))))) := by kernel_rfl
theorem PlanWaits (s : St) (now : Int) (q_s : wfSt s) (q_now : (Lit.int .i64 now).wf = true) (w : World) (v_s : Value) (hv_s : ∀ X ρ, (SV.agg (encSt s)).R X ρ v_s) : Calls Try.prog 5 #[v_s, .int .i64 now] w fun e w' => e = .returned (.bool true) ∧ RowKit.Below w.heap.size w w' := by
  refine law_calls okPD mixed Try.func5 (c := bodyOf Try.f5) (by kernel_rfl) lawK_spec (fuel := 10) (args := [.agg (encSt s), .c (.int .i64 now)]) (hp0 := []) (X := fun _ _ => False) (ρ := fun _ => none) (vs := [v_s, .int .i64 now]) ?_ ⟨hv_s _ _, rfl, trivial⟩ (by intro b sb h; simp at h) (fun _ _ => rfl)
  rw [t_PlanWaits]
  cases hr : rightV s with
  | false => simp only [cond_true, cond_false, Bool.not_false]; rfl
  | true =>
    simp only [cond_true, cond_false, Bool.not_true, lawK_if]
    have ht := right_rt hr
    have ha := right_act hr
    unfold nextV pturnV
    generalize lessV now s.flip = d
    obtain ⟨h1, h2, h3, h4, h5⟩ := ht
    obtain ⟨phase, active, rev0, rev1, want0, want1, passed0, passed1, delay, gen, switch, flip⟩ := s
    simp only at h1 h4
    have hp : phase = 0 ∨ phase = 1 ∨ phase = 2 ∨ phase = 3 ∨ phase = 4 ∨ phase = 5 ∨ phase = 6 ∨ phase = 7 := by omega
    have hs : switch = 0 ∨ switch = 1 ∨ switch = 2 := by omega
    rcases act_iff.1 ha with ha | ha <;> (simp only at ha; subst ha) <;> rcases hp with rfl | rfl | rfl | rfl | rfl | rfl | rfl | rfl <;> rcases hs with rfl | rfl | rfl <;> simp [fullV, w0, w1] <;> grind
theorem t_PlanTime {R : Type} (s : St) (v : Vw) (now : N2) (K : TV → List (Option SB) → Option R) : runFn Try.prog PD 10 Try.f6 (bodyOf Try.f6) [.agg (encSt s), .agg (encVw v), .agg (encN2 now)] [] K = (bif !rightV s then K (TV.s (SV.c (CV.bool true))) [] else (bif (nextV s v (foldMin (selI 0 0 [now.a, now.b]) [selI 1 0 [now.a, now.b]])).fst == (nextV s v (foldMax (selI 0 0 [now.a, now.b]) [selI 1 0 [now.a, now.b]])).fst then K (TV.s (SV.c (CV.bool true))) [] else (bif s.phase == 5 then (bif (nextV s v (foldMin (selI 0 0 [now.a, now.b]) [selI 1 0 [now.a, now.b]])).fst == 0 then K (TV.s (SV.c (CV.bool ((nextV s v (foldMax (selI 0 0 [now.a, now.b]) [selI 1 0 [now.a, now.b]])).fst == 6)))) [] else K (TV.s (SV.c (CV.bool false))) []) else K (TV.s (SV.c (CV.bool false))) []))) := by kernel_rfl
theorem PlanTime (s : St) (v : Vw) (now : N2) (q_s : wfSt s) (q_v : wfVw v) (q_now : wfN2 now) (w : World) (v_s : Value) (hv_s : ∀ X ρ, (SV.agg (encSt s)).R X ρ v_s) (v_v : Value) (hv_v : ∀ X ρ, (SV.agg (encVw v)).R X ρ v_v) (v_now : Value) (hv_now : ∀ X ρ, (SV.agg (encN2 now)).R X ρ v_now) : Calls Try.prog 6 #[v_s, v_v, v_now] w fun e w' => e = .returned (.bool true) ∧ RowKit.Below w.heap.size w w' := by
  refine law_calls okPD mixed Try.func6 (c := bodyOf Try.f6) (by kernel_rfl) lawK_spec (fuel := 10) (args := [.agg (encSt s), .agg (encVw v), .agg (encN2 now)]) (hp0 := []) (X := fun _ _ => False) (ρ := fun _ => none) (vs := [v_s, v_v, v_now]) ?_ ⟨hv_s _ _, hv_v _ _, hv_now _ _, trivial⟩ (by intro b sb h; simp at h) (fun _ _ => rfl)
  rw [t_PlanTime]
  cases hr : rightV s with
  | false => simp only [cond_true, cond_false, Bool.not_false]; rfl
  | true =>
    simp only [cond_true, cond_false, Bool.not_true, lawK_if]
    have ht := right_rt hr
    have n1 := bnd q_now.a
    have n2 := bnd q_now.b
    obtain ⟨a, b⟩ := now
    simp only at n1 n2 ⊢
    unfold nextV pturnV
    obtain ⟨h1, h2, h3, h4, h5⟩ := ht
    rw [less_p (by simp [foldMin, selI]; grind) h5.1, less_p (by simp [foldMax, selI]; grind) h5.1]
    generalize fullV s v (IntKind.i64.wrap (1 - s.active)) = f
    obtain ⟨phase, active, rev0, rev1, want0, want1, passed0, passed1, delay, gen, switch, flip⟩ := s
    simp only at h1 h4
    have hp : phase = 0 ∨ phase = 1 ∨ phase = 2 ∨ phase = 3 ∨ phase = 4 ∨ phase = 5 ∨ phase = 6 ∨ phase = 7 := by omega
    have hs : switch = 0 ∨ switch = 1 ∨ switch = 2 := by omega
    rcases hp with rfl | rfl | rfl | rfl | rfl | rfl | rfl | rfl <;> rcases hs with rfl | rfl | rfl <;> cases f <;> simp [foldMin, foldMax, selI] <;> grind
end Go.Proofs.Ytdnhddnihmigeaa.Fold

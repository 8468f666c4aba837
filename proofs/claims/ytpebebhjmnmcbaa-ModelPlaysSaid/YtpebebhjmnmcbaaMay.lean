/- What may be done, in the program and in its reference. No condition. -/
import Derived.Test.YtpebebhjmnmcbaaFold2
set_option maxRecDepth 100000
set_option linter.unusedSimpArgs false
set_option linter.unusedVariables false
namespace Go.Proofs.Ytpebebhjmnmcbaa.Fold
open Go Go.Proofs.Ytpebebhjmnmcbaa.Sx
structure Ask where
  kind : Int
  rev : Int
  n : Int
  delay : Int
  pass : Bool
  deriving Inhabited
def encAsk (s : Ask) : List CV := [.int .i64 s.kind, .int .i64 s.rev, .int .i64 s.n, .int .i64 s.delay, .bool s.pass]
def decAsk : List CV → Option Ask
  | [.int .i64 a0, .int .i64 a1, .int .i64 a2, .int .i64 a3, .bool a4] => some ⟨a0, a1, a2, a3, a4⟩
  | _ => none
def decAskD : List CV → Ask
  | [.int .i64 a0, .int .i64 a1, .int .i64 a2, .int .i64 a3, .bool a4] => ⟨a0, a1, a2, a3, a4⟩
  | _ => default
theorem decAsk_spec (l : List CV) (s : Ask) (h : decAsk l = some s) : l = encAsk s := by
  unfold decAsk at h; split at h <;> cases h; rfl
theorem encAsk_ren (s : Ask) (π) : (encAsk s).map (CV.ren π) = encAsk s := rfl
theorem backAsk (s : Ask) : decAskD (encAsk s) = s := rfl
structure wfAsk (s : Ask) : Prop where
  kind : (Lit.int .i64 s.kind).wf = true
  rev : (Lit.int .i64 s.rev).wf = true
  n : (Lit.int .i64 s.n).wf = true
  delay : (Lit.int .i64 s.delay).wf = true
theorem opAsk (cvs : List CV) (vs : List Value) (h : LeafRs [.int .i64, .int .i64, .int .i64, .int .i64, .bool] cvs vs) : ∃ x, cvs = encAsk x ∧ wfAsk x := by
  obtain ⟨_, _, _, _, rfl, rfl, ⟨a0, rfl, rfl, w0⟩, h0⟩ := h.cons_inv
  obtain ⟨_, _, _, _, rfl, rfl, ⟨a1, rfl, rfl, w1⟩, h1⟩ := h0.cons_inv
  obtain ⟨_, _, _, _, rfl, rfl, ⟨a2, rfl, rfl, w2⟩, h2⟩ := h1.cons_inv
  obtain ⟨_, _, _, _, rfl, rfl, ⟨a3, rfl, rfl, w3⟩, h3⟩ := h2.cons_inv
  obtain ⟨_, _, _, _, rfl, rfl, ⟨a4, rfl, rfl⟩, h4⟩ := h3.cons_inv
  obtain ⟨rfl, rfl⟩ := h4.nil_inv
  exact ⟨⟨a0, a1, a2, a3, a4⟩, rfl, ⟨w0, w1, w2, w3⟩⟩
noncomputable def inmV (n : Int) (low : Int) (high : Int) : Bool := (bif decide (n ≥ low) then decide (n ≤ high) else false)
@[reducible] def k_inm {R : Type} (K : TV → List (Option SB) → Option R) (v : Bool) : Option R := K (.s (.c (.bool (v)))) []
theorem t_inm {R : Type} (n : Int) (low : Int) (high : Int) (K : TV → List (Option SB) → Option R) : runFn Try.prog S0 10 Try.f81 (bodyOf Try.f81) [.c (.int .i64 n), .c (.int .i64 low), .c (.int .i64 high)] [] K = k_inm K (inmV n low high) := by
  refine Eq.trans (b := (bif decide (n ≥ low) then K (TV.s (SV.c (CV.bool (decide (n ≤ high))))) [] else K (TV.s (SV.c (CV.bool false))) [])) (by kernel_rfl) ?_
  unfold inmV
  repeat' (first | exact rfl | refine push (k_inm K) ?_ ?_)
noncomputable def g_inm : List SV → Option TV
  | [.c (.int .i64 n), .c (.int .i64 low), .c (.int .i64 high)] => some (.s (.c (.bool (inmV n low high))))
  | _ => none
theorem ok_inm : SumOk Try.prog 81 (valSum g_inm) := by
  refine sumOk_val okS0 mixed Try.func81 (c := bodyOf Try.f81) (by kernel_rfl) (by kernel_rfl) ?_
  intro args tv h
  unfold g_inm at h
  split at h
  · cases h
    exact ⟨fun _ => rfl, fun _ => rfl, 10, t_inm _ _ _ _⟩
  · cases h
@[reducible] noncomputable def MA : Sums := (81, valSum g_inm) :: S0
theorem okMA : SumsOk Try.prog MA := (okS0.cons ok_inm)
noncomputable def mdeployV (s : St) (o : Ask) (now : Int) : Int := match s with
  | ⟨phase, active, rev0, rev1, want0, want1, passed0, passed1, delay, gen, switch, flip⟩ => bif active == 0 then (bif !inmV o.rev 1 1073741824 then 1 else (bif !inmV o.n 1 32 then 1 else (bif !inmV o.delay 0 65536 then 1 else (bif decide (now ≥ 1073741824) then 9 else (bif decide (gen > 1048574) then 9 else (bif decide (phase > 2) then 7 else (bif o.rev == selI 0 0 [rev0, rev1] then 8 else 0))))))) else bif active == 1 then (bif !inmV o.rev 1 1073741824 then 1 else (bif !inmV o.n 1 32 then 1 else (bif !inmV o.delay 0 65536 then 1 else (bif decide (now ≥ 1073741824) then 9 else (bif decide (gen > 1048574) then 9 else (bif decide (phase > 2) then 7 else (bif o.rev == selI 1 0 [rev0, rev1] then 8 else 0))))))) else default
@[reducible] def k_mdeploy {R : Type} (K : TV → List (Option SB) → Option R) (v : Int) : Option R := K (.s (.c (.int .i64 (v)))) []
theorem t_mdeploy {R : Type} (s : St) (o : Ask) (now : Int) (K : TV → List (Option SB) → Option R) (ha : act s = true) : runFn Try.prog MA 10 Try.f63 (bodyOf Try.f63) [.agg (encSt s), .agg (encAsk o), .c (.int .i64 now)] [] K = k_mdeploy K (mdeployV s o now) := by
  obtain ⟨phase, active, rev0, rev1, want0, want1, passed0, passed1, delay, gen, switch, flip⟩ := s
  rcases act_iff.1 ha with ha | ha <;> (simp only at ha; subst ha)
  · have e : mdeployV ⟨phase, 0, rev0, rev1, want0, want1, passed0, passed1, delay, gen, switch, flip⟩ o now = (bif !inmV o.rev 1 1073741824 then 1 else (bif !inmV o.n 1 32 then 1 else (bif !inmV o.delay 0 65536 then 1 else (bif decide (now ≥ 1073741824) then 9 else (bif decide (gen > 1048574) then 9 else (bif decide (phase > 2) then 7 else (bif o.rev == selI 0 0 [rev0, rev1] then 8 else 0))))))) := by kernel_rfl
    rw [e]
    refine Eq.trans (b := (bif !inmV o.rev 1 1073741824 then K (TV.s (SV.c (CV.int IntKind.i64 1))) [] else (bif !inmV o.n 1 32 then K (TV.s (SV.c (CV.int IntKind.i64 1))) [] else (bif !inmV o.delay 0 65536 then K (TV.s (SV.c (CV.int IntKind.i64 1))) [] else (bif decide (now ≥ 1073741824) then K (TV.s (SV.c (CV.int IntKind.i64 9))) [] else (bif decide (gen > 1048574) then K (TV.s (SV.c (CV.int IntKind.i64 9))) [] else (bif decide (phase > 2) then K (TV.s (SV.c (CV.int IntKind.i64 7))) [] else (bif o.rev == selI 0 0 [rev0, rev1] then K (TV.s (SV.c (CV.int IntKind.i64 8))) [] else K (TV.s (SV.c (CV.int IntKind.i64 0))) [])))))))) (by kernel_rfl) ?_
    repeat' (first | exact rfl | refine push (k_mdeploy K) ?_ ?_)
  · have e : mdeployV ⟨phase, 1, rev0, rev1, want0, want1, passed0, passed1, delay, gen, switch, flip⟩ o now = (bif !inmV o.rev 1 1073741824 then 1 else (bif !inmV o.n 1 32 then 1 else (bif !inmV o.delay 0 65536 then 1 else (bif decide (now ≥ 1073741824) then 9 else (bif decide (gen > 1048574) then 9 else (bif decide (phase > 2) then 7 else (bif o.rev == selI 1 0 [rev0, rev1] then 8 else 0))))))) := by kernel_rfl
    rw [e]
    refine Eq.trans (b := (bif !inmV o.rev 1 1073741824 then K (TV.s (SV.c (CV.int IntKind.i64 1))) [] else (bif !inmV o.n 1 32 then K (TV.s (SV.c (CV.int IntKind.i64 1))) [] else (bif !inmV o.delay 0 65536 then K (TV.s (SV.c (CV.int IntKind.i64 1))) [] else (bif decide (now ≥ 1073741824) then K (TV.s (SV.c (CV.int IntKind.i64 9))) [] else (bif decide (gen > 1048574) then K (TV.s (SV.c (CV.int IntKind.i64 9))) [] else (bif decide (phase > 2) then K (TV.s (SV.c (CV.int IntKind.i64 7))) [] else (bif o.rev == selI 1 0 [rev0, rev1] then K (TV.s (SV.c (CV.int IntKind.i64 8))) [] else K (TV.s (SV.c (CV.int IntKind.i64 0))) [])))))))) (by kernel_rfl) ?_
    repeat' (first | exact rfl | refine push (k_mdeploy K) ?_ ?_)
noncomputable def g_mdeploy : List SV → Option (Bool × TV)
  | [.agg l_s, .agg l_o, .c (.int .i64 now)] => (decSt l_s).bind fun s => (decAsk l_o).bind fun o => some (act s, .s (.c (.int .i64 (mdeployV s o now))))
  | _ => none
theorem ok_mdeploy : SumOk Try.prog 63 (valSumB g_mdeploy) := by
  refine sumOk_valB okMA mixed Try.func63 (c := bodyOf Try.f63) (by kernel_rfl) (by kernel_rfl) ?_
  intro args tv h
  unfold g_mdeploy at h
  split at h
  · have hq := Option.bind_eq_some_iff.1 h
    clear h
    obtain ⟨s, h_s, h⟩ := hq
    obtain rfl := decSt_spec _ _ h_s
    have hq := Option.bind_eq_some_iff.1 h
    clear h
    obtain ⟨o, h_o, h⟩ := hq
    obtain rfl := decAsk_spec _ _ h_o
    simp only [Option.some.injEq, Prod.mk.injEq] at h
    obtain ⟨ha, rfl⟩ := h
    exact ⟨fun _ => rfl, fun _ => rfl, 10, t_mdeploy _ _ _ _ ha⟩
  · cases h
noncomputable def mabortV (s : St) : Int := (bif s.phase == 3 then (bif s.switch != 0 then 7 else 0) else (bif s.phase == 1 then (bif s.phase == 1 then 0 else 7) else (bif s.phase == 2 then (bif s.phase == 2 then 0 else 7) else (bif s.phase == 4 then (bif s.phase == 4 then 0 else 7) else (bif s.phase == 5 then 0 else 7)))))
@[reducible] def k_mabort {R : Type} (K : TV → List (Option SB) → Option R) (v : Int) : Option R := K (.s (.c (.int .i64 (v)))) []
theorem t_mabort {R : Type} (s : St) (K : TV → List (Option SB) → Option R) : runFn Try.prog MA 10 Try.f64 (bodyOf Try.f64) [.agg (encSt s)] [] K = k_mabort K (mabortV s) := by
  refine Eq.trans (b := (bif s.phase == 3 then (bif s.switch != 0 then K (TV.s (SV.c (CV.int IntKind.i64 7))) [] else K (TV.s (SV.c (CV.int IntKind.i64 0))) []) else (bif s.phase == 1 then (bif s.phase == 1 then K (TV.s (SV.c (CV.int IntKind.i64 0))) [] else K (TV.s (SV.c (CV.int IntKind.i64 7))) []) else (bif s.phase == 2 then (bif s.phase == 2 then K (TV.s (SV.c (CV.int IntKind.i64 0))) [] else K (TV.s (SV.c (CV.int IntKind.i64 7))) []) else (bif s.phase == 4 then (bif s.phase == 4 then K (TV.s (SV.c (CV.int IntKind.i64 0))) [] else K (TV.s (SV.c (CV.int IntKind.i64 7))) []) else (bif s.phase == 5 then K (TV.s (SV.c (CV.int IntKind.i64 0))) [] else K (TV.s (SV.c (CV.int IntKind.i64 7))) [])))))) (by kernel_rfl) ?_
  unfold mabortV
  repeat' (first | exact rfl | refine push (k_mabort K) ?_ ?_)
noncomputable def g_mabort : List SV → Option TV
  | [.agg l_s] => (decSt l_s).bind fun s => some (.s (.c (.int .i64 (mabortV s))))
  | _ => none
theorem ok_mabort : SumOk Try.prog 64 (valSum g_mabort) := by
  refine sumOk_val okMA mixed Try.func64 (c := bodyOf Try.f64) (by kernel_rfl) (by kernel_rfl) ?_
  intro args tv h
  unfold g_mabort at h
  split at h
  · have hq := Option.bind_eq_some_iff.1 h
    clear h
    obtain ⟨s, h_s, h⟩ := hq
    obtain rfl := decSt_spec _ _ h_s
    cases h
    exact ⟨fun _ => rfl, fun _ => rfl, 10, t_mabort _ _⟩
  · cases h
noncomputable def gateV (s : St) (o : Ask) (phase : Int) (slot : Int) : Int := bif slot == 0 then (bif !inmV o.rev 1 1073741824 then 1 else (bif s.phase != phase then 7 else (bif o.rev != selI 0 0 [s.rev0, s.rev1] then 13 else 0))) else bif slot == 1 then (bif !inmV o.rev 1 1073741824 then 1 else (bif s.phase != phase then 7 else (bif o.rev != selI 1 0 [s.rev0, s.rev1] then 13 else 0))) else default
@[reducible] def k_gate {R : Type} (K : TV → List (Option SB) → Option R) (v : Int) : Option R := K (.s (.c (.int .i64 (v)))) []
theorem t_gate {R : Type} (s : St) (o : Ask) (phase : Int) (slot : Int) (K : TV → List (Option SB) → Option R) (ha : sl slot = true) : runFn Try.prog MA 10 Try.f65 (bodyOf Try.f65) [.agg (encSt s), .agg (encAsk o), .c (.int .i64 phase), .c (.int .i64 slot)] [] K = k_gate K (gateV s o phase slot) := by
  rcases sl_iff.1 ha with ha | ha <;> subst ha
  · have e : gateV s o phase 0 = (bif !inmV o.rev 1 1073741824 then 1 else (bif s.phase != phase then 7 else (bif o.rev != selI 0 0 [s.rev0, s.rev1] then 13 else 0))) := by kernel_rfl
    rw [e]
    refine Eq.trans (b := (bif !inmV o.rev 1 1073741824 then K (TV.s (SV.c (CV.int IntKind.i64 1))) [] else (bif s.phase != phase then K (TV.s (SV.c (CV.int IntKind.i64 7))) [] else (bif o.rev != selI 0 0 [s.rev0, s.rev1] then K (TV.s (SV.c (CV.int IntKind.i64 13))) [] else K (TV.s (SV.c (CV.int IntKind.i64 0))) [])))) (by kernel_rfl) ?_
    repeat' (first | exact rfl | refine push (k_gate K) ?_ ?_)
  · have e : gateV s o phase 1 = (bif !inmV o.rev 1 1073741824 then 1 else (bif s.phase != phase then 7 else (bif o.rev != selI 1 0 [s.rev0, s.rev1] then 13 else 0))) := by kernel_rfl
    rw [e]
    refine Eq.trans (b := (bif !inmV o.rev 1 1073741824 then K (TV.s (SV.c (CV.int IntKind.i64 1))) [] else (bif s.phase != phase then K (TV.s (SV.c (CV.int IntKind.i64 7))) [] else (bif o.rev != selI 1 0 [s.rev0, s.rev1] then K (TV.s (SV.c (CV.int IntKind.i64 13))) [] else K (TV.s (SV.c (CV.int IntKind.i64 0))) [])))) (by kernel_rfl) ?_
    repeat' (first | exact rfl | refine push (k_gate K) ?_ ?_)
noncomputable def g_gate : List SV → Option (Bool × TV)
  | [.agg l_s, .agg l_o, .c (.int .i64 phase), .c (.int .i64 slot)] => (decSt l_s).bind fun s => (decAsk l_o).bind fun o => some (sl slot, .s (.c (.int .i64 (gateV s o phase slot))))
  | _ => none
theorem ok_gate : SumOk Try.prog 65 (valSumB g_gate) := by
  refine sumOk_valB okMA mixed Try.func65 (c := bodyOf Try.f65) (by kernel_rfl) (by kernel_rfl) ?_
  intro args tv h
  unfold g_gate at h
  split at h
  · have hq := Option.bind_eq_some_iff.1 h
    clear h
    obtain ⟨s, h_s, h⟩ := hq
    obtain rfl := decSt_spec _ _ h_s
    have hq := Option.bind_eq_some_iff.1 h
    clear h
    obtain ⟨o, h_o, h⟩ := hq
    obtain rfl := decAsk_spec _ _ h_o
    simp only [Option.some.injEq, Prod.mk.injEq] at h
    obtain ⟨ha, rfl⟩ := h
    exact ⟨fun _ => rfl, fun _ => rfl, 10, t_gate _ _ _ _ _ ha⟩
  · cases h
@[reducible] noncomputable def MB : Sums := (63, valSumB g_mdeploy) :: (64, valSum g_mabort) :: (65, valSumB g_gate) :: MA
theorem okMB : SumsOk Try.prog MB := (((okMA.cons ok_gate).cons ok_mabort).cons ok_mdeploy)
noncomputable def checkV (s : St) (o : Ask) (now : Int) : Int := match s with
  | ⟨phase, active, rev0, rev1, want0, want1, passed0, passed1, delay, gen, switch, flip⟩ => bif active == 0 then (bif o.kind == 1 then mdeployV (St.mk phase 0 rev0 rev1 want0 want1 passed0 passed1 delay gen switch flip) o now else (bif o.kind == 2 then mabortV (St.mk phase 0 rev0 rev1 want0 want1 passed0 passed1 delay gen switch flip) else (bif o.kind == 4 then gateV (St.mk phase 0 rev0 rev1 want0 want1 passed0 passed1 delay gen switch flip) o 2 1 else (bif o.kind == 9 then gateV (St.mk phase 0 rev0 rev1 want0 want1 passed0 passed1 delay gen switch flip) o 4 0 else 6)))) else bif active == 1 then (bif o.kind == 1 then mdeployV (St.mk phase 1 rev0 rev1 want0 want1 passed0 passed1 delay gen switch flip) o now else (bif o.kind == 2 then mabortV (St.mk phase 1 rev0 rev1 want0 want1 passed0 passed1 delay gen switch flip) else (bif o.kind == 4 then gateV (St.mk phase 1 rev0 rev1 want0 want1 passed0 passed1 delay gen switch flip) o 2 0 else (bif o.kind == 9 then gateV (St.mk phase 1 rev0 rev1 want0 want1 passed0 passed1 delay gen switch flip) o 4 1 else 6)))) else default
@[reducible] def k_check {R : Type} (K : TV → List (Option SB) → Option R) (v : Int) : Option R := K (.s (.c (.int .i64 (v)))) []
theorem t_check {R : Type} (s : St) (o : Ask) (now : Int) (K : TV → List (Option SB) → Option R) (ha : act s = true) : runFn Try.prog MB 10 Try.f38 (bodyOf Try.f38) [.agg (encSt s), .agg (encAsk o), .c (.int .i64 now)] [] K = k_check K (checkV s o now) := by
  obtain ⟨phase, active, rev0, rev1, want0, want1, passed0, passed1, delay, gen, switch, flip⟩ := s
  rcases act_iff.1 ha with ha | ha <;> (simp only at ha; subst ha)
  · have e : checkV ⟨phase, 0, rev0, rev1, want0, want1, passed0, passed1, delay, gen, switch, flip⟩ o now = (bif o.kind == 1 then mdeployV (St.mk phase 0 rev0 rev1 want0 want1 passed0 passed1 delay gen switch flip) o now else (bif o.kind == 2 then mabortV (St.mk phase 0 rev0 rev1 want0 want1 passed0 passed1 delay gen switch flip) else (bif o.kind == 4 then gateV (St.mk phase 0 rev0 rev1 want0 want1 passed0 passed1 delay gen switch flip) o 2 1 else (bif o.kind == 9 then gateV (St.mk phase 0 rev0 rev1 want0 want1 passed0 passed1 delay gen switch flip) o 4 0 else 6)))) := by kernel_rfl
    rw [e]
    refine Eq.trans (b := (bif o.kind == 1 then K (TV.s (SV.c (CV.int IntKind.i64 (mdeployV (St.mk phase 0 rev0 rev1 want0 want1 passed0 passed1 delay gen switch flip) o now)))) [] else (bif o.kind == 2 then K (TV.s (SV.c (CV.int IntKind.i64 (mabortV (St.mk phase 0 rev0 rev1 want0 want1 passed0 passed1 delay gen switch flip))))) [] else (bif o.kind == 4 then K (TV.s (SV.c (CV.int IntKind.i64 (gateV (St.mk phase 0 rev0 rev1 want0 want1 passed0 passed1 delay gen switch flip) o 2 1)))) [] else (bif o.kind == 9 then K (TV.s (SV.c (CV.int IntKind.i64 (gateV (St.mk phase 0 rev0 rev1 want0 want1 passed0 passed1 delay gen switch flip) o 4 0)))) [] else K (TV.s (SV.c (CV.int IntKind.i64 6))) []))))) (by kernel_rfl) ?_
    repeat' (first | exact rfl | refine push (k_check K) ?_ ?_)
  · have e : checkV ⟨phase, 1, rev0, rev1, want0, want1, passed0, passed1, delay, gen, switch, flip⟩ o now = (bif o.kind == 1 then mdeployV (St.mk phase 1 rev0 rev1 want0 want1 passed0 passed1 delay gen switch flip) o now else (bif o.kind == 2 then mabortV (St.mk phase 1 rev0 rev1 want0 want1 passed0 passed1 delay gen switch flip) else (bif o.kind == 4 then gateV (St.mk phase 1 rev0 rev1 want0 want1 passed0 passed1 delay gen switch flip) o 2 0 else (bif o.kind == 9 then gateV (St.mk phase 1 rev0 rev1 want0 want1 passed0 passed1 delay gen switch flip) o 4 1 else 6)))) := by kernel_rfl
    rw [e]
    refine Eq.trans (b := (bif o.kind == 1 then K (TV.s (SV.c (CV.int IntKind.i64 (mdeployV (St.mk phase 1 rev0 rev1 want0 want1 passed0 passed1 delay gen switch flip) o now)))) [] else (bif o.kind == 2 then K (TV.s (SV.c (CV.int IntKind.i64 (mabortV (St.mk phase 1 rev0 rev1 want0 want1 passed0 passed1 delay gen switch flip))))) [] else (bif o.kind == 4 then K (TV.s (SV.c (CV.int IntKind.i64 (gateV (St.mk phase 1 rev0 rev1 want0 want1 passed0 passed1 delay gen switch flip) o 2 0)))) [] else (bif o.kind == 9 then K (TV.s (SV.c (CV.int IntKind.i64 (gateV (St.mk phase 1 rev0 rev1 want0 want1 passed0 passed1 delay gen switch flip) o 4 1)))) [] else K (TV.s (SV.c (CV.int IntKind.i64 6))) []))))) (by kernel_rfl) ?_
    repeat' (first | exact rfl | refine push (k_check K) ?_ ?_)
noncomputable def g_check : List SV → Option (Bool × TV)
  | [.agg l_s, .agg l_o, .c (.int .i64 now)] => (decSt l_s).bind fun s => (decAsk l_o).bind fun o => some (act s, .s (.c (.int .i64 (checkV s o now))))
  | _ => none
theorem ok_check : SumOk Try.prog 38 (valSumB g_check) := by
  refine sumOk_valB okMB mixed Try.func38 (c := bodyOf Try.f38) (by kernel_rfl) (by kernel_rfl) ?_
  intro args tv h
  unfold g_check at h
  split at h
  · have hq := Option.bind_eq_some_iff.1 h
    clear h
    obtain ⟨s, h_s, h⟩ := hq
    obtain rfl := decSt_spec _ _ h_s
    have hq := Option.bind_eq_some_iff.1 h
    clear h
    obtain ⟨o, h_o, h⟩ := hq
    obtain rfl := decAsk_spec _ _ h_o
    simp only [Option.some.injEq, Prod.mk.injEq] at h
    obtain ⟨ha, rfl⟩ := h
    exact ⟨fun _ => rfl, fun _ => rfl, 10, t_check _ _ _ _ ha⟩
  · cases h
noncomputable def rcheckV (s : St) (o : Ask) (now : Int) : Int := match s with
  | ⟨phase, active, rev0, rev1, want0, want1, passed0, passed1, delay, gen, switch, flip⟩ => bif active == 0 then (bif o.kind == 2 then (bif phase == 0 then 7 else (bif decide (phase > 5) then 7 else (bif phase == 3 then (bif decide (switch > 0) then 7 else 0) else 0))) else (bif o.kind != 1 then (bif o.kind != 4 then (bif o.kind != 9 then 6 else (bif decide (o.rev < 1) then 1 else (bif decide (o.rev > 1073741824) then 1 else (bif o.kind == 4 then (bif phase != 2 then 7 else (bif o.rev != selI 1 0 [rev0, rev1] then 13 else 0)) else (bif o.kind == 9 then (bif phase != 4 then 7 else (bif o.rev != selI 0 0 [rev0, rev1] then 13 else 0)) else (bif decide (o.n < 1) then 1 else (bif decide (o.n > 32) then 1 else (bif decide (o.delay < 0) then 1 else (bif decide (o.delay > 65536) then 1 else (bif decide (now > 1073741823) then 9 else (bif decide (gen ≥ 1048575) then 9 else (bif decide (phase > 2) then 7 else (bif o.rev == selI 0 0 [rev0, rev1] then 8 else 0))))))))))))) else (bif decide (o.rev < 1) then 1 else (bif decide (o.rev > 1073741824) then 1 else (bif o.kind == 4 then (bif phase != 2 then 7 else (bif o.rev != selI 1 0 [rev0, rev1] then 13 else 0)) else (bif o.kind == 9 then (bif phase != 4 then 7 else (bif o.rev != selI 0 0 [rev0, rev1] then 13 else 0)) else (bif decide (o.n < 1) then 1 else (bif decide (o.n > 32) then 1 else (bif decide (o.delay < 0) then 1 else (bif decide (o.delay > 65536) then 1 else (bif decide (now > 1073741823) then 9 else (bif decide (gen ≥ 1048575) then 9 else (bif decide (phase > 2) then 7 else (bif o.rev == selI 0 0 [rev0, rev1] then 8 else 0))))))))))))) else (bif decide (o.rev < 1) then 1 else (bif decide (o.rev > 1073741824) then 1 else (bif o.kind == 4 then (bif phase != 2 then 7 else (bif o.rev != selI 1 0 [rev0, rev1] then 13 else 0)) else (bif o.kind == 9 then (bif phase != 4 then 7 else (bif o.rev != selI 0 0 [rev0, rev1] then 13 else 0)) else (bif decide (o.n < 1) then 1 else (bif decide (o.n > 32) then 1 else (bif decide (o.delay < 0) then 1 else (bif decide (o.delay > 65536) then 1 else (bif decide (now > 1073741823) then 9 else (bif decide (gen ≥ 1048575) then 9 else (bif decide (phase > 2) then 7 else (bif o.rev == selI 0 0 [rev0, rev1] then 8 else 0)))))))))))))) else bif active == 1 then (bif o.kind == 2 then (bif phase == 0 then 7 else (bif decide (phase > 5) then 7 else (bif phase == 3 then (bif decide (switch > 0) then 7 else 0) else 0))) else (bif o.kind != 1 then (bif o.kind != 4 then (bif o.kind != 9 then 6 else (bif decide (o.rev < 1) then 1 else (bif decide (o.rev > 1073741824) then 1 else (bif o.kind == 4 then (bif phase != 2 then 7 else (bif o.rev != selI 0 0 [rev0, rev1] then 13 else 0)) else (bif o.kind == 9 then (bif phase != 4 then 7 else (bif o.rev != selI 1 0 [rev0, rev1] then 13 else 0)) else (bif decide (o.n < 1) then 1 else (bif decide (o.n > 32) then 1 else (bif decide (o.delay < 0) then 1 else (bif decide (o.delay > 65536) then 1 else (bif decide (now > 1073741823) then 9 else (bif decide (gen ≥ 1048575) then 9 else (bif decide (phase > 2) then 7 else (bif o.rev == selI 1 0 [rev0, rev1] then 8 else 0))))))))))))) else (bif decide (o.rev < 1) then 1 else (bif decide (o.rev > 1073741824) then 1 else (bif o.kind == 4 then (bif phase != 2 then 7 else (bif o.rev != selI 0 0 [rev0, rev1] then 13 else 0)) else (bif o.kind == 9 then (bif phase != 4 then 7 else (bif o.rev != selI 1 0 [rev0, rev1] then 13 else 0)) else (bif decide (o.n < 1) then 1 else (bif decide (o.n > 32) then 1 else (bif decide (o.delay < 0) then 1 else (bif decide (o.delay > 65536) then 1 else (bif decide (now > 1073741823) then 9 else (bif decide (gen ≥ 1048575) then 9 else (bif decide (phase > 2) then 7 else (bif o.rev == selI 1 0 [rev0, rev1] then 8 else 0))))))))))))) else (bif decide (o.rev < 1) then 1 else (bif decide (o.rev > 1073741824) then 1 else (bif o.kind == 4 then (bif phase != 2 then 7 else (bif o.rev != selI 0 0 [rev0, rev1] then 13 else 0)) else (bif o.kind == 9 then (bif phase != 4 then 7 else (bif o.rev != selI 1 0 [rev0, rev1] then 13 else 0)) else (bif decide (o.n < 1) then 1 else (bif decide (o.n > 32) then 1 else (bif decide (o.delay < 0) then 1 else (bif decide (o.delay > 65536) then 1 else (bif decide (now > 1073741823) then 9 else (bif decide (gen ≥ 1048575) then 9 else (bif decide (phase > 2) then 7 else (bif o.rev == selI 1 0 [rev0, rev1] then 8 else 0)))))))))))))) else default
@[reducible] def k_rcheck {R : Type} (K : TV → List (Option SB) → Option R) (v : Int) : Option R := K (.s (.c (.int .i64 (v)))) []
theorem t_rcheck {R : Type} (s : St) (o : Ask) (now : Int) (K : TV → List (Option SB) → Option R) (ha : act s = true) : runFn Try.prog MB 10 Try.f48 (bodyOf Try.f48) [.agg (encSt s), .agg (encAsk o), .c (.int .i64 now)] [] K = k_rcheck K (rcheckV s o now) := by
  obtain ⟨phase, active, rev0, rev1, want0, want1, passed0, passed1, delay, gen, switch, flip⟩ := s
  rcases act_iff.1 ha with ha | ha <;> (simp only at ha; subst ha)
  · have e : rcheckV ⟨phase, 0, rev0, rev1, want0, want1, passed0, passed1, delay, gen, switch, flip⟩ o now = (bif o.kind == 2 then (bif phase == 0 then 7 else (bif decide (phase > 5) then 7 else (bif phase == 3 then (bif decide (switch > 0) then 7 else 0) else 0))) else (bif o.kind != 1 then (bif o.kind != 4 then (bif o.kind != 9 then 6 else (bif decide (o.rev < 1) then 1 else (bif decide (o.rev > 1073741824) then 1 else (bif o.kind == 4 then (bif phase != 2 then 7 else (bif o.rev != selI 1 0 [rev0, rev1] then 13 else 0)) else (bif o.kind == 9 then (bif phase != 4 then 7 else (bif o.rev != selI 0 0 [rev0, rev1] then 13 else 0)) else (bif decide (o.n < 1) then 1 else (bif decide (o.n > 32) then 1 else (bif decide (o.delay < 0) then 1 else (bif decide (o.delay > 65536) then 1 else (bif decide (now > 1073741823) then 9 else (bif decide (gen ≥ 1048575) then 9 else (bif decide (phase > 2) then 7 else (bif o.rev == selI 0 0 [rev0, rev1] then 8 else 0))))))))))))) else (bif decide (o.rev < 1) then 1 else (bif decide (o.rev > 1073741824) then 1 else (bif o.kind == 4 then (bif phase != 2 then 7 else (bif o.rev != selI 1 0 [rev0, rev1] then 13 else 0)) else (bif o.kind == 9 then (bif phase != 4 then 7 else (bif o.rev != selI 0 0 [rev0, rev1] then 13 else 0)) else (bif decide (o.n < 1) then 1 else (bif decide (o.n > 32) then 1 else (bif decide (o.delay < 0) then 1 else (bif decide (o.delay > 65536) then 1 else (bif decide (now > 1073741823) then 9 else (bif decide (gen ≥ 1048575) then 9 else (bif decide (phase > 2) then 7 else (bif o.rev == selI 0 0 [rev0, rev1] then 8 else 0))))))))))))) else (bif decide (o.rev < 1) then 1 else (bif decide (o.rev > 1073741824) then 1 else (bif o.kind == 4 then (bif phase != 2 then 7 else (bif o.rev != selI 1 0 [rev0, rev1] then 13 else 0)) else (bif o.kind == 9 then (bif phase != 4 then 7 else (bif o.rev != selI 0 0 [rev0, rev1] then 13 else 0)) else (bif decide (o.n < 1) then 1 else (bif decide (o.n > 32) then 1 else (bif decide (o.delay < 0) then 1 else (bif decide (o.delay > 65536) then 1 else (bif decide (now > 1073741823) then 9 else (bif decide (gen ≥ 1048575) then 9 else (bif decide (phase > 2) then 7 else (bif o.rev == selI 0 0 [rev0, rev1] then 8 else 0)))))))))))))) := by kernel_rfl
    rw [e]
    refine Eq.trans (b := (bif o.kind == 2 then (bif phase == 0 then K (TV.s (SV.c (CV.int IntKind.i64 7))) [] else (bif decide (phase > 5) then K (TV.s (SV.c (CV.int IntKind.i64 7))) [] else (bif phase == 3 then (bif decide (switch > 0) then K (TV.s (SV.c (CV.int IntKind.i64 7))) [] else K (TV.s (SV.c (CV.int IntKind.i64 0))) []) else K (TV.s (SV.c (CV.int IntKind.i64 0))) []))) else (bif o.kind != 1 then (bif o.kind != 4 then (bif o.kind != 9 then K (TV.s (SV.c (CV.int IntKind.i64 6))) [] else (bif decide (o.rev < 1) then K (TV.s (SV.c (CV.int IntKind.i64 1))) [] else (bif decide (o.rev > 1073741824) then K (TV.s (SV.c (CV.int IntKind.i64 1))) [] else (bif o.kind == 4 then (bif phase != 2 then K (TV.s (SV.c (CV.int IntKind.i64 7))) [] else (bif o.rev != selI 1 0 [rev0, rev1] then K (TV.s (SV.c (CV.int IntKind.i64 13))) [] else K (TV.s (SV.c (CV.int IntKind.i64 0))) [])) else (bif o.kind == 9 then (bif phase != 4 then K (TV.s (SV.c (CV.int IntKind.i64 7))) [] else (bif o.rev != selI 0 0 [rev0, rev1] then K (TV.s (SV.c (CV.int IntKind.i64 13))) [] else K (TV.s (SV.c (CV.int IntKind.i64 0))) [])) else (bif decide (o.n < 1) then K (TV.s (SV.c (CV.int IntKind.i64 1))) [] else (bif decide (o.n > 32) then K (TV.s (SV.c (CV.int IntKind.i64 1))) [] else (bif decide (o.delay < 0) then K (TV.s (SV.c (CV.int IntKind.i64 1))) [] else (bif decide (o.delay > 65536) then K (TV.s (SV.c (CV.int IntKind.i64 1))) [] else (bif decide (now > 1073741823) then K (TV.s (SV.c (CV.int IntKind.i64 9))) [] else (bif decide (gen ≥ 1048575) then K (TV.s (SV.c (CV.int IntKind.i64 9))) [] else (bif decide (phase > 2) then K (TV.s (SV.c (CV.int IntKind.i64 7))) [] else (bif o.rev == selI 0 0 [rev0, rev1] then K (TV.s (SV.c (CV.int IntKind.i64 8))) [] else K (TV.s (SV.c (CV.int IntKind.i64 0))) []))))))))))))) else (bif decide (o.rev < 1) then K (TV.s (SV.c (CV.int IntKind.i64 1))) [] else (bif decide (o.rev > 1073741824) then K (TV.s (SV.c (CV.int IntKind.i64 1))) [] else (bif o.kind == 4 then (bif phase != 2 then K (TV.s (SV.c (CV.int IntKind.i64 7))) [] else (bif o.rev != selI 1 0 [rev0, rev1] then K (TV.s (SV.c (CV.int IntKind.i64 13))) [] else K (TV.s (SV.c (CV.int IntKind.i64 0))) [])) else (bif o.kind == 9 then (bif phase != 4 then K (TV.s (SV.c (CV.int IntKind.i64 7))) [] else (bif o.rev != selI 0 0 [rev0, rev1] then K (TV.s (SV.c (CV.int IntKind.i64 13))) [] else K (TV.s (SV.c (CV.int IntKind.i64 0))) [])) else (bif decide (o.n < 1) then K (TV.s (SV.c (CV.int IntKind.i64 1))) [] else (bif decide (o.n > 32) then K (TV.s (SV.c (CV.int IntKind.i64 1))) [] else (bif decide (o.delay < 0) then K (TV.s (SV.c (CV.int IntKind.i64 1))) [] else (bif decide (o.delay > 65536) then K (TV.s (SV.c (CV.int IntKind.i64 1))) [] else (bif decide (now > 1073741823) then K (TV.s (SV.c (CV.int IntKind.i64 9))) [] else (bif decide (gen ≥ 1048575) then K (TV.s (SV.c (CV.int IntKind.i64 9))) [] else (bif decide (phase > 2) then K (TV.s (SV.c (CV.int IntKind.i64 7))) [] else (bif o.rev == selI 0 0 [rev0, rev1] then K (TV.s (SV.c (CV.int IntKind.i64 8))) [] else K (TV.s (SV.c (CV.int IntKind.i64 0))) []))))))))))))) else (bif decide (o.rev < 1) then K (TV.s (SV.c (CV.int IntKind.i64 1))) [] else (bif decide (o.rev > 1073741824) then K (TV.s (SV.c (CV.int IntKind.i64 1))) [] else (bif o.kind == 4 then (bif phase != 2 then K (TV.s (SV.c (CV.int IntKind.i64 7))) [] else (bif o.rev != selI 1 0 [rev0, rev1] then K (TV.s (SV.c (CV.int IntKind.i64 13))) [] else K (TV.s (SV.c (CV.int IntKind.i64 0))) [])) else (bif o.kind == 9 then (bif phase != 4 then K (TV.s (SV.c (CV.int IntKind.i64 7))) [] else (bif o.rev != selI 0 0 [rev0, rev1] then K (TV.s (SV.c (CV.int IntKind.i64 13))) [] else K (TV.s (SV.c (CV.int IntKind.i64 0))) [])) else (bif decide (o.n < 1) then K (TV.s (SV.c (CV.int IntKind.i64 1))) [] else (bif decide (o.n > 32) then K (TV.s (SV.c (CV.int IntKind.i64 1))) [] else (bif decide (o.delay < 0) then K (TV.s (SV.c (CV.int IntKind.i64 1))) [] else (bif decide (o.delay > 65536) then K (TV.s (SV.c (CV.int IntKind.i64 1))) [] else (bif decide (now > 1073741823) then K (TV.s (SV.c (CV.int IntKind.i64 9))) [] else (bif decide (gen ≥ 1048575) then K (TV.s (SV.c (CV.int IntKind.i64 9))) [] else (bif decide (phase > 2) then K (TV.s (SV.c (CV.int IntKind.i64 7))) [] else (bif o.rev == selI 0 0 [rev0, rev1] then K (TV.s (SV.c (CV.int IntKind.i64 8))) [] else K (TV.s (SV.c (CV.int IntKind.i64 0))) []))))))))))))))) (by kernel_rfl) ?_
    repeat' (first | exact rfl | refine push (k_rcheck K) ?_ ?_)
  · have e : rcheckV ⟨phase, 1, rev0, rev1, want0, want1, passed0, passed1, delay, gen, switch, flip⟩ o now = (bif o.kind == 2 then (bif phase == 0 then 7 else (bif decide (phase > 5) then 7 else (bif phase == 3 then (bif decide (switch > 0) then 7 else 0) else 0))) else (bif o.kind != 1 then (bif o.kind != 4 then (bif o.kind != 9 then 6 else (bif decide (o.rev < 1) then 1 else (bif decide (o.rev > 1073741824) then 1 else (bif o.kind == 4 then (bif phase != 2 then 7 else (bif o.rev != selI 0 0 [rev0, rev1] then 13 else 0)) else (bif o.kind == 9 then (bif phase != 4 then 7 else (bif o.rev != selI 1 0 [rev0, rev1] then 13 else 0)) else (bif decide (o.n < 1) then 1 else (bif decide (o.n > 32) then 1 else (bif decide (o.delay < 0) then 1 else (bif decide (o.delay > 65536) then 1 else (bif decide (now > 1073741823) then 9 else (bif decide (gen ≥ 1048575) then 9 else (bif decide (phase > 2) then 7 else (bif o.rev == selI 1 0 [rev0, rev1] then 8 else 0))))))))))))) else (bif decide (o.rev < 1) then 1 else (bif decide (o.rev > 1073741824) then 1 else (bif o.kind == 4 then (bif phase != 2 then 7 else (bif o.rev != selI 0 0 [rev0, rev1] then 13 else 0)) else (bif o.kind == 9 then (bif phase != 4 then 7 else (bif o.rev != selI 1 0 [rev0, rev1] then 13 else 0)) else (bif decide (o.n < 1) then 1 else (bif decide (o.n > 32) then 1 else (bif decide (o.delay < 0) then 1 else (bif decide (o.delay > 65536) then 1 else (bif decide (now > 1073741823) then 9 else (bif decide (gen ≥ 1048575) then 9 else (bif decide (phase > 2) then 7 else (bif o.rev == selI 1 0 [rev0, rev1] then 8 else 0))))))))))))) else (bif decide (o.rev < 1) then 1 else (bif decide (o.rev > 1073741824) then 1 else (bif o.kind == 4 then (bif phase != 2 then 7 else (bif o.rev != selI 0 0 [rev0, rev1] then 13 else 0)) else (bif o.kind == 9 then (bif phase != 4 then 7 else (bif o.rev != selI 1 0 [rev0, rev1] then 13 else 0)) else (bif decide (o.n < 1) then 1 else (bif decide (o.n > 32) then 1 else (bif decide (o.delay < 0) then 1 else (bif decide (o.delay > 65536) then 1 else (bif decide (now > 1073741823) then 9 else (bif decide (gen ≥ 1048575) then 9 else (bif decide (phase > 2) then 7 else (bif o.rev == selI 1 0 [rev0, rev1] then 8 else 0)))))))))))))) := by kernel_rfl
    rw [e]
    refine Eq.trans (b := (bif o.kind == 2 then (bif phase == 0 then K (TV.s (SV.c (CV.int IntKind.i64 7))) [] else (bif decide (phase > 5) then K (TV.s (SV.c (CV.int IntKind.i64 7))) [] else (bif phase == 3 then (bif decide (switch > 0) then K (TV.s (SV.c (CV.int IntKind.i64 7))) [] else K (TV.s (SV.c (CV.int IntKind.i64 0))) []) else K (TV.s (SV.c (CV.int IntKind.i64 0))) []))) else (bif o.kind != 1 then (bif o.kind != 4 then (bif o.kind != 9 then K (TV.s (SV.c (CV.int IntKind.i64 6))) [] else (bif decide (o.rev < 1) then K (TV.s (SV.c (CV.int IntKind.i64 1))) [] else (bif decide (o.rev > 1073741824) then K (TV.s (SV.c (CV.int IntKind.i64 1))) [] else (bif o.kind == 4 then (bif phase != 2 then K (TV.s (SV.c (CV.int IntKind.i64 7))) [] else (bif o.rev != selI 0 0 [rev0, rev1] then K (TV.s (SV.c (CV.int IntKind.i64 13))) [] else K (TV.s (SV.c (CV.int IntKind.i64 0))) [])) else (bif o.kind == 9 then (bif phase != 4 then K (TV.s (SV.c (CV.int IntKind.i64 7))) [] else (bif o.rev != selI 1 0 [rev0, rev1] then K (TV.s (SV.c (CV.int IntKind.i64 13))) [] else K (TV.s (SV.c (CV.int IntKind.i64 0))) [])) else (bif decide (o.n < 1) then K (TV.s (SV.c (CV.int IntKind.i64 1))) [] else (bif decide (o.n > 32) then K (TV.s (SV.c (CV.int IntKind.i64 1))) [] else (bif decide (o.delay < 0) then K (TV.s (SV.c (CV.int IntKind.i64 1))) [] else (bif decide (o.delay > 65536) then K (TV.s (SV.c (CV.int IntKind.i64 1))) [] else (bif decide (now > 1073741823) then K (TV.s (SV.c (CV.int IntKind.i64 9))) [] else (bif decide (gen ≥ 1048575) then K (TV.s (SV.c (CV.int IntKind.i64 9))) [] else (bif decide (phase > 2) then K (TV.s (SV.c (CV.int IntKind.i64 7))) [] else (bif o.rev == selI 1 0 [rev0, rev1] then K (TV.s (SV.c (CV.int IntKind.i64 8))) [] else K (TV.s (SV.c (CV.int IntKind.i64 0))) []))))))))))))) else (bif decide (o.rev < 1) then K (TV.s (SV.c (CV.int IntKind.i64 1))) [] else (bif decide (o.rev > 1073741824) then K (TV.s (SV.c (CV.int IntKind.i64 1))) [] else (bif o.kind == 4 then (bif phase != 2 then K (TV.s (SV.c (CV.int IntKind.i64 7))) [] else (bif o.rev != selI 0 0 [rev0, rev1] then K (TV.s (SV.c (CV.int IntKind.i64 13))) [] else K (TV.s (SV.c (CV.int IntKind.i64 0))) [])) else (bif o.kind == 9 then (bif phase != 4 then K (TV.s (SV.c (CV.int IntKind.i64 7))) [] else (bif o.rev != selI 1 0 [rev0, rev1] then K (TV.s (SV.c (CV.int IntKind.i64 13))) [] else K (TV.s (SV.c (CV.int IntKind.i64 0))) [])) else (bif decide (o.n < 1) then K (TV.s (SV.c (CV.int IntKind.i64 1))) [] else (bif decide (o.n > 32) then K (TV.s (SV.c (CV.int IntKind.i64 1))) [] else (bif decide (o.delay < 0) then K (TV.s (SV.c (CV.int IntKind.i64 1))) [] else (bif decide (o.delay > 65536) then K (TV.s (SV.c (CV.int IntKind.i64 1))) [] else (bif decide (now > 1073741823) then K (TV.s (SV.c (CV.int IntKind.i64 9))) [] else (bif decide (gen ≥ 1048575) then K (TV.s (SV.c (CV.int IntKind.i64 9))) [] else (bif decide (phase > 2) then K (TV.s (SV.c (CV.int IntKind.i64 7))) [] else (bif o.rev == selI 1 0 [rev0, rev1] then K (TV.s (SV.c (CV.int IntKind.i64 8))) [] else K (TV.s (SV.c (CV.int IntKind.i64 0))) []))))))))))))) else (bif decide (o.rev < 1) then K (TV.s (SV.c (CV.int IntKind.i64 1))) [] else (bif decide (o.rev > 1073741824) then K (TV.s (SV.c (CV.int IntKind.i64 1))) [] else (bif o.kind == 4 then (bif phase != 2 then K (TV.s (SV.c (CV.int IntKind.i64 7))) [] else (bif o.rev != selI 0 0 [rev0, rev1] then K (TV.s (SV.c (CV.int IntKind.i64 13))) [] else K (TV.s (SV.c (CV.int IntKind.i64 0))) [])) else (bif o.kind == 9 then (bif phase != 4 then K (TV.s (SV.c (CV.int IntKind.i64 7))) [] else (bif o.rev != selI 1 0 [rev0, rev1] then K (TV.s (SV.c (CV.int IntKind.i64 13))) [] else K (TV.s (SV.c (CV.int IntKind.i64 0))) [])) else (bif decide (o.n < 1) then K (TV.s (SV.c (CV.int IntKind.i64 1))) [] else (bif decide (o.n > 32) then K (TV.s (SV.c (CV.int IntKind.i64 1))) [] else (bif decide (o.delay < 0) then K (TV.s (SV.c (CV.int IntKind.i64 1))) [] else (bif decide (o.delay > 65536) then K (TV.s (SV.c (CV.int IntKind.i64 1))) [] else (bif decide (now > 1073741823) then K (TV.s (SV.c (CV.int IntKind.i64 9))) [] else (bif decide (gen ≥ 1048575) then K (TV.s (SV.c (CV.int IntKind.i64 9))) [] else (bif decide (phase > 2) then K (TV.s (SV.c (CV.int IntKind.i64 7))) [] else (bif o.rev == selI 1 0 [rev0, rev1] then K (TV.s (SV.c (CV.int IntKind.i64 8))) [] else K (TV.s (SV.c (CV.int IntKind.i64 0))) []))))))))))))))) (by kernel_rfl) ?_
    repeat' (first | exact rfl | refine push (k_rcheck K) ?_ ?_)
noncomputable def g_rcheck : List SV → Option (Bool × TV)
  | [.agg l_s, .agg l_o, .c (.int .i64 now)] => (decSt l_s).bind fun s => (decAsk l_o).bind fun o => some (act s, .s (.c (.int .i64 (rcheckV s o now))))
  | _ => none
theorem ok_rcheck : SumOk Try.prog 48 (valSumB g_rcheck) := by
  refine sumOk_valB okMB mixed Try.func48 (c := bodyOf Try.f48) (by kernel_rfl) (by kernel_rfl) ?_
  intro args tv h
  unfold g_rcheck at h
  split at h
  · have hq := Option.bind_eq_some_iff.1 h
    clear h
    obtain ⟨s, h_s, h⟩ := hq
    obtain rfl := decSt_spec _ _ h_s
    have hq := Option.bind_eq_some_iff.1 h
    clear h
    obtain ⟨o, h_o, h⟩ := hq
    obtain rfl := decAsk_spec _ _ h_o
    simp only [Option.some.injEq, Prod.mk.injEq] at h
    obtain ⟨ha, rfl⟩ := h
    exact ⟨fun _ => rfl, fun _ => rfl, 10, t_rcheck _ _ _ _ ha⟩
  · cases h
noncomputable def recordV (o : Ask) : Rc := (bif o.kind == 1 then ⟨o.kind, o.rev, o.n, o.delay, 0, 0, false, 0, 0, 0, 0, 0, 0, false, false, 0, 0, 0, 0⟩ else (bif o.kind == 4 then (bif o.kind == 4 then ⟨o.kind, 0, 0, 0, 0, 0, o.pass, 0, 0, 0, 0, 0, 0, false, false, 0, 0, 0, 0⟩ else ⟨o.kind, 0, 0, 0, 0, 0, false, 0, 0, 0, 0, 0, 0, false, false, 0, 0, 0, 0⟩) else (bif o.kind == 9 then ⟨o.kind, 0, 0, 0, 0, 0, o.pass, 0, 0, 0, 0, 0, 0, false, false, 0, 0, 0, 0⟩ else ⟨o.kind, 0, 0, 0, 0, 0, false, 0, 0, 0, 0, 0, 0, false, false, 0, 0, 0, 0⟩)))
@[reducible] def k_record {R : Type} (K : TV → List (Option SB) → Option R) (v : Rc) : Option R := K (.s (.agg (encRc (v)))) []
theorem t_record {R : Type} (o : Ask) (K : TV → List (Option SB) → Option R) : runFn Try.prog S0 10 Try.f40 (bodyOf Try.f40) [.agg (encAsk o)] [] K = k_record K (recordV o) := by
  refine Eq.trans (b := (bif o.kind == 1 then K (TV.s (SV.agg [CV.int IntKind.i64 o.kind, CV.int IntKind.i64 o.rev, CV.int IntKind.i64 o.n, CV.int IntKind.i64 o.delay, CV.int IntKind.i64 0, CV.int IntKind.i64 0, CV.bool false, CV.int IntKind.i64 0, CV.int IntKind.i64 0, CV.int IntKind.i64 0, CV.int IntKind.i64 0, CV.int IntKind.i64 0, CV.int IntKind.i64 0, CV.bool false, CV.bool false, CV.int IntKind.i64 0, CV.int IntKind.i64 0, CV.int IntKind.i64 0, CV.int IntKind.i64 0])) [] else (bif o.kind == 4 then (bif o.kind == 4 then K (TV.s (SV.agg [CV.int IntKind.i64 o.kind, CV.int IntKind.i64 0, CV.int IntKind.i64 0, CV.int IntKind.i64 0, CV.int IntKind.i64 0, CV.int IntKind.i64 0, CV.bool o.pass, CV.int IntKind.i64 0, CV.int IntKind.i64 0, CV.int IntKind.i64 0, CV.int IntKind.i64 0, CV.int IntKind.i64 0, CV.int IntKind.i64 0, CV.bool false, CV.bool false, CV.int IntKind.i64 0, CV.int IntKind.i64 0, CV.int IntKind.i64 0, CV.int IntKind.i64 0])) [] else K (TV.s (SV.agg [CV.int IntKind.i64 o.kind, CV.int IntKind.i64 0, CV.int IntKind.i64 0, CV.int IntKind.i64 0, CV.int IntKind.i64 0, CV.int IntKind.i64 0, CV.bool false, CV.int IntKind.i64 0, CV.int IntKind.i64 0, CV.int IntKind.i64 0, CV.int IntKind.i64 0, CV.int IntKind.i64 0, CV.int IntKind.i64 0, CV.bool false, CV.bool false, CV.int IntKind.i64 0, CV.int IntKind.i64 0, CV.int IntKind.i64 0, CV.int IntKind.i64 0])) []) else (bif o.kind == 9 then K (TV.s (SV.agg [CV.int IntKind.i64 o.kind, CV.int IntKind.i64 0, CV.int IntKind.i64 0, CV.int IntKind.i64 0, CV.int IntKind.i64 0, CV.int IntKind.i64 0, CV.bool o.pass, CV.int IntKind.i64 0, CV.int IntKind.i64 0, CV.int IntKind.i64 0, CV.int IntKind.i64 0, CV.int IntKind.i64 0, CV.int IntKind.i64 0, CV.bool false, CV.bool false, CV.int IntKind.i64 0, CV.int IntKind.i64 0, CV.int IntKind.i64 0, CV.int IntKind.i64 0])) [] else K (TV.s (SV.agg [CV.int IntKind.i64 o.kind, CV.int IntKind.i64 0, CV.int IntKind.i64 0, CV.int IntKind.i64 0, CV.int IntKind.i64 0, CV.int IntKind.i64 0, CV.bool false, CV.int IntKind.i64 0, CV.int IntKind.i64 0, CV.int IntKind.i64 0, CV.int IntKind.i64 0, CV.int IntKind.i64 0, CV.int IntKind.i64 0, CV.bool false, CV.bool false, CV.int IntKind.i64 0, CV.int IntKind.i64 0, CV.int IntKind.i64 0, CV.int IntKind.i64 0])) [])))) (by kernel_rfl) ?_
  unfold recordV
  repeat' (first | exact rfl | refine push (k_record K) ?_ ?_)
noncomputable def g_record : List SV → Option TV
  | [.agg l_o] => (decAsk l_o).bind fun o => some (.s (.agg (encRc (recordV o))))
  | _ => none
theorem ok_record : SumOk Try.prog 40 (valSum g_record) := by
  refine sumOk_val okS0 mixed Try.func40 (c := bodyOf Try.f40) (by kernel_rfl) (by kernel_rfl) ?_
  intro args tv h
  unfold g_record at h
  split at h
  · have hq := Option.bind_eq_some_iff.1 h
    clear h
    obtain ⟨o, h_o, h⟩ := hq
    obtain rfl := decAsk_spec _ _ h_o
    cases h
    exact ⟨fun _ => rfl, fun _ => rfl, 10, t_record _ _⟩
  · cases h
noncomputable def rrecordV (o : Ask) : Rc := (bif o.kind == 1 then ⟨1, o.rev, o.n, o.delay, 0, 0, false, 0, 0, 0, 0, 0, 0, false, false, 0, 0, 0, 0⟩ else (bif o.kind == 4 then ⟨o.kind, 0, 0, 0, 0, 0, o.pass, 0, 0, 0, 0, 0, 0, false, false, 0, 0, 0, 0⟩ else (bif o.kind == 9 then ⟨o.kind, 0, 0, 0, 0, 0, o.pass, 0, 0, 0, 0, 0, 0, false, false, 0, 0, 0, 0⟩ else ⟨o.kind, 0, 0, 0, 0, 0, false, 0, 0, 0, 0, 0, 0, false, false, 0, 0, 0, 0⟩)))
@[reducible] def k_rrecord {R : Type} (K : TV → List (Option SB) → Option R) (v : Rc) : Option R := K (.s (.agg (encRc (v)))) []
theorem t_rrecord {R : Type} (o : Ask) (K : TV → List (Option SB) → Option R) : runFn Try.prog S0 10 Try.f50 (bodyOf Try.f50) [.agg (encAsk o)] [] K = k_rrecord K (rrecordV o) := by
  refine Eq.trans (b := (bif o.kind == 1 then K (TV.s (SV.agg [CV.int IntKind.i64 1, CV.int IntKind.i64 o.rev, CV.int IntKind.i64 o.n, CV.int IntKind.i64 o.delay, CV.int IntKind.i64 0, CV.int IntKind.i64 0, CV.bool false, CV.int IntKind.i64 0, CV.int IntKind.i64 0, CV.int IntKind.i64 0, CV.int IntKind.i64 0, CV.int IntKind.i64 0, CV.int IntKind.i64 0, CV.bool false, CV.bool false, CV.int IntKind.i64 0, CV.int IntKind.i64 0, CV.int IntKind.i64 0, CV.int IntKind.i64 0])) [] else (bif o.kind == 4 then K (TV.s (SV.agg [CV.int IntKind.i64 o.kind, CV.int IntKind.i64 0, CV.int IntKind.i64 0, CV.int IntKind.i64 0, CV.int IntKind.i64 0, CV.int IntKind.i64 0, CV.bool o.pass, CV.int IntKind.i64 0, CV.int IntKind.i64 0, CV.int IntKind.i64 0, CV.int IntKind.i64 0, CV.int IntKind.i64 0, CV.int IntKind.i64 0, CV.bool false, CV.bool false, CV.int IntKind.i64 0, CV.int IntKind.i64 0, CV.int IntKind.i64 0, CV.int IntKind.i64 0])) [] else (bif o.kind == 9 then K (TV.s (SV.agg [CV.int IntKind.i64 o.kind, CV.int IntKind.i64 0, CV.int IntKind.i64 0, CV.int IntKind.i64 0, CV.int IntKind.i64 0, CV.int IntKind.i64 0, CV.bool o.pass, CV.int IntKind.i64 0, CV.int IntKind.i64 0, CV.int IntKind.i64 0, CV.int IntKind.i64 0, CV.int IntKind.i64 0, CV.int IntKind.i64 0, CV.bool false, CV.bool false, CV.int IntKind.i64 0, CV.int IntKind.i64 0, CV.int IntKind.i64 0, CV.int IntKind.i64 0])) [] else K (TV.s (SV.agg [CV.int IntKind.i64 o.kind, CV.int IntKind.i64 0, CV.int IntKind.i64 0, CV.int IntKind.i64 0, CV.int IntKind.i64 0, CV.int IntKind.i64 0, CV.bool false, CV.int IntKind.i64 0, CV.int IntKind.i64 0, CV.int IntKind.i64 0, CV.int IntKind.i64 0, CV.int IntKind.i64 0, CV.int IntKind.i64 0, CV.bool false, CV.bool false, CV.int IntKind.i64 0, CV.int IntKind.i64 0, CV.int IntKind.i64 0, CV.int IntKind.i64 0])) [])))) (by kernel_rfl) ?_
  unfold rrecordV
  repeat' (first | exact rfl | refine push (k_rrecord K) ?_ ?_)
noncomputable def g_rrecord : List SV → Option TV
  | [.agg l_o] => (decAsk l_o).bind fun o => some (.s (.agg (encRc (rrecordV o))))
  | _ => none
theorem ok_rrecord : SumOk Try.prog 50 (valSum g_rrecord) := by
  refine sumOk_val okS0 mixed Try.func50 (c := bodyOf Try.f50) (by kernel_rfl) (by kernel_rfl) ?_
  intro args tv h
  unfold g_rrecord at h
  split at h
  · have hq := Option.bind_eq_some_iff.1 h
    clear h
    obtain ⟨o, h_o, h⟩ := hq
    obtain rfl := decAsk_spec _ _ h_o
    cases h
    exact ⟨fun _ => rfl, fun _ => rfl, 10, t_rrecord _ _⟩
  · cases h
noncomputable def firstV (rev : Int) (n : Int) : St := ⟨0, 0, bif true then rev else 0, bif false then rev else 0, bif true then n else 0, bif false then n else 0, true, false, 0, 0, 0, 0⟩
@[reducible] def k_first {R : Type} (K : TV → List (Option SB) → Option R) (v : St) : Option R := K (.s (.agg (encSt (v)))) []
theorem t_first {R : Type} (rev : Int) (n : Int) (K : TV → List (Option SB) → Option R) : runFn Try.prog S0 10 Try.f19 (bodyOf Try.f19) [.c (.int .i64 rev), .c (.int .i64 n)] [] K = k_first K (firstV rev n) := by
  refine Eq.trans (b := K (TV.s (SV.agg [CV.int IntKind.i64 0, CV.int IntKind.i64 0, CV.int IntKind.i64 (bif true then rev else 0), CV.int IntKind.i64 (bif false then rev else 0), CV.int IntKind.i64 (bif true then n else 0), CV.int IntKind.i64 (bif false then n else 0), CV.bool true, CV.bool false, CV.int IntKind.i64 0, CV.int IntKind.i64 0, CV.int IntKind.i64 0, CV.int IntKind.i64 0])) []) (by kernel_rfl) ?_
  unfold firstV
  repeat' (first | exact rfl | refine push (k_first K) ?_ ?_)
noncomputable def g_first : List SV → Option TV
  | [.c (.int .i64 rev), .c (.int .i64 n)] => some (.s (.agg (encSt (firstV rev n))))
  | _ => none
theorem ok_first : SumOk Try.prog 19 (valSum g_first) := by
  refine sumOk_val okS0 mixed Try.func19 (c := bodyOf Try.f19) (by kernel_rfl) (by kernel_rfl) ?_
  intro args tv h
  unfold g_first at h
  split at h
  · cases h
    exact ⟨fun _ => rfl, fun _ => rfl, 10, t_first _ _ _⟩
  · cases h
@[reducible] noncomputable def MC : Sums := (57, valSum g_right) :: (20, valSum g_rright) :: (66, valSum g_step) :: (38, valSumB g_check) :: (48, valSumB g_rcheck) :: (40, valSum g_record) :: (50, valSum g_rrecord) :: (19, valSum g_first) :: S0
theorem okMC : SumsOk Try.prog MC := ((((((((okS0.cons ok_first).cons ok_rrecord).cons ok_record).cons ok_rcheck).cons ok_check).cons ok_step).cons ok_rright).cons ok_right)
end Go.Proofs.Ytpebebhjmnmcbaa.Fold

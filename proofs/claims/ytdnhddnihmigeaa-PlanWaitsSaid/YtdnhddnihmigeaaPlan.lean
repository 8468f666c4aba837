/- What is to be done, in the program and in its reference. No condition. -/
import Derived.Test.YtdnhddnihmigeaaFoldLaw
set_option maxRecDepth 100000
set_option linter.unusedSimpArgs false
set_option linter.unusedVariables false
namespace Go.Proofs.Ytdnhddnihmigeaa.Fold
open Go Go.Proofs.Ytdnhddnihmigeaa.Sx
structure Vw where
  want0 : Int
  want1 : Int
  ready0 : Int
  ready1 : Int
  deriving Inhabited
def encVw (s : Vw) : List CV := [.int .i64 s.want0, .int .i64 s.want1, .int .i64 s.ready0, .int .i64 s.ready1]
def decVw : List CV → Option Vw
  | [.int .i64 a0, .int .i64 a1, .int .i64 a2, .int .i64 a3] => some ⟨a0, a1, a2, a3⟩
  | _ => none
def decVwD : List CV → Vw
  | [.int .i64 a0, .int .i64 a1, .int .i64 a2, .int .i64 a3] => ⟨a0, a1, a2, a3⟩
  | _ => default
theorem decVw_spec (l : List CV) (s : Vw) (h : decVw l = some s) : l = encVw s := by
  unfold decVw at h; split at h <;> cases h; rfl
theorem encVw_ren (s : Vw) (π) : (encVw s).map (CV.ren π) = encVw s := rfl
theorem backVw (s : Vw) : decVwD (encVw s) = s := rfl
structure wfVw (s : Vw) : Prop where
  want0 : (Lit.int .i64 s.want0).wf = true
  want1 : (Lit.int .i64 s.want1).wf = true
  ready0 : (Lit.int .i64 s.ready0).wf = true
  ready1 : (Lit.int .i64 s.ready1).wf = true
theorem opVw (cvs : List CV) (vs : List Value) (h : LeafRs [.int .i64, .int .i64, .int .i64, .int .i64] cvs vs) : ∃ x, cvs = encVw x ∧ wfVw x := by
  obtain ⟨_, _, _, _, rfl, rfl, ⟨a0, rfl, rfl, w0⟩, h0⟩ := h.cons_inv
  obtain ⟨_, _, _, _, rfl, rfl, ⟨a1, rfl, rfl, w1⟩, h1⟩ := h0.cons_inv
  obtain ⟨_, _, _, _, rfl, rfl, ⟨a2, rfl, rfl, w2⟩, h2⟩ := h1.cons_inv
  obtain ⟨_, _, _, _, rfl, rfl, ⟨a3, rfl, rfl, w3⟩, h3⟩ := h2.cons_inv
  obtain ⟨rfl, rfl⟩ := h3.nil_inv
  exact ⟨⟨a0, a1, a2, a3⟩, rfl, ⟨w0, w1, w2, w3⟩⟩
noncomputable def inpV (n : Int) (low : Int) (high : Int) : Bool := (bif decide (n ≥ low) then decide (n ≤ high) else false)
@[reducible] def k_inp {R : Type} (K : TV → List (Option SB) → Option R) (v : Bool) : Option R := K (.s (.c (.bool (v)))) []
theorem t_inp {R : Type} (n : Int) (low : Int) (high : Int) (K : TV → List (Option SB) → Option R) : runFn Try.prog S0 10 Try.f29 (bodyOf Try.f29) [.c (.int .i64 n), .c (.int .i64 low), .c (.int .i64 high)] [] K = k_inp K (inpV n low high) := by
  refine Eq.trans (b := (bif decide (n ≥ low) then K (TV.s (SV.c (CV.bool (decide (n ≤ high))))) [] else K (TV.s (SV.c (CV.bool false))) [])) (by kernel_rfl) ?_
  unfold inpV
  repeat' (first | exact rfl | refine push (k_inp K) ?_ ?_)
noncomputable def g_inp : List SV → Option TV
  | [.c (.int .i64 n), .c (.int .i64 low), .c (.int .i64 high)] => some (.s (.c (.bool (inpV n low high))))
  | _ => none
theorem ok_inp : SumOk Try.prog 29 (valSum g_inp) := by
  refine sumOk_val okS0 mixed Try.func29 (c := bodyOf Try.f29) (by kernel_rfl) (by kernel_rfl) ?_
  intro args tv h
  unfold g_inp at h
  split at h
  · cases h
    exact ⟨fun _ => rfl, fun _ => rfl, 10, t_inp _ _ _ _⟩
  · cases h
noncomputable def lessV (a : Int) (b : Int) : Int := (bif decide (a ≤ b) then 0 else (bif decide (b < 0) then (bif decide (a > IntKind.i64.wrap (9223372036854775807 + b)) then 9223372036854775807 else IntKind.i64.wrap (a - b)) else IntKind.i64.wrap (a - b)))
@[reducible] def k_less {R : Type} (K : TV → List (Option SB) → Option R) (v : Int) : Option R := K (.s (.c (.int .i64 (v)))) []
theorem t_less {R : Type} (a : Int) (b : Int) (K : TV → List (Option SB) → Option R) : runFn Try.prog S0 10 Try.f27 (bodyOf Try.f27) [.c (.int .i64 a), .c (.int .i64 b)] [] K = k_less K (lessV a b) := by
  refine Eq.trans (b := (bif decide (a ≤ b) then K (TV.s (SV.c (CV.int IntKind.i64 0))) [] else (bif decide (b < 0) then (bif decide (a > IntKind.i64.wrap (9223372036854775807 + b)) then K (TV.s (SV.c (CV.int IntKind.i64 9223372036854775807))) [] else K (TV.s (SV.c (CV.int IntKind.i64 (IntKind.i64.wrap (a - b))))) []) else K (TV.s (SV.c (CV.int IntKind.i64 (IntKind.i64.wrap (a - b))))) []))) (by kernel_rfl) ?_
  unfold lessV
  repeat' (first | exact rfl | refine push (k_less K) ?_ ?_)
noncomputable def g_less : List SV → Option TV
  | [.c (.int .i64 a), .c (.int .i64 b)] => some (.s (.c (.int .i64 (lessV a b))))
  | _ => none
theorem ok_less : SumOk Try.prog 27 (valSum g_less) := by
  refine sumOk_val okS0 mixed Try.func27 (c := bodyOf Try.f27) (by kernel_rfl) (by kernel_rfl) ?_
  intro args tv h
  unfold g_less at h
  split at h
  · cases h
    exact ⟨fun _ => rfl, fun _ => rfl, 10, t_less _ _ _⟩
  · cases h
noncomputable def rlessV (a : Int) (b : Int) : Int := (bif decide (a ≤ b) then 0 else (bif decide (IntKind.u64.wrap (IntKind.u64.wrap a - IntKind.u64.wrap b) > 9223372036854775807) then 9223372036854775807 else IntKind.i64.wrap (IntKind.u64.wrap (IntKind.u64.wrap a - IntKind.u64.wrap b))))
@[reducible] def k_rless {R : Type} (K : TV → List (Option SB) → Option R) (v : Int) : Option R := K (.s (.c (.int .i64 (v)))) []
theorem t_rless {R : Type} (a : Int) (b : Int) (K : TV → List (Option SB) → Option R) : runFn Try.prog S0 10 Try.f28 (bodyOf Try.f28) [.c (.int .i64 a), .c (.int .i64 b)] [] K = k_rless K (rlessV a b) := by
  refine Eq.trans (b := (bif decide (a ≤ b) then K (TV.s (SV.c (CV.int IntKind.i64 0))) [] else (bif decide (IntKind.u64.wrap (IntKind.u64.wrap a - IntKind.u64.wrap b) > 9223372036854775807) then K (TV.s (SV.c (CV.int IntKind.i64 9223372036854775807))) [] else K (TV.s (SV.c (CV.int IntKind.i64 (IntKind.i64.wrap (IntKind.u64.wrap (IntKind.u64.wrap a - IntKind.u64.wrap b)))))) []))) (by kernel_rfl) ?_
  unfold rlessV
  repeat' (first | exact rfl | refine push (k_rless K) ?_ ?_)
noncomputable def g_rless : List SV → Option TV
  | [.c (.int .i64 a), .c (.int .i64 b)] => some (.s (.c (.int .i64 (rlessV a b))))
  | _ => none
theorem ok_rless : SumOk Try.prog 28 (valSum g_rless) := by
  refine sumOk_val okS0 mixed Try.func28 (c := bodyOf Try.f28) (by kernel_rfl) (by kernel_rfl) ?_
  intro args tv h
  unfold g_rless at h
  split at h
  · cases h
    exact ⟨fun _ => rfl, fun _ => rfl, 10, t_rless _ _ _⟩
  · cases h
theorem inpV_eq (n l h : Int) : inpV n l h = decide (l ≤ n ∧ n ≤ h) := by
  unfold inpV
  grind
@[reducible] noncomputable def PA : Sums := (29, valSum g_inp) :: (27, valSum g_less) :: (28, valSum g_rless) :: S0
theorem okPA : SumsOk Try.prog PA := (((okS0.cons ok_rless).cons ok_less).cons ok_inp)
noncomputable def fullV (s : St) (v : Vw) (slot : Int) : Bool := bif slot == 0 then decide (s.want0 > 0) && v.want0 == s.want0 && v.ready0 == s.want0 else bif slot == 1 then decide (s.want1 > 0) && v.want1 == s.want1 && v.ready1 == s.want1 else false
@[reducible] def k_full {R : Type} (K : TV → List (Option SB) → Option R) (v : Bool) : Option R := K (.s (.c (.bool (v)))) []
theorem t_full {R : Type} (s : St) (v : Vw) (slot : Int) (K : TV → List (Option SB) → Option R) : runFn Try.prog PA 10 Try.f18 (bodyOf Try.f18) [.agg (encSt s), .agg (encVw v), .c (.int .i64 slot)] [] K = k_full K (fullV s v slot) := by
  refine Eq.trans (b := (bif inpV slot 0 1 then (bif decide (0 ≤ slot) && decide (slot < 2) then (bif decide (selI slot 0 [s.want0, s.want1] > 0) then (bif decide (0 ≤ slot) && decide (slot < 2) then (bif decide (0 ≤ slot) && decide (slot < 2) then (bif selI slot 0 [v.want0, v.want1] == selI slot 0 [s.want0, s.want1] then (bif decide (0 ≤ slot) && decide (slot < 2) then (bif decide (0 ≤ slot) && decide (slot < 2) then K (TV.s (SV.c (CV.bool (selI slot 0 [v.ready0, v.ready1] == selI slot 0 [s.want0, s.want1])))) [] else none) else none) else K (TV.s (SV.c (CV.bool false))) []) else none) else none) else K (TV.s (SV.c (CV.bool false))) []) else none) else K (TV.s (SV.c (CV.bool false))) [])) (by kernel_rfl) ?_
  obtain ⟨T, F, hK⟩ := kTF K
  simp only [k_full, fullV, hK, inpV_eq]
  by_cases h0 : slot = 0
  · subst h0; simp [selI]; grind
  · by_cases h1 : slot = 1
    · subst h1; simp [selI]; grind
    · have : decide (0 ≤ slot ∧ slot ≤ 1) = false := by simp; omega
      have b0 : (slot == 0) = false := by simp [h0]
      have b1 : (slot == 1) = false := by simp [h1]
      simp only [this, b0, b1, cond_false]
noncomputable def g_full : List SV → Option TV
  | [.agg l_s, .agg l_v, .c (.int .i64 slot)] => (decSt l_s).bind fun s => (decVw l_v).bind fun v => some (.s (.c (.bool (fullV s v slot))))
  | _ => none
theorem ok_full : SumOk Try.prog 18 (valSum g_full) := by
  refine sumOk_val okPA mixed Try.func18 (c := bodyOf Try.f18) (by kernel_rfl) (by kernel_rfl) ?_
  intro args tv h
  unfold g_full at h
  split at h
  · have hq := Option.bind_eq_some_iff.1 h
    clear h
    obtain ⟨s, h_s, h⟩ := hq
    obtain rfl := decSt_spec _ _ h_s
    have hq := Option.bind_eq_some_iff.1 h
    clear h
    obtain ⟨v, h_v, h⟩ := hq
    obtain rfl := decVw_spec _ _ h_v
    cases h
    exact ⟨fun _ => rfl, fun _ => rfl, 10, t_full _ _ _ _⟩
  · cases h
@[reducible] def k_rfull {R : Type} (K : TV → List (Option SB) → Option R) (v : Bool) : Option R := K (.s (.c (.bool (v)))) []
theorem t_rfull {R : Type} (s : St) (v : Vw) (slot : Int) (K : TV → List (Option SB) → Option R) : runFn Try.prog PA 10 Try.f19 (bodyOf Try.f19) [.agg (encSt s), .agg (encVw v), .c (.int .i64 slot)] [] K = k_rfull K (fullV s v slot) := by
  refine Eq.trans (b := (bif slot != 0 then (bif slot != 1 then K (TV.s (SV.c (CV.bool false))) [] else (bif decide (0 ≤ slot) && decide (slot < 2) then (bif decide (selI slot 0 [s.want0, s.want1] ≥ 1) then (bif decide (0 ≤ slot) && decide (slot < 2) then (bif selI slot 0 [v.want0, v.want1] == selI slot 0 [s.want0, s.want1] then (bif decide (0 ≤ slot) && decide (slot < 2) then K (TV.s (SV.c (CV.bool (selI slot 0 [v.ready0, v.ready1] == selI slot 0 [s.want0, s.want1])))) [] else none) else K (TV.s (SV.c (CV.bool false))) []) else none) else K (TV.s (SV.c (CV.bool false))) []) else none)) else (bif decide (0 ≤ slot) && decide (slot < 2) then (bif decide (selI slot 0 [s.want0, s.want1] ≥ 1) then (bif decide (0 ≤ slot) && decide (slot < 2) then (bif selI slot 0 [v.want0, v.want1] == selI slot 0 [s.want0, s.want1] then (bif decide (0 ≤ slot) && decide (slot < 2) then K (TV.s (SV.c (CV.bool (selI slot 0 [v.ready0, v.ready1] == selI slot 0 [s.want0, s.want1])))) [] else none) else K (TV.s (SV.c (CV.bool false))) []) else none) else K (TV.s (SV.c (CV.bool false))) []) else none))) (by kernel_rfl) ?_
  obtain ⟨T, F, hK⟩ := kTF K
  simp only [k_rfull, fullV, hK]
  by_cases h0 : slot = 0
  · subst h0; simp [selI]; grind
  · by_cases h1 : slot = 1
    · subst h1; simp [selI]; grind
    · have b0 : (slot == 0) = false := by simp [h0]
      have b1 : (slot == 1) = false := by simp [h1]
      have c0 : (slot != 0) = true := by simp [h0]
      have c1 : (slot != 1) = true := by simp [h1]
      simp only [b0, b1, c0, c1, cond_false, cond_true]
noncomputable def g_rfull : List SV → Option TV
  | [.agg l_s, .agg l_v, .c (.int .i64 slot)] => (decSt l_s).bind fun s => (decVw l_v).bind fun v => some (.s (.c (.bool (fullV s v slot))))
  | _ => none
theorem ok_rfull : SumOk Try.prog 19 (valSum g_rfull) := by
  refine sumOk_val okPA mixed Try.func19 (c := bodyOf Try.f19) (by kernel_rfl) (by kernel_rfl) ?_
  intro args tv h
  unfold g_rfull at h
  split at h
  · have hq := Option.bind_eq_some_iff.1 h
    clear h
    obtain ⟨s, h_s, h⟩ := hq
    obtain rfl := decSt_spec _ _ h_s
    have hq := Option.bind_eq_some_iff.1 h
    clear h
    obtain ⟨v, h_v, h⟩ := hq
    obtain rfl := decVw_spec _ _ h_v
    cases h
    exact ⟨fun _ => rfl, fun _ => rfl, 10, t_rfull _ _ _ _⟩
  · cases h
noncomputable def pturnV (s : St) (full : Bool) : Int × Rc := (bif s.switch == 2 then (5, ⟨0, 0, 0, 0, 0, 0, false, 0, 0, 0, 0, 0, 0, false, false, 0, 0, 0, 0⟩) else (bif s.switch == 1 then (bif full then (3, ⟨6, 0, 0, 0, s.gen, 0, false, 0, 0, 0, 0, 0, 0, false, false, 0, 0, 0, 0⟩) else (bif s.switch == 1 then (4, ⟨7, 0, 0, 0, s.gen, 0, false, 0, 0, 0, 0, 0, 0, false, false, 0, 0, 0, 0⟩) else (bif full then (2, ⟨5, 0, 0, 0, IntKind.i64.wrap (s.gen + 1), 0, false, 0, 0, 0, 0, 0, 0, false, false, 0, 0, 0, 0⟩) else (0, ⟨0, 0, 0, 0, 0, 0, false, 0, 0, 0, 0, 0, 0, false, false, 0, 0, 0, 0⟩)))) else (bif s.switch == 1 then (4, ⟨7, 0, 0, 0, s.gen, 0, false, 0, 0, 0, 0, 0, 0, false, false, 0, 0, 0, 0⟩) else (bif full then (2, ⟨5, 0, 0, 0, IntKind.i64.wrap (s.gen + 1), 0, false, 0, 0, 0, 0, 0, 0, false, false, 0, 0, 0, 0⟩) else (0, ⟨0, 0, 0, 0, 0, 0, false, 0, 0, 0, 0, 0, 0, false, false, 0, 0, 0, 0⟩)))))
@[reducible] def k_pturn {R : Type} (K : TV → List (Option SB) → Option R) (v : Int × Rc) : Option R := K (.tup [.c (.int .i64 (v).1), .agg (encRc (v).2)]) []
theorem t_pturn {R : Type} (s : St) (full : Bool) (K : TV → List (Option SB) → Option R) : runFn Try.prog S0 10 Try.f26 (bodyOf Try.f26) [.agg (encSt s), .c (.bool full)] [] K = k_pturn K (pturnV s full) := by
  refine Eq.trans (b := (bif s.switch == 2 then K (TV.tup [SV.c (CV.int IntKind.i64 5), SV.agg [CV.int IntKind.i64 0, CV.int IntKind.i64 0, CV.int IntKind.i64 0, CV.int IntKind.i64 0, CV.int IntKind.i64 0, CV.int IntKind.i64 0, CV.bool false, CV.int IntKind.i64 0, CV.int IntKind.i64 0, CV.int IntKind.i64 0, CV.int IntKind.i64 0, CV.int IntKind.i64 0, CV.int IntKind.i64 0, CV.bool false, CV.bool false, CV.int IntKind.i64 0, CV.int IntKind.i64 0, CV.int IntKind.i64 0, CV.int IntKind.i64 0]]) [] else (bif s.switch == 1 then (bif full then K (TV.tup [SV.c (CV.int IntKind.i64 3), SV.agg [CV.int IntKind.i64 6, CV.int IntKind.i64 0, CV.int IntKind.i64 0, CV.int IntKind.i64 0, CV.int IntKind.i64 s.gen, CV.int IntKind.i64 0, CV.bool false, CV.int IntKind.i64 0, CV.int IntKind.i64 0, CV.int IntKind.i64 0, CV.int IntKind.i64 0, CV.int IntKind.i64 0, CV.int IntKind.i64 0, CV.bool false, CV.bool false, CV.int IntKind.i64 0, CV.int IntKind.i64 0, CV.int IntKind.i64 0, CV.int IntKind.i64 0]]) [] else (bif s.switch == 1 then K (TV.tup [SV.c (CV.int IntKind.i64 4), SV.agg [CV.int IntKind.i64 7, CV.int IntKind.i64 0, CV.int IntKind.i64 0, CV.int IntKind.i64 0, CV.int IntKind.i64 s.gen, CV.int IntKind.i64 0, CV.bool false, CV.int IntKind.i64 0, CV.int IntKind.i64 0, CV.int IntKind.i64 0, CV.int IntKind.i64 0, CV.int IntKind.i64 0, CV.int IntKind.i64 0, CV.bool false, CV.bool false, CV.int IntKind.i64 0, CV.int IntKind.i64 0, CV.int IntKind.i64 0, CV.int IntKind.i64 0]]) [] else (bif full then K (TV.tup [SV.c (CV.int IntKind.i64 2), SV.agg [CV.int IntKind.i64 5, CV.int IntKind.i64 0, CV.int IntKind.i64 0, CV.int IntKind.i64 0, CV.int IntKind.i64 (IntKind.i64.wrap (s.gen + 1)), CV.int IntKind.i64 0, CV.bool false, CV.int IntKind.i64 0, CV.int IntKind.i64 0, CV.int IntKind.i64 0, CV.int IntKind.i64 0, CV.int IntKind.i64 0, CV.int IntKind.i64 0, CV.bool false, CV.bool false, CV.int IntKind.i64 0, CV.int IntKind.i64 0, CV.int IntKind.i64 0, CV.int IntKind.i64 0]]) [] else K (TV.tup [SV.c (CV.int IntKind.i64 0), SV.agg [CV.int IntKind.i64 0, CV.int IntKind.i64 0, CV.int IntKind.i64 0, CV.int IntKind.i64 0, CV.int IntKind.i64 0, CV.int IntKind.i64 0, CV.bool false, CV.int IntKind.i64 0, CV.int IntKind.i64 0, CV.int IntKind.i64 0, CV.int IntKind.i64 0, CV.int IntKind.i64 0, CV.int IntKind.i64 0, CV.bool false, CV.bool false, CV.int IntKind.i64 0, CV.int IntKind.i64 0, CV.int IntKind.i64 0, CV.int IntKind.i64 0]]) []))) else (bif s.switch == 1 then K (TV.tup [SV.c (CV.int IntKind.i64 4), SV.agg [CV.int IntKind.i64 7, CV.int IntKind.i64 0, CV.int IntKind.i64 0, CV.int IntKind.i64 0, CV.int IntKind.i64 s.gen, CV.int IntKind.i64 0, CV.bool false, CV.int IntKind.i64 0, CV.int IntKind.i64 0, CV.int IntKind.i64 0, CV.int IntKind.i64 0, CV.int IntKind.i64 0, CV.int IntKind.i64 0, CV.bool false, CV.bool false, CV.int IntKind.i64 0, CV.int IntKind.i64 0, CV.int IntKind.i64 0, CV.int IntKind.i64 0]]) [] else (bif full then K (TV.tup [SV.c (CV.int IntKind.i64 2), SV.agg [CV.int IntKind.i64 5, CV.int IntKind.i64 0, CV.int IntKind.i64 0, CV.int IntKind.i64 0, CV.int IntKind.i64 (IntKind.i64.wrap (s.gen + 1)), CV.int IntKind.i64 0, CV.bool false, CV.int IntKind.i64 0, CV.int IntKind.i64 0, CV.int IntKind.i64 0, CV.int IntKind.i64 0, CV.int IntKind.i64 0, CV.int IntKind.i64 0, CV.bool false, CV.bool false, CV.int IntKind.i64 0, CV.int IntKind.i64 0, CV.int IntKind.i64 0, CV.int IntKind.i64 0]]) [] else K (TV.tup [SV.c (CV.int IntKind.i64 0), SV.agg [CV.int IntKind.i64 0, CV.int IntKind.i64 0, CV.int IntKind.i64 0, CV.int IntKind.i64 0, CV.int IntKind.i64 0, CV.int IntKind.i64 0, CV.bool false, CV.int IntKind.i64 0, CV.int IntKind.i64 0, CV.int IntKind.i64 0, CV.int IntKind.i64 0, CV.int IntKind.i64 0, CV.int IntKind.i64 0, CV.bool false, CV.bool false, CV.int IntKind.i64 0, CV.int IntKind.i64 0, CV.int IntKind.i64 0, CV.int IntKind.i64 0]]) []))))) (by kernel_rfl) ?_
  unfold pturnV
  repeat' (first | exact rfl | refine push (k_pturn K) ?_ ?_)
noncomputable def g_pturn : List SV → Option TV
  | [.agg l_s, .c (.bool full)] => (decSt l_s).bind fun s => some (.tup [.c (.int .i64 (pturnV s full).1), .agg (encRc (pturnV s full).2)])
  | _ => none
theorem ok_pturn : SumOk Try.prog 26 (valSum g_pturn) := by
  refine sumOk_val okS0 mixed Try.func26 (c := bodyOf Try.f26) (by kernel_rfl) (by kernel_rfl) ?_
  intro args tv h
  unfold g_pturn at h
  split at h
  · have hq := Option.bind_eq_some_iff.1 h
    clear h
    obtain ⟨s, h_s, h⟩ := hq
    obtain rfl := decSt_spec _ _ h_s
    cases h
    exact ⟨fun _ => rfl, fun _ => rfl, 10, t_pturn _ _ _⟩
  · cases h
@[reducible] noncomputable def PB : Sums := (18, valSum g_full) :: (19, valSum g_rfull) :: (26, valSum g_pturn) :: PA
theorem okPB : SumsOk Try.prog PB := (((okPA.cons ok_pturn).cons ok_rfull).cons ok_full)
noncomputable def nextV (s : St) (v : Vw) (now : Int) : Int × Rc := (bif s.phase == 1 then (bif fullV s v (IntKind.i64.wrap (1 - s.active)) then (1, ⟨3, 0, 0, 0, 0, 0, false, 0, 0, 0, 0, 0, 0, false, false, 0, 0, 0, 0⟩) else (0, ⟨0, 0, 0, 0, 0, 0, false, 0, 0, 0, 0, 0, 0, false, false, 0, 0, 0, 0⟩)) else (bif s.phase == 3 then (bif s.phase == 3 then ((pturnV s (fullV s v (IntKind.i64.wrap (1 - s.active)))).fst, (pturnV s (fullV s v (IntKind.i64.wrap (1 - s.active)))).snd) else (bif s.phase == 5 then (bif decide (lessV now s.flip < s.delay) then (0, ⟨0, 0, 0, 0, 0, 0, false, 0, 0, 0, 0, 0, 0, false, false, 0, 0, 0, 0⟩) else (6, ⟨10, 0, 0, 0, 0, 0, false, 0, 0, 0, 0, 0, 0, false, false, 0, 0, 0, 0⟩)) else (bif s.phase == 7 then (6, ⟨10, 0, 0, 0, 0, 0, false, 0, 0, 0, 0, 0, 0, false, false, 0, 0, 0, 0⟩) else (0, ⟨0, 0, 0, 0, 0, 0, false, 0, 0, 0, 0, 0, 0, false, false, 0, 0, 0, 0⟩)))) else (bif s.phase == 6 then ((pturnV s (fullV s v (IntKind.i64.wrap (1 - s.active)))).fst, (pturnV s (fullV s v (IntKind.i64.wrap (1 - s.active)))).snd) else (bif s.phase == 5 then (bif decide (lessV now s.flip < s.delay) then (0, ⟨0, 0, 0, 0, 0, 0, false, 0, 0, 0, 0, 0, 0, false, false, 0, 0, 0, 0⟩) else (6, ⟨10, 0, 0, 0, 0, 0, false, 0, 0, 0, 0, 0, 0, false, false, 0, 0, 0, 0⟩)) else (bif s.phase == 7 then (6, ⟨10, 0, 0, 0, 0, 0, false, 0, 0, 0, 0, 0, 0, false, false, 0, 0, 0, 0⟩) else (0, ⟨0, 0, 0, 0, 0, 0, false, 0, 0, 0, 0, 0, 0, false, false, 0, 0, 0, 0⟩))))))
@[reducible] def k_next {R : Type} (K : TV → List (Option SB) → Option R) (v : Int × Rc) : Option R := K (.tup [.c (.int .i64 (v).1), .agg (encRc (v).2)]) []
theorem t_next {R : Type} (s : St) (v : Vw) (now : Int) (K : TV → List (Option SB) → Option R) : runFn Try.prog PB 10 Try.f16 (bodyOf Try.f16) [.agg (encSt s), .agg (encVw v), .c (.int .i64 now)] [] K = k_next K (nextV s v now) := by
  refine Eq.trans (b := (bif s.phase == 1 then (bif fullV s v (IntKind.i64.wrap (1 - s.active)) then K (TV.tup [SV.c (CV.int IntKind.i64 1), SV.agg [CV.int IntKind.i64 3, CV.int IntKind.i64 0, CV.int IntKind.i64 0, CV.int IntKind.i64 0, CV.int IntKind.i64 0, CV.int IntKind.i64 0, CV.bool false, CV.int IntKind.i64 0, CV.int IntKind.i64 0, CV.int IntKind.i64 0, CV.int IntKind.i64 0, CV.int IntKind.i64 0, CV.int IntKind.i64 0, CV.bool false, CV.bool false, CV.int IntKind.i64 0, CV.int IntKind.i64 0, CV.int IntKind.i64 0, CV.int IntKind.i64 0]]) [] else K (TV.tup [SV.c (CV.int IntKind.i64 0), SV.agg [CV.int IntKind.i64 0, CV.int IntKind.i64 0, CV.int IntKind.i64 0, CV.int IntKind.i64 0, CV.int IntKind.i64 0, CV.int IntKind.i64 0, CV.bool false, CV.int IntKind.i64 0, CV.int IntKind.i64 0, CV.int IntKind.i64 0, CV.int IntKind.i64 0, CV.int IntKind.i64 0, CV.int IntKind.i64 0, CV.bool false, CV.bool false, CV.int IntKind.i64 0, CV.int IntKind.i64 0, CV.int IntKind.i64 0, CV.int IntKind.i64 0]]) []) else (bif s.phase == 3 then (bif s.phase == 3 then K (TV.tup [SV.c (CV.int IntKind.i64 (pturnV s (fullV s v (IntKind.i64.wrap (1 - s.active)))).fst), SV.agg [CV.int IntKind.i64 (pturnV s (fullV s v (IntKind.i64.wrap (1 - s.active)))).snd.kind, CV.int IntKind.i64 (pturnV s (fullV s v (IntKind.i64.wrap (1 - s.active)))).snd.rev, CV.int IntKind.i64 (pturnV s (fullV s v (IntKind.i64.wrap (1 - s.active)))).snd.n, CV.int IntKind.i64 (pturnV s (fullV s v (IntKind.i64.wrap (1 - s.active)))).snd.delay, CV.int IntKind.i64 (pturnV s (fullV s v (IntKind.i64.wrap (1 - s.active)))).snd.gen, CV.int IntKind.i64 (pturnV s (fullV s v (IntKind.i64.wrap (1 - s.active)))).snd.tick, CV.bool (pturnV s (fullV s v (IntKind.i64.wrap (1 - s.active)))).snd.pass, CV.int IntKind.i64 (pturnV s (fullV s v (IntKind.i64.wrap (1 - s.active)))).snd.xphase, CV.int IntKind.i64 (pturnV s (fullV s v (IntKind.i64.wrap (1 - s.active)))).snd.xactive, CV.int IntKind.i64 (pturnV s (fullV s v (IntKind.i64.wrap (1 - s.active)))).snd.xrev0, CV.int IntKind.i64 (pturnV s (fullV s v (IntKind.i64.wrap (1 - s.active)))).snd.xrev1, CV.int IntKind.i64 (pturnV s (fullV s v (IntKind.i64.wrap (1 - s.active)))).snd.xwant0, CV.int IntKind.i64 (pturnV s (fullV s v (IntKind.i64.wrap (1 - s.active)))).snd.xwant1, CV.bool (pturnV s (fullV s v (IntKind.i64.wrap (1 - s.active)))).snd.xpassed0, CV.bool (pturnV s (fullV s v (IntKind.i64.wrap (1 - s.active)))).snd.xpassed1, CV.int IntKind.i64 (pturnV s (fullV s v (IntKind.i64.wrap (1 - s.active)))).snd.xdelay, CV.int IntKind.i64 (pturnV s (fullV s v (IntKind.i64.wrap (1 - s.active)))).snd.xgen, CV.int IntKind.i64 (pturnV s (fullV s v (IntKind.i64.wrap (1 - s.active)))).snd.xswitch, CV.int IntKind.i64 (pturnV s (fullV s v (IntKind.i64.wrap (1 - s.active)))).snd.xflip]]) [] else (bif s.phase == 5 then (bif decide (lessV now s.flip < s.delay) then K (TV.tup [SV.c (CV.int IntKind.i64 0), SV.agg [CV.int IntKind.i64 0, CV.int IntKind.i64 0, CV.int IntKind.i64 0, CV.int IntKind.i64 0, CV.int IntKind.i64 0, CV.int IntKind.i64 0, CV.bool false, CV.int IntKind.i64 0, CV.int IntKind.i64 0, CV.int IntKind.i64 0, CV.int IntKind.i64 0, CV.int IntKind.i64 0, CV.int IntKind.i64 0, CV.bool false, CV.bool false, CV.int IntKind.i64 0, CV.int IntKind.i64 0, CV.int IntKind.i64 0, CV.int IntKind.i64 0]]) [] else K (TV.tup [SV.c (CV.int IntKind.i64 6), SV.agg [CV.int IntKind.i64 10, CV.int IntKind.i64 0, CV.int IntKind.i64 0, CV.int IntKind.i64 0, CV.int IntKind.i64 0, CV.int IntKind.i64 0, CV.bool false, CV.int IntKind.i64 0, CV.int IntKind.i64 0, CV.int IntKind.i64 0, CV.int IntKind.i64 0, CV.int IntKind.i64 0, CV.int IntKind.i64 0, CV.bool false, CV.bool false, CV.int IntKind.i64 0, CV.int IntKind.i64 0, CV.int IntKind.i64 0, CV.int IntKind.i64 0]]) []) else (bif s.phase == 7 then K (TV.tup [SV.c (CV.int IntKind.i64 6), SV.agg [CV.int IntKind.i64 10, CV.int IntKind.i64 0, CV.int IntKind.i64 0, CV.int IntKind.i64 0, CV.int IntKind.i64 0, CV.int IntKind.i64 0, CV.bool false, CV.int IntKind.i64 0, CV.int IntKind.i64 0, CV.int IntKind.i64 0, CV.int IntKind.i64 0, CV.int IntKind.i64 0, CV.int IntKind.i64 0, CV.bool false, CV.bool false, CV.int IntKind.i64 0, CV.int IntKind.i64 0, CV.int IntKind.i64 0, CV.int IntKind.i64 0]]) [] else K (TV.tup [SV.c (CV.int IntKind.i64 0), SV.agg [CV.int IntKind.i64 0, CV.int IntKind.i64 0, CV.int IntKind.i64 0, CV.int IntKind.i64 0, CV.int IntKind.i64 0, CV.int IntKind.i64 0, CV.bool false, CV.int IntKind.i64 0, CV.int IntKind.i64 0, CV.int IntKind.i64 0, CV.int IntKind.i64 0, CV.int IntKind.i64 0, CV.int IntKind.i64 0, CV.bool false, CV.bool false, CV.int IntKind.i64 0, CV.int IntKind.i64 0, CV.int IntKind.i64 0, CV.int IntKind.i64 0]]) []))) else (bif s.phase == 6 then K (TV.tup [SV.c (CV.int IntKind.i64 (pturnV s (fullV s v (IntKind.i64.wrap (1 - s.active)))).fst), SV.agg [CV.int IntKind.i64 (pturnV s (fullV s v (IntKind.i64.wrap (1 - s.active)))).snd.kind, CV.int IntKind.i64 (pturnV s (fullV s v (IntKind.i64.wrap (1 - s.active)))).snd.rev, CV.int IntKind.i64 (pturnV s (fullV s v (IntKind.i64.wrap (1 - s.active)))).snd.n, CV.int IntKind.i64 (pturnV s (fullV s v (IntKind.i64.wrap (1 - s.active)))).snd.delay, CV.int IntKind.i64 (pturnV s (fullV s v (IntKind.i64.wrap (1 - s.active)))).snd.gen, CV.int IntKind.i64 (pturnV s (fullV s v (IntKind.i64.wrap (1 - s.active)))).snd.tick, CV.bool (pturnV s (fullV s v (IntKind.i64.wrap (1 - s.active)))).snd.pass, CV.int IntKind.i64 (pturnV s (fullV s v (IntKind.i64.wrap (1 - s.active)))).snd.xphase, CV.int IntKind.i64 (pturnV s (fullV s v (IntKind.i64.wrap (1 - s.active)))).snd.xactive, CV.int IntKind.i64 (pturnV s (fullV s v (IntKind.i64.wrap (1 - s.active)))).snd.xrev0, CV.int IntKind.i64 (pturnV s (fullV s v (IntKind.i64.wrap (1 - s.active)))).snd.xrev1, CV.int IntKind.i64 (pturnV s (fullV s v (IntKind.i64.wrap (1 - s.active)))).snd.xwant0, CV.int IntKind.i64 (pturnV s (fullV s v (IntKind.i64.wrap (1 - s.active)))).snd.xwant1, CV.bool (pturnV s (fullV s v (IntKind.i64.wrap (1 - s.active)))).snd.xpassed0, CV.bool (pturnV s (fullV s v (IntKind.i64.wrap (1 - s.active)))).snd.xpassed1, CV.int IntKind.i64 (pturnV s (fullV s v (IntKind.i64.wrap (1 - s.active)))).snd.xdelay, CV.int IntKind.i64 (pturnV s (fullV s v (IntKind.i64.wrap (1 - s.active)))).snd.xgen, CV.int IntKind.i64 (pturnV s (fullV s v (IntKind.i64.wrap (1 - s.active)))).snd.xswitch, CV.int IntKind.i64 (pturnV s (fullV s v (IntKind.i64.wrap (1 - s.active)))).snd.xflip]]) [] else (bif s.phase == 5 then (bif decide (lessV now s.flip < s.delay) then K (TV.tup [SV.c (CV.int IntKind.i64 0), SV.agg [CV.int IntKind.i64 0, CV.int IntKind.i64 0, CV.int IntKind.i64 0, CV.int IntKind.i64 0, CV.int IntKind.i64 0, CV.int IntKind.i64 0, CV.bool false, CV.int IntKind.i64 0, CV.int IntKind.i64 0, CV.int IntKind.i64 0, CV.int IntKind.i64 0, CV.int IntKind.i64 0, CV.int IntKind.i64 0, CV.bool false, CV.bool false, CV.int IntKind.i64 0, CV.int IntKind.i64 0, CV.int IntKind.i64 0, CV.int IntKind.i64 0]]) [] else K (TV.tup [SV.c (CV.int IntKind.i64 6), SV.agg [CV.int IntKind.i64 10, CV.int IntKind.i64 0, CV.int IntKind.i64 0, CV.int IntKind.i64 0, CV.int IntKind.i64 0, CV.int IntKind.i64 0, CV.bool false, CV.int IntKind.i64 0, CV.int IntKind.i64 0, CV.int IntKind.i64 0, CV.int IntKind.i64 0, CV.int IntKind.i64 0, CV.int IntKind.i64 0, CV.bool false, CV.bool false, CV.int IntKind.i64 0, CV.int IntKind.i64 0, CV.int IntKind.i64 0, CV.int IntKind.i64 0]]) []) else (bif s.phase == 7 then K (TV.tup [SV.c (CV.int IntKind.i64 6), SV.agg [CV.int IntKind.i64 10, CV.int IntKind.i64 0, CV.int IntKind.i64 0, CV.int IntKind.i64 0, CV.int IntKind.i64 0, CV.int IntKind.i64 0, CV.bool false, CV.int IntKind.i64 0, CV.int IntKind.i64 0, CV.int IntKind.i64 0, CV.int IntKind.i64 0, CV.int IntKind.i64 0, CV.int IntKind.i64 0, CV.bool false, CV.bool false, CV.int IntKind.i64 0, CV.int IntKind.i64 0, CV.int IntKind.i64 0, CV.int IntKind.i64 0]]) [] else K (TV.tup [SV.c (CV.int IntKind.i64 0), SV.agg [CV.int IntKind.i64 0, CV.int IntKind.i64 0, CV.int IntKind.i64 0, CV.int IntKind.i64 0, CV.int IntKind.i64 0, CV.int IntKind.i64 0, CV.bool false, CV.int IntKind.i64 0, CV.int IntKind.i64 0, CV.int IntKind.i64 0, CV.int IntKind.i64 0, CV.int IntKind.i64 0, CV.int IntKind.i64 0, CV.bool false, CV.bool false, CV.int IntKind.i64 0, CV.int IntKind.i64 0, CV.int IntKind.i64 0, CV.int IntKind.i64 0]]) [])))))) (by kernel_rfl) ?_
  unfold nextV
  repeat' (first | exact rfl | refine push (k_next K) ?_ ?_)
noncomputable def g_next : List SV → Option TV
  | [.agg l_s, .agg l_v, .c (.int .i64 now)] => (decSt l_s).bind fun s => (decVw l_v).bind fun v => some (.tup [.c (.int .i64 (nextV s v now).1), .agg (encRc (nextV s v now).2)])
  | _ => none
theorem ok_next : SumOk Try.prog 16 (valSum g_next) := by
  refine sumOk_val okPB mixed Try.func16 (c := bodyOf Try.f16) (by kernel_rfl) (by kernel_rfl) ?_
  intro args tv h
  unfold g_next at h
  split at h
  · have hq := Option.bind_eq_some_iff.1 h
    clear h
    obtain ⟨s, h_s, h⟩ := hq
    obtain rfl := decSt_spec _ _ h_s
    have hq := Option.bind_eq_some_iff.1 h
    clear h
    obtain ⟨v, h_v, h⟩ := hq
    obtain rfl := decVw_spec _ _ h_v
    cases h
    exact ⟨fun _ => rfl, fun _ => rfl, 10, t_next _ _ _ _⟩
  · cases h
noncomputable def rnextV (s : St) (v : Vw) (now : Int) : Int × Rc := (bif s.phase == 1 then (bif fullV s v (IntKind.i64.wrap (1 - s.active)) then (1, ⟨3, 0, 0, 0, 0, 0, false, 0, 0, 0, 0, 0, 0, false, false, 0, 0, 0, 0⟩) else (bif s.phase == 3 then (bif s.switch == 2 then (5, ⟨0, 0, 0, 0, 0, 0, false, 0, 0, 0, 0, 0, 0, false, false, 0, 0, 0, 0⟩) else (bif s.switch == 1 then (bif fullV s v (IntKind.i64.wrap (1 - s.active)) then (3, ⟨6, 0, 0, 0, s.gen, 0, false, 0, 0, 0, 0, 0, 0, false, false, 0, 0, 0, 0⟩) else (4, ⟨7, 0, 0, 0, s.gen, 0, false, 0, 0, 0, 0, 0, 0, false, false, 0, 0, 0, 0⟩)) else (bif fullV s v (IntKind.i64.wrap (1 - s.active)) then (2, ⟨5, 0, 0, 0, IntKind.i64.wrap (s.gen + 1), 0, false, 0, 0, 0, 0, 0, 0, false, false, 0, 0, 0, 0⟩) else (0, ⟨0, 0, 0, 0, 0, 0, false, 0, 0, 0, 0, 0, 0, false, false, 0, 0, 0, 0⟩)))) else (bif s.phase == 6 then (bif s.switch == 2 then (5, ⟨0, 0, 0, 0, 0, 0, false, 0, 0, 0, 0, 0, 0, false, false, 0, 0, 0, 0⟩) else (bif s.switch == 1 then (bif fullV s v (IntKind.i64.wrap (1 - s.active)) then (3, ⟨6, 0, 0, 0, s.gen, 0, false, 0, 0, 0, 0, 0, 0, false, false, 0, 0, 0, 0⟩) else (4, ⟨7, 0, 0, 0, s.gen, 0, false, 0, 0, 0, 0, 0, 0, false, false, 0, 0, 0, 0⟩)) else (bif fullV s v (IntKind.i64.wrap (1 - s.active)) then (2, ⟨5, 0, 0, 0, IntKind.i64.wrap (s.gen + 1), 0, false, 0, 0, 0, 0, 0, 0, false, false, 0, 0, 0, 0⟩) else (0, ⟨0, 0, 0, 0, 0, 0, false, 0, 0, 0, 0, 0, 0, false, false, 0, 0, 0, 0⟩)))) else (bif s.phase == 7 then (6, ⟨10, 0, 0, 0, 0, 0, false, 0, 0, 0, 0, 0, 0, false, false, 0, 0, 0, 0⟩) else (bif s.phase == 5 then (bif decide (rlessV now s.flip ≥ s.delay) then (6, ⟨10, 0, 0, 0, 0, 0, false, 0, 0, 0, 0, 0, 0, false, false, 0, 0, 0, 0⟩) else (0, ⟨0, 0, 0, 0, 0, 0, false, 0, 0, 0, 0, 0, 0, false, false, 0, 0, 0, 0⟩)) else (0, ⟨0, 0, 0, 0, 0, 0, false, 0, 0, 0, 0, 0, 0, false, false, 0, 0, 0, 0⟩)))))) else (bif s.phase == 3 then (bif s.switch == 2 then (5, ⟨0, 0, 0, 0, 0, 0, false, 0, 0, 0, 0, 0, 0, false, false, 0, 0, 0, 0⟩) else (bif s.switch == 1 then (bif fullV s v (IntKind.i64.wrap (1 - s.active)) then (3, ⟨6, 0, 0, 0, s.gen, 0, false, 0, 0, 0, 0, 0, 0, false, false, 0, 0, 0, 0⟩) else (4, ⟨7, 0, 0, 0, s.gen, 0, false, 0, 0, 0, 0, 0, 0, false, false, 0, 0, 0, 0⟩)) else (bif fullV s v (IntKind.i64.wrap (1 - s.active)) then (2, ⟨5, 0, 0, 0, IntKind.i64.wrap (s.gen + 1), 0, false, 0, 0, 0, 0, 0, 0, false, false, 0, 0, 0, 0⟩) else (0, ⟨0, 0, 0, 0, 0, 0, false, 0, 0, 0, 0, 0, 0, false, false, 0, 0, 0, 0⟩)))) else (bif s.phase == 6 then (bif s.switch == 2 then (5, ⟨0, 0, 0, 0, 0, 0, false, 0, 0, 0, 0, 0, 0, false, false, 0, 0, 0, 0⟩) else (bif s.switch == 1 then (bif fullV s v (IntKind.i64.wrap (1 - s.active)) then (3, ⟨6, 0, 0, 0, s.gen, 0, false, 0, 0, 0, 0, 0, 0, false, false, 0, 0, 0, 0⟩) else (4, ⟨7, 0, 0, 0, s.gen, 0, false, 0, 0, 0, 0, 0, 0, false, false, 0, 0, 0, 0⟩)) else (bif fullV s v (IntKind.i64.wrap (1 - s.active)) then (2, ⟨5, 0, 0, 0, IntKind.i64.wrap (s.gen + 1), 0, false, 0, 0, 0, 0, 0, 0, false, false, 0, 0, 0, 0⟩) else (0, ⟨0, 0, 0, 0, 0, 0, false, 0, 0, 0, 0, 0, 0, false, false, 0, 0, 0, 0⟩)))) else (bif s.phase == 7 then (6, ⟨10, 0, 0, 0, 0, 0, false, 0, 0, 0, 0, 0, 0, false, false, 0, 0, 0, 0⟩) else (bif s.phase == 5 then (bif decide (rlessV now s.flip ≥ s.delay) then (6, ⟨10, 0, 0, 0, 0, 0, false, 0, 0, 0, 0, 0, 0, false, false, 0, 0, 0, 0⟩) else (0, ⟨0, 0, 0, 0, 0, 0, false, 0, 0, 0, 0, 0, 0, false, false, 0, 0, 0, 0⟩)) else (0, ⟨0, 0, 0, 0, 0, 0, false, 0, 0, 0, 0, 0, 0, false, false, 0, 0, 0, 0⟩))))))
@[reducible] def k_rnext {R : Type} (K : TV → List (Option SB) → Option R) (v : Int × Rc) : Option R := K (.tup [.c (.int .i64 (v).1), .agg (encRc (v).2)]) []
theorem t_rnext {R : Type} (s : St) (v : Vw) (now : Int) (K : TV → List (Option SB) → Option R) : runFn Try.prog PB 10 Try.f17 (bodyOf Try.f17) [.agg (encSt s), .agg (encVw v), .c (.int .i64 now)] [] K = k_rnext K (rnextV s v now) := by
  refine Eq.trans (b := (bif s.phase == 1 then (bif fullV s v (IntKind.i64.wrap (1 - s.active)) then K (TV.tup [SV.c (CV.int IntKind.i64 1), SV.agg [CV.int IntKind.i64 3, CV.int IntKind.i64 0, CV.int IntKind.i64 0, CV.int IntKind.i64 0, CV.int IntKind.i64 0, CV.int IntKind.i64 0, CV.bool false, CV.int IntKind.i64 0, CV.int IntKind.i64 0, CV.int IntKind.i64 0, CV.int IntKind.i64 0, CV.int IntKind.i64 0, CV.int IntKind.i64 0, CV.bool false, CV.bool false, CV.int IntKind.i64 0, CV.int IntKind.i64 0, CV.int IntKind.i64 0, CV.int IntKind.i64 0]]) [] else (bif s.phase == 3 then (bif s.switch == 2 then K (TV.tup [SV.c (CV.int IntKind.i64 5), SV.agg [CV.int IntKind.i64 0, CV.int IntKind.i64 0, CV.int IntKind.i64 0, CV.int IntKind.i64 0, CV.int IntKind.i64 0, CV.int IntKind.i64 0, CV.bool false, CV.int IntKind.i64 0, CV.int IntKind.i64 0, CV.int IntKind.i64 0, CV.int IntKind.i64 0, CV.int IntKind.i64 0, CV.int IntKind.i64 0, CV.bool false, CV.bool false, CV.int IntKind.i64 0, CV.int IntKind.i64 0, CV.int IntKind.i64 0, CV.int IntKind.i64 0]]) [] else (bif s.switch == 1 then (bif fullV s v (IntKind.i64.wrap (1 - s.active)) then K (TV.tup [SV.c (CV.int IntKind.i64 3), SV.agg [CV.int IntKind.i64 6, CV.int IntKind.i64 0, CV.int IntKind.i64 0, CV.int IntKind.i64 0, CV.int IntKind.i64 s.gen, CV.int IntKind.i64 0, CV.bool false, CV.int IntKind.i64 0, CV.int IntKind.i64 0, CV.int IntKind.i64 0, CV.int IntKind.i64 0, CV.int IntKind.i64 0, CV.int IntKind.i64 0, CV.bool false, CV.bool false, CV.int IntKind.i64 0, CV.int IntKind.i64 0, CV.int IntKind.i64 0, CV.int IntKind.i64 0]]) [] else K (TV.tup [SV.c (CV.int IntKind.i64 4), SV.agg [CV.int IntKind.i64 7, CV.int IntKind.i64 0, CV.int IntKind.i64 0, CV.int IntKind.i64 0, CV.int IntKind.i64 s.gen, CV.int IntKind.i64 0, CV.bool false, CV.int IntKind.i64 0, CV.int IntKind.i64 0, CV.int IntKind.i64 0, CV.int IntKind.i64 0, CV.int IntKind.i64 0, CV.int IntKind.i64 0, CV.bool false, CV.bool false, CV.int IntKind.i64 0, CV.int IntKind.i64 0, CV.int IntKind.i64 0, CV.int IntKind.i64 0]]) []) else (bif fullV s v (IntKind.i64.wrap (1 - s.active)) then K (TV.tup [SV.c (CV.int IntKind.i64 2), SV.agg [CV.int IntKind.i64 5, CV.int IntKind.i64 0, CV.int IntKind.i64 0, CV.int IntKind.i64 0, CV.int IntKind.i64 (IntKind.i64.wrap (s.gen + 1)), CV.int IntKind.i64 0, CV.bool false, CV.int IntKind.i64 0, CV.int IntKind.i64 0, CV.int IntKind.i64 0, CV.int IntKind.i64 0, CV.int IntKind.i64 0, CV.int IntKind.i64 0, CV.bool false, CV.bool false, CV.int IntKind.i64 0, CV.int IntKind.i64 0, CV.int IntKind.i64 0, CV.int IntKind.i64 0]]) [] else K (TV.tup [SV.c (CV.int IntKind.i64 0), SV.agg [CV.int IntKind.i64 0, CV.int IntKind.i64 0, CV.int IntKind.i64 0, CV.int IntKind.i64 0, CV.int IntKind.i64 0, CV.int IntKind.i64 0, CV.bool false, CV.int IntKind.i64 0, CV.int IntKind.i64 0, CV.int IntKind.i64 0, CV.int IntKind.i64 0, CV.int IntKind.i64 0, CV.int IntKind.i64 0, CV.bool false, CV.bool false, CV.int IntKind.i64 0, CV.int IntKind.i64 0, CV.int IntKind.i64 0, CV.int IntKind.i64 0]]) []))) else (bif s.phase == 6 then (bif s.switch == 2 then K (TV.tup [SV.c (CV.int IntKind.i64 5), SV.agg [CV.int IntKind.i64 0, CV.int IntKind.i64 0, CV.int IntKind.i64 0, CV.int IntKind.i64 0, CV.int IntKind.i64 0, CV.int IntKind.i64 0, CV.bool false, CV.int IntKind.i64 0, CV.int IntKind.i64 0, CV.int IntKind.i64 0, CV.int IntKind.i64 0, CV.int IntKind.i64 0, CV.int IntKind.i64 0, CV.bool false, CV.bool false, CV.int IntKind.i64 0, CV.int IntKind.i64 0, CV.int IntKind.i64 0, CV.int IntKind.i64 0]]) [] else (bif s.switch == 1 then (bif fullV s v (IntKind.i64.wrap (1 - s.active)) then K (TV.tup [SV.c (CV.int IntKind.i64 3), SV.agg [CV.int IntKind.i64 6, CV.int IntKind.i64 0, CV.int IntKind.i64 0, CV.int IntKind.i64 0, CV.int IntKind.i64 s.gen, CV.int IntKind.i64 0, CV.bool false, CV.int IntKind.i64 0, CV.int IntKind.i64 0, CV.int IntKind.i64 0, CV.int IntKind.i64 0, CV.int IntKind.i64 0, CV.int IntKind.i64 0, CV.bool false, CV.bool false, CV.int IntKind.i64 0, CV.int IntKind.i64 0, CV.int IntKind.i64 0, CV.int IntKind.i64 0]]) [] else K (TV.tup [SV.c (CV.int IntKind.i64 4), SV.agg [CV.int IntKind.i64 7, CV.int IntKind.i64 0, CV.int IntKind.i64 0, CV.int IntKind.i64 0, CV.int IntKind.i64 s.gen, CV.int IntKind.i64 0, CV.bool false, CV.int IntKind.i64 0, CV.int IntKind.i64 0, CV.int IntKind.i64 0, CV.int IntKind.i64 0, CV.int IntKind.i64 0, CV.int IntKind.i64 0, CV.bool false, CV.bool false, CV.int IntKind.i64 0, CV.int IntKind.i64 0, CV.int IntKind.i64 0, CV.int IntKind.i64 0]]) []) else (bif fullV s v (IntKind.i64.wrap (1 - s.active)) then K (TV.tup [SV.c (CV.int IntKind.i64 2), SV.agg [CV.int IntKind.i64 5, CV.int IntKind.i64 0, CV.int IntKind.i64 0, CV.int IntKind.i64 0, CV.int IntKind.i64 (IntKind.i64.wrap (s.gen + 1)), CV.int IntKind.i64 0, CV.bool false, CV.int IntKind.i64 0, CV.int IntKind.i64 0, CV.int IntKind.i64 0, CV.int IntKind.i64 0, CV.int IntKind.i64 0, CV.int IntKind.i64 0, CV.bool false, CV.bool false, CV.int IntKind.i64 0, CV.int IntKind.i64 0, CV.int IntKind.i64 0, CV.int IntKind.i64 0]]) [] else K (TV.tup [SV.c (CV.int IntKind.i64 0), SV.agg [CV.int IntKind.i64 0, CV.int IntKind.i64 0, CV.int IntKind.i64 0, CV.int IntKind.i64 0, CV.int IntKind.i64 0, CV.int IntKind.i64 0, CV.bool false, CV.int IntKind.i64 0, CV.int IntKind.i64 0, CV.int IntKind.i64 0, CV.int IntKind.i64 0, CV.int IntKind.i64 0, CV.int IntKind.i64 0, CV.bool false, CV.bool false, CV.int IntKind.i64 0, CV.int IntKind.i64 0, CV.int IntKind.i64 0, CV.int IntKind.i64 0]]) []))) else (bif s.phase == 7 then K (TV.tup [SV.c (CV.int IntKind.i64 6), SV.agg [CV.int IntKind.i64 10, CV.int IntKind.i64 0, CV.int IntKind.i64 0, CV.int IntKind.i64 0, CV.int IntKind.i64 0, CV.int IntKind.i64 0, CV.bool false, CV.int IntKind.i64 0, CV.int IntKind.i64 0, CV.int IntKind.i64 0, CV.int IntKind.i64 0, CV.int IntKind.i64 0, CV.int IntKind.i64 0, CV.bool false, CV.bool false, CV.int IntKind.i64 0, CV.int IntKind.i64 0, CV.int IntKind.i64 0, CV.int IntKind.i64 0]]) [] else (bif s.phase == 5 then (bif decide (rlessV now s.flip ≥ s.delay) then K (TV.tup [SV.c (CV.int IntKind.i64 6), SV.agg [CV.int IntKind.i64 10, CV.int IntKind.i64 0, CV.int IntKind.i64 0, CV.int IntKind.i64 0, CV.int IntKind.i64 0, CV.int IntKind.i64 0, CV.bool false, CV.int IntKind.i64 0, CV.int IntKind.i64 0, CV.int IntKind.i64 0, CV.int IntKind.i64 0, CV.int IntKind.i64 0, CV.int IntKind.i64 0, CV.bool false, CV.bool false, CV.int IntKind.i64 0, CV.int IntKind.i64 0, CV.int IntKind.i64 0, CV.int IntKind.i64 0]]) [] else K (TV.tup [SV.c (CV.int IntKind.i64 0), SV.agg [CV.int IntKind.i64 0, CV.int IntKind.i64 0, CV.int IntKind.i64 0, CV.int IntKind.i64 0, CV.int IntKind.i64 0, CV.int IntKind.i64 0, CV.bool false, CV.int IntKind.i64 0, CV.int IntKind.i64 0, CV.int IntKind.i64 0, CV.int IntKind.i64 0, CV.int IntKind.i64 0, CV.int IntKind.i64 0, CV.bool false, CV.bool false, CV.int IntKind.i64 0, CV.int IntKind.i64 0, CV.int IntKind.i64 0, CV.int IntKind.i64 0]]) []) else K (TV.tup [SV.c (CV.int IntKind.i64 0), SV.agg [CV.int IntKind.i64 0, CV.int IntKind.i64 0, CV.int IntKind.i64 0, CV.int IntKind.i64 0, CV.int IntKind.i64 0, CV.int IntKind.i64 0, CV.bool false, CV.int IntKind.i64 0, CV.int IntKind.i64 0, CV.int IntKind.i64 0, CV.int IntKind.i64 0, CV.int IntKind.i64 0, CV.int IntKind.i64 0, CV.bool false, CV.bool false, CV.int IntKind.i64 0, CV.int IntKind.i64 0, CV.int IntKind.i64 0, CV.int IntKind.i64 0]]) []))))) else (bif s.phase == 3 then (bif s.switch == 2 then K (TV.tup [SV.c (CV.int IntKind.i64 5), SV.agg [CV.int IntKind.i64 0, CV.int IntKind.i64 0, CV.int IntKind.i64 0, CV.int IntKind.i64 0, CV.int IntKind.i64 0, CV.int IntKind.i64 0, CV.bool false, CV.int IntKind.i64 0, CV.int IntKind.i64 0, CV.int IntKind.i64 0, CV.int IntKind.i64 0, CV.int IntKind.i64 0, CV.int IntKind.i64 0, CV.bool false, CV.bool false, CV.int IntKind.i64 0, CV.int IntKind.i64 0, CV.int IntKind.i64 0, CV.int IntKind.i64 0]]) [] else (bif s.switch == 1 then (bif fullV s v (IntKind.i64.wrap (1 - s.active)) then K (TV.tup [SV.c (CV.int IntKind.i64 3), SV.agg [CV.int IntKind.i64 6, CV.int IntKind.i64 0, CV.int IntKind.i64 0, CV.int IntKind.i64 0, CV.int IntKind.i64 s.gen, CV.int IntKind.i64 0, CV.bool false, CV.int IntKind.i64 0, CV.int IntKind.i64 0, CV.int IntKind.i64 0, CV.int IntKind.i64 0, CV.int IntKind.i64 0, CV.int IntKind.i64 0, CV.bool false, CV.bool false, CV.int IntKind.i64 0, CV.int IntKind.i64 0, CV.int IntKind.i64 0, CV.int IntKind.i64 0]]) [] else K (TV.tup [SV.c (CV.int IntKind.i64 4), SV.agg [CV.int IntKind.i64 7, CV.int IntKind.i64 0, CV.int IntKind.i64 0, CV.int IntKind.i64 0, CV.int IntKind.i64 s.gen, CV.int IntKind.i64 0, CV.bool false, CV.int IntKind.i64 0, CV.int IntKind.i64 0, CV.int IntKind.i64 0, CV.int IntKind.i64 0, CV.int IntKind.i64 0, CV.int IntKind.i64 0, CV.bool false, CV.bool false, CV.int IntKind.i64 0, CV.int IntKind.i64 0, CV.int IntKind.i64 0, CV.int IntKind.i64 0]]) []) else (bif fullV s v (IntKind.i64.wrap (1 - s.active)) then K (TV.tup [SV.c (CV.int IntKind.i64 2), SV.agg [CV.int IntKind.i64 5, CV.int IntKind.i64 0, CV.int IntKind.i64 0, CV.int IntKind.i64 0, CV.int IntKind.i64 (IntKind.i64.wrap (s.gen + 1)), CV.int IntKind.i64 0, CV.bool false, CV.int IntKind.i64 0, CV.int IntKind.i64 0, CV.int IntKind.i64 0, CV.int IntKind.i64 0, CV.int IntKind.i64 0, CV.int IntKind.i64 0, CV.bool false, CV.bool false, CV.int IntKind.i64 0, CV.int IntKind.i64 0, CV.int IntKind.i64 0, CV.int IntKind.i64 0]]) [] else K (TV.tup [SV.c (CV.int IntKind.i64 0), SV.agg [CV.int IntKind.i64 0, CV.int IntKind.i64 0, CV.int IntKind.i64 0, CV.int IntKind.i64 0, CV.int IntKind.i64 0, CV.int IntKind.i64 0, CV.bool false, CV.int IntKind.i64 0, CV.int IntKind.i64 0, CV.int IntKind.i64 0, CV.int IntKind.i64 0, CV.int IntKind.i64 0, CV.int IntKind.i64 0, CV.bool false, CV.bool false, CV.int IntKind.i64 0, CV.int IntKind.i64 0, CV.int IntKind.i64 0, CV.int IntKind.i64 0]]) []))) else (bif s.phase == 6 then (bif s.switch == 2 then K (TV.tup [SV.c (CV.int IntKind.i64 5), SV.agg [CV.int IntKind.i64 0, CV.int IntKind.i64 0, CV.int IntKind.i64 0, CV.int IntKind.i64 0, CV.int IntKind.i64 0, CV.int IntKind.i64 0, CV.bool false, CV.int IntKind.i64 0, CV.int IntKind.i64 0, CV.int IntKind.i64 0, CV.int IntKind.i64 0, CV.int IntKind.i64 0, CV.int IntKind.i64 0, CV.bool false, CV.bool false, CV.int IntKind.i64 0, CV.int IntKind.i64 0, CV.int IntKind.i64 0, CV.int IntKind.i64 0]]) [] else (bif s.switch == 1 then (bif fullV s v (IntKind.i64.wrap (1 - s.active)) then K (TV.tup [SV.c (CV.int IntKind.i64 3), SV.agg [CV.int IntKind.i64 6, CV.int IntKind.i64 0, CV.int IntKind.i64 0, CV.int IntKind.i64 0, CV.int IntKind.i64 s.gen, CV.int IntKind.i64 0, CV.bool false, CV.int IntKind.i64 0, CV.int IntKind.i64 0, CV.int IntKind.i64 0, CV.int IntKind.i64 0, CV.int IntKind.i64 0, CV.int IntKind.i64 0, CV.bool false, CV.bool false, CV.int IntKind.i64 0, CV.int IntKind.i64 0, CV.int IntKind.i64 0, CV.int IntKind.i64 0]]) [] else K (TV.tup [SV.c (CV.int IntKind.i64 4), SV.agg [CV.int IntKind.i64 7, CV.int IntKind.i64 0, CV.int IntKind.i64 0, CV.int IntKind.i64 0, CV.int IntKind.i64 s.gen, CV.int IntKind.i64 0, CV.bool false, CV.int IntKind.i64 0, CV.int IntKind.i64 0, CV.int IntKind.i64 0, CV.int IntKind.i64 0, CV.int IntKind.i64 0, CV.int IntKind.i64 0, CV.bool false, CV.bool false, CV.int IntKind.i64 0, CV.int IntKind.i64 0, CV.int IntKind.i64 0, CV.int IntKind.i64 0]]) []) else (bif fullV s v (IntKind.i64.wrap (1 - s.active)) then K (TV.tup [SV.c (CV.int IntKind.i64 2), SV.agg [CV.int IntKind.i64 5, CV.int IntKind.i64 0, CV.int IntKind.i64 0, CV.int IntKind.i64 0, CV.int IntKind.i64 (IntKind.i64.wrap (s.gen + 1)), CV.int IntKind.i64 0, CV.bool false, CV.int IntKind.i64 0, CV.int IntKind.i64 0, CV.int IntKind.i64 0, CV.int IntKind.i64 0, CV.int IntKind.i64 0, CV.int IntKind.i64 0, CV.bool false, CV.bool false, CV.int IntKind.i64 0, CV.int IntKind.i64 0, CV.int IntKind.i64 0, CV.int IntKind.i64 0]]) [] else K (TV.tup [SV.c (CV.int IntKind.i64 0), SV.agg [CV.int IntKind.i64 0, CV.int IntKind.i64 0, CV.int IntKind.i64 0, CV.int IntKind.i64 0, CV.int IntKind.i64 0, CV.int IntKind.i64 0, CV.bool false, CV.int IntKind.i64 0, CV.int IntKind.i64 0, CV.int IntKind.i64 0, CV.int IntKind.i64 0, CV.int IntKind.i64 0, CV.int IntKind.i64 0, CV.bool false, CV.bool false, CV.int IntKind.i64 0, CV.int IntKind.i64 0, CV.int IntKind.i64 0, CV.int IntKind.i64 0]]) []))) else (bif s.phase == 7 then K (TV.tup [SV.c (CV.int IntKind.i64 6), SV.agg [CV.int IntKind.i64 10, CV.int IntKind.i64 0, CV.int IntKind.i64 0, CV.int IntKind.i64 0, CV.int IntKind.i64 0, CV.int IntKind.i64 0, CV.bool false, CV.int IntKind.i64 0, CV.int IntKind.i64 0, CV.int IntKind.i64 0, CV.int IntKind.i64 0, CV.int IntKind.i64 0, CV.int IntKind.i64 0, CV.bool false, CV.bool false, CV.int IntKind.i64 0, CV.int IntKind.i64 0, CV.int IntKind.i64 0, CV.int IntKind.i64 0]]) [] else (bif s.phase == 5 then (bif decide (rlessV now s.flip ≥ s.delay) then K (TV.tup [SV.c (CV.int IntKind.i64 6), SV.agg [CV.int IntKind.i64 10, CV.int IntKind.i64 0, CV.int IntKind.i64 0, CV.int IntKind.i64 0, CV.int IntKind.i64 0, CV.int IntKind.i64 0, CV.bool false, CV.int IntKind.i64 0, CV.int IntKind.i64 0, CV.int IntKind.i64 0, CV.int IntKind.i64 0, CV.int IntKind.i64 0, CV.int IntKind.i64 0, CV.bool false, CV.bool false, CV.int IntKind.i64 0, CV.int IntKind.i64 0, CV.int IntKind.i64 0, CV.int IntKind.i64 0]]) [] else K (TV.tup [SV.c (CV.int IntKind.i64 0), SV.agg [CV.int IntKind.i64 0, CV.int IntKind.i64 0, CV.int IntKind.i64 0, CV.int IntKind.i64 0, CV.int IntKind.i64 0, CV.int IntKind.i64 0, CV.bool false, CV.int IntKind.i64 0, CV.int IntKind.i64 0, CV.int IntKind.i64 0, CV.int IntKind.i64 0, CV.int IntKind.i64 0, CV.int IntKind.i64 0, CV.bool false, CV.bool false, CV.int IntKind.i64 0, CV.int IntKind.i64 0, CV.int IntKind.i64 0, CV.int IntKind.i64 0]]) []) else K (TV.tup [SV.c (CV.int IntKind.i64 0), SV.agg [CV.int IntKind.i64 0, CV.int IntKind.i64 0, CV.int IntKind.i64 0, CV.int IntKind.i64 0, CV.int IntKind.i64 0, CV.int IntKind.i64 0, CV.bool false, CV.int IntKind.i64 0, CV.int IntKind.i64 0, CV.int IntKind.i64 0, CV.int IntKind.i64 0, CV.int IntKind.i64 0, CV.int IntKind.i64 0, CV.bool false, CV.bool false, CV.int IntKind.i64 0, CV.int IntKind.i64 0, CV.int IntKind.i64 0, CV.int IntKind.i64 0]]) [])))))) (by kernel_rfl) ?_
  unfold rnextV
  repeat' (first | exact rfl | refine push (k_rnext K) ?_ ?_)
noncomputable def g_rnext : List SV → Option TV
  | [.agg l_s, .agg l_v, .c (.int .i64 now)] => (decSt l_s).bind fun s => (decVw l_v).bind fun v => some (.tup [.c (.int .i64 (rnextV s v now).1), .agg (encRc (rnextV s v now).2)])
  | _ => none
theorem ok_rnext : SumOk Try.prog 17 (valSum g_rnext) := by
  refine sumOk_val okPB mixed Try.func17 (c := bodyOf Try.f17) (by kernel_rfl) (by kernel_rfl) ?_
  intro args tv h
  unfold g_rnext at h
  split at h
  · have hq := Option.bind_eq_some_iff.1 h
    clear h
    obtain ⟨s, h_s, h⟩ := hq
    obtain rfl := decSt_spec _ _ h_s
    have hq := Option.bind_eq_some_iff.1 h
    clear h
    obtain ⟨v, h_v, h⟩ := hq
    obtain rfl := decVw_spec _ _ h_v
    cases h
    exact ⟨fun _ => rfl, fun _ => rfl, 10, t_rnext _ _ _ _⟩
  · cases h
@[reducible] noncomputable def PC : Sums := (46, valSum g_right) :: (15, valSum g_rright) :: (25, valSum g_step) :: (18, valSum g_full) :: (19, valSum g_rfull) :: (16, valSum g_next) :: (17, valSum g_rnext) :: S0
theorem okPC : SumsOk Try.prog PC := (((((((okS0.cons ok_rnext).cons ok_next).cons ok_rfull).cons ok_full).cons ok_step).cons ok_rright).cons ok_right)
noncomputable def awake16V  : Bool := true
@[reducible] def k_awake16 {R : Type} (K : TV → List (Option SB) → Option R) (v : Bool) : Option R := K (.s (.c (.bool (v)))) []
theorem t_awake16 {R : Type}  (K : TV → List (Option SB) → Option R) : runFn Try.prog PC 10 Try.f14 (bodyOf Try.f14) [] [] K = k_awake16 K (awake16V) := by
  refine Eq.trans (b := K (TV.s (SV.c (CV.bool true))) []) (by kernel_rfl) ?_
  unfold awake16V
  repeat' (first | exact rfl | refine push (k_awake16 K) ?_ ?_)
noncomputable def g_awake16 : List SV → Option TV
  | [] => some (.s (.c (.bool (awake16V))))
  | _ => none
theorem ok_awake16 : SumOk Try.prog 14 (valSum g_awake16) := by
  refine sumOk_val okPC mixed Try.func14 (c := bodyOf Try.f14) (by kernel_rfl) (by kernel_rfl) ?_
  intro args tv h
  unfold g_awake16 at h
  split at h
  · cases h
    exact ⟨fun _ => rfl, fun _ => rfl, 10, t_awake16  _⟩
  · cases h
@[reducible] noncomputable def PD : Sums := (14, valSum g_awake16) :: PC
theorem okPD : SumsOk Try.prog PD := (okPC.cons ok_awake16)
end Go.Proofs.Ytdnhddnihmigeaa.Fold

/- The reference's disk: its form, its fuse, clamp, Set. No condition. -/
import Derived.Test.YtkkacjmjjhjpeaaDk8
set_option maxRecDepth 100000
set_option linter.unusedSimpArgs false
set_option linter.unusedVariables false
namespace Go.Proofs.Ytkkacjmjjhjpeaa.Dk
open Go Go.Proofs.Ytkkacjmjjhjpeaa.Sx
structure RF where
  armed : Bool
  left : Int
  blown : Bool
  count : Int
  deriving Inhabited
def encRF (s : RF) : List CV := [.bool s.armed, .int .i64 s.left, .bool s.blown, .int .i64 s.count]
def decRF : List CV → Option RF
  | [.bool a0, .int .i64 a1, .bool a2, .int .i64 a3] => some ⟨a0, a1, a2, a3⟩
  | _ => none
def decRFD : List CV → RF
  | [.bool a0, .int .i64 a1, .bool a2, .int .i64 a3] => ⟨a0, a1, a2, a3⟩
  | _ => default
theorem decRF_spec (l : List CV) (s : RF) (h : decRF l = some s) : l = encRF s := by
  unfold decRF at h; split at h <;> cases h; rfl
theorem encRF_ren (s : RF) (π) : (encRF s).map (CV.ren π) = encRF s := rfl
theorem backRF (s : RF) : decRFD (encRF s) = s := rfl
structure wfRF (s : RF) : Prop where
  left : (Lit.int .i64 s.left).wf = true
  count : (Lit.int .i64 s.count).wf = true
theorem opRF (cvs : List CV) (vs : List Value) (h : LeafRs [.bool, .int .i64, .bool, .int .i64] cvs vs) : ∃ x, cvs = encRF x ∧ wfRF x := by
  obtain ⟨_, _, _, _, rfl, rfl, ⟨a0, rfl, rfl⟩, h0⟩ := h.cons_inv
  obtain ⟨_, _, _, _, rfl, rfl, ⟨a1, rfl, rfl, w1⟩, h1⟩ := h0.cons_inv
  obtain ⟨_, _, _, _, rfl, rfl, ⟨a2, rfl, rfl⟩, h2⟩ := h1.cons_inv
  obtain ⟨_, _, _, _, rfl, rfl, ⟨a3, rfl, rfl, w3⟩, h3⟩ := h2.cons_inv
  obtain ⟨rfl, rfl⟩ := h3.nil_inv
  exact ⟨⟨a0, a1, a2, a3⟩, rfl, ⟨w1, w3⟩⟩
noncomputable def marmV (s : RF) (n : Int) : RF := (bif decide (n < 0) then ⟨true, 0, false, s.count⟩ else ⟨true, n, false, s.count⟩)
@[reducible] def k_marm {R : Type} (K : TV → List (Option SB) → Option R) (v : RF) : Option R := K (.tup []) [some (.cells (encRF (v)))]
theorem t_marm {R : Type} (s : RF) (n : Int) (K : TV → List (Option SB) → Option R) : runFn Try.prog S0 10 Try.f25 (bodyOf Try.f25) [.c (.ptr 0 0), .c (.int .i64 n)] [.cells (encRF s)] K = k_marm K (marmV s n) := by
  refine Eq.trans (b := (bif decide (n < 0) then K (TV.tup []) [some (SB.cells [CV.bool true, CV.int IntKind.i64 0, CV.bool false, CV.int IntKind.i64 s.count])] else K (TV.tup []) [some (SB.cells [CV.bool true, CV.int IntKind.i64 n, CV.bool false, CV.int IntKind.i64 s.count])])) (by kernel_rfl) ?_
  unfold marmV
  repeat' (first | exact rfl | refine push (k_marm K) ?_ ?_)
noncomputable def g_marm : RF → List SV → Option (TV × Option RF)
  | s, [.c (.int .i64 n)] => some (.tup [], some ((marmV s n)))
  | _, _ => none
theorem ok_marm : SumOk Try.prog 25 (ptrVal encRF decRF g_marm) := by
  refine sumOk_ptrV okS0 mixed Try.func25 (c := bodyOf Try.f25) (by kernel_rfl) (by kernel_rfl) decRF_spec encRF_ren ?_
  intro s rest tv s' h
  unfold g_marm at h
  split at h
  · cases h
    exact ⟨fun _ => rfl, fun _ => rfl, 10, t_marm _ _ _⟩
  · cases h
noncomputable def mspendV (s : RF) : Bool × RF := (bif s.armed then (bif s.left == 0 then (false, ⟨s.armed, s.left, true, s.count⟩) else (bif s.blown then (false, s) else (bif s.armed then (true, ⟨s.armed, IntKind.i64.wrap (s.left - 1), s.blown, IntKind.i64.wrap (s.count + 1)⟩) else (true, ⟨s.armed, s.left, s.blown, IntKind.i64.wrap (s.count + 1)⟩)))) else (bif s.blown then (false, s) else (bif s.armed then (true, ⟨s.armed, IntKind.i64.wrap (s.left - 1), s.blown, IntKind.i64.wrap (s.count + 1)⟩) else (true, ⟨s.armed, s.left, s.blown, IntKind.i64.wrap (s.count + 1)⟩))))
@[reducible] def k_mspend {R : Type} (K : TV → List (Option SB) → Option R) (v : Bool × RF) : Option R := K (.s (.c (.bool (v).1))) [some (.cells (encRF (v).2))]
theorem t_mspend {R : Type} (s : RF) (K : TV → List (Option SB) → Option R) : runFn Try.prog S0 10 Try.f34 (bodyOf Try.f34) [.c (.ptr 0 0)] [.cells (encRF s)] K = k_mspend K (mspendV s) := by
  refine Eq.trans (b := (bif s.armed then (bif s.left == 0 then K (TV.s (SV.c (CV.bool false))) [some (SB.cells [CV.bool s.armed, CV.int IntKind.i64 s.left, CV.bool true, CV.int IntKind.i64 s.count])] else (bif s.blown then K (TV.s (SV.c (CV.bool false))) [some (SB.cells (encRF s))] else (bif s.armed then K (TV.s (SV.c (CV.bool true))) [some (SB.cells [CV.bool s.armed, CV.int IntKind.i64 (IntKind.i64.wrap (s.left - 1)), CV.bool s.blown, CV.int IntKind.i64 (IntKind.i64.wrap (s.count + 1))])] else K (TV.s (SV.c (CV.bool true))) [some (SB.cells [CV.bool s.armed, CV.int IntKind.i64 s.left, CV.bool s.blown, CV.int IntKind.i64 (IntKind.i64.wrap (s.count + 1))])]))) else (bif s.blown then K (TV.s (SV.c (CV.bool false))) [some (SB.cells (encRF s))] else (bif s.armed then K (TV.s (SV.c (CV.bool true))) [some (SB.cells [CV.bool s.armed, CV.int IntKind.i64 (IntKind.i64.wrap (s.left - 1)), CV.bool s.blown, CV.int IntKind.i64 (IntKind.i64.wrap (s.count + 1))])] else K (TV.s (SV.c (CV.bool true))) [some (SB.cells [CV.bool s.armed, CV.int IntKind.i64 s.left, CV.bool s.blown, CV.int IntKind.i64 (IntKind.i64.wrap (s.count + 1))])])))) (by kernel_rfl) ?_
  unfold mspendV
  repeat' (first | exact rfl | refine push (k_mspend K) ?_ ?_)
noncomputable def g_mspend : RF → List SV → Option (TV × Option RF)
  | s, [] => some (.s (.c (.bool (mspendV s).1)), some ((mspendV s).2))
  | _, _ => none
theorem ok_mspend : SumOk Try.prog 34 (ptrVal encRF decRF g_mspend) := by
  refine sumOk_ptrV okS0 mixed Try.func34 (c := bodyOf Try.f34) (by kernel_rfl) (by kernel_rfl) decRF_spec encRF_ren ?_
  intro s rest tv s' h
  unfold g_mspend at h
  split at h
  · cases h
    exact ⟨fun _ => rfl, fun _ => rfl, 10, t_mspend _ _⟩
  · cases h
noncomputable def mresetV (s : RF) : RF := ⟨false, s.left, false, s.count⟩
@[reducible] def k_mreset {R : Type} (K : TV → List (Option SB) → Option R) (v : RF) : Option R := K (.tup []) [some (.cells (encRF (v)))]
theorem t_mreset {R : Type} (s : RF) (K : TV → List (Option SB) → Option R) : runFn Try.prog S0 10 Try.f36 (bodyOf Try.f36) [.c (.ptr 0 0)] [.cells (encRF s)] K = k_mreset K (mresetV s) := by
  refine Eq.trans (b := K (TV.tup []) [some (SB.cells [CV.bool false, CV.int IntKind.i64 s.left, CV.bool false, CV.int IntKind.i64 s.count])]) (by kernel_rfl) ?_
  unfold mresetV
  repeat' (first | exact rfl | refine push (k_mreset K) ?_ ?_)
noncomputable def g_mreset : RF → List SV → Option (TV × Option RF)
  | s, [] => some (.tup [], some ((mresetV s)))
  | _, _ => none
theorem ok_mreset : SumOk Try.prog 36 (ptrVal encRF decRF g_mreset) := by
  refine sumOk_ptrV okS0 mixed Try.func36 (c := bodyOf Try.f36) (by kernel_rfl) (by kernel_rfl) decRF_spec encRF_ren ?_
  intro s rest tv s' h
  unfold g_mreset at h
  split at h
  · cases h
    exact ⟨fun _ => rfl, fun _ => rfl, 10, t_mreset _ _⟩
  · cases h
noncomputable def clampV (n : Int) (lo : Int) (hi : Int) : Int := (bif decide (n < lo) then lo else (bif decide (n > hi) then hi else n))
@[reducible] def k_clamp {R : Type} (K : TV → List (Option SB) → Option R) (v : Int) : Option R := K (.s (.c (.int .i64 (v)))) []
theorem t_clamp {R : Type} (n : Int) (lo : Int) (hi : Int) (K : TV → List (Option SB) → Option R) : runFn Try.prog S0 10 Try.f33 (bodyOf Try.f33) [.c (.int .i64 n), .c (.int .i64 lo), .c (.int .i64 hi)] [] K = k_clamp K (clampV n lo hi) := by
  refine Eq.trans (b := (bif decide (n < lo) then K (TV.s (SV.c (CV.int IntKind.i64 lo))) [] else (bif decide (n > hi) then K (TV.s (SV.c (CV.int IntKind.i64 hi))) [] else K (TV.s (SV.c (CV.int IntKind.i64 n))) []))) (by kernel_rfl) ?_
  unfold clampV
  repeat' (first | exact rfl | refine push (k_clamp K) ?_ ?_)
noncomputable def g_clamp : List SV → Option TV
  | [.c (.int .i64 n), .c (.int .i64 lo), .c (.int .i64 hi)] => some (.s (.c (.int .i64 (clampV n lo hi))))
  | _ => none
theorem ok_clamp : SumOk Try.prog 33 (valSum g_clamp) := by
  refine sumOk_val okS0 mixed Try.func33 (c := bodyOf Try.f33) (by kernel_rfl) (by kernel_rfl) ?_
  intro args tv h
  unfold g_clamp at h
  split at h
  · cases h
    exact ⟨fun _ => rfl, fun _ => rfl, 10, t_clamp _ _ _ _⟩
  · cases h
structure M where
  size : Int
  n : Nat
  L : Nat → ByteArray
  Nw : Nat → ByteArray
  k : Nat
  Wi : Nat → Int
  Wt : Nat → ByteArray
  fu : RF
  sh : Bool
@[reducible] def encI (x : Int) : List CV := [.int .i64 x]
def decI : List CV → Int
  | [.int .i64 x] => x
  | _ => 0
@[reducible] def vI (k : Nat) (W : Nat → Int) : SB := .vec 1 [] (.gen k fun j => encI (W j))
@[reducible] def cRF (f : RF) : SB := .cells [.bool f.armed, .int .i64 f.left, .bool f.blown, .int .i64 f.count]
/-- Last and Now stand apart. -/
@[reducible] def cA (m : M) : SB := .cells [.int .i64 m.size, .slc 2 0 m.n, .slc 3 0 m.n, .slc 4 0 m.k, .slc 5 0 m.k, .ptr 1 0]
@[reducible] def rowsA (m : M) : List SB := [vS m.n m.L, vS m.n m.Nw, vI m.k m.Wi, vS m.k m.Wt]
@[reducible] def hpA (m : M) : List SB := cA m :: cRF m.fu :: rowsA m
/-- They are one. -/
@[reducible] def cH (m : M) : SB := .cells [.int .i64 m.size, .slc 2 0 m.n, .slc 2 0 m.n, .slc 3 0 m.k, .slc 4 0 m.k, .ptr 1 0]
@[reducible] def cHn (m : M) : SB := .cells [.int .i64 m.size, .slc 2 0 m.n, .slc 2 0 m.n, .nils, .nils, .ptr 1 0]
@[reducible] def rowsH (m : M) : List SB := [vS m.n m.L, vI m.k m.Wi, vS m.k m.Wt]
@[reducible] def hpH (m : M) : List SB := cH m :: cRF m.fu :: rowsH m
@[reducible] def hpR (m : M) : List SB := bif m.sh then hpH m else hpA m
@[reducible] def oA (tv : TV) (m : M) : Cs := .out ⟨true, tv, [some (cA m), some (cRF m.fu)], rowsA m⟩
@[reducible] def oH (tv : TV) (m : M) : Cs := .out ⟨true, tv, [some (cH m), some (cRF m.fu)], rowsH m⟩
@[reducible] def oHn (tv : TV) (m : M) : Cs := .out ⟨true, tv, [some (cHn m), some (cRF m.fu)], [vS m.n m.L]⟩
@[reducible] def oR (tv : TV) (m : M) : Cs := bif m.sh then oH tv m else oA tv m
@[reducible] def Raw := (Nat × Nat × Nat × Nat × Nat × Nat) × (Nat → List CV) × (Nat → List CV) × (Nat → List CV) × (Nat → List CV)
def dcR : List SB → Option (M × Raw)
  | [.cells [.int .i64 z, .slc 2 0 n', .slc 3 0 n2', .slc 4 0 k', .slc 5 0 k2', .ptr 1 0], .cells [.bool a, .int .i64 l, .bool b, .int .i64 c], .vec 1 [] (.gen n gL), .vec 1 [] (.gen n2 gN), .vec 1 [] (.gen k gI), .vec 1 [] (.gen k2 gT)] =>
    some (⟨z, n, fun j => decS (gL j), fun j => decS (gN j), k, fun j => decI (gI j), fun j => decS (gT j), ⟨a, l, b, c⟩, false⟩, (n', n2', n2, k', k2', k2), gL, gN, gI, gT)
  | [.cells [.int .i64 z, .slc 2 0 n', .slc 2 0 n2', .slc 3 0 k', .slc 4 0 k2', .ptr 1 0], .cells [.bool a, .int .i64 l, .bool b, .int .i64 c], .vec 1 [] (.gen n gL), .vec 1 [] (.gen k gI), .vec 1 [] (.gen k2 gT)] =>
    some (⟨z, n, fun j => decS (gL j), fun j => decS (gL j), k, fun j => decI (gI j), fun j => decS (gT j), ⟨a, l, b, c⟩, true⟩, (n', n2', n, k', k2', k2), gL, gL, gI, gT)
  | _ => none
noncomputable def oqR (m : M) (r : Raw) : Bool := match r with
  | ((n1, n2, n3, k1, k2, k3), gL, gN, gI, gT) => Nat.beq n1 m.n && (Nat.beq n2 m.n && (Nat.beq n3 m.n && (Nat.beq k1 m.k && (Nat.beq k2 m.k && (Nat.beq k3 m.k && (chkRo encS decS gL && (chkRo encS decS gN && (chkRo encI decI gI && chkRo encS decS gT))))))))
theorem oqR_parts {m : M} {n1 n2 n3 k1 k2 k3 : Nat} {gL gN gI gT : Nat → List CV} (h : oqR m ((n1, n2, n3, k1, k2, k3), gL, gN, gI, gT) = true) : n1 = m.n ∧ n2 = m.n ∧ n3 = m.n ∧ k1 = m.k ∧ k2 = m.k ∧ k3 = m.k ∧ gL = (fun j => encS (decS (gL j))) ∧ gN = (fun j => encS (decS (gN j))) ∧ gI = (fun j => encI (decI (gI j))) ∧ gT = fun j => encS (decS (gT j)) := by
  unfold oqR at h
  simp only [Bool.and_eq_true] at h
  obtain ⟨h1, h2, h3, h4, h5, h6, h7, h8, h9, h10⟩ := h
  exact ⟨Nat.eq_of_beq_eq_true h1, Nat.eq_of_beq_eq_true h2, Nat.eq_of_beq_eq_true h3, Nat.eq_of_beq_eq_true h4, Nat.eq_of_beq_eq_true h5, Nat.eq_of_beq_eq_true h6, chkRo_spec h7, chkRo_spec h8, chkRo_spec h9, chkRo_spec h10⟩
theorem dcR_spec' {hp : List SB} {m : M} {r : Raw} (h : dcR hp = some (m, r)) (hc : oqR m r = true) : hp = hpR m := by
  obtain ⟨⟨n1, n2, n3, k1, k2, k3⟩, gL, gN, gI, gT⟩ := r
  obtain ⟨e1, e2, e3, e4, e5, e6, e7, e8, e9, e10⟩ := oqR_parts hc
  unfold dcR at h
  split at h
  · cases h
    simp only at e1 e2 e3 e4 e5 e6
    subst e1 e2 e4 e5
    subst e3 e6
    show _ = [SB.cells _, SB.cells _, SB.vec 1 [] (.gen _ fun j => encS (decS (gL j))), SB.vec 1 [] (.gen _ fun j => encS (decS (gN j))), SB.vec 1 [] (.gen _ fun j => encI (decI (gI j))), SB.vec 1 [] (.gen _ fun j => encS (decS (gT j)))]
    rw [← e7, ← e8, ← e9, ← e10]
  · cases h
    simp only at e1 e2 e4 e5 e6
    subst e1 e2 e4 e5
    subst e6
    show _ = [SB.cells _, SB.cells _, SB.vec 1 [] (.gen _ fun j => encS (decS (gL j))), SB.vec 1 [] (.gen _ fun j => encI (decI (gI j))), SB.vec 1 [] (.gen _ fun j => encS (decS (gT j)))]
    rw [← e7, ← e9, ← e10]
  · cases h
@[reducible] def rawS (m : M) : Raw := ((m.n, m.n, m.n, m.k, m.k, m.k), (fun j => encS (m.L j)), (fun j => encS (m.Nw j)), (fun j => encI (m.Wi j)), fun j => encS (m.Wt j))
theorem oqR_self (m : M) : oqR m (rawS m) = true := by
  unfold oqR
  simp only [Bool.and_eq_true]
  exact ⟨Nat.beq_refl _, Nat.beq_refl _, Nat.beq_refl _, Nat.beq_refl _, Nat.beq_refl _, Nat.beq_refl _, chkRo_true (dec := decS) (enc := encS) (fun _ => rfl) _, chkRo_true (dec := decS) (enc := encS) (fun _ => rfl) _, chkRo_true (dec := decI) (enc := encI) (fun _ => rfl) _, chkRo_true (dec := decS) (enc := encS) (fun _ => rfl) _⟩
/-- A summary of a function of the reference's disk. -/
@[reducible] noncomputable def gR (V : List SV → M → Cs) : List SV → List SB → Cs := fun args hp => match dcR hp with
  | some (m, r) => .br (oqR m r) (V args m) .no
  | none => .no
theorem okNR {Su : Sums} (hS : SumsOk Try.prog Su) {f : FuncId} {fn : Func} {c : Code} (hf : Try.prog.funcs[f]? = some fn) (hb : fn.body = some c) (hname : (fn.name == "runtime.NumGoroutine") = false) {V : List SV → M → Cs}
    (h : ∀ args m x, (V args m).pick = some x → x.hp.length = 2 ∧ ∃ L fuel, LoopsOk Try.prog Su L fuel 2 (resMask fn.results.toList) (loopsOf (resMask fn.results.toList) c [] (resMask fn.results.toList)) ∧ runFnN Try.prog Su L fuel 2 fn c args (hpR m) (fun tv hp => some (tv, hp)) = some (x.tv, x.hp ++ x.nw.map some)) : SumOk Try.prog f (genSumN (gR V)) := by
  refine sumOk_genN hS mixed hf hb hname ?_
  intro args hp x hx
  unfold gR at hx ⊢
  cases hd : dcR hp with
  | none => rw [hd] at hx; cases hx
  | some p =>
    obtain ⟨m, r⟩ := p
    rw [hd] at hx
    simp only [Cs.pick] at hx ⊢
    cases hc : oqR m r with
    | false => rw [hc] at hx; cases hx
    | true =>
      rw [hc] at hx
      simp only [cond_true] at hx
      obtain ⟨h1, L, fuel, h2, h3⟩ := h args m x hx
      rw [dcR_spec' hd hc]
      refine ⟨L, fuel, by rw [h1]; exact h2, ?_⟩
      rw [h1, h3]
      show _ = cond true ((V args m).run _) _
      rw [cond_true, Cs.run_pick hx]
end Go.Proofs.Ytkkacjmjjhjpeaa.Dk

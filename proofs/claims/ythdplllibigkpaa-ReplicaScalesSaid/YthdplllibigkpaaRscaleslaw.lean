/- The law ReplicaScales: true, and no memory that was there is written. -/
import Derived.Test.YthdplllibigkpaaRmap
set_option maxRecDepth 100000
set_option linter.unusedSimpArgs false
set_option linter.unusedVariables false
namespace Go.Proofs.Ythdplllibigkpaa.Rep
open Go Go.Proofs.Ythdplllibigkpaa.Sx
@[reducible] def VA := Int × Nat × (Nat → Int) × N2 × (Sl × List (Int × Bool))
def encV : VA → Sx.St
  | (i, N, f, w, x) => ⟨[(3, .s (.c (.ptr 1 0))), (5, .s (.c (.ptr 2 0))), (6, .s (.c (.mp 3))), (28, .s (.c (.slc 0 0 N))), (29, .s (.c (.int .i64 (N : Int)))), (30, .s (.c (.int .i64 i)))], [some (.ro 1 (.gen N fun i => encI (f i))), some (.cells (encN2 w)), some (.cells (encSl x.1)), some (.mapi x.2)], 4, 78⟩
@[reducible] def VB := Int × Int × Nat × Nat × (Nat → List CV) × N2 × (Sl × List (Int × Bool))
def decV : Sx.St → Option VB
  | ⟨[(3, .s (.c (.ptr 1 0))), (5, .s (.c (.ptr 2 0))), (6, .s (.c (.mp 3))), (28, .s (.c (.slc 0 0 N'))), (29, .s (.c (.int .i64 m))), (30, .s (.c (.int .i64 i)))], [some (.ro 1 (.gen N f)), some (.cells l2), some (.cells l), some (.mapi es)], 4, 78⟩ => (decN2 l2).bind fun w => (decSl l).map fun s => (i, m, N, N', f, w, (s, es))
  | _ => none
noncomputable def chkV : VB → Bool
  | (_, m, N, N', f, _, _) => Nat.beq N N' && decide (m = N) && chkRo encI decI f
def normV : VB → VA
  | (i, _, N, _, f, w, x) => (i, N, fun j => decI (f j), w, x)
theorem decV_spec (st : Sx.St) (p : VB) (h : decV st = some p) (hc : chkV p = true) : st = encV (normV p) := by
  unfold decV at h
  split at h
  · obtain ⟨w, h1, h⟩ := Option.bind_eq_some_iff.1 h
    obtain ⟨s, h2, h3⟩ := Option.map_eq_some_iff.1 h
    obtain rfl := decN2_spec _ _ h1
    obtain rfl := decSl_spec _ _ h2
    cases h3
    simp only [chkV, Bool.and_eq_true, decide_eq_true_eq] at hc
    obtain ⟨⟨g1, g2⟩, g4⟩ := hc
    have g1 := Nat.eq_of_beq_eq_true g1
    subst g1 g2
    have g := chkRo_spec g4
    unfold normV encV
    simp only
    rw [← g]
  · cases h
def finV (N : Nat) (f : Nat → Int) (w : N2) (x : Sl × List (Int × Bool)) : Sx.St := ⟨[(3, .s (.c (.ptr 1 0))), (5, .s (.c (.ptr 2 0))), (6, .s (.c (.mp 3)))], [some (.ro 1 (.gen N fun i => encI (f i))), some (.cells (encN2 w)), some (.cells (encSl x.1)), some (.mapi x.2)], 4, 78⟩
structure VI (p : VA) : Prop where
  i : 0 ≤ p.1 ∧ p.1 ≤ p.2.1
  N : p.2.1 ≤ 300
  m : MI p.2.2.2.2.1 p.2.2.2.2.2
noncomputable def goodV (p : VA) : Bool := @decide (VI p) (Classical.propDecidable _)
theorem goodV_iff {p : VA} : goodV p = true ↔ VI p := Iff.of_eq (@decide_eq_true_eq _ (Classical.propDecidable _))
noncomputable def tV (p : VA) (R : Type) (K : Ex → Sx.St → Option R) : Option R := bif goodV p then K (.exit 0) (finV p.2.1 p.2.2.1 p.2.2.2.1 (itM p.2.2.1 (p.2.1 - p.1.toNat) p.1.toNat p.2.2.2.2)) else none
@[reducible] def WA := Int × Int × Int × Nat × (Nat → Int) × N2 × (Sl × List (Int × Bool))
def encW : WA → Sx.St
  | (n, L, i, N, f, w, x) => ⟨[(3, .s (.c (.ptr 1 0))), (5, .s (.c (.ptr 2 0))), (6, .s (.c (.mp 3))), (10, .s (.c (.int .i64 n))), (55, .s (.c (.int .i64 L))), (56, .s (.c (.int .i64 i)))], [some (.ro 1 (.gen N fun i => encI (f i))), some (.cells (encN2 w)), some (.cells (encSl x.1)), some (.mapi x.2)], 4, 78⟩
@[reducible] def WB := Int × Int × Int × Nat × (Nat → List CV) × N2 × (Sl × List (Int × Bool))
def decW : Sx.St → Option WB
  | ⟨[(3, .s (.c (.ptr 1 0))), (5, .s (.c (.ptr 2 0))), (6, .s (.c (.mp 3))), (10, .s (.c (.int .i64 n))), (55, .s (.c (.int .i64 L))), (56, .s (.c (.int .i64 i)))], [some (.ro 1 (.gen N f)), some (.cells l2), some (.cells l), some (.mapi es)], 4, 78⟩ => (decN2 l2).bind fun w => (decSl l).map fun s => (n, L, i, N, f, w, (s, es))
  | _ => none
noncomputable def chkW : WB → Bool
  | (_, _, _, _, f, _, _) => chkRo encI decI f
def normW : WB → WA
  | (n, L, i, N, f, w, x) => (n, L, i, N, fun j => decI (f j), w, x)
theorem decW_spec (st : Sx.St) (p : WB) (h : decW st = some p) (hc : chkW p = true) : st = encW (normW p) := by
  unfold decW at h
  split at h
  · obtain ⟨w, h1, h⟩ := Option.bind_eq_some_iff.1 h
    obtain ⟨s, h2, h3⟩ := Option.map_eq_some_iff.1 h
    obtain rfl := decN2_spec _ _ h1
    obtain rfl := decSl_spec _ _ h2
    cases h3
    have g := chkRo_spec hc
    unfold normW encW
    simp only
    rw [← g]
  · cases h
def finW (n : Int) (N : Nat) (f : Nat → Int) (w : N2) (s : Sl) : Sx.St := ⟨[(3, .s (.c (.ptr 1 0))), (5, .s (.c (.ptr 2 0))), (10, .s (.c (.int .i64 n)))], [some (.ro 1 (.gen N fun i => encI (f i))), some (.cells (encN2 w)), some (.cells (encSl s))], 3, 78⟩
@[reducible] def onM (es : List (Int × Bool)) : Nat → Bool := fun j => (getM (j : Int) es).getD false
noncomputable def tW (p : WA) (R : Type) (K : Ex → Sx.St → Option R) : Option R := bif decide (0 ≤ p.1 ∧ p.1 ≤ p.2.2.1 ∧ p.2.2.1 ≤ p.2.1 ∧ p.2.1 ≤ 32) then K (.exit 2) (finW (cntN (onM p.2.2.2.2.2.2.2) (p.2.1.toNat - p.2.2.1.toNat) p.2.2.1.toNat p.1) p.2.2.2.1 p.2.2.2.2.1 p.2.2.2.2.2.1 p.2.2.2.2.2.2.1) else none
@[reducible] noncomputable def LV : List (Nat × LoopSum) := [(0, formSumC decV chkV normV tV), (2, formSumC decW chkW normW tW)]
theorem roundV {R : Type} (L : List (Nat × LoopSum)) (i : Int) (N : Nat) (f : Nat → Int) (w : N2) (s : Sl) (es : List (Int × Bool)) (K : Ex → Sx.St → Option R) :
    roundK Try.prog SR1 L 20 1 (resMask Try.f4.results.toList) (lpAt Try.f4 0) (encV (i, N, f, w, (s, es))) K =
    bif decide (i < (N : Int)) then bif decide (0 ≤ i) && decide (i < (N : Int)) then bif decide (i.toNat < N) then bif decide (s.want ≤ 32) then
      bif sreadyB s (f i.toNat) then K .normal (encV (IntKind.i64.wrap (i + 1), N, f, w, (sreadyS s (f i.toNat) true, putM' (f i.toNat) true es))) else K .normal (encV (IntKind.i64.wrap (i + 1), N, f, w, (sreadyS s (f i.toNat) true, es))) else none
    else none else none else K (.exit 0) (finV N f w (s, es)) := by kernel_rfl
theorem roundW {R : Type} (L : List (Nat × LoopSum)) (n M i : Int) (N : Nat) (f : Nat → Int) (w : N2) (s : Sl) (es : List (Int × Bool)) (K : Ex → Sx.St → Option R) :
    roundK Try.prog SR1 L 20 1 (resMask Try.f4.results.toList) (lpAt Try.f4 1) (encW (n, M, i, N, f, w, (s, es))) K =
    bif decide (i < M) then bif (getM i es).getD false then K .normal (encW (IntKind.i64.wrap (n + 1), M, IntKind.i64.wrap (i + 1), N, f, w, (s, es))) else K .normal (encW (n, M, IntKind.i64.wrap (i + 1), N, f, w, (s, es))) else K (.exit 2) (finW n N f w s) := by kernel_rfl
theorem okV : LoopOk Try.prog SR1 LV 20 1 (resMask Try.f4.results.toList) (lpAt Try.f4 0) (formSumC decV chkV normV tV) := by
  refine LoopOk.ofC decV_spec (fun p => p.2.1 - p.1.toNat) ?_
  rintro ⟨i, N, f, w, s, es⟩ R K x h
  unfold tV at h
  cases hg : goodV (i, N, f, w, s, es) with
  | false => rw [hg] at h; cases h
  | true =>
    rw [hg, cond_true] at h
    obtain ⟨h1, h2, h4⟩ := goodV_iff.1 hg
    simp only at h1 h2 h4 h
    by_cases hi : i < (N : Int)
    · left
      have hs := mi_step (x := (s, es)) h4 (f i.toNat)
      refine ⟨(i + 1, N, f, w, stepM (s, es) (f i.toNat)), by simp only; omega, fun K' => ?_, ?_⟩
      · rw [roundV, decide_eq_true hi, decide_eq_true h1.1, decide_eq_true (show i.toNat < N by omega), wi (x := i + 1) (by omega), decide_eq_true h4.inv.high]
        unfold stepM
        cases sreadyB s (f i.toNat) <;> rfl
      · unfold tV
        rw [goodV_iff.2 ⟨by simp only; omega, h2, hs⟩]
        simp only
        rw [show N - i.toNat = (N - (i + 1).toNat) + 1 by omega] at h
        rw [show (i + 1).toNat = i.toNat + 1 by omega] at h ⊢
        exact h
    · right
      rw [show N - i.toNat = 0 by omega] at h
      exact ⟨.exit 0, _, by simp, fun K' => by rw [roundV, decide_eq_false hi]; rfl, h⟩
theorem okW : LoopOk Try.prog SR1 LV 20 1 (resMask Try.f4.results.toList) (lpAt Try.f4 1) (formSumC decW chkW normW tW) := by
  refine LoopOk.ofC decW_spec (fun p => p.2.1.toNat - p.2.2.1.toNat) ?_
  rintro ⟨n, M, i, N, f, w, s, es⟩ R K x h
  unfold tW at h
  simp only at h
  by_cases hg : 0 ≤ n ∧ n ≤ i ∧ i ≤ M ∧ M ≤ 32
  · rw [decide_eq_true hg, cond_true] at h
    by_cases hi : i < M
    · left
      have ho : onM es i.toNat = (getM i es).getD false := by
        show (getM ((i.toNat : Nat) : Int) es).getD false = _
        rw [show ((i.toNat : Nat) : Int) = i by omega]
      refine ⟨(bif onM es i.toNat then n + 1 else n, M, i + 1, N, f, w, s, es), by simp only; omega, fun K' => ?_, ?_⟩
      · rw [roundW, decide_eq_true hi, wi (x := i + 1) (by omega), wi (x := n + 1) (by omega), ho]
        cases (getM i es).getD false <;> rfl
      · unfold tW
        simp only
        rw [show M.toNat - i.toNat = (M.toNat - (i + 1).toNat) + 1 by omega] at h
        rw [show (i + 1).toNat = i.toNat + 1 by omega] at h ⊢
        rw [decide_eq_true (show 0 ≤ (bif onM es i.toNat then n + 1 else n) ∧ (bif onM es i.toNat then n + 1 else n) ≤ i + 1 ∧ i + 1 ≤ M ∧ M ≤ 32 by cases onM es i.toNat <;> simp only [cond_true, cond_false] <;> omega)]
        exact h
    · right
      rw [show M.toNat - i.toNat = 0 by omega] at h
      exact ⟨.exit 2, _, by simp, fun K' => by rw [roundW, decide_eq_false hi]; rfl, h⟩
  · rw [decide_eq_false hg] at h
    cases h
theorem loopsV : LoopsOk Try.prog SR1 LV 20 1 (resMask Try.f4.results.toList) (loopsOf (resMask Try.f4.results.toList) (bodyOf Try.f4) [] (resMask Try.f4.results.toList)) :=
  loopsOk_ix 2 (by kernel_rfl) ⟨⟨trivial, loopOk_here (n := 0) (by kernel_rfl) rfl okV⟩, loopOk_here (n := 2) (by kernel_rfl) rfl okW⟩
@[reducible] def lowM (w : N2) : Int := capN (foldMin w.a [w.b])
@[reducible] def twice (s : Sl) (w : N2) : Sl := sscale (sscale s w.a) w.b
theorem t_ReplicaScales {R : Type} (N : Nat) (f : Nat → Int) (w : N2) (K : TV → List (Option SB) → Option R) : runFnL Try.prog SR1 LV 20 Try.f4 (bodyOf Try.f4) [.c (.slc 0 0 N), .agg (encN2 w)] [.ro 1 (.gen N fun i => encI (f i))] K =
    bif decide ((N : Int) > 300) then K (.s (bl true)) [some (.ro 1 (.gen N fun i => encI (f i)))] else
    bif Nat.beq N N && decide ((N : Int) = N) && chkRo encI decI (fun i => encI (f i)) then bif goodV (0, N, f, w, (sscale z0 32, [])) then
      bif chkRo encI decI (fun i => encI (f i)) then bif decide (0 ≤ (0 : Int) ∧ (0 : Int) ≤ (0 : Int) ∧ 0 ≤ lowM w ∧ lowM w ≤ 32) then
        bif (twice (itM f (N - (0 : Int).toNat) (0 : Int).toNat (sscale z0 32, [])).1 w).want == capN w.b then
          K (.s (bl (scount (twice (itM f (N - (0 : Int).toNat) (0 : Int).toNat (sscale z0 32, [])).1 w) == cntN (onM (itM f (N - (0 : Int).toNat) (0 : Int).toNat (sscale z0 32, [])).2) ((lowM w).toNat - (0 : Int).toNat) (0 : Int).toNat 0))) [some (.ro 1 (.gen N fun i => encI (f i)))]
        else K (.s (bl false)) [some (.ro 1 (.gen N fun i => encI (f i)))] else none else none else none else none := by kernel_rfl
theorem count_twice {s : Sl} {es : List (Int × Bool)} (h : MI s es) (hw : s.want = 32) (w : N2) : scount (twice s w) = cntN (onM es) (lowM w).toNat 0 0 := by
  have ha := capN_b w.a
  have hb := capN_b w.b
  have hl := capN_b (foldMin w.a [w.b])
  have hm : lowM w = if capN w.a < capN w.b then capN w.a else capN w.b := by
    have e : foldMin w.a [w.b] = if w.b < w.a then w.b else w.a := rfl
    show capN (foldMin w.a [w.b]) = _
    rw [e, capN_eq, capN_eq, capN_eq]
    repeat' split
    all_goals omega
  have hf : ∀ j, j < 32 → (twice s w).f j = (decide ((j : Int) < lowM w) && s.f j) := by
    intro j hj
    unfold twice
    rw [scale_f j hj, scale_f j hj]
    by_cases h1 : capN w.b ≤ (j : Int)
    · rw [decide_eq_true h1, decide_eq_false (show ¬ (j : Int) < lowM w by rw [hm]; split <;> omega)]; rfl
    · rw [decide_eq_false h1]
      by_cases h2 : capN w.a ≤ (j : Int)
      · rw [decide_eq_true h2, decide_eq_false (show ¬ (j : Int) < lowM w by rw [hm]; split <;> omega)]; rfl
      · rw [decide_eq_false h2, decide_eq_true (show (j : Int) < lowM w by rw [hm]; split <;> omega)]; rfl
  unfold scount
  rw [cnt_stop (f := (twice s w).f) 32 (lowM w).toNat 0 0 (fun j h1 h2 => by
    rw [Nat.zero_add, hf j h2, decide_eq_false (show ¬ (j : Int) < lowM w by omega)]; rfl) (by omega)]
  refine cnt_congr _ _ _ fun j hj => ?_
  rw [Nat.zero_add, hf j (by omega), decide_eq_true (show (j : Int) < lowM w by omega)]
  show s.f j = (getM (j : Int) es).getD false
  rw [h.get, readyB_iff.2 ⟨by omega, by omega⟩, show ((j : Int)).toNat = j by simp]
  cases s.f j <;> rfl
theorem ReplicaScales (N : Nat) (f : Nat → Int) (z : N2) (q : ∀ i, i < N → wfI (f i)) (_ : wfN2 z) (w : World) (v : Value) (l : Sx.Loc) (hs : SlcR l 0 N v) (hb : BlkR (outer w fun _ _ => False) (rho1 l) l (.ro 1 (.gen N fun i => encI (f i))) w) (v2 : Value) (hv2 : ∀ X ρ, (SV.agg (encN2 z)).R X ρ v2) :
    Calls Try.prog 4 #[v, v2] w fun e w' => e = .returned (.bool true) ∧ RowKit.Below w.heap.size w w' := by
  refine law_callsL okSR1 mixed Try.func4 (c := bodyOf Try.f4) (by kernel_rfl) lawK_spec (fuel := 20) (args := [.c (.slc 0 0 N), .agg (encN2 z)]) (hp0 := [.ro 1 (.gen N fun i => encI (f i))]) (X := fun _ _ => False) (ρ := rho1 l) (vs := [v, v2]) loopsV ?_ ⟨⟨l, rfl, hs⟩, hv2 _ _, trivial⟩ (blk1 hb) rho1_out
  rw [t_ReplicaScales, chkRo_true backI]
  by_cases hN : (N : Int) > 300
  · rw [decide_eq_true hN]; rfl
  obtain ⟨m1, m2⟩ := mi_it f (N - (0 : Int).toNat) (0 : Int).toNat (sscale z0 32, []) (mi_new 32)
  have hl := capN_b (foldMin z.a [z.b])
  have hc := count_twice m1 (m2.trans rfl) z
  rw [decide_eq_false hN, goodV_iff.2 ⟨by simp, by simp only; omega, mi_new 32⟩, decide_eq_true (show 0 ≤ (0 : Int) ∧ (0 : Int) ≤ (0 : Int) ∧ 0 ≤ lowM z ∧ lowM z ≤ 32 by unfold lowM; omega)]
  simp only [Nat.beq_refl, decide_true, Bool.and_self, cond_true, cond_false]
  rw [show ((twice (itM f (N - (0 : Int).toNat) (0 : Int).toNat (sscale z0 32, [])).1 z).want == capN z.b) = true by simp [twice, sscale, mkS], hc]
  have : (lowM z).toNat - (0 : Int).toNat = (lowM z).toNat := by simp
  rw [this]
  show (bif true then lawK (.s (bl (cntN (onM _) (lowM z).toNat 0 0 == cntN (onM _) (lowM z).toNat 0 0))) _ else _) = _
  rw [beq_self_eq_true]
  rfl
end Go.Proofs.Ythdplllibigkpaa.Rep

/- The law ReplicaFull: true, and no memory that was there is written. -/
import Derived.Test.YthdplllibigkpaaRmap
set_option maxRecDepth 100000
set_option linter.unusedSimpArgs false
set_option linter.unusedVariables false
namespace Go.Proofs.Ythdplllibigkpaa.Rep
open Go Go.Proofs.Ythdplllibigkpaa.Sx
@[reducible] def UA := Int × Int × Int × Nat × (Nat → Int) × (Sl × List (Int × Bool))
def encU : UA → Sx.St
  | (n, off, i, N, f, x) => ⟨[(0, .s (.c (.int .i64 n))), (2, .s (.c (.int .i64 off))), (7, .s (.c (.ptr 1 0))), (8, .s (.c (.mp 2))), (38, .s (.c (.slc 0 0 N))), (39, .s (.c (.int .i64 (N : Int)))), (40, .s (.c (.int .i64 i)))], [some (.ro 1 (.gen N fun i => encI (f i))), some (.cells (encSl x.1)), some (.mapi x.2)], 3, 102⟩
@[reducible] def UB := Int × Int × Int × Int × Nat × Nat × (Nat → List CV) × (Sl × List (Int × Bool))
def decU : Sx.St → Option UB
  | ⟨[(0, .s (.c (.int .i64 n))), (2, .s (.c (.int .i64 off))), (7, .s (.c (.ptr 1 0))), (8, .s (.c (.mp 2))), (38, .s (.c (.slc 0 0 N'))), (39, .s (.c (.int .i64 m))), (40, .s (.c (.int .i64 i)))], [some (.ro 1 (.gen N f)), some (.cells l), some (.mapi es)], 3, 102⟩ => (decSl l).map fun s => (n, off, i, m, N, N', f, (s, es))
  | _ => none
noncomputable def chkU : UB → Bool
  | (_, _, _, m, N, N', f, _) => Nat.beq N N' && decide (m = N) && chkRo encI decI f
def normU : UB → UA
  | (n, off, i, _, N, _, f, x) => (n, off, i, N, fun j => decI (f j), x)
theorem decU_spec (st : Sx.St) (p : UB) (h : decU st = some p) (hc : chkU p = true) : st = encU (normU p) := by
  unfold decU at h
  split at h
  · obtain ⟨s, h1, h2⟩ := Option.map_eq_some_iff.1 h
    obtain rfl := decSl_spec _ _ h1
    cases h2
    simp only [chkU, Bool.and_eq_true, decide_eq_true_eq] at hc
    obtain ⟨⟨g1, g2⟩, g4⟩ := hc
    have g1 := Nat.eq_of_beq_eq_true g1
    subst g1 g2
    have g := chkRo_spec g4
    unfold normU encU
    simp only
    rw [← g]
  · cases h
def noU (N : Nat) (f : Nat → Int) : Sx.St := ⟨[(6, .s (.c (.bool false)))], [some (.ro 1 (.gen N fun i => encI (f i)))], 1, 102⟩
def finU (n off : Int) (N : Nat) (f : Nat → Int) (x : Sl × List (Int × Bool)) : Sx.St := ⟨[(0, .s (.c (.int .i64 n))), (2, .s (.c (.int .i64 off))), (7, .s (.c (.ptr 1 0))), (8, .s (.c (.mp 2)))], [some (.ro 1 (.gen N fun i => encI (f i))), some (.cells (encSl x.1)), some (.mapi x.2)], 3, 102⟩
structure UI (p : UA) : Prop where
  i : 0 ≤ p.2.2.1 ∧ p.2.2.1 ≤ p.2.2.2.1
  N : p.2.2.2.1 ≤ 300
  n : p.2.2.2.2.2.1.want = p.1
  m : MI p.2.2.2.2.2.1 p.2.2.2.2.2.2
noncomputable def goodU (p : UA) : Bool := @decide (UI p) (Classical.propDecidable _)
theorem goodU_iff {p : UA} : goodU p = true ↔ UI p := Iff.of_eq (@decide_eq_true_eq _ (Classical.propDecidable _))
noncomputable def tU (p : UA) (R : Type) (K : Ex → Sx.St → Option R) : Option R := bif goodU p then K (.exit 0) (finU p.1 p.2.1 p.2.2.2.1 p.2.2.2.2.1 (itM p.2.2.2.2.1 (p.2.2.2.1 - p.2.2.1.toNat) p.2.2.1.toNat p.2.2.2.2.2)) else none
@[reducible] noncomputable def LU : List (Nat × LoopSum) := [(0, formSumC decU chkU normU tU)]
theorem roundU {R : Type} (L : List (Nat × LoopSum)) (n off i : Int) (N : Nat) (f : Nat → Int) (s : Sl) (es : List (Int × Bool)) (K : Ex → Sx.St → Option R) :
    roundK Try.prog SR1 L 20 1 (resMask Try.f3.results.toList) (lpAt Try.f3 0) (encU (n, off, i, N, f, (s, es))) K =
    bif decide (i < (N : Int)) then bif decide (0 ≤ i) && decide (i < (N : Int)) then bif decide (i.toNat < N) then
      bif decide (n > 0) then bif !(sfull s == ((es.length : Int) == n)) then K .ret (noU N f) else bif decide (s.want ≤ 32) then
          bif sreadyB s (f i.toNat) then K .normal (encU (n, off, IntKind.i64.wrap (i + 1), N, f, (sreadyS s (f i.toNat) true, putM' (f i.toNat) true es))) else K .normal (encU (n, off, IntKind.i64.wrap (i + 1), N, f, (sreadyS s (f i.toNat) true, es))) else none
      else bif !(sfull s == false) then K .ret (noU N f) else bif decide (s.want ≤ 32) then
          bif sreadyB s (f i.toNat) then K .normal (encU (n, off, IntKind.i64.wrap (i + 1), N, f, (sreadyS s (f i.toNat) true, putM' (f i.toNat) true es))) else K .normal (encU (n, off, IntKind.i64.wrap (i + 1), N, f, (sreadyS s (f i.toNat) true, es))) else none
    else none else none else K (.exit 0) (finU n off N f (s, es)) := by kernel_rfl
theorem mi_full {s : Sl} {es : List (Int × Bool)} (h : MI s es) : sfull s = (decide (s.want > 0) && ((es.length : Int) == s.want)) := by
  unfold sfull
  rw [h.len]
theorem okU : LoopOk Try.prog SR1 LU 20 1 (resMask Try.f3.results.toList) (lpAt Try.f3 0) (formSumC decU chkU normU tU) := by
  refine LoopOk.ofC decU_spec (fun p => p.2.2.2.1 - p.2.2.1.toNat) ?_
  rintro ⟨n, off, i, N, f, s, es⟩ R K x h
  unfold tU at h
  cases hg : goodU (n, off, i, N, f, s, es) with
  | false => rw [hg] at h; cases h
  | true =>
    rw [hg, cond_true] at h
    obtain ⟨h1, h2, h3, h4⟩ := goodU_iff.1 hg
    simp only at h1 h2 h3 h4 h
    by_cases hi : i < (N : Int)
    · left
      have hs := mi_step (x := (s, es)) h4 (f i.toNat)
      refine ⟨(n, off, i + 1, N, f, stepM (s, es) (f i.toNat)), by simp only; omega, fun K' => ?_, ?_⟩
      · rw [roundU, decide_eq_true hi, decide_eq_true h1.1, decide_eq_true (show i.toNat < N by omega), wi (x := i + 1) (by omega), decide_eq_true h4.inv.high, mi_full h4, h3]
        unfold stepM
        cases decide (n > 0) <;> cases (es.length : Int) == n <;> cases sreadyB s (f i.toNat) <;> rfl
      · unfold tU
        have hw : (stepM (s, es) (f i.toNat)).1.want = n := (readyS_want ..).trans h3
        rw [goodU_iff.2 ⟨by simp only; omega, h2, hw, hs⟩]
        simp only
        rw [show N - i.toNat = (N - (i + 1).toNat) + 1 by omega] at h
        rw [show (i + 1).toNat = i.toNat + 1 by omega] at h ⊢
        exact h
    · right
      rw [show N - i.toNat = 0 by omega] at h
      exact ⟨.exit 0, _, by simp, fun K' => by rw [roundU, decide_eq_false hi]; rfl, h⟩
theorem loopsU : LoopsOk Try.prog SR1 LU 20 1 (resMask Try.f3.results.toList) (loopsOf (resMask Try.f3.results.toList) (bodyOf Try.f3) [] (resMask Try.f3.results.toList)) :=
  loopsOk_ix 1 (by kernel_rfl) ⟨trivial, loopOk_here (n := 0) (by kernel_rfl) rfl okU⟩
/-- What is asked behind the loop. -/
noncomputable def endU (n off : Int) (s : Sl) (es : List (Int × Bool)) : Bool :=
  bif decide (n > 0) then bif !(sfull s == ((es.length : Int) == n)) then false else bif scount s != (es.length : Int) then false else
      bif decide (off ≥ 0) then bif sreadyB s off == decide (off < n) then bif (es.length : Int) == n then sfull (sreadyS s off false) == !sreadyB s off else sfull (sreadyS s off false) == false else false
      else bif sreadyB s off == false then bif (es.length : Int) == n then sfull (sreadyS s off false) == !sreadyB s off else sfull (sreadyS s off false) == false else false
  else bif !(sfull s == false) then false else bif scount s != (es.length : Int) then false else
      bif decide (off ≥ 0) then bif sreadyB s off == decide (off < n) then sfull (sreadyS s off false) == false else false
      else bif sreadyB s off == false then sfull (sreadyS s off false) == false else false
@[reducible] noncomputable def treeU {R : Type} (n off : Int) (s : Sl) (es : List (Int × Bool)) (F' : Bool → Option R) : Option R :=
  bif decide (n > 0) then bif !(sfull s == ((es.length : Int) == n)) then F' false else bif scount s != (es.length : Int) then F' false else bif decide (s.want ≤ 32) then
      bif decide (off ≥ 0) then bif sreadyB s off == decide (off < n) then bif (es.length : Int) == n then F' (sfull (sreadyS s off false) == !sreadyB s off) else F' (sfull (sreadyS s off false) == false) else F' false
      else bif sreadyB s off == false then bif (es.length : Int) == n then F' (sfull (sreadyS s off false) == !sreadyB s off) else F' (sfull (sreadyS s off false) == false) else F' false else none
  else bif !(sfull s == false) then F' false else bif scount s != (es.length : Int) then F' false else bif decide (s.want ≤ 32) then
      bif decide (off ≥ 0) then bif sreadyB s off == decide (off < n) then F' (sfull (sreadyS s off false) == false) else F' false
      else bif sreadyB s off == false then F' (sfull (sreadyS s off false) == false) else F' false else none
theorem treeU_eq {R : Type} {n off : Int} {s : Sl} {es : List (Int × Bool)} {F' : Bool → Option R} (h : s.want ≤ 32) : treeU n off s es F' = F' (endU n off s es) := by
  unfold treeU endU
  rw [decide_eq_true h]
  cases decide (n > 0) <;> cases sfull s == ((es.length : Int) == n) <;> cases sfull s == false <;> cases scount s != (es.length : Int) <;> cases decide (off ≥ 0) <;> cases sreadyB s off == decide (off < n) <;> cases sreadyB s off == false <;> cases (es.length : Int) == n <;> rfl
theorem endU_true {n off : Int} {s : Sl} {es : List (Int × Bool)} (h : MI s es) (hn : s.want = n) : endU n off s es = true := by
  have hf := mi_full h
  have hl := h.len
  have hc := count_le h.inv
  have hr : sreadyB s off = (decide (off ≥ 0) && decide (off < n)) := by
    cases hb : sreadyB s off with
    | true =>
      have := readyB_iff.1 hb
      rw [decide_eq_true (show off ≥ 0 by omega), decide_eq_true (show off < n by omega)]; rfl
    | false =>
      have := fun q => Bool.false_ne_true (hb.symm.trans (readyB_iff.2 q))
      by_cases h1 : off ≥ 0
      · rw [decide_eq_true h1, decide_eq_false (show ¬ off < n from fun h2 => this ⟨h1, by omega⟩)]; rfl
      · rw [decide_eq_false h1]; rfl
  have hs : sfull (sreadyS s off false) = (sfull s && !sreadyB s off) := by
    cases hb : sreadyB s off with
    | false =>
      have : sreadyS s off false = s := by unfold sreadyS; rw [hb]; rfl
      rw [this]
      simp
    | true =>
      have h1 := count_ready h.inv hb false
      have h2 := (count_le (inv_ready (i := off) (b := false) h.inv))
      rw [readyS_want] at h2
      unfold sfull
      rw [readyS_want]
      have : (scount (sreadyS s off false) == s.want) = false := by
        rw [beq_eq_false_iff_ne]
        intro he
        unfold one at h1
        cases hq : s.f off.toNat with
        | true => rw [hq] at h1; simp only [cond_true, cond_false] at h1; omega
        | false =>
          rw [hq] at h1
          simp only [cond_false] at h1
          -- all wanted ones are ready, but this one isn't
          obtain ⟨g1, g2⟩ := readyB_iff.1 hb
          have hhi := h.inv.high
          have e2 : cntN (fun j => bif j == off.toNat then true else s.f j) 32 0 0 + one (s.f off.toNat) = cntN s.f 32 0 0 + one true := by
            have := cnt_upd (f := s.f) (g := fun j => bif j == off.toNat then true else s.f j) (k := off.toNat) (fun j hj => by
              show (bif j == off.toNat then true else s.f j) = s.f j
              rw [show (j == off.toNat) = false by simpa using hj]; rfl) 32 0 (by omega) (by omega)
            simpa using this
          have e3 := (cnt_le (f := fun j => bif j == off.toNat then true else s.f j) (w := s.want) 32 0 0 (fun j hj hw => by
            rw [Nat.zero_add] at hw ⊢
            show (bif j == off.toNat then true else s.f j) = false
            rw [show (j == off.toNat) = false by simp; omega]
            exact h.inv.off j hj hw)).2.2
          rw [hq] at e2
          unfold one at e2
          simp only [cond_true, cond_false] at e2
          have e4 : scount s = cntN s.f 32 0 0 := rfl
          have := h.inv.low
          omega
      rw [this]
      simp
  unfold endU
  rw [hs, hr, hf, hn, ← hl]
  have hbne : ((es.length : Int) != (es.length : Int)) = false := by simp
  rw [hbne]
  by_cases h1 : n > 0
  · rw [decide_eq_true h1]
    by_cases h2 : off ≥ 0
    · rw [decide_eq_true h2]
      cases (es.length : Int) == n <;> cases decide (off < n) <;> rfl
    · rw [decide_eq_false h2]
      cases (es.length : Int) == n <;> rfl
  · rw [decide_eq_false h1]
    by_cases h2 : off ≥ 0
    · rw [decide_eq_true h2]
      cases decide (off < n) <;> rfl
    · rw [decide_eq_false h2]
      rfl
theorem t_ReplicaFull {R : Type} (n : Int) (N : Nat) (f : Nat → Int) (off : Int) (K : TV → List (Option SB) → Option R) : runFnL Try.prog SR1 LU 20 Try.f3 (bodyOf Try.f3) [i64 n, .c (.slc 0 0 N), i64 off] [.ro 1 (.gen N fun i => encI (f i))] K =
    bif decide (n < 0) then K (.s (bl true)) [some (.ro 1 (.gen N fun i => encI (f i)))] else bif decide (n > 32) then K (.s (bl true)) [some (.ro 1 (.gen N fun i => encI (f i)))] else bif decide ((N : Int) > 300) then K (.s (bl true)) [some (.ro 1 (.gen N fun i => encI (f i)))] else
    bif Nat.beq N N && decide ((N : Int) = N) && chkRo encI decI (fun i => encI (f i)) then bif goodU (n, off, 0, N, f, (sscale z0 n, [])) then
      treeU n off (itM f (N - (0 : Int).toNat) (0 : Int).toNat (sscale z0 n, [])).1 (itM f (N - (0 : Int).toNat) (0 : Int).toNat (sscale z0 n, [])).2 (fun b => K (.s (bl b)) [some (.ro 1 (.gen N fun i => encI (f i)))]) else none else none := by kernel_rfl
theorem ReplicaFull (n : Int) (N : Nat) (f : Nat → Int) (off : Int) (_ : (Lit.int .i64 n).wf = true) (q : ∀ i, i < N → wfI (f i)) (_ : (Lit.int .i64 off).wf = true) (w : World) (v : Value) (l : Sx.Loc) (hs : SlcR l 0 N v) (hb : BlkR (outer w fun _ _ => False) (rho1 l) l (.ro 1 (.gen N fun i => encI (f i))) w) :
    Calls Try.prog 3 #[.int .i64 n, v, .int .i64 off] w fun e w' => e = .returned (.bool true) ∧ RowKit.Below w.heap.size w w' := by
  refine law_callsL okSR1 mixed Try.func3 (c := bodyOf Try.f3) (by kernel_rfl) lawK_spec (fuel := 20) (args := [i64 n, .c (.slc 0 0 N), i64 off]) (hp0 := [.ro 1 (.gen N fun i => encI (f i))]) (X := fun _ _ => False) (ρ := rho1 l) (vs := [.int .i64 n, v, .int .i64 off]) loopsU ?_ ⟨rfl, ⟨l, rfl, hs⟩, rfl, trivial⟩ (blk1 hb) rho1_out
  rw [t_ReplicaFull, chkRo_true backI]
  by_cases h1 : n < 0
  · rw [decide_eq_true h1]; rfl
  by_cases h2 : n > 32
  · rw [decide_eq_false h1, decide_eq_true h2]; rfl
  by_cases hN : (N : Int) > 300
  · rw [decide_eq_false h1, decide_eq_false h2, decide_eq_true hN]; rfl
  have hw : (sscale z0 n).want = n := by
    show capN n = n
    rw [capN_eq, if_neg h1, if_neg h2]
  obtain ⟨m1, m2⟩ := mi_it f (N - (0 : Int).toNat) (0 : Int).toNat (sscale z0 n, []) (mi_new n)
  rw [decide_eq_false h1, decide_eq_false h2, decide_eq_false hN, goodU_iff.2 ⟨by simp, by simp only; omega, hw, mi_new n⟩, treeU_eq m1.inv.high, endU_true m1 (m2.trans hw)]
  simp only [Nat.beq_refl, decide_true, Bool.and_self, cond_true, cond_false]
  rfl
end Go.Proofs.Ythdplllibigkpaa.Rep

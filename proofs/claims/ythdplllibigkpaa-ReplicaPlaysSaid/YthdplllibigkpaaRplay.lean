/- The law ReplicaPlays: true, and no memory that was there is written. -/
import Derived.Test.YthdplllibigkpaaRep4
set_option maxRecDepth 100000
set_option linter.unusedSimpArgs false
set_option linter.unusedVariables false
namespace Go.Proofs.Ythdplllibigkpaa.Rep
open Go Go.Proofs.Ythdplllibigkpaa.Sx
structure Rk where
  kind : Int
  n : Int
  on : Bool
  deriving Inhabited
def encRk (s : Rk) : List CV := [.int .i64 s.kind, .int .i64 s.n, .bool s.on]
def decRk : List CV → Option Rk
  | [.int .i64 a0, .int .i64 a1, .bool a2] => some ⟨a0, a1, a2⟩
  | _ => none
def decRkD : List CV → Rk
  | [.int .i64 a0, .int .i64 a1, .bool a2] => ⟨a0, a1, a2⟩
  | _ => default
theorem decRk_spec (l : List CV) (s : Rk) (h : decRk l = some s) : l = encRk s := by
  unfold decRk at h; split at h <;> cases h; rfl
theorem encRk_ren (s : Rk) (π) : (encRk s).map (CV.ren π) = encRk s := rfl
theorem backRk (s : Rk) : decRkD (encRk s) = s := rfl
structure wfRk (s : Rk) : Prop where
  kind : (Lit.int .i64 s.kind).wf = true
  n : (Lit.int .i64 s.n).wf = true
theorem opRk (cvs : List CV) (vs : List Value) (h : LeafRs [.int .i64, .int .i64, .bool] cvs vs) : ∃ x, cvs = encRk x ∧ wfRk x := by
  obtain ⟨_, _, _, _, rfl, rfl, ⟨a0, rfl, rfl, w0⟩, h0⟩ := h.cons_inv
  obtain ⟨_, _, _, _, rfl, rfl, ⟨a1, rfl, rfl, w1⟩, h1⟩ := h0.cons_inv
  obtain ⟨_, _, _, _, rfl, rfl, ⟨a2, rfl, rfl⟩, h2⟩ := h1.cons_inv
  obtain ⟨rfl, rfl⟩ := h2.nil_inv
  exact ⟨⟨a0, a1, a2⟩, rfl, ⟨w0, w1⟩⟩
@[reducible] def QA := Int × Nat × (Nat → Rk) × Sl × Nat × (Nat → List CV)
def encQ : QA → Sx.St
  | (i, N, f, s, n, g) => ⟨[(3, .s (.c (.ptr 1 0))), (4, .s (.c (.ptr 2 0))), (23, .s (.c (.slc 0 0 N))), (24, .s (.c (.int .i64 (N : Int)))), (25, .s (.c (.int .i64 i)))], [some (.ro 3 (.gen N fun i => encRk (f i))), some (.cells (encSl s)), some (.cells [.slc 3 0 n]), some (.vec 1 [] (.gen n g))], 4, 92⟩
@[reducible] def QB := Int × Int × Nat × Nat × (Nat → List CV) × Sl × Nat × Nat × (Nat → List CV)
def decQ : Sx.St → Option QB
  | ⟨[(3, .s (.c (.ptr 1 0))), (4, .s (.c (.ptr 2 0))), (23, .s (.c (.slc 0 0 N'))), (24, .s (.c (.int .i64 m))), (25, .s (.c (.int .i64 i)))], [some (.ro 3 (.gen N f)), some (.cells l), some (.cells [.slc 3 0 n']), some (.vec 1 [] (.gen n g))], 4, 92⟩ => (decSl l).map fun s => (i, m, N, N', f, s, n, n', g)
  | _ => none
noncomputable def chkQ : QB → Bool
  | (_, m, N, N', f, _, n, n', _) => Nat.beq N N' && decide (m = N) && Nat.beq n n' && chkRo encRk decRkD f
def normQ : QB → QA
  | (i, _, N, _, f, s, n, _, g) => (i, N, fun j => decRkD (f j), s, n, g)
theorem decQ_spec (st : Sx.St) (p : QB) (h : decQ st = some p) (hc : chkQ p = true) : st = encQ (normQ p) := by
  unfold decQ at h
  split at h
  · obtain ⟨s, h1, h2⟩ := Option.map_eq_some_iff.1 h
    obtain rfl := decSl_spec _ _ h1
    cases h2
    simp only [chkQ, Bool.and_eq_true, decide_eq_true_eq] at hc
    obtain ⟨⟨⟨g1, g2⟩, g3⟩, g4⟩ := hc
    have g1 := Nat.eq_of_beq_eq_true g1
    have g3 := Nat.eq_of_beq_eq_true g3
    subst g1 g2 g3
    have g := chkRo_spec g4
    unfold normQ encQ
    simp only
    rw [← g]
  · cases h
def noQ (N : Nat) (f : Nat → Rk) : Sx.St := ⟨[(2, .s (.c (.bool false)))], [some (.ro 3 (.gen N fun i => encRk (f i)))], 1, 92⟩
def finQ (N : Nat) (f : Nat → Rk) : Sx.St := ⟨[], [some (.ro 3 (.gen N fun i => encRk (f i)))], 1, 92⟩
structure QI (p : QA) : Prop where
  i : 0 ≤ p.1 ∧ p.1 ≤ p.2.1
  N : p.2.1 ≤ 500
  rel : RelS p.2.2.2.1 p.2.2.2.2.1 p.2.2.2.2.2
noncomputable def goodQ (p : QA) : Bool := @decide (QI p) (Classical.propDecidable _)
theorem goodQ_iff {p : QA} : goodQ p = true ↔ QI p := Iff.of_eq (@decide_eq_true_eq _ (Classical.propDecidable _))
noncomputable def tQ (p : QA) (R : Type) (K : Ex → Sx.St → Option R) : Option R := bif goodQ p then K (.exit 0) (finQ p.2.1 p.2.2.1) else none
@[reducible] noncomputable def LQ : List (Nat × LoopSum) := [(0, formSumC decQ chkQ normQ tQ)]
@[reducible] noncomputable def tlS {α : Type} (s : Sl) (n : Nat) (g : Nat → List CV) (no yes : Option α) : Option α :=
  bif s.want != (n : Int) then no else bif chkL n n (fixB n g) then bif scount s != rcnt n (fixB n g) then no else bif chkL n n (fixB n g) then bif !(sfull s == rfull n (fixB n g)) then no else yes else none else none
theorem tlS_yes {α : Type} {s : Sl} {n : Nat} {g : Nat → List CV} (no yes : Option α) (h : RelS s n g) : tlS s n g no yes = yes := by
  unfold tlS
  rw [h.chk, h.cnt, h.full, h.want]
  simp
theorem roundQ {R : Type} (L : List (Nat × LoopSum)) (i : Int) (N : Nat) (f : Nat → Rk) (s : Sl) (n : Nat) (g : Nat → List CV) (K : Ex → Sx.St → Option R) :
    roundK Try.prog SR1 L 20 1 (resMask Try.f6.results.toList) (lpAt Try.f6 0) (encQ (i, N, f, s, n, g)) K =
    bif decide (i < (N : Int)) then bif decide (0 ≤ i) && decide (i < (N : Int)) then bif decide (i.toNat < N) then
      bif (f i.toNat).kind == 1 then bif chkL n n (fixB n g) then tlS (sscale s (f i.toNat).n) (capN (f i.toNat).n).toNat (fun j => encB1 (cutL (fun j => decB1 (fixB n g j)) n (capN (f i.toNat).n).toNat j)) (K .ret (noQ N f))
        (K .normal (encQ (IntKind.i64.wrap (i + 1), N, f, sscale s (f i.toNat).n, (capN (f i.toNat).n).toNat, fun j => encB1 (cutL (fun j => decB1 (fixB n g j)) n (capN (f i.toNat).n).toNat j)))) else none
      else bif (f i.toNat).kind == 2 then bif decide (s.want ≤ 32) then bif chkL n n (fixB n g) then
        bif decide ((f i.toNat).n < 0) then bif !(sreadyB s (f i.toNat).n == false) then K .ret (noQ N f) else tlS (sreadyS s (f i.toNat).n (f i.toNat).on) n (fixB n g) (K .ret (noQ N f)) (K .normal (encQ (IntKind.i64.wrap (i + 1), N, f, sreadyS s (f i.toNat).n (f i.toNat).on, n, fixB n g)))
        else bif decide ((f i.toNat).n ≥ (n : Int)) then bif !(sreadyB s (f i.toNat).n == false) then K .ret (noQ N f) else tlS (sreadyS s (f i.toNat).n (f i.toNat).on) n (fixB n g) (K .ret (noQ N f)) (K .normal (encQ (IntKind.i64.wrap (i + 1), N, f, sreadyS s (f i.toNat).n (f i.toNat).on, n, fixB n g)))
        else bif !(sreadyB s (f i.toNat).n == true) then K .ret (noQ N f) else tlS (sreadyS s (f i.toNat).n (f i.toNat).on) n (fun j => encB1 (bif Nat.beq j (f i.toNat).n.toNat then (f i.toNat).on else decB1 (fixB n g j))) (K .ret (noQ N f))
          (K .normal (encQ (IntKind.i64.wrap (i + 1), N, f, sreadyS s (f i.toNat).n (f i.toNat).on, n, fun j => encB1 (bif Nat.beq j (f i.toNat).n.toNat then (f i.toNat).on else decB1 (fixB n g j)))))
      else none else none
      else bif (f i.toNat).kind == 3 then tlS s n g (K .ret (noQ N f)) (K .normal (encQ (IntKind.i64.wrap (i + 1), N, f, s, n, g)))
      else tlS s n g (K .ret (noQ N f)) (K .normal (encQ (IntKind.i64.wrap (i + 1), N, f, s, n, g)))
    else none else none else K (.exit 0) (finQ N f) := by kernel_rfl
theorem okQ : LoopOk Try.prog SR1 LQ 20 1 (resMask Try.f6.results.toList) (lpAt Try.f6 0) (formSumC decQ chkQ normQ tQ) := by
  refine LoopOk.ofC decQ_spec (fun p => p.2.1 - p.1.toNat) ?_
  rintro ⟨i, N, f, s, n, g⟩ R K x h
  unfold tQ at h
  cases hg : goodQ (i, N, f, s, n, g) with
  | false => rw [hg] at h; cases h
  | true =>
    rw [hg, cond_true] at h
    obtain ⟨h1, h2, h3⟩ := goodQ_iff.1 hg
    simp only at h1 h2 h3 h
    by_cases hi : i < (N : Int)
    · left
      have key : ∀ (s2 : Sl) (n2 : Nat) (g2 : Nat → List CV), RelS s2 n2 g2 → tQ (i + 1, N, f, s2, n2, g2) R K = some x := fun s2 n2 g2 a => by
        unfold tQ
        rw [goodQ_iff.2 ⟨by simp only; omega, h2, a⟩]
        exact h
      have hr : ∀ K' : Ex → Sx.St → Option R, _ := fun K' => roundQ LQ i N f s n g K'
      simp only [decide_eq_true hi, decide_eq_true h1.1, decide_eq_true (show i.toNat < N by omega), wi (x := i + 1) (by omega), Bool.and_self, cond_true, h3.chk, decide_eq_true h3.inv.high] at hr
      generalize f i.toNat = c at hr
      cases k1 : c.kind == 1 with
      | true =>
        have h4 := h3.scale c.n
        refine ⟨_, ?_, fun K' => ?_, key _ _ _ h4⟩
        · show N - (i + 1).toNat < N - i.toNat; omega
        · rw [hr, k1]; exact tlS_yes _ _ h4
      | false =>
      cases k2 : c.kind == 2 with
      | true =>
        by_cases c1 : c.n < 0
        · obtain ⟨g1, g2⟩ := h3.unready (.inl c1) c.on
          refine ⟨_, ?_, fun K' => ?_, key _ _ _ h3.again⟩
          · show N - (i + 1).toNat < N - i.toNat; omega
          · rw [hr, k1, k2, decide_eq_true c1, g1, g2]; exact tlS_yes _ _ h3.again
        · by_cases c2 : c.n ≥ (n : Int)
          · obtain ⟨g1, g2⟩ := h3.unready (.inr c2) c.on
            refine ⟨_, ?_, fun K' => ?_, key _ _ _ h3.again⟩
            · show N - (i + 1).toNat < N - i.toNat; omega
            · rw [hr, k1, k2, decide_eq_false c1, decide_eq_true c2, g1, g2]; exact tlS_yes _ _ h3.again
          · obtain ⟨g1, g2⟩ := h3.ready (k := c.n) (by omega) (by omega) c.on
            refine ⟨_, ?_, fun K' => ?_, key _ _ _ g2⟩
            · show N - (i + 1).toNat < N - i.toNat; omega
            · rw [hr, k1, k2, decide_eq_false c1, decide_eq_false c2, g1]; exact tlS_yes _ _ g2
      | false =>
        refine ⟨_, ?_, fun K' => ?_, key _ _ _ h3⟩
        · show N - (i + 1).toNat < N - i.toNat; omega
        · rw [hr, k1, k2]
          cases c.kind == 3 <;> exact tlS_yes _ _ h3
    · right
      refine ⟨.exit 0, _, by simp, fun K' => ?_, h⟩
      rw [roundQ, decide_eq_false hi]
      rfl
theorem loopsQ : LoopsOk Try.prog SR1 LQ 20 1 (resMask Try.f6.results.toList) (loopsOf (resMask Try.f6.results.toList) (bodyOf Try.f6) [] (resMask Try.f6.results.toList)) :=
  loopsOk_ix 1 (by kernel_rfl) ⟨trivial, loopOk_here (n := 0) (by kernel_rfl) rfl okQ⟩
theorem t_ReplicaPlays {R : Type} (N : Nat) (f : Nat → Rk) (K : TV → List (Option SB) → Option R) : runFnL Try.prog SR1 LQ 20 Try.f6 (bodyOf Try.f6) [.c (.slc 0 0 N)] [.ro 3 (.gen N fun i => encRk (f i))] K =
    bif decide ((N : Int) > 500) then K (.s (bl true)) [some (.ro 3 (.gen N fun i => encRk (f i)))] else bif Nat.beq N N && decide ((N : Int) = N) && Nat.beq 0 0 && chkRo encRk decRkD (fun i => encRk (f i)) then bif goodQ (0, N, f, z0, 0, nilG) then K (.s (bl true)) [some (.ro 3 (.gen N fun i => encRk (f i)))] else none else none := by kernel_rfl
theorem ReplicaPlays (N : Nat) (f : Nat → Rk) (q : ∀ i, i < N → wfRk (f i)) (w : World) (v : Value) (l : Sx.Loc) (hs : SlcR l 0 N v) (hb : BlkR (outer w fun _ _ => False) (rho1 l) l (.ro 3 (.gen N fun i => encRk (f i))) w) :
    Calls Try.prog 6 #[v] w fun e w' => e = .returned (.bool true) ∧ RowKit.Below w.heap.size w w' := by
  refine law_callsL okSR1 mixed Try.func6 (c := bodyOf Try.f6) (by kernel_rfl) lawK_spec (fuel := 20) (args := [.c (.slc 0 0 N)]) (hp0 := [.ro 3 (.gen N fun i => encRk (f i))]) (X := fun _ _ => False) (ρ := rho1 l) (vs := [v]) loopsQ ?_ ⟨⟨l, rfl, hs⟩, trivial⟩ (blk1 hb) rho1_out
  rw [t_ReplicaPlays, chkRo_true backRk]
  by_cases hN : (N : Int) > 500
  · rw [decide_eq_true hN]; rfl
  · rw [decide_eq_false hN, goodQ_iff.2 ⟨by simp, by simp only; omega, relS_new⟩]
    simp only [Nat.beq_refl, decide_true, Bool.and_self, cond_true, cond_false]
    rfl
end Go.Proofs.Ythdplllibigkpaa.Rep

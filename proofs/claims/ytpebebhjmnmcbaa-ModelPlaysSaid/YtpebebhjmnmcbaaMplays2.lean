/- The law ModelPlays: true, and no memory that was there is written. Part 2. -/
import Derived.Test.YtpebebhjmnmcbaaMplays
set_option maxRecDepth 100000
set_option linter.unusedSimpArgs false
set_option linter.unusedVariables false
namespace Go.Proofs.Ytpebebhjmnmcbaa.Md
open Go Go.Proofs.Ytpebebhjmnmcbaa.Sx
theorem tlY_yes {R : Type} {i : Int} {N : Nat} {f : Nat → Ac} {m : Md} {N1 : Nat} {o : Nat → Int} {a : Ac} {k : Int} {x : Mr} {N2 : Nat} {o2 : Nat → Int} {K : Ex → Sx.St → Option R} (hok : okDo m N1 a = true) (hI : Inv (doV m N1 o a).m (doV m N1 o a).N)
    (hk : (doV m N1 o a).k = k) (h : RelY (doV m N1 o a).m (doV m N1 o a).o x N2 o2) (hi : IntKind.i64.wrap (i + 1) = i + 1) : tlY i N f m N1 o a k x N2 o2 K = K .normal (encY ((i + 1, N, f, (doV m N1 o a).m, (doV m N1 o a).N, (doV m N1 o a).o), ⟨x, N2, o2⟩)) := by
  unfold tlY
  rw [chkRo_true Rt.backI, hok, show ((doV m N1 o a).k != k) = false by simpa using hk, chk_inv hI, okD_self, h.ok, eqY_rel h, hi]
  rfl
/-- What an act makes of the reference's model. -/
theorem roundY_yes {R : Type} (L : List (Nat × LoopSum)) {i : Int} {N : Nat} {f : Nat → Ac} {m : Md} {N1 : Nat} {o : Nat → Int} {x : MO} (hl : LI (i, N, f, m, N1, o)) (h : RelY m o x.m x.N x.o) (hi : i < (N : Int)) :
    ∃ x' : MO, RelY (doV m N1 o (f i.toNat)).m (doV m N1 o (f i.toNat)).o x'.m x'.N x'.o ∧ ∀ K : Ex → Sx.St → Option R, roundK Try.prog PY L 20 1 (resMask Try.f5.results.toList) (lpAt Try.f5 0) (encY ((i, N, f, m, N1, o), x)) K =
      K .normal (encY ((i + 1, N, f, (doV m N1 o (f i.toNat)).m, (doV m N1 o (f i.toNat)).N, (doV m N1 o (f i.toNat)).o), x')) := by
  obtain ⟨x, N2, o2⟩ := x
  simp only at h
  obtain ⟨hok, hn⟩ := hl.next hi
  have h1 := hl.i
  have hN := hl.N
  have hI := hl.inv
  have hM := hl.M
  have hw := hl.wf i.toNat (by have := hl.i; simp only at this ⊢; omega)
  simp only at h1 hN hI hM hw
  have hrn := hI.n
  have hi1 : IntKind.i64.wrap (i + 1) = i + 1 := wi (by omega)
  have hin := hn.inv
  simp only at hin
  have hr : ∀ K' : Ex → Sx.St → Option R, _ := fun K' => roundY L i N f m N1 o x N2 o2 K'
  have hact : Fold.act x.st = true := by rw [h.st]; exact hI.act
  simp only [decide_eq_true hi, decide_eq_true h1.1, decide_eq_true (show i.toNat < N by omega), Bool.and_self, cond_true, okD_self, h.ok, hact] at hr
  revert hr hok hin hw
  generalize f i.toNat = a
  intro hok hw hin hr
  by_cases k1 : a.kind = 1
  · have b1 : (a.kind == 1) = true := by simpa using k1
    simp only [b1, cond_true] at hr
    obtain ⟨r1, r2, r3⟩ := rel_op hI h (askA a)
    have e : doV m N1 o a = ⟨(opV m (askA a)).1, (opV m (askA a)).2, N1, o⟩ := by unfold doV; rw [b1]; rfl
    cases hc : Fold.rcheckV x.st (askA a) x.tick == 0 with
    | true =>
      have r2 := r2 hc
      refine ⟨⟨_, N2, o2⟩, by rw [e]; exact r2, fun K => ?_⟩
      rw [hr, hc]
      exact tlY_yes hok hin (by rw [e]; exact r1.symm) (by rw [e]; exact r2) hi1
    | false =>
      have r3 := r3 hc
      refine ⟨⟨x, N2, o2⟩, by rw [e]; exact r3, fun K => ?_⟩
      rw [hr, hc]
      exact tlY_yes hok hin (by rw [e]; exact r1.symm) (by rw [e]; exact r3) hi1
  have b1 : (a.kind == 1) = false := by simpa using k1
  simp only [b1, cond_false] at hr
  by_cases k2 : a.kind = 2
  · have b2 : (a.kind == 2) = true := by simpa using k2
    simp only [b2, cond_true] at hr
    have e : doV m N1 o a = ⟨(mstepV m (m.r.n + a.outL.length) (catO m.r.i0 m.r.n o a.outL)).1, (mstepV m (m.r.n + a.outL.length) (catO m.r.i0 m.r.n o a.outL)).2, m.r.n + a.outL.length, catO m.r.i0 m.r.n o a.outL⟩ := by unfold doV; rw [b1, b2]; rfl
    obtain ⟨r1, r2, r3⟩ := rel_mstep hI h a.outL (by omega)
    refine ⟨(rstepG 4 (stepX x o2 a.outL)).2, by rw [e]; exact r3, fun K => ?_⟩
    rw [hr, chkRo_true Rt.backI, r1]
    exact tlY_yes hok hin (by rw [e]; exact r2.symm) (by rw [e]; exact r3) hi1
  have b2 : (a.kind == 2) = false := by simpa using k2
  simp only [b2, cond_false] at hr
  by_cases k3 : a.kind = 3
  · have b3 : (a.kind == 3) = true := by simpa using k3
    simp only [b3, cond_true] at hr
    have e : doV m N1 o a = ⟨bif (Rep.fready (m.a, m.b) a.slot a.n a.on).1 then 1 else 0, readyM m a.slot a.n a.on, N1, o⟩ := by unfold doV; rw [b1, b2, b3]; rfl
    by_cases s0 : a.slot = 0
    · have c0 : (a.slot == 0) = true := by simpa using s0
      have ef : Rep.fready (m.a, m.b) a.slot a.n a.on = (Rep.sreadyB m.a a.n, Rep.sreadyS m.a a.n a.on, m.b) := by unfold Rep.fready; rw [if_pos s0]
      obtain ⟨q1, q2⟩ := rel_rdy h.a a.n a.on
      have hrel : RelY (doV m N1 o a).m (doV m N1 o a).o (wa x (rdyR x.na x.ga a.n a.on).2) N2 o2 := by
        rw [e]
        unfold readyM
        rw [ef]
        exact ⟨h.st, q2, h.b, h.r, h.tries, h.tick, h.N⟩
      refine ⟨⟨wa x (rdyR x.na x.ga a.n a.on).2, N2, o2⟩, hrel, fun K => ?_⟩
      have hk : (doV m N1 o a).k = bif (rdyR x.na x.ga a.n a.on).1 then 1 else 0 := by rw [e, ef, q1]
      rw [hr, c0, cond_true]
      unfold rdyY
      rw [h.a.chk, cond_true]
      unfold rdyR at hrel hk ⊢
      cases d1 : decide (a.n < 0) with
      | true => rw [d1] at hrel hk; exact tlY_yes hok hin hk hrel hi1
      | false =>
        cases d2 : decide (a.n ≥ (x.na : Int)) with
        | true => rw [d1, d2] at hrel hk; exact tlY_yes hok hin hk hrel hi1
        | false => rw [d1, d2] at hrel hk; exact tlY_yes hok hin hk hrel hi1
    · have c0 : (a.slot == 0) = false := by simpa using s0
      by_cases s1 : a.slot = 1
      · have c1 : (a.slot == 1) = true := by simpa using s1
        have ef : Rep.fready (m.a, m.b) a.slot a.n a.on = (Rep.sreadyB m.b a.n, m.a, Rep.sreadyS m.b a.n a.on) := by unfold Rep.fready; rw [if_neg s0, if_pos s1]
        obtain ⟨q1, q2⟩ := rel_rdy h.b a.n a.on
        have hrel : RelY (doV m N1 o a).m (doV m N1 o a).o (wb x (rdyR x.nb x.gb a.n a.on).2) N2 o2 := by
          rw [e]
          unfold readyM
          rw [ef]
          exact ⟨h.st, h.a, q2, h.r, h.tries, h.tick, h.N⟩
        refine ⟨⟨wb x (rdyR x.nb x.gb a.n a.on).2, N2, o2⟩, hrel, fun K => ?_⟩
        have hk : (doV m N1 o a).k = bif (rdyR x.nb x.gb a.n a.on).1 then 1 else 0 := by rw [e, ef, q1]
        rw [hr, c0, c1, cond_true, cond_false]
        unfold rdyY
        rw [h.b.chk, cond_true]
        unfold rdyR at hrel hk ⊢
        cases d1 : decide (a.n < 0) with
        | true => rw [d1] at hrel hk; exact tlY_yes hok hin hk hrel hi1
        | false =>
          cases d2 : decide (a.n ≥ (x.nb : Int)) with
          | true => rw [d1, d2] at hrel hk; exact tlY_yes hok hin hk hrel hi1
          | false => rw [d1, d2] at hrel hk; exact tlY_yes hok hin hk hrel hi1
      · have c1 : (a.slot == 1) = false := by simpa using s1
        have ef : Rep.fready (m.a, m.b) a.slot a.n a.on = (false, m.a, m.b) := by unfold Rep.fready; rw [if_neg s0, if_neg s1]
        have hrel : RelY (doV m N1 o a).m (doV m N1 o a).o x N2 o2 := by
          rw [e]
          unfold readyM
          rw [ef]
          exact ⟨h.st, h.a, h.b, h.r, h.tries, h.tick, h.N⟩
        refine ⟨⟨x, N2, o2⟩, hrel, fun K => ?_⟩
        rw [hr, c0, c1]
        exact tlY_yes hok hin (by rw [e, ef]; rfl) hrel hi1
  have b3 : (a.kind == 3) = false := by simpa using k3
  simp only [b3, cond_false] at hr
  by_cases k4 : a.kind = 4
  · have b4 : (a.kind == 4) = true := by simpa using k4
    simp only [b4, cond_true] at hr
    have e : doV m N1 o a = ⟨0, tickM m a.n, N1, o⟩ := by unfold doV; rw [b1, b2, b3, b4]; rfl
    have hrel : RelY (doV m N1 o a).m (doV m N1 o a).o (rtickM x a.n) N2 o2 := by rw [e]; exact rel_tick hI h (bnd hw.1.n)
    exact ⟨⟨rtickM x a.n, N2, o2⟩, hrel, fun K => by rw [hr]; exact tlY_yes hok hin (by rw [e]) hrel hi1⟩
  · have b4 : (a.kind == 4) = false := by simpa using k4
    simp only [b4, cond_false] at hr
    have e : doV m N1 o a = ⟨0, m, N1, o⟩ := by unfold doV; rw [b1, b2, b3, b4]; rfl
    have hrel : RelY (doV m N1 o a).m (doV m N1 o a).o x N2 o2 := by rw [e]; exact h
    exact ⟨⟨x, N2, o2⟩, hrel, fun K => by rw [hr]; exact tlY_yes hok hin (by rw [e]) hrel hi1⟩
theorem okY (L : List (Nat × LoopSum)) : LoopOk Try.prog PY L 20 1 (resMask Try.f5.results.toList) (lpAt Try.f5 0) (formSumC decYY chkY normY tY) := by
  refine LoopOk.ofC decYY_spec (fun p => p.1.2.1 - p.1.1.toNat) ?_
  rintro ⟨⟨i, N, f, m, N1, o⟩, x⟩ R K y h
  unfold tY at h
  cases hg : goodY ((i, N, f, m, N1, o), x) with
  | false => rw [hg] at h; cases h
  | true =>
    rw [hg, cond_true] at h
    obtain ⟨hl, hrel⟩ := goodY_iff.1 hg
    simp only at hl hrel h
    by_cases hi : i < (N : Int)
    · left
      have h1 := hl.i
      simp only at h1
      obtain ⟨x', hrel', hk⟩ := roundY_yes (R := R) L hl hrel hi
      refine ⟨((i + 1, N, f, (doV m N1 o (f i.toNat)).m, (doV m N1 o (f i.toNat)).N, (doV m N1 o (f i.toNat)).o), x'), by simp only; omega, hk, ?_⟩
      unfold tY
      rw [goodY_iff.2 ⟨(hl.next hi).2, hrel'⟩]
      exact h
    · right
      obtain ⟨x, N2, o2⟩ := x
      exact ⟨.exit 0, _, by simp, fun K' => by rw [roundY, decide_eq_false hi]; rfl, h⟩
theorem loopsY : LoopsOk Try.prog PY LY 20 1 (resMask Try.f5.results.toList) (loopsOf (resMask Try.f5.results.toList) (bodyOf Try.f5) [] (resMask Try.f5.results.toList)) :=
  loopsOk_ix 1 (by kernel_rfl) ⟨trivial, loopOk_here (n := 0) (by kernel_rfl) rfl (okY _)⟩
theorem t_ModelPlays {R : Type} (z : N3) (N : Nat) (f : Nat → Ac) (K : TV → List (Option SB) → Option R) : runFnL Try.prog PY LY 20 Try.f5 (bodyOf Try.f5) [.agg (encN3 z), .c (.slc 0 0 N)] [.ro 10 (.gen N fun i => encAc (f i))] K =
    bif Nat.beq N N && chkRo encAc decAcD (fun i => encAc (f i)) then bif greatV N f then K (.s (bl true)) (rowY N f) else
      bif !(Fold.ffirstV z.a z.b).2 then bif !Fold.rightV (Fold.firstV z.a z.b) then K (.s (bl true)) (rowY N f) else K (.s (bl false)) (rowY N f) else
      bif !Fold.rightV (Fold.firstV z.a z.b) then K (.s (bl false)) (rowY N f) else
      bif Nat.beq N N && (decide ((N : Int) = N) && (chkRo Rt.encI Rt.decID (fun _ => [.int .i64 0]) && chkRo encAc decAcD (fun i => encAc (f i)))) && (Nat.beq (newR (Fold.firstV z.a z.b) z.c).na (newR (Fold.firstV z.a z.b) z.c).na && (Nat.beq (newR (Fold.firstV z.a z.b) z.c).nb (newR (Fold.firstV z.a z.b) z.c).nb && chkRo Rt.encI Rt.decID (fun _ => [.int .i64 0]))) then
        bif goodY ((0, N, f, newM z.a z.b z.c, 0, fun _ => 0), ⟨newR (Fold.firstV z.a z.b) z.c, 0, fun _ => 0⟩) then K (.s (bl true)) (rowY N f) else none else none else none := by kernel_rfl
theorem first_eq (a b : Int) : Fold.rightV (Fold.firstV a b) = (Fold.ffirstV a b).2 ∧ ((Fold.ffirstV a b).2 = true → Fold.firstV a b = (Fold.ffirstV a b).1) := by
  have e : Fold.firstV a b = ⟨0, 0, a, 0, b, 0, true, false, 0, 0, 0, 0⟩ := rfl
  rw [e]
  unfold Fold.ffirstV
  cases hb : Fold.rightV (Fold.St.mk 0 0 a 0 b 0 true false 0 0 0 0) with
  | true => exact ⟨rfl, fun _ => rfl⟩
  | false => exact ⟨rfl, fun h => by cases h⟩
theorem ModelPlays (z : N3) (N : Nat) (f : Nat → Ac) (_ : wfN3 z) (q : ∀ i, i < N → wfAc (f i)) (w : World) (v2 : Value) (hv2 : ∀ X ρ, (SV.agg (encN3 z)).R X ρ v2) (v : Value) (l : Sx.Loc) (hs : SlcR l 0 N v) (hb : BlkR (outs w) (rho1 l) l (.ro 10 (.gen N fun i => encAc (f i))) w) :
    Calls Try.prog 5 #[v2, v] w fun e w' => e = .returned (.bool true) ∧ RowKit.Below w.heap.size w w' := by
  refine law_callsL okPY mixed Try.func5 (c := bodyOf Try.f5) (by kernel_rfl) lawK_spec (fuel := 20) (args := [.agg (encN3 z), .c (.slc 0 0 N)]) (hp0 := [.ro 10 (.gen N fun i => encAc (f i))]) (X := fun _ _ => True) (ρ := rho1 l) (vs := [v2, v]) loopsY ?_ ⟨hv2 _ _, ⟨l, rfl, hs⟩, trivial⟩ (blk1 hb) rho1_out
  rw [t_ModelPlays, chkRo_true backAc]
  obtain ⟨f1, f2⟩ := first_eq z.a z.b
  cases hgr : greatV N f with
  | true => simp; rfl
  | false =>
    obtain ⟨g1, g2⟩ := great_spec hgr
    rw [f1]
    cases hf : (Fold.ffirstV z.a z.b).2 with
    | false => simp; rfl
    | true =>
      have e0 : chkRo Rt.encI Rt.decID (fun _ => [.int .i64 0]) = true := chkRo_true Rt.backI (fun _ => 0)
      rw [goodY_iff.2 ⟨LI.first hf g1 fun j hj => ⟨q j hj, g2 j hj⟩, rel_new hf (f2 hf)⟩, e0]
      simp
      rfl
end Go.Proofs.Ytpebebhjmnmcbaa.Md

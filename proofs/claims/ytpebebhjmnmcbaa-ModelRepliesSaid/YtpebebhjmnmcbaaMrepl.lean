/- The law ModelReplies: true, and no memory that was there is written. -/
import Derived.Test.YtpebebhjmnmcbaaMll
set_option maxRecDepth 100000
set_option linter.unusedSimpArgs false
set_option linter.unusedVariables false
namespace Go.Proofs.Ytpebebhjmnmcbaa.Md
open Go Go.Proofs.Ytpebebhjmnmcbaa.Sx
@[reducible] def encG1 (i : Int) (N : Nat) (f : Nat → Ac) (m : Md) (N1 : Nat) (ge : Nat → List CV) : Sx.St := ⟨[(5, .s (.c (.ptr 1 0))), (41, .s (.c (.slc 0 0 N))), (42, .s (.c (.int .i64 (N : Int)))), (43, .s (.c (.int .i64 i)))], some (.ro 10 (.gen N fun i => encAc (f i))) :: hpL m N1 ge, 8, 103⟩
def encR : LA → Sx.St
  | (i, N, f, m, N1, o) => encG1 i N f m N1 (fun j => Rt.encI (o j))
def decR : Sx.St → Option LB
  | ⟨[(5, .s (.c (.ptr 1 0))), (41, .s (.c (.slc 0 0 N'))), (42, .s (.c (.int .i64 m'))), (43, .s (.c (.int .i64 i)))], some (.ro 10 (.gen N f)) :: hp, 8, 103⟩ => (decL hp).map fun p => (i, m', N, N', f, p.1, p.2.1, p.2.2)
  | _ => none
theorem decR_spec (st : Sx.St) (p : LB) (h : decR st = some p) (hc : chkL p = true) : st = encR (normL p) := by
  unfold decR at h
  split at h
  · obtain ⟨⟨m, N1, ge⟩, hm, h⟩ := Option.map_eq_some_iff.1 h
    cases h
    simp only [chkL, Bool.and_eq_true, decide_eq_true_eq] at hc
    obtain ⟨h1, h2, h3, h4⟩ := hc
    have h1 := Nat.eq_of_beq_eq_true h1
    subst h1 h2
    obtain rfl := decL_spec hm
    have g := chkRo_spec h3
    have g' := chkRo_spec h4
    unfold normL encR encG1
    simp only
    rw [← g, ← g']
  · cases h
def noR (N : Nat) (f : Nat → Ac) : Sx.St := ⟨[(4, .s (.c (.bool false)))], [some (.ro 10 (.gen N fun i => encAc (f i)))], 1, 103⟩
def finR (N : Nat) (f : Nat → Ac) : Sx.St := ⟨[], [some (.ro 10 (.gen N fun i => encAc (f i)))], 1, 103⟩
noncomputable def tR (p : LA) (R : Type) (K : Ex → Sx.St → Option R) : Option R := bif goodL p then K (.exit 0) (finR p.2.1 p.2.2.1) else none
@[reducible] noncomputable def LR : List (Nat × LoopSum) := [(0, formSumC decR chkL normL tR)]
@[reducible] noncomputable def r3 {R : Type} (d : DR) (i : Int) (N : Nat) (f : Nat → Ac) (K : Ex → Sx.St → Option R) : Option R := bif !Fold.rightV d.m.st then K .ret (noR N f) else bif Rt.chkB d.m.r d.N (fun j => Rt.encI (d.o j)) then bif !eqR d.m d.m then K .ret (noR N f) else K .normal (encG1 (IntKind.i64.wrap (i + 1)) N f d.m d.N (fun j => Rt.encI (d.o j))) else none
@[reducible] noncomputable def r2 {R : Type} (d : DR) (a : Ac) (m : Md) (i : Int) (N : Nat) (f : Nat → Ac) (K : Ex → Sx.St → Option R) : Option R := bif a.kind == 3 then bif d.k == 0 then bif !eqR d.m m then K .ret (noR N f) else r3 d i N f K else r3 d i N f K else r3 d i N f K
@[reducible] noncomputable def r1 {R : Type} (d : DR) (a : Ac) (m : Md) (i : Int) (N : Nat) (f : Nat → Ac) (K : Ex → Sx.St → Option R) : Option R := bif a.kind == 1 then bif d.k != 0 then bif !eqR d.m m then K .ret (noR N f) else r2 d a m i N f K else r2 d a m i N f K else r2 d a m i N f K
theorem roundR {R : Type} (L : List (Nat × LoopSum)) (i : Int) (N : Nat) (f : Nat → Ac) (m : Md) (N1 : Nat) (o : Nat → Int) (K : Ex → Sx.St → Option R) : roundK Try.prog PL L 20 1 (resMask Try.f6.results.toList) (lpAt Try.f6 0) (encR (i, N, f, m, N1, o)) K =
    bif decide (i < (N : Int)) then bif decide (0 ≤ i) && decide (i < (N : Int)) then bif decide (i.toNat < N) then bif Rt.chkB m.r N1 (fun j => Rt.encI (o j)) then bif chkRo Rt.encI Rt.decID (fun j => Rt.encI (o j)) && okDo m N1 (f i.toNat) then
      bif Rt.chkB (doV m N1 o (f i.toNat)).m.r (doV m N1 o (f i.toNat)).N (fun j => Rt.encI ((doV m N1 o (f i.toNat)).o j)) then r1 (doV m N1 o (f i.toNat)) (f i.toNat) m i N f K
      else none else none else none else none else none else K (.exit 0) (finR N f) := by kernel_rfl
theorem op_same {m : Md} {o : Fold.Ask} (h : (opV m o).1 ≠ 0) : (opV m o).2 = m := by
  unfold opV at h ⊢
  cases hc : Fold.checkV m.st o m.tick != 0 with
  | true => rfl
  | false => rw [hc] at h; exact absurd rfl h
theorem ready_same {m : Md} {slot i : Int} {on : Bool} (h : (Rep.fready (m.a, m.b) slot i on).1 = false) : readyM m slot i on = m := by
  have hs : ∀ s : Rep.Sl, Rep.sreadyB s i = false → Rep.sreadyS s i on = s := fun s hs => by unfold Rep.sreadyS; rw [hs]; rfl
  unfold Rep.fready at h
  unfold readyM Rep.fready
  by_cases h0 : slot = 0
  · rw [if_pos h0] at h ⊢; simp only at h ⊢; rw [hs _ h]
  · rw [if_neg h0] at h ⊢
    by_cases h1 : slot = 1
    · rw [if_pos h1] at h ⊢; simp only at h ⊢; rw [hs _ h]
    · rw [if_neg h1]
theorem do_op {m : Md} {N : Nat} {o : Nat → Int} {a : Ac} (h1 : (a.kind == 1) = true) (h : ((doV m N o a).k != 0) = true) : (doV m N o a).m = m := by
  unfold doV at h ⊢
  rw [h1, cond_true] at h ⊢
  exact op_same (by simpa using h)
theorem do_ready {m : Md} {N : Nat} {o : Nat → Int} {a : Ac} (h1 : (a.kind == 3) = true) (h : ((doV m N o a).k == 0) = true) : (doV m N o a).m = m := by
  have h3 : a.kind = 3 := by simpa using h1
  have e1 : (a.kind == 1) = false := by simp [h3]
  have e2 : (a.kind == 2) = false := by simp [h3]
  unfold doV at h ⊢
  rw [e1, e2, h1, cond_false, cond_false, cond_true] at h ⊢
  refine ready_same ?_
  cases hb : (Rep.fready (m.a, m.b) a.slot a.n a.on).1 with
  | false => rfl
  | true => simp only [hb, cond_true] at h; cases h
theorem okR : LoopOk Try.prog PL LR 20 1 (resMask Try.f6.results.toList) (lpAt Try.f6 0) (formSumC decR chkL normL tR) := by
  refine LoopOk.ofC decR_spec (fun p => p.2.1 - p.1.toNat) ?_
  rintro ⟨i, N, f, m, N1, o⟩ R K x h
  unfold tR at h
  cases hg : goodL (i, N, f, m, N1, o) with
  | false => rw [hg] at h; cases h
  | true =>
    rw [hg, cond_true] at h
    have hI := goodL_iff.1 hg
    by_cases hi : i < (N : Int)
    · left
      obtain ⟨hok, hn⟩ := hI.next hi
      have h1 := hI.i
      have hN := hI.N
      simp only at h1 hN
      refine ⟨(i + 1, N, f, (doV m N1 o (f i.toNat)).m, (doV m N1 o (f i.toNat)).N, (doV m N1 o (f i.toNat)).o), by simp only; omega, fun K' => ?_, ?_⟩
      · rw [roundR, decide_eq_true hi, decide_eq_true h1.1, decide_eq_true (show i.toNat < N by omega), chk_inv hI.inv, chkRo_true Rt.backI, hok, chk_inv hn.inv]
        simp only [Bool.and_self, cond_true]
        have e3 : r3 (doV m N1 o (f i.toNat)) i N f K' = K' .normal (encR (i + 1, N, f, (doV m N1 o (f i.toNat)).m, (doV m N1 o (f i.toNat)).N, (doV m N1 o (f i.toNat)).o)) := by
          unfold r3
          rw [show Fold.rightV (doV m N1 o (f i.toNat)).m.st = true from hn.inv.right, chk_inv hn.inv, eqR_self, wi (x := i + 1) (by omega)]
          rfl
        have e2 : r2 (doV m N1 o (f i.toNat)) (f i.toNat) m i N f K' = r3 (doV m N1 o (f i.toNat)) i N f K' := by
          unfold r2
          cases k3 : (f i.toNat).kind == 3 with
          | false => rfl
          | true =>
            cases k0 : (doV m N1 o (f i.toNat)).k == 0 with
            | false => rfl
            | true =>
              have : eqR (doV m N1 o (f i.toNat)).m m = true := by rw [do_ready k3 k0]; exact eqR_self m
              rw [this]; rfl
        have e1 : r1 (doV m N1 o (f i.toNat)) (f i.toNat) m i N f K' = r2 (doV m N1 o (f i.toNat)) (f i.toNat) m i N f K' := by
          unfold r1
          cases k3 : (f i.toNat).kind == 1 with
          | false => rfl
          | true =>
            cases k0 : (doV m N1 o (f i.toNat)).k != 0 with
            | false => rfl
            | true =>
              have : eqR (doV m N1 o (f i.toNat)).m m = true := by rw [do_op k3 k0]; exact eqR_self m
              rw [this]; rfl
        exact e1.trans (e2.trans e3)
      · unfold tR
        rw [goodL_iff.2 hn]
        exact h
    · right
      exact ⟨.exit 0, _, by simp, fun K' => by rw [roundR, decide_eq_false hi]; rfl, h⟩
theorem loopsR : LoopsOk Try.prog PL LR 20 1 (resMask Try.f6.results.toList) (loopsOf (resMask Try.f6.results.toList) (bodyOf Try.f6) [] (resMask Try.f6.results.toList)) :=
  loopsOk_ix 1 (by kernel_rfl) ⟨trivial, loopOk_here (n := 0) (by kernel_rfl) rfl okR⟩
theorem t_ModelReplies {R : Type} (z : N3) (N : Nat) (f : Nat → Ac) (K : TV → List (Option SB) → Option R) : runFnL Try.prog PL LR 20 Try.f6 (bodyOf Try.f6) [.agg (encN3 z), .c (.slc 0 0 N)] [.ro 10 (.gen N fun i => encAc (f i))] K =
    bif Nat.beq N N && chkRo encAc decAcD (fun i => encAc (f i)) then bif greatV N f then K (.s (bl true)) [some (.ro 10 (.gen N fun i => encAc (f i)))] else bif !(Fold.ffirstV z.a z.b).2 then K (.s (bl true)) [some (.ro 10 (.gen N fun i => encAc (f i)))] else
      bif Nat.beq N N && (decide ((N : Int) = N) && (chkRo Rt.encI Rt.decID (fun _ => [.int .i64 0]) && chkRo encAc decAcD (fun i => encAc (f i)))) then bif goodL (0, N, f, newM z.a z.b z.c, 0, fun _ => 0) then K (.s (bl true)) [some (.ro 10 (.gen N fun i => encAc (f i)))] else none else none else none := by kernel_rfl
theorem ModelReplies (z : N3) (N : Nat) (f : Nat → Ac) (_ : wfN3 z) (q : ∀ i, i < N → wfAc (f i)) (w : World) (v2 : Value) (hv2 : ∀ X ρ, (SV.agg (encN3 z)).R X ρ v2) (v : Value) (l : Sx.Loc) (hs : SlcR l 0 N v) (hb : BlkR (outs w) (rho1 l) l (.ro 10 (.gen N fun i => encAc (f i))) w) :
    Calls Try.prog 6 #[v2, v] w fun e w' => e = .returned (.bool true) ∧ RowKit.Below w.heap.size w w' := by
  refine law_callsL okPL mixed Try.func6 (c := bodyOf Try.f6) (by kernel_rfl) lawK_spec (fuel := 20) (args := [.agg (encN3 z), .c (.slc 0 0 N)]) (hp0 := [.ro 10 (.gen N fun i => encAc (f i))]) (X := fun _ _ => True) (ρ := rho1 l) (vs := [v2, v]) loopsR ?_ ⟨hv2 _ _, ⟨l, rfl, hs⟩, trivial⟩ (blk1 hb) rho1_out
  rw [t_ModelReplies, chkRo_true backAc]
  cases hgr : greatV N f with
  | true => simp; rfl
  | false =>
    obtain ⟨g1, g2⟩ := great_spec hgr
    cases hf : (Fold.ffirstV z.a z.b).2 with
    | false => simp; rfl
    | true =>
      have e0 : chkRo Rt.encI Rt.decID (fun _ => [.int .i64 0]) = true := chkRo_true Rt.backI (fun _ => 0)
      rw [goodL_iff.2 (LI.first hf g1 fun j hj => ⟨q j hj, g2 j hj⟩), e0]
      simp
      rfl
end Go.Proofs.Ytpebebhjmnmcbaa.Md

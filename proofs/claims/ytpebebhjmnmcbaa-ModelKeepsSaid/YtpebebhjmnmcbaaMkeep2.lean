/- The law ModelKeeps: true, and no memory that was there is written. Part 2. -/
import Derived.Test.YtpebebhjmnmcbaaMkeep
import Derived.Test.YtpebebhjmnmcbaaMswitch
set_option maxRecDepth 100000
set_option linter.unusedSimpArgs false
set_option linter.unusedVariables false
namespace Go.Proofs.Ytpebebhjmnmcbaa.Md
open Go Go.Proofs.Ytpebebhjmnmcbaa.Sx
@[reducible] def encG3 (i : Int) (N : Nat) (f : Nat → Ac) (m : Md) (N1 : Nat) (ge : Nat → List CV) : Sx.St := ⟨[(5, .s (.c (.ptr 1 0))), (44, .s (.c (.slc 0 0 N))), (45, .s (.c (.int .i64 (N : Int)))), (46, .s (.c (.int .i64 i)))], some (.ro 10 (.gen N fun i => encAc (f i))) :: hpL m N1 ge, 8, 141⟩
def encKp : LA → Sx.St
  | (i, N, f, m, N1, o) => encG3 i N f m N1 (fun j => Rt.encI (o j))
def decKp : Sx.St → Option LB
  | ⟨[(5, .s (.c (.ptr 1 0))), (44, .s (.c (.slc 0 0 N'))), (45, .s (.c (.int .i64 m'))), (46, .s (.c (.int .i64 i)))], some (.ro 10 (.gen N f)) :: hp, 8, 141⟩ => (decL hp).map fun p => (i, m', N, N', f, p.1, p.2.1, p.2.2)
  | _ => none
theorem decKp_spec (st : Sx.St) (p : LB) (h : decKp st = some p) (hc : chkL p = true) : st = encKp (normL p) := by
  unfold decKp at h
  split at h
  · obtain ⟨⟨m, N1, ge⟩, hm, h⟩ := Option.map_eq_some_iff.1 h
    cases h
    simp only [chkL, Bool.and_eq_true, decide_eq_true_eq] at hc
    obtain ⟨h1, h2, h3, h4⟩ := hc
    have h1 := Nat.eq_of_beq_eq_true h1
    subst h1 h2
    obtain rfl := decL_spec hm
    have g := chkRo_spec h3
    have g' := chkRo_spec h4
    unfold normL encKp encG3
    simp only
    rw [← g, ← g']
  · cases h
def noKp (N : Nat) (f : Nat → Ac) : Sx.St := ⟨[(4, .s (.c (.bool false)))], [some (.ro 10 (.gen N fun i => encAc (f i)))], 1, 141⟩
def finKp (N : Nat) (f : Nat → Ac) : Sx.St := ⟨[], [some (.ro 10 (.gen N fun i => encAc (f i)))], 1, 141⟩
noncomputable def tKp (p : LA) (R : Type) (K : Ex → Sx.St → Option R) : Option R := bif goodS p then K (.exit 0) (finKp p.2.1 p.2.2.1) else none
@[reducible] noncomputable def LKp : List (Nat × LoopSum) := [(0, formSumC decKp chkL normL tKp), (2, formSumC decKI chkKI normKI tKI)]
@[reducible] noncomputable def rpM (m : Md) : Rp := ⟨m.st, m.r.slot, m.r.gen, m.a.want, m.b.want, Rep.scount m.a, Rep.scount m.b, m.tick⟩
theorem roundKp {R : Type} (i : Int) (N : Nat) (f : Nat → Ac) (m : Md) (N1 : Nat) (o : Nat → Int) (K : Ex → Sx.St → Option R) : roundK Try.prog PL LKp 20 1 (resMask Try.f8.results.toList) (lpAt Try.f8 0) (encKp (i, N, f, m, N1, o)) K =
    bif decide (i < (N : Int)) then bif decide (0 ≤ i) && decide (i < (N : Int)) then bif decide (i.toNat < N) then bif Rt.chkB m.r N1 (fun j => Rt.encI (o j)) then bif chkRo Rt.encI Rt.decID (fun j => Rt.encI (o j)) && okDo m N1 (f i.toNat) then
      bif Rt.chkB (doV m N1 o (f i.toNat)).m.r (doV m N1 o (f i.toNat)).N (fun j => Rt.encI ((doV m N1 o (f i.toNat)).o j)) then
        bif Nat.beq N N && (decide ((N : Int) = N) && chkRo encAc decAcD (fun i => encAc (f i))) then
          bif goodK (0, rpM m, rpM (doV m N1 o (f i.toNat)).m, i, N, f, (doV m N1 o (f i.toNat)).m, (doV m N1 o (f i.toNat)).N, fun j => Rt.encI ((doV m N1 o (f i.toNat)).o j)) then
            K .normal (encKp (IntKind.i64.wrap (i + 1), N, f, (doV m N1 o (f i.toNat)).m, (doV m N1 o (f i.toNat)).N, (doV m N1 o (f i.toNat)).o))
          else none else none
      else none else none else none else none else none else K (.exit 0) (finKp N f) := by kernel_rfl
theorem keep_KO {m : Md} {N : Nat} (h : Inv m N) (hc : CI m) (o : Nat → Int) (a : Ac) (slot : Int) (hs : slot = 0 ∨ slot = 1) : KO (rpM m) (rpM (doV m N o a).m) slot := by
  have hd := inv_do h o a
  have hf := (Fold.right_rt h.right).flip
  have ht := h.tick
  by_cases hw : wantS (doV m N o a).m.st slot < wantS m.st slot
  · obtain ⟨h1, h2, h3, h4⟩ := keep_slot h hc o a slot hs hw
    refine .inr ⟨h1, h2, h3, ?_⟩
    show (aheadP m) ∨ m.st.phase = 7 ∨ m.st.phase = 5 ∧ (m.st.delay = 0 ∨ IntKind.i64.wrap (m.tick - m.st.flip) ≥ m.st.delay)
    rw [wi (x := m.tick - m.st.flip) (by omega)]
    exact h4
  · left
    unfold wantS at hw
    rcases hs with rfl | rfl
    · show (doV m N o a).m.a.want ≥ m.a.want
      rw [hd.a, h.a]
      simpa using hw
    · show (doV m N o a).m.b.want ≥ m.b.want
      rw [hd.b, h.b]
      simpa using hw
theorem keep_good {m : Md} {N1 : Nat} (h : Inv m N1) (hc : CI m) (o : Nat → Int) (a : Ac) (i : Int) (N : Nat) (f : Nat → Ac) (m' : Md) (N2 : Nat) (ge : Nat → List CV) : goodK (0, rpM m, rpM (doV m N1 o a).m, i, N, f, m', N2, ge) = true :=
  goodK_iff.2 ⟨by simp, fun s h1 h2 => keep_KO h hc o a s (by simp only at h1; omega)⟩
theorem okKp : LoopOk Try.prog PL LKp 20 1 (resMask Try.f8.results.toList) (lpAt Try.f8 0) (formSumC decKp chkL normL tKp) := by
  refine LoopOk.ofC decKp_spec (fun p => p.2.1 - p.1.toNat) ?_
  rintro ⟨i, N, f, m, N1, o⟩ R K x h
  unfold tKp at h
  cases hg : goodS (i, N, f, m, N1, o) with
  | false => rw [hg] at h; cases h
  | true =>
    rw [hg, cond_true] at h
    obtain ⟨hI, hc⟩ := goodS_iff.1 hg
    simp only at hc
    by_cases hi : i < (N : Int)
    · left
      obtain ⟨hok, hn⟩ := hI.next hi
      have h1 := hI.i
      have hN := hI.N
      simp only at h1 hN
      refine ⟨(i + 1, N, f, (doV m N1 o (f i.toNat)).m, (doV m N1 o (f i.toNat)).N, (doV m N1 o (f i.toNat)).o), by simp only; omega, fun K' => ?_, ?_⟩
      · rw [roundKp, decide_eq_true hi, decide_eq_true h1.1, decide_eq_true (show i.toNat < N by omega), chk_inv hI.inv, chkRo_true Rt.backI, hok, chk_inv hn.inv]
        rw [chkRo_true backAc, keep_good hI.inv hc o (f i.toNat), wi (x := i + 1) (by omega)]
        simp
      · unfold tKp
        rw [goodS_iff.2 ⟨hn, (do_sf hI.inv hc o (f i.toNat)).1⟩]
        exact h
    · right
      exact ⟨.exit 0, _, by simp, fun K' => by rw [roundKp, decide_eq_false hi]; rfl, h⟩
theorem loopsKp : LoopsOk Try.prog PL LKp 20 1 (resMask Try.f8.results.toList) (loopsOf (resMask Try.f8.results.toList) (bodyOf Try.f8) [] (resMask Try.f8.results.toList)) :=
  loopsOk_ix 2 (by kernel_rfl) ⟨⟨trivial, loopOk_here (n := 0) (by kernel_rfl) rfl okKp⟩, loopOk_here (n := 2) (by kernel_rfl) rfl (okKI _)⟩
theorem t_ModelKeeps {R : Type} (z : N3) (N : Nat) (f : Nat → Ac) (K : TV → List (Option SB) → Option R) : runFnL Try.prog PL LKp 20 Try.f8 (bodyOf Try.f8) [.agg (encN3 z), .c (.slc 0 0 N)] [.ro 10 (.gen N fun i => encAc (f i))] K =
    bif Nat.beq N N && chkRo encAc decAcD (fun i => encAc (f i)) then bif greatV N f then K (.s (bl true)) [some (.ro 10 (.gen N fun i => encAc (f i)))] else bif !(Fold.ffirstV z.a z.b).2 then K (.s (bl true)) [some (.ro 10 (.gen N fun i => encAc (f i)))] else
      bif Nat.beq N N && (decide ((N : Int) = N) && (chkRo Rt.encI Rt.decID (fun _ => [.int .i64 0]) && chkRo encAc decAcD (fun i => encAc (f i)))) then bif goodS (0, N, f, newM z.a z.b z.c, 0, fun _ => 0) then K (.s (bl true)) [some (.ro 10 (.gen N fun i => encAc (f i)))] else none else none else none := by kernel_rfl
theorem ModelKeeps (z : N3) (N : Nat) (f : Nat → Ac) (_ : wfN3 z) (q : ∀ i, i < N → wfAc (f i)) (w : World) (v2 : Value) (hv2 : ∀ X ρ, (SV.agg (encN3 z)).R X ρ v2) (v : Value) (l : Sx.Loc) (hs : SlcR l 0 N v) (hb : BlkR (outs w) (rho1 l) l (.ro 10 (.gen N fun i => encAc (f i))) w) :
    Calls Try.prog 8 #[v2, v] w fun e w' => e = .returned (.bool true) ∧ RowKit.Below w.heap.size w w' := by
  refine law_callsL okPL mixed Try.func8 (c := bodyOf Try.f8) (by kernel_rfl) lawK_spec (fuel := 20) (args := [.agg (encN3 z), .c (.slc 0 0 N)]) (hp0 := [.ro 10 (.gen N fun i => encAc (f i))]) (X := fun _ _ => True) (ρ := rho1 l) (vs := [v2, v]) loopsKp ?_ ⟨hv2 _ _, ⟨l, rfl, hs⟩, trivial⟩ (blk1 hb) rho1_out
  rw [t_ModelKeeps, chkRo_true backAc]
  cases hgr : greatV N f with
  | true => simp; rfl
  | false =>
    obtain ⟨g1, g2⟩ := great_spec hgr
    cases hf : (Fold.ffirstV z.a z.b).2 with
    | false => simp; rfl
    | true =>
      have e0 : chkRo Rt.encI Rt.decID (fun _ => [.int .i64 0]) = true := chkRo_true Rt.backI (fun _ => 0)
      rw [goodS_iff.2 ⟨LI.first hf g1 fun j hj => ⟨q j hj, g2 j hj⟩, ci_new⟩, e0]
      simp
      rfl
end Go.Proofs.Ytpebebhjmnmcbaa.Md

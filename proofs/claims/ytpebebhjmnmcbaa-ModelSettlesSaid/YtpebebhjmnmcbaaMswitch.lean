/- The law ModelSwitches: true, and no memory that was there is written. -/
import Derived.Test.YtpebebhjmnmcbaaMll
import Derived.Test.YtpebebhjmnmcbaaMdCell2
set_option maxRecDepth 100000
set_option linter.unusedSimpArgs false
set_option linter.unusedVariables false
namespace Go.Proofs.Ytpebebhjmnmcbaa.Md
open Go Go.Proofs.Ytpebebhjmnmcbaa.Sx
@[reducible] def encG2 (i : Int) (N : Nat) (f : Nat → Ac) (m : Md) (N1 : Nat) (ge : Nat → List CV) : Sx.St := ⟨[(5, .s (.c (.ptr 1 0))), (41, .s (.c (.slc 0 0 N))), (42, .s (.c (.int .i64 (N : Int)))), (43, .s (.c (.int .i64 i)))], some (.ro 10 (.gen N fun i => encAc (f i))) :: hpL m N1 ge, 8, 128⟩
def encSw : LA → Sx.St
  | (i, N, f, m, N1, o) => encG2 i N f m N1 (fun j => Rt.encI (o j))
def decSw : Sx.St → Option LB
  | ⟨[(5, .s (.c (.ptr 1 0))), (41, .s (.c (.slc 0 0 N'))), (42, .s (.c (.int .i64 m'))), (43, .s (.c (.int .i64 i)))], some (.ro 10 (.gen N f)) :: hp, 8, 128⟩ => (decL hp).map fun p => (i, m', N, N', f, p.1, p.2.1, p.2.2)
  | _ => none
theorem decSw_spec (st : Sx.St) (p : LB) (h : decSw st = some p) (hc : chkL p = true) : st = encSw (normL p) := by
  unfold decSw at h
  split at h
  · obtain ⟨⟨m, N1, ge⟩, hm, h⟩ := Option.map_eq_some_iff.1 h
    cases h
    simp only [chkL, Bool.and_eq_true, decide_eq_true_eq] at hc
    obtain ⟨h1, h2, h3, h4⟩ := hc
    have h1 := Nat.eq_of_beq_eq_true h1
    subst h1 h2
    obtain rfl := decL_spec hm
    have g := chkRo_spec h3
    have g' := chkRo_spec h4
    unfold normL encSw encG2
    simp only
    rw [← g, ← g']
  · cases h
def noSw (N : Nat) (f : Nat → Ac) : Sx.St := ⟨[(4, .s (.c (.bool false)))], [some (.ro 10 (.gen N fun i => encAc (f i)))], 1, 128⟩
def finSw (N : Nat) (f : Nat → Ac) : Sx.St := ⟨[], [some (.ro 10 (.gen N fun i => encAc (f i)))], 1, 128⟩
structure SI (p : LA) : Prop where
  li : LI p
  ci : CI p.2.2.2.1
noncomputable def goodS (p : LA) : Bool := @decide (SI p) (Classical.propDecidable _)
theorem goodS_iff {p : LA} : goodS p = true ↔ SI p := Iff.of_eq (@decide_eq_true_eq _ (Classical.propDecidable _))
noncomputable def tSw (p : LA) (R : Type) (K : Ex → Sx.St → Option R) : Option R := bif goodS p then K (.exit 0) (finSw p.2.1 p.2.2.1) else none
@[reducible] noncomputable def LSw : List (Nat × LoopSum) := [(0, formSumC decSw chkL normL tSw)]
@[reducible] noncomputable def s2 {R : Type} (d : DR) (i : Int) (N : Nat) (f : Nat → Ac) (K : Ex → Sx.St → Option R) : Option R := bif decide (d.m.r.gen > d.m.st.gen) then K .ret (noSw N f) else K .normal (encG2 (IntKind.i64.wrap (i + 1)) N f d.m d.N (fun j => Rt.encI (d.o j)))
@[reducible] noncomputable def s1 {R : Type} (d : DR) (i : Int) (N : Nat) (f : Nat → Ac) (K : Ex → Sx.St → Option R) : Option R := bif d.m.r.slot != d.m.st.active then bif d.m.st.switch != 2 then K .ret (noSw N f) else s2 d i N f K else s2 d i N f K
@[reducible] noncomputable def s0 {R : Type} (d : DR) (a : Ac) (m : Md) (i : Int) (N : Nat) (f : Nat → Ac) (K : Ex → Sx.St → Option R) : Option R := bif !(d.m.r.slot == m.r.slot && (d.m.r.gen == m.r.gen && true)) then bif a.kind != 2 then K .ret (noSw N f) else bif d.m.r.slot != IntKind.i64.wrap (1 - m.st.active) then K .ret (noSw N f) else bif decide (d.m.r.gen ≤ m.r.gen) then K .ret (noSw N f) else
  bif decide (0 ≤ IntKind.i64.wrap (1 - m.st.active)) && decide (IntKind.i64.wrap (1 - m.st.active) < 2) then bif !selB (IntKind.i64.wrap (1 - m.st.active)) 0 [m.st.passed0, m.st.passed1] then K .ret (noSw N f) else bif m.st.switch == 0 then bif !fullO m then K .ret (noSw N f) else s1 d i N f K else s1 d i N f K else none
  else s1 d i N f K
theorem roundSw {R : Type} (L : List (Nat × LoopSum)) (i : Int) (N : Nat) (f : Nat → Ac) (m : Md) (N1 : Nat) (o : Nat → Int) (K : Ex → Sx.St → Option R) : roundK Try.prog PL L 20 1 (resMask Try.f7.results.toList) (lpAt Try.f7 0) (encSw (i, N, f, m, N1, o)) K =
    bif decide (i < (N : Int)) then bif decide (0 ≤ i) && decide (i < (N : Int)) then bif decide (i.toNat < N) then bif Rt.chkB m.r N1 (fun j => Rt.encI (o j)) then bif chkRo Rt.encI Rt.decID (fun j => Rt.encI (o j)) && okDo m N1 (f i.toNat) then
      bif Rt.chkB (doV m N1 o (f i.toNat)).m.r (doV m N1 o (f i.toNat)).N (fun j => Rt.encI ((doV m N1 o (f i.toNat)).o j)) then s0 (doV m N1 o (f i.toNat)) (f i.toNat) m i N f K
      else none else none else none else none else none else K (.exit 0) (finSw N f) := by kernel_rfl
theorem do_sf {m : Md} {N : Nat} (h : Inv m N) (hc : CI m) (o : Nat → Int) (a : Ac) : CI (doV m N o a).m ∧ (¬ ((doV m N o a).m.r.slot = m.r.slot ∧ (doV m N o a).m.r.gen = m.r.gen) → a.kind = 2 ∧ (doV m N o a).m.r.slot = 1 - m.st.active ∧ m.r.gen < (doV m N o a).m.r.gen ∧ (m.st.phase = 3 ∨ m.st.phase = 6) ∧ (m.st.switch = 0 → fullO m = true)) := by
  unfold doV
  cases k1 : a.kind == 1 with
  | true => exact ⟨ci_op h hc _, fun hn => by rw [cond_true] at hn; exact absurd (by rw [(op_same3 h (askA a)).2]; exact ⟨rfl, rfl⟩) hn⟩
  | false =>
    rw [cond_false]
    cases k2 : a.kind == 2 with
    | true =>
      obtain ⟨g1, g2⟩ := sf_step h hc (m.r.n + a.outL.length) (catO m.r.i0 m.r.n o a.outL)
      exact ⟨g1, fun hn => ⟨by simpa using k2, g2 hn⟩⟩
    | false =>
      rw [cond_false]
      cases k3 : a.kind == 3 with
      | true => exact ⟨⟨hc.slot, hc.slot2, hc.gen, hc.gen1⟩, fun hn => absurd ⟨rfl, rfl⟩ hn⟩
      | false =>
        rw [cond_false]
        cases k4 : a.kind == 4 with
        | true => exact ⟨⟨hc.slot, hc.slot2, hc.gen, hc.gen1⟩, fun hn => absurd ⟨rfl, rfl⟩ hn⟩
        | false => exact ⟨hc, fun hn => absurd ⟨rfl, rfl⟩ hn⟩
/-- Behind the gate ahead the other slot has passed. -/
theorem passed_o {s : Fold.St} (h : Fold.rightV s = true) (hp : s.phase = 3 ∨ s.phase = 6) : selB (1 - s.active) 0 [s.passed0, s.passed1] = true := by
  have ha := Fold.right_act h
  obtain ⟨phase, active, rev0, rev1, want0, want1, passed0, passed1, delay, gen, switch, flip⟩ := s
  simp only at hp
  rcases Fold.act_iff.1 ha with ha | ha <;> (simp only at ha; subst ha)
  · rw [Fold.right0] at h
    obtain ⟨_, _, _, _, _, _, _, _, _, _, h11⟩ := h
    cases passed1
    · exfalso
      rcases h11 with h11 | ⟨_, _, _, h12⟩
      · omega
      · have := h12.1 rfl
        omega
    · rfl
  · rw [Fold.right1] at h
    obtain ⟨_, _, _, _, _, _, _, _, _, _, h11⟩ := h
    cases passed0
    · exfalso
      rcases h11 with h11 | ⟨_, _, _, h12⟩
      · omega
      · have := h12.1 rfl
        omega
    · rfl
theorem s0_eq {R : Type} {m : Md} {N1 : Nat} (h : Inv m N1) (hc : CI m) (o : Nat → Int) (a : Ac) (i : Int) (hi : 0 ≤ i ∧ i ≤ 1000) (N : Nat) (f : Nat → Ac) (K : Ex → Sx.St → Option R) :
    s0 (doV m N1 o a) a m i N f K = K .normal (encSw (i + 1, N, f, (doV m N1 o a).m, (doV m N1 o a).N, (doV m N1 o a).o)) := by
  obtain ⟨g1, g2⟩ := do_sf h hc o a
  obtain ⟨_, _, _, h4⟩ := right_sw h.right
  generalize doV m N1 o a = d at g1 g2 ⊢
  have e2 : s2 d i N f K = K .normal (encSw (i + 1, N, f, d.m, d.N, d.o)) := by
    unfold s2
    rw [decide_eq_false (show ¬ d.m.r.gen > d.m.st.gen by have := g1.gen; omega), wi (x := i + 1) (by omega)]
    rfl
  have e1 : s1 d i N f K = s2 d i N f K := by
    unfold s1
    by_cases c : d.m.r.slot = d.m.st.active
    · rw [show (d.m.r.slot != d.m.st.active) = false by simp [c]]; rfl
    · have : d.m.st.switch = 2 := Classical.byContradiction fun hz => c (g1.slot hz)
      rw [show (d.m.r.slot != d.m.st.active) = true by simpa using c, show (d.m.st.switch != 2) = false by simp [this]]; rfl
  rw [← e2, ← e1]
  unfold s0
  rw [wi (x := 1 - m.st.active) (by omega)]
  by_cases c : d.m.r.slot = m.r.slot ∧ d.m.r.gen = m.r.gen
  · rw [show (!(d.m.r.slot == m.r.slot && (d.m.r.gen == m.r.gen && true))) = false by simp [c.1, c.2]]; rfl
  · obtain ⟨a1, a2, a3, a4, a5⟩ := g2 c
    have b0 : (!(d.m.r.slot == m.r.slot && (d.m.r.gen == m.r.gen && true))) = true := by
      simp only [Bool.and_true, Bool.not_eq_true', Bool.and_eq_false_iff, beq_eq_false_iff_ne]
      by_cases x : d.m.r.slot = m.r.slot
      · exact .inr fun y => c ⟨x, y⟩
      · exact .inl x
    rw [b0, show (a.kind != 2) = false by simp [a1], show (d.m.r.slot != 1 - m.st.active) = false by simp [a2], decide_eq_false (show ¬ d.m.r.gen ≤ m.r.gen by omega), decide_eq_true (show 0 ≤ 1 - m.st.active by omega), decide_eq_true (show 1 - m.st.active < 2 by omega), passed_o h.right a4]
    by_cases z : m.st.switch = 0
    · rw [show (m.st.switch == 0) = true by simp [z], a5 z]; rfl
    · rw [show (m.st.switch == 0) = false by simp [z]]; rfl
theorem okSw : LoopOk Try.prog PL LSw 20 1 (resMask Try.f7.results.toList) (lpAt Try.f7 0) (formSumC decSw chkL normL tSw) := by
  refine LoopOk.ofC decSw_spec (fun p => p.2.1 - p.1.toNat) ?_
  rintro ⟨i, N, f, m, N1, o⟩ R K x h
  unfold tSw at h
  cases hg : goodS (i, N, f, m, N1, o) with
  | false => rw [hg] at h; cases h
  | true =>
    rw [hg, cond_true] at h
    obtain ⟨hI, hc⟩ := goodS_iff.1 hg
    simp only at hc
    by_cases hi : i < (N : Int)
    · left
      obtain ⟨hok, hn⟩ := hI.next hi
      have h1 := hI.i
      have hN := hI.N
      simp only at h1 hN
      refine ⟨(i + 1, N, f, (doV m N1 o (f i.toNat)).m, (doV m N1 o (f i.toNat)).N, (doV m N1 o (f i.toNat)).o), by simp only; omega, fun K' => ?_, ?_⟩
      · rw [roundSw, decide_eq_true hi, decide_eq_true h1.1, decide_eq_true (show i.toNat < N by omega), chk_inv hI.inv, chkRo_true Rt.backI, hok, chk_inv hn.inv]
        simp only [Bool.and_self, cond_true]
        exact s0_eq hI.inv hc o (f i.toNat) i (by omega) N f K'
      · unfold tSw
        rw [goodS_iff.2 ⟨hn, (do_sf hI.inv hc o (f i.toNat)).1⟩]
        exact h
    · right
      exact ⟨.exit 0, _, by simp, fun K' => by rw [roundSw, decide_eq_false hi]; rfl, h⟩
theorem ci_new {rev n tries : Int} : CI (newM rev n tries) := by
  have hs : (Fold.ffirstV rev n).1.active = 0 ∧ (Fold.ffirstV rev n).1.gen = 0 ∧ (Fold.ffirstV rev n).1.switch = 0 := by
    unfold Fold.ffirstV
    cases !Fold.rightV (Fold.St.mk 0 0 rev 0 n 0 true false 0 0 0 0) <;> exact ⟨rfl, rfl, rfl⟩
  refine ⟨fun _ => hs.1.symm, .inl hs.1.symm, ?_, ?_⟩
  · show (0 : Int) ≤ (Fold.ffirstV rev n).1.gen; omega
  · intro hz
    have hz : (Fold.ffirstV rev n).1.switch = 1 := hz
    omega
theorem loopsSw : LoopsOk Try.prog PL LSw 20 1 (resMask Try.f7.results.toList) (loopsOf (resMask Try.f7.results.toList) (bodyOf Try.f7) [] (resMask Try.f7.results.toList)) :=
  loopsOk_ix 1 (by kernel_rfl) ⟨trivial, loopOk_here (n := 0) (by kernel_rfl) rfl okSw⟩
theorem t_ModelSwitches {R : Type} (z : N3) (N : Nat) (f : Nat → Ac) (K : TV → List (Option SB) → Option R) : runFnL Try.prog PL LSw 20 Try.f7 (bodyOf Try.f7) [.agg (encN3 z), .c (.slc 0 0 N)] [.ro 10 (.gen N fun i => encAc (f i))] K =
    bif Nat.beq N N && chkRo encAc decAcD (fun i => encAc (f i)) then bif greatV N f then K (.s (bl true)) [some (.ro 10 (.gen N fun i => encAc (f i)))] else bif !(Fold.ffirstV z.a z.b).2 then K (.s (bl true)) [some (.ro 10 (.gen N fun i => encAc (f i)))] else
      bif Nat.beq N N && (decide ((N : Int) = N) && (chkRo Rt.encI Rt.decID (fun _ => [.int .i64 0]) && chkRo encAc decAcD (fun i => encAc (f i)))) then bif goodS (0, N, f, newM z.a z.b z.c, 0, fun _ => 0) then K (.s (bl true)) [some (.ro 10 (.gen N fun i => encAc (f i)))] else none else none else none := by kernel_rfl
theorem ModelSwitches (z : N3) (N : Nat) (f : Nat → Ac) (_ : wfN3 z) (q : ∀ i, i < N → wfAc (f i)) (w : World) (v2 : Value) (hv2 : ∀ X ρ, (SV.agg (encN3 z)).R X ρ v2) (v : Value) (l : Sx.Loc) (hs : SlcR l 0 N v) (hb : BlkR (outs w) (rho1 l) l (.ro 10 (.gen N fun i => encAc (f i))) w) :
    Calls Try.prog 7 #[v2, v] w fun e w' => e = .returned (.bool true) ∧ RowKit.Below w.heap.size w w' := by
  refine law_callsL okPL mixed Try.func7 (c := bodyOf Try.f7) (by kernel_rfl) lawK_spec (fuel := 20) (args := [.agg (encN3 z), .c (.slc 0 0 N)]) (hp0 := [.ro 10 (.gen N fun i => encAc (f i))]) (X := fun _ _ => True) (ρ := rho1 l) (vs := [v2, v]) loopsSw ?_ ⟨hv2 _ _, ⟨l, rfl, hs⟩, trivial⟩ (blk1 hb) rho1_out
  rw [t_ModelSwitches, chkRo_true backAc]
  cases hgr : greatV N f with
  | true => simp; rfl
  | false =>
    obtain ⟨g1, g2⟩ := great_spec hgr
    cases hf : (Fold.ffirstV z.a z.b).2 with
    | false => simp; rfl
    | true =>
      have e0 : chkRo Rt.encI Rt.decID (fun _ => [.int .i64 0]) = true := chkRo_true Rt.backI (fun _ => 0)
      rw [goodS_iff.2 ⟨LI.first hf g1 fun j hj => ⟨q j hj, g2 j hj⟩, ci_new⟩, e0]
      simp
      rfl
end Go.Proofs.Ytpebebhjmnmcbaa.Md

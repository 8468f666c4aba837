/- The law ModelTicks: true, and no memory that was there is written. Part 2. -/
import Derived.Test.YtpebebhjmnmcbaaMticks
set_option maxRecDepth 100000
set_option linter.unusedSimpArgs false
set_option linter.unusedVariables false
namespace Go.Proofs.Ytpebebhjmnmcbaa.Md
open Go Go.Proofs.Ytpebebhjmnmcbaa.Sx
theorem okT1 : LoopOk Try.prog PL LT 20 2 (resMask Try.f4.results.toList) (lpAt Try.f4 0) (formSumC decT1 chkT1 normT1 tT1) := by
  refine LoopOk.ofC decT1_spec (fun p => p.2.2.2.1 - p.2.2.1.toNat) ?_
  rintro ⟨M, g, i, N, f, m, N1, o⟩ R K x h
  unfold tT1 at h
  simp only at h
  cases hg : goodL (i, N, f, m, N1, o) with
  | false => rw [hg] at h; cases h
  | true =>
    rw [hg, cond_true] at h
    have hI := goodL_iff.1 hg
    by_cases hi : i < (N : Int)
    · left
      obtain ⟨hok, hn⟩ := hI.next hi
      have h1 := hI.i
      have hN := hI.N
      simp only at h1 hN
      refine ⟨(M, g, i + 1, N, f, (doV m N1 o (f i.toNat)).m, (doV m N1 o (f i.toNat)).N, (doV m N1 o (f i.toNat)).o), by simp only; omega, fun K' => ?_, ?_⟩
      · rw [roundT1, decide_eq_true hi, decide_eq_true h1.1, decide_eq_true (show i.toNat < N by omega), chkRo_true Rt.backI, hok, wi (x := i + 1) (by omega)]
        rfl
      · unfold tT1
        simp only
        rw [goodL_iff.2 hn, cond_true]
        rw [show N - i.toNat = (N - (i + 1).toNat) + 1 by omega] at h
        unfold doAll at h
        rw [show i.toNat + 1 = (i + 1).toNat by omega] at h
        obtain ⟨e1, e2, e3⟩ := doAll_k f (N - (i + 1).toNat) (i + 1).toNat 0 (doV m N1 o (f i.toNat)).k (doV m N1 o (f i.toNat)).m (doV m N1 o (f i.toNat)).N (doV m N1 o (f i.toNat)).o
        rw [fin_k _ _ e1 e2 e3]
        exact h
    · right
      rw [show N - i.toNat = 0 by omega] at h
      exact ⟨.exit 0, _, by simp, fun K' => by rw [roundT1, decide_eq_false hi]; rfl, h⟩
theorem tick_min {m : Md} {N : Nat} (h : Inv m N) (n : Int) : (tickM m n).tick = min (m.tick + max n 0) 1073741824 := add_tick h.tick
theorem okT2 : LoopOk Try.prog PL LT 20 2 (resMask Try.f4.results.toList) (lpAt Try.f4 1) (formSumC decT2 chkT2 normT2 tT2) := by
  refine LoopOk.ofC decT2_spec (fun p => p.2.2.2.1 - p.2.2.1.toNat) ?_
  rintro ⟨N, f, i, M, g, m, N1, o⟩ R K x h
  unfold tT2 at h
  simp only at h
  cases hg : goodT (N, f, i, M, g, m, N1, o) with
  | false => rw [hg] at h; cases h
  | true =>
    rw [hg, cond_true] at h
    obtain ⟨h1, hM, hI⟩ := goodT_iff.1 hg
    simp only at h1 hM hI
    by_cases hi : i < (M : Int)
    · left
      have hn : Inv (tickM m (g i.toNat)) N1 := inv_tick hI _
      refine ⟨(N, f, i + 1, M, g, tickM m (g i.toNat), N1, o), by simp only; omega, fun K' => ?_, ?_⟩
      · have ht := hI.tick
        have e := tick_min hI (g i.toNat)
        have b1 : decide ((tickM m (g i.toNat)).tick < m.tick) = false := by rw [e, decide_eq_false_iff_not]; omega
        have b2 : decide ((tickM m (g i.toNat)).tick > 1073741824) = false := by rw [e, decide_eq_false_iff_not]; omega
        have b3 : (IntKind.i64.wrap ((tickM m (g i.toNat)).tick - m.tick) != foldMin (foldMax (g i.toNat) [0]) [IntKind.i64.wrap (1073741824 - m.tick)]) = false := by
          have e1 : foldMax (g i.toNat) [0] = max (g i.toNat) 0 := by unfold foldMax foldMax; split <;> omega
          have e2 : ∀ a b : Int, foldMin a [b] = min a b := by intro a b; unfold foldMin foldMin; split <;> omega
          rw [e1, e2, wi (x := 1073741824 - m.tick) (by omega), e, wi (by omega)]
          have : min (m.tick + max (g i.toNat) 0) 1073741824 - m.tick = min (max (g i.toNat) 0) (1073741824 - m.tick) := by omega
          simp [this]
        have b4 : eqR (back (tickM m (g i.toNat)) m.tick) m = true := eqR_self m
        rw [roundT2, decide_eq_true hi, decide_eq_true h1.1, decide_eq_true (show i.toNat < M by omega), chk_inv hI, chk_inv hn, b1, b2, b3, b4, wi (x := i + 1) (by omega)]
        rfl
      · unfold tT2
        simp only
        rw [goodT_iff.2 ⟨by simp only; omega, hM, hn⟩, cond_true]
        rw [show M - i.toNat = (M - (i + 1).toNat) + 1 by omega] at h
        unfold tickAll at h
        rw [show i.toNat + 1 = (i + 1).toNat by omega] at h
        exact h
    · right
      rw [show M - i.toNat = 0 by omega] at h
      exact ⟨.exit 2, _, by simp, fun K' => by rw [roundT2, decide_eq_false hi]; rfl, h⟩
theorem loopsT : LoopsOk Try.prog PL LT 20 2 (resMask Try.f4.results.toList) (loopsOf (resMask Try.f4.results.toList) (bodyOf Try.f4) [] (resMask Try.f4.results.toList)) :=
  loopsOk_ix 2 (by kernel_rfl) ⟨⟨trivial, loopOk_here (n := 0) (by kernel_rfl) rfl okT1⟩, loopOk_here (n := 2) (by kernel_rfl) rfl okT2⟩
@[reducible] def roT (N : Nat) (f : Nat → Ac) (M : Nat) (g : Nat → Int) : List (Option SB) := rowsT N f M g
@[reducible] noncomputable def dT (N : Nat) (f : Nat → Ac) : DR := doAll f (N - (0 : Int).toNat) (0 : Int).toNat ⟨0, newM 1 2 3, 0, fun _ => 0⟩
@[reducible] noncomputable def mT (N : Nat) (f : Nat → Ac) (M : Nat) (g : Nat → Int) : Md := tickAll g (M - (0 : Int).toNat) (0 : Int).toNat (dT N f).m
@[reducible] def askT : Fold.Ask := ⟨1, 9, 1, 0, false⟩
theorem t_ModelTicks {R : Type} (N : Nat) (f : Nat → Ac) (M : Nat) (g : Nat → Int) (K : TV → List (Option SB) → Option R) : runFnL Try.prog PL LT 20 Try.f4 (bodyOf Try.f4) [.c (.slc 0 0 N), .c (.slc 1 0 M)] [.ro 10 (.gen N fun i => encAc (f i)), .ro 1 (.gen M fun i => Rt.encI (g i))] K =
    bif Nat.beq N N && chkRo encAc decAcD (fun i => encAc (f i)) then bif greatV N f then K (.s (bl true)) (roT N f M g) else bif decide ((M : Int) > 100) then K (.s (bl true)) (roT N f M g) else
      bif Nat.beq M M && (chkRo Rt.encI Rt.decID (fun i => Rt.encI (g i)) && (Nat.beq N N && (decide ((N : Int) = N) && (chkRo Rt.encI Rt.decID (fun _ => [.int .i64 0]) && chkRo encAc decAcD (fun i => encAc (f i)))))) then
        bif goodL (0, N, f, newM 1 2 3, 0, fun _ => 0) then
          bif Nat.beq M M && (decide ((M : Int) = M) && (chkRo Rt.encI Rt.decID (fun i => Rt.encI (g i)) && (chkRo Rt.encI Rt.decID (fun j => Rt.encI ((dT N f).o j)) && chkRo encAc decAcD (fun i => encAc (f i))))) then
            bif goodT (N, f, 0, M, g, (dT N f).m, (dT N f).N, (dT N f).o) then
              bif Fold.act (mT N f M g).st then bif Rt.chkB (opV (mT N f M g) askT).2.r (dT N f).N (fun j => Rt.encI ((dT N f).o j)) then
                bif decide ((opV (mT N f M g) askT).2.tick < 1073741824) then K (.s (bl true)) (roT N f M g) else K (.s (bl ((opV (mT N f M g) askT).1 == 9))) (roT N f M g)
              else none else none else none else none else none else none else none := by kernel_rfl
theorem inv_all (f : Nat → Ac) : ∀ (k i : Nat) (d : DR), Inv d.m d.N → (d.N + 50 * k ≤ 100000) → (∀ j, i ≤ j → j < i + k → (f j).outL.length ≤ 50) → Inv (doAll f k i d).m (doAll f k i d).N
  | 0, _, _, h, _, _ => h
  | k + 1, i, d, h, hb, hf => by
    unfold doAll
    have hn := h.n
    have := do_N d.m d.N d.o (f i) (by omega)
    have := hf i (by omega) (by omega)
    exact inv_all f k (i + 1) _ (inv_do h _ _) (by omega) fun j h1 h2 => hf j (by omega) (by omega)
theorem inv_ticks (g : Nat → Int) {N : Nat} : ∀ (k i : Nat) (m : Md), Inv m N → Inv (tickAll g k i m) N
  | 0, _, _, h => h
  | k + 1, i, m, h => inv_ticks g k (i + 1) _ (inv_tick h _)
theorem op_over {m : Md} {N : Nat} (h : Inv m N) (ht : ¬ (opV m askT).2.tick < 1073741824) : ((opV m askT).1 == 9) = true := by
  have hm : (opV m askT).2.tick = m.tick := by
    unfold opV
    cases Fold.checkV m.st askT m.tick != 0 <;> rfl
  rw [hm] at ht
  have hc : Fold.checkV m.st askT m.tick = 9 := by
    rw [Fold.check_eq h.act]
    simp
    omega
  unfold opV
  rw [hc]
  rfl
theorem first123 : (Fold.ffirstV 1 2).2 = true := by kernel_rfl
def rho2 (l l2 : Sx.Loc) : Rho := fun b => if b = 0 then some l else if b = 1 then some l2 else none
theorem blk2 {w : World} {l l2 : Sx.Loc} {es es2 : Nat} {c c2 : Content} (hb : BlkR (outs w) (rho1 l) l (.ro es c) w) (hb2 : BlkR (outs w) (rho1 l2) l2 (.ro es2 c2) w) (b : Nat) (sb : SB) (h : ([SB.ro es c, SB.ro es2 c2].map some)[b]? = some (some sb)) :
    sb.own = false ∧ ∃ l', rho2 l l2 b = some l' ∧ BlkR (outs w) (rho2 l l2) l' sb w := by
  match b, h with
  | 0, h =>
    have : SB.ro es c = sb := by simpa using h
    subst this
    exact ⟨rfl, l, rfl, hb⟩
  | 1, h =>
    have : SB.ro es2 c2 = sb := by simpa using h
    subst this
    exact ⟨rfl, l2, rfl, hb2⟩
  | b + 2, h => simp at h
theorem rho2_out {l l2 : Sx.Loc} (b : Nat) (h : 2 ≤ b) : rho2 l l2 b = none := by
  unfold rho2; rw [if_neg (by omega), if_neg (by omega)]
theorem ModelTicks (N : Nat) (f : Nat → Ac) (M : Nat) (g : Nat → Int) (q : ∀ i, i < N → wfAc (f i)) (_ : ∀ i, i < M → wfI (g i)) (w : World)
    (v : Value) (l : Sx.Loc) (hs : SlcR l 0 N v) (hb : BlkR (outs w) (rho1 l) l (.ro 10 (.gen N fun i => encAc (f i))) w)
    (v2 : Value) (l2 : Sx.Loc) (hs2 : SlcR l2 0 M v2) (hb2 : BlkR (outs w) (rho1 l2) l2 (.ro 1 (.gen M fun i => Rt.encI (g i))) w) :
    Calls Try.prog 4 #[v, v2] w fun e w' => e = .returned (.bool true) ∧ RowKit.Below w.heap.size w w' := by
  refine law_callsL okPL mixed Try.func4 (c := bodyOf Try.f4) (by kernel_rfl) lawK_spec (fuel := 20) (args := [.c (.slc 0 0 N), .c (.slc 1 0 M)]) (hp0 := [.ro 10 (.gen N fun i => encAc (f i)), .ro 1 (.gen M fun i => Rt.encI (g i))]) (X := fun _ _ => True) (ρ := rho2 l l2) (vs := [v, v2]) loopsT ?_ ⟨⟨l, rfl, hs⟩, ⟨l2, rfl, hs2⟩, trivial⟩ (blk2 hb hb2) rho2_out
  rw [t_ModelTicks, chkRo_true backAc]
  cases hgr : greatV N f with
  | true => simp; rfl
  | false =>
    obtain ⟨g1, g2⟩ := great_spec hgr
    by_cases hM : (M : Int) > 100
    · rw [decide_eq_true hM]; simp; rfl
    · rw [decide_eq_false hM]
      have hL : LI (0, N, f, newM 1 2 3, 0, fun _ => 0) := LI.first first123 g1 fun j hj => ⟨q j hj, g2 j hj⟩
      have e0 : chkRo Rt.encI Rt.decID (fun _ => [.int .i64 0]) = true := chkRo_true Rt.backI (fun _ => 0)
      have i1 : Inv (dT N f).m (dT N f).N := inv_all f _ _ _ hL.inv (by show 0 + 50 * (N - (0 : Int).toNat) ≤ 100000; omega) fun j h1 h2 => g2 j (by omega)
      have i2 : Inv (mT N f M g) (dT N f).N := inv_ticks g _ _ _ i1
      have i3 := inv_op i2 askT
      rw [goodL_iff.2 hL, e0, goodT_iff.2 ⟨by simp, by simp only; omega, i1⟩, i2.act, chk_inv i3, chkRo_true Rt.backI, chkRo_true Rt.backI]
      by_cases ht : (opV (mT N f M g) askT).2.tick < 1073741824
      · rw [decide_eq_true ht]; simp; rfl
      · rw [decide_eq_false ht, op_over i2 ht]; simp; rfl
end Go.Proofs.Ytpebebhjmnmcbaa.Md

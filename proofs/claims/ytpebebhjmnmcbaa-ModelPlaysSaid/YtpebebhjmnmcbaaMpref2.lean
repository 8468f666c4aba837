/- What the reference's model comes to, part 2: a step. No condition. -/
import Derived.Test.YtpebebhjmnmcbaaMpref1
set_option maxRecDepth 100000
set_option linter.unusedSimpArgs false
set_option linter.unusedVariables false
namespace Go.Proofs.Ytpebebhjmnmcbaa.Md
open Go Go.Proofs.Ytpebebhjmnmcbaa.Sx
/-- The reference's model, and its outcomes. -/
structure MO where
  m : Mr
  N : Nat
  o : Nat → Int
@[reducible] noncomputable def nxR (m : Mr) : Int × Fold.Rc := Fold.rnextV m.st ⟨(m.na : Int), (m.nb : Int), Rep.rcnt m.na (Rep.fixB m.na m.ga), Rep.rcnt m.nb (Rep.fixB m.nb m.gb)⟩ m.tick
@[reducible] noncomputable def toR (m : Mr) : Rt.Cell := ⟨IntKind.i64.wrap (1 - m.st.active), m.st.gen⟩
@[reducible] def wR (m : Mr) (r : Rt.Rm) : Mr := ⟨m.st, m.na, m.ga, m.nb, m.gb, r, m.tries, m.tick⟩
noncomputable def msR (x : MO) : Rt.MS := Rt.msetV x.m.r x.N x.o (toR x.m) x.m.tries
noncomputable def rrouteV (x : MO) : Int × MO := bif (msR x).e == 0 then ((msR x).e, ⟨rputM (wR x.m (msR x).r) (recA x.m.st.gen x.m.tick), (msR x).M, (msR x).o⟩) else ((msR x).e, ⟨wR x.m (msR x).r, (msR x).M, (msR x).o⟩)
@[reducible] noncomputable def putR (x : MO) : MO := ⟨rputM x.m (nxR x.m).2, x.N, x.o⟩
noncomputable def rstepG : Nat → MO → Int × MO
  | 0, x => (0, x)
  | k + 1, x => bif (nxR x.m).1 == 0 then (0, x) else bif (nxR x.m).1 == 5 then rrouteV x else bif (nxR x.m).1 != 2 && (nxR x.m).1 != 3 then (0, putR x) else bif !(Fold.stepV x.m.st (nxR x.m).2).2 then (9, putR x) else rstepG k (putR x)
noncomputable def okG' : Nat → MO → Bool
  | 0, _ => false
  | k + 1, x => okL x.m && (bif (nxR x.m).1 == 0 then true else bif (nxR x.m).1 == 5 then Rt.chkMb x.m.r x.N (fun j => Rt.encI (x.o j)) else bif (nxR x.m).1 != 2 && (nxR x.m).1 != 3 then true else bif !(Fold.stepV x.m.st (nxR x.m).2).2 then true else okG' k (putR x))
@[reducible] noncomputable def QS : Sums := (51, genSumT Rt.g_mscript) :: (46, genSumN Rep.g_rapply) :: (53, roSumT Rep.g_rview) :: (52, valSum Fold.g_rnext) :: (54, genSumT Rt.g_mset) :: (49, genSumN g_rput) :: S0
theorem okQS : SumsOk Try.prog QS := (((((okS0.cons ok_rput).cons Rt.ok_mset).cons Fold.ok_rnext).cons Rep.ok_rview).cons Rep.ok_rapply).cons Rt.ok_mscript
@[reducible] def encQg (i : Int) (m : Mr) (N : Nat) (ge : Nat → List CV) : Sx.St := ⟨[(0, .s (.c (.ptr 0 0))), (5, .s (.c (.int .i64 i)))], (hpR m N ge).map some, 9, 104⟩
def encQ : Int × MO → Sx.St
  | (i, x) => encQg i x.m x.N (fun j => Rt.encI (x.o j))
@[reducible] def QB' := Int × Nat × Nat × Mr × Nat × (Nat → List CV)
def decQ : Sx.St → Option QB'
  | ⟨[(0, .s (.c (.ptr 0 0))), (5, .s (.c (.int .i64 i)))], [some b0, some b1, some b2, some b3, some b4, some b5, some b6, some b7, some b8], 9, 104⟩ => (decMr [b0, b1, b2, b3, b4, b5, b6, b7, b8]).map fun p => (i, p)
  | _ => none
noncomputable def chkQ : QB' → Bool
  | (_, na', nb', m, _, ge) => Nat.beq na' m.na && (Nat.beq nb' m.nb && chkRo Rt.encI Rt.decID ge)
def normQ : QB' → Int × MO
  | (i, _, _, m, N, ge) => (i, ⟨m, N, fun j => Rt.decID (ge j)⟩)
theorem decQ_spec (st : Sx.St) (p : QB') (h : decQ st = some p) (hc : chkQ p = true) : st = encQ (normQ p) := by
  unfold decQ at h
  split at h
  · obtain ⟨⟨na', nb', m, N, ge⟩, hm, h⟩ := Option.map_eq_some_iff.1 h
    cases h
    simp only [chkQ, Bool.and_eq_true] at hc
    have hv := decMr_spec hm (Nat.eq_of_beq_eq_true hc.1) (Nat.eq_of_beq_eq_true hc.2.1)
    have g := chkRo_spec hc.2.2
    simp only [List.cons.injEq, and_true] at hv
    obtain ⟨rfl, rfl, rfl, rfl, rfl, rfl, rfl, rfl, rfl⟩ := hv
    unfold normQ encQ
    simp only
    unfold encQg
    rw [← g]
    rfl
  · cases h
@[reducible] def retQ (e : Int) (m : Mr) (N : Nat) (ge : Nat → List CV) : Sx.St := ⟨[(4, .s (.c (.int .i64 e)))], (hpR m N ge).map some, 9, 104⟩
@[reducible] def retX (x : Int × MO) : Sx.St := retQ x.1 x.2.m x.2.N (fun j => Rt.encI (x.2.o j))
noncomputable def tQ (p : Int × MO) (R : Type) (K : Ex → Sx.St → Option R) : Option R := bif decide (0 ≤ p.1 ∧ p.1 ≤ 4) && okG' (4 - p.1).toNat p.2 then K .ret (retX (rstepG (4 - p.1).toNat p.2)) else none
@[reducible] noncomputable def LQ : List (Nat × LoopSum) := [(0, formSumC decQ chkQ normQ tQ)]
@[reducible] noncomputable def rtB {R : Type} (x : MO) (s : Rt.MS) (K : Ex → Sx.St → Option R) : Option R :=
  bif s.e == 0 then bif okD x.m.na x.m.nb (wR x.m s.r) then K .ret (retQ s.e (rputM (wR x.m s.r) (recA x.m.st.gen x.m.tick)) s.M (fun j => Rt.encI (s.o j))) else none else K .ret (retQ s.e (wR x.m s.r) s.M (fun j => Rt.encI (s.o j)))
@[reducible] noncomputable def goB {R : Type} (i : Int) (x : MO) (K : Ex → Sx.St → Option R) : Option R := bif !(Fold.stepV x.m.st (nxR x.m).2).2 then K .ret (retX (9, putR x)) else K .normal (encQ (IntKind.i64.wrap (i + 1), putR x))
theorem roundQ {R : Type} (L : List (Nat × LoopSum)) (i : Int) (m : Mr) (N : Nat) (o : Nat → Int) (K : Ex → Sx.St → Option R) : roundK Try.prog QS L 20 6 (resMask Try.f23.results.toList) (lpAt Try.f23 0) (encQ (i, ⟨m, N, o⟩)) K =
    bif decide (i < 4) then bif chk2 m then bif (nxR m).1 == 0 then K .ret (retX (0, ⟨m, N, o⟩)) else
      bif (nxR m).1 == 5 then bif Rt.chkMb m.r N (fun j => Rt.encI (o j)) then bif (msR ⟨m, N, o⟩).b then rtB ⟨m, N, o⟩ (msR ⟨m, N, o⟩) K else rtB ⟨m, N, o⟩ (msR ⟨m, N, o⟩) K else none else
      bif okD m.na m.nb m then bif (nxR m).1 != 2 then bif (nxR m).1 != 3 then K .ret (retX (0, putR ⟨m, N, o⟩)) else goB i ⟨m, N, o⟩ K else goB i ⟨m, N, o⟩ K else none
    else none else K (.exit 0) ⟨[], (hpR m N (fun j => Rt.encI (o j))).map some, 9, 104⟩ := by kernel_rfl
theorem okQ (L : List (Nat × LoopSum)) : LoopOk Try.prog QS L 20 6 (resMask Try.f23.results.toList) (lpAt Try.f23 0) (formSumC decQ chkQ normQ tQ) := by
  refine LoopOk.ofC decQ_spec (fun p => (4 - p.1).toNat) ?_
  rintro ⟨i, m, N, o⟩ R K y h
  unfold tQ at h
  simp only at h
  cases hc : decide (0 ≤ i ∧ i ≤ 4) && okG' (4 - i).toNat ⟨m, N, o⟩ with
  | false => rw [hc] at h; cases h
  | true =>
    rw [hc, cond_true] at h
    simp only [Bool.and_eq_true, decide_eq_true_eq] at hc
    obtain ⟨h1, h2⟩ := hc
    by_cases hi : i < 4
    · rw [show (4 - i).toNat = (4 - (i + 1)).toNat + 1 by omega] at h h2
      unfold rstepG at h
      unfold okG' at h2
      simp only [Bool.and_eq_true] at h2
      obtain ⟨h2, h3⟩ := h2
      have hr : ∀ K' : Ex → Sx.St → Option R, _ := fun K' => roundQ L i m N o K'
      simp only [decide_eq_true hi, cond_true, chk2_eq, h2, okD_self] at hr
      cases n0 : (nxR m).1 == 0 with
      | true =>
        simp only [n0, cond_true] at h hr
        exact .inr ⟨.ret, _, by simp, hr, h⟩
      | false =>
        simp only [n0, cond_false] at h hr h3
        cases n5 : (nxR m).1 == 5 with
        | true =>
          simp only [n5, cond_true] at h hr h3
          right
          have hok : okD m.na m.nb (wR m (msR ⟨m, N, o⟩).r) = true := okD_self.trans h2
          refine ⟨.ret, retX (rrouteV ⟨m, N, o⟩), by simp, fun K' => ?_, h⟩
          rw [hr, h3, cond_true]
          have e : rtB ⟨m, N, o⟩ (msR ⟨m, N, o⟩) K' = K' .ret (retX (rrouteV ⟨m, N, o⟩)) := by
            unfold rtB rrouteV
            simp only [hok, cond_true]
            cases (msR ⟨m, N, o⟩).e == 0 <;> rfl
          rw [e]
          cases (msR ⟨m, N, o⟩).b <;> rfl
        | false =>
          simp only [n5, cond_false] at h hr h3
          have key : ∀ A B : Option R, (bif (nxR m).1 != 2 then bif (nxR m).1 != 3 then A else B else B) = bif (nxR m).1 != 2 && (nxR m).1 != 3 then A else B := by
            intro A B
            cases (nxR m).1 != 2 <;> rfl
          simp only [key] at hr
          cases n23 : (nxR m).1 != 2 && (nxR m).1 != 3 with
          | true =>
            simp only [n23, cond_true] at h hr
            exact .inr ⟨.ret, _, by simp, hr, h⟩
          | false =>
            simp only [n23, cond_false] at h hr h3
            cases hs : !(Fold.stepV m.st (nxR m).2).2 with
            | true =>
              simp only [hs, cond_true] at h
              exact .inr ⟨.ret, retX (9, putR ⟨m, N, o⟩), by simp, fun K' => by rw [hr]; unfold goB; simp only [hs, cond_true], h⟩
            | false =>
              simp only [hs, cond_false] at h h3
              left
              refine ⟨(i + 1, putR ⟨m, N, o⟩), by simp only; omega, fun K' => by rw [hr]; unfold goB; simp only [hs, cond_false]; rw [wi (x := i + 1) (by omega)], ?_⟩
              unfold tQ
              simp only
              rw [decide_eq_true (show 0 ≤ i + 1 ∧ i + 1 ≤ 4 by omega), h3]
              exact h
    · rw [show (4 - i).toNat = 0 by omega] at h2
      cases h2
theorem loopsQ : LoopsOk Try.prog QS LQ 20 6 (resMask Try.f23.results.toList) (loopsOf (resMask Try.f23.results.toList) (bodyOf Try.f23) [] (resMask Try.f23.results.toList)) :=
  loopsOk_ix 1 (by kernel_rfl) ⟨trivial, loopOk_here (n := 0) (by kernel_rfl) rfl (okQ _)⟩
/-- Scripted, and the fleet set. -/
noncomputable def rpre (m : Mr) (n : Nat) : Mr := ⟨m.st, (Rep.capN m.st.want0).toNat, Rep.scaledG m.na m.ga m.st.want0, (Rep.capN m.st.want1).toNat, Rep.scaledG m.nb m.gb m.st.want1, ⟨m.r.slot, m.r.gen, m.r.writes, 0, n, m.r.armed, m.r.left, m.r.blown, m.r.count⟩, m.tries, m.tick⟩
@[reducible] noncomputable def catR (m : Mr) (ge : Nat → List CV) (l : List Int) : Nat → List CV := catG (subG ge m.r.i0) (fun j => [.int .i64 (l.getD j 0)]) m.r.n
@[reducible] noncomputable def preX (m : Mr) (ge : Nat → List CV) (l : List Int) : MO := ⟨rpre m (addI m.r.n l.length), addI m.r.n l.length, fun j => Rt.decID (catR m ge l j)⟩
theorem t_rstepS {R : Type} (m : Mr) (N : Nat) (ge : Nat → List CV) (u : Value) (l : List Int) (K : TV → List (Option SB) → Option R) : runFnN Try.prog QS LQ 20 6 Try.f23 (bodyOf Try.f23) [.c (.ptr 0 0), .c (.xs u l)] (hpR m N ge) K =
    bif decide (m.r.i0 + m.r.n ≤ N ∧ m.r.n + l.length ≤ 4294967296) then bif chk2 m then
      bif Nat.beq (Rep.capN m.st.want0).toNat (Rep.capN m.st.want0).toNat && (Nat.beq (Rep.capN m.st.want1).toNat (Rep.capN m.st.want1).toNat && chkRo Rt.encI Rt.decID (catR m ge l)) then
        bif decide (0 ≤ (0 : Int) ∧ (0 : Int) ≤ 4) && okG' (4 - (0 : Int)).toNat (preX m ge l) then
          K (.s (i64 (rstepG (4 - (0 : Int)).toNat (preX m ge l)).1)) ((hpR (rstepG (4 - (0 : Int)).toNat (preX m ge l)).2.m (rstepG (4 - (0 : Int)).toNat (preX m ge l)).2.N (fun j => Rt.encI ((rstepG (4 - (0 : Int)).toNat (preX m ge l)).2.o j))).map some)
        else none else none else none else none := by kernel_rfl
/-- The same, of outcomes that are whole numbers. -/
noncomputable def stepX (m : Mr) (o : Nat → Int) (l : List Int) : MO := ⟨rpre m (m.r.n + l.length), m.r.n + l.length, catO m.r.i0 m.r.n o l⟩
noncomputable def rokS (m : Mr) (N : Nat) (o : Nat → Int) (l : List Int) : Bool := decide (m.r.i0 + m.r.n ≤ N ∧ m.r.n + l.length ≤ 4294967296) && okG' 4 (stepX m o l)
theorem catR_enc (m : Mr) (o : Nat → Int) (l : List Int) : catR m (fun j => Rt.encI (o j)) l = fun j => Rt.encI (catO m.r.i0 m.r.n o l j) := by
  funext j
  unfold catR catO
  by_cases h : j < m.r.n
  · rw [catG_lt h, subG_eq, if_pos h]
  · rw [catG_ge (by omega), if_neg h]
theorem preX_eq (m : Mr) (o : Nat → Int) (l : List Int) : preX m (fun j => Rt.encI (o j)) l = stepX m o l := by
  unfold preX stepX
  rw [catR_enc, addI_eq]
  rfl
noncomputable def g_rstepS : List SV → List SB → Cs
  | [.c (.ptr 0 0), .c (.xs _ l)], hp => match decMr hp with
    | some (na', nb', m, N, ge) => .br (okD na' nb' m && (chkRo Rt.encI Rt.decID ge && rokS m N (fun j => Rt.decID (ge j)) l)) (oMr (.s (i64 (rstepG 4 (stepX m (fun j => Rt.decID (ge j)) l)).1)) (rstepG 4 (stepX m (fun j => Rt.decID (ge j)) l)).2.m (rstepG 4 (stepX m (fun j => Rt.decID (ge j)) l)).2.N (fun j => Rt.encI ((rstepG 4 (stepX m (fun j => Rt.decID (ge j)) l)).2.o j))) .no
    | none => .no
  | _, _ => .no
theorem ok_rstepS : SumOk Try.prog 23 (genSumN g_rstepS) := by
  refine sumOk_genN okQS mixed Try.func23 (c := bodyOf Try.f23) (by kernel_rfl) (by kernel_rfl) ?_
  intro args hp y h
  unfold g_rstepS at h ⊢
  split at h
  · rename_i u l
    cases hd : decMr hp with
    | none => rw [hd] at h; cases h
    | some p =>
      obtain ⟨na', nb', m, N, ge⟩ := p
      rw [hd] at h
      simp only at h ⊢
      cases hc : okD na' nb' m && (chkRo Rt.encI Rt.decID ge && rokS m N (fun j => Rt.decID (ge j)) l) with
      | false => rw [hc] at h; cases h
      | true =>
        have hc' := hc
        simp only [Bool.and_eq_true] at hc'
        obtain ⟨c0, c5, c6⟩ := hc'
        obtain ⟨c1, c2, c3, c4⟩ := okD_spec c0
        obtain rfl := decMr_spec hd c1 c2
        have g := chkRo_spec c5
        rw [hc] at h
        cases h
        refine ⟨LQ, 20, loopsQ, (t_rstepS ..).trans ?_⟩
        unfold rokS at c6
        simp only [Bool.and_eq_true] at c6
        have hl : okL m = true := by unfold okL; rw [c3, c4]; rfl
        have e1 : preX m ge l = stepX m (fun j => Rt.decID (ge j)) l := by
          conv => lhs; rw [g]
          exact preX_eq ..
        have e2 : chkRo Rt.encI Rt.decID (catR m ge l) = true := by
          rw [g, catR_enc]
          exact chkRo_true Rt.backI _
        rw [c6.1, chk2_eq, hl, Nat.beq_refl, Nat.beq_refl, e2, e1]
        show (bif decide ((0 : Int) ≤ 0 ∧ (0 : Int) ≤ 4) && okG' 4 _ then _ else _) = _
        rw [c6.2]
        rfl
  · cases h
end Go.Proofs.Ytpebebhjmnmcbaa.Md

/- What a step of a model comes to, part 2. No condition. -/
import Derived.Test.YtpebebhjmnmcbaaMd3
set_option maxRecDepth 100000
set_option linter.unusedSimpArgs false
set_option linter.unusedVariables false
namespace Go.Proofs.Ytpebebhjmnmcbaa.Md
open Go Go.Proofs.Ytpebebhjmnmcbaa.Sx
@[reducible] noncomputable def rA {R : Type} (e : Int) (m : Md) (N : Nat) (ge : Nat → List CV) (K : Ex → Sx.St → Option R) : Option R := bif !(Fold.stepV m.st (nxV m).2).2 then K (.exit 0) (finSt 9 (putM m (nxV m).2) N ge) else K .normal (encSt e (putM m (nxV m).2) N ge)
@[reducible] noncomputable def rB {R : Type} (e : Int) (m : Md) (N : Nat) (ge : Nat → List CV) (K : Ex → Sx.St → Option R) : Option R := bif (nxV m).1 == 5 then bif Rt.chkB m.r N ge then K (.exit 0) (finSt (routeV m fun j => Rt.decID (ge j)).1 (routeV m fun j => Rt.decID (ge j)).2 N ge) else none
  else bif (nxV m).1 == 0 then K (.exit 0) (finSt e m N ge) else K (.exit 0) (finSt e (putM m (nxV m).2) N ge)
theorem roundSt {R : Type} (L : List (Nat × LoopSum)) (e : Int) (m : Md) (N : Nat) (ge : Nat → List CV) (K : Ex → Sx.St → Option R) : roundK Try.prog PS L 20 6 (resMask Try.f18.results.toList) (lpAt Try.f18 0) (encSt e m N ge) K =
    bif (nxV m).1 == 2 then bif (nxV m).1 == 2 then rA e m N ge K else rB e m N ge K else bif (nxV m).1 == 3 then rA e m N ge K else rB e m N ge K := by kernel_rfl
@[reducible] def SB4 := Int × Md × List SB
def decSt : Sx.St → Option (Int × Md × Nat × (Nat → List CV))
  | ⟨[(0, .s (.c (.ptr 0 0))), (4, .s (.c (.int .i64 e)))], [some b0, some b1, some b2, some b3, some b4, some b5, some (.vec 1 [] (.gen N ge))], 7, 58⟩ => (decV [b0, b1, b2, b3, b4, b5]).map fun p => (e, p.1, N, ge)
  | _ => none
theorem decV_nil {hp r : List SB} {m : Md} (h : decV hp = some (m, r)) (hl : hp.length = 6) : hp = hpV m := by
  have := decV_spec h
  subst this
  cases r with
  | nil => simp
  | cons x r => simp at hl
theorem decSt_spec {st : Sx.St} {e : Int} {m : Md} {N : Nat} {ge : Nat → List CV} (h : decSt st = some (e, m, N, ge)) : st = encSt e m N ge := by
  unfold decSt at h
  split at h
  · obtain ⟨⟨m', r⟩, hm, h⟩ := Option.map_eq_some_iff.1 h
    cases h
    have hv := decV_nil hm rfl
    simp only [List.cons.injEq, and_true] at hv
    obtain ⟨rfl, rfl, rfl, rfl, rfl, rfl⟩ := hv
    rfl
  · cases h
noncomputable def tSt (p : Int × Md × Nat × (Nat → List CV)) (R : Type) (K : Ex → Sx.St → Option R) : Option R := match p with
  | (e, m, N, ge) => bif e == 0 && (Rt.chkB m.r N ge && doneG 4 m) then K (.exit 0) (finSt (stepG (fun j => Rt.decID (ge j)) 4 m).1 (stepG (fun j => Rt.decID (ge j)) 4 m).2 N ge) else none
@[reducible] noncomputable def LSt : List (Nat × LoopSum) := [(0, formSum decSt tSt)]
theorem putM_r (m : Md) (x : Fold.Rc) : (putM m x).r = m.r := rfl
theorem okSt' {R : Type} {L : List (Nat × LoopSum)} {N : Nat} {ge : Nat → List CV} {K : Ex → Sx.St → Option R} {x : R} : ∀ (k : Nat) (m : Md), doneG k m = true → Rt.chkB m.r N ge = true → K (.exit 0) (finSt (stepG (fun j => Rt.decID (ge j)) k m).1 (stepG (fun j => Rt.decID (ge j)) k m).2 N ge) = some x →
    ∃ n, loopIt (roundK Try.prog PS L 20 6 (resMask Try.f18.results.toList) (lpAt Try.f18 0)) n (encSt 0 m N ge) K = some x
  | 0, m, h, _, _ => by cases h
  | k + 1, m, h, hc, hK => by
    unfold doneG at h
    unfold stepG at hK
    have hAB : ∀ (A B : Option R), (bif (nxV m).1 == 2 then bif (nxV m).1 == 2 then A else B else bif (nxV m).1 == 3 then A else B) = bif (nxV m).1 == 2 || (nxV m).1 == 3 then A else B := by
      intro A B
      cases (nxV m).1 == 2 <;> cases (nxV m).1 == 3 <;> rfl
    cases h23 : (nxV m).1 == 2 || (nxV m).1 == 3 with
    | true =>
      rw [h23, cond_true] at h hK
      cases hok : (Fold.stepV m.st (nxV m).2).2 with
      | true =>
        rw [hok, cond_true] at h hK
        obtain ⟨n, hn⟩ := okSt' (L := L) k (putM m (nxV m).2) h hc hK
        refine ⟨n + 1, ?_⟩
        rw [loopIt, roundSt, hAB, h23, cond_true]
        unfold rA
        rw [hok]
        exact hn
      | false =>
        rw [hok, cond_false] at hK
        refine ⟨1, ?_⟩
        rw [loopIt, roundSt, hAB, h23, cond_true]
        unfold rA
        rw [hok]
        exact hK
    | false =>
      rw [h23, cond_false] at hK
      refine ⟨1, ?_⟩
      rw [loopIt, roundSt, hAB, h23, cond_false]
      unfold rB
      cases h5 : (nxV m).1 == 5 with
      | true =>
        rw [h5, cond_true] at hK
        rw [cond_true, hc]
        exact hK
      | false =>
        rw [h5, cond_false] at hK
        rw [cond_false]
        cases h0 : (nxV m).1 == 0 with
        | true => rw [h0] at hK; exact hK
        | false => rw [h0] at hK; exact hK
theorem okSt : LoopOk Try.prog PS LSt 20 6 (resMask Try.f18.results.toList) (lpAt Try.f18 0) (formSum decSt tSt) := by
  intro R st K x h
  unfold formSum at h
  cases hd : decSt st with
  | none => rw [hd] at h; cases h
  | some p =>
    obtain ⟨e, m, N, ge⟩ := p
    rw [hd] at h
    obtain rfl := decSt_spec hd
    unfold tSt at h
    simp only at h
    cases hc : e == 0 && (Rt.chkB m.r N ge && doneG 4 m) with
    | false => rw [hc] at h; cases h
    | true =>
      rw [hc, cond_true] at h
      simp only [Bool.and_eq_true, beq_iff_eq] at hc
      obtain ⟨rfl, h1, h2⟩ := hc
      exact okSt' 4 m h2 h1 h
theorem loopsSt : LoopsOk Try.prog PS LSt 20 6 (resMask Try.f18.results.toList) (loopsOf (resMask Try.f18.results.toList) (bodyOf Try.f18) [] (resMask Try.f18.results.toList)) :=
  loopsOk_ix 1 (by kernel_rfl) ⟨trivial, loopOk_here (n := 0) (by kernel_rfl) rfl okSt⟩
/-- Scripted, and the fleet set. -/
noncomputable def pre (m : Md) (n : Nat) : Md := ⟨m.st, Rep.sscale m.a m.st.want0, Rep.sscale m.b m.st.want1, ⟨m.r.slot, m.r.gen, m.r.writes, 0, n, m.r.left, m.r.blown, m.r.count⟩, m.tries, m.tick⟩
noncomputable def mstepV (m : Md) (n : Nat) (o : Nat → Int) : Int × Md := stepG o 4 (pre m n)
@[reducible] def hpS (m : Md) (M : Nat) (ga : Nat → List CV) (N : Nat) (ge : Nat → List CV) : List SB := [cM m, .cells [.ptr 3 0, .ptr 4 0], .cells [.int .i64 m.r.slot, .int .i64 m.r.gen, .slc 7 m.r.i0 m.r.n, .int .i64 m.r.writes, .ptr 5 0], .cells (Rep.encSl m.a), .cells (Rep.encSl m.b), cF m, .vec 1 [] (.gen M ga), .vec 1 [] (.gen N ge)]
@[reducible] noncomputable def cat1 (m : Md) (ge ga : Nat → List CV) : Nat → List CV := catG (subG ge m.r.i0) (subG ga 0) m.r.n
@[reducible] noncomputable def cat0 (m : Md) (ge : Nat → List CV) : Nat → List CV := catG (subG ge m.r.i0) (fun _ => [.int .i64 0]) m.r.n
@[reducible] noncomputable def outSt {R : Type} (m : Md) (n : Nat) (ge : Nat → List CV) (K : TV → List (Option SB) → Option R) : Option R := bif (0 : Int) == 0 && (Rt.chkB (pre m n).r n ge && doneG 4 (pre m n)) then K (.s (i64 (mstepV m n fun j => Rt.decID (ge j)).1)) ((hpV (mstepV m n fun j => Rt.decID (ge j)).2).map some ++ [some (.vec 1 [] (.gen n ge))]) else none
theorem t_mstep {R : Type} (m : Md) (k M : Nat) (ga : Nat → List CV) (N : Nat) (ge : Nat → List CV) (K : TV → List (Option SB) → Option R) : runFnN Try.prog PS LSt 20 6 Try.f18 (bodyOf Try.f18) [.c (.ptr 0 0), .c (.slc 6 0 k)] (hpS m M ga N ge) K =
    bif decide (N = addI m.r.i0 m.r.n) && (decide (addI 0 k ≤ M) && decide (addI m.r.n k ≤ 4294967296)) then outSt m (addI m.r.n k) (cat1 m ge ga) K else none := by kernel_rfl
theorem t_mstep0 {R : Type} (m : Md) (N : Nat) (ge : Nat → List CV) (K : TV → List (Option SB) → Option R) : runFnN Try.prog PS LSt 20 6 Try.f18 (bodyOf Try.f18) [.c (.ptr 0 0), .c .nils] (hpV m ++ [.vec 1 [] (.gen N ge)]) K =
    bif decide (N = addI m.r.i0 m.r.n) && decide (addI m.r.n 0 ≤ 4294967296) then outSt m (addI m.r.n 0) (cat0 m ge) K else none := by kernel_rfl
end Go.Proofs.Ytpebebhjmnmcbaa.Md

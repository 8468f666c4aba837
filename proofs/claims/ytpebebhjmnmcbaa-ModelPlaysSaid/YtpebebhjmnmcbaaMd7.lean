/- How a model begins; are there more acts than are played? No condition. -/
import Derived.Test.YtpebebhjmnmcbaaMd6
set_option maxRecDepth 100000
set_option linter.unusedSimpArgs false
set_option linter.unusedVariables false
namespace Go.Proofs.Ytpebebhjmnmcbaa.Md
open Go Go.Proofs.Ytpebebhjmnmcbaa.Sx
theorem wi {x : Int} (h : -9223372036854775808 ≤ x ∧ x ≤ 9223372036854775807) : IntKind.i64.wrap x = x := by
  simp [IntKind.wrap, IntKind.bits, IntKind.signed]; omega
theorem bnd {a : Int} (h : (Lit.int .i64 a).wf = true) : -9223372036854775808 ≤ a ∧ a ≤ 9223372036854775807 := by
  simp [Lit.wf, IntKind.min, IntKind.max, IntKind.signed, IntKind.bits] at h
  omega
/-! ### New -/
@[reducible] noncomputable def PN : Sums := (30, valSum Fold.g_ffirst) :: (31, genSum Rep.g_fnew) :: (33, genSum Rt.g_fnew) :: (32, genSum Rt.g_rnew) :: (34, genSum Rep.g_fapply) :: (35, genSum Rep.g_ffill) :: S0
theorem okPN : SumsOk Try.prog PN := (((((okS0.cons Rep.ok_ffill).cons Rep.ok_fapply).cons Rt.ok_rnew).cons Rt.ok_fnew).cons Rep.ok_fnew).cons Fold.ok_ffirst
@[reducible] noncomputable def slA (rev n : Int) : Rep.Sl := Rep.ffill (Rep.sscale Rep.z0 (Fold.ffirstV rev n).1.want0)
@[reducible] noncomputable def slB (rev n : Int) : Rep.Sl := Rep.ffill (Rep.sscale Rep.z0 (Fold.ffirstV rev n).1.want1)
noncomputable def newM (rev n tries : Int) : Md := ⟨(Fold.ffirstV rev n).1, slA rev n, slB rev n, ⟨0, 0, 0, 0, 0, -1, false, 0⟩, tries, 0⟩
@[reducible] noncomputable def hpN (m : Md) : List SB := [.cells [.int .i64 m.st.phase, .int .i64 m.st.active, .int .i64 m.st.rev0, .int .i64 m.st.rev1, .int .i64 m.st.want0, .int .i64 m.st.want1, .bool m.st.passed0, .bool m.st.passed1, .int .i64 m.st.delay, .int .i64 m.st.gen, .int .i64 m.st.switch, .int .i64 m.st.flip, .ptr 1 0, .ptr 4 0, .int .i64 m.tries, .int .i64 m.tick], .cells [.ptr 2 0, .ptr 3 0], .cells (Rep.encSl m.a), .cells (Rep.encSl m.b), .cells [.int .i64 0, .int .i64 0, .nils, .int .i64 0, .ptr 5 0], .cells [.int .i64 (-1), .bool false, .int .i64 0]]
noncomputable def g_mnew : List SV → List SB → Cs
  | [.c (.int .i64 rev), .c (.int .i64 n), .c (.int .i64 tries)], [] => .br (!(Fold.ffirstV rev n).2) (.out ⟨true, .tup [.c .nilp, i64 1], [], []⟩) (.out ⟨true, .tup [.c (.ptr 0 0), i64 0], [], hpN (newM rev n tries)⟩)
  | _, _ => .no
theorem t_mnew {R : Type} (rev n tries : Int) (K : TV → List (Option SB) → Option R) : runFnL Try.prog PN [] 10 Try.f12 (bodyOf Try.f12) [i64 rev, i64 n, i64 tries] [] K =
    bif !(Fold.ffirstV rev n).2 then K (.tup [.c .nilp, i64 1]) [] else bif decide (0 ≤ (Rep.sscale Rep.z0 (Fold.ffirstV rev n).1.want0).want) && decide ((Rep.sscale Rep.z0 (Fold.ffirstV rev n).1.want0).want ≤ 32) && (decide (0 ≤ (Rep.sscale Rep.z0 (Fold.ffirstV rev n).1.want1).want) && decide ((Rep.sscale Rep.z0 (Fold.ffirstV rev n).1.want1).want ≤ 32)) then
      K (.tup [.c (.ptr 0 0), i64 0]) ((hpN (newM rev n tries)).map some) else none := by kernel_rfl
theorem ok_mnew0 : SumOk Try.prog 12 (genSumT g_mnew) := by
  refine sumOk_cs okPN mixed Try.func12 (c := bodyOf Try.f12) (by kernel_rfl) (by kernel_rfl) ?_
  intro args hp x h
  unfold g_mnew at h ⊢
  split at h
  · rename_i rev n tries
    refine ⟨[], 10, LoopsOk.nil, (t_mnew ..).trans ?_⟩
    have c1 := Rep.capN_b (Fold.ffirstV rev n).1.want0
    have c2 := Rep.capN_b (Fold.ffirstV rev n).1.want1
    have e1 : (Rep.sscale Rep.z0 (Fold.ffirstV rev n).1.want0).want = Rep.capN (Fold.ffirstV rev n).1.want0 := rfl
    have e2 : (Rep.sscale Rep.z0 (Fold.ffirstV rev n).1.want1).want = Rep.capN (Fold.ffirstV rev n).1.want1 := rfl
    rw [e1, e2, decide_eq_true c1.1, decide_eq_true c1.2, decide_eq_true c2.1, decide_eq_true c2.2]
    show _ = Cs.run (.br (!(Fold.ffirstV rev n).2) _ _) _
    cases !(Fold.ffirstV rev n).2 <;> rfl
  · cases h
theorem ok_mnew : SumOk Try.prog 12 (denilS (genSumT g_mnew)) := sumOk_denil ok_mnew0
/-! ### Are there more than are played? -/
def anyG (f : Nat → Ac) : Nat → Nat → Bool
  | 0, _ => false
  | k + 1, i => bif decide (((f i).outL.length : Int) > 50) then true else anyG f k (i + 1)
theorem anyG_spec {f : Nat → Ac} : ∀ {k i : Nat}, anyG f k i = false → ∀ j, i ≤ j → j < i + k → (f j).outL.length ≤ 50
  | 0, i, _, j, h1, h2 => by omega
  | k + 1, i, h, j, h1, h2 => by
    unfold anyG at h
    cases hd : decide (((f i).outL.length : Int) > 50) with
    | true => rw [hd] at h; cases h
    | false =>
      rw [hd] at h
      rw [decide_eq_false_iff_not] at hd
      by_cases hj : j = i
      · subst hj; omega
      · exact anyG_spec h j (by omega) (by omega)
@[reducible] def GA := Int × Nat × (Nat → Ac)
def encG : GA → Sx.St
  | (i, N, f) => ⟨[(8, .s (.c (.slc 0 0 N))), (9, .s (.c (.int .i64 (N : Int)))), (10, .s (.c (.int .i64 i)))], [some (.ro 10 (.gen N fun i => encAc (f i)))], 1, 19⟩
@[reducible] def GB := Int × Int × Nat × Nat × (Nat → List CV)
def decG : Sx.St → Option GB
  | ⟨[(8, .s (.c (.slc 0 0 M))), (9, .s (.c (.int .i64 m))), (10, .s (.c (.int .i64 i)))], [some (.ro 10 (.gen N f))], 1, 19⟩ => some (i, m, N, M, f)
  | _ => none
noncomputable def chkG : GB → Bool
  | (_, m, N, M, f) => Nat.beq N M && decide (m = N) && chkRo encAc decAcD f
def normG : GB → GA
  | (i, _, N, _, f) => (i, N, fun j => decAcD (f j))
theorem decG_spec (st : Sx.St) (p : GB) (h : decG st = some p) (hc : chkG p = true) : st = encG (normG p) := by
  unfold decG at h
  split at h
  · cases h
    simp only [chkG, Bool.and_eq_true, decide_eq_true_eq] at hc
    obtain ⟨⟨h1, h2⟩, h3⟩ := hc
    have h1 := Nat.eq_of_beq_eq_true h1
    subst h1 h2
    have g := chkRo_spec h3
    unfold normG encG
    simp only
    rw [← g]
  · cases h
def retG (N : Nat) (f : Nat → Ac) : Sx.St := ⟨[(2, .s (.c (.bool true)))], [some (.ro 10 (.gen N fun i => encAc (f i)))], 1, 19⟩
def finG (N : Nat) (f : Nat → Ac) : Sx.St := ⟨[], [some (.ro 10 (.gen N fun i => encAc (f i)))], 1, 19⟩
noncomputable def tG (p : GA) (R : Type) (K : Ex → Sx.St → Option R) : Option R := bif decide (0 ≤ p.1 ∧ p.1 ≤ p.2.1 ∧ p.2.1 ≤ 500) then bif anyG p.2.2 (p.2.1 - p.1.toNat) p.1.toNat then K .ret (retG p.2.1 p.2.2) else K (.exit 0) (finG p.2.1 p.2.2) else none
@[reducible] noncomputable def LG : List (Nat × LoopSum) := [(0, formSumC decG chkG normG tG)]
theorem roundG {R : Type} (L : List (Nat × LoopSum)) (i : Int) (N : Nat) (f : Nat → Ac) (K : Ex → Sx.St → Option R) : roundK Try.prog S0 L 10 1 (resMask Try.f11.results.toList) (lpAt Try.f11 0) (encG (i, N, f)) K =
    bif decide (i < (N : Int)) then bif decide (0 ≤ i) && decide (i < (N : Int)) then bif decide (i.toNat < N) then bif decide (((f i.toNat).outL.length : Int) > 50) then K .ret (retG N f) else K .normal (encG (IntKind.i64.wrap (i + 1), N, f)) else none else none else K (.exit 0) (finG N f) := by kernel_rfl
theorem okG : LoopOk Try.prog S0 LG 10 1 (resMask Try.f11.results.toList) (lpAt Try.f11 0) (formSumC decG chkG normG tG) := by
  refine LoopOk.ofC decG_spec (fun p => p.2.1 - p.1.toNat) ?_
  rintro ⟨i, N, f⟩ R K x h
  unfold tG at h
  simp only at h
  by_cases hi : 0 ≤ i ∧ i ≤ N ∧ N ≤ 500
  · rw [decide_eq_true hi, cond_true] at h
    by_cases h2 : i < (N : Int)
    · rw [show N - i.toNat = (N - (i + 1).toNat) + 1 by omega] at h
      unfold anyG at h
      cases hd : decide (((f i.toNat).outL.length : Int) > 50) with
      | true =>
        rw [hd] at h
        right
        refine ⟨.ret, _, by simp, fun K' => ?_, h⟩
        rw [roundG, decide_eq_true h2, decide_eq_true hi.1, decide_eq_true (show i.toNat < N by omega), hd]
        rfl
      | false =>
        rw [hd] at h
        left
        refine ⟨(i + 1, N, f), by simp only; omega, fun K' => ?_, ?_⟩
        · rw [roundG, decide_eq_true h2, decide_eq_true hi.1, decide_eq_true (show i.toNat < N by omega), hd, wi (x := i + 1) (by omega)]
          rfl
        · unfold tG
          simp only
          rw [decide_eq_true (show 0 ≤ i + 1 ∧ i + 1 ≤ N ∧ N ≤ 500 by omega), show (i + 1).toNat = i.toNat + 1 by omega]
          rw [show (i + 1).toNat = i.toNat + 1 by omega] at h
          exact h
    · right
      rw [show N - i.toNat = 0 by omega] at h
      exact ⟨.exit 0, _, by simp, fun K' => by rw [roundG, decide_eq_false h2]; rfl, h⟩
  · rw [decide_eq_false hi] at h
    cases h
theorem loopsG : LoopsOk Try.prog S0 LG 10 1 (resMask Try.f11.results.toList) (loopsOf (resMask Try.f11.results.toList) (bodyOf Try.f11) [] (resMask Try.f11.results.toList)) :=
  loopsOk_ix 1 (by kernel_rfl) ⟨trivial, loopOk_here (n := 0) (by kernel_rfl) rfl okG⟩
def greatV (N : Nat) (f : Nat → Ac) : Bool := decide ((N : Int) > 80) || anyG f N 0
theorem t_great {R : Type} (N : Nat) (f : Nat → Ac) (K : TV → List (Option SB) → Option R) : runFnL Try.prog S0 LG 10 Try.f11 (bodyOf Try.f11) [.c (.slc 0 0 N)] [.ro 10 (.gen N fun i => encAc (f i))] K =
    bif decide ((N : Int) > 80) then K (.s (bl true)) [some (.ro 10 (.gen N fun i => encAc (f i)))] else bif Nat.beq N N && decide ((N : Int) = N) && chkRo encAc decAcD (fun i => encAc (f i)) then bif decide (0 ≤ (0 : Int) ∧ 0 ≤ (N : Int) ∧ N ≤ 500) then
      bif anyG f (N - (0 : Int).toNat) (0 : Int).toNat then K (.s (bl true)) [some (.ro 10 (.gen N fun i => encAc (f i)))] else K (.s (bl false)) [some (.ro 10 (.gen N fun i => encAc (f i)))] else none else none := by kernel_rfl
noncomputable def greatSum : Sum := fun args _ => match args with
  | [.c (.slc b 0 n)] => .rd b fun
    | .ro 10 (.gen N ge) => .br (Nat.beq N n && chkRo encAc decAcD ge) (cvE (.bool (greatV N fun j => decAcD (ge j)))) .fail
    | _ => .fail
  | _ => .fail
theorem ok_great : SumOk Try.prog 11 greatSum := by
  refine sumOk_row okS0 mixed Try.func11 (cd := bodyOf Try.f11) (by kernel_rfl) (by kernel_rfl) ?_
  intro args nx look e rds h
  unfold greatSum at h
  split at h
  · rename_i b n
    have hq := rd_sem.1 h
    clear h
    obtain ⟨sb, rds', hl, h, _⟩ := hq
    split at h
    · rename_i N ge
      have hq := br_sem.1 h
      clear h
      obtain ⟨h1, h⟩ := hq
      rw [cv_sem] at h
      cases h
      simp only [Bool.and_eq_true] at h1
      obtain ⟨h1, h2⟩ := h1
      obtain rfl := Nat.eq_of_beq_eq_true h1
      have g := chkRo_spec h2
      refine ⟨[], [], b, 0, N, _, 10, .gen N ge, .gen N ge, _, [some (.ro 10 (.gen N ge))], LG, 10, rfl, fun _ => rfl, fun _ => rfl, hl, .inr rfl, Nat.le_refl _, fun _ _ => rfl, rfl, fun _ => rfl, loopsG, ?_⟩
      have t := t_great N (fun j => decAcD (ge j)) (fun tv hp => some (tv, hp))
      rw [← g] at t
      refine t.trans ?_
      unfold greatV
      by_cases c1 : (N : Int) > 80
      · rw [decide_eq_true c1]; rfl
      · rw [decide_eq_false c1, h2, decide_eq_true (show 0 ≤ (0 : Int) ∧ 0 ≤ (N : Int) ∧ N ≤ 500 by omega), show (Nat.beq N N && decide ((N : Int) = N) && true) = true by simp]
        show (bif anyG (fun j => decAcD (ge j)) N 0 then _ else _) = _
        cases anyG (fun j => decAcD (ge j)) N 0 <;> rfl
    · cases fail_sem.1 h
  · cases fail_sem.1 h
@[reducible] noncomputable def PW : Sums := (12, denilS (genSumT g_mnew)) :: (16, genSum g_mop) :: (18, genSumN g_mstep) :: (29, genSum g_mready) :: (14, genSum g_mreply) :: S0
theorem okPW : SumsOk Try.prog PW := ((((okS0.cons ok_mreply).cons ok_mready).cons ok_mstep).cons ok_mop).cons ok_mnew
end Go.Proofs.Ytpebebhjmnmcbaa.Md

/- What many records make of a state: summaries, in the program and in its reference. No condition. -/
import Derived.Test.YtpfggppoobphmaaAll
set_option maxRecDepth 100000
set_option linter.unusedSimpArgs false
set_option linter.unusedVariables false
namespace Go.Proofs.Ytpfggppoobphmaa.Fold
open Go Go.Proofs.Ytpfggppoobphmaa.Sx
/-! ### The reference's -/
@[reducible] noncomputable def SR : Sums := (15, valSum g_rright) :: (12, valSum g_rstep) :: S0
theorem okSR : SumsOk Try.prog SR := ((okS0.cons ok_rstep).cons ok_rright)
def encM : AL → Sx.St
  | (i, i0, n, N, s, z, f) => ⟨[(1, .s (.c (.slc 0 i0 n))), (2, .s (.c (.ptr 1 0))), (4, .s (.c (.ptr 2 0))), (6, .s (.c (.int .i64 i)))],
      [some (.ro 19 (.gen N fun j => encRc (f j))), some (.cells (encSt s)), some (.cells (encSt z))], 3, 55⟩
def decM : Sx.St → Option BL
  | ⟨[(1, .s (.c (.slc 0 i0 n))), (2, .s (.c (.ptr 1 0))), (4, .s (.c (.ptr 2 0))), (6, .s (.c (.int .i64 i)))], [some (.ro 19 (.gen N f)), some (.cells s), some (.cells z)], 3, 55⟩ =>
    match decSt s, decSt z with
    | some s, some z => some (i, n, i0, n, i0, n, N, s, z, f)
    | _, _ => none
  | _ => none
theorem decM_spec (st : Sx.St) (p : BL) (h : decM st = some p) (hc : chkL p = true) : st = encM (normL p) := by
  unfold decM at h
  split at h
  · split at h
    · rename_i h1 h2
      cases h
      simp only [chkL, Bool.and_eq_true, decide_eq_true_eq] at hc
      obtain ⟨⟨⟨e0, e1⟩, e3⟩, e2⟩ := hc
      obtain rfl := decSt_spec _ _ h1
      obtain rfl := decSt_spec _ _ h2
      have g := chkRo_spec e2
      unfold normL encM
      simp only
      rw [← g]
    · cases h
  · cases h
def outM : AL → Sx.St
  | (i, _, _, N, s, _, f) => ⟨[(4, .s (.c (.ptr 1 0))), (5, .s (.c (.int .i64 i)))], [some (.ro 19 (.gen N fun j => encRc (f j))), some (.cells (encSt s))], 2, 55⟩
def finM : AL → Sx.St
  | (_, i0, n, N, s, z, f) => ⟨[(1, .s (.c (.slc 0 i0 n))), (2, .s (.c (.ptr 1 0))), (4, .s (.c (.ptr 2 0)))], [some (.ro 19 (.gen N fun j => encRc (f j))), some (.cells (encSt s)), some (.cells (encSt z))], 3, 55⟩
@[reducible] noncomputable def LM : List (Nat × LoopSum) := [(0, formSumC decM chkL normL (goSum okL cntL brkL nxL .ret outM (.exit 0) finM))]
theorem roundM {R : Type} (L : List (Nat × LoopSum)) (i : Int) (i0 n N : Nat) (s z : St) (f : Nat → Rc) (K : Ex → Sx.St → Option R) : roundK Try.prog SR L 10 1 (resMask Try.f17.results.toList) (lpAt Try.f17 0) (encM (i, i0, n, N, s, z, f)) K =
    bif decide (i < n) then (bif i == 0 then (bif decide (0 ≤ i) && decide (i < n) then bif decide (addI i0 i.toNat < N) then (bif (f (addI i0 i.toNat)).kind == 11 then (bif decide (0 ≤ i) && decide (i < n) then bif decide (addI i0 i.toNat < N) then (bif !rightV (stOf (f (addI i0 i.toNat))) then K .ret (outM (0, i0, n, N, s, z, f)) else (bif decide (0 ≤ i) && decide (i < n) then bif decide (addI i0 i.toNat < N) then K .normal (encM (IntKind.i64.wrap (i + 1), i0, n, N, stOf (f (addI i0 i.toNat)), z, f)) else none else none)) else none else none) else (bif decide (0 ≤ i) && decide (i < n) then bif decide (addI i0 i.toNat < N) then (bif !(stepV s (f (addI i0 i.toNat))).2 then K .ret (outM (i, i0, n, N, s, z, f)) else K .normal (encM (IntKind.i64.wrap (i + 1), i0, n, N, (stepV s (f (addI i0 i.toNat))).1, z, f))) else none else none)) else none else none) else (bif decide (0 ≤ i) && decide (i < n) then bif decide (addI i0 i.toNat < N) then (bif !(stepV s (f (addI i0 i.toNat))).2 then K .ret (outM (i, i0, n, N, s, z, f)) else K .normal (encM (IntKind.i64.wrap (i + 1), i0, n, N, (stepV s (f (addI i0 i.toNat))).1, z, f))) else none else none)) else K (.exit 0) (finM (i, i0, n, N, s, z, f)) := by kernel_rfl
theorem roundM_do {R : Type} (L : List (Nat × LoopSum)) {i : Int} {i0 n N : Nat} (s z : St) (f : Nat → Rc) (K : Ex → Sx.St → Option R) (h0 : 0 ≤ i) (hi : i < n) (hN : i0 + n ≤ N) :
    roundK Try.prog SR L 10 1 (resMask Try.f17.results.toList) (lpAt Try.f17 0) (encM (i, i0, n, N, s, z, f)) K =
    bif brkL (i, i0, n, N, s, z, f) then K .ret (outM (i, i0, n, N, s, z, f)) else K .normal (encM (nxL (i, i0, n, N, s, z, f))) := by
  rw [roundM]
  have e1 : decide (i < (n : Int)) = true := by simpa using hi
  have e2 : decide (0 ≤ i) = true := by simpa using h0
  have e3 : decide (addI i0 i.toNat < N) = true := by rw [addI_eq, decide_eq_true_eq]; omega
  rw [e1, e2, e3]
  simp only [cond_true, Bool.and_self, brkL, nxL, doV]
  generalize f (addI i0 i.toNat) = r
  cases c1 : i == 0 with
  | false => generalize stepV s r = q; obtain ⟨a, b⟩ := q; cases b <;> rfl
  | true =>
    cases c2 : r.kind == 11 with
    | false => generalize stepV s r = q; obtain ⟨a, b⟩ := q; cases b <;> rfl
    | true =>
      have : i = 0 := by simpa using c1
      subst this
      cases rightV (stOf r) <;> rfl
theorem loopM : LoopOk Try.prog SR LM 10 1 (resMask Try.f17.results.toList) (lpAt Try.f17 0) (formSumC decM chkL normL (goSum okL cntL brkL nxL .ret outM (.exit 0) finM)) := by
  refine LoopOk.go decM_spec (by simp) (by simp) ?_ ?_ ?_
  · rintro R ⟨i, i0, n, N, s, z, f⟩ K hok hc hb
    simp only [okL, decide_eq_true_eq, cntL] at hok hc
    rw [roundM_do LM s z f K hok.1 (by omega) hok.2.2.2, hb]
    rfl
  · rintro R ⟨i, i0, n, N, s, z, f⟩ k K hok hc hb
    simp only [okL, decide_eq_true_eq, cntL] at hok hc
    refine ⟨by rw [roundM_do LM s z f K hok.1 (by omega) hok.2.2.2, hb]; rfl, ?_, ?_⟩
    · have e : nxL (i, i0, n, N, s, z, f) = (i + 1, i0, n, N, (doV i s (f (addI i0 i.toNat))).1, z, f) := by
        show (IntKind.i64.wrap (i + 1), i0, n, N, _, z, f) = _
        rw [wi (by omega)]
      rw [e]
      simp only [okL, decide_eq_true_eq]
      omega
    · show n - (IntKind.i64.wrap (i + 1)).toNat = k
      rw [wi (by omega)]
      omega
  · rintro R ⟨i, i0, n, N, s, z, f⟩ K hok hc
    simp only [okL, decide_eq_true_eq, cntL] at hok hc
    rw [roundM]
    have e1 : decide (i < (n : Int)) = false := by rw [decide_eq_false_iff_not]; omega
    rw [e1]
    rfl
theorem loopsM : LoopsOk Try.prog SR LM 10 1 (resMask Try.f17.results.toList) (loopsOf (resMask Try.f17.results.toList) (bodyOf Try.f17) [] (resMask Try.f17.results.toList)) :=
  loopsOk_ix 1 (by kernel_rfl) ⟨trivial, loopOk_here (n := 0) (by kernel_rfl) rfl loopM⟩
theorem t_rall {R : Type} (s : St) (i0 n N : Nat) (f : Nat → Rc) (K : TV → List (Option SB) → Option R) : runFnL Try.prog SR LM 10 Try.f17 (bodyOf Try.f17) [.agg (encSt s), .c (.slc 0 i0 n)] [.ro 19 (.gen N fun i => encRc (f i))] K =
    bif Nat.beq i0 i0 && Nat.beq n n && decide ((n : Int) = n) && chkRo encRc decRcD (fun i => encRc (f i)) then bif okL (0, i0, n, N, s, z0, f) then
      bif (resL s i0 n N f).1 then K (.tup [.agg (encSt (resL s i0 n N f).2.2.2.2.2.1), .c (.int .i64 (resL s i0 n N f).2.1)]) [some (.ro 19 (.gen (resL s i0 n N f).2.2.2.2.1 fun i => encRc ((resL s i0 n N f).2.2.2.2.2.2.2 i)))]
      else K (.tup [.agg (encSt (resL s i0 n N f).2.2.2.2.2.1), .c (.int .i64 ((resL s i0 n N f).2.2.2.1 : Int))]) [some (.ro 19 (.gen (resL s i0 n N f).2.2.2.2.1 fun i => encRc ((resL s i0 n N f).2.2.2.2.2.2.2 i)))] else none else none := by kernel_rfl
def chkN (get : Nat → List CV) (n : Nat) : Bool := (List.range n).all fun j => (decRc (get j)).isSome
noncomputable def allB (s : St) (i0 n es : Nat) (c : Content) : Tr Eff := cond (Nat.beq es 19) (.br (decide (addI i0 n ≤ c.size) && decide (n ≤ 4611686018427387904)) (.br (chkN c.get (addI i0 n))
  (pureE (.tup [.agg (encSt (allV s (fun j => decRcD (subG c.get i0 j)) n).1), .c (.int .i64 ((allV s (fun j => decRcD (subG c.get i0 j)) n).2 : Int))])) .fail) .fail) .fail
noncomputable def allSum : Sum := fun args _ => match args with
  | [.agg l, .c (.slc b i0 n)] => opt (decSt l) fun s => .rd b fun
    | .ro es c => allB s i0 n es c
    | .vec es _ c => allB s i0 n es c
    | _ => .fail
  | _ => .fail
theorem chkN_enc {get : Nat → List CV} {n : Nat} (h : chkN get n = true) {j : Nat} (hj : j < n) : get j = encRc (decRcD (get j)) := by
  unfold chkN at h
  rw [List.all_eq_true] at h
  have := h j (List.mem_range.2 hj)
  rw [Option.isSome_iff_exists] at this
  obtain ⟨r, hr⟩ := this
  have := decRc_spec _ _ hr
  rw [this, backRc]
theorem all_row {f : FuncId} {fn : Func} {cd : Code} {Su : Sums} {L : List (Nat × LoopSum)} (hS : SumsOk Try.prog Su) (hf : Try.prog.funcs[f]? = some fn) (hb : fn.body = some cd) (hname : (fn.name == "runtime.NumGoroutine") = false)
    (hL : LoopsOk Try.prog Su L 10 1 (resMask fn.results.toList) (loopsOf (resMask fn.results.toList) cd [] (resMask fn.results.toList)))
    (ht : ∀ (s : St) (i0 n N : Nat) (f : Nat → Rc), n ≤ 4611686018427387904 → i0 + n ≤ N → ∃ hp', runFnL Try.prog Su L 10 fn cd [.agg (encSt s), .c (.slc 0 i0 n)] [.ro 19 (.gen N fun i => encRc (f i))] (fun tv hp => some (tv, hp)) =
      some (.tup [.agg (encSt (allV s (fun j => f (addI i0 j)) n).1), .c (.int .i64 ((allV s (fun j => f (addI i0 j)) n).2 : Int))], hp')) : SumOk Try.prog f allSum := by
  refine sumOk_row hS mixed hf hb hname ?_
  intro args nx look e rds h
  unfold allSum at h
  split at h
  · rename_i l b i0 n
    have hq := opt_sem.1 h
    clear h
    obtain ⟨s, hs, h⟩ := hq
    obtain rfl := decSt_spec _ _ hs
    have hq := rd_sem.1 h
    clear h
    obtain ⟨sb, rds', hl, h, _⟩ := hq
    have main : ∀ es c, (allB s i0 n es c).sem look = some (e, rds') → ((∃ pre, sb = .vec es pre c) ∨ sb = .ro es c) → ∃ (va vb : List SV) (b' i0' n' : Nat) (sb : SB) (es : Nat) (c c' : Content) (tv : TV) (hp' : List (Option SB)) (L : List (Nat × LoopSum)) (fuel : Nat),
        [.agg (encSt s), .c (.slc b i0 n)] = va ++ .c (.slc b' i0' n') :: vb ∧ (∀ π, va.map (SV.ren π) = va) ∧ (∀ π, vb.map (SV.ren π) = vb) ∧ look b' = some sb ∧ ((∃ pre, sb = .vec es pre c) ∨ sb = .ro es c) ∧ c'.size ≤ c.size ∧ (∀ i, i < c'.size → c'.get i = c.get i) ∧
        e = ⟨tv, [], []⟩ ∧ (∀ π, tv.ren π = tv) ∧ LoopsOk Try.prog Su L fuel 1 (resMask fn.results.toList) (loopsOf (resMask fn.results.toList) cd [] (resMask fn.results.toList)) ∧
        runFnL Try.prog Su L fuel fn cd (va ++ .c (.slc 0 i0' n') :: vb) [.ro es c'] (fun tv hp => some (tv, hp)) = some (tv, hp') := fun es c h hsb => by
      unfold allB at h
      have hq := cond_sem.1 h
      clear h
      obtain ⟨h1, h⟩ := hq
      obtain rfl := Nat.eq_of_beq_eq_true h1
      have hq := br_sem.1 h
      clear h
      obtain ⟨h2, h⟩ := hq
      have hq := br_sem.1 h
      clear h
      obtain ⟨h3, h⟩ := hq
      rw [pure_sem] at h
      cases h
      simp only [Bool.and_eq_true, decide_eq_true_eq, addI_eq] at h2
      rw [addI_eq] at h3
      obtain ⟨hp', hr⟩ := ht s i0 n (i0 + n) (fun j => decRcD (c.get j)) h2.2 (Nat.le_refl _)
      refine ⟨[.agg (encSt s)], [], b, i0, n, sb, 19, c, .gen (i0 + n) (fun j => encRc (decRcD (c.get j))), _, hp', L, 10, rfl, fun _ => rfl, fun _ => rfl, hl, hsb, h2.1, fun i hi => (chkN_enc h3 hi).symm, rfl, fun _ => rfl, hL, ?_⟩
      have e : (fun j => decRcD (subG c.get i0 j)) = fun j => (fun j => decRcD (c.get j)) (addI i0 j) := by funext j; rw [subG_eq, addI_eq]
      rw [e]
      exact hr
    split at h
    · rename_i es c
      exact main es c h (.inr rfl)
    · rename_i es pre c
      exact main es c h (.inl ⟨pre, rfl⟩)
    · cases fail_sem.1 h
  · cases fail_sem.1 h
theorem beqs {i0 n : Nat} {f : Nat → Rc} : (Nat.beq i0 i0 && Nat.beq n n && decide ((n : Int) = n) && chkRo encRc decRcD (fun i => encRc (f i))) = true := by
  rw [chkRo_true backRc]; simp
theorem okL0 {s z : St} {i0 n N : Nat} {f : Nat → Rc} (h1 : n ≤ 4611686018427387904) (h2 : i0 + n ≤ N) : okL (0, i0, n, N, s, z, f) = true := by
  simp only [okL, decide_eq_true_eq]; omega
theorem resL_all (s : St) (i0 n N : Nat) (f : Nat → Rc) (h1 : n ≤ 4611686018427387904) : (resL s i0 n N f).2.2.2.2.2.1 = (allV s (fun j => f (addI i0 j)) n).1 ∧ (resL s i0 n N f).2.1 = ((allV s (fun j => f (addI i0 j)) n).2 : Int) ∧
    ((resL s i0 n N f).1 = false → (((resL s i0 n N f).2.2.2.1 : Nat) : Int) = ((allV s (fun j => f (addI i0 j)) n).2 : Int)) := by
  have := go_fold (f := f) (i0 := i0) (N := N) (z := z0) h1 n 0 s (by omega)
  obtain ⟨h2, h3, h4⟩ := this
  have e := Prod.ext_iff.1 h2
  exact ⟨e.1, e.2, fun h => by
    have h5 := h4 h
    have h6 : (resL s i0 n N f).2.2.2.1 = n := h3
    rw [h6]
    unfold allV
    rw [h5]⟩
theorem ok_all : SumOk Try.prog 16 allSum := by
  refine all_row okSE Try.func16 (cd := bodyOf Try.f16) (by kernel_rfl) (by kernel_rfl) loopsL ?_
  intro s i0 n N f h1 h2
  obtain ⟨g1, g2, g3⟩ := resL_all s i0 n N f h1
  rw [t_all, beqs, okL0 h1 h2, g1, g2]
  cases h : (resL s i0 n N f).1 with
  | true => exact ⟨_, rfl⟩
  | false => rw [g3 h]; exact ⟨_, rfl⟩
theorem ok_rall : SumOk Try.prog 17 allSum := by
  refine all_row okSR Try.func17 (cd := bodyOf Try.f17) (by kernel_rfl) (by kernel_rfl) loopsM ?_
  intro s i0 n N f h1 h2
  obtain ⟨g1, g2, g3⟩ := resL_all s i0 n N f h1
  rw [t_rall, beqs, okL0 h1 h2, g1, g2]
  cases h : (resL s i0 n N f).1 with
  | true => exact ⟨_, rfl⟩
  | false => rw [g3 h]; exact ⟨_, rfl⟩
end Go.Proofs.Ytpfggppoobphmaa.Fold

/- The laws of many records: true, and no memory that was there is written. -/
import Derived.Test.YtpfggppoobphmaaLaw10
set_option maxRecDepth 100000
set_option linter.unusedSimpArgs false
set_option linter.unusedVariables false
namespace Go.Proofs.Ytpfggppoobphmaa.Fold
open Go Go.Proofs.Ytpfggppoobphmaa.Sx
def eqSt (a b : St) : Bool := a.phase == b.phase && (a.active == b.active && (a.rev0 == b.rev0 && (a.rev1 == b.rev1 && (a.want0 == b.want0 && (a.want1 == b.want1 && (a.passed0 == b.passed0 && (a.passed1 == b.passed1 && (a.delay == b.delay && (a.gen == b.gen && (a.switch == b.switch && (a.flip == b.flip && true)))))))))))
theorem eqSt_refl (a : St) : eqSt a a = true := by simp [eqSt]
theorem chkN_true {get : Nat → List CV} {n : Nat} (h : ∀ j, j < n → ∃ r : Rc, get j = encRc r) : chkN get n = true := by
  unfold chkN
  rw [List.all_eq_true]
  intro j hj
  obtain ⟨r, hr⟩ := h j (List.mem_range.1 hj)
  rw [hr]
  rfl

/-! ### FoldAll -/
@[reducible] def rows (f : Nat → Rc) : Nat → List CV := fun i => encRc (f i)
@[reducible] noncomputable def A0 (s : St) (N : Nat) (f : Nat → Rc) : St × Nat := allV s (fun j => decRcD (rows f j)) N
theorem t_FoldAll {R : Type} (s : St) (N : Nat) (f : Nat → Rc) (K : TV → List (Option SB) → Option R) : runFn Try.prog TB 10 Try.f4 (bodyOf Try.f4) [.agg (encSt s), .c (.slc 0 0 N)] [.ro 19 (.gen N fun i => encRc (f i))] K =
    bif decide ((N : Int) > 300) then K (.s (bl true)) [some (.ro 19 (.gen N (rows f)))] else bif decide (N ≤ N) then bif decide (N ≤ 4294967296) then bif decide (N ≤ N) && decide (N ≤ 4611686018427387904) then bif chkN (rows f) N then
      bif decide (N ≤ N) && decide (N ≤ 4611686018427387904) then bif chkN (rows f) N then
        bif eqSt (A0 s N f).1 (A0 s N f).1 then K (.s (bl (((A0 s N f).2 : Int) == ((A0 s N f).2 : Int)))) [some (.ro 19 (.gen N (rows f)))] else K (.s (bl false)) [some (.ro 19 (.gen N (rows f)))]
      else none else none else none else none else none else none := by kernel_rfl
theorem FoldAll (s : St) (N : Nat) (f : Nat → Rc) (q_s : wfSt s) (q_l : ∀ i, i < N → wfRc (f i)) (w : World) (v_s : Value) (hv_s : ∀ X ρ, (SV.agg (encSt s)).R X ρ v_s) (v : Value) (l : Sx.Loc) (hs : SlcR l 0 N v) (hb : BlkR (outer w fun _ _ => False) (rho1 l) l (.ro 19 (.gen N fun i => encRc (f i))) w) :
    Calls Try.prog 4 #[v_s, v] w fun e w' => e = .returned (.bool true) ∧ RowKit.Below w.heap.size w w' := by
  refine law_calls okTB mixed Try.func4 (c := bodyOf Try.f4) (by kernel_rfl) lawK_spec (fuel := 10) (args := [.agg (encSt s), .c (.slc 0 0 N)]) (hp0 := [.ro 19 (.gen N fun i => encRc (f i))]) (X := fun _ _ => False) (ρ := rho1 l) (vs := [v_s, v]) ?_ ⟨hv_s _ _, ⟨l, rfl, hs⟩, trivial⟩ (blk1 hb) rho1_out
  rw [t_FoldAll, chkN_true (fun j _ => ⟨f j, rfl⟩), eqSt_refl]
  by_cases h : (N : Int) > 300
  · rw [decide_eq_true h]; rfl
  · rw [decide_eq_false h, decide_eq_true (show N ≤ N by omega), decide_eq_true (show N ≤ 4294967296 by omega), decide_eq_true (show N ≤ 4611686018427387904 by omega)]
    simp only [cond_true, cond_false, Bool.and_self, beq_self_eq_true]
    rfl

/-! ### What comes of records in two parts -/
theorem do_step {i : Int} {s : St} {r : Rc} (h : r.kind ≠ 11) : doV i s r = stepV s r := by
  unfold doV
  have : (r.kind == 11) = false := by simp [h]
  rw [this, Bool.and_false, cond_false]
theorem do_right {i : Int} {s : St} {r : Rc} (h : rightV s = true) : rightV (doV i s r).1 = true := by
  unfold doV
  cases i == 0 && r.kind == 11
  · exact step_keep h
  · cases h2 : rightV (stOf r)
    · exact h
    · exact h2
theorem fold_right {f : Nat → Rc} : ∀ (k i : Nat) (s : St), rightV s = true → rightV (foldN f k i s).1 = true
  | 0, _, _, h => h
  | k + 1, i, s, h => by
    simp only [foldN]
    cases (doV i s (f i)).2 with
    | false => exact h
    | true => exact fold_right k (i + 1) _ (do_right h)
theorem fold_le {f : Nat → Rc} : ∀ (k i : Nat) (s : St), (foldN f k i s).2 ≤ i + k
  | 0, i, _ => by simp [foldN]
  | k + 1, i, s => by
    simp only [foldN]
    cases (doV i s (f i)).2 with
    | false => simp
    | true =>
      have := fold_le (f := f) k (i + 1) (doV i s (f i)).1
      simp only [cond_true]
      omega
theorem fold_split {f : Nat → Rc} (b : Nat) : ∀ (a i : Nat) (s : St), foldN f (a + b) i s = if (foldN f a i s).2 < i + a then foldN f a i s else foldN f b (i + a) (foldN f a i s).1
  | 0, i, s => by simp [foldN]
  | a + 1, i, s => by
    rw [show a + 1 + b = (a + b) + 1 by omega]
    simp only [foldN]
    by_cases hd : (doV i s (f i)).2 = true
    · simp only [hd, cond_true]
      rw [fold_split b a (i + 1) _, show i + 1 + a = i + (a + 1) by omega]
    · have hd : (doV i s (f i)).2 = false := by simpa using hd
      simp [hd]
theorem fold_shift {f : Nat → Rc} {d : Nat} : ∀ (k i : Nat) (s : St), (∀ j, j < k → (f (d + (i + j))).kind ≠ 11) → foldN f k (d + i) s = ((foldN (fun j => f (d + j)) k i s).1, d + (foldN (fun j => f (d + j)) k i s).2)
  | 0, i, s, _ => rfl
  | k + 1, i, s, h => by
    have h0 : (f (d + i)).kind ≠ 11 := h 0 (by omega)
    simp only [foldN]
    rw [do_step (i := ((d + i : Nat) : Int)) h0, do_step (i := (i : Int)) h0]
    cases (stepV s (f (d + i))).2 with
    | false => rfl
    | true =>
      simp only [cond_true]
      rw [show d + i + 1 = d + (i + 1) by omega]
      exact fold_shift k (i + 1) _ fun j hj => by
        have := h (j + 1) (by omega)
        rwa [show d + (i + (j + 1)) = d + (i + 1 + j) by omega] at this
theorem fold_congr {f g : Nat → Rc} : ∀ (k i : Nat) (s : St), (∀ j, j < k → f (i + j) = g (i + j)) → foldN f k i s = foldN g k i s
  | 0, _, _, _ => rfl
  | k + 1, i, s, h => by
    simp only [foldN]
    rw [show f i = g i from h 0 (by omega)]
    cases (doV i s (g i)).2 with
    | false => rfl
    | true =>
      simp only [cond_true]
      exact fold_congr k (i + 1) _ fun j hj => by
        have := h (j + 1) (by omega)
        rwa [show i + (j + 1) = i + 1 + j by omega] at this

/-! ### FoldSnaps -/
@[reducible] def SP := Int × Nat × St × Int × (Nat → Rc)
def encS : SP → Sx.St
  | (i, N, s, a, f) => ⟨[(1, .s (.c (.slc 0 0 N))), (2, .s (.c (.int .i64 a))), (3, .s (.c (.ptr 1 0))), (40, .s (.c (.slc 0 0 N))), (41, .s (.c (.int .i64 (N : Int)))), (42, .s (.c (.int .i64 i)))], [some (.ro 19 (.gen N fun i => encRc (f i))), some (.cells (encSt s))], 2, 122⟩
@[reducible] def SB' := Int × Int × Nat × Nat × Nat × St × Int × (Nat → List CV)
def decS : Sx.St → Option SB'
  | ⟨[(1, .s (.c (.slc 0 0 N))), (2, .s (.c (.int .i64 a))), (3, .s (.c (.ptr 1 0))), (40, .s (.c (.slc 0 0 N'))), (41, .s (.c (.int .i64 m))), (42, .s (.c (.int .i64 i)))], [some (.ro 19 (.gen N'' f)), some (.cells s)], 2, 122⟩ =>
    match decSt s with
    | some s => some (i, m, N, N', N'', s, a, f)
    | none => none
  | _ => none
noncomputable def chkS : SB' → Bool
  | (_, m, N, N', N'', _, _, f) => Nat.beq N N' && Nat.beq N N'' && decide (m = N) && chkRo encRc decRcD f
def normS : SB' → SP
  | (i, _, N, _, _, s, a, f) => (i, N, s, a, fun j => decRcD (f j))
theorem decS_spec (st : Sx.St) (p : SB') (h : decS st = some p) (hc : chkS p = true) : st = encS (normS p) := by
  unfold decS at h
  split at h
  · split at h
    · rename_i h1
      cases h
      simp only [chkS, Bool.and_eq_true, decide_eq_true_eq] at hc
      obtain ⟨⟨⟨e0, e1⟩, rfl⟩, e2⟩ := hc
      obtain rfl := Nat.eq_of_beq_eq_true e0
      obtain rfl := Nat.eq_of_beq_eq_true e1
      obtain rfl := decSt_spec _ _ h1
      have g := chkRo_spec e2
      unfold normS encS
      simp only
      rw [← g]
    · cases h
  · cases h
def outS : SP → Sx.St
  | (_, N, _, _, f) => ⟨[(6, .s (.c (.bool true)))], [some (.ro 19 (.gen N fun i => encRc (f i)))], 1, 122⟩
def finS : SP → Sx.St
  | (_, N, s, a, f) => ⟨[(1, .s (.c (.slc 0 0 N))), (2, .s (.c (.int .i64 a))), (3, .s (.c (.ptr 1 0)))], [some (.ro 19 (.gen N fun i => encRc (f i))), some (.cells (encSt s))], 2, 122⟩
noncomputable def okS : SP → Bool
  | (i, N, _, _, _) => decide (0 ≤ i ∧ i ≤ N ∧ N ≤ 4611686018427387904)
def cntS : SP → Nat
  | (i, N, _, _, _) => N - i.toNat
def brkS : SP → Bool
  | (i, _, _, _, f) => (f i.toNat).kind == 11
def nxS : SP → SP
  | (i, N, s, a, f) => (IntKind.i64.wrap (i + 1), N, s, a, f)
@[reducible] noncomputable def LS : List (Nat × LoopSum) := [(0, formSumC decS chkS normS (goSum okS cntS brkS nxS .ret outS (.exit 0) finS))]
theorem roundS {R : Type} (L : List (Nat × LoopSum)) (i : Int) (N : Nat) (s : St) (a : Int) (f : Nat → Rc) (K : Ex → Sx.St → Option R) : roundK Try.prog TB L 10 1 (resMask Try.f8.results.toList) (lpAt Try.f8 0) (encS (i, N, s, a, f)) K =
    bif decide (i < N) then bif decide (0 ≤ i) && decide (i < N) then bif decide (i.toNat < N) then bif (f i.toNat).kind == 11 then K .ret (outS (i, N, s, a, f)) else K .normal (encS (IntKind.i64.wrap (i + 1), N, s, a, f)) else none else none
    else K (.exit 0) (finS (i, N, s, a, f)) := by kernel_rfl
theorem nxS_eq {i : Int} {N : Nat} {s : St} {a : Int} {f : Nat → Rc} (h : 0 ≤ i ∧ i < 4611686018427387904) : nxS (i, N, s, a, f) = (i + 1, N, s, a, f) := by
  show (IntKind.i64.wrap (i + 1), N, s, a, f) = _
  rw [wi (by omega)]
theorem loopS : LoopOk Try.prog TB LS 10 1 (resMask Try.f8.results.toList) (lpAt Try.f8 0) (formSumC decS chkS normS (goSum okS cntS brkS nxS .ret outS (.exit 0) finS)) := by
  refine LoopOk.go decS_spec (by simp) (by simp) ?_ ?_ ?_
  · rintro R ⟨i, N, s, a, f⟩ K hok hc hb
    simp only [okS, decide_eq_true_eq, cntS] at hok hc
    have hb : ((f i.toNat).kind == 11) = true := hb
    rw [roundS, hb, decide_eq_true (show i < (N : Int) by omega), decide_eq_true (show 0 ≤ i by omega), decide_eq_true (show i.toNat < N by omega)]
    rfl
  · rintro R ⟨i, N, s, a, f⟩ k K hok hc hb
    simp only [okS, decide_eq_true_eq, cntS] at hok hc
    have hb : ((f i.toNat).kind == 11) = false := hb
    refine ⟨?_, ?_, ?_⟩
    · rw [roundS, hb, decide_eq_true (show i < (N : Int) by omega), decide_eq_true (show 0 ≤ i by omega), decide_eq_true (show i.toNat < N by omega)]
      rfl
    · rw [nxS_eq (by omega)]
      simp only [okS, decide_eq_true_eq]
      omega
    · rw [nxS_eq (by omega)]
      show N - (i + 1).toNat = k
      omega
  · rintro R ⟨i, N, s, a, f⟩ K hok hc
    simp only [okS, decide_eq_true_eq, cntS] at hok hc
    rw [roundS, decide_eq_false (show ¬ i < (N : Int) by omega)]
    rfl
theorem loopsS : LoopsOk Try.prog TB LS 10 1 (resMask Try.f8.results.toList) (loopsOf (resMask Try.f8.results.toList) (bodyOf Try.f8) [] (resMask Try.f8.results.toList)) :=
  loopsOk_ix 1 (by kernel_rfl) ⟨trivial, loopOk_here (n := 0) (by kernel_rfl) rfl loopS⟩
theorem go_keep {N : Nat} {s : St} {a : Int} {f : Nat → Rc} (hN : N ≤ 4611686018427387904) : ∀ (k i : Nat), i + k = N → (goA brkS nxS k ((i : Int), N, s, a, f)).2.2 = (N, s, a, f) ∧ ((goA brkS nxS k ((i : Int), N, s, a, f)).1 = false → ∀ j, i ≤ j → j < N → (f j).kind ≠ 11)
  | 0, i, h => ⟨rfl, fun _ j h1 h2 => by omega⟩
  | k + 1, i, h => by
    simp only [goA]
    have e : brkS ((i : Int), N, s, a, f) = ((f i).kind == 11) := rfl
    rw [e]
    cases hb : (f i).kind == 11 with
    | true => exact ⟨rfl, fun h => by cases h⟩
    | false =>
      rw [nxS_eq (by omega)]
      obtain ⟨h1, h2⟩ := go_keep (s := s) (a := a) (f := f) hN k (i + 1) (by omega)
      refine ⟨h1, fun h3 j h4 h5 => ?_⟩
      by_cases h6 : j = i
      · subst h6; simpa using hb
      · exact h2 h3 j (by omega) h5
def snapR (t : St) : Rc := ⟨11, 0, 0, 0, 0, 0, false, t.phase, t.active, t.rev0, t.rev1, t.want0, t.want1, t.passed0, t.passed1, t.delay, t.gen, t.switch, t.flip⟩
@[reducible] noncomputable def C0 (s : St) (N M : Nat) (f : Nat → Rc) : St × Nat := allV (A0 s M f).1 (fun j => decRcD (subG (rows f) M j)) (N - M)
@[reducible] def snapG (t : St) (M : Nat) (f : Nat → Rc) : Nat → List CV := catG (rowGet 19 (encRc (snapR t))) (subG (rows f) M) 1
@[reducible] noncomputable def E0 (s : St) (N M : Nat) (f : Nat → Rc) : St × Nat := allV z0 (fun j => decRcD (snapG (A0 s M f).1 M f j)) (addI 1 (N - M))
@[reducible] noncomputable def treeS {R : Type} (N : Nat) (s : St) (a : Int) (f : Nat → Rc) (K : TV → List (Option SB) → Option R) : Option R :=
  bif decide (N ≤ N) then bif decide (N ≤ 4294967296) then bif decide (N ≤ N) && decide (N ≤ 4611686018427387904) then bif chkN (rows f) N then bif true && decide (0 ≤ a) && decide (a ≤ (N : Int)) then bif decide (a.toNat ≤ N) then bif decide (a.toNat ≤ 4294967296) then
  bif decide (a.toNat ≤ a.toNat) && decide (a.toNat ≤ 4611686018427387904) then bif chkN (rows f) a.toNat then
    bif decide (((A0 s a.toNat f).2 : Int) < a) then bif ((A0 s N f).2 : Int) == ((A0 s a.toNat f).2 : Int) then K (.s (bl (eqSt (A0 s N f).1 (A0 s a.toNat f).1))) [some (.ro 19 (.gen N (rows f)))] else K (.s (bl false)) [some (.ro 19 (.gen N (rows f)))]
    else bif decide (0 ≤ a) && decide (a ≤ (N : Int)) && decide ((N : Int) ≤ (N : Int)) then bif decide (addI a.toNat (N - a.toNat) ≤ N) then bif decide (N - a.toNat ≤ 4294967296) then bif decide (N - a.toNat ≤ N - a.toNat) && decide (N - a.toNat ≤ 4611686018427387904) then
      bif chkN (subG (rows f) a.toNat) (N - a.toNat) then bif decide (0 ≤ a) && decide (a ≤ (N : Int)) && decide ((N : Int) ≤ (N : Int)) then bif decide (addI a.toNat (N - a.toNat) ≤ N) then bif decide (addI 1 (N - a.toNat) ≤ 4294967296) then
      bif decide (addI 1 (N - a.toNat) ≤ addI 1 (N - a.toNat)) && decide (addI 1 (N - a.toNat) ≤ 4611686018427387904) then bif chkN (snapG (A0 s a.toNat f).1 a.toNat f) (addI 1 (N - a.toNat)) then
        bif eqSt (A0 s N f).1 (C0 s N a.toNat f).1 then bif ((A0 s N f).2 : Int) == IntKind.i64.wrap (a + ((C0 s N a.toNat f).2 : Int)) then bif eqSt (E0 s N a.toNat f).1 (C0 s N a.toNat f).1 then
          K (.s (bl (((E0 s N a.toNat f).2 : Int) == IntKind.i64.wrap (1 + ((C0 s N a.toNat f).2 : Int))))) [some (.ro 19 (.gen N (rows f)))] else K (.s (bl false)) [some (.ro 19 (.gen N (rows f)))] else K (.s (bl false)) [some (.ro 19 (.gen N (rows f)))] else K (.s (bl false)) [some (.ro 19 (.gen N (rows f)))]
      else none else none else none else none else none else none else none else none else none else none
  else none else none else none else none else none else none else none else none else none
@[reducible] noncomputable def resS (N : Nat) (s : St) (a : Int) (f : Nat → Rc) : Bool × SP := goA brkS nxS (N - 0) (0, N, s, a, f)
theorem t_FoldSnaps {R : Type} (s : St) (N : Nat) (f : Nat → Rc) (a : Int) (K : TV → List (Option SB) → Option R) : runFnL Try.prog TB LS 10 Try.f8 (bodyOf Try.f8) [.agg (encSt s), .c (.slc 0 0 N), .c (.int .i64 a)] [.ro 19 (.gen N fun i => encRc (f i))] K =
    bif decide ((N : Int) > 200) then K (.s (bl true)) [some (.ro 19 (.gen N (rows f)))] else bif !rightV s then K (.s (bl true)) [some (.ro 19 (.gen N (rows f)))] else bif decide (a < 0) then K (.s (bl true)) [some (.ro 19 (.gen N (rows f)))] else bif decide (a > (N : Int)) then K (.s (bl true)) [some (.ro 19 (.gen N (rows f)))] else
    bif Nat.beq N N && Nat.beq N N && decide ((N : Int) = N) && chkRo encRc decRcD (fun i => encRc (f i)) then bif okS (0, N, s, a, f) then bif (resS N s a f).1 then K (.s (bl true)) [some (.ro 19 (.gen (resS N s a f).2.2.1 (rows (resS N s a f).2.2.2.2.2)))]
      else treeS (resS N s a f).2.2.1 (resS N s a f).2.2.2.1 (resS N s a f).2.2.2.2.1 (resS N s a f).2.2.2.2.2 K else none else none := by kernel_rfl
theorem snap_chk {t : St} {M : Nat} {f : Nat → Rc} {n : Nat} : chkN (snapG t M f) n = true := chkN_true fun j _ => by
  cases j with
  | zero => exact ⟨snapR t, rfl⟩
  | succ j => exact ⟨f (M + j), by show catG _ _ 1 (j + 1) = _; rw [catG_ge (by omega), subG_eq]; rfl⟩
theorem sub_chk {M : Nat} {f : Nat → Rc} {n : Nat} : chkN (subG (rows f) M) n = true := chkN_true fun j _ => ⟨f (M + j), by rw [subG_eq]⟩
theorem C0_eq (s : St) (N M : Nat) (f : Nat → Rc) : C0 s N M f = foldN (fun j => f (M + j)) (N - M) 0 (foldN f M 0 s).1 := by
  show foldN (fun j => decRcD (subG (rows f) M j)) (N - M) 0 _ = _
  have : (fun j => decRcD (subG (rows f) M j)) = fun j => f (M + j) := by funext j; rw [subG_eq]; rfl
  rw [this]
  rfl
theorem E0_eq {s : St} {N M : Nat} {f : Nat → Rc} (hr : rightV (foldN f M 0 s).1 = true) (hk : ∀ j, j < N → (f j).kind ≠ 11) (hM : M ≤ N) : E0 s N M f = ((C0 s N M f).1, 1 + (C0 s N M f).2) := by
  rw [C0_eq]
  show foldN (fun j => decRcD (snapG (foldN f M 0 s).1 M f j)) (addI 1 (N - M)) 0 z0 = _
  generalize (foldN f M 0 s).1 = t at hr ⊢
  have e1 : addI 1 (N - M) = (N - M) + 1 := by rw [addI_eq]; omega
  rw [e1]
  have hh : ∀ j, decRcD (snapG t M f (1 + j)) = f (M + j) := fun j => by
    show decRcD (catG _ _ 1 (1 + j)) = _
    rw [catG_ge (by omega), subG_eq, show 1 + j - 1 = j by omega]
    rfl
  have h0 : doV ((0 : Nat) : Int) z0 (decRcD (snapG t M f 0)) = (t, true) := by
    show (bif rightV t then (t, true) else (z0, false)) = _
    rw [hr]
    rfl
  simp only [foldN]
  rw [h0]
  simp only [cond_true]
  have := fold_shift (f := fun j => decRcD (snapG t M f j)) (d := 1) (N - M) 0 t (fun j hj => by
    show (decRcD (snapG t M f (1 + (0 + j)))).kind ≠ 11
    rw [Nat.zero_add, hh]
    exact hk _ (by omega))
  rw [show 0 + 1 = 1 + 0 by omega, this]
  have e2 : (fun j => decRcD (snapG t M f (1 + j))) = fun j => f (M + j) := by funext j; exact hh j
  rw [e2]
theorem A0_eq {s : St} {N M : Nat} {f : Nat → Rc} (hk : ∀ j, j < N → (f j).kind ≠ 11) (hM : M ≤ N) : A0 s N f = if (A0 s M f).2 < M then A0 s M f else ((C0 s N M f).1, M + (C0 s N M f).2) := by
  rw [C0_eq]
  show foldN f N 0 s = if (foldN f M 0 s).2 < M then foldN f M 0 s else _
  have := fold_split (f := f) (N - M) M 0 s
  rw [show M + (N - M) = N by omega, Nat.zero_add] at this
  rw [this]
  split
  · rfl
  · have := fold_shift (f := f) (d := M) (N - M) 0 (foldN f M 0 s).1 (fun j hj => hk _ (by omega))
    rw [Nat.add_zero] at this
    rw [this]
theorem FoldSnaps (s : St) (N : Nat) (f : Nat → Rc) (a : Int) (q_s : wfSt s) (q_l : ∀ i, i < N → wfRc (f i)) (q_a : (Lit.int .i64 a).wf = true) (w : World) (v_s : Value) (hv_s : ∀ X ρ, (SV.agg (encSt s)).R X ρ v_s) (v : Value) (l : Sx.Loc) (hs : SlcR l 0 N v) (hb : BlkR (outer w fun _ _ => False) (rho1 l) l (.ro 19 (.gen N fun i => encRc (f i))) w) :
    Calls Try.prog 8 #[v_s, v, .int .i64 a] w fun e w' => e = .returned (.bool true) ∧ RowKit.Below w.heap.size w w' := by
  refine law_callsL okTB mixed Try.func8 (c := bodyOf Try.f8) (by kernel_rfl) lawK_spec (fuel := 10) (args := [.agg (encSt s), .c (.slc 0 0 N), .c (.int .i64 a)]) (hp0 := [.ro 19 (.gen N fun i => encRc (f i))]) (X := fun _ _ => False) (ρ := rho1 l) (vs := [v_s, v, .int .i64 a]) loopsS ?_ ⟨hv_s _ _, ⟨l, rfl, hs⟩, rfl, trivial⟩ (blk1 hb) rho1_out
  rw [t_FoldSnaps]
  by_cases c1 : (N : Int) > 200
  · rw [decide_eq_true c1]; rfl
  rw [decide_eq_false c1, cond_false]
  cases hr : rightV s with
  | false => rfl
  | true =>
  by_cases c3 : a < 0
  · rw [decide_eq_true c3]; rfl
  by_cases c4 : a > (N : Int)
  · rw [decide_eq_true c4, decide_eq_false c3]; rfl
  rw [decide_eq_false c3, decide_eq_false c4, chkRo_true backRc, show (Nat.beq N N && Nat.beq N N && decide ((N : Int) = N) && true) = true by simp, show okS (0, N, s, a, f) = true by simp only [okS, decide_eq_true_eq]; omega]
  simp only [Bool.not_true, cond_false, cond_true]
  obtain ⟨g1, g2⟩ := go_keep (N := N) (s := s) (a := a) (f := f) (by omega) N 0 (by omega)
  have g1 : (resS N s a f).2.2 = (N, s, a, f) := g1
  cases hres : (resS N s a f).1 with
  | true => rfl
  | false =>
  have hk : ∀ j, j < N → (f j).kind ≠ 11 := fun j hj => g2 hres j (by omega) hj
  rw [cond_false, g1]
  simp only
  have hM : a.toNat ≤ N := by omega
  have hA := A0_eq (s := s) (f := f) hk hM
  have hrB : rightV (A0 s a.toNat f).1 = true := fold_right a.toNat 0 s hr
  have hE := E0_eq (s := s) (f := f) hrB hk hM
  have hC : (C0 s N a.toNat f).2 ≤ N - a.toNat := by
    rw [C0_eq]
    have := fold_le (f := fun j => f (a.toNat + j)) (N - a.toNat) 0 (foldN f a.toNat 0 s).1
    omega
  unfold treeS
  rw [decide_eq_true (show N ≤ N by omega), decide_eq_true (show N ≤ 4294967296 by omega), decide_eq_true (show N ≤ 4611686018427387904 by omega), chkN_true (get := rows f) (n := N) (fun j _ => ⟨f j, rfl⟩), decide_eq_true (show 0 ≤ a by omega), decide_eq_true (show a ≤ (N : Int) by omega),
    decide_eq_true hM, decide_eq_true (show a.toNat ≤ 4294967296 by omega), decide_eq_true (show a.toNat ≤ a.toNat by omega), decide_eq_true (show a.toNat ≤ 4611686018427387904 by omega), chkN_true (get := rows f) (n := a.toNat) (fun j _ => ⟨f j, rfl⟩),
    decide_eq_true (show (N : Int) ≤ (N : Int) by omega), decide_eq_true (show addI a.toNat (N - a.toNat) ≤ N by rw [addI_eq]; omega), decide_eq_true (show N - a.toNat ≤ 4294967296 by omega), decide_eq_true (show N - a.toNat ≤ N - a.toNat by omega), decide_eq_true (show N - a.toNat ≤ 4611686018427387904 by omega), sub_chk,
    decide_eq_true (show addI 1 (N - a.toNat) ≤ 4294967296 by rw [addI_eq]; omega), decide_eq_true (show addI 1 (N - a.toNat) ≤ addI 1 (N - a.toNat) by omega), decide_eq_true (show addI 1 (N - a.toNat) ≤ 4611686018427387904 by rw [addI_eq]; omega), snap_chk]
  simp only [cond_true, Bool.and_self]
  by_cases hB : (A0 s a.toNat f).2 < a.toNat
  · rw [if_pos hB] at hA
    rw [hA, decide_eq_true (show ((A0 s a.toNat f).2 : Int) < a by omega), eqSt_refl]
    simp [lawK]
  · rw [if_neg hB] at hA
    rw [hA, hE, decide_eq_false (show ¬ ((A0 s a.toNat f).2 : Int) < a by omega), eqSt_refl, wi (x := a + _) (by omega), wi (x := 1 + _) (by omega)]
    have e1 : (((a.toNat + (C0 s N a.toNat f).2 : Nat) : Int) == a + ((C0 s N a.toNat f).2 : Int)) = true := by
      rw [beq_iff_eq]; omega
    have e2 : (((1 + (C0 s N a.toNat f).2 : Nat) : Int) == 1 + ((C0 s N a.toNat f).2 : Int)) = true := by
      rw [beq_iff_eq]; omega
    simp only [e1, e2, cond_true, cond_false]
    rfl
end Go.Proofs.Ytpfggppoobphmaa.Fold

/- The law ClientTries: true, and no memory that was there is written. -/
import Derived.Test.YtendbpghgllphaaFuses
set_option maxRecDepth 100000
set_option linter.unusedSimpArgs false
set_option linter.unusedVariables false
namespace Go.Proofs.Ytendbpghgllphaa.Rt
open Go Go.Proofs.Ytendbpghgllphaa.Sx
@[reducible] def TA := Int × Bool × Nat × Nat × Int × Cell × Rou × (Nat → Int) × (Nat → Int)
def encTr : TA → Sx.St
  | (i, b, N, M, tries, to, r, f, o) => ⟨[(0, .s (.c (.slc 0 0 M))), (1, .s (.c (.int .i64 tries))), (5, .s (.c (.ptr 1 0))), (8, .s (.c (.ptr 2 0))), (9, .s (.c (.int .i64 i))), (10, .s (.c (.bool b)))], [some (.ro 1 (.gen M fun i => encI (f i))), some (.cells (encCell to)), some (.cells [.int .i64 r.slot, .int .i64 r.gen, .slc 3 r.i0 r.n, .int .i64 r.writes, .ptr 4 0]), some (.vec 1 [] (.gen N fun i => encI (o i))), some (.cells [.int .i64 r.left, .bool r.blown, .int .i64 r.count])], 5, 135⟩
def finTr : TA → Sx.St
  | (i, b, N, M, tries, to, r, f, o) => ⟨[(1, .s (.c (.int .i64 tries))), (5, .s (.c (.ptr 1 0))), (8, .s (.c (.ptr 2 0))), (9, .s (.c (.int .i64 i))), (10, .s (.c (.bool b)))], [some (.ro 1 (.gen M fun i => encI (f i))), some (.cells (encCell to)), some (.cells [.int .i64 r.slot, .int .i64 r.gen, .slc 3 r.i0 r.n, .int .i64 r.writes, .ptr 4 0]), some (.vec 1 [] (.gen N fun i => encI (o i))), some (.cells [.int .i64 r.left, .bool r.blown, .int .i64 r.count])], 5, 135⟩
@[reducible] def TB := Int × Bool × Nat × Nat × Nat × Int × Cell × Rou × (Nat → List CV) × (Nat → List CV)
def decTr : Sx.St → Option TB
  | ⟨[(0, .s (.c (.slc 0 0 M))), (1, .s (.c (.int .i64 tries))), (5, .s (.c (.ptr 1 0))), (8, .s (.c (.ptr 2 0))), (9, .s (.c (.int .i64 i))), (10, .s (.c (.bool b)))], [some (.ro 1 (.gen M' f)), some (.cells [.int .i64 ta, .int .i64 tb]), some (.cells [.int .i64 a, .int .i64 b', .slc 3 i0 nn, .int .i64 w, .ptr 4 0]), some (.vec 1 [] (.gen N o)), some (.cells [.int .i64 l, .bool bl, .int .i64 c])], 5, 135⟩ => some (i, b, N, M, M', tries, ⟨ta, tb⟩, ⟨a, b', w, i0, nn, l, bl, c⟩, f, o)
  | _ => none
noncomputable def chkTr : TB → Bool
  | (_, _, _, M, M', _, _, _, f, o) => Nat.beq M M' && chkRo encI decID f && chkRo encI decID o
def normTr : TB → TA
  | (i, b, N, M, _, tries, to, r, f, o) => (i, b, N, M, tries, to, r, fun j => decID (f j), fun j => decID (o j))
theorem decTr_spec (st : Sx.St) (p : TB) (h : decTr st = some p) (hc : chkTr p = true) : st = encTr (normTr p) := by
  unfold decTr at h
  split at h
  · cases h
    simp only [chkTr, Bool.and_eq_true] at hc
    obtain ⟨⟨g0, g1⟩, g2⟩ := hc
    obtain rfl := Nat.eq_of_beq_eq_true g0
    have g1 := chkRo_spec g1
    have g2 := chkRo_spec g2
    unfold normTr encTr
    simp only
    rw [← g1, ← g2]
    rfl
  · cases h
noncomputable def okTr : TA → Bool
  | (i, _, _, M, _, _, _, _, _) => decide (0 ≤ i ∧ i ≤ M ∧ M ≤ 4611686018427387904)
def cntTr : TA → Nat
  | (i, _, _, M, _, _, _, _, _) => M - i.toNat
def brkTr : TA → Bool
  | (i, _, _, _, _, _, _, f, _) => !(f i.toNat == 1 || f i.toNat == 2)
noncomputable def nxTr : TA → TA
  | (i, b, N, M, tries, to, r, f, o) => (IntKind.i64.wrap (i + 1), b || (f i.toNat == 1 && decide (i < triesV tries)), N, M, tries, to, r, f, o)
@[reducible] noncomputable def LTr : List (Nat × LoopSum) := [(0, formSumC decTr chkTr normTr (goSum okTr cntTr brkTr nxTr (.exit 0) finTr (.exit 0) finTr))]
@[reducible] def stp {R : Type} (i : Int) (b : Bool) (N M : Nat) (tries : Int) (to : Cell) (r : Rou) (f o : Nat → Int) (K : Ex → Sx.St → Option R) : Option R := K .normal (encTr (IntKind.i64.wrap (i + 1), b, N, M, tries, to, r, f, o))
theorem roundTr {R : Type} (L : List (Nat × LoopSum)) (i : Int) (b : Bool) (N M : Nat) (tries : Int) (to : Cell) (r : Rou) (f o : Nat → Int) (K : Ex → Sx.St → Option R) :
    roundK Try.prog SM L 10 1 (resMask Try.f8.results.toList) (lpAt Try.f8 0) (encTr (i, b, N, M, tries, to, r, f, o)) K =
    bif decide (i < (M : Int)) then bif decide (0 ≤ i) && decide (i < (M : Int)) then bif decide (i.toNat < M) then
      bif f i.toNat == 1 then bif b then stp i true N M tries to r f o K else bif decide (0 ≤ i) && decide (i < (M : Int)) then bif decide (i.toNat < M) then bif f i.toNat == 1 then stp i (decide (i < triesV tries)) N M tries to r f o K else stp i false N M tries to r f o K else none else none
      else bif decide (0 ≤ i) && decide (i < (M : Int)) then bif decide (i.toNat < M) then
        bif f i.toNat == 2 then bif b then stp i true N M tries to r f o K else bif decide (0 ≤ i) && decide (i < (M : Int)) then bif decide (i.toNat < M) then bif f i.toNat == 1 then stp i (decide (i < triesV tries)) N M tries to r f o K else stp i false N M tries to r f o K else none else none
        else K (.exit 0) (finTr (i, b, N, M, tries, to, r, f, o)) else none else none else none else none
    else K (.exit 0) (finTr (i, b, N, M, tries, to, r, f, o)) := by kernel_rfl
theorem okTrL : LoopOk Try.prog SM LTr 10 1 (resMask Try.f8.results.toList) (lpAt Try.f8 0) (formSumC decTr chkTr normTr (goSum okTr cntTr brkTr nxTr (.exit 0) finTr (.exit 0) finTr)) := by
  refine LoopOk.go decTr_spec (by simp) (by simp) ?_ ?_ ?_
  · rintro R ⟨i, b, N, M, tries, to, r, f, o⟩ K hok hc hb
    simp only [okTr, decide_eq_true_eq, cntTr] at hok hc
    have hb : (!(f i.toNat == 1 || f i.toNat == 2)) = true := hb
    simp only [Bool.not_eq_true', Bool.or_eq_false_iff] at hb
    rw [roundTr, hb.1, hb.2, decide_eq_true (show i < (M : Int) by omega), decide_eq_true (show 0 ≤ i by omega), decide_eq_true (show i.toNat < M by omega)]
    rfl
  · rintro R ⟨i, b, N, M, tries, to, r, f, o⟩ k K hok hc hb
    simp only [okTr, decide_eq_true_eq, cntTr] at hok hc
    have hb : (!(f i.toNat == 1 || f i.toNat == 2)) = false := hb
    simp only [Bool.not_eq_false', Bool.or_eq_true] at hb
    refine ⟨?_, ?_, ?_⟩
    · rw [roundTr, decide_eq_true (show i < (M : Int) by omega), decide_eq_true (show 0 ≤ i by omega), decide_eq_true (show i.toNat < M by omega)]
      simp only [cond_true, Bool.and_self, stp, nxTr]
      cases h1 : f i.toNat == 1 with
      | true => cases b <;> simp
      | false =>
        have h2 : (f i.toNat == 2) = true := by
          rcases hb with h | h
          · rw [h1] at h; cases h
          · exact h
        rw [h2]
        cases b <;> simp
    · show okTr (IntKind.i64.wrap (i + 1), _, N, M, tries, to, r, f, o) = true
      rw [wi (by omega)]
      simp only [okTr, decide_eq_true_eq]
      omega
    · show M - (IntKind.i64.wrap (i + 1)).toNat = k
      rw [wi (by omega)]
      omega
  · rintro R ⟨i, b, N, M, tries, to, r, f, o⟩ K hok hc
    simp only [okTr, decide_eq_true_eq, cntTr] at hok hc
    rw [roundTr, decide_eq_false (show ¬ i < (M : Int) by omega)]
    rfl
theorem loopsTr : LoopsOk Try.prog SM LTr 10 1 (resMask Try.f8.results.toList) (loopsOf (resMask Try.f8.results.toList) (bodyOf Try.f8) [] (resMask Try.f8.results.toList)) :=
  loopsOk_ix 1 (by kernel_rfl) ⟨trivial, loopOk_here (n := 0) (by kernel_rfl) rfl okTrL⟩
def bad (x : Int) : Prop := x = 1 ∨ x = 2
/-- What the loop comes to. -/
theorem go_tr {N M : Nat} {tries : Int} {to : Cell} {r : Rou} {f o : Nat → Int} (hM : M ≤ 4611686018427387904) : ∀ (k i : Nat) (b : Bool), i + k = M → (∀ j, j < i → bad (f j)) → (b = true ↔ ∃ j, j < i ∧ f j = 1 ∧ (j : Int) < triesV tries) →
    ∃ (n : Nat) (b' : Bool), (goA brkTr nxTr k ((i : Int), b, N, M, tries, to, r, f, o)).2 = ((n : Int), b', N, M, tries, to, r, f, o) ∧ n ≤ M ∧ (∀ j, j < n → bad (f j)) ∧ (n = M ∨ ¬ bad (f n)) ∧ (b' = true ↔ ∃ j, j < n ∧ f j = 1 ∧ (j : Int) < triesV tries)
  | 0, i, b, h, h1, h2 => ⟨i, b, rfl, by omega, h1, .inl (by omega), h2⟩
  | k + 1, i, b, h, h1, h2 => by
    simp only [goA]
    have e : brkTr ((i : Int), b, N, M, tries, to, r, f, o) = !(f i == 1 || f i == 2) := rfl
    rw [e]
    cases hb : (f i == 1 || f i == 2) with
    | false =>
      simp only [Bool.or_eq_false_iff, beq_eq_false_iff_ne] at hb
      exact ⟨i, b, rfl, by omega, h1, .inr (fun h => by rcases h with h | h <;> omega), h2⟩
    | true =>
      simp only [Bool.or_eq_true, beq_iff_eq] at hb
      have e2 : nxTr ((i : Int), b, N, M, tries, to, r, f, o) = (((i + 1 : Nat) : Int), b || (f i == 1 && decide ((i : Int) < triesV tries)), N, M, tries, to, r, f, o) := by
        show (IntKind.i64.wrap ((i : Int) + 1), _, N, M, tries, to, r, f, o) = _
        rw [wi (by omega)]
        rfl
      rw [e2]
      refine go_tr hM k (i + 1) _ (by omega) (fun j hj => ?_) ?_
      · by_cases hji : j = i
        · subst hji; exact hb
        · exact h1 j (by omega)
      · simp only [Bool.or_eq_true, Bool.and_eq_true, beq_iff_eq, decide_eq_true_eq]
        constructor
        · rintro (h | h)
          · obtain ⟨j, q1, q2⟩ := h2.1 h
            exact ⟨j, by omega, q2⟩
          · exact ⟨i, by omega, h⟩
        · rintro ⟨j, q1, q2, q3⟩
          by_cases hji : j = i
          · subst hji; exact .inr ⟨q2, q3⟩
          · exact .inl (h2.2 ⟨j, by omega, q2, q3⟩)
/-- The route, as far as it was set. -/
structure CellP (r : Rou) (to : Cell) (P : Prop) : Prop where
  yes : P → r.slot = to.slot ∧ r.gen = to.gen ∧ r.writes = 1
  no : ¬ P → r.slot = 0 ∧ r.gen = 0 ∧ r.writes = 0
theorem setG_tries {f : Nat → Int} {to : Cell} {T N n : Nat} (hs : to.slot = 0 ∨ to.slot = 1) (hg : 1 ≤ to.gen ∧ to.gen ≤ 1048576) (hn : n ≤ N) (hb : ∀ j, j < n → bad (f j)) (hnb : n = N ∨ ¬ bad (f n)) : ∀ (k j : Nat) (r : Rou), j < T → T ≤ j + k → j ≤ n → r.left = -1 → r.blown = false → r.i0 = j → r.i0 + r.n = N → CellP r to (∃ l, l < j ∧ f l = 1) →
    (n < T → (setG f to T k ((j : Int) + 1) r).1 = 0 ∧ (setG f to T k ((j : Int) + 1) r).2.1 = n + 1 ∧ (setG f to T k ((j : Int) + 1) r).2.2.slot = to.slot ∧ (setG f to T k ((j : Int) + 1) r).2.2.gen = to.gen ∧ (setG f to T k ((j : Int) + 1) r).2.2.writes = 1) ∧
    (T ≤ n → (setG f to T k ((j : Int) + 1) r).1 = 10 ∧ (setG f to T k ((j : Int) + 1) r).2.1 = T ∧ CellP (setG f to T k ((j : Int) + 1) r).2.2 to (∃ l, l < T ∧ f l = 1))
  | 0, j, r, h1, h2, _, _, _, _, _, _ => by omega
  | k + 1, j, r, h1, h2, h3, h4, h5, h6, h7, h8 => by
    have hcell : (r.slot = 0 ∧ r.gen = 0 ∧ r.writes = 0) ∨ (r.slot = to.slot ∧ r.gen = to.gen ∧ r.writes = 1) := by
      by_cases hP : ∃ l, l < j ∧ f l = 1
      · exact .inr (h8.yes hP)
      · exact .inl (h8.no hP)
    have hc := call_free (o := f) h4 h5 hs hg
    have hsc := set_cases r f to.gen to.slot hg.1 hcell
    unfold setG
    by_cases hjn : j = n
    · have ho : ¬ bad (outc r f) := by
        unfold outc
        by_cases h0 : r.n = 0
        · rw [if_pos h0]; intro h; rcases h with h | h <;> omega
        · rw [if_neg h0, h6, hjn]
          rcases hnb with h | h
          · omega
          · exact h
      have ho2 : ¬ outc r f = 2 := fun h => ho (.inr h)
      have ho1 : ¬ outc r f = 1 := fun h => ho (.inl h)
      rw [if_neg ho2, if_neg ho1] at hc
      have e1 : ((callV r f to.gen to.slot).1 != 10) = true := by rw [hc, hsc.1]; rfl
      rw [e1, cond_true, hc]
      refine ⟨fun _ => ⟨hsc.1, by simp only; omega, ?_⟩, fun h => by omega⟩
      rw [hsc.2]
      simp
    · have hbj := hb j (by omega)
      have h0 : r.n ≠ 0 := by omega
      have ho : outc r f = f j := by unfold outc; rw [if_neg h0, h6]
      rw [ho] at hc
      have e3 : (used r).i0 = r.i0 + 1 := by unfold used; simp [h0]
      have e4 : (used r).n = r.n - 1 := rfl
      have key : (callV r f to.gen to.slot).1 = 10 ∧ (callV r f to.gen to.slot).2.left = -1 ∧ (callV r f to.gen to.slot).2.blown = false ∧ (callV r f to.gen to.slot).2.i0 = j + 1 ∧ (callV r f to.gen to.slot).2.i0 + (callV r f to.gen to.slot).2.n = N ∧ CellP (callV r f to.gen to.slot).2 to (∃ l, l < j + 1 ∧ f l = 1) := by
        rw [hc]
        by_cases h22 : f j = 2
        · rw [if_pos h22]
          refine ⟨rfl, h4, h5, by rw [e3]; omega, by rw [e3, e4]; omega, ⟨?_, ?_⟩⟩
          · rintro ⟨l, q1, q2⟩
            have : l ≠ j := by rintro rfl; omega
            exact h8.yes ⟨l, by omega, q2⟩
          · intro hno
            exact h8.no fun ⟨l, q1, q2⟩ => hno ⟨l, by omega, q2⟩
        · have h21 : f j = 1 := by rcases hbj with h | h <;> omega
          rw [if_neg h22, if_pos h21]
          simp only
          rw [hsc.2]
          exact ⟨trivial, h4, h5, by simp only; omega, by simp only; omega, ⟨fun _ => ⟨rfl, rfl, rfl⟩, fun hno => absurd ⟨j, by omega, h21⟩ hno⟩⟩
      obtain ⟨k1, k2, k3, k4, k5, k6⟩ := key
      have e1 : ((callV r f to.gen to.slot).1 != 10) = false := by rw [k1]; rfl
      rw [e1, cond_false]
      by_cases hjT : j + 1 = T
      · have e5 : (((j : Int) + 1) == (T : Int)) = true := by rw [beq_iff_eq]; omega
        rw [e5, cond_true]
        refine ⟨fun h => by omega, fun _ => ⟨k1, by simp only; omega, ?_⟩⟩
        rw [← hjT]
        exact k6
      · have e5 : (((j : Int) + 1) == (T : Int)) = false := by rw [beq_eq_false_iff_ne]; omega
        rw [e5, cond_false]
        have := setG_tries (T := T) hs hg hn hb hnb k (j + 1) (callV r f to.gen to.slot).2 (by omega) (by omega) (by omega) k2 k3 k4 k5 k6
        rw [show ((j + 1 : Nat) : Int) + 1 = (j : Int) + 1 + 1 by omega] at this
        exact this
@[reducible] def ro0 (N : Nat) (f : Nat → Int) : List (Option SB) := [some (.ro 1 (.gen N fun i => encI (f i)))]
@[reducible] noncomputable def isTo (r : Rou) (to : Cell) : Bool := r.slot == to.slot && (r.gen == to.gen && true)
@[reducible] noncomputable def treeT {R : Type} (p : TA) (K : TV → List (Option SB) → Option R) : Option R := match p with
  | (i, b, N, M, tries, to, r, f, o) => bif chkB r N (fun i => encI (o i)) then bif decide (i < triesV tries) then
      bif (csetV r o to tries).1 == 0 then bif (csetV r o to tries).2.1 == IntKind.i64.wrap (i + 1) then bif chkB (csetV r o to tries).2.2 N (fun i => encI (o i)) then bif isTo (csetV r o to tries).2.2 to then bif chkB (csetV r o to tries).2.2 N (fun i => encI (o i)) then
        K (.s (bl ((csetV r o to tries).2.2.writes == 1))) (ro0 M f) else none else K (.s (bl false)) (ro0 M f) else none else K (.s (bl false)) (ro0 M f) else K (.s (bl false)) (ro0 M f)
      else bif (csetV r o to tries).1 == 10 then bif (csetV r o to tries).2.1 == triesV tries then bif chkB (csetV r o to tries).2.2 N (fun i => encI (o i)) then K (.s (bl (isTo (csetV r o to tries).2.2 to == b))) (ro0 M f) else none else K (.s (bl false)) (ro0 M f) else K (.s (bl false)) (ro0 M f) else none
@[reducible] noncomputable def resT (N : Nat) (tries : Int) (to : Cell) (f : Nat → Int) : Bool × TA := goA brkTr nxTr (N - 0) (0, false, N, N, tries, to, r0 N, f, f)
@[reducible] noncomputable def midT {R : Type} (N : Nat) (f : Nat → Int) (tries : Int) (to : Cell) (K : TV → List (Option SB) → Option R) : Option R :=
  bif decide (to.gen < 1) then K (.s (bl true)) (ro0 N f) else bif decide (to.gen > 1048576) then K (.s (bl true)) (ro0 N f) else
  bif decide (N ≤ N) then bif decide (N ≤ 4294967296) then bif decide (N ≤ N) && decide (N ≤ 4294967296) then bif Nat.beq N N && chkRo encI decID (fun i => encI (f i)) && chkRo encI decID (fun i => encI (f i)) then bif okTr (0, false, N, N, tries, to, r0 N, f, f) then
    bif (resT N tries to f).1 then treeT (resT N tries to f).2 K else treeT (resT N tries to f).2 K else none else none else none else none else none
theorem t_ClientTries {R : Type} (N : Nat) (f : Nat → Int) (tries : Int) (to : Cell) (K : TV → List (Option SB) → Option R) : runFnL Try.prog SM LTr 10 Try.f8 (bodyOf Try.f8) [.c (.slc 0 0 N), .c (.int .i64 tries), .agg (encCell to)] [.ro 1 (.gen N fun i => encI (f i))] K =
    bif decide ((N : Int) > 50) then K (.s (bl true)) (ro0 N f) else bif to.slot != 0 then bif to.slot != 1 then K (.s (bl true)) (ro0 N f) else midT N f tries to K else midT N f tries to K := by kernel_rfl
theorem ClientTries (N : Nat) (f : Nat → Int) (tries : Int) (to : Cell) (q_l : ∀ i, i < N → wfI (f i)) (q_t : (Lit.int .i64 tries).wf = true) (q_to : wfCell to) (w : World) (v : Value) (l : Sx.Loc) (hs : SlcR l 0 N v) (hb : BlkR (outer w fun _ _ => False) (rho1 l) l (.ro 1 (.gen N fun i => encI (f i))) w)
    (v_t : Value) (hv_t : ∀ X ρ, (SV.agg (encCell to)).R X ρ v_t) :
    Calls Try.prog 8 #[v, .int .i64 tries, v_t] w fun e w' => e = .returned (.bool true) ∧ RowKit.Below w.heap.size w w' := by
  refine law_callsL okSM mixed Try.func8 (c := bodyOf Try.f8) (by kernel_rfl) lawK_spec (fuel := 10) (args := [.c (.slc 0 0 N), .c (.int .i64 tries), .agg (encCell to)]) (hp0 := [.ro 1 (.gen N fun i => encI (f i))]) (X := fun _ _ => False) (ρ := rho1 l) (vs := [v, .int .i64 tries, v_t]) loopsTr ?_ ⟨⟨l, rfl, hs⟩, rfl, hv_t _ _, trivial⟩ (blk1 hb) rho1_out
  rw [t_ClientTries]
  by_cases c1 : (N : Int) > 50
  · rw [decide_eq_true c1]; rfl
  rw [decide_eq_false c1, cond_false]
  have hm : (to.slot = 0 ∨ to.slot = 1) → midT N f tries to lawK = some () := by
    intro hsl
    unfold midT
    by_cases c2 : to.gen < 1
    · rw [decide_eq_true c2]; rfl
    by_cases c3 : to.gen > 1048576
    · rw [decide_eq_false c2, decide_eq_true c3]; rfl
    have hok : okTr (0, false, N, N, tries, to, r0 N, f, f) = true := by simp only [okTr, decide_eq_true_eq]; omega
    rw [decide_eq_false c2, decide_eq_false c3, decide_eq_true (show N ≤ N by omega), decide_eq_true (show N ≤ 4294967296 by omega), chkRo_true backI, hok, show (Nat.beq N N && true && true) = true by simp]
    simp only [cond_true, cond_false, Bool.and_self]
    obtain ⟨n, b', g1, g2, g3, g4, g5⟩ := go_tr (N := N) (M := N) (tries := tries) (to := to) (r := r0 N) (f := f) (o := f) (by omega) N 0 false (by omega) (fun j hj => by omega) ⟨fun h => (by cases h), fun ⟨j, hj, _⟩ => (by omega)⟩
    have g1 : (resT N tries to f).2 = ((n : Int), b', N, N, tries, to, r0 N, f, f) := g1
    rw [g1, Bool.cond_self]
    have hcl := clamp_b tries
    obtain ⟨T, hT⟩ : ∃ T : Nat, clamp tries = T := ⟨(clamp tries).toNat, by omega⟩
    rw [tries_clamp] at g5
    obtain ⟨y1, y2⟩ := setG_tries (f := f) (to := to) (T := T) hsl (by omega) g2 g3 g4 8 0 (r0 N) (by omega) (by omega) (by omega) rfl rfl rfl (by simp) ⟨fun ⟨l, hl, _⟩ => (by omega), fun _ => ⟨rfl, rfl, rfl⟩⟩
    unfold treeT
    simp only
    rw [tries_clamp, chkB_cset, chkB_true (r := r0 N) (by simp)]
    have ey : csetV (r0 N) f to tries = setG f to T 8 (((0 : Nat) : Int) + 1) (r0 N) := by
      show setG f to (clamp tries) 8 1 (r0 N) = _
      rw [hT]
      rfl
    rw [ey, hT]
    rw [hT] at g5
    generalize setG f to T 8 (((0 : Nat) : Int) + 1) (r0 N) = y at y1 y2 ⊢
    by_cases hnT : n < T
    · obtain ⟨p1, p2, p3, p4, p5⟩ := y1 hnT
      rw [decide_eq_true (show (n : Int) < (T : Int) by omega), p1, p2, p5, wi (by omega)]
      unfold isTo
      rw [p3, p4]
      simp [lawK]
    · obtain ⟨p1, p2, p3⟩ := y2 (by omega)
      rw [decide_eq_false (show ¬ (n : Int) < (T : Int) by omega), p1, p2]
      have : isTo y.2.2 to = b' := by
        unfold isTo
        by_cases hP : ∃ l, l < T ∧ f l = 1
        · obtain ⟨q1, q2, _⟩ := p3.yes hP
          obtain ⟨l, hl1, hl2⟩ := hP
          have : b' = true := g5.2 ⟨l, by omega, hl2, by omega⟩
          rw [this, q1, q2]
          simp
        · obtain ⟨q1, q2, _⟩ := p3.no hP
          have : b' = false := by
            cases b' with
            | false => rfl
            | true =>
              obtain ⟨l, hl1, hl2, hl3⟩ := g5.1 rfl
              exact absurd ⟨l, by omega, hl2⟩ hP
          rw [this, q2]
          have : ((0 : Int) == to.gen) = false := by rw [beq_eq_false_iff_ne]; omega
          rw [this]
          simp
      rw [this]
      simp [lawK]
  by_cases d0 : to.slot = 0
  · have e : (to.slot != 0) = false := by simp [d0]
    rw [e]
    exact hm (.inl d0)
  · have e : (to.slot != 0) = true := by simp [d0]
    rw [e]
    by_cases d1 : to.slot = 1
    · have e : (to.slot != 1) = false := by simp [d1]
      rw [e]
      exact hm (.inr d1)
    · have e : (to.slot != 1) = true := by simp [d1]
      rw [e]
      rfl
end Go.Proofs.Ytendbpghgllphaa.Rt

/- The law RouterLost: true, and no memory that was there is written. -/
import Derived.Test.YtendbpghgllphaaRt3
set_option maxRecDepth 100000
set_option linter.unusedSimpArgs false
set_option linter.unusedVariables false
namespace Go.Proofs.Ytendbpghgllphaa.Rt
open Go Go.Proofs.Ytendbpghgllphaa.Sx
def wfI (x : Int) : Prop := (Lit.int .i64 x).wf = true
theorem opI (cvs : List CV) (vs : List Value) (h : LeafRs [.int .i64] cvs vs) : ∃ x, cvs = encI x ∧ wfI x := by
  obtain ⟨_, _, _, _, rfl, rfl, ⟨a0, rfl, rfl, w0⟩, h0⟩ := h.cons_inv
  obtain ⟨rfl, rfl⟩ := h0.nil_inv
  exact ⟨a0, rfl, w0⟩
/-- The outcome that comes next. -/
def outc (r : Rou) (o : Nat → Int) : Int := if r.n = 0 then 0 else o r.i0
/-- A call is counted, and uses an outcome. -/
def used (r : Rou) : Rou := ⟨r.slot, r.gen, r.writes, if r.n = 0 then r.i0 else r.i0 + 1, r.n - 1, r.left, r.blown, IntKind.i64.wrap (r.count + 1)⟩
theorem call_free {r : Rou} {o : Nat → Int} {gen slot : Int} (hl : r.left = -1) (hb : r.blown = false) (hs : slot = 0 ∨ slot = 1) (hg : 1 ≤ gen ∧ gen ≤ 1048576) :
    callV r o gen slot = if outc r o = 2 then (10, used r) else if outc r o = 1 then (10, (setV (used r) o ⟨slot, gen⟩).2) else setV (used r) o ⟨slot, gen⟩ := by
  obtain ⟨a, b, w, i, n, l, bl, c⟩ := r
  simp only at hl hb
  subst hl hb
  have e0 : (!(slot == 0 || slot == 1) || (decide (gen < 1) || decide (gen > 1048576))) = false := by
    rcases hs with rfl | rfl <;> simp <;> omega
  unfold callV
  rw [e0]
  have e1 : spendV (fu ⟨a, b, w, i, n, -1, false, c⟩) = (true, ⟨-1, false, IntKind.i64.wrap (c + 1)⟩) := by simp [spendV, fu]
  have e2 : nextV (spend1 ⟨a, b, w, i, n, -1, false, c⟩) o = (outc ⟨a, b, w, i, n, -1, false, c⟩ o, used ⟨a, b, w, i, n, -1, false, c⟩) := by
    unfold spend1
    rw [e1]
    unfold nextV putF outc used
    by_cases h : n = 0
    · subst h; simp
    · have e3 : ((n : Int) == 0) = false := by simp [h]
      simp only [e3, cond_false, addI_eq, Nat.add_zero, if_neg h]
  rw [e1, e2]
  simp only [cond_false, Bool.not_true]
  by_cases h2 : outc ⟨a, b, w, i, n, -1, false, c⟩ o = 2
  · have e4 : (outc ⟨a, b, w, i, n, -1, false, c⟩ o == 2) = true := by rw [beq_iff_eq]; exact h2
    rw [if_pos h2, e4]
    rfl
  · have e4 : (outc ⟨a, b, w, i, n, -1, false, c⟩ o == 2) = false := by rw [beq_eq_false_iff_ne]; exact h2
    rw [if_neg h2, e4, cond_false]
    by_cases h1 : outc ⟨a, b, w, i, n, -1, false, c⟩ o = 1
    · have e5 : (outc ⟨a, b, w, i, n, -1, false, c⟩ o == 1) = true := by rw [beq_iff_eq]; exact h1
      rw [if_pos h1, e5]
      rfl
    · have e5 : (outc ⟨a, b, w, i, n, -1, false, c⟩ o == 1) = false := by rw [beq_eq_false_iff_ne]; exact h1
      rw [if_neg h1, e5]
      rfl

@[reducible] def LA := Int × Int × Nat × Nat × Int × Int × Rou × (Nat → Int) × (Nat → Int)
def encLost : LA → Sx.St
  | (i, m, N, M, gen, slot, r, f, o) => ⟨[(1, .s (.c (.int .i64 gen))), (2, .s (.c (.int .i64 slot))), (8, .s (.c (.ptr 1 0))), (49, .s (.c (.int .i64 m))), (50, .s (.c (.int .i64 i)))], [some (.ro 1 (.gen M fun i => encI (f i))), some (.cells [.int .i64 r.slot, .int .i64 r.gen, .slc 2 r.i0 r.n, .int .i64 r.writes, .ptr 3 0]), some (.vec 1 [] (.gen N fun i => encI (o i))), some (.cells [.int .i64 r.left, .bool r.blown, .int .i64 r.count])], 4, 81⟩
@[reducible] def LB := Int × Int × Nat × Nat × Int × Int × Rou × (Nat → List CV) × (Nat → List CV)
def decLost : Sx.St → Option LB
  | ⟨[(1, .s (.c (.int .i64 gen))), (2, .s (.c (.int .i64 slot))), (8, .s (.c (.ptr 1 0))), (49, .s (.c (.int .i64 m))), (50, .s (.c (.int .i64 i)))], [some (.ro 1 (.gen M f)), some (.cells [.int .i64 a, .int .i64 b, .slc 2 i0 n, .int .i64 w, .ptr 3 0]), some (.vec 1 [] (.gen N o)), some (.cells [.int .i64 l, .bool bl, .int .i64 c])], 4, 81⟩ => some (i, m, N, M, gen, slot, ⟨a, b, w, i0, n, l, bl, c⟩, f, o)
  | _ => none
noncomputable def chkLost : LB → Bool
  | (_, _, _, _, _, _, _, f, o) => chkRo encI decID f && chkRo encI decID o
def normLost : LB → LA
  | (i, m, N, M, gen, slot, r, f, o) => (i, m, N, M, gen, slot, r, fun j => decID (f j), fun j => decID (o j))
theorem decLost_spec (st : Sx.St) (p : LB) (h : decLost st = some p) (hc : chkLost p = true) : st = encLost (normLost p) := by
  unfold decLost at h
  split at h
  · cases h
    simp only [chkLost, Bool.and_eq_true] at hc
    have g1 := chkRo_spec hc.1
    have g2 := chkRo_spec hc.2
    unfold normLost encLost
    simp only
    rw [← g1, ← g2]
  · cases h
def retT (M : Nat) (f : Nat → Int) (b : Bool) : Sx.St := ⟨[(6, .s (.c (.bool b)))], [some (.ro 1 (.gen M fun i => encI (f i)))], 1, 81⟩
structure Lost (p : LA) : Prop where
  i : 0 ≤ p.1 ∧ p.1 ≤ p.2.2.1
  m : p.2.1 = p.2.2.1 + 1
  N : p.2.2.1 ≤ 100
  gen : 1 ≤ p.2.2.2.2.1 ∧ p.2.2.2.2.1 ≤ 1048576
  slot : p.2.2.2.2.2.1 = 0 ∨ p.2.2.2.2.2.1 = 1
  left : p.2.2.2.2.2.2.1.left = -1
  blown : p.2.2.2.2.2.2.1.blown = false
  i0 : (p.2.2.2.2.2.2.1.i0 : Int) = p.1 ∧ p.2.2.2.2.2.2.1.i0 + p.2.2.2.2.2.2.1.n = p.2.2.1
  cell : (p.2.2.2.2.2.2.1.slot = 0 ∧ p.2.2.2.2.2.2.1.gen = 0 ∧ p.2.2.2.2.2.2.1.writes = 0) ∨ (p.2.2.2.2.2.2.1.slot = p.2.2.2.2.2.1 ∧ p.2.2.2.2.2.2.1.gen = p.2.2.2.2.1 ∧ p.2.2.2.2.2.2.1.writes = 1)
noncomputable def goodL (p : LA) : Bool := @decide (Lost p) (Classical.propDecidable _)
noncomputable def tLost (p : LA) (R : Type) (K : Ex → Sx.St → Option R) : Option R := bif goodL p then K .ret (retT p.2.2.2.1 p.2.2.2.2.2.2.2.1 true) else none
@[reducible] noncomputable def LLost : List (Nat × LoopSum) := [(0, formSumC decLost chkLost normLost tLost)]
theorem roundLost {R : Type} (L : List (Nat × LoopSum)) (i m : Int) (N M : Nat) (gen slot : Int) (r : Rou) (f o : Nat → Int) (K : Ex → Sx.St → Option R) :
    roundK Try.prog SM L 10 1 (resMask Try.f4.results.toList) (lpAt Try.f4 0) (encLost (i, m, N, M, gen, slot, r, f, o)) K =
    bif decide (i < m) then bif chkB r N (fun i => encI (o i)) then bif (callV r o gen slot).1 == 0 then bif chkB (callV r o gen slot).2 N (fun i => encI (o i)) then
      bif (writesV (callV r o gen slot).2 o).1 == 1 then bif chkB (callV r o gen slot).2 N (fun i => encI (o i)) then
        bif (callV r o gen slot).2.slot == slot && ((callV r o gen slot).2.gen == gen && true) then bif chkB (callV r o gen slot).2 N (fun i => encI (o i)) then
          bif (callV (callV r o gen slot).2 o gen slot).1 != 11 then bif chkB (callV (callV r o gen slot).2 o gen slot).2 N (fun i => encI (o i)) then K .ret (retT M f ((callV (callV r o gen slot).2 o gen slot).2.writes == 1)) else none
          else K .ret (retT M f false) else none else K .ret (retT M f false) else none else K .ret (retT M f false) else none
      else K .normal (encLost (IntKind.i64.wrap (i + 1), m, N, M, gen, slot, (callV r o gen slot).2, f, o)) else none
    else K (.exit 0) ⟨[], [some (.ro 1 (.gen M fun i => encI (f i)))], 1, 81⟩ := by kernel_rfl
theorem set_cases (r : Rou) (o : Nat → Int) (gen slot : Int) (hg : 1 ≤ gen) (h : (r.slot = 0 ∧ r.gen = 0 ∧ r.writes = 0) ∨ (r.slot = slot ∧ r.gen = gen ∧ r.writes = 1)) :
    (setV (used r) o ⟨slot, gen⟩).1 = 0 ∧ (setV (used r) o ⟨slot, gen⟩).2 = ⟨slot, gen, 1, (used r).i0, (used r).n, r.left, r.blown, (used r).count⟩ := by
  obtain ⟨a, b, w, i, n, l, bl, c⟩ := r
  simp only at h
  rcases h with ⟨rfl, rfl, rfl⟩ | ⟨rfl, rfl, rfl⟩
  · have e : decide (gen > 0) = true := by simp; omega
    simp [setV, used, e, show IntKind.i64.wrap 1 = 1 from by decide]
  · simp [setV, used]
theorem okLost : LoopOk Try.prog SM LLost 10 1 (resMask Try.f4.results.toList) (lpAt Try.f4 0) (formSumC decLost chkLost normLost tLost) := by
  refine LoopOk.ofC decLost_spec (fun p => (p.2.1 - p.1).toNat) ?_
  rintro ⟨i, m, N, M, gen, slot, r, f, o⟩ R K x h
  unfold tLost at h
  cases hg : goodL (i, m, N, M, gen, slot, r, f, o) with
  | false => rw [hg] at h; cases h
  | true =>
    rw [hg, cond_true] at h
    have hg := (@decide_eq_true_eq _ (Classical.propDecidable _)).mp hg
    obtain ⟨h1, h2, h3, h4, h5, h6, h7, h8, h9⟩ := hg
    simp only at h1 h2 h3 h4 h5 h6 h7 h8 h9 h
    subst h2
    have hi : decide (i < (N : Int) + 1) = true := by rw [decide_eq_true_eq]; omega
    have c0 : chkB r N (fun i => encI (o i)) = true := chkB_true (by omega)
    have hc := call_free (o := o) h6 h7 h5 h4
    have hs := set_cases r o gen slot h4.1 h9
    have hn : (used r).i0 + (used r).n = N := by
      unfold used
      simp only
      split <;> omega
    by_cases h10 : outc r o = 2 ∨ outc r o = 1
    · left
      have hn0 : r.n ≠ 0 := by
        intro h0
        unfold outc at h10
        rw [if_pos h0] at h10
        omega
      have e1 : (callV r o gen slot).1 = 10 := by
        rw [hc]
        rcases h10 with h | h
        · rw [if_pos h]
        · rw [if_neg (by omega), if_pos h]
      have e2 : (callV r o gen slot).2 = used r ∨ (callV r o gen slot).2 = ⟨slot, gen, 1, (used r).i0, (used r).n, r.left, r.blown, (used r).count⟩ := by
        rw [hc]
        rcases h10 with h | h
        · rw [if_pos h]; exact .inl rfl
        · rw [if_neg (by omega), if_pos h]; exact .inr hs.2
      refine ⟨(i + 1, (N : Int) + 1, N, M, gen, slot, (callV r o gen slot).2, f, o), ?_, ?_, ?_⟩
      · simp only; omega
      · intro K'
        rw [roundLost, hi, c0, e1, wi (x := i + 1) (by omega)]
        rfl
      · unfold tLost
        have : goodL (i + 1, (N : Int) + 1, N, M, gen, slot, (callV r o gen slot).2, f, o) = true := by
          refine (@decide_eq_true_eq _ (Classical.propDecidable _)).mpr ⟨by simp only; omega, rfl, h3, h4, h5, ?_, ?_, ?_, ?_⟩
          · rcases e2 with e | e <;> rw [e] <;> exact h6
          · rcases e2 with e | e <;> rw [e] <;> exact h7
          · have e3 : (used r).i0 = r.i0 + 1 := by unfold used; simp [hn0]
            rcases e2 with e | e <;> rw [e] <;> simp only <;> omega
          · rcases e2 with e | e <;> rw [e]
            · exact h9
            · exact .inr ⟨rfl, rfl, rfl⟩
        rw [this]
        exact h
    · right
      have e1 : callV r o gen slot = (0, ⟨slot, gen, 1, (used r).i0, (used r).n, r.left, r.blown, (used r).count⟩) := by
        rw [hc, if_neg (fun h => h10 (.inl h)), if_neg (fun h => h10 (.inr h))]
        exact Prod.ext hs.1 hs.2
      have hc2 := call_free (o := o) (r := ⟨slot, gen, 1, (used r).i0, (used r).n, r.left, r.blown, (used r).count⟩) h6 h7 h5 h4
      have hs2 := set_cases ⟨slot, gen, 1, (used r).i0, (used r).n, r.left, r.blown, (used r).count⟩ o gen slot h4.1 (.inr ⟨rfl, rfl, rfl⟩)
      have e2 : ((callV ⟨slot, gen, 1, (used r).i0, (used r).n, r.left, r.blown, (used r).count⟩ o gen slot).1 != 11) = true ∧ ((callV ⟨slot, gen, 1, (used r).i0, (used r).n, r.left, r.blown, (used r).count⟩ o gen slot).2.writes == 1) = true := by
        rw [hc2]
        split
        · exact ⟨rfl, rfl⟩
        · split
          · rw [hs2.2]; exact ⟨rfl, rfl⟩
          · rw [hs2.1, hs2.2]; exact ⟨rfl, rfl⟩
      have c1 : chkB ⟨slot, gen, 1, (used r).i0, (used r).n, r.left, r.blown, (used r).count⟩ N (fun i => encI (o i)) = true := chkB_true (by simp only; omega)
      refine ⟨.ret, _, by simp, fun K' => ?_, h⟩
      rw [roundLost, hi, c0, e1]
      simp only [chkB_call, c1, cond_true, e2.1, e2.2, writesV, beq_self_eq_true, Bool.and_self, Bool.and_true]
theorem loopsLost : LoopsOk Try.prog SM LLost 10 1 (resMask Try.f4.results.toList) (loopsOf (resMask Try.f4.results.toList) (bodyOf Try.f4) [] (resMask Try.f4.results.toList)) :=
  loopsOk_ix 1 (by kernel_rfl) ⟨trivial, loopOk_here (n := 0) (by kernel_rfl) rfl okLost⟩
@[reducible] def r0 (N : Nat) : Rou := ⟨0, 0, 0, 0, N, -1, false, 0⟩
@[reducible] noncomputable def midLost {R : Type} (N : Nat) (f : Nat → Int) (gen slot : Int) (K : TV → List (Option SB) → Option R) : Option R :=
  bif decide (N ≤ N) then bif decide (N ≤ 4294967296) then bif decide (N ≤ N) && decide (N ≤ 4294967296) then bif chkRo encI decID (fun i => encI (f i)) && chkRo encI decID (fun i => encI (f i)) then
    bif goodL (0, IntKind.i64.wrap ((N : Int) + 1), N, N, gen, slot, r0 N, f, f) then K (.s (bl true)) [some (.ro 1 (.gen N fun i => encI (f i)))] else none else none else none else none else none
theorem t_RouterLost {R : Type} (N : Nat) (f : Nat → Int) (gen slot : Int) (K : TV → List (Option SB) → Option R) : runFnL Try.prog SM LLost 10 Try.f4 (bodyOf Try.f4) [.c (.slc 0 0 N), .c (.int .i64 gen), .c (.int .i64 slot)] [.ro 1 (.gen N fun i => encI (f i))] K =
    bif decide ((N : Int) > 100) then K (.s (bl true)) [some (.ro 1 (.gen N fun i => encI (f i)))] else bif decide (gen < 1) then K (.s (bl true)) [some (.ro 1 (.gen N fun i => encI (f i)))] else bif decide (gen > 1048576) then K (.s (bl true)) [some (.ro 1 (.gen N fun i => encI (f i)))] else
    bif slot != 0 then bif slot != 1 then K (.s (bl true)) [some (.ro 1 (.gen N fun i => encI (f i)))] else midLost N f gen slot K else midLost N f gen slot K := by kernel_rfl
theorem RouterLost (N : Nat) (f : Nat → Int) (gen slot : Int) (q_l : ∀ i, i < N → wfI (f i)) (q_g : (Lit.int .i64 gen).wf = true) (q_s : (Lit.int .i64 slot).wf = true) (w : World) (v : Value) (l : Sx.Loc) (hs : SlcR l 0 N v) (hb : BlkR (outer w fun _ _ => False) (rho1 l) l (.ro 1 (.gen N fun i => encI (f i))) w) :
    Calls Try.prog 4 #[v, .int .i64 gen, .int .i64 slot] w fun e w' => e = .returned (.bool true) ∧ RowKit.Below w.heap.size w w' := by
  refine law_callsL okSM mixed Try.func4 (c := bodyOf Try.f4) (by kernel_rfl) lawK_spec (fuel := 10) (args := [.c (.slc 0 0 N), .c (.int .i64 gen), .c (.int .i64 slot)]) (hp0 := [.ro 1 (.gen N fun i => encI (f i))]) (X := fun _ _ => False) (ρ := rho1 l) (vs := [v, .int .i64 gen, .int .i64 slot]) loopsLost ?_ ⟨⟨l, rfl, hs⟩, rfl, rfl, trivial⟩ (blk1 hb) rho1_out
  rw [t_RouterLost]
  by_cases c1 : (N : Int) > 100
  · rw [decide_eq_true c1]; rfl
  by_cases c2 : gen < 1
  · rw [decide_eq_false c1, decide_eq_true c2]; rfl
  by_cases c3 : gen > 1048576
  · rw [decide_eq_false c1, decide_eq_false c2, decide_eq_true c3]; rfl
  rw [decide_eq_false c1, decide_eq_false c2, decide_eq_false c3]
  have hm : (slot = 0 ∨ slot = 1) → midLost N f gen slot lawK = some () := by
    intro hsl
    have hg : goodL (0, (N : Int) + 1, N, N, gen, slot, r0 N, f, f) = true :=
      (@decide_eq_true_eq _ (Classical.propDecidable _)).mpr ⟨by simp only; omega, rfl, by show N ≤ 100; omega, by simp only; omega, hsl, rfl, rfl, by simp, .inl ⟨rfl, rfl, rfl⟩⟩
    unfold midLost
    rw [wi (x := (N : Int) + 1) (by omega), hg, chkRo_true backI, decide_eq_true (show N ≤ N by omega), decide_eq_true (show N ≤ 4294967296 by omega)]
    rfl
  by_cases d0 : slot = 0
  · have e : (slot != 0) = false := by simp [d0]
    rw [e]
    exact hm (.inl d0)
  · have e : (slot != 0) = true := by simp [d0]
    rw [e]
    by_cases d1 : slot = 1
    · have e : (slot != 1) = false := by simp [d1]
      rw [e]
      exact hm (.inr d1)
    · have e : (slot != 1) = true := by simp [d1]
      rw [e]
      rfl
end Go.Proofs.Ytendbpghgllphaa.Rt

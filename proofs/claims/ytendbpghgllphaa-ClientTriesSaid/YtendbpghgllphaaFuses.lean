/- The laws RouterFuses and ClientCounts: true, and no memory that was there is written. -/
import Derived.Test.YtendbpghgllphaaLost
set_option maxRecDepth 100000
set_option linter.unusedSimpArgs false
set_option linter.unusedVariables false
namespace Go.Proofs.Ytendbpghgllphaa.Rt
open Go Go.Proofs.Ytendbpghgllphaa.Sx
structure N2 where
  a : Int
  b : Int
  deriving Inhabited
def encN2 (s : N2) : List CV := [.int .i64 s.a, .int .i64 s.b]
def decN2 : List CV → Option N2
  | [.int .i64 a0, .int .i64 a1] => some ⟨a0, a1⟩
  | _ => none
def decN2D : List CV → N2
  | [.int .i64 a0, .int .i64 a1] => ⟨a0, a1⟩
  | _ => default
theorem decN2_spec (l : List CV) (s : N2) (h : decN2 l = some s) : l = encN2 s := by
  unfold decN2 at h; split at h <;> cases h; rfl
theorem encN2_ren (s : N2) (π) : (encN2 s).map (CV.ren π) = encN2 s := rfl
theorem backN2 (s : N2) : decN2D (encN2 s) = s := rfl
structure wfN2 (s : N2) : Prop where
  a : (Lit.int .i64 s.a).wf = true
  b : (Lit.int .i64 s.b).wf = true
theorem opN2 (cvs : List CV) (vs : List Value) (h : LeafRs [.int .i64, .int .i64] cvs vs) : ∃ x, cvs = encN2 x ∧ wfN2 x := by
  obtain ⟨_, _, _, _, rfl, rfl, ⟨a0, rfl, rfl, w0⟩, h0⟩ := h.cons_inv
  obtain ⟨_, _, _, _, rfl, rfl, ⟨a1, rfl, rfl, w1⟩, h1⟩ := h0.cons_inv
  obtain ⟨rfl, rfl⟩ := h1.nil_inv
  exact ⟨⟨a0, a1⟩, rfl, ⟨w0, w1⟩⟩
@[reducible] def FA := Int × Int × Nat × Nat × Rou × (Nat → Int) × (Nat → Int)
def encFus : FA → Sx.St
  | (i, n, N, M, r, f, o) => ⟨[(0, .s (.c (.slc 0 0 M))), (5, .s (.c (.ptr 1 0))), (6, .s (.c (.ptr 2 0))), (41, .s (.c (.int .i64 n))), (42, .s (.c (.int .i64 i)))], [some (.ro 1 (.gen M fun i => encI (f i))), some (.cells [.int .i64 r.left, .bool r.blown, .int .i64 r.count]), some (.cells [.int .i64 r.slot, .int .i64 r.gen, .slc 3 r.i0 r.n, .int .i64 r.writes, .ptr 1 0]), some (.vec 1 [] (.gen N fun i => encI (o i)))], 4, 86⟩
@[reducible] def FB := Int × Int × Nat × Nat × Nat × Rou × (Nat → List CV) × (Nat → List CV)
def decFus : Sx.St → Option FB
  | ⟨[(0, .s (.c (.slc 0 0 M'))), (5, .s (.c (.ptr 1 0))), (6, .s (.c (.ptr 2 0))), (41, .s (.c (.int .i64 n))), (42, .s (.c (.int .i64 i)))], [some (.ro 1 (.gen M f)), some (.cells [.int .i64 l, .bool bl, .int .i64 c]), some (.cells [.int .i64 a, .int .i64 b, .slc 3 i0 nn, .int .i64 w, .ptr 1 0]), some (.vec 1 [] (.gen N o))], 4, 86⟩ => some (i, n, N, M, M', ⟨a, b, w, i0, nn, l, bl, c⟩, f, o)
  | _ => none
noncomputable def chkFus : FB → Bool
  | (_, _, _, M, M', _, f, o) => Nat.beq M M' && chkRo encI decID f && chkRo encI decID o
def normFus : FB → FA
  | (i, n, N, M, _, r, f, o) => (i, n, N, M, r, fun j => decID (f j), fun j => decID (o j))
theorem decFus_spec (st : Sx.St) (p : FB) (h : decFus st = some p) (hc : chkFus p = true) : st = encFus (normFus p) := by
  unfold decFus at h
  split at h
  · cases h
    simp only [chkFus, Bool.and_eq_true] at hc
    obtain ⟨⟨g0, g1⟩, g2⟩ := hc
    obtain rfl := Nat.eq_of_beq_eq_true g0
    have g1 := chkRo_spec g1
    have g2 := chkRo_spec g2
    unfold normFus encFus
    simp only
    rw [← g1, ← g2]
  · cases h
@[reducible] def rF (N : Nat) (b : Bool) : Rou := ⟨0, 0, 0, 0, N, 0, b, 0⟩
def finFus (M N : Nat) (b : Bool) (f o : Nat → Int) : Sx.St := ⟨[(0, .s (.c (.slc 0 0 M))), (5, .s (.c (.ptr 1 0))), (6, .s (.c (.ptr 2 0)))], [some (.ro 1 (.gen M fun i => encI (f i))), some (.cells [.int .i64 0, .bool b, .int .i64 0]), some (.cells [.int .i64 0, .int .i64 0, .slc 3 0 N, .int .i64 0, .ptr 1 0]), some (.vec 1 [] (.gen N fun i => encI (o i)))], 4, 86⟩
structure Fus (p : FA) : Prop where
  i : 0 ≤ p.1 ∧ p.1 ≤ p.2.1
  n : p.2.1 ≤ 100
  r : p.2.2.2.2.1 = rF p.2.2.1 p.2.2.2.2.1.blown
noncomputable def goodF (p : FA) : Bool := @decide (Fus p) (Classical.propDecidable _)
noncomputable def tFus (p : FA) (R : Type) (K : Ex → Sx.St → Option R) : Option R := bif goodF p then K (.exit 0) (finFus p.2.2.2.1 p.2.2.1 (p.2.2.2.2.1.blown || decide (p.1 < p.2.1)) p.2.2.2.2.2.1 p.2.2.2.2.2.2) else none
@[reducible] noncomputable def LFus : List (Nat × LoopSum) := [(0, formSumC decFus chkFus normFus tFus)]
theorem roundFus {R : Type} (L : List (Nat × LoopSum)) (i n : Int) (N M : Nat) (r : Rou) (f o : Nat → Int) (K : Ex → Sx.St → Option R) :
    roundK Try.prog SM L 10 1 (resMask Try.f7.results.toList) (lpAt Try.f7 0) (encFus (i, n, N, M, r, f, o)) K =
    bif decide (i < n) then bif chkB r N (fun i => encI (o i)) then bif (callV r o 5 1).1 != 2 then K .ret ⟨[(4, .s (.c (.bool false)))], [some (.ro 1 (.gen M fun i => encI (f i)))], 1, 86⟩ else bif chkB (callV r o 5 1).2 N (fun i => encI (o i)) then
      bif !((callV r o 5 1).2.slot == 0 && ((callV r o 5 1).2.gen == 0 && true)) then K .ret ⟨[(4, .s (.c (.bool false)))], [some (.ro 1 (.gen M fun i => encI (f i)))], 1, 86⟩ else bif chkB (callV r o 5 1).2 N (fun i => encI (o i)) then
        bif (callV r o 5 1).2.writes != 0 then K .ret ⟨[(4, .s (.c (.bool false)))], [some (.ro 1 (.gen M fun i => encI (f i)))], 1, 86⟩ else K .normal (encFus (IntKind.i64.wrap (i + 1), n, N, M, (callV r o 5 1).2, f, o)) else none else none else none
    else K (.exit 0) ⟨[(0, .s (.c (.slc 0 0 M))), (5, .s (.c (.ptr 1 0))), (6, .s (.c (.ptr 2 0)))], [some (.ro 1 (.gen M fun i => encI (f i))), some (.cells [.int .i64 r.left, .bool r.blown, .int .i64 r.count]), some (.cells [.int .i64 r.slot, .int .i64 r.gen, .slc 3 r.i0 r.n, .int .i64 r.writes, .ptr 1 0]), some (.vec 1 [] (.gen N fun i => encI (o i)))], 4, 86⟩ := by kernel_rfl
theorem call_out {N : Nat} {b : Bool} {o : Nat → Int} : callV (rF N b) o 5 1 = (2, rF N true) := by
  cases b <;> rfl
theorem okFus : LoopOk Try.prog SM LFus 10 1 (resMask Try.f7.results.toList) (lpAt Try.f7 0) (formSumC decFus chkFus normFus tFus) := by
  refine LoopOk.ofC decFus_spec (fun p => (p.2.1 - p.1).toNat) ?_
  rintro ⟨i, n, N, M, r, f, o⟩ R K x h
  unfold tFus at h
  cases hg : goodF (i, n, N, M, r, f, o) with
  | false => rw [hg] at h; cases h
  | true =>
    rw [hg, cond_true] at h
    have hg := (@decide_eq_true_eq _ (Classical.propDecidable _)).mp hg
    obtain ⟨h1, h2, h3⟩ := hg
    simp only at h1 h2 h3 h
    generalize r.blown = b at h3 h
    subst h3
    by_cases hi : i < n
    · left
      have c0 : ∀ b, chkB (rF N b) N (fun i => encI (o i)) = true := fun b => chkB_true (by simp)
      refine ⟨(i + 1, n, N, M, rF N true, f, o), ?_, ?_, ?_⟩
      · simp only; omega
      · intro K'
        rw [roundFus, decide_eq_true hi, c0, call_out, wi (x := i + 1) (by omega)]
        simp only [c0]
        rfl
      · unfold tFus
        have : goodF (i + 1, n, N, M, rF N true, f, o) = true := (@decide_eq_true_eq _ (Classical.propDecidable _)).mpr ⟨by simp only; omega, h2, rfl⟩
        rw [this]
        rw [decide_eq_true hi, Bool.or_true] at h
        exact h
    · right
      refine ⟨.exit 0, _, by simp, fun K' => ?_, h⟩
      rw [roundFus, decide_eq_false hi, Bool.or_false]
      rfl
theorem loopsFus : LoopsOk Try.prog SM LFus 10 1 (resMask Try.f7.results.toList) (loopsOf (resMask Try.f7.results.toList) (bodyOf Try.f7) [] (resMask Try.f7.results.toList)) :=
  loopsOk_ix 1 (by kernel_rfl) ⟨trivial, loopOk_here (n := 0) (by kernel_rfl) rfl okFus⟩
@[reducible] noncomputable def cntK {R : Type} (N : Nat) (f : Nat → Int) (c : Int) (K : TV → List (Option SB) → Option R) : Option R :=
  bif (callV (r0 N) f 5 1).1 == c then K (.s (bl ((callV (r0 N) f 5 1).2.count == 1))) [some (.ro 1 (.gen N fun i => encI (f i)))] else K (.s (bl false)) [some (.ro 1 (.gen N fun i => encI (f i)))]
theorem t_RouterFuses {R : Type} (N : Nat) (f : Nat → Int) (n : Int) (K : TV → List (Option SB) → Option R) : runFnL Try.prog SM LFus 10 Try.f7 (bodyOf Try.f7) [.c (.slc 0 0 N), .c (.int .i64 n)] [.ro 1 (.gen N fun i => encI (f i))] K =
    bif decide ((N : Int) > 100) then K (.s (bl true)) [some (.ro 1 (.gen N fun i => encI (f i)))] else bif decide (n < 0) then K (.s (bl true)) [some (.ro 1 (.gen N fun i => encI (f i)))] else bif decide (n > 100) then K (.s (bl true)) [some (.ro 1 (.gen N fun i => encI (f i)))] else
    bif decide (N ≤ N) then bif decide (N ≤ 4294967296) then bif decide (N ≤ N) && decide (N ≤ 4294967296) then bif Nat.beq N N && chkRo encI decID (fun i => encI (f i)) && chkRo encI decID (fun i => encI (f i)) then bif goodF (0, n, N, N, rF N false, f, f) then
      bif chkB (r0 N) N (fun i => encI (f i)) then bif decide ((N : Int) > 0) then bif true && decide (0 < (N : Int)) then bif decide (0 < N) then bif f 0 == 1 then cntK N f 10 K else
        bif true && decide (0 < (N : Int)) then bif decide (0 < N) then bif f 0 == 2 then cntK N f 10 K else cntK N f 0 K else none else none else none else none else cntK N f 0 K else none
    else none else none else none else none else none := by kernel_rfl
theorem RouterFuses (N : Nat) (f : Nat → Int) (n : Int) (q_l : ∀ i, i < N → wfI (f i)) (q_n : (Lit.int .i64 n).wf = true) (w : World) (v : Value) (l : Sx.Loc) (hs : SlcR l 0 N v) (hb : BlkR (outer w fun _ _ => False) (rho1 l) l (.ro 1 (.gen N fun i => encI (f i))) w) :
    Calls Try.prog 7 #[v, .int .i64 n] w fun e w' => e = .returned (.bool true) ∧ RowKit.Below w.heap.size w w' := by
  refine law_callsL okSM mixed Try.func7 (c := bodyOf Try.f7) (by kernel_rfl) lawK_spec (fuel := 10) (args := [.c (.slc 0 0 N), .c (.int .i64 n)]) (hp0 := [.ro 1 (.gen N fun i => encI (f i))]) (X := fun _ _ => False) (ρ := rho1 l) (vs := [v, .int .i64 n]) loopsFus ?_ ⟨⟨l, rfl, hs⟩, rfl, trivial⟩ (blk1 hb) rho1_out
  rw [t_RouterFuses]
  by_cases c1 : (N : Int) > 100
  · rw [decide_eq_true c1]; rfl
  by_cases c2 : n < 0
  · rw [decide_eq_false c1, decide_eq_true c2]; rfl
  by_cases c3 : n > 100
  · rw [decide_eq_false c1, decide_eq_false c2, decide_eq_true c3]; rfl
  have hg : goodF (0, n, N, N, rF N false, f, f) = true := (@decide_eq_true_eq _ (Classical.propDecidable _)).mpr ⟨by simp only; omega, by show n ≤ 100; omega, rfl⟩
  rw [decide_eq_false c1, decide_eq_false c2, decide_eq_false c3, hg, chkRo_true backI, decide_eq_true (show N ≤ N by omega), decide_eq_true (show N ≤ 4294967296 by omega), chkB_true (r := r0 N) (by simp), show (Nat.beq N N && true && true) = true by simp]
  simp only [cond_true, cond_false, Bool.and_self]
  have hc := call_free (r := r0 N) (o := f) (gen := 5) (slot := 1) rfl rfl (.inr rfl) (by omega)
  have hset : (setV (used (r0 N)) f ⟨1, 5⟩).1 = 0 ∧ (setV (used (r0 N)) f ⟨1, 5⟩).2.count = 1 ∧ (used (r0 N)).count = 1 := ⟨rfl, rfl, rfl⟩
  by_cases hN : (N : Int) > 0
  · have hN0 : N ≠ 0 := by omega
    have ho : outc (r0 N) f = f 0 := by unfold outc; rw [if_neg hN0]
    rw [ho] at hc
    rw [decide_eq_true hN, decide_eq_true (show 0 < N by omega)]
    simp only [cond_true, Bool.and_self]
    by_cases h1 : f 0 = 1
    · rw [if_neg (by omega), if_pos h1] at hc
      rw [h1]
      unfold cntK
      rw [hc]
      rfl
    · have e1 : (f 0 == 1) = false := by simp [h1]
      rw [e1, cond_false]
      by_cases h2 : f 0 = 2
      · rw [if_pos h2] at hc
        rw [h2]
        unfold cntK
        rw [hc]
        rfl
      · rw [if_neg h2, if_neg h1] at hc
        have e2 : (f 0 == 2) = false := by simp [h2]
        rw [e2, cond_false]
        unfold cntK
        rw [hc]
        rfl
  · have hN0 : N = 0 := by omega
    have ho : outc (r0 N) f = 0 := by unfold outc; rw [if_pos hN0]
    rw [ho, if_neg (by omega), if_neg (by omega)] at hc
    rw [decide_eq_false hN, cond_false]
    unfold cntK
    rw [hc]
    rfl

/-! ### ClientCounts -/
theorem next_f (r : Rou) (o : Nat → Int) : (nextV r o).2.left = r.left ∧ (nextV r o).2.blown = r.blown ∧ (nextV r o).2.count = r.count := by
  unfold nextV
  cases (r.n : Int) == 0 <;> exact ⟨rfl, rfl, rfl⟩
theorem set_f (r : Rou) (o : Nat → Int) (c : Cell) : (setV r o c).2.left = r.left ∧ (setV r o c).2.blown = r.blown ∧ (setV r o c).2.count = r.count ∧ (setV r o c).1 ≠ 2 := by
  unfold setV
  cases decide (c.gen > r.gen) <;> cases (c.slot == r.slot && c.gen == r.gen) <;> exact ⟨rfl, rfl, rfl, by simp only [cond_true, cond_false]; decide⟩
theorem call_fuse {r : Rou} {o : Nat → Int} {gen slot : Int} {l c : Int} (hsp : spendV (fu r) = (true, ⟨l, false, c⟩)) (hs : slot = 0 ∨ slot = 1) (hg : 1 ≤ gen ∧ gen ≤ 1048576) :
    (callV r o gen slot).1 ≠ 2 ∧ (callV r o gen slot).2.left = l ∧ (callV r o gen slot).2.blown = false ∧ (callV r o gen slot).2.count = c := by
  have e0 : (!(slot == 0 || slot == 1) || (decide (gen < 1) || decide (gen > 1048576))) = false := by
    rcases hs with rfl | rfl <;> simp <;> omega
  have e1 : spend1 r = putF r ⟨l, false, c⟩ := by unfold spend1; rw [hsp]
  unfold callV
  rw [e0, hsp, e1]
  obtain ⟨a1, a2, a3⟩ := next_f (putF r ⟨l, false, c⟩) o
  obtain ⟨b1, b2, b3, b4⟩ := set_f (nextV (putF r ⟨l, false, c⟩) o).2 o ⟨slot, gen⟩
  simp only [cond_false, Bool.not_true]
  cases (nextV (putF r ⟨l, false, c⟩) o).1 == 2 <;> simp only [cond_true, cond_false]
  · cases (nextV (putF r ⟨l, false, c⟩) o).1 == 1 <;> simp only [cond_true, cond_false]
    · exact ⟨b4, b1.trans a1, b2.trans a2, b3.trans a3⟩
    · exact ⟨by decide, b1.trans a1, b2.trans a2, b3.trans a3⟩
  · exact ⟨by decide, a1, a2, a3⟩
theorem call_halt {r : Rou} {o : Nat → Int} {gen slot : Int} (hl : r.left = 0) (hs : slot = 0 ∨ slot = 1) (hg : 1 ≤ gen ∧ gen ≤ 1048576) :
    (callV r o gen slot).1 = 2 ∧ (callV r o gen slot).2.blown = true ∧ (callV r o gen slot).2.count = r.count := by
  have e0 : (!(slot == 0 || slot == 1) || (decide (gen < 1) || decide (gen > 1048576))) = false := by
    rcases hs with rfl | rfl <;> simp <;> omega
  obtain ⟨a, b, w, i, n, l, bl, c⟩ := r
  simp only at hl
  subst hl
  have hsp : spendV (fu ⟨a, b, w, i, n, 0, bl, c⟩) = (false, ⟨0, true, c⟩) := by cases bl <;> rfl
  have e1 : spend1 ⟨a, b, w, i, n, 0, bl, c⟩ = ⟨a, b, w, i, n, 0, true, c⟩ := by unfold spend1; rw [hsp]
  unfold callV
  rw [e0, hsp, e1]
  exact ⟨rfl, rfl, rfl⟩
theorem setG_counts {o : Nat → Int} {to : Cell} {T : Int} (hs : to.slot = 0 ∨ to.slot = 1) (hg : 1 ≤ to.gen ∧ to.gen ≤ 1048576) : ∀ (k : Nat) (n : Int) (r : Rou), 1 ≤ n → n ≤ T → T ≤ n + k - 1 → T ≤ 8 → r.blown = false → (0 ≤ r.left ∧ r.left ≤ 9223372036854775807) → r.count = n - 1 →
    n ≤ (setG o to T k n r).2.1 ∧ (setG o to T k n r).2.1 ≤ T ∧ (setG o to T k n r).2.2.count = (if (setG o to T k n r).1 = 2 then (setG o to T k n r).2.1 - 1 else (setG o to T k n r).2.1) ∧ (setG o to T k n r).2.2.blown = ((setG o to T k n r).1 == 2)
  | 0, n, r, h1, h2, h3, _, _, _, _ => by omega
  | k + 1, n, r, h1, h2, h3, h4, h5, h6, h7 => by
    unfold setG
    by_cases hl : r.left = 0
    · obtain ⟨a1, a2, a3⟩ := call_halt (o := o) hl hs hg
      have e : ((callV r o to.gen to.slot).1 != 10) = true := by rw [a1]; rfl
      rw [e, cond_true, a1]
      exact ⟨by simp only; omega, h2, by simp only [if_true]; omega, a2⟩
    · have hsp : spendV (fu r) = (true, ⟨IntKind.i64.wrap (r.left - 1), false, IntKind.i64.wrap (r.count + 1)⟩) ∨ spendV (fu r) = (true, ⟨r.left, false, IntKind.i64.wrap (r.count + 1)⟩) := by
        obtain ⟨a, b, w, i, n', l, bl, c⟩ := r
        simp only at h5 hl
        subst h5
        have e1 : (l == 0) = false := by simp [hl]
        unfold spendV
        simp only [fu, e1, cond_false]
        cases decide (l > 0)
        · exact .inr rfl
        · exact .inl rfl
      have hc8 : IntKind.i64.wrap (r.count + 1) = n := by rw [wi (by omega)]; omega
      rw [hc8] at hsp
      have key : ∃ l', (0 ≤ l' ∧ l' ≤ 9223372036854775807) ∧ (callV r o to.gen to.slot).1 ≠ 2 ∧ (callV r o to.gen to.slot).2.left = l' ∧ (callV r o to.gen to.slot).2.blown = false ∧ (callV r o to.gen to.slot).2.count = n := by
        rcases hsp with h | h
        · refine ⟨_, ?_, call_fuse h hs hg⟩
          rw [wi (by omega)]; omega
        · exact ⟨_, h6, call_fuse h hs hg⟩
      obtain ⟨l', hl', b1, b2, b3, b4⟩ := key
      have e2 : ((callV r o to.gen to.slot).1 == 2) = false := by simp [b1]
      cases hne : (callV r o to.gen to.slot).1 != 10 with
      | true =>
        rw [cond_true]
        exact ⟨by simp only; omega, h2, by simp only [if_neg b1]; omega, by simp only [b3, e2]⟩
      | false =>
        rw [cond_false]
        by_cases hT : n = T
        · have e3 : (n == T) = true := by simp [hT]
          rw [e3, cond_true]
          exact ⟨by simp only; omega, by simp only; omega, by simp only [if_neg b1]; omega, by simp only [b3, e2]⟩
        · have e3 : (n == T) = false := by simp [hT]
          rw [e3, cond_false]
          have := setG_counts (o := o) (to := to) (T := T) hs hg k (n + 1) (callV r o to.gen to.slot).2 (by omega) (by omega) (by omega) h4 b3 (by omega) (by omega)
          exact ⟨by omega, this.2⟩
theorem tries_clamp (n : Int) : triesV n = clamp n := by
  unfold triesV clamp foldMin foldMax foldMax foldMin
  grind
theorem clamp_b (n : Int) : 1 ≤ clamp n ∧ clamp n ≤ 8 := by
  unfold clamp foldMin foldMax foldMax foldMin
  constructor <;> (repeat' split) <;> omega
@[reducible] noncomputable def rA (N : Nat) (b : Int) : Rou := putF (r0 N) (armV ⟨-1, false, 0⟩ b)
@[reducible] noncomputable def yA (N : Nat) (f : Nat → Int) (h : N2) (to : Cell) : Int × Int × Rou := csetV (rA N h.b) f to h.a
@[reducible] noncomputable def ccK {R : Type} (N : Nat) (f : Nat → Int) (h : N2) (to : Cell) (c : Int) (K : TV → List (Option SB) → Option R) : Option R :=
  bif (yA N f h to).2.2.count == c then bif decide ((yA N f h to).2.1 ≥ 1) then bif decide ((yA N f h to).2.1 ≤ triesV h.a) then K (.s (bl (((yA N f h to).1 == 2) == (yA N f h to).2.2.blown))) [some (.ro 1 (.gen N fun i => encI (f i)))]
  else K (.s (bl false)) [some (.ro 1 (.gen N fun i => encI (f i)))] else K (.s (bl false)) [some (.ro 1 (.gen N fun i => encI (f i)))] else K (.s (bl false)) [some (.ro 1 (.gen N fun i => encI (f i)))]
@[reducible] noncomputable def ccM {R : Type} (N : Nat) (f : Nat → Int) (h : N2) (to : Cell) (K : TV → List (Option SB) → Option R) : Option R :=
  bif decide (to.gen < 1) then K (.s (bl true)) [some (.ro 1 (.gen N fun i => encI (f i)))] else bif decide (to.gen > 1048576) then K (.s (bl true)) [some (.ro 1 (.gen N fun i => encI (f i)))] else
  bif decide (N ≤ N) then bif decide (N ≤ 4294967296) then bif decide (N ≤ N) && decide (N ≤ 4294967296) then bif chkB (rA N h.b) N (fun i => encI (f i)) then
    bif (yA N f h to).1 == 2 then ccK N f h to (IntKind.i64.wrap ((yA N f h to).2.1 - 1)) K else ccK N f h to (yA N f h to).2.1 K else none else none else none else none
theorem t_ClientCounts {R : Type} (N : Nat) (f : Nat → Int) (h : N2) (to : Cell) (K : TV → List (Option SB) → Option R) : runFn Try.prog SM 10 Try.f10 (bodyOf Try.f10) [.c (.slc 0 0 N), .agg (encN2 h), .agg (encCell to)] [.ro 1 (.gen N fun i => encI (f i))] K =
    bif decide ((N : Int) > 50) then K (.s (bl true)) [some (.ro 1 (.gen N fun i => encI (f i)))] else bif to.slot != 0 then bif to.slot != 1 then K (.s (bl true)) [some (.ro 1 (.gen N fun i => encI (f i)))] else ccM N f h to K else ccM N f h to K := by kernel_rfl
theorem ClientCounts (N : Nat) (f : Nat → Int) (h : N2) (to : Cell) (q_l : ∀ i, i < N → wfI (f i)) (q_h : wfN2 h) (q_to : wfCell to) (w : World) (v : Value) (l : Sx.Loc) (hs : SlcR l 0 N v) (hb : BlkR (outer w fun _ _ => False) (rho1 l) l (.ro 1 (.gen N fun i => encI (f i))) w)
    (v_h : Value) (hv_h : ∀ X ρ, (SV.agg (encN2 h)).R X ρ v_h) (v_t : Value) (hv_t : ∀ X ρ, (SV.agg (encCell to)).R X ρ v_t) :
    Calls Try.prog 10 #[v, v_h, v_t] w fun e w' => e = .returned (.bool true) ∧ RowKit.Below w.heap.size w w' := by
  refine law_calls okSM mixed Try.func10 (c := bodyOf Try.f10) (by kernel_rfl) lawK_spec (fuel := 10) (args := [.c (.slc 0 0 N), .agg (encN2 h), .agg (encCell to)]) (hp0 := [.ro 1 (.gen N fun i => encI (f i))]) (X := fun _ _ => False) (ρ := rho1 l) (vs := [v, v_h, v_t]) ?_ ⟨⟨l, rfl, hs⟩, hv_h _ _, hv_t _ _, trivial⟩ (blk1 hb) rho1_out
  rw [t_ClientCounts]
  by_cases c1 : (N : Int) > 50
  · rw [decide_eq_true c1]; rfl
  rw [decide_eq_false c1, cond_false]
  have hm : (to.slot = 0 ∨ to.slot = 1) → ccM N f h to lawK = some () := by
    intro hsl
    unfold ccM
    by_cases c2 : to.gen < 1
    · rw [decide_eq_true c2]; rfl
    by_cases c3 : to.gen > 1048576
    · rw [decide_eq_false c2, decide_eq_true c3]; rfl
    have hcl := clamp_b h.a
    have hbb := bnd q_h.b
    have hr : (rA N h.b).blown = false ∧ (0 ≤ (rA N h.b).left ∧ (rA N h.b).left ≤ 9223372036854775807) ∧ (rA N h.b).count = 0 := by
      refine ⟨rfl, ?_, rfl⟩
      show 0 ≤ foldMax h.b [0] ∧ foldMax h.b [0] ≤ 9223372036854775807
      unfold foldMax foldMax
      split <;> omega
    obtain ⟨g1, g2, g3, g4⟩ := setG_counts (o := f) (to := to) (T := clamp h.a) hsl (by omega) 8 1 (rA N h.b) (by omega) (by omega) (by omega) (by omega) hr.1 hr.2.1 (by omega)
    rw [decide_eq_false c2, decide_eq_false c3, decide_eq_true (show N ≤ N by omega), decide_eq_true (show N ≤ 4294967296 by omega), chkB_true (r := rA N h.b) (by simp)]
    simp only [cond_true, cond_false, Bool.and_self]
    unfold ccK
    rw [tries_clamp]
    have e : yA N f h to = setG f to (clamp h.a) 8 1 (rA N h.b) := rfl
    rw [e]
    generalize setG f to (clamp h.a) 8 1 (rA N h.b) = y at g1 g2 g3 g4 ⊢
    rw [g4, decide_eq_true (show y.2.1 ≥ 1 by omega), decide_eq_true g2]
    by_cases h2 : y.1 = 2
    · rw [if_pos h2] at g3
      rw [h2, g3, wi (by omega)]
      simp [lawK]
    · rw [if_neg h2] at g3
      have e2 : (y.1 == 2) = false := by simp [h2]
      rw [e2, g3]
      simp [lawK]
  by_cases d0 : to.slot = 0
  · have e : (to.slot != 0) = false := by simp [d0]
    rw [e]
    exact hm (.inl d0)
  · have e : (to.slot != 0) = true := by simp [d0]
    rw [e]
    by_cases d1 : to.slot = 1
    · have e : (to.slot != 1) = false := by simp [d1]
      rw [e]
      exact hm (.inr d1)
    · have e : (to.slot != 1) = true := by simp [d1]
      rw [e]
      rfl
end Go.Proofs.Ytendbpghgllphaa.Rt

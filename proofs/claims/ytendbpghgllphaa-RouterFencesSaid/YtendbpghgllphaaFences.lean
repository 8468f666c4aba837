/- The law RouterFences: true, and no memory that was there is written. -/
import Derived.Test.YtendbpghgllphaaRtx
set_option maxRecDepth 100000
set_option linter.unusedSimpArgs false
set_option linter.unusedVariables false
namespace Go.Proofs.Ytendbpghgllphaa.Rt
open Go Go.Proofs.Ytendbpghgllphaa.Sx
theorem call_fence (r : Rou) (o : Nat → Int) (gen slot : Int) : (((callV r o gen slot).2.slot = r.slot ∧ (callV r o gen slot).2.gen = r.gen) ∨ (r.gen < gen ∧ (slot = 0 ∨ slot = 1) ∧ (callV r o gen slot).2.slot = slot ∧ (callV r o gen slot).2.gen = gen)) ∧
    ((callV r o gen slot).1 = 0 → (callV r o gen slot).2.slot = slot ∧ (callV r o gen slot).2.gen = gen) := by
  have h1 : (nextV (spend1 r) o).2.slot = r.slot ∧ (nextV (spend1 r) o).2.gen = r.gen := by
    unfold nextV
    cases ((spend1 r).n : Int) == 0 <;> exact ⟨rfl, rfl⟩
  have h2 : ∀ r' : Rou, r'.slot = r.slot → r'.gen = r.gen → (((setV r' o ⟨slot, gen⟩).2.slot = r.slot ∧ (setV r' o ⟨slot, gen⟩).2.gen = r.gen) ∨ (r.gen < gen ∧ (setV r' o ⟨slot, gen⟩).2.slot = slot ∧ (setV r' o ⟨slot, gen⟩).2.gen = gen)) ∧ ((setV r' o ⟨slot, gen⟩).1 = 0 → (setV r' o ⟨slot, gen⟩).2.slot = slot ∧ (setV r' o ⟨slot, gen⟩).2.gen = gen) := by
    intro r' e1 e2
    unfold setV
    simp only
    by_cases c1 : gen > r'.gen
    · rw [decide_eq_true c1]
      exact ⟨.inr ⟨by omega, rfl, rfl⟩, fun _ => ⟨rfl, rfl⟩⟩
    · rw [decide_eq_false c1]
      cases c2 : (slot == r'.slot && gen == r'.gen) with
      | true =>
        simp only [Bool.and_eq_true, beq_iff_eq] at c2
        exact ⟨.inl ⟨e1, e2⟩, fun _ => ⟨c2.1.symm, c2.2.symm⟩⟩
      | false => exact ⟨.inl ⟨e1, e2⟩, fun h => by simp at h⟩
  unfold callV
  cases c0 : !(slot == 0 || slot == 1) || (decide (gen < 1) || decide (gen > 1048576)) with
  | true => exact ⟨.inl ⟨rfl, rfl⟩, fun h => by simp at h⟩
  | false =>
    have hs : slot = 0 ∨ slot = 1 := by
      simp only [Bool.or_eq_false_iff, Bool.not_eq_false', Bool.or_eq_true, beq_iff_eq] at c0
      exact c0.1
    simp only [cond_false]
    cases !(spendV (fu r)).1 with
    | true => exact ⟨.inl ⟨rfl, rfl⟩, fun h => by simp at h⟩
    | false =>
      simp only [cond_false]
      cases (nextV (spend1 r) o).1 == 2 with
      | true => exact ⟨.inl h1, fun h => by simp at h⟩
      | false =>
        obtain ⟨g1, g2⟩ := h2 (nextV (spend1 r) o).2 h1.1 h1.2
        simp only [cond_false]
        cases (nextV (spend1 r) o).1 == 1 with
        | true =>
          refine ⟨?_, fun h => by simp at h⟩
          rcases g1 with g | ⟨a, b⟩
          · exact .inl g
          · exact .inr ⟨a, hs, b⟩
        | false =>
          refine ⟨?_, g2⟩
          rcases g1 with g | ⟨a, b⟩
          · exact .inl g
          · exact .inr ⟨a, hs, b⟩
@[reducible] def FeA := Int × Nat × Nat × Rou × (Nat → Int) × (Nat → Ra)
@[reducible] def encFeG (i : Int) (M N : Nat) (r : Rou) (ge : Nat → List CV) (f : Nat → Ra) : Sx.St :=
  ⟨[(4, .s (.c (.ptr 1 0))), (27, .s (.c (.slc 0 0 N))), (28, .s (.c (.int .i64 (N : Int)))), (29, .s (.c (.int .i64 i)))], [some (.ro 4 (.gen N fun i => encRa (f i))), some (.cells [.int .i64 r.slot, .int .i64 r.gen, .slc 2 r.i0 r.n, .int .i64 r.writes, .ptr 3 0]), some (.vec 1 [] (.gen M ge)), some (.cells [.int .i64 r.left, .bool r.blown, .int .i64 r.count])], 4, 92⟩
def encFe : FeA → Sx.St
  | (i, M, N, r, o, f) => encFeG i M N r (fun j => encI (o j)) f
@[reducible] def FeB := Int × Int × Nat × Nat × Nat × Rou × (Nat → List CV) × (Nat → List CV)
def decFe : Sx.St → Option FeB
  | ⟨[(4, .s (.c (.ptr 1 0))), (27, .s (.c (.slc 0 0 N'))), (28, .s (.c (.int .i64 m))), (29, .s (.c (.int .i64 i)))], [some (.ro 4 (.gen N f)), some (.cells [.int .i64 a, .int .i64 b, .slc 2 i0 n, .int .i64 w, .ptr 3 0]), some (.vec 1 [] (.gen M ge)), some (.cells [.int .i64 l, .bool c, .int .i64 d])], 4, 92⟩ => some (i, m, M, N, N', ⟨a, b, w, i0, n, l, c, d⟩, ge, f)
  | _ => none
noncomputable def chkFe : FeB → Bool
  | (_, m, _, N, N', _, ge, f) => Nat.beq N N' && decide (m = N) && chkRo encI decID ge && chkRo encRa decRaD f
def normFe : FeB → FeA
  | (i, _, M, N, _, r, ge, f) => (i, M, N, r, fun j => decID (ge j), fun j => decRaD (f j))
theorem decFe_spec (st : Sx.St) (p : FeB) (h : decFe st = some p) (hc : chkFe p = true) : st = encFe (normFe p) := by
  unfold decFe at h
  split at h
  · cases h
    simp only [chkFe, Bool.and_eq_true, decide_eq_true_eq] at hc
    obtain ⟨⟨⟨h1, h2⟩, h3⟩, h4⟩ := hc
    have h1 := Nat.eq_of_beq_eq_true h1
    subst h1 h2
    have g := chkRo_spec h3
    have g' := chkRo_spec h4
    unfold normFe encFe encFeG
    simp only
    rw [← g, ← g']
  · cases h
def noFe (N : Nat) (f : Nat → Ra) : Sx.St := ⟨[(2, .s (.c (.bool false)))], [some (.ro 4 (.gen N fun i => encRa (f i)))], 1, 92⟩
def finFe (N : Nat) (f : Nat → Ra) : Sx.St := ⟨[], [some (.ro 4 (.gen N fun i => encRa (f i)))], 1, 92⟩
structure FeI (p : FeA) : Prop where
  i : 0 ≤ p.1 ∧ p.1 ≤ p.2.2.1
  N : p.2.2.1 ≤ 200
  n : p.2.2.2.1.i0 + p.2.2.2.1.n = p.2.1
  M : (p.2.1 : Int) ≤ 100 * p.1
  slot : p.2.2.2.1.slot = 0 ∨ p.2.2.2.1.slot = 1
  len : ∀ j, j < p.2.2.1 → (p.2.2.2.2.2 j).outL.length ≤ 100
noncomputable def goodFe (p : FeA) : Bool := @decide (FeI p) (Classical.propDecidable _)
noncomputable def tFe (p : FeA) (R : Type) (K : Ex → Sx.St → Option R) : Option R := bif goodFe p then K (.exit 0) (finFe p.2.2.1 p.2.2.2.2.2) else none
@[reducible] noncomputable def LFe : List (Nat × LoopSum) := [(0, formSumC decFe chkFe normFe tFe)]
@[reducible] noncomputable def T3 {α : Type} (c : Rou) (no yes : α) : α := bif c.slot != 0 then bif c.slot != 1 then no else yes else yes
@[reducible] noncomputable def T2 {α : Type} (e : Int) (c : Rou) (E : Ra) (no yes : α) : α := bif e == 0 then bif !(c.slot == E.slot && (c.gen == E.gen && true)) then no else T3 c no yes else T3 c no yes
@[reducible] noncomputable def T1 {α : Type} (e : Int) (c r : Rou) (E : Ra) (no yes : α) : α :=
  bif !(c.slot == r.slot && (c.gen == r.gen && true)) then bif !(c.slot == E.slot && (c.gen == E.gen && true)) then no else bif decide (c.gen ≤ r.gen) then no else T2 e c E no yes else T2 e c E no yes
theorem roundFe {R : Type} (L : List (Nat × LoopSum)) (i : Int) (M N : Nat) (r : Rou) (o : Nat → Int) (f : Nat → Ra) (K : Ex → Sx.St → Option R) :
    roundK Try.prog SX L 10 1 (resMask Try.f3.results.toList) (lpAt Try.f3 0) (encFe (i, M, N, r, o, f)) K =
    bif decide (i < (N : Int)) then bif decide (0 ≤ i) && decide (i < (N : Int)) then bif decide (i.toNat < N) then bif chkB r M (fun j => encI (o j)) then
      bif (f i.toNat).kind == 2 then bif decide ((f i.toNat).outL.length ≤ 4294967296) then
        bif decide (M = addI r.i0 r.n) && decide ((f i.toNat).outL.length ≤ (f i.toNat).outL.length) && decide (addI r.n (f i.toNat).outL.length ≤ 4294967296) then
          K .normal (encFeG (IntKind.i64.wrap (i + 1)) (addI r.n (f i.toNat).outL.length) N ⟨r.slot, r.gen, r.writes, 0, addI r.n (f i.toNat).outL.length, r.left, r.blown, r.count⟩ (catG (subG (fun j => encI (o j)) r.i0) (subG (catG (subG (fun j => litG 1 [] j) 0) (fun j => [.int .i64 ((f i.toNat).outL.getD j 0)]) 0) 0) r.n) f)
        else none else none
      else bif chkB r M (fun j => encI (o j)) then bif chkB (callV r o (f i.toNat).gen (f i.toNat).slot).2 M (fun j => encI (o j)) then
        T1 (callV r o (f i.toNat).gen (f i.toNat).slot).1 (callV r o (f i.toNat).gen (f i.toNat).slot).2 r (f i.toNat) (K .ret (noFe N f)) (K .normal (encFe (IntKind.i64.wrap (i + 1), M, N, (callV r o (f i.toNat).gen (f i.toNat).slot).2, o, f)))
      else none else none
    else none else none else none else K (.exit 0) (finFe N f) := by kernel_rfl
theorem T1_yes {α : Type} {e : Int} {c r : Rou} {E : Ra} (no yes : α) (hs : c.slot = 0 ∨ c.slot = 1) (h0 : e = 0 → c.slot = E.slot ∧ c.gen = E.gen) (h : (c.slot = r.slot ∧ c.gen = r.gen) ∨ (r.gen < E.gen ∧ c.slot = E.slot ∧ c.gen = E.gen)) : T1 e c r E no yes = yes := by
  have h3 : T3 c no yes = yes := by
    unfold T3
    rcases hs with h | h <;> rw [h] <;> rfl
  have h2 : T2 e c E no yes = yes := by
    unfold T2
    rw [h3]
    by_cases he : e = 0
    · obtain ⟨g1, g2⟩ := h0 he
      simp [he, g1, g2]
    · rw [show (e == 0) = false by simp [he]]; rfl
  unfold T1
  rw [h2]
  rcases h with ⟨g1, g2⟩ | ⟨g0, g1, g2⟩
  · simp [g1, g2]
  · have : decide (c.gen ≤ r.gen) = false := by rw [decide_eq_false_iff_not]; omega
    rw [this]
    simp [g1, g2]
theorem okFe : LoopOk Try.prog SX LFe 10 1 (resMask Try.f3.results.toList) (lpAt Try.f3 0) (formSumC decFe chkFe normFe tFe) := by
  refine LoopOk.ofC decFe_spec (fun p => p.2.2.1 - p.1.toNat) ?_
  rintro ⟨i, M, N, r, o, f⟩ R K x h
  unfold tFe at h
  cases hg : goodFe (i, M, N, r, o, f) with
  | false => rw [hg] at h; cases h
  | true =>
    rw [hg, cond_true] at h
    have hg := (@decide_eq_true_eq _ (Classical.propDecidable _)).mp hg
    obtain ⟨h1, h2, h3, h4, h5, h6⟩ := hg
    simp only at h1 h2 h3 h4 h5 h6 h
    by_cases hi : i < (N : Int)
    · left
      have key : ∀ (M' : Nat) (r' : Rou) (o' : Nat → Int), r'.i0 + r'.n = M' → (M' : Int) ≤ 100 * (i + 1) → (r'.slot = 0 ∨ r'.slot = 1) → tFe (i + 1, M', N, r', o', f) R K = some x := fun M' r' o' a b c => by
        unfold tFe
        have : goodFe (i + 1, M', N, r', o', f) = true := (@decide_eq_true_eq _ (Classical.propDecidable _)).mpr ⟨by simp only; omega, h2, a, b, c, h6⟩
        rw [this]
        exact h
      have c0 : chkB r M (fun j => encI (o j)) = true := chkB_true (by omega)
      have hl := h6 i.toNat (by omega)
      have hr : ∀ K' : Ex → Sx.St → Option R, _ := fun K' => roundFe LFe i M N r o f K'
      simp only [chkB_call, c0, decide_eq_true hi, decide_eq_true h1.1, decide_eq_true (show i.toNat < N by omega), wi (x := i + 1) (by omega), Bool.and_self, cond_true] at hr
      generalize f i.toNat = c at hr hl
      cases k1 : c.kind == 2 with
      | true =>
        refine ⟨(i + 1, r.n + c.outL.length, N, ⟨r.slot, r.gen, r.writes, 0, r.n + c.outL.length, r.left, r.blown, r.count⟩, fun j => if j < r.n then o (r.i0 + j) else c.outL.getD (j - r.n) 0, f), by simp only; omega, fun K' => ?_, key (r.n + c.outL.length) ⟨r.slot, r.gen, r.writes, 0, r.n + c.outL.length, r.left, r.blown, r.count⟩ _ (by simp) (by omega) h5⟩
        rw [hr, k1, addI_eq, addI_eq, cat_enc]
        rw [decide_eq_true (show c.outL.length ≤ 4294967296 by omega), decide_eq_true (show M = r.i0 + r.n by omega), decide_eq_true (Nat.le_refl c.outL.length), decide_eq_true (show r.n + c.outL.length ≤ 4294967296 by omega)]
        rfl
      | false =>
        obtain ⟨g1, g2⟩ := call_fence r o c.gen c.slot
        have hn := call_n r o c.gen c.slot
        refine ⟨(i + 1, M, N, (callV r o c.gen c.slot).2, o, f), by simp only; omega, fun K' => ?_, key M (callV r o c.gen c.slot).2 o (by omega) (by omega) ?_⟩
        · rw [hr, k1, cond_false]
          refine T1_yes _ _ ?_ g2 ?_
          · rcases g1 with ⟨g, _⟩ | ⟨_, g, g', _⟩
            · rw [g]; exact h5
            · rw [g']; exact g
          · rcases g1 with g | ⟨a, _, b⟩
            · exact .inl g
            · exact .inr ⟨a, b⟩
        · rcases g1 with ⟨g, _⟩ | ⟨_, g, g', _⟩
          · rw [g]; exact h5
          · rw [g']; exact g
    · right
      refine ⟨.exit 0, _, by simp, fun K' => ?_, h⟩
      rw [roundFe, decide_eq_false hi]
      rfl
theorem loopsFe : LoopsOk Try.prog SX LFe 10 1 (resMask Try.f3.results.toList) (loopsOf (resMask Try.f3.results.toList) (bodyOf Try.f3) [] (resMask Try.f3.results.toList)) :=
  loopsOk_ix 1 (by kernel_rfl) ⟨trivial, loopOk_here (n := 0) (by kernel_rfl) rfl okFe⟩
@[reducible] def rNew : Rou := ⟨0, 0, 0, 0, 0, -1, false, 0⟩
theorem t_RouterFences {R : Type} (N : Nat) (f : Nat → Ra) (K : TV → List (Option SB) → Option R) : runFnL Try.prog SX LFe 10 Try.f3 (bodyOf Try.f3) [.c (.slc 0 0 N)] [.ro 4 (.gen N fun i => encRa (f i))] K =
    bif Nat.beq N N && chkRo encRa decRaD (fun i => encRa (f i)) then bif greatV N f then K (.s (bl true)) [some (.ro 4 (.gen N fun i => encRa (f i)))] else
      bif Nat.beq N N && decide ((N : Int) = N) && chkRo encI decID (fun _ => encI 0) && chkRo encRa decRaD (fun i => encRa (f i)) then bif goodFe (0, 0, N, rNew, fun _ => 0, f) then K (.s (bl true)) [some (.ro 4 (.gen N fun i => encRa (f i)))] else none else none else none := by kernel_rfl
theorem RouterFences (N : Nat) (f : Nat → Ra) (q : ∀ i, i < N → wfRa (f i)) (w : World) (v : Value) (l : Sx.Loc) (hs : SlcR l 0 N v) (hb : BlkR (outs w) (rho1 l) l (.ro 4 (.gen N fun i => encRa (f i))) w) :
    Calls Try.prog 3 #[v] w fun e w' => e = .returned (.bool true) ∧ RowKit.Below w.heap.size w w' := by
  refine law_callsL okSX mixed Try.func3 (c := bodyOf Try.f3) (by kernel_rfl) lawK_spec (fuel := 10) (args := [.c (.slc 0 0 N)]) (hp0 := [.ro 4 (.gen N fun i => encRa (f i))]) (X := fun _ _ => True) (ρ := rho1 l) (vs := [v]) loopsFe ?_ ⟨⟨l, rfl, hs⟩, trivial⟩ (blk1 hb) rho1_out
  rw [t_RouterFences, chkRo_true backRa, show (Nat.beq N N && true) = true by simp, cond_true]
  cases hgr : greatV N f with
  | true => rfl
  | false =>
    unfold greatV at hgr
    rw [Bool.or_eq_false_iff, decide_eq_false_iff_not] at hgr
    have hg : goodFe (0, 0, N, rNew, fun _ => 0, f) = true := (@decide_eq_true_eq _ (Classical.propDecidable _)).mpr ⟨by simp, by simp only; omega, rfl, by simp, .inl rfl, fun j hj => anyG_spec hgr.2 j (Nat.zero_le _) (by simpa using hj)⟩
    have e0 : chkRo encI decID (fun _ => encI 0) = true := chkRo_true backI (fun _ => 0)
    rw [hg, e0, show (Nat.beq N N && decide ((N : Int) = N) && true && true) = true by simp]
    rfl
end Go.Proofs.Ytendbpghgllphaa.Rt

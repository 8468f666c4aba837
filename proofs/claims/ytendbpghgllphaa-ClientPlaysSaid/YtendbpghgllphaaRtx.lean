/- Acts of a router, with scripts; scripts in the midst of others. No condition. -/
import Derived.Test.YtendbpghgllphaaRt3
import Derived.Test.YtendbpghgllphaaSxE
set_option maxRecDepth 100000
set_option linter.unusedSimpArgs false
set_option linter.unusedVariables false
namespace Go.Proofs.Ytendbpghgllphaa.Rt
open Go Go.Proofs.Ytendbpghgllphaa.Sx
structure Ra where
  kind : Int
  gen : Int
  slot : Int
  outV : Value
  outL : List Int
instance : Inhabited Ra := ⟨⟨0, 0, 0, .bool false, []⟩⟩
def encRa (s : Ra) : List CV := [.int .i64 s.kind, .int .i64 s.gen, .int .i64 s.slot, .xs s.outV s.outL]
def decRa : List CV → Option Ra
  | [.int .i64 a0, .int .i64 a1, .int .i64 a2, .xs a3 b3] => some ⟨a0, a1, a2, a3, b3⟩
  | _ => none
def decRaD : List CV → Ra
  | [.int .i64 a0, .int .i64 a1, .int .i64 a2, .xs a3 b3] => ⟨a0, a1, a2, a3, b3⟩
  | _ => default
theorem decRa_spec (l : List CV) (s : Ra) (h : decRa l = some s) : l = encRa s := by
  unfold decRa at h; split at h <;> cases h; rfl
theorem encRa_ren (s : Ra) (π) : (encRa s).map (CV.ren π) = encRa s := rfl
theorem backRa (s : Ra) : decRaD (encRa s) = s := rfl
structure wfRa (s : Ra) : Prop where
  kind : (Lit.int .i64 s.kind).wf = true
  gen : (Lit.int .i64 s.gen).wf = true
  slot : (Lit.int .i64 s.slot).wf = true
  out : ∀ x ∈ s.outL, (Lit.int .i64 x).wf = true
theorem opRa {w : World} (cvs : List CV) (vs : List Value) (h : LeafXRs w [.int .i64, .int .i64, .int .i64, .ints] cvs vs) : ∃ x, cvs = encRa x ∧ wfRa x := by
  obtain ⟨_, _, _, _, rfl, rfl, ⟨a0, rfl, rfl, w0⟩, h0⟩ := h.cons_inv
  obtain ⟨_, _, _, _, rfl, rfl, ⟨a1, rfl, rfl, w1⟩, h1⟩ := h0.cons_inv
  obtain ⟨_, _, _, _, rfl, rfl, ⟨a2, rfl, rfl, w2⟩, h2⟩ := h1.cons_inv
  obtain ⟨_, _, _, _, rfl, rfl, ⟨a3, b3, rfl, rfl, _, _, w3⟩, h3⟩ := h2.cons_inv
  obtain ⟨rfl, rfl⟩ := h3.nil_inv
  exact ⟨⟨a0, a1, a2, _, b3⟩, rfl, ⟨w0, w1, w2, w3⟩⟩
/-! ### Script -/
noncomputable def g_script2 : List SV → List SB → Option Out
  | [.c (.ptr 0 0), .c (.slc 1 0 m)], [.cells [.int .i64 a, .int .i64 b, .slc 2 i0 n, .int .i64 w, .ptr 3 0], .vec 1 [] (.gen M ge'), .vec 1 [] (.gen N ge), .cells [.int .i64 l, .bool c, .int .i64 d]] =>
    some ⟨decide (N = addI i0 n) && decide (addI 0 m ≤ M) && decide (addI n m ≤ 4294967296), .tup [], [some (.cells [.int .i64 a, .int .i64 b, .slc 4 0 (addI n m), .int .i64 w, .ptr 3 0]), some (.vec 1 [] (.gen M ge')), none, some (.cells [.int .i64 l, .bool c, .int .i64 d])], [.vec 1 [] (.gen (addI n m) (catG (subG ge i0) (subG ge' 0) n))]⟩
  | _, _ => none
theorem t_script2 {R : Type} (a b w l d : Int) (i0 n N m M : Nat) (ge ge' : Nat → List CV) (c : Bool) (K : TV → List (Option SB) → Option R) : runFn Try.prog S0 10 Try.f17 (bodyOf Try.f17) [.c (.ptr 0 0), .c (.slc 1 0 m)]
    [.cells [.int .i64 a, .int .i64 b, .slc 2 i0 n, .int .i64 w, .ptr 3 0], .vec 1 [] (.gen M ge'), .vec 1 [] (.gen N ge), .cells [.int .i64 l, .bool c, .int .i64 d]] K =
    bif decide (N = addI i0 n) then bif decide (addI 0 m ≤ M) then bif decide (addI n m ≤ 4294967296) then K (.tup []) [some (.cells [.int .i64 a, .int .i64 b, .slc 4 0 (addI n m), .int .i64 w, .ptr 3 0]), some (.vec 1 [] (.gen M ge')), none, some (.cells [.int .i64 l, .bool c, .int .i64 d]), some (.vec 1 [] (.gen (addI n m) (catG (subG ge i0) (subG ge' 0) n)))] else none else none else none := by kernel_rfl
theorem ok_script2 : SumOk Try.prog 17 (genSum g_script2) := by
  refine sumOk_gen okS0 mixed Try.func17 (c := bodyOf Try.f17) (by kernel_rfl) (by kernel_rfl) ?_
  intro args hp x h hp1 _
  unfold g_script2 at h
  split at h
  · cases h
    simp only [Bool.and_eq_true] at hp1
    exact ⟨10, by rw [t_script2, hp1.1.1, hp1.1.2, hp1.2]; rfl⟩
  · cases h
/-! ### Are there more than are played? -/
def anyG (f : Nat → Ra) : Nat → Nat → Bool
  | 0, _ => false
  | k + 1, i => bif decide (((f i).outL.length : Int) > 100) then true else anyG f k (i + 1)
theorem anyG_spec {f : Nat → Ra} : ∀ {k i : Nat}, anyG f k i = false → ∀ j, i ≤ j → j < i + k → (f j).outL.length ≤ 100
  | 0, i, _, j, h1, h2 => by omega
  | k + 1, i, h, j, h1, h2 => by
    unfold anyG at h
    cases hd : decide (((f i).outL.length : Int) > 100) with
    | true => rw [hd] at h; cases h
    | false =>
      rw [hd] at h
      rw [decide_eq_false_iff_not] at hd
      by_cases hj : j = i
      · subst hj; omega
      · exact anyG_spec h j (by omega) (by omega)
@[reducible] def GA := Int × Nat × (Nat → Ra)
def encG : GA → Sx.St
  | (i, N, f) => ⟨[(8, .s (.c (.slc 0 0 N))), (9, .s (.c (.int .i64 (N : Int)))), (10, .s (.c (.int .i64 i)))], [some (.ro 4 (.gen N fun i => encRa (f i)))], 1, 19⟩
@[reducible] def GB := Int × Int × Nat × Nat × (Nat → List CV)
def decG : Sx.St → Option GB
  | ⟨[(8, .s (.c (.slc 0 0 M))), (9, .s (.c (.int .i64 m))), (10, .s (.c (.int .i64 i)))], [some (.ro 4 (.gen N f))], 1, 19⟩ => some (i, m, N, M, f)
  | _ => none
noncomputable def chkG : GB → Bool
  | (_, m, N, M, f) => Nat.beq N M && decide (m = N) && chkRo encRa decRaD f
def normG : GB → GA
  | (i, _, N, _, f) => (i, N, fun j => decRaD (f j))
theorem decG_spec (st : Sx.St) (p : GB) (h : decG st = some p) (hc : chkG p = true) : st = encG (normG p) := by
  unfold decG at h
  split at h
  · cases h
    simp only [chkG, Bool.and_eq_true, decide_eq_true_eq] at hc
    obtain ⟨⟨h1, h2⟩, h3⟩ := hc
    have h1 := Nat.eq_of_beq_eq_true h1
    subst h1 h2
    have g := chkRo_spec h3
    unfold normG encG
    simp only
    rw [← g]
  · cases h
def retG (N : Nat) (f : Nat → Ra) : Sx.St := ⟨[(2, .s (.c (.bool true)))], [some (.ro 4 (.gen N fun i => encRa (f i)))], 1, 19⟩
def finG (N : Nat) (f : Nat → Ra) : Sx.St := ⟨[], [some (.ro 4 (.gen N fun i => encRa (f i)))], 1, 19⟩
noncomputable def tG (p : GA) (R : Type) (K : Ex → Sx.St → Option R) : Option R := bif decide (0 ≤ p.1 ∧ p.1 ≤ p.2.1 ∧ p.2.1 ≤ 1000) then bif anyG p.2.2 (p.2.1 - p.1.toNat) p.1.toNat then K .ret (retG p.2.1 p.2.2) else K (.exit 0) (finG p.2.1 p.2.2) else none
@[reducible] noncomputable def LG : List (Nat × LoopSum) := [(0, formSumC decG chkG normG tG)]
theorem roundG {R : Type} (L : List (Nat × LoopSum)) (i : Int) (N : Nat) (f : Nat → Ra) (K : Ex → Sx.St → Option R) : roundK Try.prog S0 L 10 1 (resMask Try.f14.results.toList) (lpAt Try.f14 0) (encG (i, N, f)) K =
    bif decide (i < (N : Int)) then bif decide (0 ≤ i) && decide (i < (N : Int)) then bif decide (i.toNat < N) then bif decide (((f i.toNat).outL.length : Int) > 100) then K .ret (retG N f) else K .normal (encG (IntKind.i64.wrap (i + 1), N, f)) else none else none else K (.exit 0) (finG N f) := by kernel_rfl
theorem okG : LoopOk Try.prog S0 LG 10 1 (resMask Try.f14.results.toList) (lpAt Try.f14 0) (formSumC decG chkG normG tG) := by
  refine LoopOk.ofC decG_spec (fun p => p.2.1 - p.1.toNat) ?_
  rintro ⟨i, N, f⟩ R K x h
  unfold tG at h
  simp only at h
  by_cases hi : 0 ≤ i ∧ i ≤ N ∧ N ≤ 1000
  · rw [decide_eq_true hi, cond_true] at h
    by_cases h2 : i < (N : Int)
    · rw [show N - i.toNat = (N - (i + 1).toNat) + 1 by omega] at h
      unfold anyG at h
      cases hd : decide (((f i.toNat).outL.length : Int) > 100) with
      | true =>
        rw [hd] at h
        right
        refine ⟨.ret, _, by simp, fun K' => ?_, h⟩
        rw [roundG, decide_eq_true h2, decide_eq_true hi.1, decide_eq_true (show i.toNat < N by omega), hd]
        rfl
      | false =>
        rw [hd] at h
        left
        refine ⟨(i + 1, N, f), by simp only; omega, fun K' => ?_, ?_⟩
        · rw [roundG, decide_eq_true h2, decide_eq_true hi.1, decide_eq_true (show i.toNat < N by omega), hd, wi (x := i + 1) (by omega)]
          rfl
        · unfold tG
          simp only
          rw [decide_eq_true (show 0 ≤ i + 1 ∧ i + 1 ≤ N ∧ N ≤ 1000 by omega), show (i + 1).toNat = i.toNat + 1 by omega]
          rw [show (i + 1).toNat = i.toNat + 1 by omega] at h
          exact h
    · right
      rw [show N - i.toNat = 0 by omega] at h
      exact ⟨.exit 0, _, by simp, fun K' => by rw [roundG, decide_eq_false h2]; rfl, h⟩
  · rw [decide_eq_false hi] at h
    cases h
theorem loopsG : LoopsOk Try.prog S0 LG 10 1 (resMask Try.f14.results.toList) (loopsOf (resMask Try.f14.results.toList) (bodyOf Try.f14) [] (resMask Try.f14.results.toList)) :=
  loopsOk_ix 1 (by kernel_rfl) ⟨trivial, loopOk_here (n := 0) (by kernel_rfl) rfl okG⟩
def greatV (N : Nat) (f : Nat → Ra) : Bool := decide ((N : Int) > 200) || anyG f N 0
theorem t_great {R : Type} (N : Nat) (f : Nat → Ra) (K : TV → List (Option SB) → Option R) : runFnL Try.prog S0 LG 10 Try.f14 (bodyOf Try.f14) [.c (.slc 0 0 N)] [.ro 4 (.gen N fun i => encRa (f i))] K =
    bif decide ((N : Int) > 200) then K (.s (bl true)) [some (.ro 4 (.gen N fun i => encRa (f i)))] else bif Nat.beq N N && decide ((N : Int) = N) && chkRo encRa decRaD (fun i => encRa (f i)) then bif decide (0 ≤ (0 : Int) ∧ 0 ≤ (N : Int) ∧ N ≤ 1000) then
      bif anyG f (N - (0 : Int).toNat) (0 : Int).toNat then K (.s (bl true)) [some (.ro 4 (.gen N fun i => encRa (f i)))] else K (.s (bl false)) [some (.ro 4 (.gen N fun i => encRa (f i)))] else none else none := by kernel_rfl
noncomputable def greatSum : Sum := fun args _ => match args with
  | [.c (.slc b 0 n)] => .rd b fun
    | .ro 4 (.gen N ge) => .br (Nat.beq N n && chkRo encRa decRaD ge) (cvE (.bool (greatV N fun j => decRaD (ge j)))) .fail
    | _ => .fail
  | _ => .fail
theorem ok_great : SumOk Try.prog 14 greatSum := by
  refine sumOk_row okS0 mixed Try.func14 (cd := bodyOf Try.f14) (by kernel_rfl) (by kernel_rfl) ?_
  intro args nx look e rds h
  unfold greatSum at h
  split at h
  · rename_i b n
    have hq := rd_sem.1 h
    clear h
    obtain ⟨sb, rds', hl, h, _⟩ := hq
    split at h
    · rename_i N ge
      have hq := br_sem.1 h
      clear h
      obtain ⟨h1, h⟩ := hq
      rw [cv_sem] at h
      cases h
      simp only [Bool.and_eq_true] at h1
      obtain ⟨h1, h2⟩ := h1
      obtain rfl := Nat.eq_of_beq_eq_true h1
      have g := chkRo_spec h2
      refine ⟨[], [], b, 0, N, _, 4, .gen N ge, .gen N ge, _, [some (.ro 4 (.gen N ge))], LG, 10, rfl, fun _ => rfl, fun _ => rfl, hl, .inr rfl, Nat.le_refl _, fun _ _ => rfl, rfl, fun _ => rfl, loopsG, ?_⟩
      have t := t_great N (fun j => decRaD (ge j)) (fun tv hp => some (tv, hp))
      rw [← g] at t
      refine t.trans ?_
      unfold greatV
      by_cases c1 : (N : Int) > 200
      · rw [decide_eq_true c1]; rfl
      · rw [decide_eq_false c1, h2, decide_eq_true (show 0 ≤ (0 : Int) ∧ 0 ≤ (N : Int) ∧ N ≤ 1000 by omega), show (Nat.beq N N && decide ((N : Int) = N) && true) = true by simp]
        show (bif anyG (fun j => decRaD (ge j)) N 0 then _ else _) = _
        cases anyG (fun j => decRaD (ge j)) N 0 <;> rfl
    · cases fail_sem.1 h
  · cases fail_sem.1 h
@[reducible] noncomputable def SX : Sums := (14, greatSum) :: (17, (genSum g_script2)) :: SM
theorem okSX : SumsOk Try.prog SX := ((okSM.cons ok_script2).cons ok_great)
/-! ### What is scripted -/
theorem cat_enc (i0 n : Nat) (o : Nat → Int) (l : List Int) : catG (subG (fun j => encI (o j)) i0) (subG (catG (subG (fun j => litZ 1 [CV.int IntKind.i64 0] [] j) 0) (fun j => [.int .i64 (l.getD j 0)]) 0) 0) n = fun j => encI (if j < n then o (i0 + j) else l.getD (j - n) 0) := by
  funext j
  by_cases h : j < n
  · rw [catG_lt h, subG_eq, if_pos h]
  · rw [catG_ge (by omega), if_neg h]
    rfl
end Go.Proofs.Ytendbpghgllphaa.Rt

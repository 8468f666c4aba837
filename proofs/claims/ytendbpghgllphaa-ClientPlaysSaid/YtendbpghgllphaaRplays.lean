/- The law RouterPlays: true, and no memory that was there is written. -/
import Derived.Test.YtendbpghgllphaaRrel
set_option maxRecDepth 100000
set_option linter.unusedSimpArgs false
set_option linter.unusedVariables false
namespace Go.Proofs.Ytendbpghgllphaa.Rt
open Go Go.Proofs.Ytendbpghgllphaa.Sx
@[reducible] noncomputable def SP : Sums := (20, (genSumT g_mcall)) :: (21, (genSumT g_mscript)) :: (23, ptrVal encRF decRF g_marm) :: (25, ptrVal encRF decRF g_mreset) :: SX
theorem okSP : SumsOk Try.prog SP := ((((okSX.cons ok_mreset).cons ok_marm).cons ok_mscript).cons ok_mcall)
@[reducible] def RpA := Int × Nat × (Nat → Ra) × Nat × Rou × (Nat → Int) × Nat × Rm × (Nat → Int)
@[reducible] def encRpG (i : Int) (N : Nat) (f : Nat → Ra) (M : Nat) (r : Rou) (ge : Nat → List CV) (M' : Nat) (m : Rm) (ge' : Nat → List CV) : Sx.St :=
  ⟨[(3, .s (.c (.ptr 1 0))), (4, .s (.c (.ptr 2 0))), (5, .s (.c (.ptr 3 0))), (6, .s (.c (.ptr 5 0))), (30, .s (.c (.slc 0 0 N))), (31, .s (.c (.int .i64 (N : Int)))), (32, .s (.c (.int .i64 i)))],
    [some (.ro 4 (.gen N fun i => encRa (f i))), some (.cells [.int .i64 r.left, .bool r.blown, .int .i64 r.count]), some (.cells [.bool m.armed, .int .i64 m.left, .bool m.blown, .int .i64 m.count]),
     some (.cells [.int .i64 r.slot, .int .i64 r.gen, .slc 4 r.i0 r.n, .int .i64 r.writes, .ptr 1 0]), some (.vec 1 [] (.gen M ge)), some (.cells [.int .i64 m.slot, .int .i64 m.gen, .slc 6 m.i0 m.n, .int .i64 m.writes, .ptr 2 0]), some (.vec 1 [] (.gen M' ge'))], 7, 107⟩
def encRp : RpA → Sx.St
  | (i, N, f, M, r, o, M', m, o') => encRpG i N f M r (fun j => encI (o j)) M' m (fun j => encI (o' j))
@[reducible] def RpB := Int × Int × Nat × Nat × (Nat → List CV) × Nat × Rou × (Nat → List CV) × Nat × Rm × (Nat → List CV)
def decRp : Sx.St → Option RpB
  | ⟨[(3, .s (.c (.ptr 1 0))), (4, .s (.c (.ptr 2 0))), (5, .s (.c (.ptr 3 0))), (6, .s (.c (.ptr 5 0))), (30, .s (.c (.slc 0 0 N'))), (31, .s (.c (.int .i64 m))), (32, .s (.c (.int .i64 i)))],
    [some (.ro 4 (.gen N f)), some (.cells [.int .i64 l, .bool c, .int .i64 d]), some (.cells [.bool x1, .int .i64 x2, .bool x3, .int .i64 x4]),
     some (.cells [.int .i64 a, .int .i64 b, .slc 4 i0 n, .int .i64 w, .ptr 1 0]), some (.vec 1 [] (.gen M ge)), some (.cells [.int .i64 y1, .int .i64 y2, .slc 6 y3 y4, .int .i64 y5, .ptr 2 0]), some (.vec 1 [] (.gen M' ge'))], 7, 107⟩ => some (i, m, N, N', f, M, ⟨a, b, w, i0, n, l, c, d⟩, ge, M', ⟨y1, y2, y5, y3, y4, x1, x2, x3, x4⟩, ge')
  | _ => none
noncomputable def chkRp : RpB → Bool
  | (_, m, N, N', f, _, _, ge, _, _, ge') => Nat.beq N N' && decide (m = N) && chkRo encI decID ge && chkRo encI decID ge' && chkRo encRa decRaD f
def normRp : RpB → RpA
  | (i, _, N, _, f, M, r, ge, M', m, ge') => (i, N, fun j => decRaD (f j), M, r, fun j => decID (ge j), M', m, fun j => decID (ge' j))
theorem decRp_spec (st : Sx.St) (p : RpB) (h : decRp st = some p) (hc : chkRp p = true) : st = encRp (normRp p) := by
  unfold decRp at h
  split at h
  · cases h
    simp only [chkRp, Bool.and_eq_true, decide_eq_true_eq] at hc
    obtain ⟨⟨⟨⟨h1, h2⟩, h3⟩, h4⟩, h5⟩ := hc
    have h1 := Nat.eq_of_beq_eq_true h1
    subst h1 h2
    have g := chkRo_spec h3
    have g' := chkRo_spec h4
    have g'' := chkRo_spec h5
    unfold normRp encRp encRpG
    simp only
    rw [← g, ← g', ← g'']
  · cases h
def noRp (N : Nat) (f : Nat → Ra) : Sx.St := ⟨[(2, .s (.c (.bool false)))], [some (.ro 4 (.gen N fun i => encRa (f i)))], 1, 107⟩
def finRp (N : Nat) (f : Nat → Ra) : Sx.St := ⟨[], [some (.ro 4 (.gen N fun i => encRa (f i)))], 1, 107⟩
structure RpI (p : RpA) : Prop where
  i : 0 ≤ p.1 ∧ p.1 ≤ p.2.1
  N : p.2.1 ≤ 200
  wf : ∀ j, j < p.2.1 → wfRa (p.2.2.1 j)
  len : ∀ j, j < p.2.1 → (p.2.2.1 j).outL.length ≤ 100
  n : p.2.2.2.2.1.i0 + p.2.2.2.2.1.n = p.2.2.2.1
  M : (p.2.2.2.1 : Int) ≤ 100 * p.1
  n' : p.2.2.2.2.2.2.2.1.i0 + p.2.2.2.2.2.2.2.1.n ≤ p.2.2.2.2.2.2.1
  rel : RelR p.2.2.2.2.1 p.2.2.2.2.2.1 p.2.2.2.2.2.2.2.1 p.2.2.2.2.2.2.2.2
noncomputable def goodRp (p : RpA) : Bool := @decide (RpI p) (Classical.propDecidable _)
theorem goodRp_iff {p : RpA} : goodRp p = true ↔ RpI p := Iff.of_eq (@decide_eq_true_eq _ (Classical.propDecidable _))
noncomputable def tRp (p : RpA) (R : Type) (K : Ex → Sx.St → Option R) : Option R := bif goodRp p then K (.exit 0) (finRp p.2.1 p.2.2.1) else none
@[reducible] noncomputable def LRp : List (Nat × LoopSum) := [(0, formSumC decRp chkRp normRp tRp)]
/-- Does all stand alike? -/
@[reducible] noncomputable def tl {α : Type} (r : Rou) (M : Nat) (ge : Nat → List CV) (m : Rm) (no yes : Option α) : Option α :=
  bif chkB r M ge then bif !(r.slot == m.slot && (r.gen == m.gen && true)) then no else bif chkB r M ge then bif r.writes != m.writes then no else bif r.count != m.count then no else yes else none else none
theorem tl_eq {α : Type} {r : Rou} {M : Nat} {ge : Nat → List CV} {m : Rm} (no yes : Option α) (h1 : r.slot = m.slot) (h2 : r.gen = m.gen) (h3 : r.writes = m.writes) (h4 : r.count = m.count) (hc : chkB r M ge = true) : tl r M ge m no yes = yes := by
  unfold tl
  rw [hc, h1, h2, h3, h4]
  simp
theorem tl_yes {α : Type} {r : Rou} {M : Nat} {ge : Nat → List CV} {m : Rm} {o o' : Nat → Int} (no yes : Option α) (h : RelR r o m o') (hc : chkB r M ge = true) : tl r M ge m no yes = yes := tl_eq _ _ h.slot h.gen h.writes h.fuse.count hc
theorem roundRp {R : Type} (L : List (Nat × LoopSum)) (N : Nat) (f : Nat → Ra) (i : Int) (M : Nat) (r : Rou) (o : Nat → Int) (M' : Nat) (m : Rm) (o' : Nat → Int) (K : Ex → Sx.St → Option R) :
    roundK Try.prog SP L 10 1 (resMask Try.f6.results.toList) (lpAt Try.f6 0) (encRp (i, N, f, M, r, o, M', m, o')) K =
    bif decide (i < (N : Int)) then bif decide (0 ≤ i) && decide (i < (N : Int)) then bif decide (i.toNat < N) then
      bif (f i.toNat).kind == 1 then bif chkB r M (fun j => encI (o j)) then bif chkMb m M' (fun j => encI (o' j)) then
        mc m o' (f i.toNat).gen (f i.toNat).slot (fun e m2 => bif (callV r o (f i.toNat).gen (f i.toNat).slot).1 != e then K .ret (noRp N f) else tl (callV r o (f i.toNat).gen (f i.toNat).slot).2 M (fun j => encI (o j)) m2 (K .ret (noRp N f))
            (K .normal (encRpG (IntKind.i64.wrap (i + 1)) N f M (callV r o (f i.toNat).gen (f i.toNat).slot).2 (fun j => encI (o j)) M' m2 (fun j => encI (o' j)))))
          (fun e m2 => bif (callV r o (f i.toNat).gen (f i.toNat).slot).1 != e then K .ret (noRp N f) else tl (callV r o (f i.toNat).gen (f i.toNat).slot).2 M (fun j => encI (o j)) m2 (K .ret (noRp N f))
            (K .normal (encRpG (IntKind.i64.wrap (i + 1)) N f M (callV r o (f i.toNat).gen (f i.toNat).slot).2 (fun j => encI (o j)) (m.n - 1) m2 (subG (fun j => encI (o' j)) (addI m.i0 1)))))
      else none else none
      else bif (f i.toNat).kind == 2 then bif decide ((f i.toNat).outL.length ≤ 4294967296) then
        bif decide (M = addI r.i0 r.n) && decide ((f i.toNat).outL.length ≤ (f i.toNat).outL.length) && decide (addI r.n (f i.toNat).outL.length ≤ 4294967296) then bif decide (m.i0 + m.n ≤ M' ∧ m.n + (f i.toNat).outL.length ≤ 4294967296) then
          tl ⟨r.slot, r.gen, r.writes, 0, addI r.n (f i.toNat).outL.length, r.left, r.blown, r.count⟩ (addI r.n (f i.toNat).outL.length) (catG (subG (fun j => encI (o j)) r.i0) (subG (catG (subG (fun j => litZ 1 [CV.int IntKind.i64 0] [] j) 0) (fun j => [.int .i64 ((f i.toNat).outL.getD j 0)]) 0) 0) r.n) m (K .ret (noRp N f))
            (K .normal (encRpG (IntKind.i64.wrap (i + 1)) N f (addI r.n (f i.toNat).outL.length) ⟨r.slot, r.gen, r.writes, 0, addI r.n (f i.toNat).outL.length, r.left, r.blown, r.count⟩ (catG (subG (fun j => encI (o j)) r.i0) (subG (catG (subG (fun j => litZ 1 [CV.int IntKind.i64 0] [] j) 0) (fun j => [.int .i64 ((f i.toNat).outL.getD j 0)]) 0) 0) r.n)
              (addI m.n (f i.toNat).outL.length) ⟨m.slot, m.gen, m.writes, 0, addI m.n (f i.toNat).outL.length, m.armed, m.left, m.blown, m.count⟩ (catG (subG (fun j => encI (o' j)) m.i0) (fun j => [.int .i64 ((f i.toNat).outL.getD j 0)]) m.n)))
        else none else none else none
      else bif (f i.toNat).kind == 3 then tl (putF r (armV (fu r) (f i.toNat).gen)) M (fun j => encI (o j)) (putM m (marmV (mfu m) (f i.toNat).gen)) (K .ret (noRp N f))
        (K .normal (encRpG (IntKind.i64.wrap (i + 1)) N f M (putF r (armV (fu r) (f i.toNat).gen)) (fun j => encI (o j)) M' (putM m (marmV (mfu m) (f i.toNat).gen)) (fun j => encI (o' j))))
      else bif (f i.toNat).kind == 4 then tl (putF r (resetV (fu r))) M (fun j => encI (o j)) (putM m (mresetV (mfu m))) (K .ret (noRp N f))
        (K .normal (encRpG (IntKind.i64.wrap (i + 1)) N f M (putF r (resetV (fu r))) (fun j => encI (o j)) M' (putM m (mresetV (mfu m))) (fun j => encI (o' j))))
      else tl r M (fun j => encI (o j)) m (K .ret (noRp N f)) (K .normal (encRpG (IntKind.i64.wrap (i + 1)) N f M r (fun j => encI (o j)) M' m (fun j => encI (o' j))))
    else none else none else K (.exit 0) (finRp N f) := by kernel_rfl
theorem cut_enc (k : Nat) (o : Nat → Int) : subG (fun j => encI (o j)) k = fun j => encI (o (k + j)) := by
  funext j
  rw [subG_eq]
theorem cat_enc2 (i0 n : Nat) (o : Nat → Int) (l : List Int) : catG (subG (fun j => encI (o j)) i0) (fun j => [.int .i64 (l.getD j 0)]) n = fun j => encI (if j < n then o (i0 + j) else l.getD (j - n) 0) := by
  funext j
  by_cases h : j < n
  · rw [catG_lt h, subG_eq, if_pos h]
  · rw [catG_ge (by omega), if_neg h]
theorem okRp : LoopOk Try.prog SP LRp 10 1 (resMask Try.f6.results.toList) (lpAt Try.f6 0) (formSumC decRp chkRp normRp tRp) := by
  refine LoopOk.ofC decRp_spec (fun p => p.2.1 - p.1.toNat) ?_
  rintro ⟨i, N, f, M, r, o, M', m, o'⟩ R K x h
  unfold tRp at h
  cases hg : goodRp (i, N, f, M, r, o, M', m, o') with
  | false => rw [hg] at h; cases h
  | true =>
    rw [hg, cond_true] at h
    obtain ⟨h1, h2, h3, h4, h5, h6, h7, h8⟩ := goodRp_iff.1 hg
    simp only at h1 h2 h3 h4 h5 h6 h7 h8 h
    by_cases hi : i < (N : Int)
    · left
      have key : ∀ (M2 : Nat) (r2 : Rou) (o2 : Nat → Int) (M2' : Nat) (m2 : Rm) (o2' : Nat → Int), r2.i0 + r2.n = M2 → (M2 : Int) ≤ 100 * (i + 1) → m2.i0 + m2.n ≤ M2' → RelR r2 o2 m2 o2' → tRp (i + 1, N, f, M2, r2, o2, M2', m2, o2') R K = some x := fun M2 r2 o2 M2' m2 o2' a b c d => by
        unfold tRp
        rw [goodRp_iff.2 ⟨by simp only; omega, h2, h3, h4, a, b, c, d⟩]
        exact h
      have c0 : chkB r M (fun j => encI (o j)) = true := chkB_true (by omega)
      have hl := h4 i.toNat (by omega)
      have hw := h3 i.toNat (by omega)
      have c1 : chkMb m M' (fun j => encI (o' j)) = true := chkMb_iff.2 ⟨rfl, h7, by rw [← h8.n]; omega⟩
      have hr : ∀ K' : Ex → Sx.St → Option R, _ := fun K' => roundRp LRp N f i M r o M' m o' K'
      simp only [decide_eq_true hi, decide_eq_true h1.1, decide_eq_true (show i.toNat < N by omega), wi (x := i + 1) (by omega), Bool.and_self, cond_true, c0, c1] at hr
      generalize f i.toNat = c at hr hl hw
      cases k1 : c.kind == 1 with
      | true =>
        simp only [k1, cond_true, mc_eq] at hr
        obtain ⟨g1, g2, g3, g4⟩ := rel_call h8 c.gen c.slot
        have hn := call_n r o c.gen c.slot
        have c2 : chkB (callV r o c.gen c.slot).2 M (fun j => encI (o j)) = true := by rw [chkB_call]; exact c0
        cases hp : (mres m o' c.gen c.slot).1 with
        | false =>
          rw [hp] at g2 g4
          have g4 := g4 rfl
          refine ⟨(i + 1, N, f, M, (callV r o c.gen c.slot).2, o, M', (mres m o' c.gen c.slot).2.2, o'), by simp only; omega, fun K' => ?_, key _ _ _ _ _ _ (by omega) (by omega) (by omega) g2⟩
          rw [hr, hp, g1]
          simp only [cond_false, bne_self_eq_false]
          exact tl_yes _ _ g2 c2
        | true =>
          rw [hp] at g2 g3
          have g3 := g3 rfl
          refine ⟨(i + 1, N, f, M, (callV r o c.gen c.slot).2, o, m.n - 1, (mres m o' c.gen c.slot).2.2, fun j => o' (m.i0 + 1 + j)), by simp only; omega, fun K' => ?_, key _ _ _ _ _ _ (by omega) (by omega) (by omega) g2⟩
          rw [hr, hp, g1, cut_enc, addI_eq]
          simp only [cond_true, cond_false, bne_self_eq_false]
          exact tl_yes _ _ g2 c2
      | false =>
      cases k2 : c.kind == 2 with
      | true =>
        have hrel : RelR ⟨r.slot, r.gen, r.writes, 0, r.n + c.outL.length, r.left, r.blown, r.count⟩ (fun j => if j < r.n then o (r.i0 + j) else c.outL.getD (j - r.n) 0) ⟨m.slot, m.gen, m.writes, 0, m.n + c.outL.length, m.armed, m.left, m.blown, m.count⟩ (fun j => if j < m.n then o' (m.i0 + j) else c.outL.getD (j - m.n) 0) := by
          refine ⟨h8.slot, h8.gen, h8.writes, by simp only [h8.n], ?_, h8.fuse⟩
          intro j _
          simp only [Nat.zero_add, ← h8.n]
          by_cases hj : j < r.n
          · rw [if_pos hj, if_pos hj]; exact h8.out j hj
          · rw [if_neg hj, if_neg hj]
        have hn := h8.n
        refine ⟨(i + 1, N, f, r.n + c.outL.length, ⟨r.slot, r.gen, r.writes, 0, r.n + c.outL.length, r.left, r.blown, r.count⟩, _, m.n + c.outL.length, ⟨m.slot, m.gen, m.writes, 0, m.n + c.outL.length, m.armed, m.left, m.blown, m.count⟩, _), by show N - (i + 1).toNat < N - i.toNat; omega, fun K' => ?_, key _ _ _ _ _ _ (by simp) (by omega) (by simp) hrel⟩
        rw [hr, k1, k2, cat_enc, cat_enc2]
        simp only [addI_eq]
        rw [decide_eq_true (show c.outL.length ≤ 4294967296 by omega), decide_eq_true (show M = r.i0 + r.n by omega), decide_eq_true (Nat.le_refl c.outL.length), decide_eq_true (show r.n + c.outL.length ≤ 4294967296 by omega), decide_eq_true (show m.i0 + m.n ≤ M' ∧ m.n + c.outL.length ≤ 4294967296 by omega)]
        simp only [cond_true, cond_false, Bool.and_self]
        exact tl_eq (r := ⟨r.slot, r.gen, r.writes, 0, r.n + c.outL.length, r.left, r.blown, r.count⟩) _ _ h8.slot h8.gen h8.writes h8.fuse.count (chkB_true (Nat.le_of_eq (Nat.zero_add _)))
      | false =>
      cases k3 : c.kind == 3 with
      | true =>
        have hrel : RelR (putF r (armV (fu r) c.gen)) o (putM m (marmV (mfu m) c.gen)) o' := ⟨h8.slot, h8.gen, h8.writes, h8.n, h8.out, rel_arm h8.fuse hw.gen⟩
        refine ⟨(i + 1, N, f, M, putF r (armV (fu r) c.gen), o, M', putM m (marmV (mfu m) c.gen), o'), by simp only; omega, fun K' => ?_, key _ _ _ _ _ _ h5 (by omega) h7 hrel⟩
        rw [hr, k1, k2, k3]
        exact tl_yes _ _ hrel (chkB_true (show r.i0 + r.n ≤ M by omega))
      | false =>
      cases k4 : c.kind == 4 with
      | true =>
        have hrel : RelR (putF r (resetV (fu r))) o (putM m (mresetV (mfu m))) o' := ⟨h8.slot, h8.gen, h8.writes, h8.n, h8.out, rel_reset (s := fu r) (g := mfu m) h8.fuse⟩
        refine ⟨(i + 1, N, f, M, putF r (resetV (fu r)), o, M', putM m (mresetV (mfu m)), o'), by simp only; omega, fun K' => ?_, key _ _ _ _ _ _ h5 (by omega) h7 hrel⟩
        rw [hr, k1, k2, k3, k4]
        exact tl_yes _ _ hrel (chkB_true (show r.i0 + r.n ≤ M by omega))
      | false =>
        refine ⟨(i + 1, N, f, M, r, o, M', m, o'), by simp only; omega, fun K' => ?_, key _ _ _ _ _ _ h5 (by omega) h7 h8⟩
        rw [hr, k1, k2, k3, k4]
        exact tl_yes _ _ h8 c0
    · right
      refine ⟨.exit 0, _, by simp, fun K' => ?_, h⟩
      rw [roundRp, decide_eq_false hi]
      rfl
theorem loopsRp : LoopsOk Try.prog SP LRp 10 1 (resMask Try.f6.results.toList) (loopsOf (resMask Try.f6.results.toList) (bodyOf Try.f6) [] (resMask Try.f6.results.toList)) :=
  loopsOk_ix 1 (by kernel_rfl) ⟨trivial, loopOk_here (n := 0) (by kernel_rfl) rfl okRp⟩
@[reducible] def rpNew : Rou := ⟨0, 0, 0, 0, 0, -1, false, 0⟩
@[reducible] def mpNew : Rm := ⟨0, 0, 0, 0, 0, false, 0, false, 0⟩
theorem t_RouterPlays {R : Type} (N : Nat) (f : Nat → Ra) (K : TV → List (Option SB) → Option R) : runFnL Try.prog SP LRp 10 Try.f6 (bodyOf Try.f6) [.c (.slc 0 0 N)] [.ro 4 (.gen N fun i => encRa (f i))] K =
    bif Nat.beq N N && chkRo encRa decRaD (fun i => encRa (f i)) then bif greatV N f then K (.s (bl true)) [some (.ro 4 (.gen N fun i => encRa (f i)))] else
      bif Nat.beq N N && decide ((N : Int) = N) && chkRo encI decID (fun _ => encI 0) && chkRo encI decID (fun _ => encI 0) && chkRo encRa decRaD (fun i => encRa (f i)) then bif goodRp (0, N, f, 0, rpNew, fun _ => 0, 0, mpNew, fun _ => 0) then K (.s (bl true)) [some (.ro 4 (.gen N fun i => encRa (f i)))] else none else none else none := by kernel_rfl
theorem RouterPlays (N : Nat) (f : Nat → Ra) (q : ∀ i, i < N → wfRa (f i)) (w : World) (v : Value) (l : Sx.Loc) (hs : SlcR l 0 N v) (hb : BlkR (outs w) (rho1 l) l (.ro 4 (.gen N fun i => encRa (f i))) w) :
    Calls Try.prog 6 #[v] w fun e w' => e = .returned (.bool true) ∧ RowKit.Below w.heap.size w w' := by
  refine law_callsL okSP mixed Try.func6 (c := bodyOf Try.f6) (by kernel_rfl) lawK_spec (fuel := 10) (args := [.c (.slc 0 0 N)]) (hp0 := [.ro 4 (.gen N fun i => encRa (f i))]) (X := fun _ _ => True) (ρ := rho1 l) (vs := [v]) loopsRp ?_ ⟨⟨l, rfl, hs⟩, trivial⟩ (blk1 hb) rho1_out
  rw [t_RouterPlays, chkRo_true backRa, show (Nat.beq N N && true) = true by simp, cond_true]
  cases hgr : greatV N f with
  | true => rfl
  | false =>
    unfold greatV at hgr
    rw [Bool.or_eq_false_iff, decide_eq_false_iff_not] at hgr
    have hg : goodRp (0, N, f, 0, rpNew, fun _ => 0, 0, mpNew, fun _ => 0) = true := goodRp_iff.2 ⟨by simp, by simp only; omega, q, fun j hj => anyG_spec hgr.2 j (Nat.zero_le _) (by simpa using hj), rfl, by simp, Nat.le_refl _, ⟨rfl, rfl, rfl, rfl, fun _ _ => rfl, rel_new⟩⟩
    have e0 : chkRo encI decID (fun _ => encI 0) = true := chkRo_true backI (fun _ => 0)
    rw [hg, e0, show (Nat.beq N N && decide ((N : Int) = N) && true && true && true) = true by simp]
    rfl
end Go.Proofs.Ytendbpghgllphaa.Rt

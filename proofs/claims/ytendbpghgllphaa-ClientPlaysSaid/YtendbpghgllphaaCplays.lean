/- The law ClientPlays: true, and no memory that was there is written. -/
import Derived.Test.YtendbpghgllphaaRset
set_option maxRecDepth 100000
set_option linter.unusedSimpArgs false
set_option linter.unusedVariables false
namespace Go.Proofs.Ytendbpghgllphaa.Rt
open Go Go.Proofs.Ytendbpghgllphaa.Sx
structure Ca where
  kind : Int
  n : Int
  slot : Int
  gen : Int
  outV : Value
  outL : List Int
instance : Inhabited Ca := ⟨⟨0, 0, 0, 0, .bool false, []⟩⟩
def encCa (s : Ca) : List CV := [.int .i64 s.kind, .int .i64 s.n, .int .i64 s.slot, .int .i64 s.gen, .xs s.outV s.outL]
def decCa : List CV → Option Ca
  | [.int .i64 a0, .int .i64 a1, .int .i64 a2, .int .i64 a3, .xs a4 b4] => some ⟨a0, a1, a2, a3, a4, b4⟩
  | _ => none
def decCaD : List CV → Ca
  | [.int .i64 a0, .int .i64 a1, .int .i64 a2, .int .i64 a3, .xs a4 b4] => ⟨a0, a1, a2, a3, a4, b4⟩
  | _ => default
theorem decCa_spec (l : List CV) (s : Ca) (h : decCa l = some s) : l = encCa s := by
  unfold decCa at h; split at h <;> cases h; rfl
theorem encCa_ren (s : Ca) (π) : (encCa s).map (CV.ren π) = encCa s := rfl
theorem backCa (s : Ca) : decCaD (encCa s) = s := rfl
structure wfCa (s : Ca) : Prop where
  kind : (Lit.int .i64 s.kind).wf = true
  n : (Lit.int .i64 s.n).wf = true
  slot : (Lit.int .i64 s.slot).wf = true
  gen : (Lit.int .i64 s.gen).wf = true
  out : ∀ x ∈ s.outL, (Lit.int .i64 x).wf = true
theorem opCa {w : World} (cvs : List CV) (vs : List Value) (h : LeafXRs w [.int .i64, .int .i64, .int .i64, .int .i64, .ints] cvs vs) : ∃ x, cvs = encCa x ∧ wfCa x := by
  obtain ⟨_, _, _, _, rfl, rfl, ⟨a0, rfl, rfl, w0⟩, h0⟩ := h.cons_inv
  obtain ⟨_, _, _, _, rfl, rfl, ⟨a1, rfl, rfl, w1⟩, h1⟩ := h0.cons_inv
  obtain ⟨_, _, _, _, rfl, rfl, ⟨a2, rfl, rfl, w2⟩, h2⟩ := h1.cons_inv
  obtain ⟨_, _, _, _, rfl, rfl, ⟨a3, rfl, rfl, w3⟩, h3⟩ := h2.cons_inv
  obtain ⟨_, _, _, _, rfl, rfl, ⟨a4, b4, rfl, rfl, _, _, w4⟩, h4⟩ := h3.cons_inv
  obtain ⟨rfl, rfl⟩ := h4.nil_inv
  exact ⟨⟨a0, a1, a2, a3, _, b4⟩, rfl, ⟨w0, w1, w2, w3, w4⟩⟩
@[reducible] noncomputable def SC : Sums := (31, (genSumT g_mset)) :: SP
theorem okSC : SumsOk Try.prog SC := (okSP.cons ok_mset)
theorem clamp_eq (n : Int) : clamp n = triesV n := by
  have a : foldMax n [1] = if 1 > n then 1 else n := rfl
  have b : ∀ x : Int, foldMin x [8] = if 8 < x then 8 else x := fun _ => rfl
  rw [show clamp n = foldMin (foldMax n [1]) [8] from rfl, b, a]
  unfold triesV
  by_cases h1 : n < 1
  · rw [decide_eq_true h1, if_pos (show 1 > n by omega)]; rfl
  · rw [decide_eq_false h1, if_neg (show ¬ 1 > n by omega)]
    by_cases h2 : n > 8
    · rw [decide_eq_true h2, if_pos (show 8 < n by omega)]; rfl
    · rw [decide_eq_false h2, if_neg (show ¬ 8 < n by omega)]; rfl
theorem rel_loop {o : Nat → Int} {to : Cell} {T : Int} : ∀ {k : Nat} {n : Int} {r : Rou} {s : MS}, RelR r o s.r s.o → s.e = 10 → s.n = n - 1 → n ≤ T → (T - n).toNat < k → s.r.i0 + s.r.n ≤ s.M →
    (setG o to T k n r).1 = (mloop to T (T - s.n).toNat s).e ∧ (setG o to T k n r).2.1 = (mloop to T (T - s.n).toNat s).n ∧ RelR (setG o to T k n r).2.2 o (mloop to T (T - s.n).toNat s).r (mloop to T (T - s.n).toNat s).o ∧ (mloop to T (T - s.n).toNat s).r.i0 + (mloop to T (T - s.n).toNat s).r.n ≤ (mloop to T (T - s.n).toNat s).M ∧
      ((mloop to T (T - s.n).toNat s).b = false → s.b = false ∧ (mloop to T (T - s.n).toNat s).M = s.M)
  | 0, n, r, s, _, _, _, _, h, _ => by omega
  | k + 1, n, r, s, hr, he, hn, hT, hk, hM => by
    have e1 : (T - s.n).toNat = (T - n).toNat + 1 := by omega
    have e2 : (s.e == 10 && decide (s.n < T)) = true := by rw [he, decide_eq_true (show s.n < T by omega)]; rfl
    have e3 : mloop to T (T - s.n).toNat s = mloop to T (T - n).toNat (mstep to s) := by
      rw [e1]
      conv => lhs; unfold mloop
      rw [e2]; rfl
    rw [e3]
    obtain ⟨g1, g2, g3, g4⟩ := rel_call hr to.gen to.slot
    have hM' : (mstep to s).r.i0 + (mstep to s).r.n ≤ (mstep to s).M := by
      show (mres s.r s.o to.gen to.slot).2.2.i0 + (mres s.r s.o to.gen to.slot).2.2.n ≤ (bif (mres s.r s.o to.gen to.slot).1 then s.r.n - 1 else s.M)
      cases hp : (mres s.r s.o to.gen to.slot).1 with
      | false => have := g4 hp; simp only [cond_false]; omega
      | true => have := g3 hp; simp only [cond_true]; omega
    have hb' : (mstep to s).b = false → s.b = false ∧ (mstep to s).M = s.M := by
      intro hb
      have hb' : (s.b || (mres s.r s.o to.gen to.slot).1) = false := hb
      simp only [Bool.or_eq_false_iff] at hb'
      refine ⟨hb'.1, ?_⟩
      show (bif (mres s.r s.o to.gen to.slot).1 then s.r.n - 1 else s.M) = s.M
      rw [hb'.2]; rfl
    have hn' : (mstep to s).n = n := by show s.n + 1 = n; omega
    unfold setG
    by_cases c1 : (callV r o to.gen to.slot).1 = 10
    · rw [show ((callV r o to.gen to.slot).1 != 10) = false by simp [c1]]
      simp only [cond_false]
      by_cases c2 : n = T
      · rw [show (n == T) = true by simpa using c2]
        simp only [cond_true]
        rw [mloop_stop (s := mstep to s) (by rw [hn', decide_eq_false (show ¬ n < T by omega), Bool.and_false])]
        exact ⟨g1, hn'.symm, g2, hM', hb'⟩
      · rw [show (n == T) = false by simpa using c2]
        simp only [cond_false]
        have ih := rel_loop (o := o) (to := to) (T := T) (k := k) (n := n + 1) (r := (callV r o to.gen to.slot).2) (s := mstep to s) g2 (g1.symm.trans c1) (by omega) (by omega) (by omega) hM'
        rw [hn'] at ih
        obtain ⟨i1, i2, i3, i4, i5⟩ := ih
        exact ⟨i1, i2, i3, i4, fun hb => ⟨(hb' (i5 hb).1).1, (i5 hb).2.trans (hb' (i5 hb).1).2⟩⟩
    · rw [show ((callV r o to.gen to.slot).1 != 10) = true by simpa using c1]
      simp only [cond_true]
      have c3 : (mstep to s).e ≠ 10 := by
        show (mres s.r s.o to.gen to.slot).2.1 ≠ 10
        rw [← g1]; exact c1
      rw [mloop_stop (s := mstep to s) (by rw [show ((mstep to s).e == 10) = false by simpa using c3, Bool.false_and])]
      exact ⟨g1, hn'.symm, g2, hM', hb'⟩
theorem rel_cset {r : Rou} {o : Nat → Int} {m : Rm} {N : Nat} {o' : Nat → Int} (h : RelR r o m o') (hN : m.i0 + m.n ≤ N) (to : Cell) (tries : Int) : (csetV r o to tries).1 = (msetV m N o' to tries).e ∧ (csetV r o to tries).2.1 = (msetV m N o' to tries).n ∧ RelR (csetV r o to tries).2.2 o (msetV m N o' to tries).r (msetV m N o' to tries).o ∧
    (msetV m N o' to tries).r.i0 + (msetV m N o' to tries).r.n ≤ (msetV m N o' to tries).M := by
  have := triesV_le tries
  have hh := rel_loop (o := o) (to := to) (T := triesV tries) (k := 8) (n := 1) (r := r) (s := ⟨false, 10, 0, m, N, o'⟩) h rfl (by simp) this.1 (by omega) hN
  unfold csetV msetV mfin
  rw [clamp_eq]
  exact ⟨hh.1, hh.2.1, hh.2.2.1, hh.2.2.2.1⟩
@[reducible] def CpA := Int × Nat × (Nat → Ca) × Nat × Rou × (Nat → Int) × Nat × Rm × (Nat → Int)
@[reducible] def encCpG (i : Int) (N : Nat) (f : Nat → Ca) (M : Nat) (r : Rou) (ge : Nat → List CV) (M' : Nat) (m : Rm) (ge' : Nat → List CV) : Sx.St :=
  ⟨[(3, .s (.c (.ptr 1 0))), (4, .s (.c (.ptr 2 0))), (5, .s (.c (.ptr 3 0))), (6, .s (.c (.ptr 5 0))), (35, .s (.c (.slc 0 0 N))), (36, .s (.c (.int .i64 (N : Int)))), (37, .s (.c (.int .i64 i)))],
    [some (.ro 5 (.gen N fun i => encCa (f i))), some (.cells [.int .i64 r.left, .bool r.blown, .int .i64 r.count]), some (.cells [.bool m.armed, .int .i64 m.left, .bool m.blown, .int .i64 m.count]),
     some (.cells [.int .i64 r.slot, .int .i64 r.gen, .slc 4 r.i0 r.n, .int .i64 r.writes, .ptr 1 0]), some (.vec 1 [] (.gen M ge)), some (.cells [.int .i64 m.slot, .int .i64 m.gen, .slc 6 m.i0 m.n, .int .i64 m.writes, .ptr 2 0]), some (.vec 1 [] (.gen M' ge'))], 7, 129⟩
def encCp : CpA → Sx.St
  | (i, N, f, M, r, o, M', m, o') => encCpG i N f M r (fun j => encI (o j)) M' m (fun j => encI (o' j))
@[reducible] def CpB := Int × Int × Nat × Nat × (Nat → List CV) × Nat × Rou × (Nat → List CV) × Nat × Rm × (Nat → List CV)
def decCp : Sx.St → Option CpB
  | ⟨[(3, .s (.c (.ptr 1 0))), (4, .s (.c (.ptr 2 0))), (5, .s (.c (.ptr 3 0))), (6, .s (.c (.ptr 5 0))), (35, .s (.c (.slc 0 0 N'))), (36, .s (.c (.int .i64 m))), (37, .s (.c (.int .i64 i)))],
    [some (.ro 5 (.gen N f)), some (.cells [.int .i64 l, .bool c, .int .i64 d]), some (.cells [.bool x1, .int .i64 x2, .bool x3, .int .i64 x4]),
     some (.cells [.int .i64 a, .int .i64 b, .slc 4 i0 n, .int .i64 w, .ptr 1 0]), some (.vec 1 [] (.gen M ge)), some (.cells [.int .i64 y1, .int .i64 y2, .slc 6 y3 y4, .int .i64 y5, .ptr 2 0]), some (.vec 1 [] (.gen M' ge'))], 7, 129⟩ => some (i, m, N, N', f, M, ⟨a, b, w, i0, n, l, c, d⟩, ge, M', ⟨y1, y2, y5, y3, y4, x1, x2, x3, x4⟩, ge')
  | _ => none
noncomputable def chkCp : CpB → Bool
  | (_, m, N, N', f, _, _, ge, _, _, ge') => Nat.beq N N' && decide (m = N) && chkRo encI decID ge && chkRo encI decID ge' && chkRo encCa decCaD f
def normCp : CpB → CpA
  | (i, _, N, _, f, M, r, ge, M', m, ge') => (i, N, fun j => decCaD (f j), M, r, fun j => decID (ge j), M', m, fun j => decID (ge' j))
theorem decCp_spec (st : Sx.St) (p : CpB) (h : decCp st = some p) (hc : chkCp p = true) : st = encCp (normCp p) := by
  unfold decCp at h
  split at h
  · cases h
    simp only [chkCp, Bool.and_eq_true, decide_eq_true_eq] at hc
    obtain ⟨⟨⟨⟨h1, h2⟩, h3⟩, h4⟩, h5⟩ := hc
    have h1 := Nat.eq_of_beq_eq_true h1
    subst h1 h2
    have g := chkRo_spec h3
    have g' := chkRo_spec h4
    have g'' := chkRo_spec h5
    unfold normCp encCp encCpG
    simp only
    rw [← g, ← g', ← g'']
  · cases h
def yesCp (N : Nat) (f : Nat → Ca) : Sx.St := ⟨[(2, .s (.c (.bool true)))], [some (.ro 5 (.gen N fun i => encCa (f i)))], 1, 129⟩
def noCp (N : Nat) (f : Nat → Ca) : Sx.St := ⟨[(2, .s (.c (.bool false)))], [some (.ro 5 (.gen N fun i => encCa (f i)))], 1, 129⟩
def finCp (N : Nat) (f : Nat → Ca) : Sx.St := ⟨[], [some (.ro 5 (.gen N fun i => encCa (f i)))], 1, 129⟩
structure CpI (p : CpA) : Prop where
  i : 0 ≤ p.1 ∧ p.1 ≤ p.2.1
  N : p.2.1 ≤ 100
  wf : ∀ j, j < p.2.1 → wfCa (p.2.2.1 j)
  n : p.2.2.2.2.1.i0 + p.2.2.2.2.1.n = p.2.2.2.1
  M : (p.2.2.2.1 : Int) ≤ 100 * p.1
  n' : p.2.2.2.2.2.2.2.1.i0 + p.2.2.2.2.2.2.2.1.n ≤ p.2.2.2.2.2.2.1
  rel : RelR p.2.2.2.2.1 p.2.2.2.2.2.1 p.2.2.2.2.2.2.2.1 p.2.2.2.2.2.2.2.2
noncomputable def goodCp (p : CpA) : Bool := @decide (CpI p) (Classical.propDecidable _)
theorem goodCp_iff {p : CpA} : goodCp p = true ↔ CpI p := Iff.of_eq (@decide_eq_true_eq _ (Classical.propDecidable _))
def longG (f : Nat → Ca) : Nat → Nat → Bool
  | 0, _ => false
  | k + 1, i => bif decide (((f i).outL.length : Int) > 100) then true else longG f k (i + 1)
noncomputable def tCp (p : CpA) (R : Type) (K : Ex → Sx.St → Option R) : Option R := bif goodCp p then bif longG p.2.2.1 (p.2.1 - p.1.toNat) p.1.toNat then K .ret (yesCp p.2.1 p.2.2.1) else K (.exit 0) (finCp p.2.1 p.2.2.1) else none
@[reducible] noncomputable def LCp : List (Nat × LoopSum) := [(0, formSumC decCp chkCp normCp tCp)]
theorem roundCp {R : Type} (L : List (Nat × LoopSum)) (N : Nat) (f : Nat → Ca) (i : Int) (M : Nat) (r : Rou) (o : Nat → Int) (M' : Nat) (m : Rm) (o' : Nat → Int) (K : Ex → Sx.St → Option R) :
    roundK Try.prog SC L 10 1 (resMask Try.f11.results.toList) (lpAt Try.f11 0) (encCp (i, N, f, M, r, o, M', m, o')) K =
    bif decide (i < (N : Int)) then bif decide (0 ≤ i) && decide (i < (N : Int)) then bif decide (i.toNat < N) then bif decide (((f i.toNat).outL.length : Int) > 100) then K .ret (yesCp N f) else
      bif (f i.toNat).kind == 1 then bif chkB r M (fun j => encI (o j)) then bif chkMb m M' (fun j => encI (o' j)) then
        bif (msetV m M' o' ⟨(f i.toNat).slot, (f i.toNat).gen⟩ (f i.toNat).n).b then
          bif (csetV r o ⟨(f i.toNat).slot, (f i.toNat).gen⟩ (f i.toNat).n).1 != (msetV m M' o' ⟨(f i.toNat).slot, (f i.toNat).gen⟩ (f i.toNat).n).e then K .ret (noCp N f) else bif (csetV r o ⟨(f i.toNat).slot, (f i.toNat).gen⟩ (f i.toNat).n).2.1 != (msetV m M' o' ⟨(f i.toNat).slot, (f i.toNat).gen⟩ (f i.toNat).n).n then K .ret (noCp N f) else
          tl (csetV r o ⟨(f i.toNat).slot, (f i.toNat).gen⟩ (f i.toNat).n).2.2 M (fun j => encI (o j)) (msetV m M' o' ⟨(f i.toNat).slot, (f i.toNat).gen⟩ (f i.toNat).n).r (K .ret (noCp N f))
            (K .normal (encCpG (IntKind.i64.wrap (i + 1)) N f M (csetV r o ⟨(f i.toNat).slot, (f i.toNat).gen⟩ (f i.toNat).n).2.2 (fun j => encI (o j)) (msetV m M' o' ⟨(f i.toNat).slot, (f i.toNat).gen⟩ (f i.toNat).n).M (msetV m M' o' ⟨(f i.toNat).slot, (f i.toNat).gen⟩ (f i.toNat).n).r (fun j => encI ((msetV m M' o' ⟨(f i.toNat).slot, (f i.toNat).gen⟩ (f i.toNat).n).o j))))
        else
          bif (csetV r o ⟨(f i.toNat).slot, (f i.toNat).gen⟩ (f i.toNat).n).1 != (msetV m M' o' ⟨(f i.toNat).slot, (f i.toNat).gen⟩ (f i.toNat).n).e then K .ret (noCp N f) else bif (csetV r o ⟨(f i.toNat).slot, (f i.toNat).gen⟩ (f i.toNat).n).2.1 != (msetV m M' o' ⟨(f i.toNat).slot, (f i.toNat).gen⟩ (f i.toNat).n).n then K .ret (noCp N f) else
          tl (csetV r o ⟨(f i.toNat).slot, (f i.toNat).gen⟩ (f i.toNat).n).2.2 M (fun j => encI (o j)) (msetV m M' o' ⟨(f i.toNat).slot, (f i.toNat).gen⟩ (f i.toNat).n).r (K .ret (noCp N f))
            (K .normal (encCpG (IntKind.i64.wrap (i + 1)) N f M (csetV r o ⟨(f i.toNat).slot, (f i.toNat).gen⟩ (f i.toNat).n).2.2 (fun j => encI (o j)) (msetV m M' o' ⟨(f i.toNat).slot, (f i.toNat).gen⟩ (f i.toNat).n).M (msetV m M' o' ⟨(f i.toNat).slot, (f i.toNat).gen⟩ (f i.toNat).n).r (fun j => encI ((msetV m M' o' ⟨(f i.toNat).slot, (f i.toNat).gen⟩ (f i.toNat).n).o j))))
      else none else none
      else bif (f i.toNat).kind == 2 then bif decide ((f i.toNat).outL.length ≤ 4294967296) then
        bif decide (M = addI r.i0 r.n) && decide ((f i.toNat).outL.length ≤ (f i.toNat).outL.length) && decide (addI r.n (f i.toNat).outL.length ≤ 4294967296) then bif decide (m.i0 + m.n ≤ M' ∧ m.n + (f i.toNat).outL.length ≤ 4294967296) then
          tl ⟨r.slot, r.gen, r.writes, 0, addI r.n (f i.toNat).outL.length, r.left, r.blown, r.count⟩ (addI r.n (f i.toNat).outL.length) (catG (subG (fun j => encI (o j)) r.i0) (subG (catG (subG (fun j => litZ 1 [CV.int IntKind.i64 0] [] j) 0) (fun j => [.int .i64 ((f i.toNat).outL.getD j 0)]) 0) 0) r.n) m (K .ret (noCp N f))
            (K .normal (encCpG (IntKind.i64.wrap (i + 1)) N f (addI r.n (f i.toNat).outL.length) ⟨r.slot, r.gen, r.writes, 0, addI r.n (f i.toNat).outL.length, r.left, r.blown, r.count⟩ (catG (subG (fun j => encI (o j)) r.i0) (subG (catG (subG (fun j => litZ 1 [CV.int IntKind.i64 0] [] j) 0) (fun j => [.int .i64 ((f i.toNat).outL.getD j 0)]) 0) 0) r.n)
              (addI m.n (f i.toNat).outL.length) ⟨m.slot, m.gen, m.writes, 0, addI m.n (f i.toNat).outL.length, m.armed, m.left, m.blown, m.count⟩ (catG (subG (fun j => encI (o' j)) m.i0) (fun j => [.int .i64 ((f i.toNat).outL.getD j 0)]) m.n)))
        else none else none else none
      else bif (f i.toNat).kind == 3 then tl (putF r (armV (fu r) (f i.toNat).n)) M (fun j => encI (o j)) (putM m (marmV (mfu m) (f i.toNat).n)) (K .ret (noCp N f))
        (K .normal (encCpG (IntKind.i64.wrap (i + 1)) N f M (putF r (armV (fu r) (f i.toNat).n)) (fun j => encI (o j)) M' (putM m (marmV (mfu m) (f i.toNat).n)) (fun j => encI (o' j))))
      else bif (f i.toNat).kind == 4 then tl (putF r (resetV (fu r))) M (fun j => encI (o j)) (putM m (mresetV (mfu m))) (K .ret (noCp N f))
        (K .normal (encCpG (IntKind.i64.wrap (i + 1)) N f M (putF r (resetV (fu r))) (fun j => encI (o j)) M' (putM m (mresetV (mfu m))) (fun j => encI (o' j))))
      else tl r M (fun j => encI (o j)) m (K .ret (noCp N f)) (K .normal (encCpG (IntKind.i64.wrap (i + 1)) N f M r (fun j => encI (o j)) M' m (fun j => encI (o' j))))
    else none else none else K (.exit 0) (finCp N f) := by kernel_rfl
theorem okCp : LoopOk Try.prog SC LCp 10 1 (resMask Try.f11.results.toList) (lpAt Try.f11 0) (formSumC decCp chkCp normCp tCp) := by
  refine LoopOk.ofC decCp_spec (fun p => p.2.1 - p.1.toNat) ?_
  rintro ⟨i, N, f, M, r, o, M', m, o'⟩ R K x h
  unfold tCp at h
  cases hg : goodCp (i, N, f, M, r, o, M', m, o') with
  | false => rw [hg] at h; cases h
  | true =>
    rw [hg, cond_true] at h
    obtain ⟨h1, h2, h3, h5, h6, h7, h8⟩ := goodCp_iff.1 hg
    simp only at h1 h2 h3 h5 h6 h7 h8 h
    by_cases hi : i < (N : Int)
    · rw [show N - i.toNat = (N - (i + 1).toNat) + 1 by omega] at h
      unfold longG at h
      cases hlen : decide (((f i.toNat).outL.length : Int) > 100) with
      | true =>
        rw [hlen] at h
        right
        refine ⟨.ret, _, by simp, fun K' => ?_, h⟩
        rw [roundCp, decide_eq_true hi, decide_eq_true h1.1, decide_eq_true (show i.toNat < N by omega), hlen]
        rfl
      | false =>
      rw [hlen, cond_false, show i.toNat + 1 = (i + 1).toNat by omega] at h
      left
      have key : ∀ (M2 : Nat) (r2 : Rou) (o2 : Nat → Int) (M2' : Nat) (m2 : Rm) (o2' : Nat → Int), r2.i0 + r2.n = M2 → (M2 : Int) ≤ 100 * (i + 1) → m2.i0 + m2.n ≤ M2' → RelR r2 o2 m2 o2' → tCp (i + 1, N, f, M2, r2, o2, M2', m2, o2') R K = some x := fun M2 r2 o2 M2' m2 o2' a b c d => by
        unfold tCp
        rw [goodCp_iff.2 ⟨by simp only; omega, h2, h3, a, b, c, d⟩]
        exact h
      have c0 : chkB r M (fun j => encI (o j)) = true := chkB_true (by omega)
      have hl : (f i.toNat).outL.length ≤ 100 := by rw [decide_eq_false_iff_not] at hlen; omega
      have hw := h3 i.toNat (by omega)
      have c1 : chkMb m M' (fun j => encI (o' j)) = true := chkMb_iff.2 ⟨rfl, h7, by rw [← h8.n]; omega⟩
      have hr : ∀ K' : Ex → Sx.St → Option R, _ := fun K' => roundCp LCp N f i M r o M' m o' K'
      simp only [decide_eq_true hi, decide_eq_true h1.1, decide_eq_true (show i.toNat < N by omega), wi (x := i + 1) (by omega), Bool.and_self, cond_true, cond_false, c0, c1, hlen] at hr
      generalize f i.toNat = c at hr hl hw
      cases k1 : c.kind == 1 with
      | true =>
        simp only [k1, cond_true] at hr
        obtain ⟨g1, g2, g3, g4⟩ := rel_cset h8 h7 ⟨c.slot, c.gen⟩ c.n
        have hn : (csetV r o ⟨c.slot, c.gen⟩ c.n).2.2.i0 + (csetV r o ⟨c.slot, c.gen⟩ c.n).2.2.n = r.i0 + r.n := by unfold csetV; exact setG_n ..
        have c2 : chkB (csetV r o ⟨c.slot, c.gen⟩ c.n).2.2 M (fun j => encI (o j)) = true := by rw [chkB_cset]; exact c0
        refine ⟨(i + 1, N, f, M, (csetV r o ⟨c.slot, c.gen⟩ c.n).2.2, o, (msetV m M' o' ⟨c.slot, c.gen⟩ c.n).M, (msetV m M' o' ⟨c.slot, c.gen⟩ c.n).r, (msetV m M' o' ⟨c.slot, c.gen⟩ c.n).o), by show N - (i + 1).toNat < N - i.toNat; omega, fun K' => ?_, key _ _ _ _ _ _ (by omega) (by omega) g4 g3⟩
        rw [hr, g1, g2]
        simp only [bne_self_eq_false, cond_false]
        have e := tl_yes (M := M) (ge := fun j => encI (o j)) (K' .ret (noCp N f)) (K' .normal (encCpG (i + 1) N f M (csetV r o ⟨c.slot, c.gen⟩ c.n).2.2 (fun j => encI (o j)) (msetV m M' o' ⟨c.slot, c.gen⟩ c.n).M (msetV m M' o' ⟨c.slot, c.gen⟩ c.n).r (fun j => encI ((msetV m M' o' ⟨c.slot, c.gen⟩ c.n).o j)))) g3 c2
        cases (msetV m M' o' ⟨c.slot, c.gen⟩ c.n).b <;> exact e
      | false =>
      cases k2 : c.kind == 2 with
      | true =>
        have hrel : RelR ⟨r.slot, r.gen, r.writes, 0, r.n + c.outL.length, r.left, r.blown, r.count⟩ (fun j => if j < r.n then o (r.i0 + j) else c.outL.getD (j - r.n) 0) ⟨m.slot, m.gen, m.writes, 0, m.n + c.outL.length, m.armed, m.left, m.blown, m.count⟩ (fun j => if j < m.n then o' (m.i0 + j) else c.outL.getD (j - m.n) 0) := by
          refine ⟨h8.slot, h8.gen, h8.writes, by simp only [h8.n], ?_, h8.fuse⟩
          intro j _
          simp only [Nat.zero_add, ← h8.n]
          by_cases hj : j < r.n
          · rw [if_pos hj, if_pos hj]; exact h8.out j hj
          · rw [if_neg hj, if_neg hj]
        have hn := h8.n
        refine ⟨(i + 1, N, f, r.n + c.outL.length, ⟨r.slot, r.gen, r.writes, 0, r.n + c.outL.length, r.left, r.blown, r.count⟩, _, m.n + c.outL.length, ⟨m.slot, m.gen, m.writes, 0, m.n + c.outL.length, m.armed, m.left, m.blown, m.count⟩, _), by show N - (i + 1).toNat < N - i.toNat; omega, fun K' => ?_, key _ _ _ _ _ _ (by simp) (by omega) (by simp) hrel⟩
        rw [hr, k1, k2, cat_enc, cat_enc2]
        simp only [addI_eq]
        rw [decide_eq_true (show c.outL.length ≤ 4294967296 by omega), decide_eq_true (show M = r.i0 + r.n by omega), decide_eq_true (Nat.le_refl c.outL.length), decide_eq_true (show r.n + c.outL.length ≤ 4294967296 by omega), decide_eq_true (show m.i0 + m.n ≤ M' ∧ m.n + c.outL.length ≤ 4294967296 by omega)]
        simp only [cond_true, cond_false, Bool.and_self]
        exact tl_eq (r := ⟨r.slot, r.gen, r.writes, 0, r.n + c.outL.length, r.left, r.blown, r.count⟩) _ _ h8.slot h8.gen h8.writes h8.fuse.count (chkB_true (Nat.le_of_eq (Nat.zero_add _)))
      | false =>
      cases k3 : c.kind == 3 with
      | true =>
        have hrel : RelR (putF r (armV (fu r) c.n)) o (putM m (marmV (mfu m) c.n)) o' := ⟨h8.slot, h8.gen, h8.writes, h8.n, h8.out, rel_arm h8.fuse hw.n⟩
        refine ⟨(i + 1, N, f, M, putF r (armV (fu r) c.n), o, M', putM m (marmV (mfu m) c.n), o'), by simp only; omega, fun K' => ?_, key _ _ _ _ _ _ h5 (by omega) h7 hrel⟩
        rw [hr, k1, k2, k3]
        exact tl_yes _ _ hrel (chkB_true (show r.i0 + r.n ≤ M by omega))
      | false =>
      cases k4 : c.kind == 4 with
      | true =>
        have hrel : RelR (putF r (resetV (fu r))) o (putM m (mresetV (mfu m))) o' := ⟨h8.slot, h8.gen, h8.writes, h8.n, h8.out, rel_reset (s := fu r) (g := mfu m) h8.fuse⟩
        refine ⟨(i + 1, N, f, M, putF r (resetV (fu r)), o, M', putM m (mresetV (mfu m)), o'), by simp only; omega, fun K' => ?_, key _ _ _ _ _ _ h5 (by omega) h7 hrel⟩
        rw [hr, k1, k2, k3, k4]
        exact tl_yes _ _ hrel (chkB_true (show r.i0 + r.n ≤ M by omega))
      | false =>
        refine ⟨(i + 1, N, f, M, r, o, M', m, o'), by simp only; omega, fun K' => ?_, key _ _ _ _ _ _ h5 (by omega) h7 h8⟩
        rw [hr, k1, k2, k3, k4]
        exact tl_yes _ _ h8 c0
    · right
      rw [show N - i.toNat = 0 by omega] at h
      refine ⟨.exit 0, _, by simp, fun K' => ?_, h⟩
      rw [roundCp, decide_eq_false hi]
      rfl
theorem loopsCp : LoopsOk Try.prog SC LCp 10 1 (resMask Try.f11.results.toList) (loopsOf (resMask Try.f11.results.toList) (bodyOf Try.f11) [] (resMask Try.f11.results.toList)) :=
  loopsOk_ix 1 (by kernel_rfl) ⟨trivial, loopOk_here (n := 0) (by kernel_rfl) rfl okCp⟩
theorem t_ClientPlays {R : Type} (N : Nat) (f : Nat → Ca) (K : TV → List (Option SB) → Option R) : runFnL Try.prog SC LCp 10 Try.f11 (bodyOf Try.f11) [.c (.slc 0 0 N)] [.ro 5 (.gen N fun i => encCa (f i))] K =
    bif decide ((N : Int) > 100) then K (.s (bl true)) [some (.ro 5 (.gen N fun i => encCa (f i)))] else
      bif Nat.beq N N && decide ((N : Int) = N) && chkRo encI decID (fun _ => encI 0) && chkRo encI decID (fun _ => encI 0) && chkRo encCa decCaD (fun i => encCa (f i)) then bif goodCp (0, N, f, 0, rpNew, fun _ => 0, 0, mpNew, fun _ => 0) then
        bif longG f (N - (0 : Int).toNat) (0 : Int).toNat then K (.s (bl true)) [some (.ro 5 (.gen N fun i => encCa (f i)))] else K (.s (bl true)) [some (.ro 5 (.gen N fun i => encCa (f i)))] else none else none := by kernel_rfl
theorem ClientPlays (N : Nat) (f : Nat → Ca) (q : ∀ i, i < N → wfCa (f i)) (w : World) (v : Value) (l : Sx.Loc) (hs : SlcR l 0 N v) (hb : BlkR (outs w) (rho1 l) l (.ro 5 (.gen N fun i => encCa (f i))) w) :
    Calls Try.prog 11 #[v] w fun e w' => e = .returned (.bool true) ∧ RowKit.Below w.heap.size w w' := by
  refine law_callsL okSC mixed Try.func11 (c := bodyOf Try.f11) (by kernel_rfl) lawK_spec (fuel := 10) (args := [.c (.slc 0 0 N)]) (hp0 := [.ro 5 (.gen N fun i => encCa (f i))]) (X := fun _ _ => True) (ρ := rho1 l) (vs := [v]) loopsCp ?_ ⟨⟨l, rfl, hs⟩, trivial⟩ (blk1 hb) rho1_out
  rw [t_ClientPlays, chkRo_true backCa]
  by_cases hN : (N : Int) > 100
  · rw [decide_eq_true hN]; rfl
  · rw [decide_eq_false hN]
    have hg : goodCp (0, N, f, 0, rpNew, fun _ => 0, 0, mpNew, fun _ => 0) = true := goodCp_iff.2 ⟨by simp, by simp only; omega, q, rfl, by simp, Nat.le_refl _, ⟨rfl, rfl, rfl, rfl, fun _ _ => rfl, rel_new⟩⟩
    have e0 : chkRo encI decID (fun _ => encI 0) = true := chkRo_true backI (fun _ => 0)
    rw [hg, e0, show (Nat.beq N N && decide ((N : Int) = N) && true && true && true) = true by simp]
    simp only [cond_true, cond_false]
    cases longG f (N - (0 : Int).toNat) (0 : Int).toNat <;> rfl
end Go.Proofs.Ytendbpghgllphaa.Rt

/- The law ClientPlays: true, and no memory that was there is written. -/
import Derived.Test.YtpebebhjmnmcbaaRset
set_option maxRecDepth 100000
set_option linter.unusedSimpArgs false
set_option linter.unusedVariables false
namespace Go.Proofs.Ytpebebhjmnmcbaa.Rt
open Go Go.Proofs.Ytpebebhjmnmcbaa.Sx
structure Ca where
  kind : Int
  n : Int
  slot : Int
  gen : Int
  outV : Value
  outL : List Int
instance : Inhabited Ca := ⟨⟨0, 0, 0, 0, .bool false, []⟩⟩
def encCa (s : Ca) : List CV := [.int .i64 s.kind, .int .i64 s.n, .int .i64 s.slot, .int .i64 s.gen, .xs s.outV s.outL]
def decCa : List CV → Option Ca
  | [.int .i64 a0, .int .i64 a1, .int .i64 a2, .int .i64 a3, .xs a4 b4] => some ⟨a0, a1, a2, a3, a4, b4⟩
  | _ => none
def decCaD : List CV → Ca
  | [.int .i64 a0, .int .i64 a1, .int .i64 a2, .int .i64 a3, .xs a4 b4] => ⟨a0, a1, a2, a3, a4, b4⟩
  | _ => default
theorem decCa_spec (l : List CV) (s : Ca) (h : decCa l = some s) : l = encCa s := by
  unfold decCa at h; split at h <;> cases h; rfl
theorem encCa_ren (s : Ca) (π) : (encCa s).map (CV.ren π) = encCa s := rfl
theorem backCa (s : Ca) : decCaD (encCa s) = s := rfl
structure wfCa (s : Ca) : Prop where
  kind : (Lit.int .i64 s.kind).wf = true
  n : (Lit.int .i64 s.n).wf = true
  slot : (Lit.int .i64 s.slot).wf = true
  gen : (Lit.int .i64 s.gen).wf = true
  out : ∀ x ∈ s.outL, (Lit.int .i64 x).wf = true
theorem opCa {w : World} (cvs : List CV) (vs : List Value) (h : LeafXRs w [.int .i64, .int .i64, .int .i64, .int .i64, .ints] cvs vs) : ∃ x, cvs = encCa x ∧ wfCa x := by
  obtain ⟨_, _, _, _, rfl, rfl, ⟨a0, rfl, rfl, w0⟩, h0⟩ := h.cons_inv
  obtain ⟨_, _, _, _, rfl, rfl, ⟨a1, rfl, rfl, w1⟩, h1⟩ := h0.cons_inv
  obtain ⟨_, _, _, _, rfl, rfl, ⟨a2, rfl, rfl, w2⟩, h2⟩ := h1.cons_inv
  obtain ⟨_, _, _, _, rfl, rfl, ⟨a3, rfl, rfl, w3⟩, h3⟩ := h2.cons_inv
  obtain ⟨_, _, _, _, rfl, rfl, ⟨a4, b4, rfl, rfl, _, _, w4⟩, h4⟩ := h3.cons_inv
  obtain ⟨rfl, rfl⟩ := h4.nil_inv
  exact ⟨⟨a0, a1, a2, a3, _, b4⟩, rfl, ⟨w0, w1, w2, w3, w4⟩⟩
@[reducible] noncomputable def SC : Sums := (54, (genSumT g_mset)) :: SP
theorem okSC : SumsOk Try.prog SC := (okSP.cons ok_mset)
theorem clamp_eq (n : Int) : clamp n = triesV n := by
  have a : foldMax n [1] = if 1 > n then 1 else n := rfl
  have b : ∀ x : Int, foldMin x [8] = if 8 < x then 8 else x := fun _ => rfl
  rw [show clamp n = foldMin (foldMax n [1]) [8] from rfl, b, a]
  unfold triesV
  by_cases h1 : n < 1
  · rw [decide_eq_true h1, if_pos (show 1 > n by omega)]; rfl
  · rw [decide_eq_false h1, if_neg (show ¬ 1 > n by omega)]
    by_cases h2 : n > 8
    · rw [decide_eq_true h2, if_pos (show 8 < n by omega)]; rfl
    · rw [decide_eq_false h2, if_neg (show ¬ 8 < n by omega)]; rfl
theorem rel_loop {o : Nat → Int} {to : Cell} {T : Int} : ∀ {k : Nat} {n : Int} {r : Rou} {s : MS}, RelR r o s.r s.o → s.e = 10 → s.n = n - 1 → n ≤ T → (T - n).toNat < k → s.r.i0 + s.r.n ≤ s.M →
    (setG o to T k n r).1 = (mloop to T (T - s.n).toNat s).e ∧ (setG o to T k n r).2.1 = (mloop to T (T - s.n).toNat s).n ∧ RelR (setG o to T k n r).2.2 o (mloop to T (T - s.n).toNat s).r (mloop to T (T - s.n).toNat s).o ∧ (mloop to T (T - s.n).toNat s).r.i0 + (mloop to T (T - s.n).toNat s).r.n ≤ (mloop to T (T - s.n).toNat s).M ∧
      ((mloop to T (T - s.n).toNat s).b = false → s.b = false ∧ (mloop to T (T - s.n).toNat s).M = s.M)
  | 0, n, r, s, _, _, _, _, h, _ => by omega
  | k + 1, n, r, s, hr, he, hn, hT, hk, hM => by
    have e1 : (T - s.n).toNat = (T - n).toNat + 1 := by omega
    have e2 : (s.e == 10 && decide (s.n < T)) = true := by rw [he, decide_eq_true (show s.n < T by omega)]; rfl
    have e3 : mloop to T (T - s.n).toNat s = mloop to T (T - n).toNat (mstep to s) := by
      rw [e1]
      conv => lhs; unfold mloop
      rw [e2]; rfl
    rw [e3]
    obtain ⟨g1, g2, g3, g4⟩ := rel_call hr to.gen to.slot
    have hM' : (mstep to s).r.i0 + (mstep to s).r.n ≤ (mstep to s).M := by
      show (mres s.r s.o to.gen to.slot).2.2.i0 + (mres s.r s.o to.gen to.slot).2.2.n ≤ (bif (mres s.r s.o to.gen to.slot).1 then s.r.n - 1 else s.M)
      cases hp : (mres s.r s.o to.gen to.slot).1 with
      | false => have := g4 hp; simp only [cond_false]; omega
      | true => have := g3 hp; simp only [cond_true]; omega
    have hb' : (mstep to s).b = false → s.b = false ∧ (mstep to s).M = s.M := by
      intro hb
      have hb' : (s.b || (mres s.r s.o to.gen to.slot).1) = false := hb
      simp only [Bool.or_eq_false_iff] at hb'
      refine ⟨hb'.1, ?_⟩
      show (bif (mres s.r s.o to.gen to.slot).1 then s.r.n - 1 else s.M) = s.M
      rw [hb'.2]; rfl
    have hn' : (mstep to s).n = n := by show s.n + 1 = n; omega
    unfold setG
    by_cases c1 : (callV r o to.gen to.slot).1 = 10
    · rw [show ((callV r o to.gen to.slot).1 != 10) = false by simp [c1]]
      simp only [cond_false]
      by_cases c2 : n = T
      · rw [show (n == T) = true by simpa using c2]
        simp only [cond_true]
        rw [mloop_stop (s := mstep to s) (by rw [hn', decide_eq_false (show ¬ n < T by omega), Bool.and_false])]
        exact ⟨g1, hn'.symm, g2, hM', hb'⟩
      · rw [show (n == T) = false by simpa using c2]
        simp only [cond_false]
        have ih := rel_loop (o := o) (to := to) (T := T) (k := k) (n := n + 1) (r := (callV r o to.gen to.slot).2) (s := mstep to s) g2 (g1.symm.trans c1) (by omega) (by omega) (by omega) hM'
        rw [hn'] at ih
        obtain ⟨i1, i2, i3, i4, i5⟩ := ih
        exact ⟨i1, i2, i3, i4, fun hb => ⟨(hb' (i5 hb).1).1, (i5 hb).2.trans (hb' (i5 hb).1).2⟩⟩
    · rw [show ((callV r o to.gen to.slot).1 != 10) = true by simpa using c1]
      simp only [cond_true]
      have c3 : (mstep to s).e ≠ 10 := by
        show (mres s.r s.o to.gen to.slot).2.1 ≠ 10
        rw [← g1]; exact c1
      rw [mloop_stop (s := mstep to s) (by rw [show ((mstep to s).e == 10) = false by simpa using c3, Bool.false_and])]
      exact ⟨g1, hn'.symm, g2, hM', hb'⟩
theorem rel_cset {r : Rou} {o : Nat → Int} {m : Rm} {N : Nat} {o' : Nat → Int} (h : RelR r o m o') (hN : m.i0 + m.n ≤ N) (to : Cell) (tries : Int) : (csetV r o to tries).1 = (msetV m N o' to tries).e ∧ (csetV r o to tries).2.1 = (msetV m N o' to tries).n ∧ RelR (csetV r o to tries).2.2 o (msetV m N o' to tries).r (msetV m N o' to tries).o ∧
    (msetV m N o' to tries).r.i0 + (msetV m N o' to tries).r.n ≤ (msetV m N o' to tries).M := by
  have := triesV_le tries
  have hh := rel_loop (o := o) (to := to) (T := triesV tries) (k := 8) (n := 1) (r := r) (s := ⟨false, 10, 0, m, N, o'⟩) h rfl (by simp) this.1 (by omega) hN
  unfold csetV msetV mfin
  rw [clamp_eq]
  exact ⟨hh.1, hh.2.1, hh.2.2.1, hh.2.2.2.1⟩
end Go.Proofs.Ytpebebhjmnmcbaa.Rt

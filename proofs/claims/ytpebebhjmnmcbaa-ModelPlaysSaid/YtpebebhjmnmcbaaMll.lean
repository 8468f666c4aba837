/- What a loop over acts keeps. Plain. -/
import Derived.Test.YtpebebhjmnmcbaaMdl
import Derived.Test.YtpebebhjmnmcbaaMdLaw2
set_option maxRecDepth 100000
set_option linter.unusedSimpArgs false
set_option linter.unusedVariables false
namespace Go.Proofs.Ytpebebhjmnmcbaa.Md
open Go Go.Proofs.Ytpebebhjmnmcbaa.Sx
structure N3 where
  a : Int
  b : Int
  c : Int
  deriving Inhabited
def encN3 (s : N3) : List CV := [.int .i64 s.a, .int .i64 s.b, .int .i64 s.c]
def decN3 : List CV → Option N3
  | [.int .i64 a0, .int .i64 a1, .int .i64 a2] => some ⟨a0, a1, a2⟩
  | _ => none
def decN3D : List CV → N3
  | [.int .i64 a0, .int .i64 a1, .int .i64 a2] => ⟨a0, a1, a2⟩
  | _ => default
theorem decN3_spec (l : List CV) (s : N3) (h : decN3 l = some s) : l = encN3 s := by
  unfold decN3 at h; split at h <;> cases h; rfl
theorem encN3_ren (s : N3) (π) : (encN3 s).map (CV.ren π) = encN3 s := rfl
theorem backN3 (s : N3) : decN3D (encN3 s) = s := rfl
structure wfN3 (s : N3) : Prop where
  a : (Lit.int .i64 s.a).wf = true
  b : (Lit.int .i64 s.b).wf = true
  c : (Lit.int .i64 s.c).wf = true
theorem opN3 (cvs : List CV) (vs : List Value) (h : LeafRs [.int .i64, .int .i64, .int .i64] cvs vs) : ∃ x, cvs = encN3 x ∧ wfN3 x := by
  obtain ⟨_, _, _, _, rfl, rfl, ⟨a0, rfl, rfl, w0⟩, h0⟩ := h.cons_inv
  obtain ⟨_, _, _, _, rfl, rfl, ⟨a1, rfl, rfl, w1⟩, h1⟩ := h0.cons_inv
  obtain ⟨_, _, _, _, rfl, rfl, ⟨a2, rfl, rfl, w2⟩, h2⟩ := h1.cons_inv
  obtain ⟨rfl, rfl⟩ := h2.nil_inv
  exact ⟨⟨a0, a1, a2⟩, rfl, ⟨w0, w1, w2⟩⟩
@[reducible] def LA := Int × Nat × (Nat → Ac) × Md × Nat × (Nat → Int)
@[reducible] def LB := Int × Int × Nat × Nat × (Nat → List CV) × Md × Nat × (Nat → List CV)
noncomputable def chkL : LB → Bool
  | (_, m', N, N', f, _, _, ge) => Nat.beq N N' && (decide (m' = N) && (chkRo Rt.encI Rt.decID ge && chkRo encAc decAcD f))
def normL : LB → LA
  | (i, _, N, _, f, m, N1, ge) => (i, N, fun j => decAcD (f j), m, N1, fun j => Rt.decID (ge j))
structure LI (p : LA) : Prop where
  i : 0 ≤ p.1 ∧ p.1 ≤ p.2.1
  N : p.2.1 ≤ 80
  wf : ∀ j, j < p.2.1 → wfAc (p.2.2.1 j) ∧ (p.2.2.1 j).outL.length ≤ 50
  inv : Inv p.2.2.2.1 p.2.2.2.2.1
  M : (p.2.2.2.2.1 : Int) ≤ 50 * p.1
noncomputable def goodL (p : LA) : Bool := @decide (LI p) (Classical.propDecidable _)
theorem goodL_iff {p : LA} : goodL p = true ↔ LI p := Iff.of_eq (@decide_eq_true_eq _ (Classical.propDecidable _))
theorem great_spec {N : Nat} {f : Nat → Ac} (h : greatV N f = false) : N ≤ 80 ∧ ∀ j, j < N → (f j).outL.length ≤ 50 := by
  unfold greatV at h
  simp only [Bool.or_eq_false_iff, decide_eq_false_iff_not] at h
  exact ⟨by omega, fun j hj => anyG_spec h.2 j (by omega) (by omega)⟩
/-- One act on. -/
theorem LI.next {i : Int} {N : Nat} {f : Nat → Ac} {m : Md} {N1 : Nat} {o : Nat → Int} (h : LI (i, N, f, m, N1, o)) (hi : i < (N : Int)) :
    okDo m N1 (f i.toNat) = true ∧ LI (i + 1, N, f, (doV m N1 o (f i.toNat)).m, (doV m N1 o (f i.toNat)).N, (doV m N1 o (f i.toNat)).o) := by
  obtain ⟨h1, h2, h3, h4, h5⟩ := h
  simp only at h1 h2 h3 h4 h5
  have hw := (h3 i.toNat (by omega)).2
  have hn := h4.n
  refine ⟨h4.ok _ (by omega), ⟨by simp only; omega, h2, h3, inv_do h4 o _, ?_⟩⟩
  have := do_N m N1 o (f i.toNat) (by omega)
  simp only
  omega
theorem chk_inv {m : Md} {N : Nat} (h : Inv m N) (o : Nat → Int) : Rt.chkB m.r N (fun j => Rt.encI (o j)) = true := Rt.chkB_true (Nat.le_of_eq h.n)
theorem LI.first {rev n tries : Int} {N : Nat} {f : Nat → Ac} {o : Nat → Int} (h : (Fold.ffirstV rev n).2 = true) (hN : N ≤ 80) (hw : ∀ j, j < N → wfAc (f j) ∧ (f j).outL.length ≤ 50) : LI (0, N, f, newM rev n tries, 0, o) :=
  ⟨by simp, hN, hw, inv_new h, by simp⟩
end Go.Proofs.Ytpebebhjmnmcbaa.Md

/- Acts of a router, with scripts; scripts in the midst of others. No condition. -/
import Derived.Test.YtpebebhjmnmcbaaRt3
import Derived.Test.YtpebebhjmnmcbaaSxE
set_option maxRecDepth 100000
set_option linter.unusedSimpArgs false
set_option linter.unusedVariables false
namespace Go.Proofs.Ytpebebhjmnmcbaa.Rt
open Go Go.Proofs.Ytpebebhjmnmcbaa.Sx
structure Ra where
  kind : Int
  gen : Int
  slot : Int
  outV : Value
  outL : List Int
instance : Inhabited Ra := ⟨⟨0, 0, 0, .bool false, []⟩⟩
def encRa (s : Ra) : List CV := [.int .i64 s.kind, .int .i64 s.gen, .int .i64 s.slot, .xs s.outV s.outL]
def decRa : List CV → Option Ra
  | [.int .i64 a0, .int .i64 a1, .int .i64 a2, .xs a3 b3] => some ⟨a0, a1, a2, a3, b3⟩
  | _ => none
def decRaD : List CV → Ra
  | [.int .i64 a0, .int .i64 a1, .int .i64 a2, .xs a3 b3] => ⟨a0, a1, a2, a3, b3⟩
  | _ => default
theorem decRa_spec (l : List CV) (s : Ra) (h : decRa l = some s) : l = encRa s := by
  unfold decRa at h; split at h <;> cases h; rfl
theorem encRa_ren (s : Ra) (π) : (encRa s).map (CV.ren π) = encRa s := rfl
theorem backRa (s : Ra) : decRaD (encRa s) = s := rfl
structure wfRa (s : Ra) : Prop where
  kind : (Lit.int .i64 s.kind).wf = true
  gen : (Lit.int .i64 s.gen).wf = true
  slot : (Lit.int .i64 s.slot).wf = true
  out : ∀ x ∈ s.outL, (Lit.int .i64 x).wf = true
theorem opRa {w : World} (cvs : List CV) (vs : List Value) (h : LeafXRs w [.int .i64, .int .i64, .int .i64, .ints] cvs vs) : ∃ x, cvs = encRa x ∧ wfRa x := by
  obtain ⟨_, _, _, _, rfl, rfl, ⟨a0, rfl, rfl, w0⟩, h0⟩ := h.cons_inv
  obtain ⟨_, _, _, _, rfl, rfl, ⟨a1, rfl, rfl, w1⟩, h1⟩ := h0.cons_inv
  obtain ⟨_, _, _, _, rfl, rfl, ⟨a2, rfl, rfl, w2⟩, h2⟩ := h1.cons_inv
  obtain ⟨_, _, _, _, rfl, rfl, ⟨a3, b3, rfl, rfl, _, _, w3⟩, h3⟩ := h2.cons_inv
  obtain ⟨rfl, rfl⟩ := h3.nil_inv
  exact ⟨⟨a0, a1, a2, _, b3⟩, rfl, ⟨w0, w1, w2, w3⟩⟩
/-! ### Script -/
noncomputable def g_script2 : List SV → List SB → Option Out
  | [.c (.ptr 0 0), .c (.slc 1 0 m)], [.cells [.int .i64 a, .int .i64 b, .slc 2 i0 n, .int .i64 w, .ptr 3 0], .vec 1 [] (.gen M ge'), .vec 1 [] (.gen N ge), .cells [.int .i64 l, .bool c, .int .i64 d]] =>
    some ⟨decide (N = addI i0 n) && decide (addI 0 m ≤ M) && decide (addI n m ≤ 4294967296), .tup [], [some (.cells [.int .i64 a, .int .i64 b, .slc 4 0 (addI n m), .int .i64 w, .ptr 3 0]), some (.vec 1 [] (.gen M ge')), none, some (.cells [.int .i64 l, .bool c, .int .i64 d])], [.vec 1 [] (.gen (addI n m) (catG (subG ge i0) (subG ge' 0) n))]⟩
  | _, _ => none
theorem t_script2 {R : Type} (a b w l d : Int) (i0 n N m M : Nat) (ge ge' : Nat → List CV) (c : Bool) (K : TV → List (Option SB) → Option R) : runFn Try.prog S0 10 Try.f42 (bodyOf Try.f42) [.c (.ptr 0 0), .c (.slc 1 0 m)]
    [.cells [.int .i64 a, .int .i64 b, .slc 2 i0 n, .int .i64 w, .ptr 3 0], .vec 1 [] (.gen M ge'), .vec 1 [] (.gen N ge), .cells [.int .i64 l, .bool c, .int .i64 d]] K =
    bif decide (N = addI i0 n) then bif decide (addI 0 m ≤ M) then bif decide (addI n m ≤ 4294967296) then K (.tup []) [some (.cells [.int .i64 a, .int .i64 b, .slc 4 0 (addI n m), .int .i64 w, .ptr 3 0]), some (.vec 1 [] (.gen M ge')), none, some (.cells [.int .i64 l, .bool c, .int .i64 d]), some (.vec 1 [] (.gen (addI n m) (catG (subG ge i0) (subG ge' 0) n)))] else none else none else none := by kernel_rfl
theorem ok_script2 : SumOk Try.prog 42 (genSum g_script2) := by
  refine sumOk_gen okS0 mixed Try.func42 (c := bodyOf Try.f42) (by kernel_rfl) (by kernel_rfl) ?_
  intro args hp x h hp1 _
  unfold g_script2 at h
  split at h
  · cases h
    simp only [Bool.and_eq_true] at hp1
    exact ⟨10, by rw [t_script2, hp1.1.1, hp1.1.2, hp1.2]; rfl⟩
  · cases h
@[reducible] noncomputable def SX : Sums := (42, (genSum g_script2)) :: SM
theorem okSX : SumsOk Try.prog SX := (okSM.cons ok_script2)
/-! ### What is scripted -/
theorem cat_enc (i0 n : Nat) (o : Nat → Int) (l : List Int) : catG (subG (fun j => encI (o j)) i0) (subG (catG (subG (fun j => litZ 1 [CV.int IntKind.i64 0] [] j) 0) (fun j => [.int .i64 (l.getD j 0)]) 0) 0) n = fun j => encI (if j < n then o (i0 + j) else l.getD (j - n) 0) := by
  funext j
  by_cases h : j < n
  · rw [catG_lt h, subG_eq, if_pos h]
  · rw [catG_ge (by omega), if_neg h]
    rfl
end Go.Proofs.Ytpebebhjmnmcbaa.Rt

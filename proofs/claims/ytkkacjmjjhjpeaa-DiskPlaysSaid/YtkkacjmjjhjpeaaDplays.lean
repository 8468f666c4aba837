/- DiskPlays: the walk and the law. No condition. -/
import Derived.Test.YtkkacjmjjhjpeaaDpl4
set_option maxRecDepth 100000
set_option linter.unusedSimpArgs false
set_option linter.unusedVariables false
namespace Go.Proofs.Ytkkacjmjjhjpeaa.Dk
open Go Go.Proofs.Ytkkacjmjjhjpeaa.Sx
theorem round_ok {N : Nat} {f : Nat → Ac} {d : D} {m : M} {i : Nat} (h : InvP ⟨N, f, d, m, i⟩) (hi : i < N) : ∃ d' m', InvP ⟨N, f, d', m', i + 1⟩ ∧ ∀ (R : Type) (K : Ex → St → Option R), rPT N f d m i (f i) K = K .normal (encP ⟨N, f, d', m', i + 1⟩) := by
  obtain ⟨r, _, hN, hk, hwf⟩ := h
  dsimp only at r hN hk hwf
  have hi100 : i < 100 := by omega
  have wfa := hwf i hi
  have mk : ∀ d' m', Rel d' m' → d'.k ≤ i + 1 → InvP ⟨N, f, d', m', i + 1⟩ := fun d' m' r' hk' => ⟨r', hi, hN, hk', hwf⟩
  have hs := rel_spend r.fu
  by_cases k1 : (f i).kind = 1
  · obtain ⟨d', m', q1, q2, q3⟩ := wr_ok (R := Unit) (N := N) (f := f) r hi100 hk (f i).pos (fillV (f i).byte m.size)
    refine ⟨d', m', mk _ _ q1 q2, fun R K => ?_⟩
    unfold rPT
    rw [show ((f i).kind == 1) = true by rw [k1]; rfl, cond_true]
    exact q3 R K
  have e1 : ((f i).kind == 1) = false := by rw [beq_eq_false_iff_ne]; exact k1
  by_cases k2 : (f i).kind = 2
  · have e2 : ((f i).kind == 2) = true := by rw [k2]; rfl
    cases hq : (spendV d.fu).1 with
    | false =>
      have ef : flushV d = (2, wF d (spendV d.fu).2) := flush_bad hq
      have hr := r.wF' hs.2
      refine ⟨_, _, mk _ _ hr (by show d.k ≤ i + 1; omega), fun R K => ?_⟩
      unfold rPT
      rw [e1, e2, cond_false, cond_true, ef]
      refine chain_step (okD_self _) (chain_step r.good.preW (chain_step (oqR_self _) ?_))
      rw [← hs.1, hq]
      exact tail_ok hr hi100 K
    | true =>
      have ef := flush_ok hq
      have hr := r.flush hs.2
      refine ⟨_, _, mk _ _ hr (Nat.zero_le _), fun R K => ?_⟩
      unfold rPT
      rw [e1, e2, cond_false, cond_true, ef]
      refine chain_step (okD_self _) (chain_step r.good.preW (chain_step (oqR_self _) ?_))
      rw [← hs.1, hq]
      exact tail_ok hr hi100 K
  have e2 : ((f i).kind == 2) = false := by rw [beq_eq_false_iff_ne]; exact k2
  by_cases k3 : (f i).kind = 3
  · have e3 : ((f i).kind == 3) = true := by rw [k3]; rfl
    have hr := r.crash (by omega) wfa.kp (f i).num
    refine ⟨_, _, mk _ _ hr (Nat.zero_le _), fun R K => ?_⟩
    unfold rPT
    rw [e1, e2, e3, cond_false, cond_false, cond_true]
    refine chain_step (okD_self _) (chain_step (gB_spec.2 r.good) (chain_step (oqR_self _) (chain_step (gM_spec.2 ⟨r.goodM (by omega), r.sh⟩) ?_)))
    exact tail_ok hr hi100 K
  have e3 : ((f i).kind == 3) = false := by rw [beq_eq_false_iff_ne]; exact k3
  by_cases k4 : (f i).kind = 4
  · have e4 : ((f i).kind == 4) = true := by rw [k4]; rfl
    have hr := r.wF' (rel_arm r.fu wfa.num)
    refine ⟨_, _, mk _ _ hr (by show d.k ≤ i + 1; omega), fun R K => ?_⟩
    unfold rPT
    rw [e1, e2, e3, e4, cond_false, cond_false, cond_false, cond_true]
    exact tail_ok hr hi100 K
  have e4 : ((f i).kind == 4) = false := by rw [beq_eq_false_iff_ne]; exact k4
  by_cases k5 : (f i).kind = 5
  · obtain ⟨d', m', q1, q2, q3⟩ := wr_ok (R := Unit) (N := N) (f := f) r hi100 hk (f i).pos (fillV (f i).byte (f i).num)
    refine ⟨d', m', mk _ _ q1 q2, fun R K => ?_⟩
    unfold rPT
    rw [e1, e2, e3, e4, show ((f i).kind == 5) = true by rw [k5]; rfl, cond_false, cond_false, cond_false, cond_false, cond_true]
    exact q3 R K
  · refine ⟨d, m, mk _ _ r (by omega), fun R K => ?_⟩
    unfold rPT
    rw [e1, e2, e3, e4, show ((f i).kind == 5) = false by rw [beq_eq_false_iff_ne]; exact k5, cond_false, cond_false, cond_false, cond_false, cond_false]
    exact tail_ok r hi100 K
noncomputable def okP (p : LP) : Bool := @decide (InvP p) (Classical.propDecidable _)
theorem okP_spec {p : LP} : okP p = true ↔ InvP p := by unfold okP; rw [@decide_eq_true_eq _ (Classical.propDecidable _)]
@[reducible] noncomputable def LpP : LoopSum := formSumC decP chkP normP (fun p R K => cond (okP p) (K (.exit 0) (finP p)) none)
@[reducible] noncomputable def LPs : List (Nat × LoopSum) := [(0, LpP), (3, LpJ)]
theorem loopP : LoopOk Try.prog SP LPs 20 1 (resMask Try.f7.results.toList) (lpAt Try.f7 0) LpP := by
  refine LoopOk.ofC (enc := encP) decP_spec (fun p => p.N - p.i) ?_
  rintro ⟨N, f, d, m, i⟩ R K r h
  cases hk : okP ⟨N, f, d, m, i⟩ with
  | false => rw [hk] at h; cases h
  | true =>
    have hI := okP_spec.1 hk
    rw [hk] at h
    by_cases hi : i < N
    · obtain ⟨d', m', q1, q2⟩ := round_ok hI hi
      refine .inl ⟨⟨N, f, d', m', i + 1⟩, by dsimp only; omega, fun K' => ?_, ?_⟩
      · show roundK _ _ _ _ _ _ _ (encP0 N f d m (i : Nat)) K' = _
        rw [roundP N f d m hI.rel.sh, decide_eq_true (show (i : Int) < N by omega), cond_true, Int.toNat_natCast, ai0]
        refine chain_step (and2 (decide_eq_true (Int.natCast_nonneg i)) rfl) (chain_step (decide_eq_true hi) ?_)
        exact q2 R K'
      · show cond (okP ⟨N, f, d', m', i + 1⟩) _ none = _
        rw [okP_spec.2 q1]
        exact h
    · refine .inr ⟨.exit 0, finP ⟨N, f, d, m, i⟩, by simp, fun K' => ?_, h⟩
      show roundK _ _ _ _ _ _ _ (encP0 N f d m (i : Nat)) K' = _
      rw [roundP N f d m hI.rel.sh, decide_eq_false (show ¬ (i : Int) < N by omega)]
      rfl
structure Sz where
  a : Int
  b : Int
  deriving Inhabited
def encSz (s : Sz) : List CV := [.int .i64 s.a, .int .i64 s.b]
def decSz : List CV → Option Sz
  | [.int .i64 a0, .int .i64 a1] => some ⟨a0, a1⟩
  | _ => none
def decSzD : List CV → Sz
  | [.int .i64 a0, .int .i64 a1] => ⟨a0, a1⟩
  | _ => default
theorem decSz_spec (l : List CV) (s : Sz) (h : decSz l = some s) : l = encSz s := by
  unfold decSz at h; split at h <;> cases h; rfl
theorem encSz_ren (s : Sz) (π) : (encSz s).map (CV.ren π) = encSz s := rfl
theorem backSz (s : Sz) : decSzD (encSz s) = s := rfl
structure wfSz (s : Sz) : Prop where
  a : (Lit.int .i64 s.a).wf = true
  b : (Lit.int .i64 s.b).wf = true
theorem opSz (cvs : List CV) (vs : List Value) (h : LeafRs [.int .i64, .int .i64] cvs vs) : ∃ x, cvs = encSz x ∧ wfSz x := by
  obtain ⟨_, _, _, _, rfl, rfl, ⟨a0, rfl, rfl, w0⟩, h0⟩ := h.cons_inv
  obtain ⟨_, _, _, _, rfl, rfl, ⟨a1, rfl, rfl, w1⟩, h1⟩ := h0.cons_inv
  obtain ⟨rfl, rfl⟩ := h1.nil_inv
  exact ⟨⟨a0, a1⟩, rfl, ⟨w0, w1⟩⟩
@[reducible] noncomputable def pd (s : Sz) : D := newV s.a s.b f0
@[reducible] noncomputable def pm0 (s : Sz) : M := mnewV s.a s.b ⟨false, 0, false, 0⟩
theorem t_DiskPlays (s : Sz) (N : Nat) (f : Nat → Ac) : runFnL Try.prog SP LPs 20 Try.f7 (bodyOf Try.f7) [.agg (encSz s), .c (.slc 0 0 N)] [row N f] lawK =
    bif decide ((N : Int) > 100) then some () else bif decide (selI 1 0 [s.a, s.b] > 40) then some () else chain [okDs (pd ⟨selI 0 0 [s.a, s.b], selI 1 0 [s.a, s.b]⟩)] (bif (pd ⟨selI 0 0 [s.a, s.b], selI 1 0 [s.a, s.b]⟩).size != (pm0 ⟨selI 0 0 [s.a, s.b], selI 1 0 [s.a, s.b]⟩).size then none else chain [okDs (pd ⟨selI 0 0 [s.a, s.b], selI 1 0 [s.a, s.b]⟩)] (bif ((pd ⟨selI 0 0 [s.a, s.b], selI 1 0 [s.a, s.b]⟩).n : Int) != ((pm0 ⟨selI 0 0 [s.a, s.b], selI 1 0 [s.a, s.b]⟩).n : Int) then none else
      chain [chkP (((N, fun j => encAc (f j)), ((pd ⟨selI 0 0 [s.a, s.b], selI 1 0 [s.a, s.b]⟩).n, 0, pd ⟨selI 0 0 [s.a, s.b], selI 1 0 [s.a, s.b]⟩, (fun j => encS ((pd ⟨selI 0 0 [s.a, s.b], selI 1 0 [s.a, s.b]⟩).S j)), fun j => encW ((pd ⟨selI 0 0 [s.a, s.b], selI 1 0 [s.a, s.b]⟩).W j)), (pm0 ⟨selI 0 0 [s.a, s.b], selI 1 0 [s.a, s.b]⟩, rawS (pm0 ⟨selI 0 0 [s.a, s.b], selI 1 0 [s.a, s.b]⟩))), 0, N, N, 11), okP ⟨N, f, pd ⟨selI 0 0 [s.a, s.b], selI 1 0 [s.a, s.b]⟩, pm0 ⟨selI 0 0 [s.a, s.b], selI 1 0 [s.a, s.b]⟩, 0⟩] (some ()))) := by kernel_rfl
theorem clampV_eq (x lo hi : Int) (h : lo ≤ hi) : foldMin (foldMax x [lo]) [hi] = clampV x lo hi := by
  unfold clampV foldMin foldMax foldMax foldMin
  by_cases h1 : x < lo
  · rw [show (if lo > x then lo else x) = lo from if_pos (by omega), decide_eq_true h1, if_neg (by omega)]; rfl
  · rw [show (if lo > x then lo else x) = x from if_neg (by omega), decide_eq_false h1, cond_false]
    by_cases h2 : x > hi
    · rw [decide_eq_true h2, if_pos (by omega)]; rfl
    · rw [decide_eq_false h2, if_neg (by omega)]; rfl
theorem rel_new (z n : Int) : Rel (newV z n f0) (mnewV z n ⟨false, 0, false, 0⟩) := by
  have ez : zc z = clampV z 128 1024 := clampV_eq z 128 1024 (by omega)
  have en : nc n = clampV n 4 1024 := clampV_eq n 4 1024 (by omega)
  obtain ⟨_, _, _, e4, e5, e6⟩ := gaQ_spec z n ⟨false, 0, false, 0⟩
  have hS : ∀ j, j < (nc n).toNat → (newV z n f0).S j = zr z := by
    intro j hj
    show (cond (Nat.blt j (nc n).toNat) (zeros (zc z)) ⟨#[]⟩ : ByteArray) = zr z
    rw [show Nat.blt j (nc n).toNat = true by rw [Nat.blt_eq]; exact hj, cond_true, zr_eq, ez]
    rfl
  refine ⟨Good.new z n _, ez, ?_, fun j hj => ?_, rfl, fun j hj => absurd hj (Nat.not_lt_zero j), fun j hj => ?_, rel_newF, fun hh => by cases hh⟩
  · show (nc n).toNat = (gaQ z n _).2.t
    rw [e4, en]
  · have hj : j < (nc n).toNat := hj
    rw [hS j hj]
    exact (e5 j (by rw [← en]; exact hj)).symm
  · have hj : j < (nc n).toNat := hj
    show (gaQ z n _).2.L2 j = (newV z n f0).S j
    rw [hS j hj]
    exact e6 j (by rw [← en]; exact hj)
theorem DiskPlays (s : Sz) (N : Nat) (f : Nat → Ac) (_ : wfSz s) (hwf : ∀ i, i < N → wfAc (f i)) (w : World) (u : Value) (hu : ∀ X ρ, (SV.agg (encSz s)).R X ρ u)
    (v : Value) (l : Sx.Loc) (hs : SlcR l 0 N v) (hb : BlkR (outer w fun _ _ => False) (fun b => if b = 0 then some l else none) l (row N f) w) :
    Calls Try.prog 7 #[u, v] w fun e w' => e = .returned (.bool true) ∧ RowKit.Below w.heap.size w w' := by
  refine law_callsL okSP mixed Try.func7 (c := bodyOf Try.f7) (by kernel_rfl) lawK_spec (L := LPs) (fuel := 20) (args := [.agg (encSz s), .c (.slc 0 0 N)]) (hp0 := [row N f]) (X := fun _ _ => False) (ρ := fun b => if b = 0 then some l else none) (vs := [u, v]) ?_ ?_ ⟨hu _ _, ⟨l, rfl, hs⟩, trivial⟩ (rho1_ok hb) (fun b hb => if_neg (by have : 1 ≤ b := hb; omega))
  · exact loopsOk_ix 2 (by kernel_rfl) ⟨⟨trivial, loopOk_here (n := 0) (by kernel_rfl) rfl loopP⟩, loopOk_here (n := 3) (by kernel_rfl) rfl loopJ⟩
  rw [t_DiskPlays]
  rw [show selI 0 0 [s.a, s.b] = s.a from rfl, show selI 1 0 [s.a, s.b] = s.b from rfl]
  by_cases hN : (N : Int) > 100
  · rw [decide_eq_true hN]; rfl
  rw [decide_eq_false hN, cond_false]
  by_cases hb40 : s.b > 40
  · rw [decide_eq_true hb40]; rfl
  rw [decide_eq_false hb40, cond_false]
  have r : Rel (pd ⟨s.a, s.b⟩) (pm0 ⟨s.a, s.b⟩) := rel_new s.a s.b
  refine chain_step (okD_self _) ?_
  rw [r.size, show ((pm0 ⟨s.a, s.b⟩).size != (pm0 ⟨s.a, s.b⟩).size) = false by simp, cond_false]
  refine chain_step (okD_self _) ?_
  rw [r.n, show (((pm0 ⟨s.a, s.b⟩).n : Int) != ((pm0 ⟨s.a, s.b⟩).n : Int)) = false by simp, cond_false]
  refine chain_step ?_ (chain_step (okP_spec.2 ⟨r, Nat.zero_le _, by dsimp only; omega, Nat.le_refl 0, hwf⟩) rfl)
  unfold chkP chkHp
  simp only [Bool.and_eq_true, decide_eq_true_eq]
  refine ⟨⟨chkRo_true backAc _, ?_, oqR_self _⟩, by omega, trivial, Nat.beq_refl _, rfl⟩
  have := okD_self (pd ⟨s.a, s.b⟩)
  rw [r.n] at this
  exact this
end Go.Proofs.Ytkkacjmjjhjpeaa.Dk

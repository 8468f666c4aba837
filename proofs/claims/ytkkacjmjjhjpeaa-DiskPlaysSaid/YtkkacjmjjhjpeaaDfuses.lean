/- DiskFuses: the walk and the law. No condition. -/
import Derived.Test.YtkkacjmjjhjpeaaDlast
set_option maxRecDepth 100000
set_option linter.unusedSimpArgs false
set_option linter.unusedVariables false
namespace Go.Proofs.Ytkkacjmjjhjpeaa.Dk
open Go Go.Proofs.Ytkkacjmjjhjpeaa.Sx
@[reducible] noncomputable def SLF : Sums := (17, ptrVal encF decF g_arm) :: (18, ptrVal encF decF g_blown) :: SL
theorem okSLF : SumsOk Try.prog SLF := (okSL.cons ok_blown).cons ok_arm
@[reducible] def cDM (d : D) : SB := .cells [.int .i64 d.size, .slc 3 0 d.n, .slc 4 0 d.k, .ptr 1 0]
@[reducible] def hpM (N : Nat) (f : Nat → Ac) (d : D) : List (Option SB) := [some (row N f), some (cF d.fu), some (cDM d), some (vS d.n d.S), some (vW d.k d.W)]
structure LM where
  nn : Int
  N : Nat
  f : Nat → Ac
  d : D
  done : Int
  i : Nat
@[reducible] def encM0 (nn : Int) (N : Nat) (f : Nat → Ac) (d : D) (done : Int) (i : Int) : St := ⟨[(1, .s (i64 nn)), (5, .s (.c (.ptr 1 0))), (6, .s (.c (.ptr 2 0))), (7, .s (i64 done)), (43, .s (.c (.slc 0 0 N))), (44, .s (i64 N)), (45, .s (i64 i))], hpM N f d, 5, 129⟩
@[reducible] def encM (p : LM) : St := encM0 p.nn p.N p.f p.d p.done p.i
def finM (p : LM) : St := ⟨[(1, .s (i64 p.nn)), (5, .s (.c (.ptr 1 0))), (6, .s (.c (.ptr 2 0))), (7, .s (i64 p.done))], hpM p.N p.f p.d, 5, 129⟩
@[reducible] def badM (N : Nat) (f : Nat → Ac) : St := ⟨[(4, .s (bl false))], [some (row N f)], 1, 129⟩
/-- A round's end: b is a fault. -/
@[reducible] noncomputable def endM {R : Type} (nn : Int) (d : D) (done : Int) (a : Ac) (B G : Option R) : Option R :=
  bif decide (done ≥ nn) then (bif (writeV d a.pos (fillV a.byte 128)).1 != 2 then B else bif !((readV (wr d a) a.pos).1.toList == (readV d a.pos).1.toList) then B else G) else G
theorem roundM {R : Type} (nn : Int) (N : Nat) (f : Nat → Ac) (d : D) (done i : Int) (K : Ex → St → Option R) : roundK Try.prog SLF [] 20 1 (resMask Try.f6.results.toList) (lpAt Try.f6 0) (encM0 nn N f d done i) K =
    bif decide (i < N) then chain [decide (0 ≤ i) && decide (i < (N : Int)), decide (addI 0 i.toNat < N), okDs d, preD d, okDs d, decide (d.k + 1 ≤ 4294967296), okDs (wr d (f (addI 0 i.toNat))), preD (wr d (f (addI 0 i.toNat)))]
      (bif decide ((f (addI 0 i.toNat)).pos < 0) then (bif (writeV d (f (addI 0 i.toNat)).pos (fillV (f (addI 0 i.toNat)).byte 128)).1 != 1 then K .ret (badM N f) else K .normal (encM0 nn N f (wr d (f (addI 0 i.toNat))) done (IntKind.i64.wrap (i + 1)))) else
       bif decide ((f (addI 0 i.toNat)).pos > 7) then (bif (writeV d (f (addI 0 i.toNat)).pos (fillV (f (addI 0 i.toNat)).byte 128)).1 != 1 then K .ret (badM N f) else K .normal (encM0 nn N f (wr d (f (addI 0 i.toNat))) done (IntKind.i64.wrap (i + 1)))) else
       bif decide (done < nn) then (bif (writeV d (f (addI 0 i.toNat)).pos (fillV (f (addI 0 i.toNat)).byte 128)).1 != 0 then K .ret (badM N f) else bif !((readV (wr d (f (addI 0 i.toNat))) (f (addI 0 i.toNat)).pos).1.toList == (fillV (f (addI 0 i.toNat)).byte 128).toList) then K .ret (badM N f) else
          endM nn d done (f (addI 0 i.toNat)) (K .ret (badM N f)) (K .normal (encM0 nn N f (wr d (f (addI 0 i.toNat))) (IntKind.i64.wrap (done + 1)) (IntKind.i64.wrap (i + 1))))) else
        endM nn d done (f (addI 0 i.toNat)) (K .ret (badM N f)) (K .normal (encM0 nn N f (wr d (f (addI 0 i.toNat))) (IntKind.i64.wrap (done + 1)) (IntKind.i64.wrap (i + 1)))))
    else K (.exit 0) (finM ⟨nn, N, f, d, done, 0⟩) := by kernel_rfl
@[reducible] def PM := (Int × Int × Int × Int) × (Nat × Nat × Nat × Nat) × (Nat → List CV) × D × (Nat → List CV) × (Nat → List CV)
def decM : St → Option PM
  | ⟨[(1, .s (.c (.int .i64 nn))), (5, .s (.c (.ptr 1 0))), (6, .s (.c (.ptr 2 0))), (7, .s (.c (.int .i64 done))), (43, .s (.c (.slc 0 0 N2))), (44, .s (.c (.int .i64 m))), (45, .s (.c (.int .i64 i)))], [some (.ro 5 (.gen N gA)), some (.cells [.int .i64 l, .bool c1, .int .i64 c2]), some (.cells [.int .i64 z, .slc 3 0 n', .slc 4 0 k', .ptr 1 0]), some (.vec 1 [] (.gen n gS)), some (.vec 2 [] (.gen k gW))], 5, 129⟩ => some ((nn, done, m, i), (N2, N, n', k'), gA, ⟨z, n, fun j => decS (gS j), k, fun j => decW (gW j), ⟨l, c1, c2⟩⟩, gS, gW)
  | _ => none
noncomputable def chkM (p : PM) : Bool := match p with
  | ((nn, done, m, i), (N2, N, n', k'), gA, d, gS, gW) => decide (0 ≤ i) && (decide (m = N) && (Nat.beq N2 N && (chkRo encAc decAcD gA && okD n' k' d gS gW)))
def normM (p : PM) : LM := match p with
  | ((nn, done, m, i), (N2, N, n', k'), gA, d, gS, gW) => ⟨nn, N, fun j => decAcD (gA j), d, done, i.toNat⟩
theorem decM_spec (st : St) (p : PM) (h : decM st = some p) (hc : chkM p = true) : st = encM (normM p) := by
  unfold decM at h
  split at h
  · rename_i nn done N2 m i N gA l c1 c2 z n' k' n gS k gW
    cases h
    unfold chkM at hc
    simp only [Bool.and_eq_true, decide_eq_true_eq] at hc
    obtain ⟨c0, c1, c3, c4, c5⟩ := hc
    obtain ⟨e1, e2, e3, e4⟩ := okD_parts c5
    have c3 := Nat.eq_of_beq_eq_true c3
    have c4 := chkRo_spec c4
    simp only at e1 e2
    subst e1 e2 c1 c3
    simp only [normM, encM, encM0, Int.toNat_of_nonneg c0]
    show _ = St.mk _ [some (SB.ro 5 (.gen _ fun j => encAc (decAcD (gA j)))), _, _, some (SB.vec 1 [] (.gen _ fun j => encS (decS (gS j)))), some (SB.vec 2 [] (.gen _ fun j => encW (decW (gW j))))] _ _
    rw [← e3, ← e4, ← c4]
  · cases h
structure InvM (p : LM) : Prop where
  good : Good p.d
  n : p.d.n = 8
  z : p.d.size = 128
  done : 0 ≤ p.done ∧ p.done ≤ p.i
  nn : 0 ≤ p.nn ∧ p.nn ≤ 200
  left : (p.done < p.nn ∧ p.d.fu.left = p.nn - p.done ∧ p.d.fu.blown = false) ∨ (p.nn ≤ p.done ∧ p.d.fu.left = 0)
  i : p.i ≤ p.N
  N : p.N ≤ 100
  k : p.d.k + (p.N - p.i) ≤ 4294967296
noncomputable def okM (p : LM) : Bool := @decide (InvM p) (Classical.propDecidable _)
theorem okM_spec {p : LM} : okM p = true ↔ InvM p := by unfold okM; rw [@decide_eq_true_eq _ (Classical.propDecidable _)]
noncomputable def nxM (p : LM) : LM := ⟨p.nn, p.N, p.f, wr p.d (p.f p.i), bif decide (0 ≤ (p.f p.i).pos) && decide ((p.f p.i).pos ≤ 7) then p.done + 1 else p.done, p.i + 1⟩
@[reducible] noncomputable def LpM : LoopSum := formSumC decM chkM normM (goSum okM (fun p => p.N - p.i) (fun _ => false) nxM (.exit 9) finM (.exit 0) finM)
theorem spend_in {f : F} (hb : f.blown = false) (hl : 0 < f.left) (hm : f.left ≤ 200) : spendV f = (true, ⟨f.left - 1, false, IntKind.i64.wrap (f.count + 1)⟩) := by
  unfold spendV
  rw [hb, show (f.left == 0) = false by simp; omega, decide_eq_true hl, wi (x := f.left - 1) (by omega)]
  rfl
theorem spend_out {f : F} (hl : f.left = 0) : spendV f = (false, ⟨f.left, true, f.count⟩) := by
  unfold spendV
  rw [hl]
  cases f.blown <;> rfl
theorem read_add {d : D} {i : Int} (b : ByteArray) (hi : 0 ≤ i ∧ i < d.n) : readV (addW d (i, b)) i = (b, 0) := by
  unfold readV
  rw [show isV (addW d (i, b)) i = true from isV_spec.2 hi, cond_true, lastF_snoc, Nat.zero_add]
  show (setS (lastF (addW d (i, b)).W d.k 0 d.S) (pushW d.W d.k (i, b) d.k).1.toNat (pushW d.W d.k (i, b) d.k).2 i.toNat, (0 : Int)) = _
  rw [pushW_at]
  show (setS (lastF (addW d (i, b)).W d.k 0 d.S) i.toNat b i.toNat, (0 : Int)) = _
  rw [setS_at]
theorem nextM {R : Type} (nn : Int) (N : Nat) (f : Nat → Ac) (d : D) (done : Int) (i : Nat) (h1 : InvM ⟨nn, N, f, d, done, i⟩) (h2 : i < N) (K : Ex → St → Option R) : roundK Try.prog SLF [] 20 1 (resMask Try.f6.results.toList) (lpAt Try.f6 0) (encM0 nn N f d done (i : Nat)) K =
    K .normal (encM (nxM ⟨nn, N, f, d, done, i⟩)) ∧ InvM (nxM ⟨nn, N, f, d, done, i⟩) := by
  obtain ⟨g, hn, hz, hd, hnn, hl, hi, hN, hk⟩ := h1
  dsimp only at g hn hz hd hnn hl hi hN hk
  have gw : Good (wr d (f i)) := g.write _ _ (by omega)
  have hwk : (wr d (f i)).k ≤ d.k + 1 := writeV_k d (f i).pos (fillV (f i).byte 128)
  have hfz : ((fillV (f i).byte 128).size : Int) = d.size := by rw [fillV_size, hz]; rfl
  rw [roundM, decide_eq_true (show (i : Int) < N by omega), cond_true]
  simp only [Int.toNat_natCast, ai0]
  rw [wi (x := (i : Int) + 1) (by omega), wi (x := done + 1) (by omega)]
  unfold nxM
  dsimp only
  by_cases hp : 0 ≤ (f i).pos ∧ (f i).pos ≤ 7
  · rw [show (decide (0 ≤ (f i).pos) && decide ((f i).pos ≤ 7)) = true by simp [hp.1, hp.2], cond_true]
    have hp' : 0 ≤ (f i).pos ∧ (f i).pos < d.n := by omega
    rcases hl with ⟨l1, l2, l3⟩ | ⟨l1, l2⟩
    · have hs := spend_in l3 (by omega) (by omega)
      have hw := write_ok hp' hfz (by rw [hs])
      have hr : readV (wr d (f i)) (f i).pos = (fillV (f i).byte 128, 0) := by
        unfold wr; rw [hw]
        exact read_add (d := wF d (spendV d.fu).2) _ hp'
      refine ⟨?_, ⟨gw, by unfold wr; rw [hw]; exact hn, by unfold wr; rw [hw]; exact hz, by dsimp only; omega, hnn, ?_, by dsimp only; omega, hN, by dsimp only; omega⟩⟩
      · refine chain_step (and2 (decide_eq_true (Int.natCast_nonneg i)) rfl) (chain_step (decide_eq_true (by omega)) (chain_step (okD_self _) (chain_step g.preW (chain_step (okD_self _) (chain_step (decide_eq_true (by omega)) (chain_step (okD_self _) (chain_step gw.preW ?_)))))))
        show (bif decide ((f i).pos < 0) then _ else _) = _
        rw [decide_eq_false (show ¬ (f i).pos < 0 by omega), decide_eq_false (show ¬ (f i).pos > 7 by omega), decide_eq_true l1, hr, hw]
        unfold endM
        rw [decide_eq_false (show ¬ done ≥ nn by omega)]
        simp only [cond_false, cond_true, beq_self_eq_true, Bool.not_true]
        rfl
      · dsimp only
        unfold wr
        rw [hw]
        show (done + 1 < nn ∧ (spendV d.fu).2.left = nn - (done + 1) ∧ (spendV d.fu).2.blown = false) ∨ (nn ≤ done + 1 ∧ (spendV d.fu).2.left = 0)
        rw [hs]
        dsimp only
        by_cases hlt : done + 1 < nn
        · exact .inl ⟨hlt, by omega, rfl⟩
        · exact .inr ⟨by omega, by omega⟩
    · have hs := spend_out l2
      have hw : writeV d (f i).pos (fillV (f i).byte 128) = (2, wF d (spendV d.fu).2) := by
        rcases writeV_cases d (f i).pos (fillV (f i).byte 128) with ⟨_, e⟩ | ⟨_, _, ⟨_, e⟩ | ⟨e, _⟩⟩
        · exact absurd ⟨hp', hfz⟩ e
        · exact e
        · rw [hs] at e; cases e
      have hr : readV (wr d (f i)) (f i).pos = readV d (f i).pos := by
        unfold wr; rw [hw]; rfl
      refine ⟨?_, ⟨gw, by unfold wr; rw [hw]; exact hn, by unfold wr; rw [hw]; exact hz, by dsimp only; omega, hnn, ?_, by dsimp only; omega, hN, by dsimp only; omega⟩⟩
      · refine chain_step (and2 (decide_eq_true (Int.natCast_nonneg i)) rfl) (chain_step (decide_eq_true (by omega)) (chain_step (okD_self _) (chain_step g.preW (chain_step (okD_self _) (chain_step (decide_eq_true (by omega)) (chain_step (okD_self _) (chain_step gw.preW ?_)))))))
        show (bif decide ((f i).pos < 0) then _ else _) = _
        rw [decide_eq_false (show ¬ (f i).pos < 0 by omega), decide_eq_false (show ¬ (f i).pos > 7 by omega), decide_eq_false (show ¬ done < nn by omega)]
        unfold endM
        rw [decide_eq_true (show done ≥ nn by omega), hr, hw]
        simp only [cond_false, cond_true, beq_self_eq_true, Bool.not_true]
        rfl
      · dsimp only
        unfold wr
        rw [hw]
        show (done + 1 < nn ∧ (spendV d.fu).2.left = nn - (done + 1) ∧ (spendV d.fu).2.blown = false) ∨ (nn ≤ done + 1 ∧ (spendV d.fu).2.left = 0)
        rw [hs]
        exact .inr ⟨by omega, l2⟩
  · rw [show (decide (0 ≤ (f i).pos) && decide ((f i).pos ≤ 7)) = false by
      rw [Bool.eq_false_iff]; simp only [ne_eq, Bool.and_eq_true, decide_eq_true_eq]; exact hp, cond_false]
    have hw : writeV d (f i).pos (fillV (f i).byte 128) = (1, d) := by
      rcases writeV_cases d (f i).pos (fillV (f i).byte 128) with ⟨e, _⟩ | ⟨e, _⟩
      · exact e
      · omega
    refine ⟨?_, ⟨gw, by unfold wr; rw [hw]; exact hn, by unfold wr; rw [hw]; exact hz, by dsimp only; omega, hnn, by unfold wr; rw [hw]; exact hl, by dsimp only; omega, hN, by dsimp only; omega⟩⟩
    refine chain_step (and2 (decide_eq_true (Int.natCast_nonneg i)) rfl) (chain_step (decide_eq_true (by omega)) (chain_step (okD_self _) (chain_step g.preW (chain_step (okD_self _) (chain_step (decide_eq_true (by omega)) (chain_step (okD_self _) (chain_step gw.preW ?_)))))))
    show (bif decide ((f i).pos < 0) then _ else _) = _
    by_cases h0 : (f i).pos < 0
    · rw [decide_eq_true h0, cond_true, hw]
      rfl
    · rw [decide_eq_false h0, cond_false, decide_eq_true (show (f i).pos > 7 by omega), cond_true, hw]
      rfl
theorem loopM : LoopOk Try.prog SLF [] 20 1 (resMask Try.f6.results.toList) (lpAt Try.f6 0) LpM := by
  refine LoopOk.go (enc := encM) decM_spec (by simp) (by simp) ?_ ?_ ?_
  · intro R p K _ _ h; cases h
  · rintro R ⟨nn, N, f, d, done, i⟩ c K h1 h2 _
    have h2 : N - i = c + 1 := h2
    have hrd := nextM nn N f d done i (okM_spec.1 h1) (by omega) K
    refine ⟨hrd.1, okM_spec.2 hrd.2, ?_⟩
    show N - (i + 1) = c
    omega
  · rintro R ⟨nn, N, f, d, done, i⟩ K h1 h2
    have h2 : N - i = 0 := h2
    show roundK _ _ _ _ _ _ _ (encM0 nn N f d done (i : Nat)) K = _
    rw [roundM, decide_eq_false (show ¬ (i : Int) < N by omega)]
    rfl
/-! ### The law -/
@[reducible] noncomputable def m1 (n : Int) : D := wF l0 (armV f0 n)
@[reducible] noncomputable def rest (d : D) : Option Unit := chain [okDs d, gB d, okDs (crashV d 0 0), preD (crashV d 0 0), (flushV (crashV d 0 0)).1 == 0] (bif !(flushV (crashV d 0 0)).2.fu.blown then some () else none)
@[reducible] noncomputable def tailM (p : LM) : Option Unit := bif decide (p.done ≥ p.nn) then chain [okDs p.d, preD p.d] (bif (flushV p.d).1 != 2 then none else rest (flushV p.d).2) else rest p.d
@[reducible] noncomputable def pm (N : Nat) (f : Nat → Ac) (n : Int) : LM := ⟨n, N, f, m1 n, 0, 0⟩
theorem t_DiskFuses (N : Nat) (f : Nat → Ac) (n : Int) : runFnL Try.prog SLF [(0, LpM)] 20 Try.f6 (bodyOf Try.f6) [.c (.slc 0 0 N), i64 n] [row N f] lawK =
    bif decide ((N : Int) > 100) then some () else bif decide (n < 0) then some () else bif decide (n > 200) then some () else chain [chkM ((n, 0, N, 0), (N, N, 8, 0), (fun i => encAc (f i)), m1 n, (fun j => encS (l0.S j)), fun j => encW (l0.W j)), okM (pm N f n)]
      (bif (goA (fun _ => false) nxM (N - 0) (pm N f n)).1 then none else tailM (goA (fun _ => false) nxM (N - 0) (pm N f n)).2) := by kernel_rfl
theorem goA_M : ∀ (c : Nat) (p : LM), InvM p → p.i + c ≤ p.N → (goA (fun _ => false) nxM c p).1 = false ∧ InvM (goA (fun _ => false) nxM c p).2
  | 0, p, h, _ => ⟨rfl, h⟩
  | c + 1, p, h, hc => by
    have h2 := (nextM (R := Unit) p.nn p.N p.f p.d p.done p.i h (by omega) fun _ _ => none).2
    exact goA_M c (nxM p) h2 (by show p.i + 1 + c ≤ p.N; omega)
theorem flush_bad {d : D} (hs : (spendV d.fu).1 = false) : flushV d = (2, wF d (spendV d.fu).2) := by
  unfold flushV; rw [hs]; rfl
theorem rest_ok {d : D} (h : Good d) : rest d = some () := by
  have g := h.crash 0 0
  have hs : spendV (crashV d 0 0).fu = (true, ⟨-1, false, IntKind.i64.wrap (d.fu.count + 1)⟩) := rfl
  have hf := flush_ok (d := crashV d 0 0) (by rw [hs])
  unfold rest
  refine chain_step (okD_self _) (chain_step (gB_spec.2 h) (chain_step (okD_self _) (chain_step g.preW ?_)))
  rw [hf, hs]
  exact chain_step rfl rfl
theorem DiskFuses (N : Nat) (f : Nat → Ac) (n : Int) (_ : ∀ i, i < N → wfAc (f i)) (_ : (Lit.int .i64 n).wf = true) (w : World)
    (v : Value) (l : Sx.Loc) (hs : SlcR l 0 N v) (hb : BlkR (outer w fun _ _ => False) (fun b => if b = 0 then some l else none) l (row N f) w) :
    Calls Try.prog 6 #[v, .int .i64 n] w fun e w' => e = .returned (.bool true) ∧ RowKit.Below w.heap.size w w' := by
  refine law_callsL okSLF mixed Try.func6 (c := bodyOf Try.f6) (by kernel_rfl) lawK_spec (L := [(0, LpM)]) (fuel := 20) (args := [.c (.slc 0 0 N), i64 n]) (hp0 := [row N f]) (X := fun _ _ => False) (ρ := fun b => if b = 0 then some l else none) (vs := [v, .int .i64 n]) (loopsOk_ix 1 (by kernel_rfl) ⟨trivial, loopOk_here (n := 0) (by kernel_rfl) rfl loopM⟩) ?_ ⟨⟨l, rfl, hs⟩, rfl, trivial⟩ (rho1_ok hb) (fun b hb => if_neg (by have : 1 ≤ b := hb; omega))
  rw [t_DiskFuses]
  by_cases hN : (N : Int) > 100
  · rw [decide_eq_true hN]; rfl
  rw [decide_eq_false hN, cond_false]
  by_cases hn0 : n < 0
  · rw [decide_eq_true hn0]; rfl
  rw [decide_eq_false hn0, cond_false]
  by_cases hn2 : n > 200
  · rw [decide_eq_true hn2]; rfl
  rw [decide_eq_false hn2, cond_false]
  have g0 : Good l0 := Good.new 128 8 _
  have hl : (armV f0 n).left = n ∧ (armV f0 n).blown = false := by
    refine ⟨?_, rfl⟩
    show foldMax n [0] = n
    unfold foldMax foldMax
    rw [if_neg (by omega)]
  have hI : InvM (pm N f n) := by
    refine ⟨g0.fu _, rfl, rfl, ⟨by dsimp only; omega, by dsimp only; omega⟩, ⟨by dsimp only; omega, by dsimp only; omega⟩, ?_, by dsimp only; omega, by dsimp only; omega, ?_⟩
    · show (0 < n ∧ (armV f0 n).left = n - 0 ∧ (armV f0 n).blown = false) ∨ (n ≤ 0 ∧ (armV f0 n).left = 0)
      by_cases h : 0 < n
      · exact .inl ⟨h, by omega, hl.2⟩
      · exact .inr ⟨by omega, by omega⟩
    · show 0 + (N - 0) ≤ 4294967296
      omega
  refine chain_step ?_ (chain_step (okM_spec.2 hI) ?_)
  · unfold chkM
    simp only [Bool.and_eq_true, decide_eq_true_eq]
    exact ⟨by omega, trivial, Nat.beq_refl _, chkRo_true backAc _, okD_self (m1 n)⟩
  obtain ⟨r1, r2⟩ := goA_M (N - 0) (pm N f n) hI (by show 0 + (N - 0) ≤ N; omega)
  rw [r1, cond_false]
  generalize (goA (fun _ => false) nxM (N - 0) (pm N f n)).2 = p at r2
  have g := r2.good
  unfold tailM
  by_cases hd : p.done ≥ p.nn
  · rw [decide_eq_true hd, cond_true]
    have hl0 : p.d.fu.left = 0 := by
      rcases r2.left with ⟨h1, _⟩ | ⟨_, h⟩
      · omega
      · exact h
    have hf := flush_bad (d := p.d) (by rw [spend_out hl0])
    refine chain_step (okD_self _) (chain_step g.preW ?_)
    have hg := g.flush
    rw [hf] at hg ⊢
    exact rest_ok hg
  · rw [decide_eq_false hd, cond_false]
    exact rest_ok g
end Go.Proofs.Ytkkacjmjjhjpeaa.Dk

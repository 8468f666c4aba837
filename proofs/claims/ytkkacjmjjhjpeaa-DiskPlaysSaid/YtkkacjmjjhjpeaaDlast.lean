/- DiskLasts: the walk and the law. No condition. -/
import Derived.Test.YtkkacjmjjhjpeaaDtorn
set_option maxRecDepth 100000
set_option linter.unusedSimpArgs false
set_option linter.unusedVariables false
namespace Go.Proofs.Ytkkacjmjjhjpeaa.Dk
open Go Go.Proofs.Ytkkacjmjjhjpeaa.Sx
structure Ac where
  kind : Int
  pos : Int
  num : Int
  byte : Int
  kp : Int
  deriving Inhabited
def encAc (s : Ac) : List CV := [.int .i64 s.kind, .int .i64 s.pos, .int .i64 s.num, .int .u8 s.byte, .int .u64 s.kp]
def decAc : List CV → Option Ac
  | [.int .i64 a0, .int .i64 a1, .int .i64 a2, .int .u8 a3, .int .u64 a4] => some ⟨a0, a1, a2, a3, a4⟩
  | _ => none
def decAcD : List CV → Ac
  | [.int .i64 a0, .int .i64 a1, .int .i64 a2, .int .u8 a3, .int .u64 a4] => ⟨a0, a1, a2, a3, a4⟩
  | _ => default
theorem decAc_spec (l : List CV) (s : Ac) (h : decAc l = some s) : l = encAc s := by
  unfold decAc at h; split at h <;> cases h; rfl
theorem encAc_ren (s : Ac) (π) : (encAc s).map (CV.ren π) = encAc s := rfl
theorem backAc (s : Ac) : decAcD (encAc s) = s := rfl
structure wfAc (s : Ac) : Prop where
  kind : (Lit.int .i64 s.kind).wf = true
  pos : (Lit.int .i64 s.pos).wf = true
  num : (Lit.int .i64 s.num).wf = true
  byte : (Lit.int .u8 s.byte).wf = true
  kp : (Lit.int .u64 s.kp).wf = true
theorem opAc (cvs : List CV) (vs : List Value) (h : LeafRs [.int .i64, .int .i64, .int .i64, .int .u8, .int .u64] cvs vs) : ∃ x, cvs = encAc x ∧ wfAc x := by
  obtain ⟨_, _, _, _, rfl, rfl, ⟨a0, rfl, rfl, w0⟩, h0⟩ := h.cons_inv
  obtain ⟨_, _, _, _, rfl, rfl, ⟨a1, rfl, rfl, w1⟩, h1⟩ := h0.cons_inv
  obtain ⟨_, _, _, _, rfl, rfl, ⟨a2, rfl, rfl, w2⟩, h2⟩ := h1.cons_inv
  obtain ⟨_, _, _, _, rfl, rfl, ⟨a3, rfl, rfl, w3⟩, h3⟩ := h2.cons_inv
  obtain ⟨_, _, _, _, rfl, rfl, ⟨a4, rfl, rfl, w4⟩, h4⟩ := h3.cons_inv
  obtain ⟨rfl, rfl⟩ := h4.nil_inv
  exact ⟨⟨a0, a1, a2, a3, a4⟩, rfl, ⟨w0, w1, w2, w3, w4⟩⟩
@[reducible] def row (N : Nat) (f : Nat → Ac) : SB := .ro 5 (.gen N fun i => encAc (f i))
/-- A disk in a law: its blocks stand behind the acts. -/
@[reducible] def cDL (d : D) : SB := .cells [.int .i64 d.size, .slc 2 0 d.n, .slc 3 0 d.k, .ptr 4 0]
@[reducible] def hpL (N : Nat) (f : Nat → Ac) (d : D) : List (Option SB) := [some (row N f), some (cDL d), some (vS d.n d.S), some (vW d.k d.W), some (cF d.fu)]
structure LL where
  b : Int
  keep : Int
  N : Nat
  f : Nat → Ac
  d : D
  i : Nat
@[reducible] def encL0 (p : LL) (i : Int) : St := ⟨[(0, .s (.c (.int .u8 p.b))), (1, .s (.c (.slc 0 0 p.N))), (2, .s (.c (.int .u64 p.keep))), (8, .s (.c (.ptr 1 0))), (42, .s (.c (.slc 0 0 p.N))), (43, .s (i64 p.N)), (44, .s (i64 i))], hpL p.N p.f p.d, 5, 77⟩
@[reducible] def encL (p : LL) : St := encL0 p p.i
def finL (p : LL) : St := ⟨[(0, .s (.c (.int .u8 p.b))), (1, .s (.c (.slc 0 0 p.N))), (2, .s (.c (.int .u64 p.keep))), (8, .s (.c (.ptr 1 0)))], hpL p.N p.f p.d, 5, 77⟩
@[reducible] noncomputable def wr (d : D) (a : Ac) : D := (writeV d a.pos (fillV a.byte 128)).2
@[reducible] noncomputable def stepL (p : LL) (a : Ac) : LL := ⟨p.b, p.keep, p.N, p.f, wr p.d a, p.i⟩
theorem roundL {R : Type} (p : LL) (i : Int) (K : Ex → St → Option R) : roundK Try.prog SL [] 20 1 (resMask Try.f3.results.toList) (lpAt Try.f3 0) (encL0 p i) K =
    bif decide (i < p.N) then bif decide (0 ≤ i) && decide (i < (p.N : Int)) then bif decide (addI 0 i.toNat < p.N) then bif (p.f (addI 0 i.toNat)).pos != 3 then
      bif okDs p.d then bif decide (p.d.k + 1 ≤ 4294967296) then K .normal (encL0 (stepL p (p.f (addI 0 i.toNat))) (IntKind.i64.wrap (i + 1))) else none else none
      else K .normal (encL0 p (IntKind.i64.wrap (i + 1))) else none else none else K (.exit 0) (finL p) := by kernel_rfl
@[reducible] def PL := (Int × Int × Int × Int) × (Nat × Nat × Nat × Nat × Nat) × (Nat → List CV) × D × (Nat → List CV) × (Nat → List CV)
def decL : St → Option PL
  | ⟨[(0, .s (.c (.int .u8 b))), (1, .s (.c (.slc 0 0 N1))), (2, .s (.c (.int .u64 keep))), (8, .s (.c (.ptr 1 0))), (42, .s (.c (.slc 0 0 N2))), (43, .s (.c (.int .i64 m))), (44, .s (.c (.int .i64 i)))], [some (.ro 5 (.gen N gA)), some (.cells [.int .i64 z, .slc 2 0 n', .slc 3 0 k', .ptr 4 0]), some (.vec 1 [] (.gen n gS)), some (.vec 2 [] (.gen k gW)), some (.cells [.int .i64 l, .bool c1, .int .i64 c2])], 5, 77⟩ => some ((b, keep, m, i), (N1, N2, N, n', k'), gA, ⟨z, n, fun j => decS (gS j), k, fun j => decW (gW j), ⟨l, c1, c2⟩⟩, gS, gW)
  | _ => none
noncomputable def chkL (p : PL) : Bool := match p with
  | ((b, keep, m, i), (N1, N2, N, n', k'), gA, d, gS, gW) => decide (0 ≤ i) && (decide (m = N) && (Nat.beq N1 N && (Nat.beq N2 N && (chkRo encAc decAcD gA && okD n' k' d gS gW))))
def normL (p : PL) : LL := match p with
  | ((b, keep, m, i), (N1, N2, N, n', k'), gA, d, gS, gW) => ⟨b, keep, N, fun j => decAcD (gA j), d, i.toNat⟩
theorem decL_spec (st : St) (p : PL) (h : decL st = some p) (hc : chkL p = true) : st = encL (normL p) := by
  unfold decL at h
  split at h
  · rename_i b N1 keep N2 m i N gA z n' k' n gS k gW l c1 c2
    cases h
    unfold chkL at hc
    simp only [Bool.and_eq_true, decide_eq_true_eq] at hc
    obtain ⟨c0, c1, c2, c3, c4, c5⟩ := hc
    obtain ⟨e1, e2, e3, e4⟩ := okD_parts c5
    have c2 := Nat.eq_of_beq_eq_true c2
    have c3 := Nat.eq_of_beq_eq_true c3
    have c4 := chkRo_spec c4
    simp only at e1 e2
    subst e1 e2 c1 c2 c3
    simp only [normL, encL, encL0, Int.toNat_of_nonneg c0]
    show _ = St.mk _ [some (SB.ro 5 (.gen _ fun j => encAc (decAcD (gA j)))), _, some (SB.vec 1 [] (.gen _ fun j => encS (decS (gS j)))), some (SB.vec 2 [] (.gen _ fun j => encW (decW (gW j)))), _] _ _
    rw [← e3, ← e4, ← c4]
  · cases h
noncomputable def okL (p : LL) : Bool := decide (p.i ≤ p.N) && (decide (p.N ≤ 100) && decide (p.d.k + (p.N - p.i) ≤ 4294967296))
noncomputable def stL (d : D) (a : Ac) : D := bif a.pos != 3 then wr d a else d
noncomputable def nxL (p : LL) : LL := ⟨p.b, p.keep, p.N, p.f, stL p.d (p.f p.i), p.i + 1⟩
@[reducible] noncomputable def LpL : LoopSum := formSumC decL chkL normL (goSum okL (fun p => p.N - p.i) (fun _ => false) nxL (.exit 9) finL (.exit 0) finL)
theorem okDs_true (d : D) : okDs d = true := okD_self d
theorem stL_k (d : D) (a : Ac) : (stL d a).k ≤ d.k + 1 := by
  unfold stL
  cases a.pos != 3 with
  | false => exact Nat.le_succ _
  | true => exact writeV_k ..
theorem loopL : LoopOk Try.prog SL [] 20 1 (resMask Try.f3.results.toList) (lpAt Try.f3 0) LpL := by
  refine LoopOk.go (enc := encL) decL_spec (by simp) (by simp) ?_ ?_ ?_
  · intro R p K _ _ h; cases h
  · rintro R ⟨b, keep, N, f, d, i⟩ c K h1 h2 _
    unfold okL at h1
    simp only [Bool.and_eq_true, decide_eq_true_eq] at h1 h2
    obtain ⟨c1, c2, c3⟩ := h1
    refine ⟨?_, ?_, ?_⟩
    · show roundK _ _ _ _ _ _ _ (encL0 ⟨b, keep, N, f, d, i⟩ (i : Nat)) K = _
      rw [roundL]
      dsimp only
      rw [okDs_true d, decide_eq_true (show (i : Int) < N by omega), decide_eq_true (show (0 : Int) ≤ i by omega), decide_eq_true (show d.k + 1 ≤ 4294967296 by omega)]
      simp only [Int.toNat_natCast, ai0, Bool.and_self, cond_true]
      rw [decide_eq_true (show i < N by omega), wi (x := (i : Int) + 1) (by omega)]
      unfold nxL stL
      cases hb : (f i).pos != 3
      · simp only [hb]; rfl
      · simp only [hb]; rfl
    · have := stL_k d (f i)
      unfold okL nxL
      simp only [Bool.and_eq_true, decide_eq_true_eq]
      exact ⟨by omega, c2, by omega⟩
    · show N - (i + 1) = c
      omega
  · rintro R ⟨b, keep, N, f, d, i⟩ K h1 h2
    have h2 : N - i = 0 := h2
    show roundK _ _ _ _ _ _ _ (encL0 ⟨b, keep, N, f, d, i⟩ (i : Nat)) K = _
    rw [roundL, decide_eq_false (show ¬ (i : Int) < N by omega)]
    rfl
def allW (st : D → Ac → D) (f : Nat → Ac) : Nat → Nat → D → D
  | 0, _, d => d
  | c + 1, i, d => allW st f c (i + 1) (st d (f i))
theorem goA_L : ∀ (c : Nat) (p : LL), (goA (fun _ => false) nxL c p) = (false, ⟨p.b, p.keep, p.N, p.f, allW stL p.f c p.i p.d, p.i + c⟩)
  | 0, p => rfl
  | c + 1, p => by
    show goA _ nxL c (nxL p) = _
    rw [goA_L c (nxL p)]
    unfold nxL
    simp only [allW]
    congr 2
    omega
@[reducible] noncomputable def l0 : D := newV 128 8 f0
@[reducible] noncomputable def l1 (b : Int) : D := (writeV l0 3 (fillV b 128)).2
@[reducible] noncomputable def l2 (b : Int) : D := (flushV (l1 b)).2
@[reducible] noncomputable def cr (p : LL) : D := crashV p.d p.keep (p.N : Int)
@[reducible] noncomputable def tailL (p : LL) : Option Unit := chain [okDs p.d, gB p.d, okDs (cr p), preD (cr p), (readV (cr p) 3).2 == 0, (readV (cr p) 3).1.toList == (fillV p.b 128).toList] (some ())
@[reducible] noncomputable def p0 (b keep : Int) (N : Nat) (f : Nat → Ac) : LL := ⟨b, keep, N, f, l2 b, 0⟩
theorem t_DiskLasts (b keep : Int) (N : Nat) (f : Nat → Ac) : runFnL Try.prog SL [(0, LpL)] 20 Try.f3 (bodyOf Try.f3) [.c (.int .u8 b), .c (.slc 0 0 N), .c (.int .u64 keep)] [row N f] lawK =
    bif decide ((N : Int) > 100) then some () else chain [okDs l0, okDs (l1 b), preD (l1 b), chkL ((b, keep, N, 0), (N, N, N, 8, 0), (fun i => encAc (f i)), l2 b, (fun j => encS ((l2 b).S j)), fun j => encW ((l2 b).W j)), okL (p0 b keep N f)]
      (bif (goA (fun _ => false) nxL (N - 0) (p0 b keep N f)).1 then none else tailL (goA (fun _ => false) nxL (N - 0) (p0 b keep N f)).2) := by kernel_rfl
/-! ### The law -/
theorem l1_eq (b : Int) : writeV l0 3 (fillV b 128) = (0, addW (wF l0 ⟨-1, false, 1⟩) (3, fillV b 128)) := by
  refine write_ok ⟨by omega, ?_⟩ ?_ rfl
  · show (3 : Int) < ((nc 8).toNat : Int)
    have e : nc 8 = 8 := rfl
    omega
  · rw [fillV_size]; rfl
theorem l1_eq' (b : Int) : l1 b = addW (wF l0 ⟨-1, false, 1⟩) (3, fillV b 128) := by unfold l1; rw [l1_eq]
theorem l2_eq (b : Int) : l2 b = nilW (wF (l1 b) ⟨-1, false, 2⟩) (setS l0.S 3 (fillV b 128)) := by
  unfold l2
  rw [flush_ok (by rw [l1_eq']; rfl), l1_eq']
  rfl
/-- Sector 3 as it is, and no write to it that isn't flushed. -/
structure At3 (s : ByteArray) (d : D) : Prop where
  good : Good d
  S : d.S 3 = s
  W : ∀ j, j < d.k → (d.W j).1.toNat ≠ 3
theorem At3.st {s : ByteArray} {d : D} (h : At3 s d) (a : Ac) (hk : d.k + 1 ≤ 4294967296) : At3 s (stL d a) := by
  unfold stL
  cases hb : a.pos != 3 with
  | false => exact h
  | true =>
    have hp : a.pos ≠ 3 := by simpa using hb
    rw [cond_true]
    have g := h.good.write a.pos (fillV a.byte 128) hk
    rcases writeV_cases d a.pos (fillV a.byte 128) with ⟨e, _⟩ | ⟨hi, hz, ⟨_, e⟩ | ⟨_, e⟩⟩
    · unfold wr; rw [e]; exact h
    · unfold wr; rw [e]; exact ⟨h.good.fu _, h.S, h.W⟩
    · unfold wr at *
      rw [e] at g ⊢
      refine ⟨g, h.S, fun j hj => ?_⟩
      have hj : j < d.k + 1 := hj
      show (pushW d.W d.k (a.pos, fillV a.byte 128) j).1.toNat ≠ 3
      by_cases he : j = d.k
      · subst he
        rw [pushW_at]
        show a.pos.toNat ≠ 3
        omega
      · rw [pushW_lt _ (by omega)]
        exact h.W j (by omega)
theorem At3.all {s : ByteArray} (f : Nat → Ac) : ∀ (c i : Nat) (d : D), At3 s d → d.k + c ≤ 4294967296 → At3 s (allW stL f c i d)
  | 0, _, _, h, _ => h
  | c + 1, i, d, h, hk => by
    have := stL_k d (f i)
    exact At3.all f c (i + 1) _ (h.st _ (by omega)) (by omega)
theorem lastF_ne {L : Nat → Int × ByteArray} {x : Nat} : ∀ {c i : Nat} {S : Nat → ByteArray}, (∀ j, i ≤ j → j < i + c → (L j).1.toNat ≠ x) → lastF L c i S x = S x
  | 0, _, _, _ => rfl
  | c + 1, i, S, h => by
    have h0 := h i (by omega) (by omega)
    show lastF L c (i + 1) (setS S (L i).1.toNat (L i).2) x = S x
    rw [lastF_ne fun j h1 h2 => h j (by omega) (by omega), setS_ne _ _ (Ne.symm h0)]
theorem tornS_ne {d : D} {torn : Int} {m : Nat} {L : Nat → Int × ByteArray} {x : Nat} (h : ∀ j, j < m → (L j).1.toNat ≠ x) : tornS d torn m L x = d.S x := by
  unfold tornS
  cases m with
  | zero => rfl
  | succ m =>
    show setS (lastF L m 0 d.S) (L m).1.toNat _ x = _
    rw [setS_ne _ _ (Ne.symm (h m (by omega))), lastF_ne fun j _ hj => h j (by omega)]
theorem At3.crash {s : ByteArray} {d : D} (h : At3 s d) (keep torn : Int) : readV (crashV d keep torn) 3 = (s, 0) := by
  have g := h.good.crash keep torn
  have hi : isV (crashV d keep torn) 3 = true := isV_spec.2 ⟨by omega, by have := g.n; omega⟩
  rw [read_k hi (crash_k ..)]
  have e : (crashV d keep torn).S (3 : Int).toNat = s := by
    rw [crash_S, tornS_ne]
    · exact h.S
    · intro j hj
      obtain ⟨t, h1, h2⟩ := kept_mem d.W keep d.k j hj
      rw [h2]
      exact h.W t h1
  rw [e]
theorem rho1_ok {w : World} {l : Sx.Loc} {es : Nat} {c : Content} {X : Outs} (hb : BlkR (outer w X) (fun b => if b = 0 then some l else none) l (.ro es c) w) (b : Nat) (sb : SB) (h : ([SB.ro es c].map some)[b]? = some (some sb)) :
    sb.own = false ∧ ∃ l', (fun b => if b = 0 then some l else none : Rho) b = some l' ∧ BlkR (outer w X) (fun b => if b = 0 then some l else none) l' sb w := by
  match b, h with
  | 0, h =>
    have : SB.ro es c = sb := by simpa using h
    subst this
    exact ⟨rfl, l, rfl, hb⟩
  | b + 1, h => simp at h
theorem DiskLasts (b : Int) (N : Nat) (f : Nat → Ac) (keep : Int) (_ : (Lit.int .u8 b).wf = true) (_ : ∀ i, i < N → wfAc (f i)) (_ : (Lit.int .u64 keep).wf = true) (w : World)
    (v : Value) (l : Sx.Loc) (hs : SlcR l 0 N v) (hb : BlkR (outer w fun _ _ => False) (fun b => if b = 0 then some l else none) l (row N f) w) :
    Calls Try.prog 3 #[.int .u8 b, v, .int .u64 keep] w fun e w' => e = .returned (.bool true) ∧ RowKit.Below w.heap.size w w' := by
  refine law_callsL okSL mixed Try.func3 (c := bodyOf Try.f3) (by kernel_rfl) lawK_spec (L := [(0, LpL)]) (fuel := 20) (args := [.c (.int .u8 b), .c (.slc 0 0 N), .c (.int .u64 keep)]) (hp0 := [row N f]) (X := fun _ _ => False) (ρ := fun b => if b = 0 then some l else none) (vs := [.int .u8 b, v, .int .u64 keep]) (loopsOk_ix 1 (by kernel_rfl) ⟨trivial, loopOk_here (n := 0) (by kernel_rfl) rfl loopL⟩) ?_ ⟨rfl, ⟨l, rfl, hs⟩, rfl, trivial⟩ (rho1_ok hb) (fun b hb => if_neg (by have : 1 ≤ b := hb; omega))
  rw [t_DiskLasts]
  by_cases hN : (N : Int) > 100
  · rw [decide_eq_true hN]; rfl
  rw [decide_eq_false hN, cond_false]
  have g0 : Good l0 := Good.new 128 8 _
  have k0 : l0.k = 0 := rfl
  have g1 : Good (l1 b) := g0.write _ _ (by rw [k0]; omega)
  have h2 : At3 (fillV b 128) (l2 b) := by
    refine ⟨g1.flush, ?_, ?_⟩
    · rw [l2_eq]; exact setS_at l0.S 3 _
    · rw [l2_eq]; intro j hj; exact absurd hj (Nat.not_lt_zero j)
  have k2 : (l2 b).k = 0 := by rw [l2_eq]
  have h3 : At3 (fillV b 128) (allW stL f N 0 (l2 b)) := h2.all f N 0 _ (by rw [k2]; omega)
  refine chain_step (okD_self _) ?_
  refine chain_step (okD_self _) ?_
  refine chain_step g1.preW ?_
  refine chain_step ?_ ?_
  · unfold chkL
    simp only [Bool.and_eq_true, decide_eq_true_eq]
    refine ⟨by omega, trivial, Nat.beq_refl _, Nat.beq_refl _, chkRo_true backAc _, ?_⟩
    have e : okD (l2 b).n (l2 b).k (l2 b) (fun j => encS ((l2 b).S j)) (fun j => encW ((l2 b).W j)) = true := okD_self (l2 b)
    have en : (l2 b).n = 8 := by rw [l2_eq, l1_eq']; rfl
    rw [en, k2] at e
    exact e
  refine chain_step ?_ ?_
  · unfold okL
    simp only [Bool.and_eq_true, decide_eq_true_eq]
    exact ⟨by omega, by omega, by rw [k2]; omega⟩
  show cond (goA (fun _ => false) nxL N (p0 b keep N f)).1 none (tailL (goA (fun _ => false) nxL N (p0 b keep N f)).2) = _
  rw [goA_L]
  show tailL ⟨b, keep, N, f, allW stL f N 0 (l2 b), 0 + N⟩ = _
  have hr := h3.crash keep (N : Int)
  unfold tailL cr
  dsimp only
  refine chain_step (okD_self _) ?_
  refine chain_step (gB_spec.2 h3.good) ?_
  refine chain_step (okD_self _) ?_
  refine chain_step (h3.good.crash keep N).preW ?_
  rw [hr]
  refine chain_step rfl ?_
  exact chain_step (beq_self_eq_true _) rfl
end Go.Proofs.Ytkkacjmjjhjpeaa.Dk

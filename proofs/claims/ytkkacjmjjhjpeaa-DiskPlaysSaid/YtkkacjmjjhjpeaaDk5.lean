/- A disk: Read, New. No condition. -/
import Derived.Test.YtkkacjmjjhjpeaaDk4
set_option maxRecDepth 100000
set_option linter.unusedSimpArgs false
set_option linter.unusedVariables false
namespace Go.Proofs.Ytkkacjmjjhjpeaa.Dk
open Go Go.Proofs.Ytkkacjmjjhjpeaa.Sx
theorem lastF_snoc (W : Nat → Int × ByteArray) : ∀ (c i : Nat) (S : Nat → ByteArray), lastF W (c + 1) i S = setS (lastF W c i S) (W (i + c)).1.toNat (W (i + c)).2
  | 0, i, S => rfl
  | c + 1, i, S => by
    show lastF W (c + 1) (i + 1) (setS S _ _) = _
    rw [lastF_snoc W c (i + 1)]
    show _ = setS (lastF W c (i + 1) (setS S _ _)) _ _
    rw [show i + 1 + c = i + (c + 1) by omega]
theorem setS_at (S : Nat → ByteArray) (i : Nat) (b : ByteArray) : setS S i b i = b := by unfold setS; rw [Nat.beq_refl]; rfl
theorem setS_ne (S : Nat → ByteArray) {i j : Nat} (b : ByteArray) (h : j ≠ i) : setS S i b j = S j := by
  unfold setS
  rw [show Nat.beq j i = false from Bool.eq_false_iff.2 fun hh => h (Nat.eq_of_beq_eq_true hh)]; rfl
@[reducible] noncomputable def wrK (d : D) : Int := IntKind.i64.wrap ((d.k : Int) - 1)
@[reducible] noncomputable def gaR (d : D) (i : Int) : Bool × LR := goA brkR nxR (wrK d + 1).toNat (d, i, (wrK d + 1).toNat)
theorem t_read {R : Type} (d : D) (i : Int) (K : TV → List (Option SB) → Option R) : runFnN Try.prog S1 [(0, LpR)] 10 2 Try.f15 (bodyOf Try.f15) [.c (.ptr 0 0), i64 i] (hpD d) K =
    bif okD d.n d.k d (fun j => encS (d.S j)) (fun j => encW (d.W j)) then bif !isV d i then K (.tup [stv ⟨#[]⟩, i64 1]) ((hpD d).map some) else
      bif chkR (i, wrK d, d.n, d.k, d, (fun j => encS (d.S j)), fun j => encW (d.W j)) then bif okR (d, i, (wrK d + 1).toNat) then
        bif (gaR d i).1 then K (.tup [stv ((gaR d i).2.1.W ((gaR d i).2.2.2 - 1)).2, i64 0]) ((hpD (gaR d i).2.1).map some) else
          bif decide (0 ≤ (gaR d i).2.2.1) && decide ((gaR d i).2.2.1 < ((gaR d i).2.1.n : Int)) then bif decide (addI 0 (gaR d i).2.2.1.toNat < (gaR d i).2.1.n) then
            K (.tup [stv ((gaR d i).2.1.S (addI 0 (gaR d i).2.2.1.toNat)), i64 0]) ((hpD (gaR d i).2.1).map some) else none else none
      else none else none else none := by kernel_rfl
theorem goA_read (d : D) (i : Nat) : ∀ (c : Nat), (∀ j, j < c → 0 ≤ (d.W j).1) → (goA brkR nxR c (d, (i : Int), c)).2.1 = d ∧ (goA brkR nxR c (d, (i : Int), c)).2.2.1 = (i : Int) ∧
    (bif (goA brkR nxR c (d, (i : Int), c)).1 then (d.W ((goA brkR nxR c (d, (i : Int), c)).2.2.2 - 1)).2 else d.S i) = lastF d.W c 0 d.S i
  | 0, _ => ⟨rfl, rfl, rfl⟩
  | c + 1, h => by
    have hc := h c (by omega)
    have e : goA brkR nxR (c + 1) (d, (i : Int), c + 1) = cond ((d.W c).1 == (i : Int)) (true, (d, (i : Int), c + 1)) (goA brkR nxR c (d, (i : Int), c)) := rfl
    rw [e, lastF_snoc, Nat.zero_add]
    cases hb : (d.W c).1 == (i : Int) with
    | true =>
      have hb := eq_of_beq hb
      refine ⟨rfl, rfl, ?_⟩
      rw [hb, Int.toNat_natCast, setS_at]
      rfl
    | false =>
      have hb := ne_of_beq_false hb
      obtain ⟨h1, h2, h3⟩ := goA_read d i c (fun j hj => h j (by omega))
      refine ⟨h1, h2, h3.trans ?_⟩
      rw [setS_ne]
      omega
noncomputable def readV (d : D) (i : Int) : ByteArray × Int := bif isV d i then (lastF d.W d.k 0 d.S i.toNat, 0) else (⟨#[]⟩, 1)
noncomputable def V_read : List SV → D → Cs
  | [.c (.ptr 0 0), .c (.int .i64 i)], d => .br (preW d.W d.k d.n) (oD (.tup [stv (readV d i).1, i64 (readV d i).2]) d) .no
  | _, _ => .no
theorem okChain3 {R : Type} {a b c : Bool} {x y z : Option R} (ha : a = true) (hb : b = true) (h : (bif c then x else y) = z) : (bif a then bif b then bif c then x else y else none else none) = z := by
  subst ha hb; exact h
theorem ok_read : SumOk Try.prog 15 (genSumN (gD V_read)) := by
  refine okN okS1 Try.func15 (c := bodyOf Try.f15) (by kernel_rfl) (by kernel_rfl) ?_
  intro args d x h
  unfold V_read at h
  split at h
  · rename_i i
    cases hk : preW d.W d.k d.n with
    | false => rw [hk] at h; cases h
    | true =>
      rw [hk] at h
      cases h
      refine ⟨rfl, [(0, LpR)], 10, loopsOk_ix 1 (by kernel_rfl) ⟨trivial, loopOk_here (n := 0) (by kernel_rfl) rfl loopR⟩, (t_read ..).trans ?_⟩
      rw [okD_self, cond_true]
      unfold readV
      cases hi : isV d i with
      | false => rfl
      | true =>
        unfold preW at hk
        simp only [Bool.and_eq_true] at hk
        obtain ⟨k1, k2⟩ := hk
        have k1 := of_decide_eq_true k1
        have k2 := okWs_spec.1 k2
        have hw : wrK d = (d.k : Int) - 1 := wi (by omega)
        have hi' : 0 ≤ i ∧ i < d.n := by
          unfold isV at hi
          cases hg : decide (i ≥ 0) with
          | false => rw [hg] at hi; cases hi
          | true => rw [hg] at hi; exact ⟨of_decide_eq_true hg, of_decide_eq_true hi⟩
        have hc : (wrK d + 1).toNat = d.k := by omega
        obtain ⟨i, rfl⟩ := Int.eq_ofNat_of_zero_le hi'.1
        obtain ⟨g1, g2, g3⟩ := goA_read d i d.k fun j hj => (k2 j hj).1
        have e : gaR d (i : Int) = goA brkR nxR d.k (d, (i : Int), d.k) := by unfold gaR; rw [hc]
        refine okChain3 (by
          unfold chkR
          simp only [Bool.and_eq_true, decide_eq_true_eq]
          exact ⟨by omega, okD_self d⟩) (by
          unfold okR
          simp only [Bool.and_eq_true, decide_eq_true_eq]
          exact ⟨by omega, k1⟩) ?_
        rw [e, g1, g2, ai0, Int.toNat_natCast, decide_eq_true hi'.1, decide_eq_true hi'.2, decide_eq_true (show i < d.n by omega)]
        simp only [Bool.and_self, cond_true, Int.toNat_natCast]
        rw [← g3]
        cases (goA brkR nxR d.k (d, (i : Int), d.k)).1 <;> rfl
  · cases h
/-! ### New -/
@[reducible] def LN := D × Nat
@[reducible] def cDN (d : D) : SB := .cells [.int .i64 d.size, .slc 2 0 d.n, .slc 3 0 d.k, .ptr 0 0]
@[reducible] def encN (d : D) (i j : Int) : St := ⟨[(7, .s (.c (.ptr 1 0))), (26, .s (i64 i)), (27, .s (i64 j))], [some (cF d.fu), some (cDN d), some (vS d.n d.S), some (vW d.k d.W)], 4, 43⟩
def finN (p : LN) : St := ⟨[(7, .s (.c (.ptr 1 0)))], [some (cF p.1.fu), some (cDN p.1), some (vS p.1.n p.1.S), some (vW p.1.k p.1.W)], 4, 43⟩
theorem roundN {R : Type} (d : D) (i j : Int) (K : Ex → St → Option R) : roundK Try.prog S1 [] 10 1 (resMask Try.f10.results.toList) (lpAt Try.f10 0) (encN d i j) K =
    bif decide (j < i) then bif decide (0 ≤ d.size) && (decide (d.size ≤ 4096) && true) then bif decide (0 ≤ j) && decide (j < (d.n : Int)) then bif decide (addI 0 j.toNat < d.n) then
      K .normal ⟨[(7, .s (.c (.ptr 1 0))), (26, .s (i64 i)), (27, .s (i64 (IntKind.i64.wrap (j + 1))))], [some (cF d.fu), some (cDN d), some (.vec 1 [] (.gen d.n (setG (fun j => encS (d.S j)) (addI 0 j.toNat) 0 (SV.c (CV.str (repB ⟨#[0]⟩ d.size.toNat))).cells))), some (vW d.k d.W)], 4, 43⟩
      else none else none else none else K (.exit 0) (finN (d, 0)) := by kernel_rfl
@[reducible] def PN := Int × Int × Nat × Nat × D × (Nat → List CV) × (Nat → List CV)
def decN : St → Option PN
  | ⟨[(7, .s (.c (.ptr 1 0))), (26, .s (.c (.int .i64 i))), (27, .s (.c (.int .i64 j)))], [some (.cells [.int .i64 l, .bool b, .int .i64 c]), some (.cells [.int .i64 z, .slc 2 0 n', .slc 3 0 k', .ptr 0 0]), some (.vec 1 [] (.gen n gS)), some (.vec 2 [] (.gen k gW))], 4, 43⟩ => some (i, j, n', k', ⟨z, n, fun j => decS (gS j), k, fun j => decW (gW j), ⟨l, b, c⟩⟩, gS, gW)
  | _ => none
noncomputable def chkN (p : PN) : Bool := match p with
  | (i, j, n', k', d, gS, gW) => decide (0 ≤ j) && (decide (i = d.n) && okD n' k' d gS gW)
def normN (p : PN) : LN := match p with
  | (i, j, _, _, d, _, _) => (d, j.toNat)
theorem decN_spec (st : St) (p : PN) (h : decN st = some p) (hc : chkN p = true) : st = encN (normN p).1 (normN p).1.n ((normN p).2 : Nat) := by
  unfold decN at h
  split at h
  · rename_i i j l b c z n' k' n gS k gW
    cases h
    unfold chkN at hc
    simp only [Bool.and_eq_true, decide_eq_true_eq] at hc
    obtain ⟨c0, c1, c2⟩ := hc
    obtain ⟨e1, e2, e3, e4⟩ := okD_parts c2
    simp only at e1 e2
    subst e1 e2 c1
    simp only [normN, Int.toNat_of_nonneg c0]
    show _ = St.mk _ [_, _, some (SB.vec 1 [] (.gen _ fun j => encS (decS (gS j)))), some (SB.vec 2 [] (.gen _ fun j => encW (decW (gW j))))] _ _
    rw [← e3, ← e4]
  · cases h
noncomputable def okNn (p : LN) : Bool := decide (p.2 ≤ p.1.n) && (decide (p.1.n ≤ 4294967296) && (decide (0 ≤ p.1.size) && decide (p.1.size ≤ 4096)))
noncomputable def nxN (p : LN) : LN := (wS p.1 (setS p.1.S p.2 (repB ⟨#[0]⟩ p.1.size.toNat)), p.2 + 1)
@[reducible] noncomputable def LpN : LoopSum := formSumC decN chkN normN (goSum okNn (fun p => p.1.n - p.2) (fun _ => false) nxN (.exit 9) finN (.exit 0) finN)
theorem loopN : LoopOk Try.prog S1 [] 10 1 (resMask Try.f10.results.toList) (lpAt Try.f10 0) LpN := by
  refine LoopOk.go (enc := fun p : LN => encN p.1 p.1.n (p.2 : Nat)) decN_spec (by simp) (by simp) ?_ ?_ ?_
  · intro R p K _ _ h; cases h
  · rintro R ⟨d, i⟩ c K h1 h2 _
    unfold okNn at h1
    simp only [Bool.and_eq_true, decide_eq_true_eq] at h1 h2
    obtain ⟨c1, c2, c3, c4⟩ := h1
    refine ⟨?_, ?_, ?_⟩
    · show roundK _ _ _ _ _ _ _ (encN d d.n i) K = _
      rw [roundN, decide_eq_true (show (i : Int) < d.n by omega), decide_eq_true c3, decide_eq_true c4, decide_eq_true (show (0 : Int) ≤ i by omega)]
      simp only [Int.toNat_natCast, ai0, Bool.and_self, cond_true]
      rw [decide_eq_true (show i < d.n by omega), setG_encS, wi (x := (i : Int) + 1) (by omega)]
      rfl
    · unfold okNn nxN wS
      simp only [Bool.and_eq_true, decide_eq_true_eq]
      exact ⟨by omega, c2, c3, c4⟩
    · show d.n - (i + 1) = c
      omega
  · rintro R ⟨d, i⟩ K h1 h2
    have h2 : d.n - i = 0 := h2
    show roundK _ _ _ _ _ _ _ (encN d d.n i) K = _
    rw [roundN, decide_eq_false (by omega)]
    rfl
end Go.Proofs.Ytkkacjmjjhjpeaa.Dk

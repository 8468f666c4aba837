/- A disk: is, last. No condition. -/
import Derived.Test.YtkkacjmjjhjpeaaDk2
set_option maxRecDepth 100000
set_option linter.unusedSimpArgs false
set_option linter.unusedVariables false
namespace Go.Proofs.Ytkkacjmjjhjpeaa.Dk
open Go Go.Proofs.Ytkkacjmjjhjpeaa.Sx
theorem ai0 (i : Nat) : addI 0 i = i := by rw [addI_eq]; omega
noncomputable def isV (d : D) (i : Int) : Bool := bif decide (i ≥ 0) then decide (i < d.n) else false
noncomputable def V_is : List SV → D → Cs
  | [.c (.ptr 0 0), .c (.int .i64 i)], d => oD (.s (bl (isV d i))) d
  | _, _ => .no
theorem t_is {R : Type} (d : D) (i : Int) (K : TV → List (Option SB) → Option R) : runFnN Try.prog S0 [] 10 2 Try.f29 (bodyOf Try.f29) [.c (.ptr 0 0), i64 i] (hpD d) K =
    bif decide (i ≥ 0) then K (.s (bl (decide (i < d.n)))) ((hpD d).map some) else K (.s (bl false)) ((hpD d).map some) := by kernel_rfl
theorem ok_is : SumOk Try.prog 29 (genSumN (gD V_is)) := by
  refine okN okS0 Try.func29 (c := bodyOf Try.f29) (by kernel_rfl) (by kernel_rfl) ?_
  intro args d x h
  unfold V_is at h
  split at h
  · rename_i i
    cases h
    refine ⟨rfl, [], 10, LoopsOk.nil, (t_is ..).trans ?_⟩
    unfold isV
    cases decide (i ≥ 0) <;> rfl
  · cases h
/-! ### A sector is set -/
def setS (S : Nat → ByteArray) (i : Nat) (b : ByteArray) : Nat → ByteArray := fun j => bif Nat.beq j i then b else S j
theorem setG_encS (S : Nat → ByteArray) (i : Nat) (b : ByteArray) : setG (fun j => encS (S j)) i 0 (SV.c (CV.str b)).cells = fun j => encS (setS S i b j) := by
  funext j
  unfold setG setS
  cases Nat.beq j i <;> rfl
noncomputable def okWs (W : Nat → Int × ByteArray) (m n : Nat) : Bool := @decide (∀ j, j < m → 0 ≤ (W j).1 ∧ (W j).1 < n) (Classical.propDecidable _)
theorem okWs_spec {W : Nat → Int × ByteArray} {m n : Nat} : okWs W m n = true ↔ ∀ j, j < m → 0 ≤ (W j).1 ∧ (W j).1 < n := by
  unfold okWs
  rw [@decide_eq_true_eq _ (Classical.propDecidable _)]
/-- Writes i, i + 1 .., so many of them, last. -/
def lastF (W : Nat → Int × ByteArray) : Nat → Nat → (Nat → ByteArray) → (Nat → ByteArray)
  | 0, _, S => S
  | c + 1, i, S => lastF W c (i + 1) (setS S (W i).1.toNat (W i).2)
@[reducible] def wS (d : D) (S : Nat → ByteArray) : D := ⟨d.size, d.n, S, d.k, d.W, d.fu⟩
/-! ### last: of the writes that aren't flushed -/
@[reducible] def LA := D × Nat
@[reducible] def encA (d : D) (i : Int) : St := ⟨[(0, .s (.c (.ptr 0 0))), (6, .s (.c (.slc 3 0 d.k))), (7, .s (i64 d.k)), (8, .s (i64 i))], [some (cD d), some (cF d.fu), some (vS d.n d.S), some (vW d.k d.W)], 4, 25⟩
@[reducible] def finA (d : D) : St := ⟨[(0, .s (.c (.ptr 0 0)))], [some (cD d), some (cF d.fu), some (vS d.n d.S), some (vW d.k d.W)], 4, 25⟩
theorem roundA {R : Type} (d : D) (i : Int) (K : Ex → St → Option R) : roundK Try.prog S0 [] 10 2 (resMask Try.f31.results.toList) (lpAt Try.f31 0) (encA d i) K =
    bif decide (i < d.k) then bif decide (0 ≤ i) && decide (i < (d.k : Int)) then bif decide (addI 0 i.toNat < d.k) then bif decide (0 ≤ (d.W (addI 0 i.toNat)).1) && decide ((d.W (addI 0 i.toNat)).1 < (d.n : Int)) then bif decide (addI 0 (d.W (addI 0 i.toNat)).1.toNat < d.n) then
      K .normal ⟨[(0, .s (.c (.ptr 0 0))), (6, .s (.c (.slc 3 0 d.k))), (7, .s (i64 d.k)), (8, .s (i64 (IntKind.i64.wrap (i + 1))))], [some (cD d), some (cF d.fu), some (.vec 1 [] (.gen d.n (setG (fun j => encS (d.S j)) (addI 0 (d.W (addI 0 i.toNat)).1.toNat) 0 (SV.c (CV.str (d.W (addI 0 i.toNat)).2)).cells))), some (vW d.k d.W)], 4, 25⟩
      else none else none else none else none else K (.exit 0) (finA d) := by kernel_rfl
theorem okChain {R : Type} {a b c d : Bool} {x y : Option R} (ha : a = true) (hb : b = true) (hc : c = true) (hd : d = true) (h : x = y) : (bif a then bif b then bif c then bif d then x else none else none else none else none) = y := by
  subst ha hb hc hd h; rfl
theorem okChain5 {R : Type} {e a b c d : Bool} {x y z : Option R} (he : e = true) (ha : a = true) (hb : b = true) (hc : c = true) (hd : d = true) (h : x = y) : (bif e then bif a then bif b then bif c then bif d then x else none else none else none else none else z) = y := by
  subst he ha hb hc hd h; rfl
theorem roundA1 {R : Type} (d : D) (i : Nat) (h : i < d.k) (hk : d.k ≤ 4294967296) (h1 : 0 ≤ (d.W i).1 ∧ (d.W i).1 < d.n) (K : Ex → St → Option R) : roundK Try.prog S0 [] 10 2 (resMask Try.f31.results.toList) (lpAt Try.f31 0) (encA d i) K =
    K .normal (encA (wS d (setS d.S (d.W i).1.toNat (d.W i).2)) ((i + 1 : Nat) : Int)) := by
  rw [roundA]
  simp only [Int.toNat_natCast, ai0]
  refine okChain5 (decide_eq_true (by omega)) (by rw [Bool.and_eq_true]; exact ⟨decide_eq_true (by omega), decide_eq_true (by omega)⟩) (decide_eq_true h) (by rw [Bool.and_eq_true]; exact ⟨decide_eq_true h1.1, decide_eq_true h1.2⟩) (decide_eq_true (by omega)) ?_
  rw [setG_encS, wi (x := (i : Int) + 1) (by omega)]
  rfl
theorem okD_parts {n' k' : Nat} {d : D} {gS gW : Nat → List CV} (hc : okD n' k' d gS gW = true) : n' = d.n ∧ k' = d.k ∧ gS = (fun j => encS (decS (gS j))) ∧ gW = fun j => encW (decW (gW j)) := by
  unfold okD at hc
  simp only [Bool.and_eq_true] at hc
  obtain ⟨h1, h2, h3, h4⟩ := hc
  exact ⟨Nat.eq_of_beq_eq_true h1, Nat.eq_of_beq_eq_true h2, chkRo_spec h3, chkRo_spec h4⟩
@[reducible] def PA := Int × Int × Nat × Nat × Nat × D × (Nat → List CV) × (Nat → List CV)
def decA : St → Option PA
  | ⟨[(0, .s (.c (.ptr 0 0))), (6, .s (.c (.slc 3 0 kk))), (7, .s (.c (.int .i64 m))), (8, .s (.c (.int .i64 i)))], [some (.cells [.int .i64 z, .slc 2 0 n', .slc 3 0 k', .ptr 1 0]), some (.cells [.int .i64 l, .bool b, .int .i64 c]), some (.vec 1 [] (.gen n gS)), some (.vec 2 [] (.gen k gW))], 4, 25⟩ => some (i, m, n', k', kk, ⟨z, n, fun j => decS (gS j), k, fun j => decW (gW j), ⟨l, b, c⟩⟩, gS, gW)
  | _ => none
noncomputable def chkA (p : PA) : Bool := match p with
  | (i, m, n', k', kk, d, gS, gW) => decide (0 ≤ i) && (decide (m = d.k) && (Nat.beq kk d.k && okD n' k' d gS gW))
def normA (p : PA) : LA := match p with
  | (i, _, _, _, _, d, _, _) => (d, i.toNat)
theorem decA_spec (st : St) (p : PA) (h : decA st = some p) (hc : chkA p = true) : st = encA (normA p).1 ((normA p).2 : Nat) := by
  unfold decA at h
  split at h
  · rename_i kk m i z n' k' l b c n gS k gW
    cases h
    unfold chkA at hc
    simp only [Bool.and_eq_true, decide_eq_true_eq] at hc
    obtain ⟨c0, c1, c3, c2⟩ := hc
    obtain ⟨e1, e2, e3, e4⟩ := okD_parts c2
    have c3 := Nat.eq_of_beq_eq_true c3
    simp only at e1 e2
    subst e1 e2 c1 c3
    simp only [normA, Int.toNat_of_nonneg c0]
    show _ = St.mk _ [_, _, some (SB.vec 1 [] (.gen _ fun j => encS (decS (gS j)))), some (SB.vec 2 [] (.gen _ fun j => encW (decW (gW j))))] _ _
    rw [← e3, ← e4]
  · cases h
noncomputable def okA (p : LA) : Bool := decide (p.2 ≤ p.1.k) && (decide (p.1.k ≤ 4294967296) && okWs p.1.W p.1.k p.1.n)
def nxA (p : LA) : LA := (wS p.1 (setS p.1.S (p.1.W p.2).1.toNat (p.1.W p.2).2), p.2 + 1)
@[reducible] noncomputable def LpA : LoopSum := formSumC decA chkA normA (goSum okA (fun p => p.1.k - p.2) (fun _ => false) nxA (.exit 9) (fun p => finA p.1) (.exit 0) (fun p => finA p.1))
theorem loopA : LoopOk Try.prog S0 [] 10 2 (resMask Try.f31.results.toList) (lpAt Try.f31 0) LpA := by
  refine LoopOk.go (enc := fun p : LA => encA p.1 (p.2 : Nat)) decA_spec (by simp) (by simp) ?_ ?_ ?_
  · intro R p K _ _ h; cases h
  · rintro R ⟨d, i⟩ c K h1 h2 _
    unfold okA at h1
    simp only [Bool.and_eq_true, decide_eq_true_eq] at h1 h2
    obtain ⟨c1, c2, c3⟩ := h1
    refine ⟨roundA1 d i (by omega) c2 (okWs_spec.1 c3 i (by omega)) K, ?_, ?_⟩
    · unfold okA nxA wS
      simp only [Bool.and_eq_true, decide_eq_true_eq]
      exact ⟨by omega, c2, c3⟩
    · show d.k - (i + 1) = c
      omega
  · rintro R ⟨d, i⟩ K h1 h2
    have h2 : d.k - i = 0 := h2
    show roundK _ _ _ _ _ _ _ (encA d i) K = _
    rw [roundA, decide_eq_false (by omega)]
    rfl
theorem goA_last : ∀ (c i : Nat) (d : D), goA (fun _ => false) nxA c (d, i) = (false, (wS d (lastF d.W c i d.S), i + c))
  | 0, i, d => rfl
  | c + 1, i, d => by
    show goA _ nxA c (wS d _, i + 1) = _
    rw [goA_last c (i + 1)]
    simp only [lastF]
    congr 2
    omega
/-! ### last: of other writes: the first q of m -/
@[reducible] def LB := (D × (Nat → Int × ByteArray) × Nat × Nat) × Nat
@[reducible] def encB (d : D) (L : Nat → Int × ByteArray) (m q : Nat) (i : Int) : St := ⟨[(0, .s (.c (.ptr 0 0))), (6, .s (.c (.slc 4 0 q))), (7, .s (i64 q)), (8, .s (i64 i))], [some (cD d), some (cF d.fu), some (vS d.n d.S), some (vW d.k d.W), some (vW m L)], 5, 25⟩
theorem roundB {R : Type} (d : D) (L : Nat → Int × ByteArray) (m q : Nat) (i : Int) (K : Ex → St → Option R) : roundK Try.prog S0 [] 10 2 (resMask Try.f31.results.toList) (lpAt Try.f31 0) (encB d L m q i) K =
    bif decide (i < q) then bif decide (0 ≤ i) && decide (i < (q : Int)) then bif decide (addI 0 i.toNat < m) then bif decide (0 ≤ (L (addI 0 i.toNat)).1) && decide ((L (addI 0 i.toNat)).1 < (d.n : Int)) then bif decide (addI 0 (L (addI 0 i.toNat)).1.toNat < d.n) then
      K .normal ⟨[(0, .s (.c (.ptr 0 0))), (6, .s (.c (.slc 4 0 q))), (7, .s (i64 q)), (8, .s (i64 (IntKind.i64.wrap (i + 1))))], [some (cD d), some (cF d.fu), some (.vec 1 [] (.gen d.n (setG (fun j => encS (d.S j)) (addI 0 (L (addI 0 i.toNat)).1.toNat) 0 (SV.c (CV.str (L (addI 0 i.toNat)).2)).cells))), some (vW d.k d.W), some (vW m L)], 5, 25⟩
      else none else none else none else none else K (.exit 0) (finA d) := by kernel_rfl
theorem roundB1 {R : Type} (d : D) (L : Nat → Int × ByteArray) (m q : Nat) (i : Nat) (hq : q ≤ m) (h : i < q) (hk : q ≤ 4294967296) (h1 : 0 ≤ (L i).1 ∧ (L i).1 < d.n) (K : Ex → St → Option R) : roundK Try.prog S0 [] 10 2 (resMask Try.f31.results.toList) (lpAt Try.f31 0) (encB d L m q i) K =
    K .normal (encB (wS d (setS d.S (L i).1.toNat (L i).2)) L m q ((i + 1 : Nat) : Int)) := by
  rw [roundB]
  simp only [Int.toNat_natCast, ai0]
  refine okChain5 (decide_eq_true (by omega)) (by rw [Bool.and_eq_true]; exact ⟨decide_eq_true (by omega), decide_eq_true (by omega)⟩) (decide_eq_true (by omega)) (by rw [Bool.and_eq_true]; exact ⟨decide_eq_true h1.1, decide_eq_true h1.2⟩) (decide_eq_true (by omega)) ?_
  rw [setG_encS, wi (x := (i : Int) + 1) (by omega)]
  rfl
@[reducible] def PB := Int × Int × Nat × Nat × Nat × D × Nat × (Nat → List CV) × (Nat → List CV) × (Nat → List CV)
def decB : St → Option PB
  | ⟨[(0, .s (.c (.ptr 0 0))), (6, .s (.c (.slc 4 0 q))), (7, .s (.c (.int .i64 m))), (8, .s (.c (.int .i64 i)))], [some (.cells [.int .i64 z, .slc 2 0 n', .slc 3 0 k', .ptr 1 0]), some (.cells [.int .i64 l, .bool b, .int .i64 c]), some (.vec 1 [] (.gen n gS)), some (.vec 2 [] (.gen k gW)), some (.vec 2 [] (.gen mm gL))], 5, 25⟩ => some (i, m, n', k', q, ⟨z, n, fun j => decS (gS j), k, fun j => decW (gW j), ⟨l, b, c⟩⟩, mm, gS, gW, gL)
  | _ => none
noncomputable def chkB (p : PB) : Bool := match p with
  | (i, m, n', k', q, d, mm, gS, gW, gL) => decide (0 ≤ i) && (decide (m = q) && (Nat.ble q mm && (chkRo encW decW gL && okD n' k' d gS gW)))
def normB (p : PB) : LB := match p with
  | (i, _, _, _, q, d, mm, _, _, gL) => ((d, (fun j => decW (gL j)), mm, q), i.toNat)
theorem decB_spec (st : St) (p : PB) (h : decB st = some p) (hc : chkB p = true) : st = encB (normB p).1.1 (normB p).1.2.1 (normB p).1.2.2.1 (normB p).1.2.2.2 ((normB p).2 : Nat) := by
  unfold decB at h
  split at h
  · rename_i q m i z n' k' l b c n gS k gW mm gL
    cases h
    unfold chkB at hc
    simp only [Bool.and_eq_true, decide_eq_true_eq] at hc
    obtain ⟨c0, c1, c3, c4, c2⟩ := hc
    obtain ⟨e1, e2, e3, e4⟩ := okD_parts c2
    have c4 := chkRo_spec c4
    simp only at e1 e2
    subst e1 e2 c1
    simp only [normB, Int.toNat_of_nonneg c0]
    show _ = St.mk _ [_, _, some (SB.vec 1 [] (.gen _ fun j => encS (decS (gS j)))), some (SB.vec 2 [] (.gen _ fun j => encW (decW (gW j)))), some (SB.vec 2 [] (.gen _ fun j => encW (decW (gL j))))] _ _
    rw [← e3, ← e4, ← c4]
  · cases h
noncomputable def okB (p : LB) : Bool := decide (p.2 ≤ p.1.2.2.2) && (decide (p.1.2.2.2 ≤ p.1.2.2.1) && (decide (p.1.2.2.2 ≤ 4294967296) && okWs p.1.2.1 p.1.2.2.2 p.1.1.n))
def nxB (p : LB) : LB := ((wS p.1.1 (setS p.1.1.S (p.1.2.1 p.2).1.toNat (p.1.2.1 p.2).2), p.1.2), p.2 + 1)
@[reducible] noncomputable def LpB : LoopSum := formSumC decB chkB normB (goSum okB (fun p => p.1.2.2.2 - p.2) (fun _ => false) nxB (.exit 9) (fun p => finA p.1.1) (.exit 0) (fun p => finA p.1.1))
theorem loopB : LoopOk Try.prog S0 [] 10 2 (resMask Try.f31.results.toList) (lpAt Try.f31 0) LpB := by
  refine LoopOk.go (enc := fun p : LB => encB p.1.1 p.1.2.1 p.1.2.2.1 p.1.2.2.2 (p.2 : Nat)) decB_spec (by simp) (by simp) ?_ ?_ ?_
  · intro R p K _ _ h; cases h
  · rintro R ⟨⟨d, L, m, q⟩, i⟩ c K h1 h2 _
    unfold okB at h1
    simp only [Bool.and_eq_true, decide_eq_true_eq] at h1 h2
    obtain ⟨c1, c0, c2, c3⟩ := h1
    refine ⟨roundB1 d L m q i c0 (by omega) c2 (okWs_spec.1 c3 i (by omega)) K, ?_, ?_⟩
    · unfold okB nxB wS
      simp only [Bool.and_eq_true, decide_eq_true_eq]
      exact ⟨by omega, c0, c2, c3⟩
    · show q - (i + 1) = c
      omega
  · rintro R ⟨⟨d, L, m, q⟩, i⟩ K h1 h2
    have h2 : q - i = 0 := h2
    show roundK _ _ _ _ _ _ _ (encB d L m q i) K = _
    rw [roundB, decide_eq_false (by omega)]
    rfl
theorem goB_last (L : Nat → Int × ByteArray) (m q : Nat) : ∀ (c i : Nat) (d : D), goA (fun _ => false) nxB c ((d, L, m, q), i) = (false, ((wS d (lastF L c i d.S), L, m, q), i + c))
  | 0, i, d => rfl
  | c + 1, i, d => by
    show goA _ nxB c ((wS d _, L, m, q), i + 1) = _
    rw [goB_last L m q c (i + 1)]
    simp only [lastF]
    congr 2
    omega
/-! ### last -/
@[reducible] def nilW (d : D) (S : Nat → ByteArray) : D := ⟨d.size, d.n, S, 0, fun _ => (0, ByteArray.empty), d.fu⟩
@[reducible] def hpDA (d : D) : List SB := [.cells [.int .i64 d.size, .slc 3 0 d.n, .slc 2 0 d.k, .ptr 1 0], cF d.fu, vW d.k d.W, vS d.n d.S]
theorem t_lastA {R : Type} (d : D) (K : TV → List (Option SB) → Option R) : runFnN Try.prog S0 [(0, LpA)] 10 2 Try.f31 (bodyOf Try.f31) [.c (.ptr 0 0), .c (.slc 2 0 d.k)] (hpDA d) K =
    bif chkA (0, d.k, d.n, d.k, d.k, ⟨d.size, d.n, d.S, d.k, d.W, d.fu⟩, (fun j => encS (d.S j)), fun j => encW (d.W j)) then bif okA (d, 0) then bif (goA (fun _ => false) nxA (d.k - 0) (d, 0)).1 then none else K (.tup []) [some (cDn (goA (fun _ => false) nxA (d.k - 0) (d, 0)).2.1), some (cF (goA (fun _ => false) nxA (d.k - 0) (d, 0)).2.1.fu), some (vS (goA (fun _ => false) nxA (d.k - 0) (d, 0)).2.1.n (goA (fun _ => false) nxA (d.k - 0) (d, 0)).2.1.S)] else none else none := by kernel_rfl
@[reducible] def hpDL (d : D) (m : Nat) (L : Nat → Int × ByteArray) : List SB := [.cells [.int .i64 d.size, .slc 3 0 d.n, .slc 4 0 d.k, .ptr 1 0], cF d.fu, vW m L, vS d.n d.S, vW d.k d.W]
theorem t_lastB {R : Type} (d : D) (m q : Nat) (L : Nat → Int × ByteArray) (K : TV → List (Option SB) → Option R) : runFnN Try.prog S0 [(0, LpB)] 10 2 Try.f31 (bodyOf Try.f31) [.c (.ptr 0 0), .c (.slc 2 0 q)] (hpDL d m L) K =
    bif chkB (0, q, d.n, d.k, q, ⟨d.size, d.n, d.S, d.k, d.W, d.fu⟩, m, (fun j => encS (d.S j)), (fun j => encW (d.W j)), fun j => encW (L j)) then bif okB ((d, L, m, q), 0) then bif (goA (fun _ => false) nxB (q - 0) ((d, L, m, q), 0)).1 then none else K (.tup []) [some (cDn (goA (fun _ => false) nxB (q - 0) ((d, L, m, q), 0)).2.1.1), some (cF (goA (fun _ => false) nxB (q - 0) ((d, L, m, q), 0)).2.1.1.fu), some (vS (goA (fun _ => false) nxB (q - 0) ((d, L, m, q), 0)).2.1.1.n (goA (fun _ => false) nxB (q - 0) ((d, L, m, q), 0)).2.1.1.S)] else none else none := by kernel_rfl
theorem chkA_self (d : D) (i : Nat) : chkA (i, d.k, d.n, d.k, d.k, ⟨d.size, d.n, d.S, d.k, d.W, d.fu⟩, (fun j => encS (d.S j)), fun j => encW (d.W j)) = true := by
  unfold chkA
  simp only [Bool.and_eq_true, decide_eq_true_eq]
  exact ⟨by omega, trivial, Nat.beq_refl _, okD_self d⟩
theorem chkB_self (d : D) (L : Nat → Int × ByteArray) (m q : Nat) (hq : q ≤ m) (i : Nat) : chkB (i, q, d.n, d.k, q, ⟨d.size, d.n, d.S, d.k, d.W, d.fu⟩, m, (fun j => encS (d.S j)), (fun j => encW (d.W j)), fun j => encW (L j)) = true := by
  unfold chkB
  simp only [Bool.and_eq_true, decide_eq_true_eq]
  exact ⟨by omega, trivial, Nat.ble_eq ▸ hq, chkRo_true (dec := decW) (enc := encW) (fun _ => rfl) _, okD_self d⟩
theorem okG {R : Type} {a b c : Bool} {x y : Option R} (ha : a = true) (hb : b = true) (hc : c = false) (h : x = y) : (bif a then bif b then bif c then none else x else none else none) = y := by
  subst ha hb hc h; rfl
/-- May these writes last? -/
noncomputable def preW (W : Nat → Int × ByteArray) (m n : Nat) : Bool := decide (m ≤ 4294967296) && okWs W m n
def decDL : List SB → Option (Nat × Nat × D × Nat × (Nat → List CV) × (Nat → List CV) × (Nat → List CV))
  | [.cells [.int .i64 z, .slc 3 0 n', .slc 4 0 k', .ptr 1 0], .cells [.int .i64 l, .bool b, .int .i64 c], .vec 2 [] (.gen m gL), .vec 1 [] (.gen n gS), .vec 2 [] (.gen k gW)] => some (n', k', ⟨z, n, fun j => decS (gS j), k, fun j => decW (gW j), ⟨l, b, c⟩⟩, m, gL, gS, gW)
  | _ => none
theorem decDL_spec {hp : List SB} {n' k' m : Nat} {d : D} {gL gS gW : Nat → List CV} (h : decDL hp = some (n', k', d, m, gL, gS, gW)) (hc : okD n' k' d gS gW = true) (hl : chkRo encW decW gL = true) : hp = hpDL d m fun j => decW (gL j) := by
  obtain ⟨e1, e2, e3, e4⟩ := okD_parts hc
  have e5 := chkRo_spec hl
  unfold decDL at h
  split at h
  · cases h
    simp only at e1 e2
    subst e1 e2
    show _ = [SB.cells _, SB.cells _, SB.vec 2 [] (.gen _ fun j => encW (decW (gL j))), SB.vec 1 [] (.gen _ fun j => encS (decS (gS j))), SB.vec 2 [] (.gen _ fun j => encW (decW (gW j)))]
    rw [← e3, ← e4, ← e5]
  · cases h
def decDA : List SB → Option (Nat × Nat × D × (Nat → List CV) × (Nat → List CV))
  | [.cells [.int .i64 z, .slc 3 0 n', .slc 2 0 k', .ptr 1 0], .cells [.int .i64 l, .bool b, .int .i64 c], .vec 2 [] (.gen k gW), .vec 1 [] (.gen n gS)] => some (n', k', ⟨z, n, fun j => decS (gS j), k, fun j => decW (gW j), ⟨l, b, c⟩⟩, gS, gW)
  | _ => none
theorem decDA_spec {hp : List SB} {n' k' : Nat} {d : D} {gS gW : Nat → List CV} (h : decDA hp = some (n', k', d, gS, gW)) (hc : okD n' k' d gS gW = true) : hp = hpDA d := by
  obtain ⟨e1, e2, e3, e4⟩ := okD_parts hc
  unfold decDA at h
  split at h
  · cases h
    simp only at e1 e2
    subst e1 e2
    show _ = [SB.cells _, SB.cells _, SB.vec 2 [] (.gen _ fun j => encW (decW (gW j))), SB.vec 1 [] (.gen _ fun j => encS (decS (gS j)))]
    rw [← e3, ← e4]
  · cases h
noncomputable def g_last : List SV → List SB → Cs
  | [.c (.ptr 0 0), .c (.slc 2 0 kk)], [a, b, c, e] => match decDA [a, b, c, e] with
    | some (n', k', d, gS, gW) => .br (Nat.beq kk d.k && (okD n' k' d gS gW && preW d.W d.k d.n)) (oDn (.tup []) (nilW d (lastF d.W d.k 0 d.S))) .no
    | none => .no
  | [.c (.ptr 0 0), .c (.slc 2 0 mm)], hp => match decDL hp with
    | some (n', k', d, m, gL, gS, gW) => .br (Nat.ble mm m && (okD n' k' d gS gW && (chkRo encW decW gL && preW (fun j => decW (gL j)) mm d.n))) (oDn (.tup []) (nilW d (lastF (fun j => decW (gL j)) mm 0 d.S))) .no
    | none => .no
  | _, _ => .no
theorem ok_last0 : SumOk Try.prog 31 (genSumN g_last) := by
  refine sumOk_genN okS0 mixed Try.func31 (c := bodyOf Try.f31) (by kernel_rfl) (by kernel_rfl) ?_
  intro args hp x h
  unfold g_last at h ⊢
  split at h
  · rename_i kk a b c e
    cases hd : decDA [a, b, c, e] with
    | none => rw [hd] at h; cases h
    | some p =>
      obtain ⟨n', k', d, gS, gW⟩ := p
      rw [hd] at h
      simp only [Cs.pick] at h ⊢
      cases hc : Nat.beq kk d.k && (okD n' k' d gS gW && preW d.W d.k d.n) with
      | false => rw [hc] at h; cases h
      | true =>
        rw [hc] at h
        cases h
        simp only [Bool.and_eq_true] at hc
        obtain ⟨c1, c2, c3⟩ := hc
        have c1 := Nat.eq_of_beq_eq_true c1
        subst c1
        rw [decDA_spec hd c2]
        refine ⟨[(0, LpA)], 10, loopsOk_ix 1 (by kernel_rfl) ⟨trivial, loopOk_here (n := 0) (by kernel_rfl) rfl loopA⟩, (t_lastA ..).trans ?_⟩
        unfold preW at c3
        simp only [Bool.and_eq_true] at c3
        refine okG (chkA_self d 0) (by unfold okA; simp only [Bool.and_eq_true, decide_eq_true_eq]; exact ⟨by omega, of_decide_eq_true c3.1, c3.2⟩) (by rw [goA_last]) ?_
        rw [goA_last]
        rfl
  · rename_i mm _
    cases hd : decDL hp with
    | none => rw [hd] at h; cases h
    | some p =>
      obtain ⟨n', k', d, m, gL, gS, gW⟩ := p
      rw [hd] at h
      simp only [Cs.pick] at h ⊢
      cases hc : Nat.ble mm m && (okD n' k' d gS gW && (chkRo encW decW gL && preW (fun j => decW (gL j)) mm d.n)) with
      | false => rw [hc] at h; cases h
      | true =>
        rw [hc] at h
        cases h
        simp only [Bool.and_eq_true] at hc
        obtain ⟨c1, c2, c4, c3⟩ := hc
        have c1 : mm ≤ m := Nat.ble_eq ▸ c1
        rw [decDL_spec hd c2 c4]
        refine ⟨[(0, LpB)], 10, loopsOk_ix 1 (by kernel_rfl) ⟨trivial, loopOk_here (n := 0) (by kernel_rfl) rfl loopB⟩, (t_lastB ..).trans ?_⟩
        unfold preW at c3
        simp only [Bool.and_eq_true] at c3
        refine okG (chkB_self d _ m mm c1 0) (by unfold okB; simp only [Bool.and_eq_true, decide_eq_true_eq]; exact ⟨by omega, c1, of_decide_eq_true c3.1, c3.2⟩) (by rw [goB_last]) ?_
        rw [goB_last]
        rfl
  · cases h
theorem ok_last : SumOk Try.prog 31 (denilWS (genSumN g_last)) := sumOk_denilW ok_last0
end Go.Proofs.Ytkkacjmjjhjpeaa.Dk

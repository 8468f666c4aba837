/- A disk: Write, Flush, Open, Size, Len, Read. No condition. -/
import Derived.Test.YtkkacjmjjhjpeaaDk3
set_option maxRecDepth 100000
set_option linter.unusedSimpArgs false
set_option linter.unusedVariables false
namespace Go.Proofs.Ytkkacjmjjhjpeaa.Dk
open Go Go.Proofs.Ytkkacjmjjhjpeaa.Sx
@[reducible] noncomputable def S1 : Sums := (29, genSumN (gD V_is)) :: (31, denilWS (genSumN g_last)) :: (30, ptrVal encF decF g_spend) :: (32, ptrVal encF decF g_reset) :: (28, libSum g_rep) :: S0
theorem okS1 : SumsOk Try.prog S1 := ((((okS0.cons ok_rep).cons ok_reset).cons ok_spend).cons ok_last).cons ok_is
def pushW (W : Nat → Int × ByteArray) (k : Nat) (w : Int × ByteArray) : Nat → Int × ByteArray := fun j => bif Nat.blt j k then W j else bif Nat.beq (j - k) 0 then w else (0, ⟨#[]⟩)
@[reducible] def lit1 (i : Int) (b : ByteArray) : Nat → List CV := litZ 2 [CV.int .i64 0, CV.str ⟨#[]⟩] (setRange (repN 1 2 [CV.int .i64 0, CV.str ⟨#[]⟩]) 0 (SV.agg [CV.int .i64 i, CV.str b]).cells)
theorem lit1_eq (i : Int) (b : ByteArray) : lit1 i b = fun j => encW (bif Nat.beq j 0 then (i, b) else (0, ⟨#[]⟩)) := by
  funext j
  cases j with
  | zero => rfl
  | succ j =>
    show rowZ 2 [CV.int .i64 0, CV.str ⟨#[]⟩] [] j = _
    cases j <;> rfl
theorem catG_encW (W : Nat → Int × ByteArray) (k : Nat) (i : Int) (b : ByteArray) : catG (fun j => encW (W j)) (lit1 i b) k = fun j => encW (pushW W k (i, b) j) := by
  funext j
  rw [lit1_eq]
  cases k with
  | zero => rfl
  | succ k =>
    show cond (Nat.blt j (k + 1)) (encW (W j)) (encW (bif Nat.beq (j - (k + 1)) 0 then (i, b) else (0, ⟨#[]⟩))) = encW (bif Nat.blt j (k + 1) then W j else bif Nat.beq (j - (k + 1)) 0 then (i, b) else (0, ⟨#[]⟩))
    cases Nat.blt j (k + 1) <;> rfl
@[reducible] def wF (d : D) (f : F) : D := ⟨d.size, d.n, d.S, d.k, d.W, f⟩
@[reducible] def addW (d : D) (w : Int × ByteArray) : D := ⟨d.size, d.n, d.S, d.k + 1, pushW d.W d.k w, d.fu⟩
noncomputable def writeV (d : D) (i : Int) (b : ByteArray) : Int × D :=
  bif !isV d i then (1, d) else bif (b.size : Int) != d.size then (1, d) else bif !(spendV d.fu).1 then (2, wF d (spendV d.fu).2) else (0, addW (wF d (spendV d.fu).2) (i, b))
theorem t_write {R : Type} (d : D) (i : Int) (b : ByteArray) (K : TV → List (Option SB) → Option R) : runFnN Try.prog S1 [] 10 2 Try.f11 (bodyOf Try.f11) [.c (.ptr 0 0), i64 i, stv b] (hpD d) K =
    bif okD d.n d.k d (fun j => encS (d.S j)) (fun j => encW (d.W j)) then bif !isV d i then K (.s (i64 1)) ((hpD d).map some) else bif (b.size : Int) != d.size then K (.s (i64 1)) ((hpD d).map some) else bif !(spendV d.fu).1 then K (.s (i64 2)) ((hpD (wF d (spendV d.fu).2)).map some) else
      bif decide (d.k = addI 0 d.k) then bif decide (addI d.k 1 ≤ 4294967296) then K (.s (i64 0)) [some (.cells [.int .i64 d.size, .slc 2 0 d.n, .slc 3 0 (addI d.k 1), .ptr 1 0]), some (cF (spendV d.fu).2), some (vS d.n d.S), some (.vec 2 [] (.gen (addI d.k 1) (catG (fun j => encW (d.W j)) (lit1 i b) d.k)))] else none else none else none := by kernel_rfl
noncomputable def V_write : List SV → D → Cs
  | [.c (.ptr 0 0), .c (.int .i64 i), .c (.str b)], d => .br (decide (d.k + 1 ≤ 4294967296)) (oD (.s (i64 (writeV d i b).1)) (writeV d i b).2) .no
  | _, _ => .no
theorem ok_write : SumOk Try.prog 11 (genSumN (gD V_write)) := by
  refine okN okS1 Try.func11 (c := bodyOf Try.f11) (by kernel_rfl) (by kernel_rfl) ?_
  intro args d x h
  unfold V_write at h
  split at h
  · rename_i i b
    cases hk : decide (d.k + 1 ≤ 4294967296) with
    | false => rw [hk] at h; cases h
    | true =>
      rw [hk] at h
      cases h
      refine ⟨rfl, [], 10, LoopsOk.nil, (t_write ..).trans ?_⟩
      rw [okD_self, cond_true]
      unfold writeV
      cases !isV d i with
      | true => rfl
      | false =>
        cases (b.size : Int) != d.size with
        | true => rfl
        | false =>
          cases !(spendV d.fu).1 with
          | true => rfl
          | false =>
            have hk := of_decide_eq_true hk
            have e1 : addI d.k 1 = d.k + 1 := addI_eq _ _
            rw [catG_encW, e1, decide_eq_true (show d.k = addI 0 d.k from (ai0 _).symm), decide_eq_true hk]
            rfl
  · cases h
/-! ### Flush -/
noncomputable def flushV (d : D) : Int × D := bif !(spendV d.fu).1 then (2, wF d (spendV d.fu).2) else (0, nilW (wF d (spendV d.fu).2) (lastF d.W d.k 0 d.S))
theorem t_flush {R : Type} (d : D) (K : TV → List (Option SB) → Option R) : runFnN Try.prog S1 [] 10 2 Try.f13 (bodyOf Try.f13) [.c (.ptr 0 0)] (hpD d) K =
    bif !(spendV d.fu).1 then K (.s (i64 2)) ((hpD (wF d (spendV d.fu).2)).map some) else
      bif Nat.beq d.k d.k && (okD d.n d.k (wF d (spendV d.fu).2) (fun j => encS (d.S j)) (fun j => encW (d.W j)) && preW d.W d.k d.n) then K (.s (i64 0)) ((hpD (nilW (wF d (spendV d.fu).2) (lastF d.W d.k 0 d.S))).map some) else none := by kernel_rfl
noncomputable def V_flush : List SV → D → Cs
  | [.c (.ptr 0 0)], d => .br (preW d.W d.k d.n) (oD (.s (i64 (flushV d).1)) (flushV d).2) .no
  | _, _ => .no
theorem ok_flush : SumOk Try.prog 13 (genSumN (gD V_flush)) := by
  refine okN okS1 Try.func13 (c := bodyOf Try.f13) (by kernel_rfl) (by kernel_rfl) ?_
  intro args d x h
  unfold V_flush at h
  split at h
  · cases hk : preW d.W d.k d.n with
    | false => rw [hk] at h; cases h
    | true =>
      rw [hk] at h
      cases h
      refine ⟨rfl, [], 10, LoopsOk.nil, (t_flush ..).trans ?_⟩
      unfold flushV
      cases !(spendV d.fu).1 with
      | true => rfl
      | false =>
        rw [Nat.beq_refl, show okD d.n d.k (wF d (spendV d.fu).2) (fun j => encS (d.S j)) (fun j => encW (d.W j)) = true from okD_self (wF d (spendV d.fu).2), hk]
        rfl
  · cases h
/-! ### Open, Size, Len -/
noncomputable def V_num (f : D → Int) : List SV → D → Cs
  | [.c (.ptr 0 0)], d => oD (.s (i64 (f d))) d
  | _, _ => .no
theorem t_open {R : Type} (d : D) (K : TV → List (Option SB) → Option R) : runFnN Try.prog S1 [] 10 2 Try.f16 (bodyOf Try.f16) [.c (.ptr 0 0)] (hpD d) K = K (.s (i64 (d.k : Int))) ((hpD d).map some) := by kernel_rfl
theorem ok_open : SumOk Try.prog 16 (genSumN (gD (V_num fun d => d.k))) := by
  refine okN okS1 Try.func16 (c := bodyOf Try.f16) (by kernel_rfl) (by kernel_rfl) ?_
  intro args d x h
  unfold V_num at h
  split at h
  · cases h; exact ⟨rfl, [], 10, LoopsOk.nil, t_open ..⟩
  · cases h
theorem t_size {R : Type} (d : D) (K : TV → List (Option SB) → Option R) : runFnN Try.prog S1 [] 10 2 Try.f20 (bodyOf Try.f20) [.c (.ptr 0 0)] (hpD d) K = K (.s (i64 d.size)) ((hpD d).map some) := by kernel_rfl
theorem ok_size : SumOk Try.prog 20 (genSumN (gD (V_num fun d => d.size))) := by
  refine okN okS1 Try.func20 (c := bodyOf Try.f20) (by kernel_rfl) (by kernel_rfl) ?_
  intro args d x h
  unfold V_num at h
  split at h
  · cases h; exact ⟨rfl, [], 10, LoopsOk.nil, t_size ..⟩
  · cases h
theorem t_len {R : Type} (d : D) (K : TV → List (Option SB) → Option R) : runFnN Try.prog S1 [] 10 2 Try.f21 (bodyOf Try.f21) [.c (.ptr 0 0)] (hpD d) K = K (.s (i64 (d.n : Int))) ((hpD d).map some) := by kernel_rfl
theorem ok_len : SumOk Try.prog 21 (genSumN (gD (V_num fun d => d.n))) := by
  refine okN okS1 Try.func21 (c := bodyOf Try.f21) (by kernel_rfl) (by kernel_rfl) ?_
  intro args d x h
  unfold V_num at h
  split at h
  · cases h; exact ⟨rfl, [], 10, LoopsOk.nil, t_len ..⟩
  · cases h
/-! ### Read -/
@[reducible] def LR := D × Int × Nat
@[reducible] def encR (p : LR) : St := ⟨[(0, .s (.c (.ptr 0 0))), (1, .s (i64 p.2.1)), (6, .s (i64 ((p.2.2 : Int) - 1)))], [some (cD p.1), some (cF p.1.fu), some (vS p.1.n p.1.S), some (vW p.1.k p.1.W)], 4, 46⟩
@[reducible] def encR0 (d : D) (i j : Int) : St := ⟨[(0, .s (.c (.ptr 0 0))), (1, .s (i64 i)), (6, .s (i64 j))], [some (cD d), some (cF d.fu), some (vS d.n d.S), some (vW d.k d.W)], 4, 46⟩
def outR (p : LR) : St := ⟨[(4, .s (stv (p.1.W (p.2.2 - 1)).2)), (5, .s (i64 0))], [some (cD p.1), some (cF p.1.fu), some (vS p.1.n p.1.S), some (vW p.1.k p.1.W)], 4, 46⟩
def finR (p : LR) : St := ⟨[(0, .s (.c (.ptr 0 0))), (1, .s (i64 p.2.1))], [some (cD p.1), some (cF p.1.fu), some (vS p.1.n p.1.S), some (vW p.1.k p.1.W)], 4, 46⟩
theorem roundR {R : Type} (d : D) (i j : Int) (K : Ex → St → Option R) : roundK Try.prog S1 [] 10 2 (resMask Try.f15.results.toList) (lpAt Try.f15 0) (encR0 d i j) K =
    bif decide (j ≥ 0) then bif decide (0 ≤ j) && decide (j < (d.k : Int)) then bif decide (addI 0 j.toNat < d.k) then bif (d.W (addI 0 j.toNat)).1 == i then bif decide (0 ≤ j) && decide (j < (d.k : Int)) then bif decide (addI 0 j.toNat < d.k) then
      K .ret ⟨[(4, .s (stv (d.W (addI 0 j.toNat)).2)), (5, .s (i64 0))], [some (cD d), some (cF d.fu), some (vS d.n d.S), some (vW d.k d.W)], 4, 46⟩ else none else none else
      K .normal (encR0 d i (IntKind.i64.wrap (j - 1))) else none else none else K (.exit 0) ⟨[(0, .s (.c (.ptr 0 0))), (1, .s (i64 i))], [some (cD d), some (cF d.fu), some (vS d.n d.S), some (vW d.k d.W)], 4, 46⟩ := by kernel_rfl
@[reducible] def PR := Int × Int × Nat × Nat × D × (Nat → List CV) × (Nat → List CV)
def decR : St → Option PR
  | ⟨[(0, .s (.c (.ptr 0 0))), (1, .s (.c (.int .i64 i))), (6, .s (.c (.int .i64 j)))], [some (.cells [.int .i64 z, .slc 2 0 n', .slc 3 0 k', .ptr 1 0]), some (.cells [.int .i64 l, .bool b, .int .i64 c]), some (.vec 1 [] (.gen n gS)), some (.vec 2 [] (.gen k gW))], 4, 46⟩ => some (i, j, n', k', ⟨z, n, fun j => decS (gS j), k, fun j => decW (gW j), ⟨l, b, c⟩⟩, gS, gW)
  | _ => none
noncomputable def chkR (p : PR) : Bool := match p with
  | (i, j, n', k', d, gS, gW) => decide (-1 ≤ j) && okD n' k' d gS gW
def normR (p : PR) : LR := match p with
  | (i, j, _, _, d, _, _) => (d, i, (j + 1).toNat)
theorem decR_spec (st : St) (p : PR) (h : decR st = some p) (hc : chkR p = true) : st = encR (normR p) := by
  unfold decR at h
  split at h
  · rename_i i j z n' k' l b c n gS k gW
    cases h
    unfold chkR at hc
    simp only [Bool.and_eq_true, decide_eq_true_eq] at hc
    obtain ⟨c0, c2⟩ := hc
    obtain ⟨e1, e2, e3, e4⟩ := okD_parts c2
    simp only at e1 e2
    subst e1 e2
    have e5 : (((j + 1).toNat : Nat) : Int) - 1 = j := by omega
    simp only [normR, encR, e5]
    show _ = St.mk _ [_, _, some (SB.vec 1 [] (.gen _ fun j => encS (decS (gS j)))), some (SB.vec 2 [] (.gen _ fun j => encW (decW (gW j))))] _ _
    rw [← e3, ← e4]
  · cases h
noncomputable def okR (p : LR) : Bool := decide (p.2.2 ≤ p.1.k) && decide (p.1.k ≤ 4294967296)
def brkR (p : LR) : Bool := (p.1.W (p.2.2 - 1)).1 == p.2.1
def nxR (p : LR) : LR := (p.1, p.2.1, p.2.2 - 1)
@[reducible] noncomputable def LpR : LoopSum := formSumC decR chkR normR (goSum okR (fun p => p.2.2) brkR nxR .ret outR (.exit 0) finR)
theorem loopR : LoopOk Try.prog S1 [] 10 2 (resMask Try.f15.results.toList) (lpAt Try.f15 0) LpR := by
  refine LoopOk.go (enc := encR) decR_spec (by simp) (by simp) ?_ ?_ ?_
  · rintro R ⟨d, i, c⟩ K h1 h2 h3
    unfold okR at h1
    simp only [Bool.and_eq_true, decide_eq_true_eq] at h1
    have h2 : c ≠ 0 := h2
    obtain ⟨c, rfl⟩ := Nat.exists_eq_succ_of_ne_zero h2
    show roundK _ _ _ _ _ _ _ (encR0 d i _) K = _
    rw [roundR]
    have e5 : (((c + 1 : Nat) : Nat) : Int) - 1 = (c : Nat) := by omega
    have h3 : ((d.W c).1 == i) = true := h3
    simp only [Nat.succ_eq_add_one, e5, Int.toNat_natCast, ai0, h3]
    rw [decide_eq_true (show ((c : Nat) : Int) ≥ 0 by omega), decide_eq_true (show ((c : Nat) : Int) < (d.k : Int) by omega), decide_eq_true (show c < d.k by omega)]
    rfl
  · rintro R ⟨d, i, c⟩ c' K h1 h2 h3
    have h1' := h1
    unfold okR at h1
    simp only [Bool.and_eq_true, decide_eq_true_eq] at h1
    have h2 : c = c' + 1 := h2
    subst h2
    have h3 : ((d.W c').1 == i) = false := h3
    refine ⟨?_, ?_, rfl⟩
    · show roundK _ _ _ _ _ _ _ (encR0 d i _) K = _
      rw [roundR]
      have e5 : (((c' + 1 : Nat) : Nat) : Int) - 1 = (c' : Nat) := by omega
      simp only [e5, Int.toNat_natCast, ai0, h3]
      rw [decide_eq_true (show ((c' : Nat) : Int) ≥ 0 by omega), decide_eq_true (show ((c' : Nat) : Int) < (d.k : Int) by omega), decide_eq_true (show c' < d.k by omega), wi (x := (c' : Int) - 1) (by omega)]
      rfl
    · unfold okR nxR
      simp only [Bool.and_eq_true, decide_eq_true_eq]
      exact ⟨by omega, h1.2⟩
  · rintro R ⟨d, i, c⟩ K h1 h2
    have h2 : c = 0 := h2
    subst h2
    show roundK _ _ _ _ _ _ _ (encR0 d i _) K = _
    rw [roundR, decide_eq_false (by omega)]
    rfl
end Go.Proofs.Ytkkacjmjjhjpeaa.Dk

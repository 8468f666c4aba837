/- What the methods of the reference's replicas come to. No condition. -/
import Derived.Test.YtpebebhjmnmcbaaFlLaw
import Derived.Test.YtpebebhjmnmcbaaSxE
set_option maxRecDepth 100000
set_option linter.unusedSimpArgs false
set_option linter.unusedVariables false
namespace Go.Proofs.Ytpebebhjmnmcbaa.Rep
open Go Go.Proofs.Ytpebebhjmnmcbaa.Sx
@[reducible] def encB1 (b : Bool) : List CV := [.bool b]
def decB1 : List CV → Bool
  | [.bool b] => b
  | _ => false
theorem backB1 (b : Bool) : decB1 (encB1 b) = b := rfl
@[reducible] def hpL (n : Nat) (g : Nat → List CV) : List SB := [.cells [.slc 1 0 n], .vec 1 [] (.gen n g)]
/-- Of a list the first K; false, where it ends. -/
def cutL (l : Nat → Bool) (n K : Nat) : Nat → Bool := fun j => decide (j < K) && (decide (j < n) && l j)
theorem cutL_zero (l : Nat → Bool) (n : Nat) : (fun j => encB1 (cutL l n 0 j)) = fun _ => encB1 false := by
  funext j
  simp [cutL]
theorem cutL_succ (l : Nat → Bool) (n m : Nat) : catG (subG (fun j => encB1 (cutL l n m j)) 0) (subG (litZ 1 [CV.bool false] [.bool (bif decide (m < n) then l m else false)]) 0) m = fun j => encB1 (cutL l n (m + 1) j) := by
  funext j
  by_cases h : j < m
  · rw [catG_lt h]
    show encB1 (cutL l n m j) = _
    unfold cutL
    rw [decide_eq_true h, decide_eq_true (show j < m + 1 by omega)]
  · rw [catG_ge (by omega)]
    show [CV.bool ([(bif decide (m < n) then l m else false)].getD (j - m) false)] = encB1 (cutL l n (m + 1) j)
    unfold cutL encB1
    by_cases h2 : j = m
    · subst h2
      rw [decide_eq_true (show j < j + 1 by omega)]
      cases decide (j < n) <;> simp
    · rw [decide_eq_false (show ¬ j < m + 1 by omega)]
      have : j - m = (j - m - 1) + 1 := by omega
      rw [this]
      simp
/-! ### Scale -/
@[reducible] def encRs (k : Int) (n m : Nat) (g : Nat → List CV) (z : Nat → List CV) (i : Int) : Sx.St := ⟨[(0, .s (.c (.ptr 0 0))), (1, .s (.c (.int .i64 k))), (4, .s (.c (.slc 2 0 m))), (5, .s (.c (.int .i64 i)))], [some (.cells [.slc 1 0 n]), some (.vec 1 [] (.gen n g)), some (.vec 1 [] (.gen m z))], 3, 40⟩
@[reducible] def finRs (n m : Nat) (g : Nat → List CV) (z : Nat → List CV) : Sx.St := ⟨[(0, .s (.c (.ptr 0 0))), (4, .s (.c (.slc 2 0 m)))], [some (.cells [.slc 1 0 n]), some (.vec 1 [] (.gen n g)), some (.vec 1 [] (.gen m z))], 3, 40⟩
@[reducible] def RsA := Int × Nat × (Nat → Bool) × Nat
def encR1 : RsA → Sx.St
  | (k, n, l, m) => encRs k n m (fun j => encB1 (l j)) (fun j => encB1 (cutL l n m j)) (m : Int)
@[reducible] def RsB := Int × Nat × Nat × (Nat → List CV) × (Nat → List CV)
def decR1 : Sx.St → Option RsB
  | ⟨[(0, .s (.c (.ptr 0 0))), (1, .s (.c (.int .i64 k))), (4, .s (.c (.slc 2 0 0))), (5, .s (.c (.int .i64 0)))], [some (.cells [.slc 1 0 n']), some (.vec 1 [] (.gen n g)), some (.vec 1 [] (.gen 0 z))], 3, 40⟩ => some (k, n, n', g, z)
  | _ => none
noncomputable def chkR1 : RsB → Bool
  | (_, n, n', g, z) => Nat.beq n n' && chkRo encB1 decB1 g && @decide (z = fun _ => encB1 false) (Classical.propDecidable _)
def normR1 : RsB → RsA
  | (k, n, _, g, _) => (k, n, fun j => decB1 (g j), 0)
theorem decR1_spec (st : Sx.St) (p : RsB) (h : decR1 st = some p) (hc : chkR1 p = true) : st = encR1 (normR1 p) := by
  unfold decR1 at h
  split at h
  · cases h
    simp only [chkR1, Bool.and_eq_true] at hc
    obtain ⟨⟨h1, h2⟩, h3⟩ := hc
    have h1 := Nat.eq_of_beq_eq_true h1
    have h3 := (@decide_eq_true_eq _ (Classical.propDecidable _)).mp h3
    subst h1 h3
    have g := chkRo_spec h2
    unfold normR1 encR1
    simp only
    rw [cutL_zero, ← g]
    rfl
  · cases h
theorem roundR1 {R : Type} (L : List (Nat × LoopSum)) (k : Int) (n m : Nat) (l : Nat → Bool) (z : Nat → List CV) (i : Int) (K : Ex → Sx.St → Option R) : roundK Try.prog S0 L 20 1 (resMask Try.f71.results.toList) (lpAt Try.f71 0) (encRs k n m (fun j => encB1 (l j)) z i) K =
    bif decide (i < k) then bif decide (i < 32) then bif decide (i < (n : Int)) then bif decide (0 ≤ i) && decide (i < (n : Int)) then bif decide (i.toNat < n) then bif decide (m = m) then bif decide (addI m 1 ≤ 4294967296) then
        K .normal (encRs k n (addI m 1) (fun j => encB1 (l j)) (catG (subG z 0) (subG (litZ 1 [CV.bool false] [.bool (l i.toNat)]) 0) m) (IntKind.i64.wrap (i + 1)))
      else none else none else none else none
      else bif decide (m = m) then bif decide (addI m 1 ≤ 4294967296) then K .normal (encRs k n (addI m 1) (fun j => encB1 (l j)) (catG (subG z 0) (subG (litZ 1 [CV.bool false] [.bool false]) 0) m) (IntKind.i64.wrap (i + 1))) else none else none
    else K (.exit 0) (finRs n m (fun j => encB1 (l j)) z) else K (.exit 0) (finRs n m (fun j => encB1 (l j)) z) := by kernel_rfl
noncomputable def tR1 (p : RsA) (R : Type) (K : Ex → Sx.St → Option R) : Option R := bif decide ((p.2.2.2 : Int) ≤ capN p.1) then K (.exit 0) (finRs p.2.1 (capN p.1).toNat (fun j => encB1 (p.2.2.1 j)) (fun j => encB1 (cutL p.2.2.1 p.2.1 (capN p.1).toNat j))) else none
@[reducible] noncomputable def LR1 : List (Nat × LoopSum) := [(0, formSumC decR1 chkR1 normR1 tR1)]
theorem capN_eq (n : Int) : capN n = if n < 0 then 0 else if n > 32 then 32 else n := by
  have a : foldMax n [0] = if 0 > n then 0 else n := rfl
  have b : ∀ x : Int, foldMin x [32] = if 32 < x then 32 else x := fun _ => rfl
  rw [show capN n = foldMin (foldMax n [0]) [32] from rfl, b, a]
  repeat' split
  all_goals omega
theorem okR1 : LoopOk Try.prog S0 LR1 20 1 (resMask Try.f71.results.toList) (lpAt Try.f71 0) (formSumC decR1 chkR1 normR1 tR1) := by
  refine LoopOk.ofC decR1_spec (fun p => 32 - p.2.2.2) ?_
  rintro ⟨k, n, l, m⟩ R K x h
  unfold tR1 at h
  simp only at h
  by_cases hm : (m : Int) ≤ capN k
  · rw [decide_eq_true hm, cond_true] at h
    have hc := capN_eq k
    by_cases hgo : (m : Int) < k ∧ (m : Int) < 32
    · left
      refine ⟨(k, n, l, m + 1), by simp only; omega, fun K' => ?_, ?_⟩
      · unfold encR1
        rw [roundR1, decide_eq_true hgo.1, decide_eq_true hgo.2, addI_eq, decide_eq_true (show m + 1 ≤ 4294967296 by omega), wi (x := (m : Int) + 1) (by omega)]
        simp only [cond_true, decide_true, Int.toNat_natCast]
        have e := cutL_succ l n m
        by_cases hn : m < n
        · rw [decide_eq_true (show (m : Int) < (n : Int) by omega), decide_eq_true hn, decide_eq_true (show (0 : Int) ≤ (m : Int) by omega)]
          rw [decide_eq_true hn] at e
          simp only [cond_true, Bool.and_self]
          simp only [cond_true] at e
          rw [e]
          rfl
        · rw [decide_eq_false (show ¬ (m : Int) < (n : Int) by omega)]
          rw [decide_eq_false hn] at e
          simp only [cond_false]
          simp only [cond_false] at e
          rw [e]
          rfl
      · unfold tR1
        simp only
        have h2 : ((m + 1 : Nat) : Int) ≤ capN k := by
          rw [hc]
          repeat' split
          all_goals omega
        rw [decide_eq_true h2]
        exact h
    · right
      have e : (capN k).toNat = m := by
        have : capN k = (m : Int) := by
          rw [hc] at hm ⊢
          revert hm
          repeat' split
          all_goals omega
        omega
      refine ⟨.exit 0, _, by simp, fun K' => ?_, h⟩
      unfold encR1
      rw [roundR1, e]
      by_cases h1 : (m : Int) < k
      · rw [decide_eq_true h1, decide_eq_false (show ¬ (m : Int) < 32 by omega)]; rfl
      · rw [decide_eq_false h1]; rfl
  · rw [decide_eq_false hm] at h
    cases h
theorem loopsR1 : LoopsOk Try.prog S0 LR1 20 1 (resMask Try.f71.results.toList) (loopsOf (resMask Try.f71.results.toList) (bodyOf Try.f71) [] (resMask Try.f71.results.toList)) :=
  loopsOk_ix 1 (by kernel_rfl) ⟨trivial, loopOk_here (n := 0) (by kernel_rfl) rfl okR1⟩
theorem t_rscale {R : Type} (n : Nat) (g : Nat → List CV) (k : Int) (K : TV → List (Option SB) → Option R) : runFnN Try.prog S0 LR1 20 1 Try.f71 (bodyOf Try.f71) [.c (.ptr 0 0), i64 k] (hpL n g) K =
    bif Nat.beq n n && chkRo encB1 decB1 g && @decide ((fun _ => encB1 false) = fun (_ : Nat) => encB1 false) (Classical.propDecidable _) then bif decide (((0 : Nat) : Int) ≤ capN k) then
      K (.tup []) [some (.cells [.slc 1 0 (capN k).toNat]), some (.vec 1 [] (.gen (capN k).toNat fun j => encB1 (cutL (fun j => decB1 (g j)) n (capN k).toNat j)))] else none else none := by kernel_rfl
/-! The same, of no list at all. -/
@[reducible] def nilG : Nat → List CV := fun _ => [.int .i64 0]
def encR0 : Int × Nat → Sx.St
  | (k, m) => encRs k 0 m nilG (fun j => encB1 (cutL (fun _ => false) 0 m j)) (m : Int)
@[reducible] def RsB0 := Int × (Nat → List CV) × (Nat → List CV)
def decR0 : Sx.St → Option RsB0
  | ⟨[(0, .s (.c (.ptr 0 0))), (1, .s (.c (.int .i64 k))), (4, .s (.c (.slc 2 0 0))), (5, .s (.c (.int .i64 0)))], [some (.cells [.slc 1 0 0]), some (.vec 1 [] (.gen 0 g)), some (.vec 1 [] (.gen 0 z))], 3, 40⟩ => some (k, g, z)
  | _ => none
noncomputable def chkR0 : RsB0 → Bool
  | (_, g, z) => @decide (g = nilG) (Classical.propDecidable _) && @decide (z = fun _ => encB1 false) (Classical.propDecidable _)
def normR0 : RsB0 → Int × Nat
  | (k, _, _) => (k, 0)
theorem decR0_spec (st : Sx.St) (p : RsB0) (h : decR0 st = some p) (hc : chkR0 p = true) : st = encR0 (normR0 p) := by
  unfold decR0 at h
  split at h
  · cases h
    simp only [chkR0, Bool.and_eq_true] at hc
    obtain ⟨h2, h3⟩ := hc
    have h2 := (@decide_eq_true_eq _ (Classical.propDecidable _)).mp h2
    have h3 := (@decide_eq_true_eq _ (Classical.propDecidable _)).mp h3
    subst h2 h3
    unfold normR0 encR0
    simp only
    rw [cutL_zero]
    rfl
  · cases h
theorem roundR0 {R : Type} (L : List (Nat × LoopSum)) (k : Int) (m : Nat) (z : Nat → List CV) (i : Int) (K : Ex → Sx.St → Option R) : roundK Try.prog S0 L 20 1 (resMask Try.f71.results.toList) (lpAt Try.f71 0) (encRs k 0 m nilG z i) K =
    bif decide (i < k) then bif decide (i < 32) then bif decide (i < 0) then bif decide (0 ≤ i) && decide (i < 0) then none else none
      else bif decide (m = m) then bif decide (addI m 1 ≤ 4294967296) then K .normal (encRs k 0 (addI m 1) nilG (catG (subG z 0) (subG (litZ 1 [CV.bool false] [.bool false]) 0) m) (IntKind.i64.wrap (i + 1))) else none else none
    else K (.exit 0) (finRs 0 m nilG z) else K (.exit 0) (finRs 0 m nilG z) := by kernel_rfl
noncomputable def tR0 (p : Int × Nat) (R : Type) (K : Ex → Sx.St → Option R) : Option R := bif decide ((p.2 : Int) ≤ capN p.1) then K (.exit 0) (finRs 0 (capN p.1).toNat nilG (fun j => encB1 (cutL (fun _ => false) 0 (capN p.1).toNat j))) else none
@[reducible] noncomputable def LR0 : List (Nat × LoopSum) := [(0, formSumC decR0 chkR0 normR0 tR0)]
theorem okR0 : LoopOk Try.prog S0 LR0 20 1 (resMask Try.f71.results.toList) (lpAt Try.f71 0) (formSumC decR0 chkR0 normR0 tR0) := by
  refine LoopOk.ofC decR0_spec (fun p => 32 - p.2) ?_
  rintro ⟨k, m⟩ R K x h
  unfold tR0 at h
  simp only at h
  by_cases hm : (m : Int) ≤ capN k
  · rw [decide_eq_true hm, cond_true] at h
    have hc := capN_eq k
    by_cases hgo : (m : Int) < k ∧ (m : Int) < 32
    · left
      refine ⟨(k, m + 1), by simp only; omega, fun K' => ?_, ?_⟩
      · unfold encR0
        rw [roundR0, decide_eq_true hgo.1, decide_eq_true hgo.2, decide_eq_false (show ¬ (m : Int) < 0 by omega), addI_eq, decide_eq_true (show m + 1 ≤ 4294967296 by omega), wi (x := (m : Int) + 1) (by omega)]
        have e := cutL_succ (fun _ => false) 0 m
        rw [show (bif decide (m < 0) then (fun _ : Nat => false) m else false) = false by cases decide (m < 0) <;> rfl] at e
        simp only [cond_true, cond_false, decide_true]
        rw [e]
        rfl
      · unfold tR0
        simp only
        have h2 : ((m + 1 : Nat) : Int) ≤ capN k := by
          rw [hc]
          repeat' split
          all_goals omega
        rw [decide_eq_true h2]
        exact h
    · right
      have e : (capN k).toNat = m := by
        have : capN k = (m : Int) := by
          rw [hc] at hm ⊢
          revert hm
          repeat' split
          all_goals omega
        omega
      refine ⟨.exit 0, _, by simp, fun K' => ?_, h⟩
      unfold encR0
      rw [roundR0, e]
      by_cases h1 : (m : Int) < k
      · rw [decide_eq_true h1, decide_eq_false (show ¬ (m : Int) < 32 by omega)]; rfl
      · rw [decide_eq_false h1]; rfl
  · rw [decide_eq_false hm] at h
    cases h
theorem loopsR0 : LoopsOk Try.prog S0 LR0 20 1 (resMask Try.f71.results.toList) (loopsOf (resMask Try.f71.results.toList) (bodyOf Try.f71) [] (resMask Try.f71.results.toList)) :=
  loopsOk_ix 1 (by kernel_rfl) ⟨trivial, loopOk_here (n := 0) (by kernel_rfl) rfl okR0⟩
theorem t_rscale0 {R : Type} (k : Int) (K : TV → List (Option SB) → Option R) : runFnN Try.prog S0 LR0 20 1 Try.f71 (bodyOf Try.f71) [.c (.ptr 0 0), i64 k] [.cells [.nils]] K =
    bif @decide (nilG = nilG) (Classical.propDecidable _) && @decide ((fun _ => encB1 false) = fun (_ : Nat) => encB1 false) (Classical.propDecidable _) then bif decide (((0 : Nat) : Int) ≤ capN k) then
      K (.tup []) [some (.cells [.slc 1 0 (capN k).toNat]), some (.vec 1 [] (.gen (capN k).toNat fun j => encB1 (cutL (fun _ => false) 0 (capN k).toNat j)))] else none else none := by kernel_rfl
def decR : List SB → Option (Nat × Nat × (Nat → List CV))
  | [.cells [.slc 1 0 m], .vec 1 [] (.gen n g)] => some (m, n, g)
  | _ => none
theorem decR_spec {hp : List SB} {m n : Nat} {g : Nat → List CV} (h : decR hp = some (m, n, g)) : hp = [.cells [.slc 1 0 m], .vec 1 [] (.gen n g)] := by
  unfold decR at h; split at h <;> cases h; rfl
noncomputable def chkL (m n : Nat) (g : Nat → List CV) : Bool := Nat.beq m n && (chkRo encB1 decB1 g && decide (n ≤ 4294967296))
theorem chkL_spec {m n : Nat} {g : Nat → List CV} (h : chkL m n g = true) : m = n ∧ g = (fun j => encB1 (decB1 (g j))) ∧ n ≤ 4294967296 := by
  simp only [chkL, Bool.and_eq_true, decide_eq_true_eq] at h
  exact ⟨Nat.eq_of_beq_eq_true h.1, chkRo_spec h.2.1, h.2.2⟩
theorem chkL_true {n : Nat} {l : Nat → Bool} (h : n ≤ 4294967296) : chkL n n (fun j => encB1 (l j)) = true := by
  unfold chkL
  rw [chkRo_true backB1, decide_eq_true h]
  simp
def isNil : List SB → Bool
  | [.cells [.nils]] => true
  | _ => false
theorem isNil_spec {hp : List SB} (h : isNil hp = true) : hp = [.cells [.nils]] := by
  unfold isNil at h; split at h <;> first | rfl | cases h
noncomputable def g_rscale0 : List SV → List SB → Cs
  | [.c (.ptr 0 0), .c (.int .i64 k)], hp => match decR hp with
    | some (m, n, g) => .br (chkL m n g) (.out ⟨true, .tup [], [some (.cells [.slc 1 0 (capN k).toNat])], [.vec 1 [] (.gen (capN k).toNat fun j => encB1 (cutL (fun j => decB1 (g j)) n (capN k).toNat j))]⟩) .no
    | none => bif isNil hp then .out ⟨true, .tup [], [some (.cells [.slc 1 0 (capN k).toNat])], [.vec 1 [] (.gen (capN k).toNat fun j => encB1 (cutL (fun _ => false) 0 (capN k).toNat j))]⟩ else .no
  | _, _ => .no
theorem ok_rscale0 : SumOk Try.prog 71 (genSumN g_rscale0) := by
  refine sumOk_genN okS0 mixed Try.func71 (c := bodyOf Try.f71) (by kernel_rfl) (by kernel_rfl) ?_
  intro args hp x h
  unfold g_rscale0 at h ⊢
  split at h
  · rename_i k
    have hk := capN_b k
    cases hd : decR hp with
    | some p =>
      obtain ⟨m, n, g⟩ := p
      rw [hd] at h
      simp only at h ⊢
      obtain rfl := decR_spec hd
      cases hc : chkL m n g with
      | false => rw [hc] at h; cases h
      | true =>
        rw [hc] at h
        cases h
        obtain ⟨rfl, e, hn⟩ := chkL_spec hc
        refine ⟨LR1, 20, loopsR1, (t_rscale ..).trans ?_⟩
        rw [e, chkRo_true backB1, decide_eq_true (show ((0 : Nat) : Int) ≤ capN k by simpa using hk.1)]
        simp only [backB1]
        simp
        rfl
    | none =>
      rw [hd] at h
      simp only at h ⊢
      cases hn : isNil hp with
      | false => rw [hn] at h; cases h
      | true =>
        rw [hn] at h
        cases h
        obtain rfl := isNil_spec hn
        refine ⟨LR0, 20, loopsR0, (t_rscale0 ..).trans ?_⟩
        rw [decide_eq_true (show ((0 : Nat) : Int) ≤ capN k by simpa using hk.1)]
        simp
        rfl
  · cases h
/-! ### Ready -/
theorem setG_enc (l : Nat → Bool) (k : Nat) (b : Bool) : setG (fun j => encB1 (l j)) k 0 [.bool b] = fun j => encB1 (bif Nat.beq j k then b else l j) := by
  funext j
  unfold setG
  cases Nat.beq j k <;> rfl
theorem t_rready {R : Type} (n : Nat) (g : Nat → List CV) (k : Int) (b : Bool) (K : TV → List (Option SB) → Option R) : runFnN Try.prog S0 [] 10 1 Try.f25 (bodyOf Try.f25) [.c (.ptr 0 0), i64 k, bl b] (hpL n g) K =
    bif decide (k < 0) then K (.s (bl false)) ((hpL n g).map some) else bif decide (k ≥ (n : Int)) then K (.s (bl false)) ((hpL n g).map some) else
    bif decide (n ≤ n) then bif decide (n ≤ 4294967296) then bif decide (0 ≤ k) && decide (k < (n : Int)) then bif decide (k.toNat < n) then
      K (.s (bl true)) [some (.cells [.slc 1 0 n]), some (.vec 1 [] (.gen n (setG g k.toNat 0 [.bool b])))] else none else none else none else none := by kernel_rfl
theorem t_rready0 {R : Type} (k : Int) (b : Bool) (K : TV → List (Option SB) → Option R) : runFnN Try.prog S0 [] 10 1 Try.f25 (bodyOf Try.f25) [.c (.ptr 0 0), i64 k, bl b] [.cells [.nils]] K =
    bif decide (k < 0) then K (.s (bl false)) [some (.cells [.nils])] else bif decide (k ≥ 0) then K (.s (bl false)) [some (.cells [.nils])] else bif decide (0 ≤ k) && decide (k < 0) then none else none := by kernel_rfl
noncomputable def g_rready0 : List SV → List SB → Cs
  | [.c (.ptr 0 0), .c (.int .i64 k), .c (.bool b)], hp => match decR hp with
    | some (m, n, g) => .br (chkL m n g) (.br (decide (k < 0)) (.out ⟨true, .s (bl false), [some (.cells [.slc 1 0 n])], [.vec 1 [] (.gen n g)]⟩) (.br (decide (k ≥ (n : Int))) (.out ⟨true, .s (bl false), [some (.cells [.slc 1 0 n])], [.vec 1 [] (.gen n g)]⟩)
        (.out ⟨true, .s (bl true), [some (.cells [.slc 1 0 n])], [.vec 1 [] (.gen n fun j => encB1 (bif Nat.beq j k.toNat then b else decB1 (g j)))]⟩))) .no
    | none => bif isNil hp then .out ⟨true, .s (bl false), [some (.cells [.nils])], []⟩ else .no
  | _, _ => .no
theorem ok_rready0 : SumOk Try.prog 25 (genSumN g_rready0) := by
  refine sumOk_genN okS0 mixed Try.func25 (c := bodyOf Try.f25) (by kernel_rfl) (by kernel_rfl) ?_
  intro args hp x h
  unfold g_rready0 at h ⊢
  split at h
  · rename_i k b
    cases hd : decR hp with
    | some p =>
      obtain ⟨m, n, g⟩ := p
      rw [hd] at h
      simp only at h ⊢
      obtain rfl := decR_spec hd
      cases hc : chkL m n g with
      | false => rw [hc] at h; cases h
      | true =>
        obtain ⟨rfl, e, hn⟩ := chkL_spec hc
        have hx : x.hp.length = 1 := by
          rw [hc] at h
          revert h
          cases decide (k < 0) <;> cases decide (k ≥ (m : Int)) <;> (intro h; cases h; rfl)
        refine ⟨[], 10, LoopsOk.nil, ?_⟩
        rw [hx]
        refine (t_rready ..).trans ?_
        by_cases h1 : k < 0
        · rw [decide_eq_true h1]; rfl
        · by_cases h2 : k ≥ (m : Int)
          · rw [decide_eq_false h1, decide_eq_true h2]; rfl
          · rw [decide_eq_false h1, decide_eq_false h2, decide_eq_true (Nat.le_refl m), decide_eq_true hn, decide_eq_true (show (0 : Int) ≤ k by omega), decide_eq_true (show k < (m : Int) by omega), decide_eq_true (show k.toNat < m by omega)]
            rw [e, setG_enc]
            simp only [backB1, decide_true, cond_true, cond_false, Bool.and_self]
            rfl
    | none =>
      rw [hd] at h
      simp only at h ⊢
      cases hn : isNil hp with
      | false => rw [hn] at h; cases h
      | true =>
        obtain rfl := isNil_spec hn
        rw [hn] at h
        cases h
        refine ⟨[], 10, LoopsOk.nil, (t_rready0 ..).trans ?_⟩
        by_cases h1 : k < 0
        · rw [decide_eq_true h1]; rfl
        · rw [decide_eq_false h1, decide_eq_true (show k ≥ 0 by omega)]; rfl
  · cases h
/-! ### Count, Full -/
@[reducible] def RcA := Int × Int × Nat × (Nat → Bool)
@[reducible] def encRcG (c i : Int) (n : Nat) (g : Nat → List CV) : Sx.St := ⟨[(0, .s (.c (.ptr 0 0))), (3, .s (.c (.int .i64 c))), (4, .s (.c (.int .i64 i)))], [some (.cells [.slc 1 0 n]), some (.vec 1 [] (.gen n g))], 2, 24⟩
def encRc : RcA → Sx.St
  | (c, i, n, l) => encRcG c i n (fun j => encB1 (l j))
@[reducible] def RcB := Int × Int × Nat × Nat × (Nat → List CV)
def decRc : Sx.St → Option RcB
  | ⟨[(0, .s (.c (.ptr 0 0))), (3, .s (.c (.int .i64 c))), (4, .s (.c (.int .i64 i)))], [some (.cells [.slc 1 0 n']), some (.vec 1 [] (.gen n g))], 2, 24⟩ => some (c, i, n, n', g)
  | _ => none
noncomputable def chkRc : RcB → Bool
  | (_, _, n, n', g) => Nat.beq n n' && chkRo encB1 decB1 g
def normRc : RcB → RcA
  | (c, i, n, _, g) => (c, i, n, fun j => decB1 (g j))
theorem decRc_spec (st : Sx.St) (p : RcB) (h : decRc st = some p) (hc : chkRc p = true) : st = encRc (normRc p) := by
  unfold decRc at h
  split at h
  · cases h
    simp only [chkRc, Bool.and_eq_true] at hc
    obtain ⟨h1, h2⟩ := hc
    have h1 := Nat.eq_of_beq_eq_true h1
    subst h1
    have g := chkRo_spec h2
    unfold normRc encRc encRcG
    simp only
    rw [← g]
  · cases h
@[reducible] def finRc (c : Int) (n : Nat) (g : Nat → List CV) : Sx.St := ⟨[(3, .s (.c (.int .i64 c)))], [some (.cells [.slc 1 0 n]), some (.vec 1 [] (.gen n g))], 2, 24⟩
noncomputable def tRc (p : RcA) (R : Type) (K : Ex → Sx.St → Option R) : Option R := bif decide (0 ≤ p.1 ∧ p.1 ≤ p.2.1 ∧ p.2.1 ≤ (p.2.2.1 : Int) ∧ p.2.2.1 ≤ 4294967296) then K (.exit 0) (finRc (cntN p.2.2.2 (p.2.2.1 - p.2.1.toNat) p.2.1.toNat p.1) p.2.2.1 (fun j => encB1 (p.2.2.2 j))) else none
@[reducible] noncomputable def LRc : List (Nat × LoopSum) := [(0, formSumC decRc chkRc normRc tRc)]
theorem roundRc {R : Type} (L : List (Nat × LoopSum)) (c i : Int) (n : Nat) (l : Nat → Bool) (K : Ex → Sx.St → Option R) : roundK Try.prog S0 L 20 2 (resMask Try.f74.results.toList) (lpAt Try.f74 0) (encRc (c, i, n, l)) K =
    bif decide (i < (n : Int)) then bif decide (0 ≤ i) && decide (i < (n : Int)) then bif decide (i.toNat < n) then bif l i.toNat then K .normal (encRc (IntKind.i64.wrap (c + 1), IntKind.i64.wrap (i + 1), n, l)) else K .normal (encRc (c, IntKind.i64.wrap (i + 1), n, l)) else none else none else K (.exit 0) (finRc c n (fun j => encB1 (l j))) := by kernel_rfl
theorem okRc : LoopOk Try.prog S0 LRc 20 2 (resMask Try.f74.results.toList) (lpAt Try.f74 0) (formSumC decRc chkRc normRc tRc) := by
  refine LoopOk.ofC decRc_spec (fun p => p.2.2.1 - p.2.1.toNat) ?_
  rintro ⟨c, i, n, l⟩ R K x h
  unfold tRc at h
  simp only at h
  by_cases hi : 0 ≤ c ∧ c ≤ i ∧ i ≤ (n : Int) ∧ n ≤ 4294967296
  · rw [decide_eq_true hi, cond_true] at h
    by_cases h2 : i < (n : Int)
    · left
      have hst : cntN l (n - i.toNat) i.toNat c = cntN l (n - (i + 1).toNat) (i + 1).toNat (bif l i.toNat then c + 1 else c) := by
        rw [show n - i.toNat = (n - (i + 1).toNat) + 1 by omega, show (i + 1).toNat = i.toNat + 1 by omega]
        rfl
      refine ⟨(bif l i.toNat then c + 1 else c, i + 1, n, l), by simp only; omega, fun K' => ?_, ?_⟩
      · rw [roundRc, decide_eq_true h2, decide_eq_true (show 0 ≤ i by omega), decide_eq_true (show i.toNat < n by omega), wi (x := i + 1) (by omega), wi (x := c + 1) (by omega)]
        cases l i.toNat <;> rfl
      · unfold tRc
        simp only
        rw [hst] at h
        rw [decide_eq_true (show 0 ≤ (bif l i.toNat then c + 1 else c) ∧ (bif l i.toNat then c + 1 else c) ≤ i + 1 ∧ i + 1 ≤ (n : Int) ∧ n ≤ 4294967296 by cases l i.toNat <;> simp only [cond_true, cond_false] <;> omega), cond_true]
        exact h
    · right
      rw [show n - i.toNat = 0 by omega] at h
      exact ⟨.exit 0, _, by simp, fun K' => by rw [roundRc, decide_eq_false h2]; rfl, h⟩
  · rw [decide_eq_false hi] at h
    cases h
theorem loopsRc : LoopsOk Try.prog S0 LRc 20 2 (resMask Try.f74.results.toList) (loopsOf (resMask Try.f74.results.toList) (bodyOf Try.f74) [] (resMask Try.f74.results.toList)) :=
  loopsOk_ix 1 (by kernel_rfl) ⟨trivial, loopOk_here (n := 0) (by kernel_rfl) rfl okRc⟩
theorem t_rcount {R : Type} (n : Nat) (g : Nat → List CV) (K : TV → List (Option SB) → Option R) : runFnL Try.prog S0 LRc 20 Try.f74 (bodyOf Try.f74) [.c (.ptr 0 0)] (hpL n g) K =
    bif Nat.beq n n && chkRo encB1 decB1 g then bif decide (0 ≤ (0 : Int) ∧ (0 : Int) ≤ (0 : Int) ∧ (0 : Int) ≤ (n : Int) ∧ n ≤ 4294967296) then K (.s (i64 (cntN (fun j => decB1 (g j)) (n - (0 : Int).toNat) (0 : Int).toNat 0))) ((hpL n fun j => encB1 (decB1 (g j))).map some) else none else none := by kernel_rfl
noncomputable def rcnt (n : Nat) (g : Nat → List CV) : Int := cntN (fun j => decB1 (g j)) n 0 0
noncomputable def g_rcount0 : List SV → List SB → Cs
  | [.c (.ptr 0 0)], hp => match decR hp with
    | some (m, n, g) => .br (chkL m n g) (.out ⟨true, .s (i64 (rcnt n g)), hp.map some, []⟩) .no
    | none => .no
  | _, _ => .no
theorem ok_rcount0 : SumOk Try.prog 74 (genSumT g_rcount0) := by
  refine sumOk_cs okS0 mixed Try.func74 (c := bodyOf Try.f74) (by kernel_rfl) (by kernel_rfl) ?_
  intro args hp x h
  unfold g_rcount0 at h ⊢
  split at h
  · cases hd : decR hp with
    | some p =>
      obtain ⟨m, n, g⟩ := p
      rw [hd] at h
      simp only at h ⊢
      obtain rfl := decR_spec hd
      cases hc : chkL m n g with
      | false => rw [hc] at h; cases h
      | true =>
        obtain ⟨rfl, e, hn⟩ := chkL_spec hc
        refine ⟨LRc, 20, loopsRc, (t_rcount ..).trans ?_⟩
        rw [decide_eq_true (show 0 ≤ (0 : Int) ∧ (0 : Int) ≤ (0 : Int) ∧ (0 : Int) ≤ (m : Int) ∧ m ≤ 4294967296 by omega), show chkRo encB1 decB1 g = true by rw [e]; exact chkRo_true backB1 _, ← e]
        simp only [Nat.beq_refl, Bool.and_self, cond_true]
        rfl
    | none => rw [hd] at h; cases h
  · cases h
theorem same_rcount (args : List SV) (hp : List SB) : (g_rcount0 args hp).same hp := by
  unfold g_rcount0
  split
  · cases decR hp with
    | none => trivial
    | some p => exact ⟨⟨rfl, rfl⟩, trivial⟩
  · trivial
theorem ok_rcountR : SumOk Try.prog 74 (roSumT g_rcount0) := sumOk_ro same_rcount ok_rcount0
@[reducible] noncomputable def SRc : Sums := (74, (roSumT g_rcount0)) :: S0
theorem okSRc : SumsOk Try.prog SRc := (okS0.cons ok_rcountR)
noncomputable def rfull (n : Nat) (g : Nat → List CV) : Bool := decide ((n : Int) > 0) && rcnt n g == (n : Int)
/-! ### The same, of rows that read alike -/
noncomputable def fixB (n : Nat) (g : Nat → List CV) : Nat → List CV := bif @decide (∀ j, j < n → ∃ b, g j = encB1 b) (Classical.propDecidable _) then fun j => encB1 (decide (j < n) && decB1 (g j)) else g
theorem fixB_get {n : Nat} {g : Nat → List CV} {j : Nat} (h : j < n) : fixB n g j = g j := by
  unfold fixB
  cases hd : @decide (∀ j, j < n → ∃ b, g j = encB1 b) (Classical.propDecidable _) with
  | false => rfl
  | true =>
    have hd := (@decide_eq_true_eq _ (Classical.propDecidable _)).mp hd
    obtain ⟨b, hb⟩ := hd j h
    simp only [cond_true]
    rw [decide_eq_true h, hb]
    rfl
theorem fixB_good {n : Nat} {g : Nat → List CV} (h : ∀ j, j < n → ∃ b, g j = encB1 b) : fixB n g = fun j => encB1 (decide (j < n) && decB1 (g j)) := by
  unfold fixB
  rw [(@decide_eq_true_eq _ (Classical.propDecidable _)).mpr h]
  rfl
noncomputable def cvB : List SB → List SB
  | [.cells [.slc 1 0 m], .vec 1 [] (.gen n g)] => [.cells [.slc 1 0 m], .vec 1 [] (.gen n (fixB n g))]
  | hp => hp
theorem nearH_refl : ∀ hp : List SB, nearH hp hp
  | [] => trivial
  | _ :: r => ⟨SB.near.refl _, nearH_refl r⟩
theorem cvB_near (hp : List SB) : nearH hp (cvB hp) := by
  unfold cvB
  split
  · exact ⟨SB.near.refl _, ⟨rfl, rfl, fun i hi => fixB_get hi⟩, trivial⟩
  · exact nearH_refl _
noncomputable def g_rscale : List SV → List SB → Cs := fun args hp => g_rscale0 args (cvB hp)
theorem ok_rscale : SumOk Try.prog 71 (genSumN g_rscale) := sumOk_nearN (cv := cvB) (g := g_rscale0) cvB_near ok_rscale0
noncomputable def g_rready : List SV → List SB → Cs := fun args hp => g_rready0 args (cvB hp)
theorem ok_rready : SumOk Try.prog 25 (genSumN g_rready) := sumOk_nearN (cv := cvB) (g := g_rready0) cvB_near ok_rready0
noncomputable def g_rcount : List SV → List SB → Cs := fun args hp => g_rcount0 args (cvB hp)
theorem ok_rcount : SumOk Try.prog 74 (roSumT g_rcount) := sumOk_nearRo (cv := cvB) (g := g_rcount0) cvB_near ok_rcountR
end Go.Proofs.Ytpebebhjmnmcbaa.Rep

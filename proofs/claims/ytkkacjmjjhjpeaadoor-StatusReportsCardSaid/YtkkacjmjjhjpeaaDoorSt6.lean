/- The reference's numbers and Line. No condition beyond those that each theorem names. -/
import Derived.Test.YtkkacjmjjhjpeaaDoorSt5
set_option maxRecDepth 100000
set_option linter.unusedSimpArgs false
set_option linter.unusedVariables false
namespace Go.Proofs.YtkkacjmjjhjpeaaDoor.St
open Go Go.Proofs.YtkkacjmjjhjpeaaDoor.Sx Go.Shelf Go.RowKit

/-- How deep a number's text is called. -/
def mN (n : Int) : Nat := bif decide (0 ≤ n) && decide (n < 10) then 0 else bif decide (n < 0) then n.natAbs + 10 else n.natAbs
def g_num (k : Nat) : List SV → Option (Bool × TV)
  | [.c (.int .i64 n)] => some (okI n && decide (mN n < k), .s (stv (itoaB n)))
  | _ => none
@[reducible] def SN (k : Nat) : Sums := [(19, libSum (g_num k))]
@[reducible] def wr (n : Int) : Int := IntKind.i64.wrap n
def twoK {R : Type} (k : Nat) (a b : Int) (K : TV → List (Option SB) → Option R) : Option R :=
  bif okI a && decide (mN a < k) then (bif okI b && decide (mN b < k) then (bif decide ((itoaB a).size + (itoaB b).size ≤ 9223372036854775807) then K (.s (stv (itoaB a ++ itoaB b))) [] else none) else none) else none
def negK {R : Type} (k : Nat) (a : Int) (K : TV → List (Option SB) → Option R) : Option R :=
  bif okI a && decide (mN a < k) then (bif decide (1 + (itoaB a).size ≤ 9223372036854775807) then K (.s (stv (⟨#[45]⟩ ++ itoaB a))) [] else none) else none
def numK {R : Type} (k : Nat) (n : Int) (K : TV → List (Option SB) → Option R) : Option R :=
  bif decide (n < 0) then (bif decide (n > -10) then negK k (wr (0 - n)) K else twoK k (wr (n.tdiv 10)) (wr (0 - n.tmod 10)) K) else twoK k (wr (n.tdiv 10)) (n.tmod 10) K
theorem t_num {R : Type} (k : Nat) (n : Int) (K : TV → List (Option SB) → Option R) : runFn Tryd.prog (SN k) 10 Tryd.f19 (bodyOf Tryd.f19) [i64 n] [] K =
    bif decide (n ≥ 0) then (bif decide (n < 10) then K (.s (stv (strOfNums [IntKind.u8.wrap (wr (48 + n))]))) [] else numK k n K) else numK k n K := by kernel_rfl
/-! ### The texts -/
theorem dec_small {u : Nat} (h : u < 10) : Lib.decDigits u = [UInt8.ofNat (48 + u)] := by rw [Lib.decDigits, dif_pos h]
theorem dec_big {u : Nat} (h : ¬ u < 10) : Lib.decDigits u = Lib.decDigits (u / 10) ++ Lib.decDigits (u % 10) := by
  rw [Lib.decDigits, dif_neg h, dec_small (Nat.mod_lt _ (by decide))]
theorem itoaB_data (n : Int) : (itoaB n).data.toList = Lib.itoa n := rfl
theorem bytes_ext {a b : ByteArray} (h : a.data.toList = b.data.toList) : a = b := by
  cases a with | mk a =>
  cases b with | mk b =>
  cases a with | mk a =>
  cases b with | mk b =>
  simp only at h
  rw [h]
theorem app_data (a b : ByteArray) : (a ++ b).data.toList = a.data.toList ++ b.data.toList := by
  simp
theorem itoa_nat {n : Int} (h : 0 ≤ n) : Lib.itoa n = Lib.decDigits n.toNat := by
  unfold Lib.itoa
  rw [if_neg (by omega)]
theorem itoa_neg {n : Int} (h : n < 0) : Lib.itoa n = 45 :: Lib.decDigits n.natAbs := by
  unfold Lib.itoa
  rw [if_pos h]
theorem num_pos {n : Int} (h : 10 ≤ n) : itoaB n = itoaB (n.tdiv 10) ++ itoaB (n.tmod 10) := by
  obtain ⟨u, rfl⟩ : ∃ u : Nat, n = u := ⟨n.toNat, by omega⟩
  apply bytes_ext
  have e1 : ((u : Int)).tdiv 10 = ((u / 10 : Nat) : Int) := by rw [Int.tdiv_eq_ediv_of_nonneg (by omega)]; omega
  have e2 : ((u : Int)).tmod 10 = ((u % 10 : Nat) : Int) := by rw [Int.tmod_eq_emod_of_nonneg (by omega)]; omega
  rw [app_data, e1, e2, itoaB_data, itoaB_data, itoaB_data, itoa_nat (by omega), itoa_nat (by omega), itoa_nat (by omega)]
  simp only [Int.toNat_natCast]
  exact dec_big (by omega)
theorem num_neg {n : Int} (h : n ≤ -10) : itoaB n = itoaB (n.tdiv 10) ++ itoaB (0 - n.tmod 10) := by
  obtain ⟨u, rfl⟩ : ∃ u : Nat, n = -(u : Int) := ⟨n.natAbs, by omega⟩
  apply bytes_ext
  have e1 : (-(u : Int)).tdiv 10 = -((u / 10 : Nat) : Int) := by rw [Int.neg_tdiv, Int.tdiv_eq_ediv_of_nonneg (by omega)]; omega
  have e2 : 0 - (-(u : Int)).tmod 10 = ((u % 10 : Nat) : Int) := by rw [Int.neg_tmod, Int.tmod_eq_emod_of_nonneg (by omega)]; omega
  have e3 : (-(u : Int)).natAbs = u := by omega
  have e4 : (-((u / 10 : Nat) : Int)).natAbs = u / 10 := by omega
  rw [app_data, e1, e2, itoaB_data, itoaB_data, itoaB_data, itoa_neg (by omega), itoa_neg (by omega), itoa_nat (by omega), e3, e4]
  simp only [Int.toNat_natCast, List.cons_append]
  rw [dec_big (by omega)]
theorem num_less {n : Int} (h : n < 0) : itoaB n = ⟨#[45]⟩ ++ itoaB (0 - n) := by
  apply bytes_ext
  rw [app_data, itoaB_data, itoaB_data, itoa_neg h, itoa_nat (by omega)]
  have e : n.natAbs = (0 - n).toNat := by omega
  rw [e]
  rfl
theorem num_dig {n : Int} (h : 0 ≤ n) (h' : n < 10) : itoaB n = strOfNums [IntKind.u8.wrap (wr (48 + n))] := by
  obtain ⟨u, rfl⟩ : ∃ u : Nat, n = u := ⟨n.toNat, by omega⟩
  apply bytes_ext
  rw [itoaB_data, itoa_nat (by omega), Int.toNat_natCast, dec_small (by omega)]
  have h2 : ∀ k : Fin 10, [UInt8.ofNat (48 + k)] = (strOfNums [IntKind.u8.wrap (wr (48 + (k : Nat) : Int))]).data.toList := by decide
  exact h2 ⟨u, by omega⟩
theorem wr_ok {n : Int} (h : -9223372036854775808 ≤ n ∧ n ≤ 9223372036854775807) : wr n = n := by
  simp [wr, IntKind.wrap, IntKind.bits, IntKind.signed]; omega
theorem t_num' {k : Nat} {n : Int} (h : okI n = true) (hk : mN n ≤ k) {R : Type} (K : TV → List (Option SB) → Option R) : runFn Tryd.prog (SN k) 10 Tryd.f19 (bodyOf Tryd.f19) [i64 n] [] K = K (.s (stv (itoaB n))) [] := by
  rw [t_num]
  have h0 := okI_iff.1 h
  have m0 : ∀ d : Int, 0 ≤ d → d < 10 → mN d = 0 := fun d h1 h2 => by unfold mN; rw [decide_eq_true h1, decide_eq_true h2]; rfl
  have hT : ∀ a b : Int, okI a = true → mN a < k → okI b = true → mN b < k → twoK k a b K = K (.s (stv (itoaB a ++ itoaB b))) [] := by
    intro a b h1 h2 h3 h4
    have h5 := itoaB_size h1
    have h6 := itoaB_size h3
    unfold twoK
    rw [h1, h3, decide_eq_true h2, decide_eq_true h4, decide_eq_true (show (itoaB a).size + (itoaB b).size ≤ 9223372036854775807 by omega)]
    rfl
  by_cases h1 : n ≥ 0
  · by_cases h2 : n < 10
    · rw [decide_eq_true h1, decide_eq_true h2, num_dig h1 h2]; rfl
    · have hm : mN n = n.natAbs := by unfold mN; rw [decide_eq_true (show 0 ≤ n from h1), decide_eq_false h2, decide_eq_false (show ¬ n < 0 by omega)]; rfl
      have e1 : n.tdiv 10 = n / 10 := Int.tdiv_eq_ediv_of_nonneg (by omega)
      have e2 : n.tmod 10 = n % 10 := Int.tmod_eq_emod_of_nonneg (by omega)
      have q1 : okI (n / 10) = true := by rw [okI_iff]; omega
      have q2 : okI (n % 10) = true := by rw [okI_iff]; omega
      have q3 : mN (n / 10) < k := by
        unfold mN
        rw [decide_eq_true (show 0 ≤ n / 10 by omega), decide_eq_false (show ¬ n / 10 < 0 by omega)]
        by_cases h3 : n / 10 < 10
        · rw [decide_eq_true h3]; simp only [Bool.and_self, cond_true]; omega
        · rw [decide_eq_false h3]; simp only [Bool.and_false, cond_false]; omega
      have q4 : mN (n % 10) < k := by rw [m0 _ (by omega) (by omega)]; omega
      rw [decide_eq_true h1, decide_eq_false h2]
      simp only [cond_true, cond_false, numK]
      rw [decide_eq_false (show ¬ n < 0 by omega), cond_false, e1, e2, wr_ok (by omega), hT _ _ q1 q3 q2 q4, num_pos (n := n) (by omega), e1, e2]
  · have hm : mN n = n.natAbs + 10 := by unfold mN; rw [decide_eq_false (show ¬ 0 ≤ n by omega), decide_eq_true (show n < 0 by omega)]; rfl
    rw [decide_eq_false h1]
    simp only [cond_false, numK]
    rw [decide_eq_true (show n < 0 by omega), cond_true]
    by_cases h2 : n > -10
    · rw [decide_eq_true h2, cond_true, wr_ok (by omega)]
      have q1 : okI (0 - n) = true := by rw [okI_iff]; omega
      have q2 : mN (0 - n) < k := by rw [m0 _ (by omega) (by omega)]; omega
      have q3 := itoaB_size q1
      unfold negK
      rw [q1, decide_eq_true q2, decide_eq_true (show 1 + (itoaB (0 - n)).size ≤ 9223372036854775807 by omega), num_less (n := n) (by omega)]
      rfl
    · obtain ⟨u, hu⟩ : ∃ u : Nat, n = -(u : Int) := ⟨n.natAbs, by omega⟩
      have e1 : n.tdiv 10 = -((u / 10 : Nat) : Int) := by rw [hu, Int.neg_tdiv, Int.tdiv_eq_ediv_of_nonneg (by omega)]; omega
      have e2 : 0 - n.tmod 10 = ((u % 10 : Nat) : Int) := by rw [hu, Int.neg_tmod, Int.tmod_eq_emod_of_nonneg (by omega)]; omega
      have q1 : okI (n.tdiv 10) = true := by rw [okI_iff, e1]; omega
      have q2 : okI (0 - n.tmod 10) = true := by rw [okI_iff, e2]; omega
      have q3 : mN (n.tdiv 10) < k := by
        rw [e1]
        unfold mN
        rw [decide_eq_false (show ¬ 0 ≤ -((u / 10 : Nat) : Int) by omega), decide_eq_true (show -((u / 10 : Nat) : Int) < 0 by omega)]
        simp only [Bool.false_and, cond_false, cond_true]
        omega
      have q4 : mN (0 - n.tmod 10) < k := by rw [e2, m0 _ (by omega) (by omega)]; omega
      rw [decide_eq_false h2, cond_false, wr_ok (okI_iff.1 q1), wr_ok (okI_iff.1 q2), hT _ _ q1 q3 q2 q4, num_neg (n := n) (by omega)]
/-- The reference's Num is the number's text: by induction over how deep it is called. -/
theorem ok_numK : ∀ k : Nat, SumOk Tryd.prog 19 (libSum (g_num k))
  | 0 => by
    refine ⟨⟨_, Tryd.func19, by kernel_rfl, by kernel_rfl⟩, ?_⟩
    intro C w1 S ρ look w args vs nx e rds _ _ _ hs
    obtain ⟨⟨b, tv⟩, h1, h2⟩ := opt_sem.1 hs
    obtain ⟨h3, _⟩ := br_sem.1 h2
    simp only at h3
    subst h3
    unfold g_num at h1
    split at h1
    · simp at h1
    · cases h1
  | k + 1 => by
    have hS : SumsOk Tryd.prog (SN k) := SumsOk.nil.cons (ok_numK k)
    refine sumOk_of hS mixed Tryd.func19 (c := bodyOf Tryd.f19) (by kernel_rfl) (by kernel_rfl) ?_
    intro args nx look e rds hs
    obtain ⟨⟨b, tv⟩, h1, h2⟩ := opt_sem.1 hs
    obtain ⟨h3, h4⟩ := br_sem.1 h2
    simp only at h3 h4
    subst h3
    rw [pure_sem] at h4
    cases h4
    unfold g_num at h1
    split at h1
    · rename_i n
      simp only [Option.some.injEq, Prod.mk.injEq, Bool.and_eq_true, decide_eq_true_eq] at h1
      obtain ⟨⟨h1, h5⟩, rfl⟩ := h1
      refine ⟨[], [i64 n], [], _, [], 10, ⟨rfl, rfl, rfl, ?_, rfl, rfl, ?_, ?_, ?_⟩, t_num' h1 (by omega) _⟩
      · intro i b h; simp at h
      · intro i b h; simp at h
      · intro j hj; simp at hj
      · intro b _ _; rw [upd_nil]
    · cases h1
theorem ok_num : SumOk Tryd.prog 19 (libSum g_itoa) := by
  refine ⟨⟨_, Tryd.func19, by kernel_rfl, by kernel_rfl⟩, ?_⟩
  intro C w1 S ρ look w args vs nx e rds h1 h2 h3 hs
  obtain ⟨⟨b, tv⟩, h4, h5⟩ := opt_sem.1 hs
  unfold g_itoa at h4
  split at h4
  · rename_i n
    cases h4
    refine (ok_numK (mN n + 1)).2 C w1 S ρ look w [.c (.int .i64 n)] vs nx e rds h1 h2 h3 ?_
    refine opt_sem.2 ⟨_, rfl, ?_⟩
    obtain ⟨h6, h7⟩ := br_sem.1 h5
    refine br_sem.2 ⟨?_, h7⟩
    simp only at h6 ⊢
    rw [h6, decide_eq_true (show mN n < mN n + 1 by omega)]
    rfl
  · cases h4
end Go.Proofs.YtkkacjmjjhjpeaaDoor.St

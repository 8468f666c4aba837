/- Added one after the other numbers come to the same as at once, if they are added to what is not above most.
   For all whole numbers of 64 bits; no further condition. -/
import Derived.Test.YtnecfmoccnifcaaPNumTwicex1
namespace Go.Proofs.Ytnecfmoccnifcaa.Pure
open Go.RowKit Go.Proofs.Ytnecfmoccnifcaa.PNumTwice Go.Proofs.YtnecfmoccnifcaaW.PrintWords Go.Proofs.YtnecfmoccnifcaaW.PrintLast

theorem bnd {a : Int} (h : (Lit.int .i64 a).wf = true) : -9223372036854775808 ≤ a ∧ a ≤ 9223372036854775807 := by
  simp [Lit.wf, IntKind.min, IntKind.max, IntKind.signed, IntKind.bits] at h
  omega
theorem add_eq {a b m : Int} (_ha : -9223372036854775808 ≤ a ∧ a ≤ 9223372036854775807) (hb : -9223372036854775808 ≤ b ∧ b ≤ 9223372036854775807) (hm : -9223372036854775808 ≤ m ∧ m ≤ 9223372036854775807) :
    num_Add.f a b m = some (if mx a 0 + mx b 0 > mx m 0 then mx m 0 else mx a 0 + mx b 0) := by
  unfold num_Add.f
  have h1 : 0 ≤ mx a 0 := by unfold mx; split <;> omega
  have h2 : 0 ≤ mx b 0 := by unfold mx; split <;> omega
  have h3 : 0 ≤ mx m 0 ∧ mx m 0 ≤ 9223372036854775807 := by unfold mx; split <;> omega
  have h4 : mx b 0 ≤ 9223372036854775807 := by unfold mx; split <;> omega
  by_cases c1 : mx a 0 ≥ mx m 0
  · rw [if_pos c1]
    by_cases c2 : mx a 0 + mx b 0 > mx m 0
    · rw [if_pos c2]
    · rw [if_neg c2]; congr 1; omega
  · rw [if_neg c1]
    have e : wrap64 (mx m 0 - mx a 0) = mx m 0 - mx a 0 := by unfold wrap64; omega
    rw [e]
    by_cases c2 : mx b 0 ≥ mx m 0 - mx a 0
    · rw [if_pos c2]
      by_cases c3 : mx a 0 + mx b 0 > mx m 0
      · rw [if_pos c3]
      · rw [if_neg c3]; congr 1; omega
    · rw [if_neg c2, if_neg (by omega)]
      congr 1
      unfold wrap64
      omega
theorem less_eq {a b : Int} (ha : -9223372036854775808 ≤ a ∧ a ≤ 9223372036854775807) (hb : -9223372036854775808 ≤ b ∧ b ≤ 9223372036854775807) :
    num_Less.f a b = some (if a ≤ b then 0 else if a - b > 9223372036854775807 then 9223372036854775807 else a - b) := by
  unfold num_Less.f
  by_cases c1 : a ≤ b
  · rw [if_pos c1, if_pos c1]
  · rw [if_neg c1, if_neg c1]
    by_cases c2 : b < 0
    · have e : wrap64 (9223372036854775807 + b) = 9223372036854775807 + b := by unfold wrap64; omega
      rw [if_pos c2, e]
      by_cases c3 : a > 9223372036854775807 + b
      · rw [if_pos c3, if_pos (by omega)]
      · rw [if_neg c3, if_neg (by omega)]; congr 1; unfold wrap64; omega
    · rw [if_neg c2, if_neg (by omega)]; congr 1; unfold wrap64; omega
theorem awake_eq : switchbacklaw01_awake.f = some true := by
  unfold switchbacklaw01_awake.f
  rw [add_eq (by omega) (by omega) (by omega)]
  simp only [Option.bind_some]
  rw [if_pos (by decide), add_eq (by omega) (by omega) (by omega)]
  simp only [Option.bind_some]
  rw [if_pos (by decide), less_eq (by omega) (by omega)]
  simp only [Option.bind_some]
  rw [if_pos (by decide), less_eq (by omega) (by omega)]
  simp only [Option.bind_some]
  rw [if_pos (by decide)]
  simp [num_Clamp.f, num_In.f]

theorem NumTwice : switchbacklaw01_NumTwice.Pure := by
  intro a b m wa wb wm
  have ha := bnd wa
  have hb := bnd wb
  have hm := bnd wm
  refine ⟨1, ?_⟩
  have j1 : switchbacklaw01_NumTwice.j0 1 a b m true = some true := by
    simp only [switchbacklaw01_NumTwice.j0, if_true, awake_eq, Option.bind_some]
  unfold switchbacklaw01_NumTwice.f
  rw [awake_eq]
  simp only [Option.bind_some, if_true]
  by_cases c1 : a < 0
  · rw [if_pos c1]; exact j1
  · rw [if_neg c1]
    by_cases c2 : b < 0
    · rw [if_pos c2]; exact j1
    · rw [if_neg c2]
      by_cases c3 : m < 0
      · simp only [c3, decide_true]; exact j1
      · simp only [c3, decide_false]
        have e : ∀ x : Int, 0 ≤ x → mx x 0 = x := by intro x hx; unfold mx; split <;> omega
        simp only [switchbacklaw01_NumTwice.j0, Bool.false_eq_true, if_false]
        rw [add_eq (a := 0) (by omega) ha hm]
        simp only [Option.bind_some]
        have e0 : mx (0 : Int) 0 = 0 := e 0 (by omega)
        rw [e0, e a (by omega), e m (by omega)]
        have hs : -9223372036854775808 ≤ (if 0 + a > m then m else 0 + a) ∧ (if 0 + a > m then m else 0 + a) ≤ 9223372036854775807 := by split <;> omega
        rw [add_eq hs hb hm, add_eq ha hb hm, add_eq (b := 0) ha (by omega) hm]
        simp only [Option.bind_some]
        rw [e (if 0 + a > m then m else 0 + a) (by split <;> omega), e0, e a (by omega), e b (by omega), e m (by omega)]
        rw [if_pos (by (repeat' split) <;> omega)]
        congr 1
        rw [beq_iff_eq]
        unfold mn
        (repeat' split) <;> omega

end Go.Proofs.Ytnecfmoccnifcaa.Pure

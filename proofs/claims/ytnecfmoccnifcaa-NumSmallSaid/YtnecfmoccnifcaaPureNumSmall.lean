/- A sum is never below its parts, unless these are above most, and never above that.
   For all whole numbers of 64 bits; no further condition. -/
import Derived.Test.YtnecfmoccnifcaaPNumSmallx1
namespace Go.Proofs.Ytnecfmoccnifcaa.Pure
open Go.RowKit Go.Proofs.Ytnecfmoccnifcaa.PNumSmall Go.Proofs.YtnecfmoccnifcaaW.PrintWords Go.Proofs.YtnecfmoccnifcaaW.PrintLast

theorem bnd {a : Int} (h : (Lit.int .i64 a).wf = true) : -9223372036854775808 ≤ a ∧ a ≤ 9223372036854775807 := by
  simp [Lit.wf, IntKind.min, IntKind.max, IntKind.signed, IntKind.bits] at h
  omega
theorem add_eq {a b m : Int} (_ha : -9223372036854775808 ≤ a ∧ a ≤ 9223372036854775807) (hb : -9223372036854775808 ≤ b ∧ b ≤ 9223372036854775807) (hm : -9223372036854775808 ≤ m ∧ m ≤ 9223372036854775807) :
    num_Add.f a b m = some (if mx a 0 + mx b 0 > mx m 0 then mx m 0 else mx a 0 + mx b 0) := by
  unfold num_Add.f
  have h1 : 0 ≤ mx a 0 := by unfold mx; split <;> omega
  have h2 : 0 ≤ mx b 0 := by unfold mx; split <;> omega
  have h3 : 0 ≤ mx m 0 ∧ mx m 0 ≤ 9223372036854775807 := by unfold mx; split <;> omega
  have h4 : mx b 0 ≤ 9223372036854775807 := by unfold mx; split <;> omega
  by_cases c1 : mx a 0 ≥ mx m 0
  · rw [if_pos c1]
    by_cases c2 : mx a 0 + mx b 0 > mx m 0
    · rw [if_pos c2]
    · rw [if_neg c2]; congr 1; omega
  · rw [if_neg c1]
    have e : wrap64 (mx m 0 - mx a 0) = mx m 0 - mx a 0 := by unfold wrap64; omega
    rw [e]
    by_cases c2 : mx b 0 ≥ mx m 0 - mx a 0
    · rw [if_pos c2]
      by_cases c3 : mx a 0 + mx b 0 > mx m 0
      · rw [if_pos c3]
      · rw [if_neg c3]; congr 1; omega
    · rw [if_neg c2, if_neg (by omega)]
      congr 1
      unfold wrap64
      omega
theorem less_eq {a b : Int} (ha : -9223372036854775808 ≤ a ∧ a ≤ 9223372036854775807) (hb : -9223372036854775808 ≤ b ∧ b ≤ 9223372036854775807) :
    num_Less.f a b = some (if a ≤ b then 0 else if a - b > 9223372036854775807 then 9223372036854775807 else a - b) := by
  unfold num_Less.f
  by_cases c1 : a ≤ b
  · rw [if_pos c1, if_pos c1]
  · rw [if_neg c1, if_neg c1]
    by_cases c2 : b < 0
    · have e : wrap64 (9223372036854775807 + b) = 9223372036854775807 + b := by unfold wrap64; omega
      rw [if_pos c2, e]
      by_cases c3 : a > 9223372036854775807 + b
      · rw [if_pos c3, if_pos (by omega)]
      · rw [if_neg c3, if_neg (by omega)]; congr 1; unfold wrap64; omega
    · rw [if_neg c2, if_neg (by omega)]; congr 1; unfold wrap64; omega
theorem awake_eq : switchbacklaw01_awake.f = some true := by
  unfold switchbacklaw01_awake.f
  rw [add_eq (by omega) (by omega) (by omega)]
  simp only [Option.bind_some]
  rw [if_pos (by decide), add_eq (by omega) (by omega) (by omega)]
  simp only [Option.bind_some]
  rw [if_pos (by decide), less_eq (by omega) (by omega)]
  simp only [Option.bind_some]
  rw [if_pos (by decide), less_eq (by omega) (by omega)]
  simp only [Option.bind_some]
  rw [if_pos (by decide)]
  simp [num_Clamp.f, num_In.f]

theorem NumSmall : switchbacklaw01_NumSmall.Pure := by
  intro a b m wa wb wm
  have ha := bnd wa
  have hb := bnd wb
  have hm := bnd wm
  unfold switchbacklaw01_NumSmall.f
  rw [awake_eq, add_eq ha hb hm]
  simp only [Option.bind_some, if_true]
  generalize hs : (if mx a 0 + mx b 0 > mx m 0 then mx m 0 else mx a 0 + mx b 0) = s
  have e1 : s ≥ 0 := by subst hs; unfold mx; (repeat' split) <;> omega
  have e2 : s ≤ mx m 0 := by subst hs; unfold mx; (repeat' split) <;> omega
  have e3 : a > m ∨ s ≥ a := by subst hs; unfold mx; (repeat' split) <;> omega
  have e4 : b > m ∨ s ≥ b := by subst hs; unfold mx; (repeat' split) <;> omega
  rw [if_pos e1, if_pos e2]
  by_cases c1 : a > m
  · rw [if_pos c1]
    by_cases c2 : b > m
    · rw [if_pos c2]
    · rw [if_neg c2]; simp; omega
  · rw [if_neg c1, if_pos (by omega)]
    by_cases c2 : b > m
    · rw [if_pos c2]
    · rw [if_neg c2]; simp; omega

end Go.Proofs.Ytnecfmoccnifcaa.Pure

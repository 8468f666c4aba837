/- Any number is as much more than any other one as the document says.
   For all whole numbers of 64 bits; no further condition. -/
import Derived.Test.YtnecfmoccnifcaaPNumLessx1
namespace Go.Proofs.Ytnecfmoccnifcaa.Pure
open Go.RowKit Go.Proofs.Ytnecfmoccnifcaa.PNumLess Go.Proofs.YtnecfmoccnifcaaW.PrintWords Go.Proofs.YtnecfmoccnifcaaW.PrintLast

theorem bnd {a : Int} (h : (Lit.int .i64 a).wf = true) : -9223372036854775808 ≤ a ∧ a ≤ 9223372036854775807 := by
  simp [Lit.wf, IntKind.min, IntKind.max, IntKind.signed, IntKind.bits] at h
  omega
theorem add_eq {a b m : Int} (_ha : -9223372036854775808 ≤ a ∧ a ≤ 9223372036854775807) (hb : -9223372036854775808 ≤ b ∧ b ≤ 9223372036854775807) (hm : -9223372036854775808 ≤ m ∧ m ≤ 9223372036854775807) :
    num_Add.f a b m = some (if mx a 0 + mx b 0 > mx m 0 then mx m 0 else mx a 0 + mx b 0) := by
  unfold num_Add.f
  have h1 : 0 ≤ mx a 0 := by unfold mx; split <;> omega
  have h2 : 0 ≤ mx b 0 := by unfold mx; split <;> omega
  have h3 : 0 ≤ mx m 0 ∧ mx m 0 ≤ 9223372036854775807 := by unfold mx; split <;> omega
  have h4 : mx b 0 ≤ 9223372036854775807 := by unfold mx; split <;> omega
  by_cases c1 : mx a 0 ≥ mx m 0
  · rw [if_pos c1]
    by_cases c2 : mx a 0 + mx b 0 > mx m 0
    · rw [if_pos c2]
    · rw [if_neg c2]; congr 1; omega
  · rw [if_neg c1]
    have e : wrap64 (mx m 0 - mx a 0) = mx m 0 - mx a 0 := by unfold wrap64; omega
    rw [e]
    by_cases c2 : mx b 0 ≥ mx m 0 - mx a 0
    · rw [if_pos c2]
      by_cases c3 : mx a 0 + mx b 0 > mx m 0
      · rw [if_pos c3]
      · rw [if_neg c3]; congr 1; omega
    · rw [if_neg c2, if_neg (by omega)]
      congr 1
      unfold wrap64
      omega
theorem less_eq {a b : Int} (ha : -9223372036854775808 ≤ a ∧ a ≤ 9223372036854775807) (hb : -9223372036854775808 ≤ b ∧ b ≤ 9223372036854775807) :
    num_Less.f a b = some (if a ≤ b then 0 else if a - b > 9223372036854775807 then 9223372036854775807 else a - b) := by
  unfold num_Less.f
  by_cases c1 : a ≤ b
  · rw [if_pos c1, if_pos c1]
  · rw [if_neg c1, if_neg c1]
    by_cases c2 : b < 0
    · have e : wrap64 (9223372036854775807 + b) = 9223372036854775807 + b := by unfold wrap64; omega
      rw [if_pos c2, e]
      by_cases c3 : a > 9223372036854775807 + b
      · rw [if_pos c3, if_pos (by omega)]
      · rw [if_neg c3, if_neg (by omega)]; congr 1; unfold wrap64; omega
    · rw [if_neg c2, if_neg (by omega)]; congr 1; unfold wrap64; omega
theorem awake_eq : switchbacklaw01_awake.f = some true := by
  unfold switchbacklaw01_awake.f
  rw [add_eq (by omega) (by omega) (by omega)]
  simp only [Option.bind_some]
  rw [if_pos (by decide), add_eq (by omega) (by omega) (by omega)]
  simp only [Option.bind_some]
  rw [if_pos (by decide), less_eq (by omega) (by omega)]
  simp only [Option.bind_some]
  rw [if_pos (by decide), less_eq (by omega) (by omega)]
  simp only [Option.bind_some]
  rw [if_pos (by decide)]
  simp [num_Clamp.f, num_In.f]

theorem refless_eq {a b : Int} (ha : -9223372036854775808 ≤ a ∧ a ≤ 9223372036854775807) (hb : -9223372036854775808 ≤ b ∧ b ≤ 9223372036854775807) :
    switchbackref01_Less.f a b = some (if a ≤ b then 0 else if a - b > 9223372036854775807 then 9223372036854775807 else a - b) := by
  unfold switchbackref01_Less.f
  by_cases c1 : a ≤ b
  · rw [if_pos c1, if_pos c1]
  · rw [if_neg c1, if_neg c1]
    have e : IntKind.u64.wrap (IntKind.u64.wrap a - IntKind.u64.wrap b) = a - b := by
      simp [IntKind.wrap, IntKind.bits, IntKind.signed]
      omega
    rw [e]
    by_cases c3 : a - b > 9223372036854775807
    · rw [if_pos c3, if_pos c3]
    · rw [if_neg c3, if_neg c3]; congr 1; unfold wrap64; omega
theorem NumLess : switchbacklaw01_NumLess.Pure := by
  intro a b wa wb
  have ha := bnd wa
  have hb := bnd wb
  unfold switchbacklaw01_NumLess.f
  rw [awake_eq, less_eq ha hb, refless_eq ha hb]
  simp only [Option.bind_some, if_true]
  by_cases c1 : a ≤ b
  · simp [c1]
  · by_cases c2 : a - b > 9223372036854775807
    · simp [c1, c2]
    · have h0 : a - b ≥ 0 := by omega
      have h1 : ¬ a - b = 0 := by omega
      simp only [if_neg c1, if_neg c2, if_pos h0]
      simp [c1, h1]

end Go.Proofs.Ytnecfmoccnifcaa.Pure

/- What the methods of a slot's replicas come to. No condition. -/
import Derived.Test.YtpebebhjmnmcbaaSxD
import Derived.Test.YtpebebhjmnmcbaaProg
import Derived.KernelRfl
set_option maxRecDepth 100000
set_option linter.unusedSimpArgs false
set_option linter.unusedVariables false
namespace Go.Proofs.Ytpebebhjmnmcbaa.Rep
open Go Go.Proofs.Ytpebebhjmnmcbaa.Sx

theorem mixed : Try.prog.follows .mixedOrders = true := by kernel_rfl
@[reducible] def i64 (n : Int) : SV := .c (.int .i64 n)
@[reducible] def bl (b : Bool) : SV := .c (.bool b)
theorem wi {x : Int} (h : -9223372036854775808 ≤ x ∧ x ≤ 9223372036854775807) : IntKind.i64.wrap x = x := by
  simp [IntKind.wrap, IntKind.bits, IntKind.signed]; omega
theorem bnd {a : Int} (h : (Lit.int .i64 a).wf = true) : -9223372036854775808 ≤ a ∧ a ≤ 9223372036854775807 := by
  simp [Lit.wf, IntKind.min, IntKind.max, IntKind.signed, IntKind.bits] at h
  omega
theorem lawK_if (b : Bool) : lawK (.s (.c (.bool b))) [] = bif b then some () else none := rfl
@[reducible] def S0 : Sums := []
theorem okS0 : SumsOk Try.prog S0 := SumsOk.nil
/-- A slot's replicas: how many are wanted, and which are ready. -/
structure Sl where
  want : Int
  b0 : Bool
  b1 : Bool
  b2 : Bool
  b3 : Bool
  b4 : Bool
  b5 : Bool
  b6 : Bool
  b7 : Bool
  b8 : Bool
  b9 : Bool
  b10 : Bool
  b11 : Bool
  b12 : Bool
  b13 : Bool
  b14 : Bool
  b15 : Bool
  b16 : Bool
  b17 : Bool
  b18 : Bool
  b19 : Bool
  b20 : Bool
  b21 : Bool
  b22 : Bool
  b23 : Bool
  b24 : Bool
  b25 : Bool
  b26 : Bool
  b27 : Bool
  b28 : Bool
  b29 : Bool
  b30 : Bool
  b31 : Bool
@[reducible] def bits (s : Sl) : List CV := .bool s.b0 :: .bool s.b1 :: .bool s.b2 :: .bool s.b3 :: .bool s.b4 :: .bool s.b5 :: .bool s.b6 :: .bool s.b7 :: .bool s.b8 :: .bool s.b9 :: .bool s.b10 :: .bool s.b11 :: .bool s.b12 :: .bool s.b13 :: .bool s.b14 :: .bool s.b15 :: .bool s.b16 :: .bool s.b17 :: .bool s.b18 :: .bool s.b19 :: .bool s.b20 :: .bool s.b21 :: .bool s.b22 :: .bool s.b23 :: .bool s.b24 :: .bool s.b25 :: .bool s.b26 :: .bool s.b27 :: .bool s.b28 :: .bool s.b29 :: .bool s.b30 :: .bool s.b31 :: []
@[reducible] def encSl (s : Sl) : List CV := .int .i64 s.want :: bits s
def ofL (q0 q1 q2 q3 q4 q5 q6 q7 q8 q9 q10 q11 q12 q13 q14 q15 q16 q17 q18 q19 q20 q21 q22 q23 q24 q25 q26 q27 q28 q29 q30 q31 : Bool) : Nat → Bool
  | 0 => q0
  | 1 => q1
  | 2 => q2
  | 3 => q3
  | 4 => q4
  | 5 => q5
  | 6 => q6
  | 7 => q7
  | 8 => q8
  | 9 => q9
  | 10 => q10
  | 11 => q11
  | 12 => q12
  | 13 => q13
  | 14 => q14
  | 15 => q15
  | 16 => q16
  | 17 => q17
  | 18 => q18
  | 19 => q19
  | 20 => q20
  | 21 => q21
  | 22 => q22
  | 23 => q23
  | 24 => q24
  | 25 => q25
  | 26 => q26
  | 27 => q27
  | 28 => q28
  | 29 => q29
  | 30 => q30
  | 31 => q31
  | _ => false
/-- Is that one ready? -/
@[reducible] def Sl.f (s : Sl) : Nat → Bool := ofL s.b0 s.b1 s.b2 s.b3 s.b4 s.b5 s.b6 s.b7 s.b8 s.b9 s.b10 s.b11 s.b12 s.b13 s.b14 s.b15 s.b16 s.b17 s.b18 s.b19 s.b20 s.b21 s.b22 s.b23 s.b24 s.b25 s.b26 s.b27 s.b28 s.b29 s.b30 s.b31
/-- From what is ready. -/
@[reducible] def mkS (w : Int) (f : Nat → Bool) : Sl := Sl.mk w (f 0) (f 1) (f 2) (f 3) (f 4) (f 5) (f 6) (f 7) (f 8) (f 9) (f 10) (f 11) (f 12) (f 13) (f 14) (f 15) (f 16) (f 17) (f 18) (f 19) (f 20) (f 21) (f 22) (f 23) (f 24) (f 25) (f 26) (f 27) (f 28) (f 29) (f 30) (f 31)
theorem mkS_f (w : Int) (f : Nat → Bool) : ∀ j, j < 32 → (mkS w f).f j = f j
  | 0, _ => rfl
  | 1, _ => rfl
  | 2, _ => rfl
  | 3, _ => rfl
  | 4, _ => rfl
  | 5, _ => rfl
  | 6, _ => rfl
  | 7, _ => rfl
  | 8, _ => rfl
  | 9, _ => rfl
  | 10, _ => rfl
  | 11, _ => rfl
  | 12, _ => rfl
  | 13, _ => rfl
  | 14, _ => rfl
  | 15, _ => rfl
  | 16, _ => rfl
  | 17, _ => rfl
  | 18, _ => rfl
  | 19, _ => rfl
  | 20, _ => rfl
  | 21, _ => rfl
  | 22, _ => rfl
  | 23, _ => rfl
  | 24, _ => rfl
  | 25, _ => rfl
  | 26, _ => rfl
  | 27, _ => rfl
  | 28, _ => rfl
  | 29, _ => rfl
  | 30, _ => rfl
  | 31, _ => rfl
  | n + 32, h => by omega
theorem mkS_congr (w : Int) (f g : Nat → Bool) (h : ∀ j, j < 32 → f j = g j) : mkS w f = mkS w g := by
  unfold mkS
  rw [h 0 (by omega), h 1 (by omega), h 2 (by omega), h 3 (by omega), h 4 (by omega), h 5 (by omega), h 6 (by omega), h 7 (by omega), h 8 (by omega), h 9 (by omega), h 10 (by omega), h 11 (by omega), h 12 (by omega), h 13 (by omega), h 14 (by omega), h 15 (by omega), h 16 (by omega), h 17 (by omega), h 18 (by omega), h 19 (by omega), h 20 (by omega), h 21 (by omega), h 22 (by omega), h 23 (by omega), h 24 (by omega), h 25 (by omega), h 26 (by omega), h 27 (by omega), h 28 (by omega), h 29 (by omega), h 30 (by omega), h 31 (by omega)]
theorem mkS_self (s : Sl) : mkS s.want s.f = s := rfl
def decSl : List CV → Option Sl
  | .int .i64 w :: .bool q0 :: .bool q1 :: .bool q2 :: .bool q3 :: .bool q4 :: .bool q5 :: .bool q6 :: .bool q7 :: .bool q8 :: .bool q9 :: .bool q10 :: .bool q11 :: .bool q12 :: .bool q13 :: .bool q14 :: .bool q15 :: .bool q16 :: .bool q17 :: .bool q18 :: .bool q19 :: .bool q20 :: .bool q21 :: .bool q22 :: .bool q23 :: .bool q24 :: .bool q25 :: .bool q26 :: .bool q27 :: .bool q28 :: .bool q29 :: .bool q30 :: .bool q31 :: [] => some (Sl.mk w q0 q1 q2 q3 q4 q5 q6 q7 q8 q9 q10 q11 q12 q13 q14 q15 q16 q17 q18 q19 q20 q21 q22 q23 q24 q25 q26 q27 q28 q29 q30 q31)
  | _ => none
theorem decSl_spec (l : List CV) (s : Sl) (h : decSl l = some s) : l = encSl s := by
  unfold decSl at h; split at h <;> cases h; rfl
theorem encSl_ren (s : Sl) (π) : (encSl s).map (CV.ren π) = encSl s := rfl
end Go.Proofs.Ytpebebhjmnmcbaa.Rep

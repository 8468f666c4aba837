/- The laws NumAdds and NumClamps: whatever whole numbers of 64 bits they are called with, they return true, and no memory that was there is written. -/
import Derived.Test.YtnecfmoccnifcaaNum
set_option maxRecDepth 100000
namespace Go.Proofs.Ytnecfmoccnifcaa.NumLaw
open Go Go.Proofs.Ytnecfmoccnifcaa.Sx Go.Proofs.Ytnecfmoccnifcaa.Num

theorem bnd {a : Int} (h : (Lit.int .i64 a).wf = true) : -9223372036854775808 ≤ a ∧ a ≤ 9223372036854775807 := by
  simp [Lit.wf, IntKind.min, IntKind.max, IntKind.signed, IntKind.bits] at h
  omega

theorem wi {x : Int} (h : -9223372036854775808 ≤ x ∧ x ≤ 9223372036854775807) : IntKind.i64.wrap x = x := by
  simp [IntKind.wrap, IntKind.bits, IntKind.signed]; omega
theorem wu {x : Int} (h : 0 ≤ x ∧ x ≤ 18446744073709551615) : IntKind.u64.wrap x = x := by
  simp [IntKind.wrap, IntKind.bits, IntKind.signed]; omega

/-! ### num.Clamp and its reference -/
def clamp (n lo hi : Int) : Int := bif decide (n < lo) then lo else bif decide (n > hi) then hi else n
theorem t_clamp (n lo hi : Int) : runFn Try.prog [] 10 Try.f28 (bodyOf Try.f28) [i64 n, i64 lo, i64 hi] [] (fun tv hp => some (tv, hp)) =
    bif decide (n < lo) then some (.s (i64 lo), []) else bif decide (n > hi) then some (.s (i64 hi), []) else some (.s (i64 n), []) := by kernel_rfl
theorem t_refClamp (n lo hi : Int) : runFn Try.prog [] 10 Try.f29 (bodyOf Try.f29) [i64 n, i64 lo, i64 hi] [] (fun tv hp => some (tv, hp)) =
    bif decide (n < lo) then some (.s (i64 lo), []) else bif decide (n > hi) then some (.s (i64 hi), []) else some (.s (i64 n), []) := by kernel_rfl
def gClamp : List SV → Option TV
  | [.c (.int .i64 a), .c (.int .i64 b), .c (.int .i64 m)] => some (.s (i64 (clamp a b m)))
  | _ => none
theorem ok_clamp : SumOk Try.prog 28 (valSum gClamp) := by
  refine sumOk_val SumsOk.nil mixed Try.func28 (c := bodyOf Try.f28) (by kernel_rfl) (by kernel_rfl) ?_
  intro args tv h
  unfold gClamp at h
  split at h
  · cases h
    refine ⟨fun _ => rfl, fun _ => rfl, 10, ?_⟩
    rw [t_clamp]
    simp only [clamp, Bool.cond_eq_ite]
    (repeat' split) <;> rfl
  · cases h
theorem ok_refClamp : SumOk Try.prog 29 (valSum gClamp) := by
  refine sumOk_val SumsOk.nil mixed Try.func29 (c := bodyOf Try.f29) (by kernel_rfl) (by kernel_rfl) ?_
  intro args tv h
  unfold gClamp at h
  split at h
  · cases h
    refine ⟨fun _ => rfl, fun _ => rfl, 10, ?_⟩
    rw [t_refClamp]
    simp only [clamp, Bool.cond_eq_ite]
    (repeat' split) <;> rfl
  · cases h

/-! ### awake -/
@[reducible] def sAwake : Sums := [(24, valSum gAdd), (26, valSum gLess), (28, valSum gClamp), (30, valSum gIn)]
theorem okAwakes : SumsOk Try.prog sAwake := (((SumsOk.nil.cons ok_in).cons ok_clamp).cons ok_less).cons ok_add
def gTrue : List SV → Option TV
  | [] => some (.s (bl true))
  | _ => none
theorem t_awake : runFn Try.prog sAwake 10 Try.f23 (bodyOf Try.f23) [] [] (fun tv hp => some (tv, hp)) = some (.s (bl true), []) := by kernel_rfl
theorem ok_awake : SumOk Try.prog 23 (valSum gTrue) := by
  refine sumOk_val okAwakes mixed Try.func23 (c := bodyOf Try.f23) (by kernel_rfl) (by kernel_rfl) ?_
  intro args tv h
  unfold gTrue at h
  split at h
  · cases h
    exact ⟨fun _ => rfl, fun _ => rfl, 10, t_awake⟩
  · cases h

/-! ### NumAdds -/
@[reducible] def sAdds : Sums := [(23, valSum gTrue), (24, valSum gAdd), (25, valSum gRefAdd)]
theorem okAdds : SumsOk Try.prog sAdds := ((SumsOk.nil.cons ok_refAdd).cons ok_add).cons ok_awake
theorem t_NumAdds (a b m : Int) : runFn Try.prog sAdds 10 Try.f7 (bodyOf Try.f7) [i64 a, i64 b, i64 m] [] lawK =
    bif add a b m == refAdd a b m then (bif add a b m == add b a m then some () else none) else none := by kernel_rfl
theorem fm (a b : Int) : foldMax a [b] = if b > a then b else a := rfl
theorem add_eq {a b m : Int} (hb : -9223372036854775808 ≤ b ∧ b ≤ 9223372036854775807) (hm : -9223372036854775808 ≤ m ∧ m ≤ 9223372036854775807) :
    add a b m = if foldMax a [0] + foldMax b [0] > foldMax m [0] then foldMax m [0] else foldMax a [0] + foldMax b [0] := by
  have h1 : 0 ≤ foldMax a [0] := by rw [fm]; split <;> omega
  have h2 : 0 ≤ foldMax b [0] := by rw [fm]; split <;> omega
  have h3 : 0 ≤ foldMax m [0] ∧ foldMax m [0] ≤ 9223372036854775807 := by rw [fm]; split <;> omega
  have h4 : foldMax b [0] ≤ 9223372036854775807 := by rw [fm]; split <;> omega
  unfold add
  generalize foldMax a [0] = x at *
  generalize foldMax b [0] = y at *
  generalize foldMax m [0] = z at *
  simp only [Bool.cond_eq_ite, decide_eq_true_eq]
  by_cases c : x ≥ z
  · rw [if_pos c]; split <;> omega
  · rw [if_neg c, wi (x := z - x) (by omega)]
    by_cases c2 : y ≥ z - x
    · rw [if_pos c2]; split <;> omega
    · rw [if_neg c2, if_neg (by omega), wi (by omega)]
theorem refAdd_eq {a b m : Int} (ha : -9223372036854775808 ≤ a ∧ a ≤ 9223372036854775807) (hb : -9223372036854775808 ≤ b ∧ b ≤ 9223372036854775807) (hm : -9223372036854775808 ≤ m ∧ m ≤ 9223372036854775807) :
    refAdd a b m = if foldMax a [0] + foldMax b [0] > foldMax m [0] then foldMax m [0] else foldMax a [0] + foldMax b [0] := by
  have up_eq : ∀ x : Int, -9223372036854775808 ≤ x ∧ x ≤ 9223372036854775807 → up x = foldMax x [0] ∧ 0 ≤ foldMax x [0] ∧ foldMax x [0] ≤ 9223372036854775807 := by
    intro x hx
    rw [fm]
    unfold up
    simp only [Bool.cond_eq_ite, decide_eq_true_eq]
    refine ⟨?_, ?_, ?_⟩
    · by_cases c : x < 0
      · rw [if_pos c]; split <;> omega
      · rw [if_neg c, wu (by omega)]; split <;> omega
    · split <;> omega
    · split <;> omega
  obtain ⟨e1, h1, h1'⟩ := up_eq a ha
  obtain ⟨e2, h2, h2'⟩ := up_eq b hb
  obtain ⟨e3, h3, h3'⟩ := up_eq m hm
  unfold refAdd
  rw [e1, e2, e3]
  generalize foldMax a [0] = x at *
  generalize foldMax b [0] = y at *
  generalize foldMax m [0] = z at *
  simp only [Bool.cond_eq_ite, decide_eq_true_eq]
  rw [wu (x := x + y) (by omega), wi (x := z) (by omega)]
  by_cases c : x + y > z
  · rw [if_pos c, if_pos c]
  · rw [if_neg c, if_neg c, wi (by omega)]
theorem NumAdds (a b m : Int) (wa : (Lit.int .i64 a).wf = true) (wb : (Lit.int .i64 b).wf = true) (wm : (Lit.int .i64 m).wf = true) (w : World) :
    Calls Try.prog 7 #[.int .i64 a, .int .i64 b, .int .i64 m] w fun e w' => e = .returned (.bool true) ∧ RowKit.Below w.heap.size w w' := by
  refine law_calls okAdds mixed Try.func7 (c := bodyOf Try.f7) (by kernel_rfl) lawK_spec (fuel := 10) (args := [i64 a, i64 b, i64 m]) (hp0 := []) (X := fun _ _ => False) (ρ := fun _ => none) (vs := [.int .i64 a, .int .i64 b, .int .i64 m]) ?_ ⟨rfl, rfl, rfl, trivial⟩ (by intro b sb h; simp at h) (fun _ _ => rfl)
  rw [t_NumAdds]
  have e1 := add_eq (a := a) (bnd wb) (bnd wm)
  have e2 := refAdd_eq (bnd wa) (bnd wb) (bnd wm)
  have e3 := add_eq (a := b) (bnd wa) (bnd wm)
  rw [Int.add_comm (foldMax b [0])] at e3
  rw [e2, e3, e1]
  simp

/-! ### NumClamps -/
@[reducible] def sClamps : Sums := [(23, valSum gTrue), (28, valSum gClamp), (29, valSum gClamp), (30, valSum gIn)]
theorem okClamps : SumsOk Try.prog sClamps := (((SumsOk.nil.cons ok_in).cons ok_refClamp).cons ok_clamp).cons ok_awake
theorem t_NumClamps (a b m : Int) : runFn Try.prog sClamps 10 Try.f9 (bodyOf Try.f9) [i64 a, i64 b, i64 m] [] lawK =
    bif clamp a b m == clamp a b m then
      bif decide (a ≥ b) then
        bif isIn a b m == decide (a ≤ m) then
          bif decide (b > m) then some () else bif isIn (clamp a b m) b m then (bif (clamp a b m == a) == isIn a b m then some () else none) else none
        else none
      else
        bif isIn a b m == false then
          bif decide (b > m) then some () else bif isIn (clamp a b m) b m then (bif (clamp a b m == a) == isIn a b m then some () else none) else none
        else none
    else none := by kernel_rfl
theorem NumClamps (a b m : Int) (_ : (Lit.int .i64 a).wf = true) (_ : (Lit.int .i64 b).wf = true) (_ : (Lit.int .i64 m).wf = true) (w : World) :
    Calls Try.prog 9 #[.int .i64 a, .int .i64 b, .int .i64 m] w fun e w' => e = .returned (.bool true) ∧ RowKit.Below w.heap.size w w' := by
  refine law_calls okClamps mixed Try.func9 (c := bodyOf Try.f9) (by kernel_rfl) lawK_spec (fuel := 10) (args := [i64 a, i64 b, i64 m]) (hp0 := []) (X := fun _ _ => False) (ρ := fun _ => none) (vs := [.int .i64 a, .int .i64 b, .int .i64 m]) ?_ ⟨rfl, rfl, rfl, trivial⟩ (by intro b sb h; simp at h) (fun _ _ => rfl)
  rw [t_NumClamps]
  have e : ∀ x y z : Int, isIn x y z = (decide (x ≥ y) && decide (x ≤ z)) := fun _ _ _ => rfl
  have h : isIn a b m == decide (a ≤ m) || !decide (a ≥ b) := by rw [e]; by_cases c : a ≥ b <;> simp [c]
  have h1 : a < b → isIn a b m = false := by intro c; rw [e]; simp; omega
  have h2 : b ≤ m → isIn (clamp a b m) b m = true := by
    intro c; rw [e]; unfold clamp; simp only [Bool.cond_eq_ite, decide_eq_true_eq, Bool.and_eq_true]
    (repeat' split) <;> omega
  have h3 : b ≤ m → ((clamp a b m == a) == isIn a b m) = true := by
    intro c
    rw [e]; unfold clamp; simp only [Bool.cond_eq_ite, decide_eq_true_eq]
    by_cases c1 : a < b
    · have : ¬ (a ≥ b) := by omega
      have : ¬ (b = a) := by omega
      simp [*]
    · have : a ≥ b := by omega
      by_cases c2 : a > m
      · have : ¬ (a ≤ m) := by omega
        have : ¬ (m = a) := by omega
        simp [*]
      · have : a ≤ m := by omega
        simp [*]
  by_cases c : b ≤ m
  · rw [h2 c, h3 c]
    by_cases d : a ≥ b
    · simp [d] at h; simp [d, h]
    · simp [d, h1 (by omega)]
  · have c' : b > m := by omega
    by_cases d : a ≥ b
    · simp [d] at h; simp [d, h, c']
    · simp [d, h1 (by omega), c']
end Go.Proofs.Ytnecfmoccnifcaa.NumLaw

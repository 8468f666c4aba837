/- What the functions of the package num, and of its reference, come to. No condition. -/
import Derived.Test.YtnecfmoccnifcaaSxB
import Derived.Test.YtnecfmoccnifcaaProg
import Derived.KernelRfl
set_option maxRecDepth 100000
namespace Go.Proofs.Ytnecfmoccnifcaa.Num
open Go Go.Proofs.Ytnecfmoccnifcaa.Sx

theorem mixed : Try.prog.follows .mixedOrders = true := by kernel_rfl
@[reducible] def i64 (n : Int) : SV := .c (.int .i64 n)
@[reducible] def u64 (n : Int) : SV := .c (.int .u64 n)
@[reducible] def bl (b : Bool) : SV := .c (.bool b)

/-! ### num.Add -/
def add (a b m : Int) : Int := bif decide (foldMax a [0] ≥ foldMax m [0]) then foldMax m [0] else bif decide (foldMax b [0] ≥ IntKind.i64.wrap (foldMax m [0] - foldMax a [0])) then foldMax m [0] else IntKind.i64.wrap (foldMax a [0] + foldMax b [0])
theorem t_add (a b m : Int) : runFn Try.prog [] 10 Try.f24 (bodyOf Try.f24) [i64 a, i64 b, i64 m] [] (fun tv hp => some (tv, hp)) =
    bif decide (foldMax a [0] ≥ foldMax m [0]) then some (.s (i64 (foldMax m [0])), [])
    else bif decide (foldMax b [0] ≥ IntKind.i64.wrap (foldMax m [0] - foldMax a [0])) then some (.s (i64 (foldMax m [0])), []) else some (.s (i64 (IntKind.i64.wrap (foldMax a [0] + foldMax b [0]))), []) := by kernel_rfl
def gAdd : List SV → Option TV
  | [.c (.int .i64 a), .c (.int .i64 b), .c (.int .i64 m)] => some (.s (i64 (add a b m)))
  | _ => none
theorem ok_add : SumOk Try.prog 24 (valSum gAdd) := by
  refine sumOk_val SumsOk.nil mixed Try.func24 (c := bodyOf Try.f24) (by kernel_rfl) (by kernel_rfl) ?_
  intro args tv h
  unfold gAdd at h
  split at h
  · cases h
    refine ⟨fun _ => rfl, fun _ => rfl, 10, ?_⟩
    rw [t_add]
    simp only [add, Bool.cond_eq_ite]
    (repeat' split) <;> rfl
  · cases h

/-! ### num.Less -/
def less (a b : Int) : Int := bif decide (a ≤ b) then 0 else bif decide (b < 0) then (bif decide (a > IntKind.i64.wrap (9223372036854775807 + b)) then 9223372036854775807 else IntKind.i64.wrap (a - b)) else IntKind.i64.wrap (a - b)
theorem t_less (a b : Int) : runFn Try.prog [] 10 Try.f26 (bodyOf Try.f26) [i64 a, i64 b] [] (fun tv hp => some (tv, hp)) =
    bif decide (a ≤ b) then some (.s (i64 0), []) else bif decide (b < 0) then (bif decide (a > IntKind.i64.wrap (9223372036854775807 + b)) then some (.s (i64 9223372036854775807), []) else some (.s (i64 (IntKind.i64.wrap (a - b))), [])) else some (.s (i64 (IntKind.i64.wrap (a - b))), []) := by kernel_rfl
def gLess : List SV → Option TV
  | [.c (.int .i64 a), .c (.int .i64 b)] => some (.s (i64 (less a b)))
  | _ => none
theorem ok_less : SumOk Try.prog 26 (valSum gLess) := by
  refine sumOk_val SumsOk.nil mixed Try.func26 (c := bodyOf Try.f26) (by kernel_rfl) (by kernel_rfl) ?_
  intro args tv h
  unfold gLess at h
  split at h
  · cases h
    refine ⟨fun _ => rfl, fun _ => rfl, 10, ?_⟩
    rw [t_less]
    simp only [less, Bool.cond_eq_ite]
    (repeat' split) <;> rfl
  · cases h

/-! ### num.In -/
def isIn (n lo hi : Int) : Bool := decide (n ≥ lo) && decide (n ≤ hi)
theorem t_in (n lo hi : Int) : runFn Try.prog [] 10 Try.f30 (bodyOf Try.f30) [i64 n, i64 lo, i64 hi] [] (fun tv hp => some (tv, hp)) =
    bif decide (n ≥ lo) then some (.s (bl (decide (n ≤ hi))), []) else some (.s (bl false), []) := by kernel_rfl
def gIn : List SV → Option TV
  | [.c (.int .i64 a), .c (.int .i64 b), .c (.int .i64 m)] => some (.s (bl (isIn a b m)))
  | _ => none
theorem ok_in : SumOk Try.prog 30 (valSum gIn) := by
  refine sumOk_val SumsOk.nil mixed Try.func30 (c := bodyOf Try.f30) (by kernel_rfl) (by kernel_rfl) ?_
  intro args tv h
  unfold gIn at h
  split at h
  · cases h
    refine ⟨fun _ => rfl, fun _ => rfl, 10, ?_⟩
    rw [t_in]
    unfold isIn
    rename_i n lo hi
    cases decide (n ≥ lo) <;> rfl
  · cases h

/-! ### the reference -/
def up (a : Int) : Int := bif decide (a < 0) then 0 else IntKind.u64.wrap a
theorem t_up (a : Int) : runFn Try.prog [] 10 Try.f31 (bodyOf Try.f31) [i64 a] [] (fun tv hp => some (tv, hp)) =
    bif decide (a < 0) then some (.s (u64 0), []) else some (.s (u64 (IntKind.u64.wrap a)), []) := by kernel_rfl
def gUp : List SV → Option TV
  | [.c (.int .i64 a)] => some (.s (u64 (up a)))
  | _ => none
theorem ok_up : SumOk Try.prog 31 (valSum gUp) := by
  refine sumOk_val SumsOk.nil mixed Try.func31 (c := bodyOf Try.f31) (by kernel_rfl) (by kernel_rfl) ?_
  intro args tv h
  unfold gUp at h
  split at h
  · cases h
    refine ⟨fun _ => rfl, fun _ => rfl, 10, ?_⟩
    rw [t_up]
    simp only [up, Bool.cond_eq_ite]
    (repeat' split) <;> rfl
  · cases h
@[reducible] def sUp : Sums := [(31, valSum gUp)]
def refAdd (a b m : Int) : Int := bif decide (IntKind.u64.wrap (up a + up b) > up m) then IntKind.i64.wrap (up m) else IntKind.i64.wrap (IntKind.u64.wrap (up a + up b))
theorem t_refAdd (a b m : Int) : runFn Try.prog sUp 10 Try.f25 (bodyOf Try.f25) [i64 a, i64 b, i64 m] [] (fun tv hp => some (tv, hp)) =
    bif decide (IntKind.u64.wrap (up a + up b) > up m) then some (.s (i64 (IntKind.i64.wrap (up m))), []) else some (.s (i64 (IntKind.i64.wrap (IntKind.u64.wrap (up a + up b)))), []) := by kernel_rfl
def gRefAdd : List SV → Option TV
  | [.c (.int .i64 a), .c (.int .i64 b), .c (.int .i64 m)] => some (.s (i64 (refAdd a b m)))
  | _ => none
theorem ok_refAdd : SumOk Try.prog 25 (valSum gRefAdd) := by
  refine sumOk_val (Su := sUp) (SumsOk.nil.cons ok_up) mixed Try.func25 (c := bodyOf Try.f25) (by kernel_rfl) (by kernel_rfl) ?_
  intro args tv h
  unfold gRefAdd at h
  split at h
  · cases h
    refine ⟨fun _ => rfl, fun _ => rfl, 10, ?_⟩
    rw [t_refAdd]
    simp only [refAdd, Bool.cond_eq_ite]
    (repeat' split) <;> rfl
  · cases h
end Go.Proofs.Ytnecfmoccnifcaa.Num

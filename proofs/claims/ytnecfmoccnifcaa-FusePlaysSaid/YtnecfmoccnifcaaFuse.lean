/- What the methods of a fuse, and of its reference, come to. No condition. -/
import Derived.Test.YtnecfmoccnifcaaSxB
import Derived.Test.YtnecfmoccnifcaaProg
import Derived.KernelRfl
set_option maxRecDepth 100000
set_option linter.unusedSimpArgs false
namespace Go.Proofs.Ytnecfmoccnifcaa.Fuse
open Go Go.Proofs.Ytnecfmoccnifcaa.Sx

theorem mixed : Try.prog.follows .mixedOrders = true := by kernel_rfl
@[reducible] def i64 (n : Int) : SV := .c (.int .i64 n)
@[reducible] def bl (b : Bool) : SV := .c (.bool b)
@[reducible] def unit : TV := .tup []

structure F where
  left : Int
  blown : Bool
  count : Int
def encF (s : F) : List CV := [.int .i64 s.left, .bool s.blown, .int .i64 s.count]
def decF : List CV → Option F
  | [.int .i64 l, .bool b, .int .i64 c] => some ⟨l, b, c⟩
  | _ => none
theorem decF_spec (l : List CV) (s : F) (h : decF l = some s) : l = encF s := by
  unfold decF at h; split at h <;> cases h; rfl
theorem encF_ren (s : F) (π) : (encF s).map (CV.ren π) = encF s := rfl

def armF (s : F) (n : Int) : F := ⟨foldMax n [0], false, s.count⟩
def out (s : F) : Bool := s.blown || s.left == 0
def spendF (s : F) : F := bif out s then ⟨s.left, true, s.count⟩ else ⟨bif decide (s.left > 0) then IntKind.i64.wrap (s.left - 1) else s.left, s.blown, IntKind.i64.wrap (s.count + 1)⟩
def spendB (s : F) : Bool := !out s
def resetF (s : F) : F := ⟨-1, false, s.count⟩

def gNew : List SV → Option (List CV)
  | [] => some (encF ⟨-1, false, 0⟩)
  | _ => none
theorem t_new : runFn Try.prog [] 10 Try.f13 (bodyOf Try.f13) [] [] (fun tv hp => some (tv, hp)) = some (.s (.c (.ptr 0 0)), [some (.cells (encF ⟨-1, false, 0⟩))]) := by kernel_rfl
theorem ok_new : SumOk Try.prog 13 (newSum gNew) := by
  refine sumOk_new SumsOk.nil mixed Try.func13 (c := bodyOf Try.f13) (by kernel_rfl) (by kernel_rfl) ?_
  intro args l h
  unfold gNew at h
  split at h
  · cases h
    exact ⟨fun _ => rfl, fun _ => rfl, 10, t_new⟩
  · cases h

def gArm : F → List SV → Option (TV × Option F)
  | s, [.c (.int .i64 n)] => some (unit, some (armF s n))
  | _, _ => none
theorem t_arm (l c n : Int) (b : Bool) : runFn Try.prog [] 10 Try.f15 (bodyOf Try.f15) [.c (.ptr 0 0), i64 n] [.cells [.int .i64 l, .bool b, .int .i64 c]] (fun tv hp => some (tv, hp)) =
    some (unit, [some (.cells (encF (armF ⟨l, b, c⟩ n)))]) := by kernel_rfl
theorem ok_arm : SumOk Try.prog 15 (ptrVal encF decF gArm) := by
  refine sumOk_ptrV SumsOk.nil mixed Try.func15 (c := bodyOf Try.f15) (by kernel_rfl) (by kernel_rfl) decF_spec encF_ren ?_
  intro s rest tv s' h
  unfold gArm at h
  split at h
  · cases h
    exact ⟨fun _ => rfl, fun _ => rfl, 10, t_arm ..⟩
  · cases h

def gSpend : F → List SV → Option (TV × Option F)
  | s, [] => some (.s (bl (spendB s)), some (spendF s))
  | _, _ => none
theorem t_spend (l c : Int) (b : Bool) : runFn Try.prog [] 10 Try.f17 (bodyOf Try.f17) [.c (.ptr 0 0)] [.cells [.int .i64 l, .bool b, .int .i64 c]] (fun tv hp => some (tv, hp)) =
    bif b then some (.s (bl false), [some (.cells [.int .i64 l, .bool true, .int .i64 c])]) else bif l == 0 then some (.s (bl false), [some (.cells [.int .i64 l, .bool true, .int .i64 c])])
    else bif decide (l > 0) then some (.s (bl true), [some (.cells [.int .i64 (IntKind.i64.wrap (l - 1)), .bool b, .int .i64 (IntKind.i64.wrap (c + 1))])])
    else some (.s (bl true), [some (.cells [.int .i64 l, .bool b, .int .i64 (IntKind.i64.wrap (c + 1))])]) := by kernel_rfl
theorem ok_spend : SumOk Try.prog 17 (ptrVal encF decF gSpend) := by
  refine sumOk_ptrV SumsOk.nil mixed Try.func17 (c := bodyOf Try.f17) (by kernel_rfl) (by kernel_rfl) decF_spec encF_ren ?_
  intro s rest tv s' h
  unfold gSpend at h
  split at h
  · cases h
    refine ⟨fun _ => rfl, fun _ => rfl, 10, (t_spend ..).trans ?_⟩
    obtain ⟨l, b, c⟩ := s
    unfold spendB spendF out
    cases b <;> cases h1 : l == 0 <;> cases h2 : decide (l > 0) <;> simp [h1, h2, encF]
  · cases h

def gReset : F → List SV → Option (TV × Option F)
  | s, [] => some (unit, some (resetF s))
  | _, _ => none
theorem t_reset (l c : Int) (b : Bool) : runFn Try.prog [] 10 Try.f19 (bodyOf Try.f19) [.c (.ptr 0 0)] [.cells [.int .i64 l, .bool b, .int .i64 c]] (fun tv hp => some (tv, hp)) =
    some (unit, [some (.cells (encF (resetF ⟨l, b, c⟩)))]) := by kernel_rfl
theorem ok_reset : SumOk Try.prog 19 (ptrVal encF decF gReset) := by
  refine sumOk_ptrV SumsOk.nil mixed Try.func19 (c := bodyOf Try.f19) (by kernel_rfl) (by kernel_rfl) decF_spec encF_ren ?_
  intro s rest tv s' h
  unfold gReset at h
  split at h
  · cases h
    exact ⟨fun _ => rfl, fun _ => rfl, 10, t_reset ..⟩
  · cases h

def gBlown : F → List SV → Option (TV × Option F)
  | s, [] => some (.s (bl s.blown), none)
  | _, _ => none
theorem t_blown (l c : Int) (b : Bool) : runFn Try.prog [] 10 Try.f21 (bodyOf Try.f21) [.c (.ptr 0 0)] [.cells [.int .i64 l, .bool b, .int .i64 c]] (fun tv hp => some (tv, hp)) =
    some (.s (bl b), [some (.cells [.int .i64 l, .bool b, .int .i64 c])]) := by kernel_rfl
theorem ok_blown : SumOk Try.prog 21 (ptrVal encF decF gBlown) := by
  refine sumOk_ptrV SumsOk.nil mixed Try.func21 (c := bodyOf Try.f21) (by kernel_rfl) (by kernel_rfl) decF_spec encF_ren ?_
  intro s rest tv s' h
  unfold gBlown at h
  split at h
  · cases h
    exact ⟨fun _ => rfl, fun _ => rfl, 10, t_blown ..⟩
  · cases h

def gCount : F → List SV → Option (TV × Option F)
  | s, [] => some (.s (i64 s.count), none)
  | _, _ => none
theorem t_count (l c : Int) (b : Bool) : runFn Try.prog [] 10 Try.f22 (bodyOf Try.f22) [.c (.ptr 0 0)] [.cells [.int .i64 l, .bool b, .int .i64 c]] (fun tv hp => some (tv, hp)) =
    some (.s (i64 c), [some (.cells [.int .i64 l, .bool b, .int .i64 c])]) := by kernel_rfl
theorem ok_count : SumOk Try.prog 22 (ptrVal encF decF gCount) := by
  refine sumOk_ptrV SumsOk.nil mixed Try.func22 (c := bodyOf Try.f22) (by kernel_rfl) (by kernel_rfl) decF_spec encF_ren ?_
  intro s rest tv s' h
  unfold gCount at h
  split at h
  · cases h
    exact ⟨fun _ => rfl, fun _ => rfl, 10, t_count ..⟩
  · cases h
end Go.Proofs.Ytnecfmoccnifcaa.Fuse

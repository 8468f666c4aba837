/- The answers that the document fixes. No condition. -/
import Derived.Test.YtkkacjmjjhjpeaaDoorSt7
set_option maxRecDepth 100000
set_option linter.unusedSimpArgs false
set_option linter.unusedVariables false
namespace Go.Proofs.YtkkacjmjjhjpeaaDoor.St
open Go Go.Proofs.YtkkacjmjjhjpeaaDoor.Sx Go.Shelf Go.RowKit

def firstL (a b : Int) : List CV := [.int .i64 0, .int .i64 0, .int .i64 a, .int .i64 0, .int .i64 b, .int .i64 0, .bool true, .bool false, .int .i64 0, .int .i64 0, .int .i64 0, .int .i64 0]
theorem t_first {R : Type} (a b : Int) (K : TV → List (Option SB) → Option R) : runFn Tryd.prog [] 10 Tryd.f16 (bodyOf Tryd.f16) [i64 a, i64 b] [] K = K (.s (.agg (firstL a b))) [] := by kernel_rfl
def g_first : List SV → Option TV
  | [.c (.int .i64 a), .c (.int .i64 b)] => some (.s (.agg (firstL a b)))
  | _ => none
theorem ok_first : SumOk Tryd.prog 16 (valSum g_first) := by
  refine sumOk_val SumsOk.nil mixed Tryd.func16 (c := bodyOf Tryd.f16) (by kernel_rfl) (by kernel_rfl) ?_
  intro args tv hg
  unfold g_first at hg
  split at hg
  · cases hg
    exact ⟨fun π => rfl, fun π => rfl, 10, t_first _ _ _⟩
  · cases hg
/-- What the program's four functions come to. -/
@[reducible] noncomputable def SP : Sums := (9, libSum g_line) :: (11, valSum (g_name phB)) :: (13, valSum (g_name erB)) :: []
theorem okSP : SumsOk Tryd.prog SP := ((SumsOk.nil.cons ok_er).cons ok_ph).cons ok_line
@[reducible] noncomputable def SA0 : Sums := (16, valSum g_first) :: SP
theorem okSA0 : SumsOk Tryd.prog SA0 := okSP.cons ok_first
theorem t_awake {R : Type} (K : TV → List (Option SB) → Option R) : runFn Tryd.prog SA0 10 Tryd.f8 (bodyOf Tryd.f8) [] [] K = K (.s (bl true)) [] := by kernel_rfl
def g_awake : List SV → Option TV
  | [] => some (.s (bl true))
  | _ => none
theorem ok_awake : SumOk Tryd.prog 8 (valSum g_awake) := by
  refine sumOk_val okSA0 mixed Tryd.func8 (c := bodyOf Tryd.f8) (by kernel_rfl) (by kernel_rfl) ?_
  intro args tv hg
  unfold g_awake at hg
  split at hg
  · cases hg
    exact ⟨fun π => rfl, fun π => rfl, 10, t_awake _⟩
  · cases hg
/-- What a law calls. -/
@[reducible] noncomputable def SLw : Sums := (8, valSum g_awake) :: (10, libSum g_line) :: (12, valSum (g_name phB)) :: (14, valSum (g_name erB)) :: SP
theorem okSLw : SumsOk Tryd.prog SLw := (((okSP.cons ok_err).cons ok_phr).cons ok_rline).cons ok_awake
end Go.Proofs.YtkkacjmjjhjpeaaDoor.St

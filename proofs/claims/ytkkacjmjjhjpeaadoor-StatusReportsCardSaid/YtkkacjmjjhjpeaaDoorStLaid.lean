/- What the rows' listed tables give the walks; a start at which they stand so. No condition beyond those that each theorem names. -/
import Derived.Test.YtkkacjmjjhjpeaaDoorRows
import Derived.Test.YtkkacjmjjhjpeaaDoorSt8
import Derived.WalkKit
import Derived.ProofKit
import Derived.LaidMore
import Derived.LaidLaws
import Derived.Stop.Joined
import Derived.Lib.LaidTab
import Derived.OpenShut
set_option maxRecDepth 100000
set_option linter.unusedSimpArgs false
set_option linter.unusedVariables false
namespace Go.Proofs.YtkkacjmjjhjpeaaDoor.St
open Go Go.Proofs.YtkkacjmjjhjpeaaDoor.Sx Go.Shelf Go.RowKit
open Go.ChangeShapes Go.WideShapes Go.ChangeAt

theorem own : ownKnob Tryd.prog.godebug = none := by kernel_rfl
/-- The listed tables. -/
def laid3 : List (String × DataW Unit) := [("math/bits.deBruijn32tab", Rows.laid_math_bits_deBruijn32tab), ("math/bits.deBruijn64tab", Rows.laid_math_bits_deBruijn64tab), ("internal/strconv.uint64pow10", Rows.laid_internal_strconv_uint64pow10)]
theorem tab_eq : (Rows.laid_internal_strconv_uint64pow10 : DataW Unit) = Lib.tabData .u64 Lib.pow10Tab := by kernel_rfl
theorem of_laid {W : World} (h : laidMetH Tryd.prog laid3 W) : TabsAt fun n => W.heap[n]? := by
  rw [MakeChecks.laidMetH_plain _ _ _ (by kernel_rfl)] at h
  obtain ⟨ps, ⟨g0, t0, cs0, f0, p0, q0, hg0, ht0, hv0, hd0, ⟨g1, t1, cs1, f1, p1, q1, hg1, ht1, hv1, hd1, ⟨g2, t2, cs2, f2, p2, q2, hg2, ht2, hv2, hd2, _⟩, _⟩, _⟩, _⟩ := h
  obtain rfl := Option.some.inj ((show Tryd.prog.globalNamed "internal/strconv.uint64pow10" = some 1 by kernel_rfl).symm.trans hg2)
  obtain rfl := Option.some.inj ((show (Tryd.prog.globals[1]?).map (·.type) = some 74 by kernel_rfl).symm.trans ht2)
  rw [tab_eq] at hd2
  have hc := Lib.cells_of_tab Tryd.underlying74 Tryd.underlying67 (show Tryd.prog.cellsOf 67 = 1 by kernel_rfl) (show Tryd.prog.cellsOf 74 = 20 by kernel_rfl) hd2
  intro p hp
  obtain rfl := List.mem_singleton.1 hp
  unfold World.var? at hv2
  rw [hg2] at hv2
  simp only [Option.bind_some] at hv2
  split at hv2
  · rename_i cs t fr hh
    cases hv2
    have hc' : cs2 = (Lib.pow10Tab.map fun z => Value.int .u64 z).toArray := by rw [← hc]
    rw [hc'] at hh
    exact ⟨t, fr, hh⟩
  · cases hv2
/-- The door's own heap meets the condition. -/
theorem door_met (os : Os) (args : Array Value) : laidMetH Tryd.prog laid3 ((World.doorLaid Tryd.prog 24 os).forCall (fun _ _ => 0) ⟨#[], args, []⟩).memory :=
  laidMetH_of_parts3 (fuel := 8) (laidMet_of_run' 8 (by kernel_rfl) (by kernel_rfl)) (by kernel_rfl) (by kernel_rfl)
theorem door_shaped (os : Os) (args : Array Value) : ((World.doorLaid Tryd.prog 24 os).forCall (fun _ _ => 0) ⟨#[], args, []⟩).Shaped Tryd.prog :=
  World.shaped_of_RefB (by kernel_rfl) (by kernel_rfl)
end Go.Proofs.YtkkacjmjjhjpeaaDoor.St

/- The row of StatusReports: its walk, at the wide form of the claim; and its tied card. -/
import Derived.Test.YtkkacjmjjhjpeaaDoorRows
import Derived.Test.YtkkacjmjjhjpeaaDoorCards
import Derived.Test.YtkkacjmjjhjpeaaDoorTie
import Derived.Test.YtkkacjmjjhjpeaaDoorStLaid
import Derived.Test.YtkkacjmjjhjpeaaDoorSt16
import Derived.WalkKit
import Derived.ProofKit
import Derived.LaidMore
import Derived.OpenShut
import Derived.Stop.Joined
import Derived.SevenTiedAt
import Derived.Below
import Derived.SizedLaws
import Derived.Carry
namespace Go.Proofs.YtkkacjmjjhjpeaaDoor.statusReports
open Go.ChangeShapes Go.WideShapes Go.ChangeAt Go.RowKit
set_option linter.unusedVariables false
set_option maxRecDepth 100000 in
theorem lifted (os : Os) (started : os.Started) (H : Type) (enc : TypeId × Value → H) :
    ReturnsInHanded {} Tryd.checked os 7 .any (fun w args => (Rows.statusReportsSpec.pre enc Tryd.prog Tryd.f7 [] false w args ∧ laidMetH Tryd.prog St.laid3 w) ∧ sizedMet enc Tryd.prog Tryd.f7 (OpenSpec.ofChange Rows.statusReportsSpec) false w args)
      (Rows.statusReportsSpec.post enc Tryd.prog Tryd.f7 false true false false) := by
  refine returnsInHanded_of_change_and (C := Tryd.checked) (X := fun w _ => laidMetH Tryd.prog St.laid3 w) (fun _ _ _ hh h => h.of_heap hh) St.own started (by kernel_rfl) Tryd.func7
    (ChangeSpec.witness_shaped (enc := enc) (C := Tryd.checked) (os := os) (X := fun w _ => laidMetH Tryd.prog St.laid3 w) false (World.doorLaid Tryd.prog 24 os) #[.slice none 0 0] 8 rfl (St.door_shaped os _) (by kernel_rfl) (by kernel_rfl) (by kernel_rfl) (St.door_met os _)) ?_
  intro W base args ds gs before hval0 hW _ _ hL _
  have ht := St.of_laid hL
  have hval : ∀ (j : Nat) t v, Tryd.f7.params[j]? = some t → args[j]? = some v → Value.okWide Tryd.prog W .any base t v := hval0
  have hW' := hW
  obtain ⟨p, q, hA0, hV, rfl, hfz, hnd⟩ := hW
  have hA : DataW.TrodAll enc Tryd.prog W 0 (fun _ => true) true Tryd.f7.params.toList args.toList ds p := hA0
  rw [Tryd.params7] at hA hval
  obtain ⟨v0, vs0, d0, ds0, p0, q0, hargs, rfl, rfl, h0, r0⟩ := trodAll_cons hA
  obtain ⟨rfl, rfl, rfl⟩ := trodAll_nil r0
  obtain rfl : args = #[v0] := by cases args; simp_all
  obtain ⟨rfl, rfl⟩ := trodVars_none hV
  clear hA0 hval0
  have lt0 : ∀ x ∈ p0, x.block < W.heap.size := fun x hx => by simpa using hW'.lt x (by simp [hx])
  obtain ⟨N0, f0, l0, q0_, m0_, z0, b0_⟩ := Sx.open_flats (P := Tryd.prog) (enc' := St.encRp) (Q := St.wfRp) (X := fun _ _ => False) (ρ := fun _ => none) (d := 20) (ls := [.int .i64, .int .i64, .int .i64, .int .i64, .int .i64, .int .i64, .int .i64, .bool, .bool, .int .i64, .int .i64, .int .i64, .int .i64, .int .i64, .int .i64, .int .i64, .int .i64, .int .i64, .int .i64, .bool, .int .i64]) Tryd.underlying40 (by kernel_rfl : Sx.leavesT Tryd.prog 20 32 = _) (by kernel_rfl) (by decide) St.opRp (hval 0 40 v0 rfl rfl) h0 (ht := ht)
  refine (St.StatusReports N0 f0 q0_ W ht _ l0 z0 b0_).mono fun e W' ⟨he, bel⟩ => ?_
  subst he
  exact ⟨_, rfl, _, _, _, [], _, [], hW', trodAll_mk1 (shut_bool Tryd.underlying4 _), (trodAll_cons_mk (Below.trod (P := Tryd.prog) (by kernel_rfl) (by kernel_rfl) (of_decide_eq_true (by kernel_rfl)) h0 bel lt0) trodAll_mk0), rfl, bel.frame _, fun h => by cases h⟩
theorem over : Rows.statusReportsRow.holds Tryd.pinned (OpenSpec.ofChange Rows.statusReportsSpec) :=
  OpenClaim.holds_of_wide 7 Tryd.f7 rfl rfl rfl rfl rfl rfl rfl ⟨rfl, rfl, rfl, rfl, rfl⟩ rfl rfl rfl rfl rfl (by kernel_rfl) Tryd.func7 (by kernel_rfl)
    (of_decide_eq_true (by kernel_rfl)) (by unfold Func.isWrapper; first | (rw [if_pos (by decide +kernel)]; kernel_rfl) | (rw [if_neg (by decide +kernel)]; exact ⟨rfl, rfl⟩))
    (fun os started H enc _ => lifted os started H enc)
/-- The tied card: the row, and what it lists tied to the program's text. -/
theorem card : Rows.StatusReportsCardSaid :=
  Claim7.holds_tied_plain_at .later [] [.data, .data, .data] true (true, "556b20e27d14315df8f4de5297f456c2619c6ef66337082aeeeff60f28999aa1") false
    over (fun _ h => by cases h) (by kernel_rfl) (fun _ h => by cases h) statusReports_row_tie rfl ⟨rfl, rfl⟩ (by kernel_rfl) rfl
    (fun f fn hf hfn => by
      obtain rfl : f = 7 := Option.some.inj ((show Tryd.prog.funcNamed "switchback/switchbacklaw24.StatusReports" = some 7 by kernel_rfl).symm.trans hf) |>.symm
      obtain rfl : fn = Tryd.f7 := (Option.some.inj (Tryd.func7.symm.trans hfn)).symm
      exact ⟨by kernel_rfl, fun j t ht => by
        rw [Tryd.params7] at ht
        have hm : t ∈ [40] := by simpa using Array.mem_of_getElem? ht
        have hall : ([40].all fun u => !Tryd.prog.wantsStandIn u) = true := by kernel_rfl
        exact (show Tryd.prog.wantsStandIn t = false by simpa using List.all_eq_true.1 hall t hm)⟩)
    (by kernel_rfl)
#print axioms card
end Go.Proofs.YtkkacjmjjhjpeaaDoor.statusReports
namespace Go.Proofs.YtkkacjmjjhjpeaaDoor
/-- The card, under a short name, for the claim. -/
theorem statusReportsCard_holds : Rows.StatusReportsCardSaid := statusReports.card
end Go.Proofs.YtkkacjmjjhjpeaaDoor

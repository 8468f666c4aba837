/- The laws StatusLines, StatusNames: true, and no memory that was there is written. -/
import Derived.Test.YtkkacjmjjhjpeaaDoorSt8
set_option maxRecDepth 100000
set_option linter.unusedSimpArgs false
set_option linter.unusedVariables false
namespace Go.Proofs.YtkkacjmjjhjpeaaDoor.St
open Go Go.Proofs.YtkkacjmjjhjpeaaDoor.Sx Go.Shelf Go.RowKit

theorem okR_wf {r : Rp} (h : wfRp r) : okR r = true := by
  simp only [okR, List.all_cons, List.all_nil, Bool.and_true, Bool.and_eq_true]
  exact ⟨okI_wf h.tick, okI_wf h.slot, okI_wf h.cgen, okI_wf h.active, okI_wf h.gen, okI_wf h.rev0, okI_wf h.rev1, okI_wf h.vwant0, okI_wf h.vwant1, okI_wf h.ready0, okI_wf h.ready1⟩
theorem lawK_if (b : Bool) : lawK (.s (bl b)) [] = bif b then some () else none := rfl
theorem t_StatusLines (r : Rp) : runFn Tryd.prog SLw 10 Tryd.f3 (bodyOf Tryd.f3) [.agg (encRp r)] [] lawK =
    okK (okR r) (okK (okR r) (lawK (.s (bl ((lineB r).toList == (lineB r).toList))) [])) := by kernel_rfl
theorem StatusLines (r : Rp) (hw : wfRp r) (W : World) (ht : TabsAt fun n => W.heap[n]?) (v : Value) (hv : ∀ X ρ, SV.R X ρ (.agg (encRp r)) v) :
    Calls Tryd.prog 3 #[v] W fun e w' => e = .returned (.bool true) ∧ Below W.heap.size W w' := by
  have h : runFn Tryd.prog SLw 10 Tryd.f3 (bodyOf Tryd.f3) [.agg (encRp r)] [] lawK = some () := by
    rw [t_StatusLines, okR_wf hw, lawK_if, beq_self_eq_true]; rfl
  exact law_calls okSLw mixed Tryd.func3 (c := bodyOf Tryd.f3) (by kernel_rfl) lawK_spec h (ht := ht) (X := fun _ _ => False) (ρ := noRho) (vs := [v]) ⟨hv _ _, trivial⟩
    (fun b sb hb => by simp at hb) (fun b _ => rfl)
theorem t_StatusNames (p e : Int) : runFn Tryd.prog SLw 10 Tryd.f4 (bodyOf Tryd.f4) [i64 p, i64 e] [] lawK =
    bif (phB p).toList == (phB p).toList then lawK (.s (bl ((erB e).toList == (erB e).toList))) [] else lawK (.s (bl false)) [] := by kernel_rfl
theorem StatusNames (p e : Int) (hp : (Lit.int .i64 p).wf = true) (he : (Lit.int .i64 e).wf = true) (W : World) (ht : TabsAt fun n => W.heap[n]?) :
    Calls Tryd.prog 4 #[.int .i64 p, .int .i64 e] W fun x w' => x = .returned (.bool true) ∧ Below W.heap.size W w' := by
  have h : runFn Tryd.prog SLw 10 Tryd.f4 (bodyOf Tryd.f4) [i64 p, i64 e] [] lawK = some () := by
    rw [t_StatusNames, lawK_if, beq_self_eq_true, beq_self_eq_true]; rfl
  exact law_calls okSLw mixed Tryd.func4 (c := bodyOf Tryd.f4) (by kernel_rfl) lawK_spec h (ht := ht) (X := fun _ _ => False) (ρ := noRho) (vs := [.int .i64 p, .int .i64 e]) ⟨rfl, rfl, trivial⟩
    (fun b sb hb => by simp at hb) (fun b _ => rfl)
end Go.Proofs.YtkkacjmjjhjpeaaDoor.St

/- The law StatusOne: true, and no memory that was there is written. -/
import Derived.Test.YtkkacjmjjhjpeaaDoorSt10
set_option maxRecDepth 100000
set_option linter.unusedSimpArgs false
set_option linter.unusedVariables false
namespace Go.Proofs.YtkkacjmjjhjpeaaDoor.St
open Go Go.Proofs.YtkkacjmjjhjpeaaDoor.Sx Go.Shelf Go.RowKit

/-- What a line tells. -/
def Same (r s : Rp) : Prop := r.err = s.err ∧ r.tick = s.tick ∧ (r.slot = s.slot ∧ r.cgen = s.cgen) ∧ (r.vwant0 = s.vwant0 ∧ r.vwant1 = s.vwant1 ∧ r.ready0 = s.ready0 ∧ r.ready1 = s.ready1) ∧ r.phase = s.phase ∧ r.active = s.active ∧ r.gen = s.gen ∧ r.rev0 = s.rev0 ∧ r.rev1 = s.rev1
theorem line_same {r s : Rp} (hr : r.up = true) (hs : s.up = true) (h : Same r s) : lineB r = lineB s := by
  obtain ⟨h1, h2, ⟨h3, h4⟩, ⟨h5, h6, h7, h8⟩, h9, h10, h11, h12, h13⟩ := h
  unfold lineB l4 l6
  rw [hr, hs, h1, h2, h3, h4, h5, h6, h7, h8, h9, h10, h11, h12, h13]
theorem same_line {r s : Rp} (hr : r.up = true) (hs : s.up = true) (e1 : 0 ≤ r.err ∧ r.err < 15) (e2 : 0 ≤ s.err ∧ s.err < 15) (p1 : 0 ≤ r.phase ∧ r.phase < 8) (p2 : 0 ≤ s.phase ∧ s.phase < 8) (h : lineB r = lineB s) : Same r s := by
  have h := line_inj h
  unfold wordsOf headW moreW at h
  rw [hr, hs] at h
  simp only [cond_true, List.cons_append, List.nil_append, List.cons.injEq, true_and, and_true] at h
  obtain ⟨a1, a2, a3, a4, a5, a6, a7, a8, a9, a10, a11, a12, a13⟩ := h
  exact ⟨er_inj e1 e2 a1, itoa_inj a2, ⟨itoa_inj a3, itoa_inj a4⟩, ⟨itoa_inj a10, itoa_inj a11, itoa_inj a12, itoa_inj a13⟩, ph_inj p1 p2 a5, itoa_inj a6, itoa_inj a7, itoa_inj a8, itoa_inj a9⟩
def resK (r s : Rp) (b : Bool) : Option Unit := okK (okR r) (okK (okR s) (lawK (.s (bl (((lineB r).toList == (lineB s).toList) == b))) []))
theorem t_StatusOne (r s : Rp) : runFn Tryd.prog SLw 10 Tryd.f5 (bodyOf Tryd.f5) [.agg (encRp r), .agg (encRp s)] [] lawK =
    bif !r.up then some () else bif !s.up then some () else bif decide (r.err < 0) then some () else bif decide (r.err > 14) then some () else bif decide (s.err < 0) then some () else bif decide (s.err > 14) then some () else
    bif decide (r.phase < 0) then some () else bif decide (r.phase > 7) then some () else bif decide (s.phase < 0) then some () else bif decide (s.phase > 7) then some () else
    bif r.err == s.err then (bif r.tick == s.tick then (bif r.slot == s.slot && (r.cgen == s.cgen && true) then (bif r.vwant0 == s.vwant0 && (r.vwant1 == s.vwant1 && (r.ready0 == s.ready0 && (r.ready1 == s.ready1 && true))) then
    (bif r.phase == s.phase then (bif r.active == s.active then (bif r.gen == s.gen then resK r s (r.rev0 == s.rev0 && (r.rev1 == s.rev1 && true)) else resK r s false) else resK r s false) else resK r s false) else resK r s false) else resK r s false) else resK r s false) else resK r s false := by kernel_rfl
theorem res_eq {r s : Rp} (hr : okR r = true) (hs : okR s = true) {b : Bool} (h : decide (lineB r = lineB s) = b) : resK r s b = some () := by
  unfold resK okK
  rw [hr, hs, beq_str, h, lawK_if, beq_self_eq_true]
  rfl
theorem one_true {r s : Rp} (hr : okR r = true) (hs : okR s = true) : runFn Tryd.prog SLw 10 Tryd.f5 (bodyOf Tryd.f5) [.agg (encRp r), .agg (encRp s)] [] lawK = some () := by
  rw [t_StatusOne]
  cases u1 : r.up
  · rfl
  cases u2 : s.up
  · rfl
  by_cases g1 : r.err < 0
  · rw [decide_eq_true g1]; rfl
  by_cases g2 : r.err > 14
  · rw [decide_eq_false g1, decide_eq_true g2]; rfl
  by_cases g3 : s.err < 0
  · rw [decide_eq_false g1, decide_eq_false g2, decide_eq_true g3]; rfl
  by_cases g4 : s.err > 14
  · rw [decide_eq_false g1, decide_eq_false g2, decide_eq_false g3, decide_eq_true g4]; rfl
  by_cases g5 : r.phase < 0
  · rw [decide_eq_false g1, decide_eq_false g2, decide_eq_false g3, decide_eq_false g4, decide_eq_true g5]; rfl
  by_cases g6 : r.phase > 7
  · rw [decide_eq_false g1, decide_eq_false g2, decide_eq_false g3, decide_eq_false g4, decide_eq_false g5, decide_eq_true g6]; rfl
  by_cases g7 : s.phase < 0
  · rw [decide_eq_false g1, decide_eq_false g2, decide_eq_false g3, decide_eq_false g4, decide_eq_false g5, decide_eq_false g6, decide_eq_true g7]; rfl
  by_cases g8 : s.phase > 7
  · rw [decide_eq_false g1, decide_eq_false g2, decide_eq_false g3, decide_eq_false g4, decide_eq_false g5, decide_eq_false g6, decide_eq_false g7, decide_eq_true g8]; rfl
  rw [decide_eq_false g1, decide_eq_false g2, decide_eq_false g3, decide_eq_false g4, decide_eq_false g5, decide_eq_false g6, decide_eq_false g7, decide_eq_false g8]
  simp only [Bool.not_true, cond_false]
  have hto := same_line u1 u2 ⟨by omega, by omega⟩ ⟨by omega, by omega⟩ ⟨by omega, by omega⟩ ⟨by omega, by omega⟩
  have no : ¬ Same r s → resK r s false = some () := fun h => res_eq hr hs (decide_eq_false fun e => h (hto e))
  by_cases c1 : r.err = s.err
  · by_cases c2 : r.tick = s.tick
    · by_cases c3 : r.slot = s.slot ∧ r.cgen = s.cgen
      · by_cases c4 : r.vwant0 = s.vwant0 ∧ r.vwant1 = s.vwant1 ∧ r.ready0 = s.ready0 ∧ r.ready1 = s.ready1
        · by_cases c5 : r.phase = s.phase
          · by_cases c6 : r.active = s.active
            · by_cases c7 : r.gen = s.gen
              · have k : resK r s (r.rev0 == s.rev0 && (r.rev1 == s.rev1 && true)) = some () := by
                  refine res_eq hr hs ?_
                  by_cases c8 : r.rev0 = s.rev0 ∧ r.rev1 = s.rev1
                  · rw [decide_eq_true (line_same u1 u2 ⟨c1, c2, c3, c4, c5, c6, c7, c8⟩), c8.1, c8.2, beq_self_eq_true, beq_self_eq_true]; rfl
                  · rw [decide_eq_false fun e => c8 (hto e).2.2.2.2.2.2.2]
                    symm
                    simpa using c8
                rw [c1, c2, c3.1, c3.2, c4.1, c4.2.1, c4.2.2.1, c4.2.2.2, c5, c6, c7]
                simp only [beq_self_eq_true, Bool.and_self, cond_true]
                exact k
              · have : (r.gen == s.gen) = false := beq_eq_false_iff_ne.2 c7
                rw [c1, c2, c3.1, c3.2, c4.1, c4.2.1, c4.2.2.1, c4.2.2.2, c5, c6, this]
                simp only [beq_self_eq_true, Bool.and_self, cond_true, cond_false]
                exact no fun e => c7 e.2.2.2.2.2.2.1
            · have : (r.active == s.active) = false := beq_eq_false_iff_ne.2 c6
              rw [c1, c2, c3.1, c3.2, c4.1, c4.2.1, c4.2.2.1, c4.2.2.2, c5, this]
              simp only [beq_self_eq_true, Bool.and_self, cond_true, cond_false]
              exact no fun e => c6 e.2.2.2.2.2.1
          · have : (r.phase == s.phase) = false := beq_eq_false_iff_ne.2 c5
            rw [c1, c2, c3.1, c3.2, c4.1, c4.2.1, c4.2.2.1, c4.2.2.2, this]
            simp only [beq_self_eq_true, Bool.and_self, cond_true, cond_false]
            exact no fun e => c5 e.2.2.2.2.1
        · have : (r.vwant0 == s.vwant0 && (r.vwant1 == s.vwant1 && (r.ready0 == s.ready0 && (r.ready1 == s.ready1 && true)))) = false := by simpa using c4
          rw [c1, c2, c3.1, c3.2, this]
          simp only [beq_self_eq_true, Bool.and_self, cond_true, cond_false]
          exact no fun e => c4 e.2.2.2.1
      · have : (r.slot == s.slot && (r.cgen == s.cgen && true)) = false := by simpa using c3
        rw [c1, c2, this]
        simp only [beq_self_eq_true, Bool.and_self, cond_true, cond_false]
        exact no fun e => c3 e.2.2.1
    · have : (r.tick == s.tick) = false := beq_eq_false_iff_ne.2 c2
      rw [c1, this]
      simp only [beq_self_eq_true, Bool.and_self, cond_true, cond_false]
      exact no fun e => c2 e.2.1
  · have : (r.err == s.err) = false := beq_eq_false_iff_ne.2 c1
    rw [this]
    exact no fun e => c1 e.1
theorem StatusOne (r s : Rp) (hr : wfRp r) (hs : wfRp s) (W : World) (ht : TabsAt fun n => W.heap[n]?) (v : Value) (hv : ∀ X ρ, SV.R X ρ (.agg (encRp r)) v) (u : Value) (hu : ∀ X ρ, SV.R X ρ (.agg (encRp s)) u) :
    Calls Tryd.prog 5 #[v, u] W fun e w' => e = .returned (.bool true) ∧ Below W.heap.size W w' :=
  law_calls okSLw mixed Tryd.func5 (c := bodyOf Tryd.f5) (by kernel_rfl) lawK_spec (one_true (okR_wf hr) (okR_wf hs)) (ht := ht) (X := fun _ _ => False) (ρ := noRho) (vs := [v, u]) ⟨hv _ _, hu _ _, trivial⟩
    (fun b sb hb => by simp at hb) (fun b _ => rfl)
end Go.Proofs.YtkkacjmjjhjpeaaDoor.St

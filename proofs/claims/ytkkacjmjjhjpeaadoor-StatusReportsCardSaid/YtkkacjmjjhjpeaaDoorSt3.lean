/- The names of phases and errors; words: a word and numbers behind it. No condition beyond those that each theorem names. -/
import Derived.Test.YtkkacjmjjhjpeaaDoorSt2
set_option maxRecDepth 100000
set_option linter.unusedSimpArgs false
set_option linter.unusedVariables false
namespace Go.Proofs.YtkkacjmjjhjpeaaDoor.St
open Go Go.Proofs.YtkkacjmjjhjpeaaDoor.Sx Go.Shelf Go.RowKit

def unkB : ByteArray := ⟨#[117, 110, 107, 110, 111, 119, 110]⟩
def phL : List ByteArray := [⟨#[115, 116, 97, 98, 108, 101]⟩, ⟨#[112, 114, 101, 119, 97, 114, 109]⟩, ⟨#[112, 114, 101, 45, 103, 97, 116, 101]⟩, ⟨#[99, 117, 116, 111, 118, 101, 114]⟩, ⟨#[112, 111, 115, 116, 45, 103, 97, 116, 101]⟩, ⟨#[100, 101, 108, 97, 121]⟩, ⟨#[114, 111, 108, 108, 98, 97, 99, 107]⟩, ⟨#[114, 101, 116, 105, 114, 101]⟩]
def erL : List ByteArray := [⟨#[111, 107]⟩, ⟨#[114, 97, 110, 103, 101]⟩, ⟨#[104, 97, 108, 116]⟩, ⟨#[102, 117, 108, 108]⟩, ⟨#[102, 111, 114, 109]⟩, ⟨#[108, 111, 110, 103]⟩, ⟨#[107, 105, 110, 100]⟩, ⟨#[112, 104, 97, 115, 101]⟩, ⟨#[116, 119, 105, 99, 101]⟩, ⟨#[111, 118, 101, 114]⟩, ⟨#[114, 111, 117, 116, 101, 114]⟩, ⟨#[115, 116, 97, 108, 101]⟩, ⟨#[110, 111, 110, 101]⟩, ⟨#[114, 101, 118]⟩, ⟨#[111, 114, 100, 101, 114]⟩]
/-- The name of a phase, of an error. -/
def phB (p : Int) : ByteArray := bif decide (0 ≤ p) && decide (p < 8) then phL.getD p.toNat .empty else unkB
def erB (p : Int) : ByteArray := bif decide (0 ≤ p) && decide (p < 15) then erL.getD p.toNat .empty else unkB
def pickB {α : Type} (p : Int) (f : ByteArray → α) (no : α) : Nat → List ByteArray → α
  | _, [] => no
  | j, x :: r => bif p == (j : Int) then f x else pickB p f no (j + 1) r
theorem pickB_in {α : Type} {p : Int} {f : ByteArray → α} {no : α} : ∀ {l : List ByteArray} {j : Nat}, (j : Int) ≤ p → p < (j + l.length : Nat) → pickB p f no j l = f (l.getD (p.toNat - j) .empty)
  | [], j, h, h' => by simp at h'; omega
  | x :: r, j, h, h' => by
    unfold pickB
    by_cases e : p = (j : Int)
    · subst e; simp
    · rw [beq_eq_false_iff_ne.2 e, cond_false, pickB_in (by omega) (by simp only [List.length_cons] at h'; omega)]
      obtain ⟨k, hk⟩ : ∃ k, p.toNat - j = k + 1 := ⟨p.toNat - j - 1, by omega⟩
      rw [hk, show p.toNat - (j + 1) = k by omega]
      simp
theorem pickB_out {α : Type} {p : Int} {f : ByteArray → α} {no : α} : ∀ {l : List ByteArray} {j : Nat}, (p < j ∨ ((j + l.length : Nat) : Int) ≤ p) → pickB p f no j l = no
  | [], j, h => rfl
  | x :: r, j, h => by
    unfold pickB
    simp only [List.length_cons] at h
    rw [beq_eq_false_iff_ne.2 (by omega), cond_false, pickB_out (by omega)]
theorem t_ph {R : Type} (p : Int) (K : TV → List (Option SB) → Option R) : runFn Tryd.prog [] 10 Tryd.f11 (bodyOf Tryd.f11) [i64 p] [] K = K (.s (stv (phB p))) [] := by
  refine Eq.trans (b := bif decide (p < 0) then K (.s (stv unkB)) [] else bif decide (p ≥ 8) then K (.s (stv unkB)) [] else bif decide (0 ≤ p) && decide (p < 8) then pickB p (fun s => K (.s (stv s)) []) none 0 phL else none) (by kernel_rfl) ?_
  by_cases h1 : p < 0
  · rw [decide_eq_true h1, phB, decide_eq_false (show ¬ 0 ≤ p by omega)]; rfl
  by_cases h2 : p ≥ 8
  · rw [decide_eq_false h1, decide_eq_true h2, phB, decide_eq_true (show 0 ≤ p by omega), decide_eq_false (show ¬ p < 8 by omega)]; rfl
  rw [decide_eq_false h1, decide_eq_false h2, phB, decide_eq_true (show 0 ≤ p by omega), decide_eq_true (show p < 8 by omega)]
  simp only [cond_false, cond_true, Bool.and_self]
  rw [pickB_in (by omega) (by simp [phL]; omega)]
  rfl
theorem t_er {R : Type} (p : Int) (K : TV → List (Option SB) → Option R) : runFn Tryd.prog [] 10 Tryd.f13 (bodyOf Tryd.f13) [i64 p] [] K = K (.s (stv (erB p))) [] := by
  refine Eq.trans (b := bif decide (p < 0) then K (.s (stv unkB)) [] else bif decide (p ≥ 15) then K (.s (stv unkB)) [] else bif decide (0 ≤ p) && decide (p < 15) then pickB p (fun s => K (.s (stv s)) []) none 0 erL else none) (by kernel_rfl) ?_
  by_cases h1 : p < 0
  · rw [decide_eq_true h1, erB, decide_eq_false (show ¬ 0 ≤ p by omega)]; rfl
  by_cases h2 : p ≥ 15
  · rw [decide_eq_false h1, decide_eq_true h2, erB, decide_eq_true (show 0 ≤ p by omega), decide_eq_false (show ¬ p < 15 by omega)]; rfl
  rw [decide_eq_false h1, decide_eq_false h2, erB, decide_eq_true (show 0 ≤ p by omega), decide_eq_true (show p < 15 by omega)]
  simp only [cond_false, cond_true, Bool.and_self]
  rw [pickB_in (by omega) (by simp [erL]; omega)]
  rfl
theorem t_phr {R : Type} (p : Int) (K : TV → List (Option SB) → Option R) : runFn Tryd.prog [] 10 Tryd.f12 (bodyOf Tryd.f12) [i64 p] [] K = K (.s (stv (phB p))) [] := by
  refine Eq.trans (b := pickB p (fun s => K (.s (stv s)) []) (K (.s (stv unkB)) []) 0 phL) (by kernel_rfl) ?_
  by_cases h1 : p < 0
  · rw [pickB_out (.inl (by omega)), phB, decide_eq_false (show ¬ 0 ≤ p by omega)]; rfl
  by_cases h2 : p ≥ 8
  · rw [pickB_out (.inr (by simp [phL]; omega)), phB, decide_eq_true (show 0 ≤ p by omega), decide_eq_false (show ¬ p < 8 by omega)]; rfl
  rw [pickB_in (by omega) (by simp [phL]; omega), phB, decide_eq_true (show 0 ≤ p by omega), decide_eq_true (show p < 8 by omega)]
  rfl
theorem t_err {R : Type} (p : Int) (K : TV → List (Option SB) → Option R) : runFn Tryd.prog [] 10 Tryd.f14 (bodyOf Tryd.f14) [i64 p] [] K = K (.s (stv (erB p))) [] := by
  refine Eq.trans (b := bif decide (p < 0) then K (.s (stv unkB)) [] else bif decide (p > 14) then K (.s (stv unkB)) [] else bif decide (0 ≤ p) && decide (p < 15) then (bif decide (addI 0 p.toNat < 15) then K (.s (stv (erL.getD (addI 0 p.toNat) .empty))) [] else none) else none) (by kernel_rfl) ?_
  by_cases h1 : p < 0
  · rw [decide_eq_true h1, erB, decide_eq_false (show ¬ 0 ≤ p by omega)]; rfl
  by_cases h2 : p > 14
  · rw [decide_eq_false h1, decide_eq_true h2, erB, decide_eq_true (show 0 ≤ p by omega), decide_eq_false (show ¬ p < 15 by omega)]; rfl
  have e : addI 0 p.toNat = p.toNat := by rw [addI_eq]; omega
  rw [decide_eq_false h1, decide_eq_false h2, erB, decide_eq_true (show 0 ≤ p by omega), decide_eq_true (show p < 15 by omega), e, decide_eq_true (show p.toNat < 15 by omega)]
  rfl
def g_name (f : Int → ByteArray) : List SV → Option TV
  | [.c (.int .i64 p)] => some (.s (stv (f p)))
  | _ => none
theorem ok_name {f : FuncId} {fn : Func} {c : Code} (hf : Tryd.prog.funcs[f]? = some fn) (hb : fn.body = some c) (hname : (fn.name == "runtime.NumGoroutine") = false) {v : Int → ByteArray}
    (h : ∀ (p : Int), runFn Tryd.prog [] 10 fn c [i64 p] [] (fun tv hp => some (tv, hp)) = some (.s (stv (v p)), [])) : SumOk Tryd.prog f (valSum (g_name v)) := by
  refine sumOk_val SumsOk.nil mixed hf hb hname ?_
  intro args tv hg
  unfold g_name at hg
  split at hg
  · cases hg
    exact ⟨fun π => rfl, fun π => rfl, 10, h _⟩
  · cases hg
theorem ok_ph : SumOk Tryd.prog 11 (valSum (g_name phB)) := ok_name Tryd.func11 (c := bodyOf Tryd.f11) (by kernel_rfl) (by kernel_rfl) fun p => t_ph p _
theorem ok_er : SumOk Tryd.prog 13 (valSum (g_name erB)) := ok_name Tryd.func13 (c := bodyOf Tryd.f13) (by kernel_rfl) (by kernel_rfl) fun p => t_er p _
theorem ok_phr : SumOk Tryd.prog 12 (valSum (g_name phB)) := ok_name Tryd.func12 (c := bodyOf Tryd.f12) (by kernel_rfl) (by kernel_rfl) fun p => t_phr p _
theorem ok_err : SumOk Tryd.prog 14 (valSum (g_name erB)) := ok_name Tryd.func14 (c := bodyOf Tryd.f14) (by kernel_rfl) (by kernel_rfl) fun p => t_err p _
end Go.Proofs.YtkkacjmjjhjpeaaDoor.St

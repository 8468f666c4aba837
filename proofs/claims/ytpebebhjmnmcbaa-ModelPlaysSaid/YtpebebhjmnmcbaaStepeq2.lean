/- What may be asked, and what is to be done, in plain terms. -/
import Derived.Test.YtpebebhjmnmcbaaStepeq
set_option maxRecDepth 100000
set_option linter.unusedSimpArgs false
set_option linter.unusedVariables false
namespace Go.Proofs.Ytpebebhjmnmcbaa.Fold
open Go Go.Proofs.Ytpebebhjmnmcbaa.Sx
def revA (s : St) : Int := if s.active = 0 then s.rev0 else s.rev1
def revO (s : St) : Int := if s.active = 0 then s.rev1 else s.rev0
def wantA (s : St) : Int := if s.active = 0 then s.want0 else s.want1
def wantO (s : St) : Int := if s.active = 0 then s.want1 else s.want0
def passedO (s : St) : Bool := if s.active = 0 then s.passed1 else s.passed0
@[reducible] def recD (rev n delay : Int) : Rc := ⟨1, rev, n, delay, 0, 0, false, 0, 0, 0, 0, 0, 0, false, false, 0, 0, 0, 0⟩
theorem step_deploy {s : St} (h : rightV s = true) (rev n delay : Int) : stepV s (recD rev n delay) = if s.phase ≤ 2 ∧ (1 ≤ rev ∧ rev ≤ 1073741824) ∧ (1 ≤ n ∧ n ≤ 32) ∧ (0 ≤ delay ∧ delay ≤ 65536) ∧ rev ≠ revA s ∧ s.gen ≤ 1048574 then (deployed s (recD rev n delay), true) else (s, false) := by
  have ha := right_act h
  unfold stepV
  rw [h]
  obtain ⟨phase, active, rev0, rev1, want0, want1, passed0, passed1, delay', gen, switch, flip⟩ := s
  rcases act_iff.1 ha with ha | ha <;> (simp only at ha; subst ha) <;> simp [deployV, fin, deployed, revA, bne_dec, beq_dec, inV_eq, selI, otherV, w0, w1] <;> grind
theorem next_eq (s : St) (v : Vw) (now : Int) : nextV s v now =
    if s.phase = 1 then (if fullV s v (IntKind.i64.wrap (1 - s.active)) = true then (1, rec0 3 0 0 false) else (0, rec0 0 0 0 false))
    else if s.phase = 3 ∨ s.phase = 6 then
      (if s.switch = 2 then (5, rec0 0 0 0 false) else if s.switch = 1 then (if fullV s v (IntKind.i64.wrap (1 - s.active)) = true then (3, rec0 6 s.gen 0 false) else (4, rec0 7 s.gen 0 false))
        else if fullV s v (IntKind.i64.wrap (1 - s.active)) = true then (2, rec0 5 (IntKind.i64.wrap (s.gen + 1)) 0 false) else (0, rec0 0 0 0 false))
    else if s.phase = 7 ∨ s.phase = 5 ∧ ¬ lessV now s.flip < s.delay then (6, rec0 10 0 0 false) else (0, rec0 0 0 0 false) := by
  unfold nextV pturnV
  generalize fullV s v (IntKind.i64.wrap (1 - s.active)) = b
  by_cases h1 : s.phase = 1
  · cases b <;> simp [h1]
  · by_cases h3 : s.phase = 3
    · cases b <;> by_cases c2 : s.switch = 2 <;> by_cases c1 : s.switch = 1 <;> simp [h3, c1, c2, beq_dec] <;> omega
    · by_cases h6 : s.phase = 6
      · cases b <;> by_cases c2 : s.switch = 2 <;> by_cases c1 : s.switch = 1 <;> simp [h6, c1, c2, beq_dec] <;> omega
      · by_cases h5 : s.phase = 5
        · by_cases c : lessV now s.flip < s.delay <;> simp [h5, c]
        · by_cases h7 : s.phase = 7 <;> simp [h1, h3, h5, h6, h7, beq_dec]
theorem check_eq {s : St} (ha : act s = true) (o : Ask) (now : Int) : checkV s o now =
    if o.kind = 1 then (if ¬ ((1 ≤ o.rev ∧ o.rev ≤ 1073741824) ∧ (1 ≤ o.n ∧ o.n ≤ 32) ∧ (0 ≤ o.delay ∧ o.delay ≤ 65536)) then 1 else if now ≥ 1073741824 ∨ s.gen > 1048574 then 9 else if s.phase > 2 then 7 else if o.rev = revA s then 8 else 0)
    else if o.kind = 2 then (if s.phase = 1 ∨ s.phase = 2 ∨ s.phase = 3 ∧ s.switch = 0 ∨ s.phase = 4 ∨ s.phase = 5 then 0 else 7)
    else if o.kind = 4 then (if ¬ (1 ≤ o.rev ∧ o.rev ≤ 1073741824) then 1 else if s.phase ≠ 2 then 7 else if o.rev ≠ revO s then 13 else 0)
    else if o.kind = 9 then (if ¬ (1 ≤ o.rev ∧ o.rev ≤ 1073741824) then 1 else if s.phase ≠ 4 then 7 else if o.rev ≠ revA s then 13 else 0)
    else 6 := by
  have hin : ∀ n l h : Int, inmV n l h = decide (l ≤ n ∧ n ≤ h) := by
    intro n l h
    unfold inmV
    by_cases c1 : n ≥ l <;> by_cases c2 : n ≤ h <;> simp [c1, c2] <;> omega
  obtain ⟨phase, active, rev0, rev1, want0, want1, passed0, passed1, delay', gen, switch, flip⟩ := s
  by_cases k1 : o.kind = 1
  · rcases act_iff.1 ha with ha | ha <;> (simp only at ha; subst ha) <;> simp [checkV, k1, mdeployV, revA, hin, bne_dec, beq_dec, selI] <;> grind
  · by_cases k2 : o.kind = 2
    · rcases act_iff.1 ha with ha | ha <;> (simp only at ha; subst ha) <;> simp [checkV, k2, mabortV, bne_dec, beq_dec] <;> grind
    · by_cases k4 : o.kind = 4
      · rcases act_iff.1 ha with ha | ha <;> (simp only at ha; subst ha) <;> simp [checkV, k4, gateV, revO, hin, bne_dec, beq_dec, selI, w0, w1] <;> grind
      · by_cases k9 : o.kind = 9
        · rcases act_iff.1 ha with ha | ha <;> (simp only at ha; subst ha) <;> simp [checkV, k9, gateV, revA, hin, bne_dec, beq_dec, selI, w0, w1] <;> grind
        · rcases act_iff.1 ha with ha | ha <;> (simp only at ha; subst ha) <;> simp [checkV, beq_dec, k1, k2, k4, k9]
theorem record_eq (o : Ask) : recordV o = if o.kind = 1 then recD o.rev o.n o.delay else if o.kind = 4 ∨ o.kind = 9 then rec0 o.kind 0 0 o.pass else rec0 o.kind 0 0 false := by
  unfold recordV
  by_cases k1 : o.kind = 1
  · simp [k1]
  · by_cases k4 : o.kind = 4
    · simp [k4]
    · by_cases k9 : o.kind = 9 <;> simp [beq_dec, k1, k4, k9]
end Go.Proofs.Ytpebebhjmnmcbaa.Fold

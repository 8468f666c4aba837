/- The law ModelKeeps: true, and no memory that was there is written. -/
import Derived.Test.YtpebebhjmnmcbaaMll
import Derived.Test.YtpebebhjmnmcbaaMdKeep3
set_option maxRecDepth 100000
set_option linter.unusedSimpArgs false
set_option linter.unusedVariables false
namespace Go.Proofs.Ytpebebhjmnmcbaa.Md
open Go Go.Proofs.Ytpebebhjmnmcbaa.Sx
/-- A reply. -/
structure Rp where
  s : Fold.St
  slot : Int
  gen : Int
  w0 : Int
  w1 : Int
  r0 : Int
  r1 : Int
  tick : Int
@[reducible] def cRp (p : Rp) : List CV := [.int .i64 0, .int .i64 p.s.phase, .int .i64 p.s.active, .int .i64 p.s.rev0, .int .i64 p.s.rev1, .int .i64 p.s.want0, .int .i64 p.s.want1, .bool p.s.passed0, .bool p.s.passed1, .int .i64 p.s.delay, .int .i64 p.s.gen, .int .i64 p.s.switch, .int .i64 p.s.flip, .int .i64 p.slot, .int .i64 p.gen, .int .i64 p.w0, .int .i64 p.w1, .int .i64 p.r0, .int .i64 p.r1, .bool true, .int .i64 p.tick]
@[reducible] def encK (slot i : Int) (N : Nat) (f : Nat → Ac) (m : Md) (N1 : Nat) (ge : Nat → List CV) (w n : Rp) : Sx.St := ⟨[(5, .s (.c (.ptr 1 0))), (9, .s (.c (.ptr 8 0))), (10, .s (.c (.ptr 9 0))), (44, .s (.c (.slc 0 0 N))), (45, .s (.c (.int .i64 (N : Int)))), (46, .s (.c (.int .i64 i))), (57, .s (.c (.int .i64 slot)))], some (.ro 10 (.gen N fun i => encAc (f i))) :: (hpL m N1 ge ++ [some (.cells (cRp w)), some (.cells (cRp n))]), 10, 141⟩
@[reducible] def noK (N : Nat) (f : Nat → Ac) : Sx.St := ⟨[(4, .s (.c (.bool false)))], [some (.ro 10 (.gen N fun i => encAc (f i)))], 1, 141⟩
@[reducible] def finK (i : Int) (N : Nat) (f : Nat → Ac) (m : Md) (N1 : Nat) (ge : Nat → List CV) : Sx.St := ⟨[(5, .s (.c (.ptr 1 0))), (44, .s (.c (.slc 0 0 N))), (45, .s (.c (.int .i64 (N : Int)))), (46, .s (.c (.int .i64 i)))], some (.ro 10 (.gen N fun i => encAc (f i))) :: hpL m N1 ge, 8, 141⟩
theorem roundK1 {R : Type} (L : List (Nat × LoopSum)) (slot i : Int) (N : Nat) (f : Nat → Ac) (m : Md) (N1 : Nat) (ge : Nat → List CV) (w n : Rp) (K : Ex → Sx.St → Option R) : roundK Try.prog PL L 20 1 (resMask Try.f8.results.toList) (lpAt Try.f8 1) (encK slot i N f m N1 ge w n) K =
    bif decide (slot < 2) then bif decide (0 ≤ slot) && decide (slot < 2) then bif decide (0 ≤ slot) && decide (slot < 2) then bif decide (selI slot 0 [n.w0, n.w1] ≥ selI slot 0 [w.w0, w.w1]) then K .normal (encK (IntKind.i64.wrap (slot + 1)) i N f m N1 ge w n) else
      bif slot == w.s.active then K .ret (noK N f) else bif slot == w.slot then K .ret (noK N f) else bif slot == n.slot then K .ret (noK N f) else
      bif w.s.phase == 1 then (bif w.s.phase == 7 then K .normal (encK (IntKind.i64.wrap (slot + 1)) i N f m N1 ge w n) else bif w.s.phase == 5 then bif w.s.delay == 0 then K .normal (encK (IntKind.i64.wrap (slot + 1)) i N f m N1 ge w n) else K .normal (encK (IntKind.i64.wrap (slot + 1)) i N f m N1 ge w n) else K .normal (encK (IntKind.i64.wrap (slot + 1)) i N f m N1 ge w n)) else
      bif w.s.phase == 2 then (bif w.s.phase == 7 then K .normal (encK (IntKind.i64.wrap (slot + 1)) i N f m N1 ge w n) else bif w.s.phase == 5 then bif w.s.delay == 0 then K .normal (encK (IntKind.i64.wrap (slot + 1)) i N f m N1 ge w n) else K .normal (encK (IntKind.i64.wrap (slot + 1)) i N f m N1 ge w n) else K .normal (encK (IntKind.i64.wrap (slot + 1)) i N f m N1 ge w n)) else
      bif w.s.phase == 3 then
        (bif w.s.phase == 7 then (bif !(w.s.switch == 0) then K .normal (encK (IntKind.i64.wrap (slot + 1)) i N f m N1 ge w n) else K .normal (encK (IntKind.i64.wrap (slot + 1)) i N f m N1 ge w n)) else
          bif w.s.phase == 5 then (bif w.s.delay == 0 then (bif !(w.s.switch == 0) then K .normal (encK (IntKind.i64.wrap (slot + 1)) i N f m N1 ge w n) else K .normal (encK (IntKind.i64.wrap (slot + 1)) i N f m N1 ge w n)) else
            (bif !(w.s.switch == 0) then (bif !decide (IntKind.i64.wrap (w.tick - w.s.flip) ≥ w.s.delay) then K .ret (noK N f) else K .normal (encK (IntKind.i64.wrap (slot + 1)) i N f m N1 ge w n)) else K .normal (encK (IntKind.i64.wrap (slot + 1)) i N f m N1 ge w n))) else
          (bif !(w.s.switch == 0) then K .ret (noK N f) else K .normal (encK (IntKind.i64.wrap (slot + 1)) i N f m N1 ge w n))) else
      bif w.s.phase == 7 then K .normal (encK (IntKind.i64.wrap (slot + 1)) i N f m N1 ge w n) else bif w.s.phase == 5 then (bif w.s.delay == 0 then K .normal (encK (IntKind.i64.wrap (slot + 1)) i N f m N1 ge w n) else bif !decide (IntKind.i64.wrap (w.tick - w.s.flip) ≥ w.s.delay) then K .ret (noK N f) else K .normal (encK (IntKind.i64.wrap (slot + 1)) i N f m N1 ge w n)) else K .ret (noK N f)
    else none else none else K (.exit 2) (finK i N f m N1 ge) := by kernel_rfl
/-- What the law asks of a slot. -/
def KO (w n : Rp) (slot : Int) : Prop := selI slot 0 [n.w0, n.w1] ≥ selI slot 0 [w.w0, w.w1] ∨ slot ≠ w.s.active ∧ slot ≠ w.slot ∧ slot ≠ n.slot ∧ ((w.s.phase = 1 ∨ w.s.phase = 2 ∨ w.s.phase = 3 ∧ w.s.switch = 0) ∨ w.s.phase = 7 ∨ w.s.phase = 5 ∧ (w.s.delay = 0 ∨ IntKind.i64.wrap (w.tick - w.s.flip) ≥ w.s.delay))
theorem roundK2 {R : Type} (L : List (Nat × LoopSum)) (slot i : Int) (N : Nat) (f : Nat → Ac) (m : Md) (N1 : Nat) (ge : Nat → List CV) (w n : Rp) (K : Ex → Sx.St → Option R) (hs : 0 ≤ slot ∧ slot < 2) (hk : KO w n slot) : roundK Try.prog PL L 20 1 (resMask Try.f8.results.toList) (lpAt Try.f8 1) (encK slot i N f m N1 ge w n) K = K .normal (encK (slot + 1) i N f m N1 ge w n) := by
  rw [roundK1, decide_eq_true hs.1, decide_eq_true hs.2, wi (x := slot + 1) (by omega)]
  generalize K .normal (encK (slot + 1) i N f m N1 ge w n) = NM
  generalize K .ret (noK N f) = RT
  simp only [Bool.and_self, cond_true]
  rcases hk with hk | ⟨h1, h2, h3, h4⟩
  · rw [decide_eq_true hk]; rfl
  · rw [show (slot == w.s.active) = false by simpa using h1, show (slot == w.slot) = false by simpa using h2, show (slot == n.slot) = false by simpa using h3]
    simp only [cond_false]
    have hd : (w.s.switch == 0) = decide (w.s.switch = 0) := Fold.beq_dec _ _
    by_cases p1 : w.s.phase = 1
    · simp [p1]
    · by_cases p2 : w.s.phase = 2
      · simp [p2]
      · by_cases p3 : w.s.phase = 3
        · have hsw : w.s.switch = 0 := by omega
          simp [p3, hsw]
        · by_cases p7 : w.s.phase = 7
          · simp [p7]
          · have h5 : w.s.phase = 5 ∧ (w.s.delay = 0 ∨ IntKind.i64.wrap (w.tick - w.s.flip) ≥ w.s.delay) := by omega
            rcases h5.2 with hz | hz
            · simp [h5.1, hz]
            · simp [h5.1, hz]
/-! ### The inner loop -/
@[reducible] def KA := Int × Rp × Rp × Int × Nat × (Nat → Ac) × Md × Nat × (Nat → List CV)
def encKI : KA → Sx.St
  | (slot, w, n, i, N, f, m, N1, ge) => encK slot i N f m N1 ge w n
def decRp : List CV → Option Rp
  | [.int .i64 0, .int .i64 s0, .int .i64 s1, .int .i64 s2, .int .i64 s3, .int .i64 s4, .int .i64 s5, .bool s6, .bool s7, .int .i64 s8, .int .i64 s9, .int .i64 s10, .int .i64 s11, .int .i64 sl, .int .i64 g, .int .i64 w0, .int .i64 w1, .int .i64 r0, .int .i64 r1, .bool true, .int .i64 t] => some ⟨⟨s0, s1, s2, s3, s4, s5, s6, s7, s8, s9, s10, s11⟩, sl, g, w0, w1, r0, r1, t⟩
  | _ => none
theorem decRp_spec {l : List CV} {p : Rp} (h : decRp l = some p) : l = cRp p := by
  unfold decRp at h; split at h <;> cases h; rfl
@[reducible] def KB := Int × Rp × Rp × Int × Int × Nat × Nat × (Nat → List CV) × Md × Nat × (Nat → List CV)
def decKI : Sx.St → Option KB
  | ⟨[(5, .s (.c (.ptr 1 0))), (9, .s (.c (.ptr 8 0))), (10, .s (.c (.ptr 9 0))), (44, .s (.c (.slc 0 0 N'))), (45, .s (.c (.int .i64 m'))), (46, .s (.c (.int .i64 i))), (57, .s (.c (.int .i64 slot)))], [some (.ro 10 (.gen N f)), b1, b2, b3, b4, b5, b6, b7, some (.cells cw), some (.cells cn)], 10, 141⟩ =>
    (decL [b1, b2, b3, b4, b5, b6, b7]).bind fun p => (decRp cw).bind fun w => (decRp cn).map fun n => (slot, w, n, i, m', N', N, f, p.1, p.2.1, p.2.2)
  | _ => none
noncomputable def chkKI : KB → Bool
  | (_, _, _, _, m', N', N, f, _, _, _) => Nat.beq N' N && (decide (m' = N) && chkRo encAc decAcD f)
def normKI : KB → KA
  | (slot, w, n, i, _, _, N, f, m, N1, ge) => (slot, w, n, i, N, fun j => decAcD (f j), m, N1, ge)
theorem decKI_spec (st : Sx.St) (p : KB) (h : decKI st = some p) (hc : chkKI p = true) : st = encKI (normKI p) := by
  unfold decKI at h
  split at h
  · obtain ⟨⟨m, N1, ge⟩, hm, h⟩ := Option.bind_eq_some_iff.1 h
    obtain ⟨w, hw, h⟩ := Option.bind_eq_some_iff.1 h
    obtain ⟨n, hn, h⟩ := Option.map_eq_some_iff.1 h
    cases h
    simp only [chkKI, Bool.and_eq_true, decide_eq_true_eq] at hc
    obtain ⟨h1, h2, h3⟩ := hc
    have h1 := Nat.eq_of_beq_eq_true h1
    subst h1 h2
    have hm' := decL_spec hm
    obtain rfl := decRp_spec hw
    obtain rfl := decRp_spec hn
    have g := chkRo_spec h3
    simp only [List.cons.injEq, and_true] at hm'
    obtain ⟨rfl, rfl, rfl, rfl, rfl, rfl, rfl⟩ := hm'
    unfold normKI encKI encK
    simp only
    rw [← g]
    rfl
  · cases h
structure KI (p : KA) : Prop where
  s : 0 ≤ p.1 ∧ p.1 ≤ 2
  ok : ∀ s, p.1 ≤ s → s < 2 → KO p.2.1 p.2.2.1 s
noncomputable def goodK (p : KA) : Bool := @decide (KI p) (Classical.propDecidable _)
theorem goodK_iff {p : KA} : goodK p = true ↔ KI p := Iff.of_eq (@decide_eq_true_eq _ (Classical.propDecidable _))
noncomputable def tKI (p : KA) (R : Type) (K : Ex → Sx.St → Option R) : Option R := match p with
  | (slot, w, n, i, N, f, m, N1, ge) => bif goodK (slot, w, n, i, N, f, m, N1, ge) then K (.exit 2) (finK i N f m N1 ge) else none
theorem okKI (L : List (Nat × LoopSum)) : LoopOk Try.prog PL L 20 1 (resMask Try.f8.results.toList) (lpAt Try.f8 1) (formSumC decKI chkKI normKI tKI) := by
  refine LoopOk.ofC decKI_spec (fun p => (2 - p.1).toNat) ?_
  rintro ⟨slot, w, n, i, N, f, m, N1, ge⟩ R K x h
  unfold tKI at h
  simp only at h
  cases hg : goodK (slot, w, n, i, N, f, m, N1, ge) with
  | false => rw [hg] at h; cases h
  | true =>
    rw [hg, cond_true] at h
    obtain ⟨h1, h2⟩ := goodK_iff.1 hg
    simp only at h1 h2
    by_cases hi : slot < 2
    · left
      refine ⟨(slot + 1, w, n, i, N, f, m, N1, ge), by simp only; omega, fun K' => roundK2 L slot i N f m N1 ge w n K' ⟨h1.1, hi⟩ (h2 slot (by omega) hi), ?_⟩
      unfold tKI
      simp only
      rw [goodK_iff.2 ⟨by simp only; omega, fun s a b => h2 s (by simp only at a; omega) b⟩, cond_true]
      exact h
    · right
      exact ⟨.exit 2, _, by simp, fun K' => by unfold encKI; simp only; rw [roundK1, decide_eq_false hi]; rfl, h⟩
end Go.Proofs.Ytpebebhjmnmcbaa.Md

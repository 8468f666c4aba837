/- The law ModelSettles: true, and no memory that was there is written. -/
import Derived.Test.YtpebebhjmnmcbaaMset3
import Derived.Test.YtpebebhjmnmcbaaMfill
import Derived.Test.YtpebebhjmnmcbaaMll
set_option maxRecDepth 100000
set_option linter.unusedSimpArgs false
set_option linter.unusedVariables false
namespace Go.Proofs.Ytpebebhjmnmcbaa.Md
open Go Go.Proofs.Ytpebebhjmnmcbaa.Sx
/-! ### The acts -/
@[reducible] def rowSE (N : Nat) (f : Nat → Ac) : List (Option SB) := [some (.ro 10 (.gen N fun i => encAc (f i)))]
@[reducible] def TS := Int × LA
def encTS : TS → Sx.St
  | (x, i, N, f, m, N1, o) => ⟨[(5, .s (.c (.ptr 1 0))), (7, .s (.c (.int .i64 x))), (42, .s (.c (.slc 0 0 N))), (43, .s (.c (.int .i64 (N : Int)))), (44, .s (.c (.int .i64 i)))], rowSE N f ++ hpL m N1 (fun j => Rt.encI (o j)), 8, 130⟩
def decTS : Sx.St → Option (Int × LB)
  | ⟨[(5, .s (.c (.ptr 1 0))), (7, .s (.c (.int .i64 x))), (42, .s (.c (.slc 0 0 N'))), (43, .s (.c (.int .i64 m'))), (44, .s (.c (.int .i64 i)))], some (.ro 10 (.gen N f)) :: hp, 8, 130⟩ => (decL hp).map fun p => (x, i, m', N, N', f, p.1, p.2.1, p.2.2)
  | _ => none
noncomputable def chkTS : Int × LB → Bool
  | (_, b) => chkL b
def normTS : Int × LB → TS
  | (x, b) => (x, normL b)
theorem decTS_spec (st : Sx.St) (p : Int × LB) (h : decTS st = some p) (hc : chkTS p = true) : st = encTS (normTS p) := by
  unfold decTS at h
  split at h
  · obtain ⟨⟨m, N1, ge⟩, hm, h⟩ := Option.map_eq_some_iff.1 h
    cases h
    simp only [chkTS, chkL, Bool.and_eq_true, decide_eq_true_eq] at hc
    obtain ⟨h1, h2, h3, h4⟩ := hc
    have h1 := Nat.eq_of_beq_eq_true h1
    subst h1 h2
    obtain rfl := decL_spec hm
    have g := chkRo_spec h3
    have g' := chkRo_spec h4
    unfold normTS normL encTS
    simp only
    unfold rowSE
    rw [← g, ← g']
    rfl
  · cases h
/-- What the acts come to: more than two hundred outcomes, or so many and the model. -/
structure DS where
  x : Int
  d : DR
noncomputable def actS (f : Nat → Ac) (i : Nat) (s : DS) : DS := ⟨s.x + (f i).outL.length, bif (f i).kind != 4 then doV s.d.m s.d.N s.d.o (f i) else s.d⟩
noncomputable def overS (f : Nat → Ac) : Nat → Nat → DS → Bool
  | 0, _, _ => false
  | k + 1, i, s => bif decide (s.x + (f i).outL.length > 200) then true else overS f k (i + 1) (actS f i s)
noncomputable def allS (f : Nat → Ac) : Nat → Nat → DS → DS
  | 0, _, s => s
  | k + 1, i, s => allS f k (i + 1) (actS f i s)
def yesS (N : Nat) (f : Nat → Ac) : Sx.St := ⟨[(4, .s (.c (.bool true)))], rowSE N f, 1, 130⟩
def finTS (N : Nat) (f : Nat → Ac) (s : DS) : Sx.St := ⟨[(5, .s (.c (.ptr 1 0))), (7, .s (.c (.int .i64 s.x)))], rowSE N f ++ hpL s.d.m s.d.N (fun j => Rt.encI (s.d.o j)), 8, 130⟩
/-- What holds between the acts. -/
structure SI1 (p : TS) : Prop where
  li : LI p.2
  set : Set2 p.2.2.2.2.1 p.2.2.2.2.2.1 p.2.1
  tick : p.2.2.2.2.1.tick = 0
  x : 0 ≤ p.1 ∧ p.1 ≤ 200
  n : (p.2.2.2.2.1.r.n : Int) ≤ p.1
noncomputable def goodS1 (p : TS) : Bool := @decide (SI1 p) (Classical.propDecidable _)
theorem goodS1_iff {p : TS} : goodS1 p = true ↔ SI1 p := Iff.of_eq (@decide_eq_true_eq _ (Classical.propDecidable _))
noncomputable def tTS (p : TS) (R : Type) (K : Ex → Sx.St → Option R) : Option R := match p with
  | (x, i, N, f, m, N1, o) => bif goodS1 (x, i, N, f, m, N1, o) then bif overS f (N - i.toNat) i.toNat ⟨x, 0, m, N1, o⟩ then K .ret (yesS N f) else K (.exit 0) (finTS N f (allS f (N - i.toNat) i.toNat ⟨x, 0, m, N1, o⟩)) else none
theorem roundTS {R : Type} (L : List (Nat × LoopSum)) (x i : Int) (N : Nat) (f : Nat → Ac) (m : Md) (N1 : Nat) (o : Nat → Int) (K : Ex → Sx.St → Option R) : roundK Try.prog PZ L 20 1 (resMask Try.f3.results.toList) (lpAt Try.f3 0) (encTS (x, i, N, f, m, N1, o)) K =
    bif decide (i < (N : Int)) then bif decide (0 ≤ i) && decide (i < (N : Int)) then bif decide (i.toNat < N) then bif decide (IntKind.i64.wrap (x + ((f i.toNat).outL.length : Int)) > 200) then K .ret (yesS N f) else
      bif (f i.toNat).kind != 4 then bif chkRo Rt.encI Rt.decID (fun j => Rt.encI (o j)) && okDo m N1 (f i.toNat) then
        K .normal (encTS (IntKind.i64.wrap (x + ((f i.toNat).outL.length : Int)), IntKind.i64.wrap (i + 1), N, f, (doV m N1 o (f i.toNat)).m, (doV m N1 o (f i.toNat)).N, (doV m N1 o (f i.toNat)).o)) else none
      else K .normal (encTS (IntKind.i64.wrap (x + ((f i.toNat).outL.length : Int)), IntKind.i64.wrap (i + 1), N, f, m, N1, o))
      else none else none else K (.exit 0) (finTS N f ⟨x, 0, m, N1, o⟩) := by kernel_rfl
/-- One act on. -/
theorem SI1.next {x i : Int} {N : Nat} {f : Nat → Ac} {m : Md} {N1 : Nat} {o : Nat → Int} (h : SI1 (x, i, N, f, m, N1, o)) (hi : i < (N : Int)) (hx : ¬ x + ((f i.toNat).outL.length : Int) > 200) :
    ((f i.toNat).kind ≠ 4 → okDo m N1 (f i.toNat) = true ∧ SI1 (x + ((f i.toNat).outL.length : Int), i + 1, N, f, (doV m N1 o (f i.toNat)).m, (doV m N1 o (f i.toNat)).N, (doV m N1 o (f i.toNat)).o)) ∧
    ((f i.toNat).kind = 4 → SI1 (x + ((f i.toNat).outL.length : Int), i + 1, N, f, m, N1, o)) := by
  obtain ⟨h1, h2, h3, h4, h5⟩ := h
  simp only at h2 h3 h4 h5
  obtain ⟨hok, hn⟩ := h1.next hi
  have hli := h1
  obtain ⟨a1, a2, a3, a4, a5⟩ := h1
  simp only at a1 a2 a3 a4 a5
  refine ⟨fun hk => ⟨hok, ?_⟩, fun hk => ?_⟩
  · obtain ⟨s1, s2, s3⟩ := do_set h2 o (f i.toNat) hk
    exact ⟨hn, s1, by simp only; rw [s3]; exact h3, by simp only; omega, by simp only; omega⟩
  · exact ⟨⟨by simp only; omega, a2, a3, a4, by simp only; omega⟩, h2.up (by simp only; omega), h3, by simp only; omega, by simp only; omega⟩
theorem fin_kS {N : Nat} {f : Nat → Ac} (s s' : DS) (h0 : s.x = s'.x) (h1 : s.d.m = s'.d.m) (h2 : s.d.N = s'.d.N) (h3 : s.d.o = s'.d.o) : finTS N f s = finTS N f s' := by
  unfold finTS; rw [h0, h1, h2, h3]
structure Al (s s' : DS) : Prop where
  x : s.x = s'.x
  m : s.d.m = s'.d.m
  N : s.d.N = s'.d.N
  o : s.d.o = s'.d.o
theorem act_al (f : Nat → Ac) (i : Nat) {s s' : DS} (h : Al s s') : Al (actS f i s) (actS f i s') := by
  unfold actS
  rw [h.x, h.m, h.N, h.o]
  cases (f i).kind != 4 with
  | true => exact ⟨rfl, rfl, rfl, rfl⟩
  | false => exact ⟨rfl, h.m, h.N, h.o⟩
theorem all_al (f : Nat → Ac) : ∀ (k i : Nat) {s s' : DS}, Al s s' → Al (allS f k i s) (allS f k i s') ∧ overS f k i s = overS f k i s'
  | 0, _, _, _, h => ⟨h, rfl⟩
  | k + 1, i, s, s', h => by
    obtain ⟨a, b⟩ := all_al f k (i + 1) (act_al f i h)
    refine ⟨a, ?_⟩
    unfold overS
    rw [b, h.x]
theorem okTS (L : List (Nat × LoopSum)) : LoopOk Try.prog PZ L 20 1 (resMask Try.f3.results.toList) (lpAt Try.f3 0) (formSumC decTS chkTS normTS tTS) := by
  refine LoopOk.ofC decTS_spec (fun p => p.2.2.1 - p.2.1.toNat) ?_
  rintro ⟨x, i, N, f, m, N1, o⟩ R K y h
  unfold tTS at h
  simp only at h
  cases hg : goodS1 (x, i, N, f, m, N1, o) with
  | false => rw [hg] at h; cases h
  | true =>
    rw [hg, cond_true] at h
    have hI := goodS1_iff.1 hg
    have h1 := hI.li.i
    have hN := hI.li.N
    have hX := hI.x
    simp only at h1 hN hX
    by_cases hi : i < (N : Int)
    · have hw := (hI.li.wf i.toNat (by simp only; omega)).2
      simp only at hw
      rw [show N - i.toNat = (N - (i + 1).toNat) + 1 by omega] at h
      unfold overS allS at h
      simp only at h
      rw [show i.toNat + 1 = (i + 1).toNat by omega] at h
      by_cases hov : x + ((f i.toNat).outL.length : Int) > 200
      · right
        rw [decide_eq_true hov, cond_true, cond_true] at h
        exact ⟨.ret, _, by simp, fun K' => by rw [roundTS, decide_eq_true hi, decide_eq_true h1.1, decide_eq_true (show i.toNat < N by omega), wi (x := x + ((f i.toNat).outL.length : Int)) (by omega), decide_eq_true hov]; rfl, h⟩
      · rw [decide_eq_false hov, cond_false] at h
        obtain ⟨n1, n2⟩ := hI.next hi hov
        left
        by_cases hk : (f i.toNat).kind = 4
        · have n2 := n2 hk
          have hb : ((f i.toNat).kind != 4) = false := by simp [hk]
          refine ⟨(x + ((f i.toNat).outL.length : Int), i + 1, N, f, m, N1, o), by simp only; omega, fun K' => ?_, ?_⟩
          · rw [roundTS, decide_eq_true hi, decide_eq_true h1.1, decide_eq_true (show i.toNat < N by omega), wi (x := x + ((f i.toNat).outL.length : Int)) (by omega), decide_eq_false hov, hb, wi (x := i + 1) (by omega)]
            rfl
          · unfold tTS
            simp only
            rw [goodS1_iff.2 n2, cond_true]
            have e : actS f i.toNat ⟨x, 0, m, N1, o⟩ = ⟨x + ((f i.toNat).outL.length : Int), 0, m, N1, o⟩ := by unfold actS; rw [hb]; rfl
            rw [e] at h
            exact h
        · obtain ⟨hok, n1⟩ := n1 hk
          have hb : ((f i.toNat).kind != 4) = true := by simpa using hk
          refine ⟨(x + ((f i.toNat).outL.length : Int), i + 1, N, f, (doV m N1 o (f i.toNat)).m, (doV m N1 o (f i.toNat)).N, (doV m N1 o (f i.toNat)).o), by simp only; omega, fun K' => ?_, ?_⟩
          · rw [roundTS, decide_eq_true hi, decide_eq_true h1.1, decide_eq_true (show i.toNat < N by omega), wi (x := x + ((f i.toNat).outL.length : Int)) (by omega), decide_eq_false hov, hb, wi (x := i + 1) (by omega), chkRo_true Rt.backI, hok]
            rfl
          · unfold tTS
            simp only
            rw [goodS1_iff.2 n1, cond_true]
            have e : Al (actS f i.toNat ⟨x, 0, m, N1, o⟩) ⟨x + ((f i.toNat).outL.length : Int), 0, (doV m N1 o (f i.toNat)).m, (doV m N1 o (f i.toNat)).N, (doV m N1 o (f i.toNat)).o⟩ := by unfold actS; rw [hb]; exact ⟨rfl, rfl, rfl, rfl⟩
            obtain ⟨e1, e2⟩ := all_al f (N - (i + 1).toNat) (i + 1).toNat e
            rw [e2, fin_kS _ _ e1.x e1.m e1.N e1.o] at h
            exact h
    · right
      rw [show N - i.toNat = 0 by omega] at h
      exact ⟨.exit 0, _, by simp, fun K' => by rw [roundTS, decide_eq_false hi]; rfl, h⟩
/-- The acts' end. -/
theorem all_set {f : Nat → Ac} : ∀ (k : Nat) {i : Int} {N : Nat} {s : DS}, SI1 (s.x, i, N, f, s.d.m, s.d.N, s.d.o) → i + k = N → overS f k i.toNat s = false → SI1 ((allS f k i.toNat s).x, N, N, f, (allS f k i.toNat s).d.m, (allS f k i.toNat s).d.N, (allS f k i.toNat s).d.o)
  | 0, i, N, s, h, hk, _ => by
    have : i = N := by omega
    subst this
    exact h
  | k + 1, i, N, s, h, hk, ho => by
    have h1 := h.li.i
    simp only at h1
    unfold overS at ho
    by_cases hov : s.x + ((f i.toNat).outL.length : Int) > 200
    · rw [decide_eq_true hov] at ho; cases ho
    · rw [decide_eq_false hov, cond_false] at ho
      obtain ⟨n1, n2⟩ := h.next (by omega) hov
      unfold allS
      rw [show i.toNat + 1 = (i + 1).toNat by omega] at ho ⊢
      refine all_set k ?_ (by omega) ho
      unfold actS
      by_cases hk4 : (f i.toNat).kind = 4
      · rw [show ((f i.toNat).kind != 4) = false by simp [hk4]]
        exact n2 hk4
      · rw [show ((f i.toNat).kind != 4) = true by simpa using hk4]
        exact (n1 hk4).2
end Go.Proofs.Ytpebebhjmnmcbaa.Md

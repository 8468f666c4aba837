/- What the reference's client comes to. No condition. -/
import Derived.Test.YtpebebhjmnmcbaaRplays
set_option maxRecDepth 100000
set_option linter.unusedSimpArgs false
set_option linter.unusedVariables false
namespace Go.Proofs.Ytpebebhjmnmcbaa.Rt
open Go Go.Proofs.Ytpebebhjmnmcbaa.Sx
/-- How it stands: was an outcome used; the error; how many calls; the router; its outcomes, and how many of them there are in memory. -/
structure MS where
  b : Bool
  e : Int
  n : Int
  r : Rm
  M : Nat
  o : Nat → Int
noncomputable def mstep (to : Cell) (s : MS) : MS := ⟨s.b || (mres s.r s.o to.gen to.slot).1, (mres s.r s.o to.gen to.slot).2.1, s.n + 1, (mres s.r s.o to.gen to.slot).2.2, bif (mres s.r s.o to.gen to.slot).1 then s.r.n - 1 else s.M, mouts s.r s.o (mres s.r s.o to.gen to.slot).1⟩
noncomputable def mloop (to : Cell) (T : Int) : Nat → MS → MS
  | 0, s => s
  | k + 1, s => bif s.e == 10 && decide (s.n < T) then mloop to T k (mstep to s) else s
theorem mloop_stop {to : Cell} {T : Int} {s : MS} (h : (s.e == 10 && decide (s.n < T)) = false) : ∀ k, mloop to T k s = s
  | 0 => rfl
  | k + 1 => by unfold mloop; rw [h]; rfl
@[reducible] def hs0 (to : Cell) (r : Rm) (N : Nat) (ge : Nat → List CV) : List (Option SB) := [some (.cells [.int .i64 r.slot, .int .i64 r.gen, .slc 1 r.i0 r.n, .int .i64 r.writes, .ptr 2 0]), some (.vec 1 [] (.gen N ge)), some (.cells [.bool r.armed, .int .i64 r.left, .bool r.blown, .int .i64 r.count])]
@[reducible] def hs1 (to : Cell) (r : Rm) (N : Nat) (g : Nat → List CV) (M : Nat) (ge : Nat → List CV) : List (Option SB) := [some (.cells [.int .i64 r.slot, .int .i64 r.gen, .slc 3 r.i0 r.n, .int .i64 r.writes, .ptr 2 0]), some (.vec 1 [] (.gen N g)), some (.cells [.bool r.armed, .int .i64 r.left, .bool r.blown, .int .i64 r.count]), some (.vec 1 [] (.gen M ge))]
@[reducible] def encS0 (e n : Int) (to : Cell) (tries : Int) (r : Rm) (N : Nat) (ge : Nat → List CV) : Sx.St := ⟨[(0, .s (.c (.ptr 0 0))), (2, .s (.c (.int .i64 tries))), (4, .s (.c (.ptr 3 0))), (8, .s (.c (.int .i64 e))), (9, .s (.c (.int .i64 n)))], hs0 to r N ge ++ [some (.cells [.int .i64 to.slot, .int .i64 to.gen])], 4, 28⟩
@[reducible] def encS1 (e n : Int) (to : Cell) (tries : Int) (r : Rm) (N : Nat) (g : Nat → List CV) (M : Nat) (ge : Nat → List CV) : Sx.St := ⟨[(0, .s (.c (.ptr 0 0))), (2, .s (.c (.int .i64 tries))), (4, .s (.c (.ptr 4 0))), (8, .s (.c (.int .i64 e))), (9, .s (.c (.int .i64 n)))], hs1 to r N g M ge ++ [some (.cells [.int .i64 to.slot, .int .i64 to.gen])], 5, 28⟩
@[reducible] def SAx := Int × Cell × Nat × (Nat → List CV) × MS
def encS : SAx → Sx.St
  | (tries, to, N, g, s) => bif s.b then encS1 s.e s.n to tries s.r N g s.M (fun j => encI (s.o j)) else encS0 s.e s.n to tries s.r s.M (fun j => encI (s.o j))
@[reducible] def finS1 (e n : Int) (to : Cell) (r : Rm) (N : Nat) (g : Nat → List CV) (M : Nat) (ge : Nat → List CV) : Sx.St := ⟨[(8, .s (.c (.int .i64 e))), (9, .s (.c (.int .i64 n)))], hs1 to r N g M ge, 4, 28⟩
@[reducible] def finS0 (e n : Int) (to : Cell) (r : Rm) (N : Nat) (ge : Nat → List CV) : Sx.St := ⟨[(8, .s (.c (.int .i64 e))), (9, .s (.c (.int .i64 n)))], hs0 to r N ge, 3, 28⟩
@[reducible] def SRaw := Int × Cell × Nat × (Nat → List CV) × Bool × Int × Int × Rm × Nat × (Nat → List CV)
def decS : Sx.St → Option SRaw
  | ⟨[(0, .s (.c (.ptr 0 0))), (2, .s (.c (.int .i64 tries))), (4, .s (.c (.ptr 3 0))), (8, .s (.c (.int .i64 e))), (9, .s (.c (.int .i64 n)))], [some (.cells [.int .i64 y1, .int .i64 y2, .slc 1 y3 y4, .int .i64 y5, .ptr 2 0]), some (.vec 1 [] (.gen N ge)), some (.cells [.bool x1, .int .i64 x2, .bool x3, .int .i64 x4]), some (.cells [.int .i64 a, .int .i64 b])], 4, 28⟩ =>
      some (tries, ⟨a, b⟩, N, ge, false, e, n, ⟨y1, y2, y5, y3, y4, x1, x2, x3, x4⟩, N, ge)
  | _ => none
noncomputable def chkS : SRaw → Bool
  | (_, _, _, _, _, _, _, _, _, ge) => chkRo encI decID ge
def normS : SRaw → SAx
  | (tries, to, N, g, b, e, n, r, M, ge) => (tries, to, N, g, ⟨b, e, n, r, M, fun j => decID (ge j)⟩)
theorem decS_spec (st : Sx.St) (p : SRaw) (h : decS st = some p) (hc : chkS p = true) : st = encS (normS p) := by
  unfold decS at h
  split at h
  · cases h
    have g := chkRo_spec hc
    unfold normS encS
    simp only [cond_false]
    unfold encS0
    rw [← g]
    rfl
  · cases h
structure SI (p : SAx) : Prop where
  n : 0 ≤ p.2.2.2.2.n
  T : triesV p.1 ≤ 8
  le : p.2.2.2.2.r.i0 + p.2.2.2.2.r.n ≤ p.2.2.2.2.M
  max : p.2.2.2.2.r.n ≤ 4294967296
  g : p.2.2.2.2.b = false → p.2.2.1 = p.2.2.2.2.M ∧ p.2.2.2.1 = fun j => encI (p.2.2.2.2.o j)
noncomputable def goodS (p : SAx) : Bool := @decide (SI p) (Classical.propDecidable _)
theorem goodS_iff {p : SAx} : goodS p = true ↔ SI p := Iff.of_eq (@decide_eq_true_eq _ (Classical.propDecidable _))
@[reducible] noncomputable def mfin (tries : Int) (to : Cell) (s : MS) : MS := mloop to (triesV tries) (triesV tries - s.n).toNat s
noncomputable def finS (to : Cell) (N : Nat) (g : Nat → List CV) (s : MS) (R : Type) (K : Ex → Sx.St → Option R) : Option R :=
  bif s.b then K (.exit 0) (finS1 s.e s.n to s.r N g s.M (fun j => encI (s.o j))) else K (.exit 0) (finS0 s.e s.n to s.r s.M (fun j => encI (s.o j)))
noncomputable def tS (p : SAx) (R : Type) (K : Ex → Sx.St → Option R) : Option R := bif goodS p then finS p.2.1 p.2.2.1 p.2.2.2.1 (mfin p.1 p.2.1 p.2.2.2.2) R K else none
@[reducible] noncomputable def LS : List (Nat × LoopSum) := [(0, formSumC decS chkS normS tS)]
theorem roundS0 {R : Type} (L : List (Nat × LoopSum)) (e n : Int) (to : Cell) (tries : Int) (r : Rm) (N : Nat) (o : Nat → Int) (K : Ex → Sx.St → Option R) :
    roundK Try.prog SP L 20 3 (resMask Try.f54.results.toList) (lpAt Try.f54 0) (encS0 e n to tries r N (fun j => encI (o j))) K =
    bif e == 10 then bif decide (n < triesV tries) then bif chkMb r N (fun j => encI (o j)) then
      mc r o to.gen to.slot (fun e2 r2 => K .normal (encS0 e2 (IntKind.i64.wrap (n + 1)) to tries r2 N (fun j => encI (o j)))) (fun e2 r2 => K .normal (encS1 e2 (IntKind.i64.wrap (n + 1)) to tries r2 N (fun j => encI (o j)) (r.n - 1) (subG (fun j => encI (o j)) (addI r.i0 1))))
    else none else K (.exit 0) (finS0 e n to r N (fun j => encI (o j))) else K (.exit 0) (finS0 e n to r N (fun j => encI (o j))) := by kernel_rfl
theorem roundS1 {R : Type} (L : List (Nat × LoopSum)) (e n : Int) (to : Cell) (tries : Int) (r : Rm) (N : Nat) (g : Nat → List CV) (M : Nat) (o : Nat → Int) (K : Ex → Sx.St → Option R) :
    roundK Try.prog SP L 20 3 (resMask Try.f54.results.toList) (lpAt Try.f54 0) (encS1 e n to tries r N g M (fun j => encI (o j))) K =
    bif e == 10 then bif decide (n < triesV tries) then bif chkMb r M (fun j => encI (o j)) then
      mc r o to.gen to.slot (fun e2 r2 => K .normal (encS1 e2 (IntKind.i64.wrap (n + 1)) to tries r2 N g M (fun j => encI (o j)))) (fun e2 r2 => K .normal (encS1 e2 (IntKind.i64.wrap (n + 1)) to tries r2 N g (r.n - 1) (subG (fun j => encI (o j)) (addI r.i0 1))))
    else none else K (.exit 0) (finS1 e n to r N g M (fun j => encI (o j))) else K (.exit 0) (finS1 e n to r N g M (fun j => encI (o j))) := by kernel_rfl
theorem triesV_le (n : Int) : 1 ≤ triesV n ∧ triesV n ≤ 8 := by
  unfold triesV
  by_cases h1 : n < 1
  · rw [decide_eq_true h1]; simp
  · by_cases h2 : n > 8
    · rw [decide_eq_false h1, decide_eq_true h2]; simp
    · rw [decide_eq_false h1, decide_eq_false h2]; simp only [cond_false]; omega
theorem mres_keeps (m : Rm) (o : Nat → Int) (gen slot : Int) : ((mres m o gen slot).1 = true → (mres m o gen slot).2.2.i0 = 0 ∧ (mres m o gen slot).2.2.n = m.n - 1) ∧ ((mres m o gen slot).1 = false → (mres m o gen slot).2.2.i0 = m.i0 ∧ (mres m o gen slot).2.2.n = m.n ∧ (mres m o gen slot).2.1 ≠ 10) := by
  unfold mres mc
  cases decide (slot < 0) <;> simp only [cond_true, cond_false]
  · cases decide (slot > 1) <;> simp only [cond_true, cond_false]
    · cases decide (gen < 1) <;> simp only [cond_true, cond_false]
      · cases decide (gen > 1048576) <;> simp only [cond_true, cond_false]
        · cases !(mspendV (mfu m)).1 <;> simp only [cond_true, cond_false]
          · cases decide ((m.n : Int) > 0) <;> simp only [cond_true, cond_false]
            · have := mset_keeps (mspend1 m) gen slot
              cases decide (gen > m.gen) <;> simp only [cond_true, cond_false]
              · cases decide (gen < m.gen) <;> simp only [cond_true, cond_false]
                · cases slot != m.slot <;> exact ⟨fun h => (by cases h), fun _ => ⟨by trivial, by trivial, by simp⟩⟩
                · exact ⟨fun h => (by cases h), fun _ => ⟨by trivial, by trivial, by simp⟩⟩
              · exact ⟨fun h => (by cases h), fun _ => ⟨this.1, this.2, by simp⟩⟩
            · have := mpop_keeps (mspend1 m) (o (addI m.i0 0)) gen slot
              refine ⟨fun _ => ⟨by trivial, ?_⟩, fun h => (by cases h)⟩
              show (mpop (mspend1 m) (o (addI m.i0 0)) gen slot).2.n - 1 = m.n - 1
              rw [this.2]; rfl
          · exact ⟨fun h => (by cases h), fun _ => ⟨by trivial, by trivial, by simp⟩⟩
        · exact ⟨fun h => (by cases h), fun _ => ⟨by trivial, by trivial, by simp⟩⟩
      · exact ⟨fun h => (by cases h), fun _ => ⟨by trivial, by trivial, by simp⟩⟩
    · exact ⟨fun h => (by cases h), fun _ => ⟨by trivial, by trivial, by simp⟩⟩
  · exact ⟨fun h => (by cases h), fun _ => ⟨by trivial, by trivial, by simp⟩⟩
theorem okS : LoopOk Try.prog SP LS 20 3 (resMask Try.f54.results.toList) (lpAt Try.f54 0) (formSumC decS chkS normS tS) := by
  refine LoopOk.ofC decS_spec (fun p => (triesV p.1 - p.2.2.2.2.n).toNat) ?_
  rintro ⟨tries, to, N, g, s⟩ R K x h
  unfold tS at h
  cases hg : goodS (tries, to, N, g, s) with
  | false => rw [hg] at h; cases h
  | true =>
    rw [hg, cond_true] at h
    obtain ⟨h1, h2, h3, h4, h5⟩ := goodS_iff.1 hg
    simp only at h1 h2 h3 h4 h5 h
    by_cases hgo : s.e = 10 ∧ s.n < triesV tries
    · left
      have e1 : (s.e == 10) = true := by simp [hgo.1]
      have e2 : decide (s.n < triesV tries) = true := decide_eq_true hgo.2
      have e3 : chkMb s.r s.M (fun j => encI (s.o j)) = true := chkMb_iff.2 ⟨rfl, h3, h4⟩
      refine ⟨(tries, to, N, g, mstep to s), ?_, fun K' => ?_, ?_⟩
      · show (triesV tries - (s.n + 1)).toNat < (triesV tries - s.n).toNat
        omega
      · unfold encS
        obtain ⟨b, e, n, r, M, o⟩ := s
        simp only at h1 h2 h3 h4 h5 hgo e1 e2 e3
        unfold mstep
        simp only
        cases b with
        | false =>
          obtain ⟨g1, g2⟩ := h5 rfl
          subst g1 g2
          simp only [cond_false, Bool.false_or]
          rw [roundS0, e1, e2, e3, mc_eq, wi (x := n + 1) (by omega)]
          simp only [cond_true]
          cases hp : (mres r o to.gen to.slot).1 with
          | false => rfl
          | true => simp only [cond_true]; rw [cut_enc, addI_eq]; rfl
        | true =>
          simp only [cond_true, Bool.true_or]
          rw [roundS1, e1, e2, e3, mc_eq, wi (x := n + 1) (by omega)]
          simp only [cond_true]
          cases hp : (mres r o to.gen to.slot).1 with
          | false => rfl
          | true => simp only [cond_true]; rw [cut_enc, addI_eq]; rfl
      · unfold tS
        have hgood : goodS (tries, to, N, g, mstep to s) = true := by
          refine goodS_iff.2 ⟨?_, h2, ?_, ?_, ?_⟩
          · show 0 ≤ s.n + 1
            omega
          · obtain ⟨k1, k2⟩ := mres_keeps s.r s.o to.gen to.slot
            show (mres s.r s.o to.gen to.slot).2.2.i0 + (mres s.r s.o to.gen to.slot).2.2.n ≤ (bif (mres s.r s.o to.gen to.slot).1 then s.r.n - 1 else s.M)
            cases hp : (mres s.r s.o to.gen to.slot).1 with
            | false => have := k2 hp; simp only [cond_false]; omega
            | true => have := k1 hp; simp only [cond_true]; omega
          · obtain ⟨k1, k2⟩ := mres_keeps s.r s.o to.gen to.slot
            show (mres s.r s.o to.gen to.slot).2.2.n ≤ 4294967296
            cases hp : (mres s.r s.o to.gen to.slot).1 with
            | false => have := k2 hp; omega
            | true => have := k1 hp; omega
          · intro hb
            have hb' : s.b = false ∧ (mres s.r s.o to.gen to.slot).1 = false := by
              have : (s.b || (mres s.r s.o to.gen to.slot).1) = false := hb
              simpa using this
            show N = (bif (mres s.r s.o to.gen to.slot).1 then s.r.n - 1 else s.M) ∧ g = fun j => encI (mouts s.r s.o (mres s.r s.o to.gen to.slot).1 j)
            rw [hb'.2]
            exact h5 hb'.1
        rw [hgood, cond_true]
        have : mfin tries to s = mfin tries to (mstep to s) := by
          unfold mfin
          rw [show (triesV tries - s.n).toNat = (triesV tries - (mstep to s).n).toNat + 1 by show _ = (triesV tries - (s.n + 1)).toNat + 1; omega]
          conv => lhs; unfold mloop
          rw [e1, e2]
          rfl
        rw [this] at h
        exact h
    · right
      have hs : (s.e == 10 && decide (s.n < triesV tries)) = false := by
        cases hb : (s.e == 10 && decide (s.n < triesV tries)) with
        | false => rfl
        | true =>
          simp only [Bool.and_eq_true, beq_iff_eq, decide_eq_true_eq] at hb
          exact absurd hb hgo
      have hm : mfin tries to s = s := mloop_stop hs _
      rw [hm] at h
      unfold finS at h
      have key : ∀ (A B C : Option R), (bif s.e == 10 then bif decide (s.n < triesV tries) then A else B else B) = B := by
        intro A B C
        cases h5 : s.e == 10 with
        | false => rfl
        | true =>
          rw [h5, Bool.true_and] at hs
          rw [hs]
          rfl
      obtain ⟨b, e, n, r, M, o⟩ := s
      cases b with
      | false =>
        refine ⟨.exit 0, _, by simp, fun K' => ?_, h⟩
        unfold encS
        simp only [cond_false]
        rw [roundS0]
        exact key _ _ none
      | true =>
        refine ⟨.exit 0, _, by simp, fun K' => ?_, h⟩
        unfold encS
        simp only [cond_true]
        rw [roundS1]
        exact key _ _ none
theorem loopsS : LoopsOk Try.prog SP LS 20 3 (resMask Try.f54.results.toList) (loopsOf (resMask Try.f54.results.toList) (bodyOf Try.f54) [] (resMask Try.f54.results.toList)) :=
  loopsOk_ix 1 (by kernel_rfl) ⟨trivial, loopOk_here (n := 0) (by kernel_rfl) rfl okS⟩
noncomputable def msetV (r : Rm) (N : Nat) (o : Nat → Int) (to : Cell) (tries : Int) : MS := mfin tries to ⟨false, 10, 0, r, N, o⟩
theorem t_mset {R : Type} (r : Rm) (N : Nat) (ge : Nat → List CV) (to : Cell) (tries : Int) (K : TV → List (Option SB) → Option R) : runFnL Try.prog SP LS 20 Try.f54 (bodyOf Try.f54) [.c (.ptr 0 0), .agg (encCell to), i64 tries] (hpM r N ge) K =
    bif chkRo encI decID ge then bif goodS (tries, to, N, ge, ⟨false, 10, 0, r, N, fun j => decID (ge j)⟩) then
      bif (msetV r N (fun j => decID (ge j)) to tries).b then K (.tup [i64 (msetV r N (fun j => decID (ge j)) to tries).e, i64 (msetV r N (fun j => decID (ge j)) to tries).n]) (hs1 to (msetV r N (fun j => decID (ge j)) to tries).r N ge (msetV r N (fun j => decID (ge j)) to tries).M (fun j => encI ((msetV r N (fun j => decID (ge j)) to tries).o j)))
      else K (.tup [i64 (msetV r N (fun j => decID (ge j)) to tries).e, i64 (msetV r N (fun j => decID (ge j)) to tries).n]) (hs0 to (msetV r N (fun j => decID (ge j)) to tries).r (msetV r N (fun j => decID (ge j)) to tries).M (fun j => encI ((msetV r N (fun j => decID (ge j)) to tries).o j)))
    else none else none := by kernel_rfl
noncomputable def g_mset : List SV → List SB → Cs
  | [.c (.ptr 0 0), .agg l, .c (.int .i64 tries)], hp => match decM hp, decCell l with
    | some (r, N, ge), some to => .br (chkMb r N ge) (.br (msetV r N (fun j => decID (ge j)) to tries).b
        (.out ⟨true, .tup [i64 (msetV r N (fun j => decID (ge j)) to tries).e, i64 (msetV r N (fun j => decID (ge j)) to tries).n], (hs1 to (msetV r N (fun j => decID (ge j)) to tries).r N ge 0 ge).take 3, [.vec 1 [] (.gen (msetV r N (fun j => decID (ge j)) to tries).M (fun j => encI ((msetV r N (fun j => decID (ge j)) to tries).o j)))]⟩)
        (.out ⟨true, .tup [i64 (msetV r N (fun j => decID (ge j)) to tries).e, i64 (msetV r N (fun j => decID (ge j)) to tries).n], hs0 to (msetV r N (fun j => decID (ge j)) to tries).r (msetV r N (fun j => decID (ge j)) to tries).M (fun j => encI ((msetV r N (fun j => decID (ge j)) to tries).o j)), []⟩)) .no
    | _, _ => .no
  | _, _ => .no
theorem ok_mset : SumOk Try.prog 54 (genSumT g_mset) := by
  refine sumOk_cs okSP mixed Try.func54 (c := bodyOf Try.f54) (by kernel_rfl) (by kernel_rfl) ?_
  intro args hp x h
  unfold g_mset at h ⊢
  split at h
  · rename_i l tries
    cases hd : decM hp with
    | none => rw [hd] at h; cases h
    | some p =>
      obtain ⟨r, N, ge⟩ := p
      cases hl : decCell l with
      | none => rw [hd, hl] at h; cases h
      | some to =>
        rw [hd, hl] at h
        simp only at h ⊢
        obtain rfl := decM_spec hd
        obtain rfl := decCell_spec _ _ hl
        cases hc : chkMb r N ge with
        | false => rw [hc] at h; cases h
        | true =>
          obtain ⟨e, hN, hn⟩ := chkMb_iff.1 hc
          refine ⟨LS, 20, loopsS, (t_mset ..).trans ?_⟩
          have e0 : chkRo encI decID ge = true := by rw [e]; exact chkRo_true backI fun j => decID (ge j)
          have e1 : goodS (tries, to, N, ge, ⟨false, 10, 0, r, N, fun j => decID (ge j)⟩) = true := goodS_iff.2 ⟨Int.le_refl _, (triesV_le _).2, hN, hn, fun _ => ⟨rfl, e⟩⟩
          rw [e0, e1]
          show _ = bif (msetV r N (fun j => decID (ge j)) to tries).b then _ else _
          cases (msetV r N (fun j => decID (ge j)) to tries).b <;> rfl
  · cases h
end Go.Proofs.Ytpebebhjmnmcbaa.Rt

/- The law RouterOnce: true, and no memory that was there is written. -/
import Derived.Test.YtendbpghgllphaaFuses
set_option maxRecDepth 100000
set_option linter.unusedSimpArgs false
set_option linter.unusedVariables false
namespace Go.Proofs.Ytendbpghgllphaa.Rt
open Go Go.Proofs.Ytendbpghgllphaa.Sx
@[reducible] def OA := Int × Nat × Nat × Nat × Int × Rou × Cell × (Nat → Int) × (Nat → Cell) × (Nat → Int)
def encOn : OA → Sx.St
  | (i, N, P, M, k, r, z, f, g, o) => ⟨[(6, .s (.c (.ptr 2 0))), (7, .s (.c (.int .i64 k))), (8, .s (.c (.ptr 5 0))), (41, .s (.c (.slc 1 0 M))), (42, .s (.c (.int .i64 (M : Int)))), (43, .s (.c (.int .i64 i)))], [some (.ro 1 (.gen P fun i => encI (f i))), some (.ro 2 (.gen M fun i => encCell (g i))), some (.cells [.int .i64 r.slot, .int .i64 r.gen, .slc 3 r.i0 r.n, .int .i64 r.writes, .ptr 4 0]), some (.vec 1 [] (.gen N fun i => encI (o i))), some (.cells [.int .i64 r.left, .bool r.blown, .int .i64 r.count]), some (.cells (encCell z))], 6, 72⟩
@[reducible] def OB := Int × Int × Nat × Nat × Nat × Nat × Int × Rou × Cell × (Nat → List CV) × (Nat → List CV) × (Nat → List CV)
def decOn : Sx.St → Option OB
  | ⟨[(6, .s (.c (.ptr 2 0))), (7, .s (.c (.int .i64 k))), (8, .s (.c (.ptr 5 0))), (41, .s (.c (.slc 1 0 M))), (42, .s (.c (.int .i64 m))), (43, .s (.c (.int .i64 i)))], [some (.ro 1 (.gen P f)), some (.ro 2 (.gen M' g)), some (.cells [.int .i64 a, .int .i64 b, .slc 3 i0 nn, .int .i64 w, .ptr 4 0]), some (.vec 1 [] (.gen N o)), some (.cells [.int .i64 l, .bool bl, .int .i64 c]), some (.cells [.int .i64 za, .int .i64 zb])], 6, 72⟩ => some (i, m, N, P, M, M', k, ⟨a, b, w, i0, nn, l, bl, c⟩, ⟨za, zb⟩, f, g, o)
  | _ => none
noncomputable def chkOn : OB → Bool
  | (_, m, _, _, M, M', _, _, _, f, g, o) => Nat.beq M M' && decide (m = M) && chkRo encI decID f && chkRo encCell decCellD g && chkRo encI decID o
def normOn : OB → OA
  | (i, _, N, P, M, _, k, r, z, f, g, o) => (i, N, P, M, k, r, z, fun j => decID (f j), fun j => decCellD (g j), fun j => decID (o j))
theorem decOn_spec (st : Sx.St) (p : OB) (h : decOn st = some p) (hc : chkOn p = true) : st = encOn (normOn p) := by
  unfold decOn at h
  split at h
  · cases h
    simp only [chkOn, Bool.and_eq_true, decide_eq_true_eq] at hc
    obtain ⟨⟨⟨⟨g0, rfl⟩, g1⟩, g2⟩, g3⟩ := hc
    obtain rfl := Nat.eq_of_beq_eq_true g0
    have g1 := chkRo_spec g1
    have g2 := chkRo_spec g2
    have g3 := chkRo_spec g3
    unfold normOn encOn
    simp only
    rw [← g1, ← g2, ← g3]
    rfl
  · cases h
/-- What a call does to the route. -/
theorem call_route {r : Rou} {o : Nat → Int} {gen slot : Int} (hl : r.left = -1) (hb : r.blown = false) :
    (callV r o gen slot).2.left = -1 ∧ (callV r o gen slot).2.blown = false ∧
    (((callV r o gen slot).2.slot = r.slot ∧ (callV r o gen slot).2.gen = r.gen ∧ (callV r o gen slot).2.writes = r.writes) ∨ (r.gen < gen ∧ (callV r o gen slot).2.slot = slot ∧ (callV r o gen slot).2.gen = gen ∧ (callV r o gen slot).2.writes = IntKind.i64.wrap (r.writes + 1))) := by
  by_cases hv : (slot = 0 ∨ slot = 1) ∧ (1 ≤ gen ∧ gen ≤ 1048576)
  · rw [call_free hl hb hv.1 hv.2]
    have hu : (used r).left = -1 ∧ (used r).blown = false ∧ (used r).slot = r.slot ∧ (used r).gen = r.gen ∧ (used r).writes = r.writes := ⟨hl, hb, rfl, rfl, rfl⟩
    have hs : (setV (used r) o ⟨slot, gen⟩).2.left = -1 ∧ (setV (used r) o ⟨slot, gen⟩).2.blown = false ∧
        (((setV (used r) o ⟨slot, gen⟩).2.slot = r.slot ∧ (setV (used r) o ⟨slot, gen⟩).2.gen = r.gen ∧ (setV (used r) o ⟨slot, gen⟩).2.writes = r.writes) ∨ (r.gen < gen ∧ (setV (used r) o ⟨slot, gen⟩).2.slot = slot ∧ (setV (used r) o ⟨slot, gen⟩).2.gen = gen ∧ (setV (used r) o ⟨slot, gen⟩).2.writes = IntKind.i64.wrap (r.writes + 1))) := by
      unfold setV
      by_cases hgt : gen > (used r).gen
      · rw [decide_eq_true (show (Cell.mk slot gen).gen > (used r).gen from hgt)]
        exact ⟨hl, hb, .inr ⟨hgt, rfl, rfl, rfl⟩⟩
      · rw [decide_eq_false (show ¬ (Cell.mk slot gen).gen > (used r).gen from hgt), cond_false]
        cases ((Cell.mk slot gen).slot == (used r).slot && (Cell.mk slot gen).gen == (used r).gen) <;> exact ⟨hl, hb, .inl ⟨rfl, rfl, rfl⟩⟩
    split
    · exact ⟨hu.1, hu.2.1, .inl hu.2.2⟩
    · split <;> exact hs
  · have e : (!(slot == 0 || slot == 1) || (decide (gen < 1) || decide (gen > 1048576))) = true := by
      simp
      omega
    unfold callV
    rw [e]
    exact ⟨hl, hb, .inl ⟨rfl, rfl, rfl⟩⟩
structure On (p : OA) : Prop where
  i : 0 ≤ p.1 ∧ p.1 ≤ p.2.2.2.1
  M : p.2.2.2.1 ≤ 100
  k : 0 ≤ p.2.2.2.2.1 ∧ p.2.2.2.2.1 ≤ p.1
  left : p.2.2.2.2.2.1.left = -1
  blown : p.2.2.2.2.2.1.blown = false
  n : p.2.2.2.2.2.1.i0 + p.2.2.2.2.2.1.n = p.2.1
  writes : p.2.2.2.2.2.1.writes = p.2.2.2.2.1
  z : p.2.2.2.2.2.2.1 = ⟨p.2.2.2.2.2.1.slot, p.2.2.2.2.2.1.gen⟩
noncomputable def goodO (p : OA) : Bool := @decide (On p) (Classical.propDecidable _)
def finOn (P M : Nat) (f : Nat → Int) (g : Nat → Cell) : Sx.St := ⟨[], [some (.ro 1 (.gen P fun i => encI (f i))), some (.ro 2 (.gen M fun i => encCell (g i)))], 2, 72⟩
noncomputable def tOn (p : OA) (R : Type) (K : Ex → Sx.St → Option R) : Option R := bif goodO p then K (.exit 0) (finOn p.2.2.1 p.2.2.2.1 p.2.2.2.2.2.2.2.1 p.2.2.2.2.2.2.2.2.1) else none
@[reducible] noncomputable def LOn : List (Nat × LoopSum) := [(0, formSumC decOn chkOn normOn tOn)]
@[reducible] noncomputable def two (r : Rou) (o : Nat → Int) (c : Cell) : Rou := (callV (callV r o c.gen c.slot).2 o c.gen c.slot).2
theorem roundOn {R : Type} (L : List (Nat × LoopSum)) (i : Int) (N P M : Nat) (k : Int) (r : Rou) (z : Cell) (f : Nat → Int) (g : Nat → Cell) (o : Nat → Int) (K : Ex → Sx.St → Option R) :
    roundK Try.prog SM L 10 2 (resMask Try.f5.results.toList) (lpAt Try.f5 0) (encOn (i, N, P, M, k, r, z, f, g, o)) K =
    bif decide (i < (M : Int)) then bif decide (0 ≤ i) && decide (i < (M : Int)) then bif decide (i.toNat < M) then bif chkB r N (fun i => encI (o i)) then bif chkB (callV r o (g i.toNat).gen (g i.toNat).slot).2 N (fun i => encI (o i)) then bif chkB (two r o (g i.toNat)) N (fun i => encI (o i)) then
      bif !((two r o (g i.toNat)).slot == z.slot && ((two r o (g i.toNat)).gen == z.gen && true)) then bif chkB (two r o (g i.toNat)) N (fun i => encI (o i)) then
        bif (two r o (g i.toNat)).writes != IntKind.i64.wrap (k + 1) then K .ret ⟨[(4, .s (.c (.bool false)))], [some (.ro 1 (.gen P fun i => encI (f i))), some (.ro 2 (.gen M fun i => encCell (g i)))], 2, 72⟩
        else K .normal (encOn (IntKind.i64.wrap (i + 1), N, P, M, IntKind.i64.wrap (k + 1), two r o (g i.toNat), ⟨(two r o (g i.toNat)).slot, (two r o (g i.toNat)).gen⟩, f, g, o)) else none
      else bif chkB (two r o (g i.toNat)) N (fun i => encI (o i)) then
        bif (two r o (g i.toNat)).writes != k then K .ret ⟨[(4, .s (.c (.bool false)))], [some (.ro 1 (.gen P fun i => encI (f i))), some (.ro 2 (.gen M fun i => encCell (g i)))], 2, 72⟩
        else K .normal (encOn (IntKind.i64.wrap (i + 1), N, P, M, k, two r o (g i.toNat), z, f, g, o)) else none
    else none else none else none else none else none else K (.exit 0) (finOn P M f g) := by kernel_rfl
theorem okOn : LoopOk Try.prog SM LOn 10 2 (resMask Try.f5.results.toList) (lpAt Try.f5 0) (formSumC decOn chkOn normOn tOn) := by
  refine LoopOk.ofC decOn_spec (fun p => p.2.2.2.1 - p.1.toNat) ?_
  rintro ⟨i, N, P, M, k, r, z, f, g, o⟩ R K x h
  unfold tOn at h
  cases hg : goodO (i, N, P, M, k, r, z, f, g, o) with
  | false => rw [hg] at h; cases h
  | true =>
    rw [hg, cond_true] at h
    have hg := (@decide_eq_true_eq _ (Classical.propDecidable _)).mp hg
    obtain ⟨h1, h2, h3, h4, h5, h6, h7, h8⟩ := hg
    simp only at h1 h2 h3 h4 h5 h6 h7 h8 h
    subst h8
    by_cases hi : i < (M : Int)
    · left
      generalize hc : g i.toNat = c
      obtain ⟨a1, a2, a3⟩ := call_route (o := o) (gen := c.gen) (slot := c.slot) h4 h5
      obtain ⟨b1, b2, b3⟩ := call_route (o := o) (gen := c.gen) (slot := c.slot) a1 a2
      have hn1 : chkB r N (fun i => encI (o i)) = true := chkB_true (by omega)
      have hn : (two r o c).i0 + (two r o c).n = N := by
        show (callV (callV r o c.gen c.slot).2 o c.gen c.slot).2.i0 + (callV (callV r o c.gen c.slot).2 o c.gen c.slot).2.n = N
        rw [call_n, call_n]; exact h6
      have b1 : (two r o c).left = -1 := b1
      have b2 : (two r o c).blown = false := b2
      have hk : IntKind.i64.wrap (k + 1) = k + 1 := wi (by omega)
      have key : ((two r o c).slot = r.slot ∧ (two r o c).gen = r.gen ∧ (two r o c).writes = k) ∨ (r.gen < (two r o c).gen ∧ (two r o c).writes = k + 1) := by
        show ((callV (callV r o c.gen c.slot).2 o c.gen c.slot).2.slot = _ ∧ (callV (callV r o c.gen c.slot).2 o c.gen c.slot).2.gen = _ ∧ (callV (callV r o c.gen c.slot).2 o c.gen c.slot).2.writes = _) ∨ (_ < (callV (callV r o c.gen c.slot).2 o c.gen c.slot).2.gen ∧ (callV (callV r o c.gen c.slot).2 o c.gen c.slot).2.writes = _)
        rcases a3 with ⟨e1, e2, e3⟩ | ⟨e0, e1, e2, e3⟩
        · rcases b3 with ⟨f1, f2, f3⟩ | ⟨f0, f1, f2, f3⟩
          · left; rw [f1, f2, f3]; exact ⟨e1, e2, e3.trans h7⟩
          · right
            rw [f2, f3, e3, h7, hk]
            exact ⟨by omega, rfl⟩
        · rcases b3 with ⟨f1, f2, f3⟩ | ⟨f0, f1, f2, f3⟩
          · right
            rw [f2, f3, e2, e3, h7, hk]
            exact ⟨e0, rfl⟩
          · omega
      have hround : ∀ K' : Ex → Sx.St → Option R, roundK Try.prog SM LOn 10 2 (resMask Try.f5.results.toList) (lpAt Try.f5 0) (encOn (i, N, P, M, k, r, ⟨r.slot, r.gen⟩, f, g, o)) K' = _ := fun K' => roundOn LOn i N P M k r ⟨r.slot, r.gen⟩ f g o K'
      rcases key with ⟨q1, q2, q3⟩ | ⟨q1, q2⟩
      · refine ⟨(i + 1, N, P, M, k, two r o c, ⟨r.slot, r.gen⟩, f, g, o), ?_, ?_, ?_⟩
        · simp only; omega
        · intro K'
          rw [roundOn, hc, decide_eq_true hi, decide_eq_true h1.1, decide_eq_true (show i.toNat < M by omega), wi (x := i + 1) (by omega)]
          have w1 : ((two r o c).writes != k) = false := by simp [q3]
          have w2 : ((two r o c).slot == r.slot && ((two r o c).gen == r.gen && true)) = true := by simp [q1, q2]
          simp only [chkB_call, hn1, w1, w2, cond_true, cond_false, Bool.and_self, Bool.not_true]
        · unfold tOn
          have : goodO (i + 1, N, P, M, k, two r o c, ⟨r.slot, r.gen⟩, f, g, o) = true := (@decide_eq_true_eq _ (Classical.propDecidable _)).mpr ⟨by simp only; omega, h2, by simp only; omega, b1, b2, hn, q3, by simp only [q1, q2]⟩
          rw [this]
          exact h
      · refine ⟨(i + 1, N, P, M, k + 1, two r o c, ⟨(two r o c).slot, (two r o c).gen⟩, f, g, o), ?_, ?_, ?_⟩
        · simp only; omega
        · intro K'
          rw [roundOn, hc, decide_eq_true hi, decide_eq_true h1.1, decide_eq_true (show i.toNat < M by omega), wi (x := i + 1) (by omega), hk]
          have w1 : ((two r o c).writes != k + 1) = false := by simp [q2]
          have w2 : ((two r o c).slot == r.slot && ((two r o c).gen == r.gen && true)) = false := by
            have : ((two r o c).gen == r.gen) = false := by simp; omega
            rw [this]; simp
          simp only [chkB_call, hn1, w1, w2, cond_true, cond_false, Bool.and_self, Bool.not_false]
        · unfold tOn
          have : goodO (i + 1, N, P, M, k + 1, two r o c, ⟨(two r o c).slot, (two r o c).gen⟩, f, g, o) = true := (@decide_eq_true_eq _ (Classical.propDecidable _)).mpr ⟨by simp only; omega, h2, by simp only; omega, b1, b2, hn, q2, rfl⟩
          rw [this]
          exact h
    · right
      refine ⟨.exit 0, _, by simp, fun K' => ?_, h⟩
      rw [roundOn, decide_eq_false hi]
      rfl
theorem loopsOn : LoopsOk Try.prog SM LOn 10 2 (resMask Try.f5.results.toList) (loopsOf (resMask Try.f5.results.toList) (bodyOf Try.f5) [] (resMask Try.f5.results.toList)) :=
  loopsOk_ix 1 (by kernel_rfl) ⟨trivial, loopOk_here (n := 0) (by kernel_rfl) rfl okOn⟩
theorem t_RouterOnce {R : Type} (N M : Nat) (f : Nat → Int) (g : Nat → Cell) (K : TV → List (Option SB) → Option R) : runFnL Try.prog SM LOn 10 Try.f5 (bodyOf Try.f5) [.c (.slc 0 0 N), .c (.slc 1 0 M)] [.ro 1 (.gen N fun i => encI (f i)), .ro 2 (.gen M fun i => encCell (g i))] K =
    bif decide ((N : Int) > 100) then K (.s (bl true)) [some (.ro 1 (.gen N fun i => encI (f i))), some (.ro 2 (.gen M fun i => encCell (g i)))] else bif decide ((M : Int) > 100) then K (.s (bl true)) [some (.ro 1 (.gen N fun i => encI (f i))), some (.ro 2 (.gen M fun i => encCell (g i)))] else
    bif decide (N ≤ N) then bif decide (N ≤ 4294967296) then bif decide (N ≤ N) && decide (N ≤ 4294967296) then bif chkB (r0 N) N (fun i => encI (f i)) then
      bif Nat.beq M M && decide ((M : Int) = M) && chkRo encI decID (fun i => encI (f i)) && chkRo encCell decCellD (fun i => encCell (g i)) && chkRo encI decID (fun i => encI (f i)) then
        bif goodO (0, N, N, M, 0, r0 N, ⟨0, 0⟩, f, g, f) then K (.s (bl true)) [some (.ro 1 (.gen N fun i => encI (f i))), some (.ro 2 (.gen M fun i => encCell (g i)))] else none else none else none else none else none else none := by kernel_rfl
theorem RouterOnce (N : Nat) (f : Nat → Int) (M : Nat) (g : Nat → Cell) (q_l : ∀ i, i < N → wfI (f i)) (q_c : ∀ i, i < M → wfCell (g i)) (w : World) (v : Value) (l : Sx.Loc) (hs : SlcR l 0 N v) (hb : BlkR (outer w fun _ _ => False) (rho1 l) l (.ro 1 (.gen N fun i => encI (f i))) w)
    (v' : Value) (l' : Sx.Loc) (hs' : SlcR l' 0 M v') (hb' : BlkR (outer w fun _ _ => False) (rho1 l') l' (.ro 2 (.gen M fun i => encCell (g i))) w) :
    Calls Try.prog 5 #[v, v'] w fun e w' => e = .returned (.bool true) ∧ RowKit.Below w.heap.size w w' := by
  refine law_callsL okSM mixed Try.func5 (c := bodyOf Try.f5) (by kernel_rfl) lawK_spec (fuel := 10) (args := [.c (.slc 0 0 N), .c (.slc 1 0 M)]) (hp0 := [.ro 1 (.gen N fun i => encI (f i)), .ro 2 (.gen M fun i => encCell (g i))]) (X := fun _ _ => False) (ρ := fun b => if b = 0 then some l else if b = 1 then some l' else none) (vs := [v, v']) loopsOn ?_ ⟨⟨l, rfl, hs⟩, ⟨l', rfl, hs'⟩, trivial⟩ ?_ ?_
  · rw [t_RouterOnce]
    by_cases c1 : (N : Int) > 100
    · rw [decide_eq_true c1]; rfl
    by_cases c2 : (M : Int) > 100
    · rw [decide_eq_false c1, decide_eq_true c2]; rfl
    have hg : goodO (0, N, N, M, 0, r0 N, ⟨0, 0⟩, f, g, f) = true := (@decide_eq_true_eq _ (Classical.propDecidable _)).mpr ⟨by simp only; omega, by show M ≤ 100; omega, by simp only; omega, rfl, rfl, by simp, rfl, rfl⟩
    rw [decide_eq_false c1, decide_eq_false c2, hg, chkRo_true backI, chkRo_true backCell, decide_eq_true (show N ≤ N by omega), decide_eq_true (show N ≤ 4294967296 by omega), chkB_true (r := r0 N) (by simp), show (Nat.beq M M && decide ((M : Int) = M) && true && true && true) = true by simp]
    rfl
  · intro b sb h
    match b with
    | 0 =>
      have : SB.ro 1 (.gen N fun i => encI (f i)) = sb := by simpa using h
      subst this
      exact ⟨rfl, l, rfl, hb⟩
    | 1 =>
      have : SB.ro 2 (.gen M fun i => encCell (g i)) = sb := by simpa using h
      subst this
      exact ⟨rfl, l', rfl, hb'⟩
    | b + 2 => simp at h
  · intro b hb
    have hb : 2 ≤ b := hb
    show (if b = 0 then some l else if b = 1 then some l' else none) = none
    rw [if_neg (by omega), if_neg (by omega)]
end Go.Proofs.Ytendbpghgllphaa.Rt

/- The law FleetPlays: true, and no memory that was there is written. -/
import Derived.Test.YthdplllibigkpaaRfleet
set_option maxRecDepth 100000
set_option linter.unusedSimpArgs false
set_option linter.unusedVariables false
namespace Go.Proofs.Ythdplllibigkpaa.Rep
open Go Go.Proofs.Ythdplllibigkpaa.Sx
@[reducible] def LA := Int × Nat × (Nat → Ac) × Int × (Sl × Sl) × Nat × (Nat → List CV) × Nat × (Nat → List CV)
def encFp : LA → Sx.St
  | (i, N, f, ask, x, n, g, m, h) => ⟨[(1, .s (.c (.int .i64 ask))), (5, .s (.c (.ptr 1 0))), (6, .s (.c (.ptr 4 0))), (23, .s (.c (.slc 0 0 N))), (24, .s (.c (.int .i64 (N : Int)))), (25, .s (.c (.int .i64 i)))], [some (.ro 6 (.gen N fun i => encAc (f i))), some (.cells [.ptr 2 0, .ptr 3 0]), some (.cells (encSl x.1)), some (.cells (encSl x.2)), some (.cells [.ptr 5 0, .ptr 7 0]), some (.cells [.slc 6 0 n]), some (.vec 1 [] (.gen n g)), some (.cells [.slc 8 0 m]), some (.vec 1 [] (.gen m h))], 9, 91⟩
@[reducible] def LB := Int × Int × Nat × Nat × (Nat → List CV) × Int × (Sl × Sl) × Nat × Nat × (Nat → List CV) × Nat × Nat × (Nat → List CV)
def decFp : Sx.St → Option LB
  | ⟨[(1, .s (.c (.int .i64 ask))), (5, .s (.c (.ptr 1 0))), (6, .s (.c (.ptr 4 0))), (23, .s (.c (.slc 0 0 N'))), (24, .s (.c (.int .i64 q))), (25, .s (.c (.int .i64 i)))], [some (.ro 6 (.gen N f)), some (.cells [.ptr 2 0, .ptr 3 0]), some (.cells l1), some (.cells l2), some (.cells [.ptr 5 0, .ptr 7 0]), some (.cells [.slc 6 0 n']), some (.vec 1 [] (.gen n g)), some (.cells [.slc 8 0 m']), some (.vec 1 [] (.gen m h))], 9, 91⟩ =>
    (decSl l1).bind fun a => (decSl l2).map fun b => (i, q, N, N', f, ask, (a, b), n', n, g, m', m, h)
  | _ => none
noncomputable def chkFp : LB → Bool
  | (_, q, N, N', f, _, _, n', n, _, m', m, _) => Nat.beq N N' && decide (q = N) && Nat.beq n' n && Nat.beq m' m && chkRo encAc decAcD f
def normFp : LB → LA
  | (i, _, N, _, f, ask, x, _, n, g, _, m, h) => (i, N, fun j => decAcD (f j), ask, x, n, g, m, h)
theorem decFp_spec (st : Sx.St) (p : LB) (h : decFp st = some p) (hc : chkFp p = true) : st = encFp (normFp p) := by
  unfold decFp at h
  split at h
  · obtain ⟨a, h1, h⟩ := Option.bind_eq_some_iff.1 h
    obtain ⟨b, h2, h⟩ := Option.map_eq_some_iff.1 h
    obtain rfl := decSl_spec _ _ h1
    obtain rfl := decSl_spec _ _ h2
    cases h
    simp only [chkFp, Bool.and_eq_true, decide_eq_true_eq] at hc
    obtain ⟨⟨⟨⟨g1, g2⟩, g3⟩, g4⟩, g5⟩ := hc
    have g1 := Nat.eq_of_beq_eq_true g1
    have g3 := Nat.eq_of_beq_eq_true g3
    have g4 := Nat.eq_of_beq_eq_true g4
    subst g1 g2 g3 g4
    have g := chkRo_spec g5
    unfold normFp encFp
    simp only
    rw [← g]
  · cases h
def noFp (N : Nat) (f : Nat → Ac) : Sx.St := ⟨[(4, .s (.c (.bool false)))], [some (.ro 6 (.gen N fun i => encAc (f i)))], 1, 91⟩
def finFp (N : Nat) (f : Nat → Ac) : Sx.St := ⟨[], [some (.ro 6 (.gen N fun i => encAc (f i)))], 1, 91⟩
@[reducible] noncomputable def tlA {α : Type} (x : Sl × Sl) (n : Nat) (g : Nat → List CV) (no yes : Option α) : Option α := bif chkL n n (fixB n g) then bif !(ffull x 0 == rfull n (fixB n g)) then no else yes else none
@[reducible] noncomputable def tlF {α : Type} (ask : Int) (x : Sl × Sl) (n : Nat) (g : Nat → List CV) (m : Nat) (h : Nat → List CV) (no yes : Option α) : Option α :=
  bif Nat.beq n n && Nat.beq m m && chkL n n (fixB n g) && chkL m m (fixB m h) then
    bif !((fview x).want0 == (n : Int) && ((fview x).want1 == (m : Int) && ((fview x).ready0 == rcnt n (fixB n g) && ((fview x).ready1 == rcnt m (fixB m h) && true)))) then no else
    bif ask == 0 then bif chkL n n (fixB n g) then bif !(ffull x ask == rfull n (fixB n g)) then no else tlA x n g no yes else none
    else bif ask == 1 then bif chkL m m (fixB m h) then bif !(ffull x ask == rfull m (fixB m h)) then no else tlA x n g no yes else none
    else bif !(ffull x ask == false) then no else tlA x n g no yes
  else none
theorem tlF_yes {α : Type} {ask : Int} {x : Sl × Sl} {n m : Nat} {g h : Nat → List CV} (no yes : Option α) (h1 : RelS x.1 n g) (h2 : RelS x.2 m h) : tlF ask x n g m h no yes = yes := by
  unfold tlF
  rw [h1.chk, h2.chk, h1.full, h2.full, h1.cnt, h2.cnt]
  have e0 : ffull x 0 = sfull x.1 := rfl
  have a1 := h1.want
  have a2 := h2.want
  simp only [Nat.beq_refl, Bool.and_self, cond_true, a1, a2, beq_self_eq_true, Bool.not_true, cond_false]
  unfold tlA
  rw [h1.chk, h1.full, e0]
  by_cases c1 : ask = 0
  · subst c1
    simp [e0]
  · by_cases c2 : ask = 1
    · subst c2
      have e1 : ffull x 1 = sfull x.2 := rfl
      simp [e1]
    · rw [show (ask == 0) = false by simpa using c1, show (ask == 1) = false by simpa using c2]
      have e2 : ffull x ask = false := by unfold ffull; rw [if_neg c1, if_neg c2]
      simp [e2]
@[reducible] noncomputable def rdyF {α : Type} (n : Nat) (g : Nat → List CV) (k : Int) (b : Bool) (F' : Bool → (Nat → List CV) → Option α) : Option α :=
  bif chkL n n (fixB n g) then bif decide (k < 0) then F' false (fixB n g) else bif decide (k ≥ (n : Int)) then F' false (fixB n g) else F' true (fun j => encB1 (bif Nat.beq j k.toNat then b else decB1 (fixB n g j))) else none
theorem rdyF_eq {α : Type} {s : Sl} {n : Nat} {g : Nat → List CV} {k : Int} {b : Bool} {F' : Bool → (Nat → List CV) → Option α} (h : RelS s n g) : ∃ g2, RelS (sreadyS s k b) n g2 ∧ rdyF n g k b F' = F' (sreadyB s k) g2 := by
  unfold rdyF
  rw [h.chk, cond_true]
  by_cases c1 : k < 0
  · obtain ⟨e1, e2⟩ := h.unready (.inl c1) b
    exact ⟨_, by rw [e2]; exact h.again, by rw [decide_eq_true c1, e1]; rfl⟩
  · by_cases c2 : k ≥ (n : Int)
    · obtain ⟨e1, e2⟩ := h.unready (.inr c2) b
      exact ⟨_, by rw [e2]; exact h.again, by rw [decide_eq_false c1, decide_eq_true c2, e1]; rfl⟩
    · obtain ⟨e1, e2⟩ := h.ready (k := k) (by omega) (by omega) b
      exact ⟨_, e2, by rw [decide_eq_false c1, decide_eq_false c2, e1]; rfl⟩
structure LI (p : LA) : Prop where
  i : 0 ≤ p.1 ∧ p.1 ≤ p.2.1
  N : p.2.1 ≤ 300
  a : RelS p.2.2.2.2.1.1 p.2.2.2.2.2.1 p.2.2.2.2.2.2.1
  b : RelS p.2.2.2.2.1.2 p.2.2.2.2.2.2.2.1 p.2.2.2.2.2.2.2.2
noncomputable def goodFp (p : LA) : Bool := @decide (LI p) (Classical.propDecidable _)
theorem goodFp_iff {p : LA} : goodFp p = true ↔ LI p := Iff.of_eq (@decide_eq_true_eq _ (Classical.propDecidable _))
noncomputable def tFp (p : LA) (R : Type) (K : Ex → Sx.St → Option R) : Option R := bif goodFp p then K (.exit 0) (finFp p.2.1 p.2.2.1) else none
@[reducible] noncomputable def LFp : List (Nat × LoopSum) := [(0, formSumC decFp chkFp normFp tFp)]
theorem roundFp {R : Type} (L : List (Nat × LoopSum)) (i : Int) (N : Nat) (f : Nat → Ac) (ask : Int) (a b : Sl) (n : Nat) (g : Nat → List CV) (m : Nat) (h : Nat → List CV) (K : Ex → Sx.St → Option R) :
    roundK Try.prog FR1 L 20 1 (resMask Try.f7.results.toList) (lpAt Try.f7 0) (encFp (i, N, f, ask, (a, b), n, g, m, h)) K =
    bif decide (i < (N : Int)) then bif decide (0 ≤ i) && decide (i < (N : Int)) then bif decide (i.toNat < N) then
      bif (f i.toNat).kind == 1 then bif Nat.beq n n && Nat.beq m m && chkL n n (fixB n g) && chkL m m (fixB m h) then
        tlF ask (sscale a (f i.toNat).w0, sscale b (f i.toNat).w1) (capN (f i.toNat).w0).toNat (scaledG n g (f i.toNat).w0) (capN (f i.toNat).w1).toNat (scaledG m h (f i.toNat).w1) (K .ret (noFp N f))
          (K .normal (encFp (IntKind.i64.wrap (i + 1), N, f, ask, (sscale a (f i.toNat).w0, sscale b (f i.toNat).w1), (capN (f i.toNat).w0).toNat, scaledG n g (f i.toNat).w0, (capN (f i.toNat).w1).toNat, scaledG m h (f i.toNat).w1)))
      else none
      else bif (f i.toNat).kind == 2 then bif decide (a.want ≤ 32) && decide (b.want ≤ 32) then
        bif (f i.toNat).slot == 0 then rdyF n g (f i.toNat).n (f i.toNat).on fun r g2 => bif !((fready (a, b) (f i.toNat).slot (f i.toNat).n (f i.toNat).on).1 == r) then K .ret (noFp N f) else tlF ask (fready (a, b) (f i.toNat).slot (f i.toNat).n (f i.toNat).on).2 n g2 m h (K .ret (noFp N f))
          (K .normal (encFp (IntKind.i64.wrap (i + 1), N, f, ask, (fready (a, b) (f i.toNat).slot (f i.toNat).n (f i.toNat).on).2, n, g2, m, h)))
        else bif (f i.toNat).slot == 1 then rdyF m h (f i.toNat).n (f i.toNat).on fun r h2 => bif !((fready (a, b) (f i.toNat).slot (f i.toNat).n (f i.toNat).on).1 == r) then K .ret (noFp N f) else tlF ask (fready (a, b) (f i.toNat).slot (f i.toNat).n (f i.toNat).on).2 n g m h2 (K .ret (noFp N f))
          (K .normal (encFp (IntKind.i64.wrap (i + 1), N, f, ask, (fready (a, b) (f i.toNat).slot (f i.toNat).n (f i.toNat).on).2, n, g, m, h2)))
        else bif !((fready (a, b) (f i.toNat).slot (f i.toNat).n (f i.toNat).on).1 == false) then K .ret (noFp N f) else tlF ask (fready (a, b) (f i.toNat).slot (f i.toNat).n (f i.toNat).on).2 n g m h (K .ret (noFp N f))
          (K .normal (encFp (IntKind.i64.wrap (i + 1), N, f, ask, (fready (a, b) (f i.toNat).slot (f i.toNat).n (f i.toNat).on).2, n, g, m, h)))
      else none
      else bif (f i.toNat).kind == 3 then bif decide (0 ≤ a.want) && decide (a.want ≤ 32) && (decide (0 ≤ b.want) && decide (b.want ≤ 32)) then bif Nat.beq n n && Nat.beq m m && chkL n n (fixB n g) && chkL m m (fixB m h) then
        tlF ask (ffill a, ffill b) n (fillG n 32 0 g) m (fillG m 32 0 h) (K .ret (noFp N f)) (K .normal (encFp (IntKind.i64.wrap (i + 1), N, f, ask, (ffill a, ffill b), n, fillG n 32 0 g, m, fillG m 32 0 h)))
      else none else none
      else tlF ask (a, b) n g m h (K .ret (noFp N f)) (K .normal (encFp (IntKind.i64.wrap (i + 1), N, f, ask, (a, b), n, g, m, h)))
    else none else none else K (.exit 0) (finFp N f) := by kernel_rfl
theorem okFp : LoopOk Try.prog FR1 LFp 20 1 (resMask Try.f7.results.toList) (lpAt Try.f7 0) (formSumC decFp chkFp normFp tFp) := by
  refine LoopOk.ofC decFp_spec (fun p => p.2.1 - p.1.toNat) ?_
  rintro ⟨i, N, f, ask, ⟨a, b⟩, n, g, m, k⟩ R K x h
  unfold tFp at h
  cases hg : goodFp (i, N, f, ask, (a, b), n, g, m, k) with
  | false => rw [hg] at h; cases h
  | true =>
    rw [hg, cond_true] at h
    obtain ⟨h1, h2, h3, h4⟩ := goodFp_iff.1 hg
    simp only at h1 h2 h3 h4 h
    by_cases hi : i < (N : Int)
    · left
      have key : ∀ (x2 : Sl × Sl) (n2 : Nat) (g2 : Nat → List CV) (m2 : Nat) (k2 : Nat → List CV), RelS x2.1 n2 g2 → RelS x2.2 m2 k2 → tFp (i + 1, N, f, ask, x2, n2, g2, m2, k2) R K = some x := fun x2 n2 g2 m2 k2 p q => by
        unfold tFp
        rw [goodFp_iff.2 ⟨by simp only; omega, h2, p, q⟩]
        exact h
      have hr : ∀ K' : Ex → Sx.St → Option R, _ := fun K' => roundFp LFp i N f ask a b n g m k K'
      simp only [decide_eq_true hi, decide_eq_true h1.1, decide_eq_true (show i.toNat < N by omega), wi (x := i + 1) (by omega), Bool.and_self, cond_true, h3.chk, h4.chk, Nat.beq_refl, decide_eq_true h3.inv.high, decide_eq_true h4.inv.high, decide_eq_true h3.inv.low, decide_eq_true h4.inv.low] at hr
      generalize f i.toNat = c at hr
      cases k1 : c.kind == 1 with
      | true =>
        have g3 := h3.scale c.w0
        have g4 := h4.scale c.w1
        refine ⟨(i + 1, N, f, ask, (sscale a c.w0, sscale b c.w1), _, _, _, _), ?_, fun K' => ?_, key _ _ _ _ _ g3 g4⟩
        · show N - (i + 1).toNat < N - i.toNat; omega
        · rw [hr, k1]; exact tlF_yes (x := (sscale a c.w0, sscale b c.w1)) _ _ g3 g4
      | false =>
      cases k2 : c.kind == 2 with
      | true =>
        by_cases c1 : c.slot = 0
        · obtain ⟨g2, q1, q2⟩ := rdyF_eq (k := c.n) (b := c.on) (F' := fun r g2 => (none : Option R)) h3
          have e : fready (a, b) c.slot c.n c.on = (sreadyB a c.n, sreadyS a c.n c.on, b) := by unfold fready; rw [if_pos c1]
          obtain ⟨g2, q1, _⟩ := rdyF_eq (k := c.n) (b := c.on) (F' := fun r g2 => (none : Option R)) h3
          have hall : ∃ g2, RelS (sreadyS a c.n c.on) n g2 ∧ ∀ F' : Bool → (Nat → List CV) → Option R, rdyF n g c.n c.on F' = F' (sreadyB a c.n) g2 := by
            by_cases c3 : c.n < 0
            · obtain ⟨e1, e2⟩ := h3.unready (.inl c3) c.on
              exact ⟨fixB n g, by rw [e2]; exact h3.again, fun F' => by unfold rdyF; rw [h3.chk, decide_eq_true c3, e1]; rfl⟩
            · by_cases c4 : c.n ≥ (n : Int)
              · obtain ⟨e1, e2⟩ := h3.unready (.inr c4) c.on
                exact ⟨fixB n g, by rw [e2]; exact h3.again, fun F' => by unfold rdyF; rw [h3.chk, decide_eq_false c3, decide_eq_true c4, e1]; rfl⟩
              · obtain ⟨e1, e2⟩ := h3.ready (k := c.n) (by omega) (by omega) c.on
                exact ⟨_, e2, fun F' => by unfold rdyF; rw [h3.chk, decide_eq_false c3, decide_eq_false c4, e1]; rfl⟩
          obtain ⟨g5, q5, q6⟩ := hall
          refine ⟨(i + 1, N, f, ask, (sreadyS a c.n c.on, b), _, _, _, _), ?_, fun K' => ?_, key _ _ _ _ _ q5 h4⟩
          · show N - (i + 1).toNat < N - i.toNat; omega
          · rw [hr, k1, k2, show (c.slot == 0) = true by simpa using c1, e]
            simp only [cond_true, cond_false]
            rw [q6]
            simp only [beq_self_eq_true, Bool.not_true, cond_false]
            exact tlF_yes (x := (sreadyS a c.n c.on, b)) _ _ q5 h4
        · by_cases c2 : c.slot = 1
          · have e : fready (a, b) c.slot c.n c.on = (sreadyB b c.n, a, sreadyS b c.n c.on) := by unfold fready; rw [if_neg c1, if_pos c2]
            have hall : ∃ g2, RelS (sreadyS b c.n c.on) m g2 ∧ ∀ F' : Bool → (Nat → List CV) → Option R, rdyF m k c.n c.on F' = F' (sreadyB b c.n) g2 := by
              by_cases c3 : c.n < 0
              · obtain ⟨e1, e2⟩ := h4.unready (.inl c3) c.on
                exact ⟨fixB m k, by rw [e2]; exact h4.again, fun F' => by unfold rdyF; rw [h4.chk, decide_eq_true c3, e1]; rfl⟩
              · by_cases c4 : c.n ≥ (m : Int)
                · obtain ⟨e1, e2⟩ := h4.unready (.inr c4) c.on
                  exact ⟨fixB m k, by rw [e2]; exact h4.again, fun F' => by unfold rdyF; rw [h4.chk, decide_eq_false c3, decide_eq_true c4, e1]; rfl⟩
                · obtain ⟨e1, e2⟩ := h4.ready (k := c.n) (by omega) (by omega) c.on
                  exact ⟨_, e2, fun F' => by unfold rdyF; rw [h4.chk, decide_eq_false c3, decide_eq_false c4, e1]; rfl⟩
            obtain ⟨g5, q5, q6⟩ := hall
            refine ⟨(i + 1, N, f, ask, (a, sreadyS b c.n c.on), _, _, _, _), ?_, fun K' => ?_, key _ _ _ _ _ h3 q5⟩
            · show N - (i + 1).toNat < N - i.toNat; omega
            · rw [hr, k1, k2, show (c.slot == 0) = false by simpa using c1, show (c.slot == 1) = true by simpa using c2, e]
              simp only [cond_true, cond_false]
              rw [q6]
              simp only [beq_self_eq_true, Bool.not_true, cond_false]
              exact tlF_yes (x := (a, sreadyS b c.n c.on)) _ _ h3 q5
          · have e : fready (a, b) c.slot c.n c.on = (false, a, b) := by unfold fready; rw [if_neg c1, if_neg c2]
            refine ⟨(i + 1, N, f, ask, (a, b), _, _, _, _), ?_, fun K' => ?_, key _ _ _ _ _ h3 h4⟩
            · show N - (i + 1).toNat < N - i.toNat; omega
            · rw [hr, k1, k2, show (c.slot == 0) = false by simpa using c1, show (c.slot == 1) = false by simpa using c2, e]
              simp only [cond_true, cond_false, beq_self_eq_true, Bool.not_true]
              exact tlF_yes (x := (a, b)) _ _ h3 h4
      | false =>
      cases k3 : c.kind == 3 with
      | true =>
        refine ⟨(i + 1, N, f, ask, (ffill a, ffill b), _, _, _, _), ?_, fun K' => ?_, key _ _ _ _ _ h3.fill h4.fill⟩
        · show N - (i + 1).toNat < N - i.toNat; omega
        · rw [hr, k1, k2, k3]; exact tlF_yes (x := (ffill a, ffill b)) _ _ h3.fill h4.fill
      | false =>
        refine ⟨(i + 1, N, f, ask, (a, b), _, _, _, _), ?_, fun K' => ?_, key _ _ _ _ _ h3 h4⟩
        · show N - (i + 1).toNat < N - i.toNat; omega
        · rw [hr, k1, k2, k3]; exact tlF_yes (x := (a, b)) _ _ h3 h4
    · right
      refine ⟨.exit 0, _, by simp, fun K' => ?_, h⟩
      rw [roundFp, decide_eq_false hi]
      rfl
theorem loopsFp : LoopsOk Try.prog FR1 LFp 20 1 (resMask Try.f7.results.toList) (loopsOf (resMask Try.f7.results.toList) (bodyOf Try.f7) [] (resMask Try.f7.results.toList)) :=
  loopsOk_ix 1 (by kernel_rfl) ⟨trivial, loopOk_here (n := 0) (by kernel_rfl) rfl okFp⟩
theorem t_FleetPlays {R : Type} (N : Nat) (f : Nat → Ac) (ask : Int) (K : TV → List (Option SB) → Option R) : runFnL Try.prog FR1 LFp 20 Try.f7 (bodyOf Try.f7) [.c (.slc 0 0 N), i64 ask] [.ro 6 (.gen N fun i => encAc (f i))] K =
    bif decide ((N : Int) > 300) then K (.s (bl true)) [some (.ro 6 (.gen N fun i => encAc (f i)))] else bif Nat.beq N N && decide ((N : Int) = N) && Nat.beq 0 0 && Nat.beq 0 0 && chkRo encAc decAcD (fun i => encAc (f i)) then bif goodFp (0, N, f, ask, (z0, z0), 0, nilG, 0, nilG) then K (.s (bl true)) [some (.ro 6 (.gen N fun i => encAc (f i)))] else none else none := by kernel_rfl
theorem FleetPlays (N : Nat) (f : Nat → Ac) (ask : Int) (q : ∀ i, i < N → wfAc (f i)) (_ : (Lit.int .i64 ask).wf = true) (w : World) (v : Value) (l : Sx.Loc) (hs : SlcR l 0 N v) (hb : BlkR (outer w fun _ _ => False) (rho1 l) l (.ro 6 (.gen N fun i => encAc (f i))) w) :
    Calls Try.prog 7 #[v, .int .i64 ask] w fun e w' => e = .returned (.bool true) ∧ RowKit.Below w.heap.size w w' := by
  refine law_callsL okFR1 mixed Try.func7 (c := bodyOf Try.f7) (by kernel_rfl) lawK_spec (fuel := 20) (args := [.c (.slc 0 0 N), i64 ask]) (hp0 := [.ro 6 (.gen N fun i => encAc (f i))]) (X := fun _ _ => False) (ρ := rho1 l) (vs := [v, .int .i64 ask]) loopsFp ?_ ⟨⟨l, rfl, hs⟩, rfl, trivial⟩ (blk1 hb) rho1_out
  rw [t_FleetPlays, chkRo_true backAc]
  by_cases hN : (N : Int) > 300
  · rw [decide_eq_true hN]; rfl
  · rw [decide_eq_false hN, goodFp_iff.2 ⟨by simp, by simp only; omega, relS_new, relS_new⟩]
    simp only [Nat.beq_refl, decide_true, Bool.and_self, cond_true, cond_false]
    rfl
end Go.Proofs.Ythdplllibigkpaa.Rep

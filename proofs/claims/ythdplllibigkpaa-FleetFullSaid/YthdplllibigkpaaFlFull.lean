/- The law FleetFull: true, and no memory that was there is written. -/
import Derived.Test.YthdplllibigkpaaFlLaw
set_option maxRecDepth 100000
set_option linter.unusedSimpArgs false
set_option linter.unusedVariables false
namespace Go.Proofs.Ythdplllibigkpaa.Rep
open Go Go.Proofs.Ythdplllibigkpaa.Sx
@[reducible] def FF := Int × Nat × Sl × Sl × (Nat → Ac)
def encFF : FF → Sx.St
  | (i, N, a, b, f) => ⟨[(3, .s (.c (.ptr 1 0))), (21, .s (.c (.slc 0 0 N))), (22, .s (.c (.int .i64 (N : Int)))), (23, .s (.c (.int .i64 i)))], [some (.ro 6 (.gen N fun i => encAc (f i))), some (.cells [.ptr 2 0, .ptr 3 0]), some (.cells (encSl a)), some (.cells (encSl b))], 4, 101⟩
@[reducible] def FG := Int × Int × Nat × Nat × Sl × Sl × (Nat → List CV)
def decFF : Sx.St → Option FG
  | ⟨[(3, .s (.c (.ptr 1 0))), (21, .s (.c (.slc 0 0 M))), (22, .s (.c (.int .i64 m))), (23, .s (.c (.int .i64 i)))], [some (.ro 6 (.gen N f)), some (.cells [.ptr 2 0, .ptr 3 0]), some (.cells x), some (.cells y)], 4, 101⟩ => (decSl x).bind fun a => (decSl y).map fun b => (i, m, N, M, a, b, f)
  | _ => none
noncomputable def chkFF : FG → Bool
  | (_, m, N, M, _, _, f) => Nat.beq N M && decide (m = N) && chkRo encAc decAcD f
def normFF : FG → FF
  | (i, _, N, _, a, b, f) => (i, N, a, b, fun j => decAcD (f j))
theorem decFF_spec (st : Sx.St) (p : FG) (h : decFF st = some p) (hc : chkFF p = true) : st = encFF (normFF p) := by
  unfold decFF at h
  split at h
  · obtain ⟨a, ha, h⟩ := Option.bind_eq_some_iff.1 h
    obtain ⟨b, hb, rfl⟩ := Option.map_eq_some_iff.1 h
    obtain rfl := decSl_spec _ _ ha
    obtain rfl := decSl_spec _ _ hb
    simp only [chkFF, Bool.and_eq_true, decide_eq_true_eq] at hc
    obtain ⟨⟨h1, h2⟩, h3⟩ := hc
    have h1 := Nat.eq_of_beq_eq_true h1
    subst h1 h2
    have g := chkRo_spec h3
    unfold normFF encFF
    simp only
    rw [← g]
  · cases h
def finFF (N : Nat) (f : Nat → Ac) : Sx.St := ⟨[], [some (.ro 6 (.gen N fun i => encAc (f i)))], 1, 101⟩
def noFF (N : Nat) (f : Nat → Ac) : Sx.St := ⟨[(2, .s (.c (.bool false)))], [some (.ro 6 (.gen N fun i => encAc (f i)))], 1, 101⟩
@[reducible] noncomputable def one {α : Type} (w r : Int) (fl : Bool) (no yes : α) : α :=
  bif decide (w > 0) then bif !(fl == (r == w)) then no else bif decide (r > w) then no else bif decide (r < 0) then no else bif decide (w > 32) then no else yes
  else bif !(fl == false) then no else bif decide (r > w) then no else bif decide (r < 0) then no else bif decide (w > 32) then no else yes
@[reducible] noncomputable def both {α : Type} (x : Sl × Sl) (no yes : α) : α :=
  one x.1.want (scount x.1) (ffull x 0) no (one x.2.want (scount x.2) (ffull x 1) no yes)
structure FFI (p : FF) : Prop where
  i : 0 ≤ p.1
  N : p.2.1 ≤ 300
  a : Inv p.2.2.1
  b : Inv p.2.2.2.1
noncomputable def goodFF (p : FF) : Bool := @decide (FFI p) (Classical.propDecidable _)
noncomputable def tFF (p : FF) (R : Type) (K : Ex → Sx.St → Option R) : Option R := bif goodFF p then K (.exit 0) (finFF p.2.1 p.2.2.2.2) else none
@[reducible] noncomputable def LFF : List (Nat × LoopSum) := [(0, formSumC decFF chkFF normFF tFF)]
theorem roundFF {R : Type} (i : Int) (N : Nat) (a b : Sl) (f : Nat → Ac) (K : Ex → Sx.St → Option R) :
    roundK Try.prog FL1 LFF 10 1 (resMask Try.f10.results.toList) (lpAt Try.f10 0) (encFF (i, N, a, b, f)) K =
    bif decide (i < (N : Int)) then bif decide (0 ≤ i) && decide (i < (N : Int)) then bif decide (i.toNat < N) then
      bif (f i.toNat).kind == 1 then both (sscale a (f i.toNat).w0, sscale b (f i.toNat).w1) (K .ret (noFF N f)) (K .normal (encFF (IntKind.i64.wrap (i + 1), N, sscale a (f i.toNat).w0, sscale b (f i.toNat).w1, f)))
      else bif (f i.toNat).kind == 2 then bif decide (a.want ≤ 32) && decide (b.want ≤ 32) then
        both (fready (a, b) (f i.toNat).slot (f i.toNat).n (f i.toNat).on).2 (K .ret (noFF N f)) (K .normal (encFF (IntKind.i64.wrap (i + 1), N, (fready (a, b) (f i.toNat).slot (f i.toNat).n (f i.toNat).on).2.1, (fready (a, b) (f i.toNat).slot (f i.toNat).n (f i.toNat).on).2.2, f))) else none
      else bif (f i.toNat).kind == 3 then bif decide (0 ≤ a.want) && decide (a.want ≤ 32) && (decide (0 ≤ b.want) && decide (b.want ≤ 32)) then
        both (ffill a, ffill b) (K .ret (noFF N f)) (K .normal (encFF (IntKind.i64.wrap (i + 1), N, ffill a, ffill b, f))) else none
      else both (a, b) (K .ret (noFF N f)) (K .normal (encFF (IntKind.i64.wrap (i + 1), N, a, b, f)))
    else none else none else K (.exit 0) (finFF N f) := by kernel_rfl
theorem one_yes {α : Type} {w r : Int} (no yes : α) (h1 : w ≤ 32) (h2 : 0 ≤ r) (h3 : r ≤ w) : one w r (decide (w > 0) && r == w) no yes = yes := by
  unfold one
  rw [decide_eq_false (show ¬ r > w by omega), decide_eq_false (show ¬ r < 0 by omega), decide_eq_false (show ¬ w > 32 by omega)]
  cases decide (w > 0) <;> cases (r == w) <;> rfl
theorem both_yes {α : Type} (x : Sl × Sl) (no yes : α) (h : Inv x.1 ∧ Inv x.2) : both x no yes = yes := by
  have h1 := count_le h.1
  have h2 := count_le h.2
  have e1 := one_yes no yes h.2.high h2.1 h2.2
  have e2 := one_yes no yes h.1.high h1.1 h1.2
  show one x.1.want (scount x.1) (sfull x.1) no (one x.2.want (scount x.2) (sfull x.2) no yes) = yes
  unfold sfull
  rw [e1, e2]
theorem okFF : LoopOk Try.prog FL1 LFF 10 1 (resMask Try.f10.results.toList) (lpAt Try.f10 0) (formSumC decFF chkFF normFF tFF) := by
  refine LoopOk.ofC decFF_spec (fun p => p.2.1 - p.1.toNat) ?_
  rintro ⟨i, N, a, b, f⟩ R K x h
  unfold tFF at h
  cases hg : goodFF (i, N, a, b, f) with
  | false => rw [hg] at h; cases h
  | true =>
    rw [hg, cond_true] at h
    have hg := (@decide_eq_true_eq _ (Classical.propDecidable _)).mp hg
    obtain ⟨h1, h2, h3, h4⟩ := hg
    simp only at h1 h2 h3 h4 h
    by_cases hi : i < (N : Int)
    · left
      have key : ∀ a' b', Inv a' → Inv b' → tFF (i + 1, N, a', b', f) R K = some x := fun a' b' ha hb => by
        unfold tFF
        have : goodFF (i + 1, N, a', b', f) = true := (@decide_eq_true_eq _ (Classical.propDecidable _)).mpr ⟨by simp only; omega, h2, ha, hb⟩
        rw [this]
        exact h
      have d1 := decide_eq_true h3.low
      have d2 := decide_eq_true h3.high
      have d3 := decide_eq_true h4.low
      have d4 := decide_eq_true h4.high
      have hr : ∀ K' : Ex → Sx.St → Option R, _ := fun K' => roundFF i N a b f K'
      simp only [decide_eq_true hi, decide_eq_true h1, decide_eq_true (show i.toNat < N by omega), wi (x := i + 1) (by omega), Bool.and_self, cond_true, d1, d2, d3, d4] at hr
      generalize f i.toNat = c at hr
      cases k1 : c.kind == 1 with
      | true =>
        refine ⟨(i + 1, N, sscale a c.w0, sscale b c.w1, f), by simp only; omega, fun K' => ?_, key _ _ (inv_scale h3) (inv_scale h4)⟩
        rw [hr, k1, cond_true, both_yes _ _ _ ⟨inv_scale h3, inv_scale h4⟩]
      | false =>
        cases k2 : c.kind == 2 with
        | true =>
          have hv := inv_fready (x := (a, b)) (slot := c.slot) (i := c.n) (on := c.on) ⟨h3, h4⟩
          refine ⟨(i + 1, N, (fready (a, b) c.slot c.n c.on).2.1, (fready (a, b) c.slot c.n c.on).2.2, f), by simp only; omega, fun K' => ?_, key _ _ hv.1 hv.2⟩
          rw [hr, k1, k2, cond_true, cond_false, both_yes _ _ _ hv]
        | false =>
          cases k3 : c.kind == 3 with
          | true =>
            refine ⟨(i + 1, N, ffill a, ffill b, f), by simp only; omega, fun K' => ?_, key _ _ (inv_fill h3) (inv_fill h4)⟩
            rw [hr, k1, k2, k3, cond_true, cond_false, cond_false, both_yes _ _ _ ⟨inv_fill h3, inv_fill h4⟩]
          | false =>
            refine ⟨(i + 1, N, a, b, f), by simp only; omega, fun K' => ?_, key _ _ h3 h4⟩
            rw [hr, k1, k2, k3, cond_false, cond_false, cond_false, both_yes _ _ _ ⟨h3, h4⟩]
    · right
      refine ⟨.exit 0, _, by simp, fun K' => ?_, h⟩
      rw [roundFF, decide_eq_false hi]
      rfl
theorem loopsFF : LoopsOk Try.prog FL1 LFF 10 1 (resMask Try.f10.results.toList) (loopsOf (resMask Try.f10.results.toList) (bodyOf Try.f10) [] (resMask Try.f10.results.toList)) :=
  loopsOk_ix 2 (by kernel_rfl) ⟨⟨trivial, loopOk_here (n := 0) (by kernel_rfl) rfl okFF⟩, loopOk_none (n := 3) (by kernel_rfl) rfl⟩
theorem t_FleetFull {R : Type} (N : Nat) (f : Nat → Ac) (K : TV → List (Option SB) → Option R) : runFnL Try.prog FL1 LFF 10 Try.f10 (bodyOf Try.f10) [.c (.slc 0 0 N)] [.ro 6 (.gen N fun i => encAc (f i))] K =
    bif decide ((N : Int) > 300) then K (.s (bl true)) [some (.ro 6 (.gen N fun i => encAc (f i)))] else bif Nat.beq N N && decide ((N : Int) = N) && chkRo encAc decAcD (fun i => encAc (f i)) then bif goodFF (0, N, z0, z0, f) then K (.s (bl true)) [some (.ro 6 (.gen N fun i => encAc (f i)))] else none else none := by kernel_rfl
theorem FleetFull (N : Nat) (f : Nat → Ac) (q : ∀ i, i < N → wfAc (f i)) (w : World) (v : Value) (l : Sx.Loc) (hs : SlcR l 0 N v) (hb : BlkR (outer w fun _ _ => False) (rho1 l) l (.ro 6 (.gen N fun i => encAc (f i))) w) :
    Calls Try.prog 10 #[v] w fun e w' => e = .returned (.bool true) ∧ RowKit.Below w.heap.size w w' := by
  refine law_callsL okFL1 mixed Try.func10 (c := bodyOf Try.f10) (by kernel_rfl) lawK_spec (fuel := 10) (args := [.c (.slc 0 0 N)]) (hp0 := [.ro 6 (.gen N fun i => encAc (f i))]) (X := fun _ _ => False) (ρ := rho1 l) (vs := [v]) loopsFF ?_ ⟨⟨l, rfl, hs⟩, trivial⟩ (blk1 hb) rho1_out
  rw [t_FleetFull]
  by_cases c1 : (N : Int) > 300
  · rw [decide_eq_true c1]; rfl
  have hg : goodFF (0, N, z0, z0, f) = true := (@decide_eq_true_eq _ (Classical.propDecidable _)).mpr ⟨by simp, by simp only; omega, inv_z0, inv_z0⟩
  rw [decide_eq_false c1, hg, chkRo_true backAc, show (Nat.beq N N && decide ((N : Int) = N) && true) = true by simp]
  rfl
end Go.Proofs.Ythdplllibigkpaa.Rep

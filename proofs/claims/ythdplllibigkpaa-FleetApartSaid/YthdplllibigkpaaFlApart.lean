/- The law FleetApart: true, and no memory that was there is written. -/
import Derived.Test.YthdplllibigkpaaFlLaw
set_option maxRecDepth 100000
set_option linter.unusedSimpArgs false
set_option linter.unusedVariables false
namespace Go.Proofs.Ythdplllibigkpaa.Rep
open Go Go.Proofs.Ythdplllibigkpaa.Sx
@[reducible] def FA4 := Int × Nat × Int × Sl × Sl × Sl × Sl × (Nat → Ac)
def encFA : FA4 → Sx.St
  | (i, N, slot, a, b, c, d, f) => ⟨[(1, .s (.c (.int .i64 slot))), (5, .s (.c (.ptr 1 0))), (6, .s (.c (.ptr 4 0))), (37, .s (.c (.slc 0 0 N))), (38, .s (.c (.int .i64 (N : Int)))), (39, .s (.c (.int .i64 i)))], [some (.ro 6 (.gen N fun i => encAc (f i))), some (.cells [.ptr 2 0, .ptr 3 0]), some (.cells (encSl a)), some (.cells (encSl b)), some (.cells [.ptr 5 0, .ptr 6 0]), some (.cells (encSl c)), some (.cells (encSl d))], 7, 115⟩
@[reducible] def FB4 := Int × Int × Nat × Nat × Int × Sl × Sl × Sl × Sl × (Nat → List CV)
def decFA : Sx.St → Option FB4
  | ⟨[(1, .s (.c (.int .i64 slot))), (5, .s (.c (.ptr 1 0))), (6, .s (.c (.ptr 4 0))), (37, .s (.c (.slc 0 0 M))), (38, .s (.c (.int .i64 m))), (39, .s (.c (.int .i64 i)))], [some (.ro 6 (.gen N f)), some (.cells [.ptr 2 0, .ptr 3 0]), some (.cells x), some (.cells y), some (.cells [.ptr 5 0, .ptr 6 0]), some (.cells z), some (.cells u)], 7, 115⟩ =>
    (decSl x).bind fun a => (decSl y).bind fun b => (decSl z).bind fun c => (decSl u).map fun d => (i, m, N, M, slot, a, b, c, d, f)
  | _ => none
noncomputable def chkFA : FB4 → Bool
  | (_, m, N, M, _, _, _, _, _, f) => Nat.beq N M && decide (m = N) && chkRo encAc decAcD f
def normFA : FB4 → FA4
  | (i, _, N, _, slot, a, b, c, d, f) => (i, N, slot, a, b, c, d, fun j => decAcD (f j))
theorem decFA_spec (st : Sx.St) (p : FB4) (h : decFA st = some p) (hc : chkFA p = true) : st = encFA (normFA p) := by
  unfold decFA at h
  split at h
  · obtain ⟨a, ha, h⟩ := Option.bind_eq_some_iff.1 h
    obtain ⟨b, hb, h⟩ := Option.bind_eq_some_iff.1 h
    obtain ⟨c, hd, h⟩ := Option.bind_eq_some_iff.1 h
    obtain ⟨d, he, rfl⟩ := Option.map_eq_some_iff.1 h
    obtain rfl := decSl_spec _ _ ha
    obtain rfl := decSl_spec _ _ hb
    obtain rfl := decSl_spec _ _ hd
    obtain rfl := decSl_spec _ _ he
    simp only [chkFA, Bool.and_eq_true, decide_eq_true_eq] at hc
    obtain ⟨⟨h1, h2⟩, h3⟩ := hc
    have h1 := Nat.eq_of_beq_eq_true h1
    subst h1 h2
    have g := chkRo_spec h3
    unfold normFA encFA
    simp only
    rw [← g]
  · cases h
def finFA (N : Nat) (f : Nat → Ac) : Sx.St := ⟨[], [some (.ro 6 (.gen N fun i => encAc (f i)))], 1, 115⟩
def noFA (N : Nat) (f : Nat → Ac) : Sx.St := ⟨[(4, .s (.c (.bool false)))], [some (.ro 6 (.gen N fun i => encAc (f i)))], 1, 115⟩
@[reducible] noncomputable def g2 {α : Type} (slot : Int) (x : Option α) : Option α := bif decide (0 ≤ slot) && decide (slot < 2) then x else none
@[reducible] noncomputable def tail2 {α : Type} (slot : Int) (x y : Sl × Sl) (no yes : Option α) : Option α :=
  g2 slot (g2 slot (bif selI slot 0 [x.1.want, x.2.want] != selI slot 0 [y.1.want, y.2.want] then no else g2 slot (g2 slot (bif selI slot 0 [scount x.1, scount x.2] != selI slot 0 [scount y.1, scount y.2] then no else bif !(ffull x slot == ffull y slot) then no else yes))))
/-- What stands of the slot is the same. -/
def same2 (slot : Int) (x y : Sl × Sl) : Prop := (slot = 0 ∧ x.1 = y.1) ∨ (slot = 1 ∧ x.2 = y.2)
theorem tail2_yes {α : Type} {slot : Int} {x y : Sl × Sl} (no yes : Option α) (h : same2 slot x y) : tail2 slot x y no yes = yes := by
  obtain ⟨a, b⟩ := x
  obtain ⟨c, d⟩ := y
  rcases h with ⟨rfl, h⟩ | ⟨rfl, h⟩
  · simp only at h
    subst h
    show (bif a.want != a.want then no else bif scount a != scount a then no else bif !(sfull a == sfull a) then no else yes) = yes
    simp
  · simp only at h
    subst h
    show (bif b.want != b.want then no else bif scount b != scount b then no else bif !(sfull b == sfull b) then no else yes) = yes
    simp
structure FAI (p : FA4) : Prop where
  i : 0 ≤ p.1
  N : p.2.1 ≤ 300
  a : Inv p.2.2.2.1 ∧ Inv p.2.2.2.2.1
  c : Inv p.2.2.2.2.2.1 ∧ Inv p.2.2.2.2.2.2.1
  s : same2 p.2.2.1 (p.2.2.2.1, p.2.2.2.2.1) (p.2.2.2.2.2.1, p.2.2.2.2.2.2.1)
noncomputable def goodFA (p : FA4) : Bool := @decide (FAI p) (Classical.propDecidable _)
noncomputable def tFA (p : FA4) (R : Type) (K : Ex → Sx.St → Option R) : Option R := bif goodFA p then K (.exit 0) (finFA p.2.1 p.2.2.2.2.2.2.2) else none
@[reducible] noncomputable def LFA : List (Nat × LoopSum) := [(0, formSumC decFA chkFA normFA tFA)]
@[reducible] noncomputable def seven (slot : Int) (e : Ac) (k : Int) (n : Int) : Int := bif IntKind.i64.wrap (1 - slot) == k then 7 else n
theorem roundFA {R : Type} (L : List (Nat × LoopSum)) (i : Int) (N : Nat) (slot : Int) (a b c d : Sl) (f : Nat → Ac) (K : Ex → Sx.St → Option R) :
    roundK Try.prog FL1 L 10 1 (resMask Try.f8.results.toList) (lpAt Try.f8 0) (encFA (i, N, slot, a, b, c, d, f)) K =
    bif decide (i < (N : Int)) then bif decide (0 ≤ i) && decide (i < (N : Int)) then bif decide (i.toNat < N) then
      bif (f i.toNat).kind == 1 then bif decide (0 ≤ IntKind.i64.wrap (1 - slot)) && decide (IntKind.i64.wrap (1 - slot) < 2) then
        tail2 slot (sscale a (f i.toNat).w0, sscale b (f i.toNat).w1) (sscale c (seven slot (f i.toNat) 0 (f i.toNat).w0), sscale d (seven slot (f i.toNat) 1 (f i.toNat).w1)) (K .ret (noFA N f))
          (K .normal (encFA (IntKind.i64.wrap (i + 1), N, slot, sscale a (f i.toNat).w0, sscale b (f i.toNat).w1, sscale c (seven slot (f i.toNat) 0 (f i.toNat).w0), sscale d (seven slot (f i.toNat) 1 (f i.toNat).w1), f))) else none
      else bif (f i.toNat).kind == 2 then bif decide (a.want ≤ 32) && decide (b.want ≤ 32) then
        bif (f i.toNat).slot == slot then bif decide (c.want ≤ 32) && decide (d.want ≤ 32) then
          tail2 slot (fready (a, b) (f i.toNat).slot (f i.toNat).n (f i.toNat).on).2 (fready (c, d) (f i.toNat).slot (f i.toNat).n (f i.toNat).on).2 (K .ret (noFA N f))
            (K .normal (encFA (IntKind.i64.wrap (i + 1), N, slot, (fready (a, b) (f i.toNat).slot (f i.toNat).n (f i.toNat).on).2.1, (fready (a, b) (f i.toNat).slot (f i.toNat).n (f i.toNat).on).2.2, (fready (c, d) (f i.toNat).slot (f i.toNat).n (f i.toNat).on).2.1, (fready (c, d) (f i.toNat).slot (f i.toNat).n (f i.toNat).on).2.2, f))) else none
        else tail2 slot (fready (a, b) (f i.toNat).slot (f i.toNat).n (f i.toNat).on).2 (c, d) (K .ret (noFA N f))
            (K .normal (encFA (IntKind.i64.wrap (i + 1), N, slot, (fready (a, b) (f i.toNat).slot (f i.toNat).n (f i.toNat).on).2.1, (fready (a, b) (f i.toNat).slot (f i.toNat).n (f i.toNat).on).2.2, c, d, f))) else none
      else tail2 slot (a, b) (c, d) (K .ret (noFA N f)) (K .normal (encFA (IntKind.i64.wrap (i + 1), N, slot, a, b, c, d, f)))
    else none else none else K (.exit 0) (finFA N f) := by kernel_rfl
theorem same2_ready {slot k i : Int} {on : Bool} {x y : Sl × Sl} (h : same2 slot x y) : same2 slot (fready x k i on).2 (fready y k i on).2 := by
  unfold fready
  rcases h with ⟨rfl, h⟩ | ⟨rfl, h⟩
  · left
    refine ⟨rfl, ?_⟩
    by_cases k0 : k = 0
    · rw [if_pos k0, if_pos k0]; simp only; rw [h]
    · by_cases k1 : k = 1
      · rw [if_neg k0, if_neg k0, if_pos k1, if_pos k1]; exact h
      · rw [if_neg k0, if_neg k0, if_neg k1, if_neg k1]; exact h
  · right
    refine ⟨rfl, ?_⟩
    by_cases k0 : k = 0
    · rw [if_pos k0, if_pos k0]; exact h
    · by_cases k1 : k = 1
      · rw [if_neg k0, if_neg k0, if_pos k1, if_pos k1]; simp only; rw [h]
      · rw [if_neg k0, if_neg k0, if_neg k1, if_neg k1]; exact h
theorem same2_other {slot k i : Int} {on : Bool} {x y : Sl × Sl} (h : same2 slot x y) (hk : k ≠ slot) : same2 slot (fready x k i on).2 y := by
  unfold fready
  rcases h with ⟨rfl, h⟩ | ⟨rfl, h⟩
  · left
    refine ⟨rfl, ?_⟩
    rw [if_neg hk]
    by_cases k1 : k = 1
    · rw [if_pos k1]; exact h
    · rw [if_neg k1]; exact h
  · right
    refine ⟨rfl, ?_⟩
    by_cases k0 : k = 0
    · rw [if_pos k0]; exact h
    · rw [if_neg k0, if_neg hk]; exact h
theorem same2_scale {slot n0 n1 : Int} {e : Ac} {x y : Sl × Sl} (h : same2 slot x y) : same2 slot (sscale x.1 n0, sscale x.2 n1) (sscale y.1 (seven slot e 0 n0), sscale y.2 (seven slot e 1 n1)) := by
  unfold seven
  rcases h with ⟨rfl, h⟩ | ⟨rfl, h⟩
  · left
    refine ⟨rfl, ?_⟩
    rw [show IntKind.i64.wrap (1 - 0) = 1 by decide]
    simp only [show ((1 : Int) == 0) = false by decide, cond_false]
    rw [h]
  · right
    refine ⟨rfl, ?_⟩
    rw [show IntKind.i64.wrap (1 - 1) = 0 by decide]
    simp only [show ((0 : Int) == 1) = false by decide, cond_false]
    rw [h]
theorem okFA : LoopOk Try.prog FL1 LFA 10 1 (resMask Try.f8.results.toList) (lpAt Try.f8 0) (formSumC decFA chkFA normFA tFA) := by
  refine LoopOk.ofC decFA_spec (fun p => p.2.1 - p.1.toNat) ?_
  rintro ⟨i, N, slot, a, b, c, d, f⟩ R K x h
  unfold tFA at h
  cases hg : goodFA (i, N, slot, a, b, c, d, f) with
  | false => rw [hg] at h; cases h
  | true =>
    rw [hg, cond_true] at h
    have hg := (@decide_eq_true_eq _ (Classical.propDecidable _)).mp hg
    obtain ⟨h1, h2, h3, h4, h5⟩ := hg
    simp only at h1 h2 h3 h4 h5 h
    by_cases hi : i < (N : Int)
    · left
      have key : ∀ a' b' c' d', Inv a' ∧ Inv b' → Inv c' ∧ Inv d' → same2 slot (a', b') (c', d') → tFA (i + 1, N, slot, a', b', c', d', f) R K = some x := fun a' b' c' d' ha hb hs => by
        unfold tFA
        have : goodFA (i + 1, N, slot, a', b', c', d', f) = true := (@decide_eq_true_eq _ (Classical.propDecidable _)).mpr ⟨by simp only; omega, h2, ha, hb, hs⟩
        rw [this]
        exact h
      have hr : ∀ K' : Ex → Sx.St → Option R, _ := fun K' => roundFA LFA i N slot a b c d f K'
      have hsl : (decide (0 ≤ IntKind.i64.wrap (1 - slot)) && decide (IntKind.i64.wrap (1 - slot) < 2)) = true := by
        rcases h5 with ⟨rfl, _⟩ | ⟨rfl, _⟩ <;> decide
      simp only [hsl, decide_eq_true hi, decide_eq_true h1, decide_eq_true (show i.toNat < N by omega), wi (x := i + 1) (by omega), Bool.and_self, cond_true, decide_eq_true h3.1.high, decide_eq_true h3.2.high, decide_eq_true h4.1.high, decide_eq_true h4.2.high] at hr
      generalize f i.toNat = e at hr
      cases k1 : e.kind == 1 with
      | true =>
        have hs := same2_scale (n0 := e.w0) (n1 := e.w1) (e := e) h5
        refine ⟨(i + 1, N, slot, sscale a e.w0, sscale b e.w1, sscale c (seven slot e 0 e.w0), sscale d (seven slot e 1 e.w1), f), by simp only; omega, fun K' => ?_, key _ _ _ _ ⟨inv_scale h3.1, inv_scale h3.2⟩ ⟨inv_scale h4.1, inv_scale h4.2⟩ hs⟩
        rw [hr, k1, cond_true]
        exact tail2_yes _ _ hs
      | false =>
        cases k2 : e.kind == 2 with
        | true =>
          have hv := inv_fready (x := (a, b)) (slot := e.slot) (i := e.n) (on := e.on) h3
          by_cases hk : e.slot = slot
          · have hv' := inv_fready (x := (c, d)) (slot := e.slot) (i := e.n) (on := e.on) h4
            have hs := same2_ready (k := e.slot) (i := e.n) (on := e.on) h5
            refine ⟨(i + 1, N, slot, (fready (a, b) e.slot e.n e.on).2.1, (fready (a, b) e.slot e.n e.on).2.2, (fready (c, d) e.slot e.n e.on).2.1, (fready (c, d) e.slot e.n e.on).2.2, f), by simp only; omega, fun K' => ?_, key _ _ _ _ hv hv' hs⟩
            rw [hr, k1, k2, cond_true, cond_false, show (e.slot == slot) = true by simp [hk], cond_true]
            exact tail2_yes _ _ hs
          · have hs := same2_other (i := e.n) (on := e.on) h5 hk
            refine ⟨(i + 1, N, slot, (fready (a, b) e.slot e.n e.on).2.1, (fready (a, b) e.slot e.n e.on).2.2, c, d, f), by simp only; omega, fun K' => ?_, key _ _ _ _ hv h4 hs⟩
            rw [hr, k1, k2, cond_true, cond_false, show (e.slot == slot) = false by simp [hk], cond_false]
            exact tail2_yes _ _ hs
        | false =>
          refine ⟨(i + 1, N, slot, a, b, c, d, f), by simp only; omega, fun K' => ?_, key _ _ _ _ h3 h4 h5⟩
          rw [hr, k1, k2, cond_false, cond_false]
          exact tail2_yes _ _ h5
    · right
      refine ⟨.exit 0, _, by simp, fun K' => ?_, h⟩
      rw [roundFA, decide_eq_false hi]
      rfl
theorem loopsFA : LoopsOk Try.prog FL1 LFA 10 1 (resMask Try.f8.results.toList) (loopsOf (resMask Try.f8.results.toList) (bodyOf Try.f8) [] (resMask Try.f8.results.toList)) :=
  loopsOk_ix 1 (by kernel_rfl) ⟨trivial, loopOk_here (n := 0) (by kernel_rfl) rfl okFA⟩
@[reducible] noncomputable def midFA {R : Type} (N : Nat) (f : Nat → Ac) (slot : Int) (K : TV → List (Option SB) → Option R) : Option R :=
  bif decide ((N : Int) > 300) then K (.s (bl true)) [some (.ro 6 (.gen N fun i => encAc (f i)))] else bif Nat.beq N N && decide ((N : Int) = N) && chkRo encAc decAcD (fun i => encAc (f i)) then bif goodFA (0, N, slot, z0, z0, z0, z0, f) then K (.s (bl true)) [some (.ro 6 (.gen N fun i => encAc (f i)))] else none else none
theorem t_FleetApart {R : Type} (N : Nat) (f : Nat → Ac) (slot : Int) (K : TV → List (Option SB) → Option R) : runFnL Try.prog FL1 LFA 10 Try.f8 (bodyOf Try.f8) [.c (.slc 0 0 N), .c (.int .i64 slot)] [.ro 6 (.gen N fun i => encAc (f i))] K =
    bif slot != 0 then bif slot != 1 then K (.s (bl true)) [some (.ro 6 (.gen N fun i => encAc (f i)))] else midFA N f slot K else midFA N f slot K := by kernel_rfl
theorem FleetApart (N : Nat) (f : Nat → Ac) (slot : Int) (q : ∀ i, i < N → wfAc (f i)) (q_s : (Lit.int .i64 slot).wf = true) (w : World) (v : Value) (l : Sx.Loc) (hs : SlcR l 0 N v) (hb : BlkR (outer w fun _ _ => False) (rho1 l) l (.ro 6 (.gen N fun i => encAc (f i))) w) :
    Calls Try.prog 8 #[v, .int .i64 slot] w fun e w' => e = .returned (.bool true) ∧ RowKit.Below w.heap.size w w' := by
  refine law_callsL okFL1 mixed Try.func8 (c := bodyOf Try.f8) (by kernel_rfl) lawK_spec (fuel := 10) (args := [.c (.slc 0 0 N), .c (.int .i64 slot)]) (hp0 := [.ro 6 (.gen N fun i => encAc (f i))]) (X := fun _ _ => False) (ρ := rho1 l) (vs := [v, .int .i64 slot]) loopsFA ?_ ⟨⟨l, rfl, hs⟩, rfl, trivial⟩ (blk1 hb) rho1_out
  rw [t_FleetApart]
  have hm : slot = 0 ∨ slot = 1 → midFA N f slot lawK = some () := by
    intro hsl
    unfold midFA
    by_cases c1 : (N : Int) > 300
    · rw [decide_eq_true c1]; rfl
    have hg : goodFA (0, N, slot, z0, z0, z0, z0, f) = true := (@decide_eq_true_eq _ (Classical.propDecidable _)).mpr ⟨by simp, by simp only; omega, ⟨inv_z0, inv_z0⟩, ⟨inv_z0, inv_z0⟩, by
      rcases hsl with rfl | rfl
      · exact .inl ⟨rfl, rfl⟩
      · exact .inr ⟨rfl, rfl⟩⟩
    rw [decide_eq_false c1, hg, chkRo_true backAc, show (Nat.beq N N && decide ((N : Int) = N) && true) = true by simp]
    rfl
  by_cases d0 : slot = 0
  · rw [show (slot != 0) = false by simp [d0]]
    exact hm (.inl d0)
  · rw [show (slot != 0) = true by simp [d0]]
    by_cases d1 : slot = 1
    · rw [show (slot != 1) = false by simp [d1]]
      exact hm (.inr d1)
    · rw [show (slot != 1) = true by simp [d1]]
      rfl
end Go.Proofs.Ythdplllibigkpaa.Rep

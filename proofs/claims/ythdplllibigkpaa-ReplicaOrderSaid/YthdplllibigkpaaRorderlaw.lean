/- The law ReplicaOrder: true, and no memory that was there is written. -/
import Derived.Test.YthdplllibigkpaaRorder
set_option maxRecDepth 100000
set_option linter.unusedSimpArgs false
set_option linter.unusedVariables false
namespace Go.Proofs.Ythdplllibigkpaa.Rep
open Go Go.Proofs.Ythdplllibigkpaa.Sx
structure Rk where
  kind : Int
  n : Int
  on : Bool
  deriving Inhabited
def encRk (s : Rk) : List CV := [.int .i64 s.kind, .int .i64 s.n, .bool s.on]
def decRk : List CV → Option Rk
  | [.int .i64 a0, .int .i64 a1, .bool a2] => some ⟨a0, a1, a2⟩
  | _ => none
def decRkD : List CV → Rk
  | [.int .i64 a0, .int .i64 a1, .bool a2] => ⟨a0, a1, a2⟩
  | _ => default
theorem decRk_spec (l : List CV) (s : Rk) (h : decRk l = some s) : l = encRk s := by
  unfold decRk at h; split at h <;> cases h; rfl
theorem encRk_ren (s : Rk) (π) : (encRk s).map (CV.ren π) = encRk s := rfl
theorem backRk (s : Rk) : decRkD (encRk s) = s := rfl
structure wfRk (s : Rk) : Prop where
  kind : (Lit.int .i64 s.kind).wf = true
  n : (Lit.int .i64 s.n).wf = true
theorem opRk (cvs : List CV) (vs : List Value) (h : LeafRs [.int .i64, .int .i64, .bool] cvs vs) : ∃ x, cvs = encRk x ∧ wfRk x := by
  obtain ⟨_, _, _, _, rfl, rfl, ⟨a0, rfl, rfl, w0⟩, h0⟩ := h.cons_inv
  obtain ⟨_, _, _, _, rfl, rfl, ⟨a1, rfl, rfl, w1⟩, h1⟩ := h0.cons_inv
  obtain ⟨_, _, _, _, rfl, rfl, ⟨a2, rfl, rfl⟩, h2⟩ := h1.cons_inv
  obtain ⟨rfl, rfl⟩ := h2.nil_inv
  exact ⟨⟨a0, a1, a2⟩, rfl, ⟨w0, w1⟩⟩
/-! ### The loop over the map -/
@[reducible] def YA := Int × Nat × (Nat → List CV) × Sl × List (Int × Bool) × Nat × Int
def encY : YA → Sx.St
  | (n, N, f, s, es, L, c) => ⟨[(0, .s (.c (.int .i64 n))), (5, .s (.c (.ptr 1 0))), (9, .s (.c (.int .i64 c))), (75, .s (.c (.ptr 2 0)))], [some (.ro 3 (.gen N f)), some (.cells (encSl s)), some (.iter (some 3) L), some (.mapi es)], 4, 93⟩
def decY : Sx.St → Option YA
  | ⟨[(0, .s (.c (.int .i64 n))), (5, .s (.c (.ptr 1 0))), (9, .s (.c (.int .i64 c))), (75, .s (.c (.ptr 2 0)))], [some (.ro 3 (.gen N f)), some (.cells l), some (.iter (some 3) L), some (.mapi es)], 4, 93⟩ => (decSl l).map fun s => (n, N, f, s, es, L, c)
  | _ => none
theorem decY_spec (st : Sx.St) (p : YA) (h : decY st = some p) : st = encY p := by
  unfold decY at h
  split at h
  · obtain ⟨s, h1, h2⟩ := Option.map_eq_some_iff.1 h
    obtain rfl := decSl_spec _ _ h1
    cases h2
    rfl
  · cases h
def finY (n : Int) (N : Nat) (f : Nat → List CV) (s : Sl) (c : Int) : Sx.St := ⟨[(0, .s (.c (.int .i64 n))), (5, .s (.c (.ptr 1 0))), (9, .s (.c (.int .i64 c)))], [some (.ro 3 (.gen N f)), some (.cells (encSl s))], 2, 93⟩
def tY (p : YA) (R : Type) (K : Ex → Sx.St → Option R) : Option R := bif Nat.beq p.2.2.2.2.2.1 p.2.2.2.2.1.length && (decide (p.2.2.2.2.1.length ≤ 1000) && p.2.2.2.2.2.2 == 0) then K (.exit 2) (finY p.1 p.2.1 p.2.2.1 p.2.2.2.1 (trues p.2.2.2.2.1)) else none
theorem okY : LoopOkW Try.prog 1 (lpAt Try.f5 1) (formSum decY tY) := by
  intro C w1 S ρ st a w R K r Q h HR hQ
  unfold formSum at h
  split at h
  · rename_i p hp
    obtain ⟨n, N, f, s, es, L, c⟩ := p
    have := decY_spec st _ hp
    subst this
    unfold tY at h
    simp only at h
    cases hc : (Nat.beq L es.length && (decide (es.length ≤ 1000) && c == 0)) with
    | false => rw [hc] at h; cases h
    | true =>
      rw [hc, cond_true] at h
      simp only [Bool.and_eq_true, decide_eq_true_eq, beq_iff_eq] at hc
      obtain ⟨hL, hsm, hc0⟩ := hc
      have hL := Nat.eq_of_beq_eq_true hL
      subst hL hc0
      obtain ⟨v0, t0, rfl⟩ := HR.tm 0 (.s (.c (.int .i64 n))) rfl
      obtain ⟨v5, t5, r5⟩ := HR.tm 5 (.s (.c (.ptr 1 0))) rfl
      obtain ⟨v9, t9, rfl⟩ := HR.tm 9 (.s (.c (.int .i64 0))) rfl
      obtain ⟨v75, t75, l2, hl2, rfl⟩ := HR.tm 75 (.s (.c (.ptr 2 0))) rfl
      have H := HR.heap
      obtain ⟨l2', hl2', hn2, m, hk, hlink⟩ := H.blk 2 (.iter (some 3) es.length) rfl
      rw [hl2] at hl2'
      cases hl2'
      obtain ⟨l3, hl3, rfl⟩ := hlink 3 rfl
      obtain ⟨l3', hl3', hn3, hm⟩ := H.blk 3 (.mapi es) rfl
      rw [hl3] at hl3'
      cases hl3'
      have hkm : l2.blk ≠ l3.blk := H.inj 2 3 _ _ l2 l3 rfl rfl rfl rfl hl2 hl3 hn2 hn3 (by decide)
      obtain ⟨hI, _, hS⟩ := H.own 2 _ l2 rfl rfl hl2 hn2
      have H2 : HRep C w1 S ρ (lookL [some (.ro 3 (.gen N f)), some (.cells (encSl s)), none, none]) w := H.drop fun b sb hb => by
        match b, hb with
        | 0, hb => exact hb
        | 1, hb => exact hb
        | 2, hb => cases hb
        | 3, hb => cases hb
        | b + 4, hb => cases hb
      have hb : ∀ b sb l, lookL [some (.ro 3 (.gen N f)), some (.cells (encSl s)), none, none] b = some sb → sb.own = true → ρ b = some l → l.nil = false → l.blk ≠ l2.blk := by
        intro b sb l h1 h2 h3 h4
        match b, h1 with
        | 0, h1 => cases h1; cases h2
        | 1, h1 => cases h1; exact H.inj 1 2 _ _ l l2 rfl rfl rfl rfl h3 hl2 h4 hn2 (by decide)
        | 2, h1 => cases h1
        | 3, h1 => cases h1
        | b + 4, h1 => cases h1
      refine wp_loop_rounds ((leftOf (entsOf es) #[]).size + 1) ?_
      refine rounds_range (n := n) (v5 := v5) (es := es) hsm hkm hI hS hb ?_ _ #[] 0 a w (Nat.lt_succ_self _) ⟨HR.size, HR.defers, t0, t5, t9, t75⟩ H2 hk hm (Int.le_refl 0) ?_
      · intro c' a' w' J H' hc'
        subst hc'
        have hst : StRep C w1 S ρ ⟨[(0, .s (.c (.int .i64 n))), (5, .s (.c (.ptr 1 0))), (9, .s (.c (.int .i64 (trues es))))], [some (.ro 3 (.gen N f)), some (.cells (encSl s)), none, none], 4, 93⟩ a' w' := by
          refine ⟨J.sz, ?_, J.df, H', rfl, HR.dom⟩
          intro t tv ht
          simp only [getT] at ht
          by_cases e0 : t = 0
          · subst e0; cases ht; exact ⟨_, J.t0, rfl⟩
          · rw [show Nat.beq 0 t = false from by cases hb : Nat.beq 0 t with
              | false => rfl
              | true => exact absurd (Nat.eq_of_beq_eq_true hb).symm e0] at ht
            by_cases e5 : t = 5
            · subst e5; cases ht; exact ⟨_, J.t5, r5⟩
            · rw [show Nat.beq 5 t = false from by cases hb : Nat.beq 5 t with
                | false => rfl
                | true => exact absurd (Nat.eq_of_beq_eq_true hb).symm e5] at ht
              by_cases e9 : t = 9
              · subst e9; cases ht; exact ⟨_, J.t9, rfl⟩
              · rw [show Nat.beq 9 t = false from by cases hb : Nat.beq 9 t with
                  | false => rfl
                  | true => exact absurd (Nat.eq_of_beq_eq_true hb).symm e9] at ht
                cases ht
        have hg := gc_rep hst 545 (keep := [0, 1]) rfl
        refine hQ (.exit 2) _ (rhoOf ρ [0, 1]) a' w' h ?_ hg
        intro b hb1 l hl
        have : b = 0 := by omega
        subst this
        exact hl
      · have := trues_count es 0
        show (0 : Int) + ((entsL 0 es).countP (fun x => !(#[] : Array Nat).contains x.born && isT x) : Nat) = trues es
        rw [this]
        omega
  · cases h
/-! ### The loop over the acts -/
@[reducible] def OA := Int × Int × Nat × (Nat → Rk) × (Sl × List (Int × Bool))
def encO : OA → Sx.St
  | (n, i, N, f, x) => ⟨[(0, .s (.c (.int .i64 n))), (5, .s (.c (.ptr 1 0))), (6, .s (.c (.mp 2))), (37, .s (.c (.slc 0 0 N))), (38, .s (.c (.int .i64 (N : Int)))), (39, .s (.c (.int .i64 i)))], [some (.ro 3 (.gen N fun i => encRk (f i))), some (.cells (encSl x.1)), some (.mapi x.2)], 3, 93⟩
@[reducible] def OB := Int × Int × Int × Nat × Nat × (Nat → List CV) × (Sl × List (Int × Bool))
def decO : Sx.St → Option OB
  | ⟨[(0, .s (.c (.int .i64 n))), (5, .s (.c (.ptr 1 0))), (6, .s (.c (.mp 2))), (37, .s (.c (.slc 0 0 N'))), (38, .s (.c (.int .i64 m))), (39, .s (.c (.int .i64 i)))], [some (.ro 3 (.gen N f)), some (.cells l), some (.mapi es)], 3, 93⟩ => (decSl l).map fun s => (n, i, m, N, N', f, (s, es))
  | _ => none
noncomputable def chkO : OB → Bool
  | (_, _, m, N, N', f, _) => Nat.beq N N' && decide (m = N) && chkRo encRk decRkD f
def normO : OB → OA
  | (n, i, _, N, _, f, x) => (n, i, N, fun j => decRkD (f j), x)
theorem decO_spec (st : Sx.St) (p : OB) (h : decO st = some p) (hc : chkO p = true) : st = encO (normO p) := by
  unfold decO at h
  split at h
  · obtain ⟨s, h1, h2⟩ := Option.map_eq_some_iff.1 h
    obtain rfl := decSl_spec _ _ h1
    cases h2
    simp only [chkO, Bool.and_eq_true, decide_eq_true_eq] at hc
    obtain ⟨⟨g1, g2⟩, g4⟩ := hc
    have g1 := Nat.eq_of_beq_eq_true g1
    subst g1 g2
    have g := chkRo_spec g4
    unfold normO encO
    simp only
    rw [← g]
  · cases h
def noO (N : Nat) (f : Nat → Rk) : Sx.St := ⟨[(4, .s (.c (.bool false)))], [some (.ro 3 (.gen N fun i => encRk (f i)))], 1, 93⟩
def finO (n : Int) (N : Nat) (f : Nat → Rk) (x : Sl × List (Int × Bool)) : Sx.St := ⟨[(0, .s (.c (.int .i64 n))), (5, .s (.c (.ptr 1 0))), (6, .s (.c (.mp 2)))], [some (.ro 3 (.gen N fun i => encRk (f i))), some (.cells (encSl x.1)), some (.mapi x.2)], 3, 93⟩
/-- The map holds what each was made last; the others never were made. -/
structure MO (s : Sl) (es : List (Int × Bool)) : Prop where
  inv : Inv s
  key : ∀ j, sreadyB s j = false → getM j es = none
  get : ∀ j, sreadyB s j = true → (getM j es).getD false = s.f j.toNat
  cnt : (trues es : Int) = scount s
def stepO (x : Sl × List (Int × Bool)) (c : Rk) : Sl × List (Int × Bool) := (sreadyS x.1 c.n c.on, bif sreadyB x.1 c.n then putM' c.n c.on x.2 else x.2)
theorem trues_put (n : Int) (x : Bool) : ∀ es : List (Int × Bool), (trues (putM' n x es) : Int) + one ((getM n es).getD false) = trues es + one x
  | [] => by
    show (((bif x then 1 else 0) + 0 : Nat) : Int) + one false = 0 + one x
    unfold one
    cases x <;> rfl
  | (k, v) :: r => by
    unfold putM' getM
    cases hk : n == k with
    | true =>
      simp only [cond_true]
      show (((bif x then 1 else 0) + trues r : Nat) : Int) + one v = ((bif v then 1 else 0) + trues r : Nat) + one x
      unfold one
      cases x <;> cases v <;> simp <;> omega
    | false =>
      simp only [cond_false]
      have ih := trues_put n x r
      show (((bif v then 1 else 0) + trues (putM' n x r) : Nat) : Int) + one ((getM n r).getD false) = ((bif v then 1 else 0) + trues r : Nat) + one x
      omega
theorem mo_step {x : Sl × List (Int × Bool)} (h : MO x.1 x.2) (c : Rk) : MO (stepO x c).1 (stepO x c).2 := by
  obtain ⟨s, es⟩ := x
  unfold stepO
  simp only at h ⊢
  have hwant := readyS_want s c.n c.on
  have e : ∀ j, sreadyB (sreadyS s c.n c.on) j = sreadyB s j := fun j => by unfold sreadyB; rw [hwant]
  cases hb : sreadyB s c.n with
  | false =>
    have : sreadyS s c.n c.on = s := by unfold sreadyS; rw [hb]; rfl
    rw [this]
    exact h
  | true =>
    simp only [cond_true]
    obtain ⟨h1, h2⟩ := readyB_iff.1 hb
    have h3 := h.inv.high
    refine ⟨inv_ready h.inv, fun j hj => ?_, fun j hj => ?_, ?_⟩
    · rw [e] at hj
      rw [getM_put]
      have : j ≠ c.n := by rintro rfl; rw [hb] at hj; cases hj
      rw [show (j == c.n) = false by simpa using this]
      exact h.key j hj
    · rw [e] at hj
      obtain ⟨g1, g2⟩ := readyB_iff.1 hj
      rw [getM_put, readyS_f hb j.toNat (by omega)]
      by_cases hjc : j = c.n
      · rw [show (j == c.n) = true by simpa using hjc, show (c.n == ((j.toNat : Nat) : Int)) = true by simp; omega]; rfl
      · rw [show (j == c.n) = false by simpa using hjc, show (c.n == ((j.toNat : Nat) : Int)) = false by simp; omega]
        exact h.get j hj
    · have g1 := count_ready h.inv hb c.on
      have g2 := trues_put c.n c.on es
      have g3 := h.get c.n hb
      have g4 := h.cnt
      rw [g3] at g2
      omega
theorem trues_nil : (trues [] : Int) = 0 := rfl
theorem mo_new (n : Int) : MO (sscale z0 n) [] := by
  refine ⟨inv_scale inv_z0, fun _ _ => rfl, fun j hj => ?_, ?_⟩
  · obtain ⟨h1, h2⟩ := readyB_iff.1 hj
    have h3 := (capN_b n).2
    have h2 : j < capN n := h2
    rw [new_f n j.toNat (by omega)]; rfl
  · rw [count_zero fun j hj => new_f n j hj]; rfl
def itO (f : Nat → Rk) : Nat → Nat → Sl × List (Int × Bool) → Sl × List (Int × Bool)
  | 0, _, x => x
  | k + 1, i, x => itO f k (i + 1) (stepO x (f i))
theorem put_len (n : Int) (x : Bool) : ∀ es : List (Int × Bool), (putM' n x es).length ≤ es.length + 1
  | [] => by simp [putM']
  | (k, v) :: r => by
    unfold putM'
    cases n == k with
    | true => simp
    | false => have := put_len n x r; simp only [cond_false, List.length_cons]; omega
theorem mo_it (f : Nat → Rk) : ∀ (k i : Nat) (x : Sl × List (Int × Bool)), MO x.1 x.2 → MO (itO f k i x).1 (itO f k i x).2 ∧ (itO f k i x).1.want = x.1.want ∧ (itO f k i x).2.length ≤ x.2.length + k
  | 0, _, _, h => ⟨h, rfl, Nat.le_refl _⟩
  | k + 1, i, x, h => by
    obtain ⟨h1, h2, h3⟩ := mo_it f k (i + 1) (stepO x (f i)) (mo_step h (f i))
    refine ⟨h1, h2.trans (readyS_want ..), Nat.le_trans h3 ?_⟩
    have : (stepO x (f i)).2.length ≤ x.2.length + 1 := by
      unfold stepO
      cases sreadyB x.1 (f i).n with
      | false => simp
      | true => exact put_len ..
    omega
structure OI (p : OA) : Prop where
  i : 0 ≤ p.2.1 ∧ p.2.1 ≤ p.2.2.1
  N : p.2.2.1 ≤ 300
  n : p.2.2.2.2.1.want = p.1
  m : MO p.2.2.2.2.1 p.2.2.2.2.2
noncomputable def goodO (p : OA) : Bool := @decide (OI p) (Classical.propDecidable _)
theorem goodO_iff {p : OA} : goodO p = true ↔ OI p := Iff.of_eq (@decide_eq_true_eq _ (Classical.propDecidable _))
noncomputable def tO (p : OA) (R : Type) (K : Ex → Sx.St → Option R) : Option R := bif goodO p then K (.exit 0) (finO p.1 p.2.2.1 p.2.2.2.1 (itO p.2.2.2.1 (p.2.2.1 - p.2.1.toNat) p.2.1.toNat p.2.2.2.2)) else none
@[reducible] noncomputable def LO : List (Nat × LoopSum) := [(0, formSumC decO chkO normO tO), (2, formSum decY tY)]
theorem roundO {R : Type} (L : List (Nat × LoopSum)) (n i : Int) (N : Nat) (f : Nat → Rk) (s : Sl) (es : List (Int × Bool)) (K : Ex → Sx.St → Option R) :
    roundK Try.prog SR1 L 20 1 (resMask Try.f5.results.toList) (lpAt Try.f5 0) (encO (n, i, N, f, (s, es))) K =
    bif decide (i < (N : Int)) then bif decide (0 ≤ i) && decide (i < (N : Int)) then bif decide (i.toNat < N) then bif decide (s.want ≤ 32) then
      bif decide ((f i.toNat).n ≥ 0) then bif !(sreadyB s (f i.toNat).n == decide ((f i.toNat).n < n)) then K .ret (noO N f) else
        bif decide ((f i.toNat).n ≥ 0) then bif decide ((f i.toNat).n < n) then K .normal (encO (n, IntKind.i64.wrap (i + 1), N, f, (sreadyS s (f i.toNat).n (f i.toNat).on, putM' (f i.toNat).n (f i.toNat).on es))) else K .normal (encO (n, IntKind.i64.wrap (i + 1), N, f, (sreadyS s (f i.toNat).n (f i.toNat).on, es)))
        else K .normal (encO (n, IntKind.i64.wrap (i + 1), N, f, (sreadyS s (f i.toNat).n (f i.toNat).on, es)))
      else bif !(sreadyB s (f i.toNat).n == false) then K .ret (noO N f) else
        bif decide ((f i.toNat).n ≥ 0) then bif decide ((f i.toNat).n < n) then K .normal (encO (n, IntKind.i64.wrap (i + 1), N, f, (sreadyS s (f i.toNat).n (f i.toNat).on, putM' (f i.toNat).n (f i.toNat).on es))) else K .normal (encO (n, IntKind.i64.wrap (i + 1), N, f, (sreadyS s (f i.toNat).n (f i.toNat).on, es)))
        else K .normal (encO (n, IntKind.i64.wrap (i + 1), N, f, (sreadyS s (f i.toNat).n (f i.toNat).on, es)))
      else none
    else none else none else K (.exit 0) (finO n N f (s, es)) := by kernel_rfl
theorem okO : LoopOk Try.prog SR1 LO 20 1 (resMask Try.f5.results.toList) (lpAt Try.f5 0) (formSumC decO chkO normO tO) := by
  refine LoopOk.ofC decO_spec (fun p => p.2.2.1 - p.2.1.toNat) ?_
  rintro ⟨n, i, N, f, s, es⟩ R K x h
  unfold tO at h
  cases hg : goodO (n, i, N, f, s, es) with
  | false => rw [hg] at h; cases h
  | true =>
    rw [hg, cond_true] at h
    obtain ⟨h1, h2, h3, h4⟩ := goodO_iff.1 hg
    simp only at h1 h2 h3 h4 h
    by_cases hi : i < (N : Int)
    · left
      have hs := mo_step (x := (s, es)) h4 (f i.toNat)
      refine ⟨(n, i + 1, N, f, stepO (s, es) (f i.toNat)), by simp only; omega, fun K' => ?_, ?_⟩
      · rw [roundO, decide_eq_true hi, decide_eq_true h1.1, decide_eq_true (show i.toNat < N by omega), wi (x := i + 1) (by omega), decide_eq_true h4.inv.high]
        unfold stepO
        generalize f i.toNat = c
        have hr : sreadyB s c.n = (decide (c.n ≥ 0) && decide (c.n < n)) := by
          cases hb : sreadyB s c.n with
          | true =>
            have := readyB_iff.1 hb
            rw [decide_eq_true (show c.n ≥ 0 by omega), decide_eq_true (show c.n < n by omega)]; rfl
          | false =>
            have := fun q => Bool.false_ne_true (hb.symm.trans (readyB_iff.2 q))
            by_cases h1 : c.n ≥ 0
            · rw [decide_eq_true h1, decide_eq_false (show ¬ c.n < n from fun h2 => this ⟨h1, by omega⟩)]; rfl
            · rw [decide_eq_false h1]; rfl
        rw [hr]
        cases decide (c.n ≥ 0) <;> cases decide (c.n < n) <;> rfl
      · unfold tO
        have hw : (stepO (s, es) (f i.toNat)).1.want = n := (readyS_want ..).trans h3
        rw [goodO_iff.2 ⟨by simp only; omega, h2, hw, hs⟩]
        simp only
        rw [show N - i.toNat = (N - (i + 1).toNat) + 1 by omega] at h
        rw [show (i + 1).toNat = i.toNat + 1 by omega] at h ⊢
        exact h
    · right
      rw [show N - i.toNat = 0 by omega] at h
      exact ⟨.exit 0, _, by simp, fun K' => by rw [roundO, decide_eq_false hi]; rfl, h⟩
theorem loopsO : LoopsOk Try.prog SR1 LO 20 1 (resMask Try.f5.results.toList) (loopsOf (resMask Try.f5.results.toList) (bodyOf Try.f5) [] (resMask Try.f5.results.toList)) :=
  loopsOk_ix 2 (by kernel_rfl) ⟨⟨trivial, loopOk_here (n := 0) (by kernel_rfl) rfl okO⟩, loopOk_hereW (n := 2) (by kernel_rfl) rfl okY⟩
@[reducible] noncomputable def xO (n : Int) (N : Nat) (f : Nat → Rk) : Sl × List (Int × Bool) := itO f (N - (0 : Int).toNat) (0 : Int).toNat (sscale z0 n, [])
theorem t_ReplicaOrder {R : Type} (n : Int) (N : Nat) (f : Nat → Rk) (K : TV → List (Option SB) → Option R) : runFnL Try.prog SR1 LO 20 Try.f5 (bodyOf Try.f5) [i64 n, .c (.slc 0 0 N)] [.ro 3 (.gen N fun i => encRk (f i))] K =
    bif decide ((N : Int) > 300) then K (.s (bl true)) [some (.ro 3 (.gen N fun i => encRk (f i)))] else bif decide (n < 0) then K (.s (bl true)) [some (.ro 3 (.gen N fun i => encRk (f i)))] else bif decide (n > 32) then K (.s (bl true)) [some (.ro 3 (.gen N fun i => encRk (f i)))] else
    bif Nat.beq N N && decide ((N : Int) = N) && chkRo encRk decRkD (fun i => encRk (f i)) then bif goodO (n, 0, N, f, (sscale z0 n, [])) then
      bif Nat.beq (xO n N f).2.length (xO n N f).2.length && (decide ((xO n N f).2.length ≤ 1000) && (0 : Int) == 0) then
        bif scount (xO n N f).1 == (trues (xO n N f).2 : Int) then K (.s (bl ((xO n N f).1.want == n))) [some (.ro 3 (.gen N fun i => encRk (f i)))] else K (.s (bl false)) [some (.ro 3 (.gen N fun i => encRk (f i)))] else none else none else none := by kernel_rfl
theorem ReplicaOrder (n : Int) (N : Nat) (f : Nat → Rk) (_ : (Lit.int .i64 n).wf = true) (q : ∀ i, i < N → wfRk (f i)) (w : World) (v : Value) (l : Sx.Loc) (hs : SlcR l 0 N v) (hb : BlkR (outer w fun _ _ => False) (rho1 l) l (.ro 3 (.gen N fun i => encRk (f i))) w) :
    Calls Try.prog 5 #[.int .i64 n, v] w fun e w' => e = .returned (.bool true) ∧ RowKit.Below w.heap.size w w' := by
  refine law_callsL okSR1 mixed Try.func5 (c := bodyOf Try.f5) (by kernel_rfl) lawK_spec (fuel := 20) (args := [i64 n, .c (.slc 0 0 N)]) (hp0 := [.ro 3 (.gen N fun i => encRk (f i))]) (X := fun _ _ => False) (ρ := rho1 l) (vs := [.int .i64 n, v]) loopsO ?_ ⟨rfl, ⟨l, rfl, hs⟩, trivial⟩ (blk1 hb) rho1_out
  rw [t_ReplicaOrder, chkRo_true backRk]
  by_cases hN : (N : Int) > 300
  · rw [decide_eq_true hN]; rfl
  by_cases h1 : n < 0
  · rw [decide_eq_false hN, decide_eq_true h1]; rfl
  by_cases h2 : n > 32
  · rw [decide_eq_false hN, decide_eq_false h1, decide_eq_true h2]; rfl
  have hw : (sscale z0 n).want = n := by
    show capN n = n
    rw [capN_eq, if_neg h1, if_neg h2]
  obtain ⟨m1, m2, m3⟩ := mo_it f (N - (0 : Int).toNat) (0 : Int).toNat (sscale z0 n, []) (mo_new n)
  have e2 : (xO n N f).2.length ≤ 1000 := Nat.le_trans m3 (by simp; omega)
  rw [decide_eq_false h1, decide_eq_false h2, decide_eq_false hN, goodO_iff.2 ⟨by simp, by simp only; omega, hw, mo_new n⟩, decide_eq_true e2]
  have e3 : (xO n N f).1.want = n := m2.trans hw
  have e4 : (trues (xO n N f).2 : Int) = scount (xO n N f).1 := m1.cnt
  rw [e3, e4]
  simp only [Nat.beq_refl, decide_true, Bool.and_self, cond_true, cond_false, beq_self_eq_true]
  rfl
end Go.Proofs.Ythdplllibigkpaa.Rep

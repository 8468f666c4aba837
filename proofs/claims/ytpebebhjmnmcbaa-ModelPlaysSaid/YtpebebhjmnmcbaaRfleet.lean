/- What the methods of the reference's fleet come to. No condition. -/
import Derived.Test.YtpebebhjmnmcbaaRep4
set_option maxRecDepth 100000
set_option linter.unusedSimpArgs false
set_option linter.unusedVariables false
namespace Go.Proofs.Ytpebebhjmnmcbaa.Rep
open Go Go.Proofs.Ytpebebhjmnmcbaa.Sx
@[reducible] noncomputable def FR0 : Sums := (71, (genSumN g_rscale)) :: (25, (genSumN g_rready)) :: (74, (roSumT g_rcount)) :: S0
theorem okFR0 : SumsOk Try.prog FR0 := (((okS0.cons ok_rcount).cons ok_rready).cons ok_rscale)
@[reducible] def hpG (n : Nat) (g : Nat → List CV) (m : Nat) (h : Nat → List CV) : List SB := [.cells [.ptr 1 0, .ptr 2 0], .cells [.slc 3 0 n], .cells [.slc 4 0 m], .vec 1 [] (.gen n g), .vec 1 [] (.gen m h)]
@[reducible] def hpG0 : List SB := [.cells [.ptr 1 0, .ptr 2 0], .cells [.nils], .cells [.nils]]
def decG : List SB → Option (Nat × Nat × (Nat → List CV) × Nat × Nat × (Nat → List CV))
  | [.cells [.ptr 1 0, .ptr 2 0], .cells [.slc 3 0 n'], .cells [.slc 4 0 m'], .vec 1 [] (.gen n g), .vec 1 [] (.gen m h)] => some (n', n, g, m', m, h)
  | _ => none
theorem decG_spec {hp : List SB} {n' n m' m : Nat} {g h : Nat → List CV} (e : decG hp = some (n', n, g, m', m, h)) : hp = [.cells [.ptr 1 0, .ptr 2 0], .cells [.slc 3 0 n'], .cells [.slc 4 0 m'], .vec 1 [] (.gen n g), .vec 1 [] (.gen m h)] := by
  unfold decG at e; split at e <;> cases e; rfl
def isNil2 : List SB → Bool
  | [.cells [.ptr 1 0, .ptr 2 0], .cells [.nils], .cells [.nils]] => true
  | _ => false
theorem isNil2_spec {hp : List SB} (h : isNil2 hp = true) : hp = hpG0 := by
  unfold isNil2 at h; split at h <;> first | rfl | cases h
/-! ### New, Slot -/
noncomputable def g_rfnew : List SV → List SB → Option Out
  | [], [] => some ⟨true, .s (.c (.ptr 0 0)), [], hpG0⟩
  | _, _ => none
theorem t_rfnew {R : Type} (K : TV → List (Option SB) → Option R) : runFn Try.prog S0 10 Try.f45 (bodyOf Try.f45) [] [] K = K (.s (.c (.ptr 0 0))) (hpG0.map some) := by kernel_rfl
theorem ok_rfnew : SumOk Try.prog 45 (genSum g_rfnew) := by
  refine sumOk_gen okS0 mixed Try.func45 (c := bodyOf Try.f45) (by kernel_rfl) (by kernel_rfl) ?_
  intro args hp x h _ _
  unfold g_rfnew at h
  split at h
  · cases h; exact ⟨10, t_rfnew _⟩
  · cases h
theorem t_rslot {R : Type} (n' n m' m : Nat) (g h : Nat → List CV) (slot : Int) (K : TV → List (Option SB) → Option R) : runFn Try.prog S0 10 Try.f24 (bodyOf Try.f24) [.c (.ptr 0 0), i64 slot] [.cells [.ptr 1 0, .ptr 2 0], .cells [.slc 3 0 n'], .cells [.slc 4 0 m'], .vec 1 [] (.gen n g), .vec 1 [] (.gen m h)] K =
    bif slot == 0 then K (.s (.c (.ptr 1 0))) [some (.cells [.ptr 1 0, .ptr 2 0]), some (.cells [.slc 3 0 n']), some (.cells [.slc 4 0 m']), some (.vec 1 [] (.gen n g)), some (.vec 1 [] (.gen m h))] else
    bif slot == 1 then K (.s (.c (.ptr 2 0))) [some (.cells [.ptr 1 0, .ptr 2 0]), some (.cells [.slc 3 0 n']), some (.cells [.slc 4 0 m']), some (.vec 1 [] (.gen n g)), some (.vec 1 [] (.gen m h))] else
    K (.s (.c (.ptr 5 0))) [some (.cells [.ptr 1 0, .ptr 2 0]), some (.cells [.slc 3 0 n']), some (.cells [.slc 4 0 m']), some (.vec 1 [] (.gen n g)), some (.vec 1 [] (.gen m h)), some (.cells [.nils])] := by kernel_rfl
noncomputable def g_rslot : List SV → List SB → Cs
  | [.c (.ptr 0 0), .c (.int .i64 slot)], hp => match decG hp with
    | some (_, _, _, _, _, _) => .br (slot == 0) (.out ⟨true, .s (.c (.ptr 1 0)), hp.map some, []⟩) (.br (slot == 1) (.out ⟨true, .s (.c (.ptr 2 0)), hp.map some, []⟩) (.out ⟨true, .s (.c (.ptr 5 0)), hp.map some, [.cells [.nils]]⟩))
    | none => .no
  | _, _ => .no
theorem ok_rslot : SumOk Try.prog 24 (genSumT g_rslot) := by
  refine sumOk_cs okS0 mixed Try.func24 (c := bodyOf Try.f24) (by kernel_rfl) (by kernel_rfl) ?_
  intro args hp x h
  unfold g_rslot at h ⊢
  split at h
  · rename_i slot
    cases hd : decG hp with
    | none => rw [hd] at h; cases h
    | some p =>
      obtain ⟨n', n, g, m', m, k⟩ := p
      obtain rfl := decG_spec hd
      refine ⟨[], 10, LoopsOk.nil, (t_rslot ..).trans ?_⟩
      simp only [hd]
      cases slot == 0 <;> cases slot == 1 <;> rfl
  · cases h
/-! ### Apply, View -/
@[reducible] noncomputable def scaledG (n : Nat) (g : Nat → List CV) (k : Int) : Nat → List CV := fun j => encB1 (cutL (fun j => decB1 (fixB n g j)) n (capN k).toNat j)
@[reducible] noncomputable def newG (k : Int) : Nat → List CV := fun j => encB1 (cutL (fun _ => false) 0 (capN k).toNat j)
theorem t_rapply {R : Type} (n m : Nat) (g h : Nat → List CV) (w : N2) (K : TV → List (Option SB) → Option R) : runFnN Try.prog FR0 [] 10 3 Try.f46 (bodyOf Try.f46) [.c (.ptr 0 0), .agg (encN2 w)] (hpG n g m h) K =
    bif chkL n n (fixB n g) then bif chkL m m (fixB m h) then K (.tup []) ((hpG (capN w.a).toNat (scaledG n g w.a) (capN w.b).toNat (scaledG m h w.b)).map some) else none else none := by kernel_rfl
theorem t_rapply0 {R : Type} (w : N2) (K : TV → List (Option SB) → Option R) : runFnN Try.prog FR0 [] 10 3 Try.f46 (bodyOf Try.f46) [.c (.ptr 0 0), .agg (encN2 w)] hpG0 K = K (.tup []) ((hpG (capN w.a).toNat (newG w.a) (capN w.b).toNat (newG w.b)).map some) := by kernel_rfl
@[reducible] def oG (tv : TV) (n : Nat) (g : Nat → List CV) (m : Nat) (h : Nat → List CV) : Cs := .out ⟨true, tv, [some (.cells [.ptr 1 0, .ptr 2 0]), some (.cells [.slc 3 0 n]), some (.cells [.slc 4 0 m])], [.vec 1 [] (.gen n g), .vec 1 [] (.gen m h)]⟩
noncomputable def g_rapply : List SV → List SB → Cs
  | [.c (.ptr 0 0), .agg l], hp => match decN2 l with
    | some w => match decG hp with
      | some (n', n, g, m', m, h) => .br (Nat.beq n' n && Nat.beq m' m && chkL n n (fixB n g) && chkL m m (fixB m h)) (oG (.tup []) (capN w.a).toNat (scaledG n g w.a) (capN w.b).toNat (scaledG m h w.b)) .no
      | none => bif isNil2 hp then oG (.tup []) (capN w.a).toNat (newG w.a) (capN w.b).toNat (newG w.b) else .no
    | none => .no
  | _, _ => .no
theorem ok_rapply : SumOk Try.prog 46 (genSumN g_rapply) := by
  refine sumOk_genN okFR0 mixed Try.func46 (c := bodyOf Try.f46) (by kernel_rfl) (by kernel_rfl) ?_
  intro args hp x h
  unfold g_rapply at h ⊢
  split at h
  · rename_i l
    cases hl : decN2 l with
    | none => rw [hl] at h; cases h
    | some w =>
      obtain rfl := decN2_spec _ _ hl
      rw [hl] at h
      simp only at h ⊢
      cases hd : decG hp with
      | some p =>
        obtain ⟨n', n, g, m', m, k⟩ := p
        obtain rfl := decG_spec hd
        rw [hd] at h
        simp only at h ⊢
        cases hc : (Nat.beq n' n && Nat.beq m' m && chkL n n (fixB n g) && chkL m m (fixB m k)) with
        | false => rw [hc] at h; cases h
        | true =>
          rw [hc] at h
          cases h
          simp only [Bool.and_eq_true] at hc
          obtain ⟨⟨⟨c1, c2⟩, c3⟩, c4⟩ := hc
          obtain rfl := Nat.eq_of_beq_eq_true c1
          obtain rfl := Nat.eq_of_beq_eq_true c2
          refine ⟨[], 10, LoopsOk.nil, (t_rapply ..).trans ?_⟩
          rw [c3, c4]; rfl
      | none =>
        rw [hd] at h
        simp only at h ⊢
        cases hn : isNil2 hp with
        | false => rw [hn] at h; cases h
        | true =>
          obtain rfl := isNil2_spec hn
          rw [hn] at h
          cases h
          exact ⟨[], 10, LoopsOk.nil, (t_rapply0 ..).trans rfl⟩
  · cases h
theorem t_rview {R : Type} (n m : Nat) (g h : Nat → List CV) (K : TV → List (Option SB) → Option R) : runFn Try.prog FR0 10 Try.f53 (bodyOf Try.f53) [.c (.ptr 0 0)] (hpG n g m h) K =
    bif chkL n n (fixB n g) then bif chkL m m (fixB m h) then K (.s (.agg (encVw ⟨n, m, rcnt n (fixB n g), rcnt m (fixB m h)⟩))) ((hpG n g m h).map some) else none else none := by kernel_rfl
noncomputable def g_rview : List SV → List SB → Cs
  | [.c (.ptr 0 0)], hp => match decG hp with
    | some (n', n, g, m', m, h) => .br (Nat.beq n' n && Nat.beq m' m && chkL n n (fixB n g) && chkL m m (fixB m h)) (.out ⟨true, .s (.agg (encVw ⟨n, m, rcnt n (fixB n g), rcnt m (fixB m h)⟩)), hp.map some, []⟩) .no
    | none => .no
  | _, _ => .no
theorem ok_rview0 : SumOk Try.prog 53 (genSumT g_rview) := by
  refine sumOk_cs okFR0 mixed Try.func53 (c := bodyOf Try.f53) (by kernel_rfl) (by kernel_rfl) ?_
  intro args hp x h
  unfold g_rview at h ⊢
  split at h
  · cases hd : decG hp with
    | none => rw [hd] at h; cases h
    | some p =>
      obtain ⟨n', n, g, m', m, k⟩ := p
      obtain rfl := decG_spec hd
      rw [hd] at h
      simp only at h ⊢
      cases hc : (Nat.beq n' n && Nat.beq m' m && chkL n n (fixB n g) && chkL m m (fixB m k)) with
      | false => rw [hc] at h; cases h
      | true =>
        simp only [Bool.and_eq_true] at hc
        obtain ⟨⟨⟨c1, c2⟩, c3⟩, c4⟩ := hc
        obtain rfl := Nat.eq_of_beq_eq_true c1
        obtain rfl := Nat.eq_of_beq_eq_true c2
        refine ⟨[], 10, LoopsOk.nil, (t_rview ..).trans ?_⟩
        rw [c3, c4]; rfl
  · cases h
theorem same_rview (args : List SV) (hp : List SB) : (g_rview args hp).same hp := by
  unfold g_rview
  split
  · cases decG hp with
    | none => trivial
    | some p => exact ⟨⟨rfl, rfl⟩, trivial⟩
  · trivial
theorem ok_rview : SumOk Try.prog 53 (roSumT g_rview) := sumOk_ro same_rview ok_rview0
/-! ### Fill -/
noncomputable def rdyG (n : Nat) (g : Nat → List CV) (i : Int) : Nat → List CV := bif decide (i < 0) then fixB n g else bif decide (i ≥ (n : Int)) then fixB n g else fun j => encB1 (bif Nat.beq j i.toNat then true else decB1 (fixB n g j))
noncomputable def fillG (n : Nat) : Nat → Int → (Nat → List CV) → (Nat → List CV)
  | 0, _, g => g
  | k + 1, i, g => fillG n k (i + 1) (rdyG n g i)
@[reducible] def GA' := Int × Nat × (Nat → List CV) × Nat × (Nat → List CV)
def encGf : GA' → Sx.St
  | (i, n, g, m, h) => ⟨[(0, .s (.c (.ptr 0 0))), (2, .s (.c (.int .i64 i)))], (hpG n g m h).map some, 5, 19⟩
@[reducible] def GB' := Int × Nat × Nat × (Nat → List CV) × Nat × Nat × (Nat → List CV)
def decGf : Sx.St → Option GB'
  | ⟨[(0, .s (.c (.ptr 0 0))), (2, .s (.c (.int .i64 i)))], [some (.cells [.ptr 1 0, .ptr 2 0]), some (.cells [.slc 3 0 n']), some (.cells [.slc 4 0 m']), some (.vec 1 [] (.gen n g)), some (.vec 1 [] (.gen m h))], 5, 19⟩ => some (i, n', n, g, m', m, h)
  | _ => none
def chkGf : GB' → Bool
  | (_, n', n, _, m', m, _) => Nat.beq n' n && Nat.beq m' m
def normGf : GB' → GA'
  | (i, _, n, g, _, m, h) => (i, n, g, m, h)
theorem decGf_spec (st : Sx.St) (p : GB') (h : decGf st = some p) (hc : chkGf p = true) : st = encGf (normGf p) := by
  unfold decGf at h
  split at h
  · cases h
    simp only [chkGf, Bool.and_eq_true] at hc
    have h1 := Nat.eq_of_beq_eq_true hc.1
    have h2 := Nat.eq_of_beq_eq_true hc.2
    subst h1 h2
    rfl
  · cases h
def goodL (n : Nat) (g : Nat → List CV) : Prop := (∀ j, j < n → ∃ b, g j = encB1 b) ∧ n ≤ 4294967296
theorem goodL_chk {n : Nat} {g : Nat → List CV} (h : goodL n g) : chkL n n (fixB n g) = true := by
  rw [fixB_good h.1]; exact chkL_true h.2
theorem chk_goodL {n : Nat} {g : Nat → List CV} (h : chkL n n (fixB n g) = true) : goodL n g := by
  obtain ⟨_, e, h2⟩ := chkL_spec h
  exact ⟨fun j hj => ⟨decB1 (fixB n g j), (fixB_get (g := g) hj).symm.trans (congrFun e j)⟩, h2⟩
theorem goodL_rdy {n : Nat} {g : Nat → List CV} (h : goodL n g) (i : Int) : goodL n (rdyG n g i) := by
  unfold rdyG
  refine ⟨?_, h.2⟩
  intro j hj
  cases decide (i < 0) <;> simp only [cond_true, cond_false]
  · cases decide (i ≥ (n : Int)) <;> simp only [cond_true, cond_false]
    · exact ⟨_, rfl⟩
    · rw [fixB_good h.1]; exact ⟨_, rfl⟩
  · rw [fixB_good h.1]; exact ⟨_, rfl⟩
structure GI (p : GA') : Prop where
  i : 0 ≤ p.1 ∧ p.1 ≤ 32
  g : goodL p.2.1 p.2.2.1
  h : goodL p.2.2.2.1 p.2.2.2.2
noncomputable def goodGf (p : GA') : Bool := @decide (GI p) (Classical.propDecidable _)
theorem goodGf_iff {p : GA'} : goodGf p = true ↔ GI p := Iff.of_eq (@decide_eq_true_eq _ (Classical.propDecidable _))
@[reducible] def finGf (n : Nat) (g : Nat → List CV) (m : Nat) (h : Nat → List CV) : Sx.St := ⟨[], (hpG n g m h).map some, 5, 19⟩
noncomputable def tGf (p : GA') (R : Type) (K : Ex → Sx.St → Option R) : Option R := bif goodGf p then K (.exit 0) (finGf p.2.1 (fillG p.2.1 (32 - p.1.toNat) p.1 p.2.2.1) p.2.2.2.1 (fillG p.2.2.2.1 (32 - p.1.toNat) p.1 p.2.2.2.2)) else none
@[reducible] noncomputable def rdyB {α : Type} (n : Nat) (g : Nat → List CV) (i : Int) (F' : (Nat → List CV) → Option α) : Option α := bif chkL n n (fixB n g) then bif decide (i < 0) then F' (fixB n g) else bif decide (i ≥ (n : Int)) then F' (fixB n g) else F' (fun j => encB1 (bif Nat.beq j i.toNat then true else decB1 (fixB n g j))) else none
theorem rdyB_eq {α : Type} {n : Nat} {g : Nat → List CV} {i : Int} {F' : (Nat → List CV) → Option α} (h : goodL n g) : rdyB n g i F' = F' (rdyG n g i) := by
  unfold rdyB rdyG
  rw [goodL_chk h]
  cases decide (i < 0) <;> cases decide (i ≥ (n : Int)) <;> rfl
@[reducible] noncomputable def LGf : List (Nat × LoopSum) := [(0, formSumC decGf chkGf normGf tGf)]
theorem roundGf {R : Type} (L : List (Nat × LoopSum)) (i : Int) (n m : Nat) (g h : Nat → List CV) (K : Ex → Sx.St → Option R) : roundK Try.prog FR0 L 20 3 (resMask Try.f47.results.toList) (lpAt Try.f47 0) (encGf (i, n, g, m, h)) K =
    bif decide (i < 32) then rdyB n g i fun g2 => rdyB m h i fun h2 => K .normal (encGf (IntKind.i64.wrap (i + 1), n, g2, m, h2)) else K (.exit 0) (finGf n g m h) := by kernel_rfl
theorem okGf : LoopOk Try.prog FR0 LGf 20 3 (resMask Try.f47.results.toList) (lpAt Try.f47 0) (formSumC decGf chkGf normGf tGf) := by
  refine LoopOk.ofC decGf_spec (fun p => 32 - p.1.toNat) ?_
  rintro ⟨i, n, g, m, k⟩ R K x h
  unfold tGf at h
  cases hg : goodGf (i, n, g, m, k) with
  | false => rw [hg] at h; cases h
  | true =>
    rw [hg, cond_true] at h
    obtain ⟨h1, h2, h3⟩ := goodGf_iff.1 hg
    simp only at h1 h2 h3 h
    by_cases hi : i < 32
    · left
      refine ⟨(i + 1, n, rdyG n g i, m, rdyG m k i), by simp only; omega, fun K' => ?_, ?_⟩
      · rw [roundGf, decide_eq_true hi, cond_true, rdyB_eq h2, rdyB_eq h3, wi (x := i + 1) (by omega)]
      · unfold tGf
        rw [goodGf_iff.2 ⟨by simp only; omega, goodL_rdy h2 i, goodL_rdy h3 i⟩]
        simp only
        rw [show 32 - i.toNat = (32 - (i + 1).toNat) + 1 by omega] at h
        exact h
    · right
      rw [show 32 - i.toNat = 0 by omega] at h
      exact ⟨.exit 0, _, by simp, fun K' => by rw [roundGf, decide_eq_false hi]; rfl, h⟩
theorem loopsGf : LoopsOk Try.prog FR0 LGf 20 3 (resMask Try.f47.results.toList) (loopsOf (resMask Try.f47.results.toList) (bodyOf Try.f47) [] (resMask Try.f47.results.toList)) :=
  loopsOk_ix 1 (by kernel_rfl) ⟨trivial, loopOk_here (n := 0) (by kernel_rfl) rfl okGf⟩
theorem t_rfill {R : Type} (n m : Nat) (g h : Nat → List CV) (K : TV → List (Option SB) → Option R) : runFnN Try.prog FR0 LGf 20 3 Try.f47 (bodyOf Try.f47) [.c (.ptr 0 0)] (hpG n g m h) K =
    bif Nat.beq n n && Nat.beq m m then bif goodGf (0, n, g, m, h) then K (.tup []) ((hpG n (fillG n 32 0 g) m (fillG m 32 0 h)).map some) else none else none := by kernel_rfl
noncomputable def g_rfill : List SV → List SB → Cs
  | [.c (.ptr 0 0)], hp => match decG hp with
    | some (n', n, g, m', m, h) => .br (Nat.beq n' n && Nat.beq m' m && chkL n n (fixB n g) && chkL m m (fixB m h)) (oG (.tup []) n (fillG n 32 0 g) m (fillG m 32 0 h)) .no
    | none => .no
  | _, _ => .no
theorem ok_rfill : SumOk Try.prog 47 (genSumN g_rfill) := by
  refine sumOk_genN okFR0 mixed Try.func47 (c := bodyOf Try.f47) (by kernel_rfl) (by kernel_rfl) ?_
  intro args hp x h
  unfold g_rfill at h ⊢
  split at h
  · cases hd : decG hp with
    | none => rw [hd] at h; cases h
    | some p =>
      obtain ⟨n', n, g, m', m, k⟩ := p
      obtain rfl := decG_spec hd
      rw [hd] at h
      simp only at h ⊢
      cases hc : (Nat.beq n' n && Nat.beq m' m && chkL n n (fixB n g) && chkL m m (fixB m k)) with
      | false => rw [hc] at h; cases h
      | true =>
        rw [hc] at h
        cases h
        simp only [Bool.and_eq_true] at hc
        obtain ⟨⟨⟨c1, c2⟩, c3⟩, c4⟩ := hc
        obtain rfl := Nat.eq_of_beq_eq_true c1
        obtain rfl := Nat.eq_of_beq_eq_true c2
        refine ⟨LGf, 20, loopsGf, (t_rfill ..).trans ?_⟩
        rw [goodGf_iff.2 ⟨by simp, chk_goodL c3, chk_goodL c4⟩, Nat.beq_refl, Nat.beq_refl]; rfl
  · cases h
/-! ### Both go together -/
theorem RelS.good {s : Sl} {n : Nat} {g : Nat → List CV} (h : RelS s n g) : goodL n g := ⟨fun j hj => ⟨_, h.get j hj⟩, by have := h.le; omega⟩
theorem RelS.fillIt {s : Sl} {n : Nat} : ∀ {k : Nat} {g : Nat → List CV} {i : Int} {s : Sl}, RelS s n g → 0 ≤ i → RelS (fillIt (n - i.toNat) i s) n (fillG n k i g) ∨ k < n - i.toNat
  | 0, g, i, s, h, h0 => by
    by_cases hz : n - i.toNat = 0
    · left
      rw [hz]
      exact h
    · right; omega
  | k + 1, g, i, s, h, h0 => by
    unfold fillG
    by_cases hi : i < (n : Int)
    · obtain ⟨h1, h2⟩ := h.ready h0 hi true
      have e : rdyG n g i = fun j => encB1 (bif Nat.beq j i.toNat then true else decB1 (fixB n g j)) := by
        unfold rdyG
        rw [decide_eq_false (show ¬ i < 0 by omega), decide_eq_false (show ¬ i ≥ (n : Int) by omega)]
        rfl
      rw [e, show n - i.toNat = (n - (i + 1).toNat) + 1 by omega]
      rcases RelS.fillIt (s := s) (k := k) (i := i + 1) h2 (by omega) with h3 | h3
      · left; exact h3
      · right; omega
    · left
      have e : rdyG n g i = fixB n g := by
        unfold rdyG
        rw [decide_eq_false (show ¬ i < 0 by omega), decide_eq_true (show i ≥ (n : Int) by omega)]
        rfl
      rw [e, show n - i.toNat = 0 by omega]
      rcases RelS.fillIt (s := s) (k := k) (i := i + 1) h.again (by omega) with h3 | h3
      · rw [show n - (i + 1).toNat = 0 by omega] at h3
        exact h3
      · omega
theorem RelS.fill {s : Sl} {n : Nat} {g : Nat → List CV} (h : RelS s n g) : RelS (ffill s) n (fillG n 32 0 g) := by
  have hw := h.want
  have hl := h.le
  have e : (s.want - 0).toNat = n - (0 : Int).toNat := by omega
  unfold ffill
  rw [e]
  rcases RelS.fillIt (s := s) (k := 32) (i := 0) h (by omega) with h3 | h3
  · exact h3
  · omega
theorem RelS.new (k : Int) : RelS (sscale z0 k) (capN k).toNat (newG k) := by
  have := relS_new.scale k
  refine ⟨this.inv, this.want, fun j hj => ?_⟩
  rw [← this.get j hj]
  show encB1 (cutL (fun _ => false) 0 (capN k).toNat j) = encB1 (cutL _ 0 (capN k).toNat j)
  unfold cutL
  simp
end Go.Proofs.Ytpebebhjmnmcbaa.Rep

/- The law FleetSame: true, and no memory that was there is written. -/
import Derived.Test.YthdplllibigkpaaFlLaw
set_option maxRecDepth 100000
set_option linter.unusedSimpArgs false
set_option linter.unusedVariables false
namespace Go.Proofs.Ythdplllibigkpaa.Rep
open Go Go.Proofs.Ythdplllibigkpaa.Sx
/-! ### What filling comes to -/
theorem ready_inv_want (s : Sl) (i : Int) (b : Bool) : (sreadyS s i b).want = s.want := ready_want s i b
theorem fillIt_want : ∀ (k : Nat) (i : Int) (s : Sl), (fillIt k i s).want = s.want
  | 0, _, _ => rfl
  | k + 1, i, s => (fillIt_want k (i + 1) _).trans (ready_want s i true)
theorem ready_f {s : Sl} {i : Int} {b : Bool} (h : 0 ≤ i ∧ i < s.want) {j : Nat} (hj : j < 32) : (sreadyS s i b).f j = bif i == (j : Int) then b else s.f j := by
  have : sreadyB s i = true := by
    unfold sreadyB
    rw [decide_eq_false (by omega), decide_eq_false (by omega)]; rfl
  unfold sreadyS
  rw [this, cond_true, mkS_f _ _ _ hj]
theorem fillIt_f : ∀ (k : Nat) (i : Int) (s : Sl), 0 ≤ i → i + k ≤ s.want → ∀ j : Nat, j < 32 → (fillIt k i s).f j = bif decide (i ≤ j ∧ (j : Int) < i + k) then true else s.f j
  | 0, i, s, h0, hk, j, hj => by rw [decide_eq_false (by omega)]; rfl
  | k + 1, i, s, h0, hk, j, hj => by
    show (fillIt k (i + 1) (sreadyS s i true)).f j = _
    rw [fillIt_f k (i + 1) _ (by omega) (by rw [ready_want]; omega) j hj, ready_f ⟨h0, by omega⟩ hj]
    by_cases a : i = (j : Int)
    · rw [decide_eq_false (by omega), decide_eq_true (by omega)]
      have : (i == (j : Int)) = true := by simp [a]
      rw [this]; rfl
    · have : (i == (j : Int)) = false := by simp [a]
      rw [this]
      by_cases b : i + 1 ≤ (j : Int) ∧ (j : Int) < i + 1 + k
      · rw [decide_eq_true b, decide_eq_true (by omega)]; rfl
      · rw [decide_eq_false b, decide_eq_false (by omega)]; rfl
theorem cnt_full {f : Nat → Bool} {w : Int} : ∀ (k i : Nat) (n : Int), (∀ j, j < k → f (i + j) = decide (((i + j : Nat) : Int) < w)) → cntN f k i n = n + max (min w (i + k) - i) 0
  | 0, i, n, _ => by unfold cntN; omega
  | k + 1, i, n, h => by
    unfold cntN
    have ih := cnt_full (f := f) (w := w) k (i + 1) (bif f i then n + 1 else n) fun j hj => by
      have := h (j + 1) (by omega)
      rwa [show i + (j + 1) = i + 1 + j by omega] at this
    rw [ih]
    have h0 := h 0 (by omega)
    rw [Nat.add_zero] at h0
    rw [h0]
    by_cases hw : (i : Int) < w
    · rw [decide_eq_true hw]; simp only [cond_true]; omega
    · rw [decide_eq_false hw]; simp only [cond_false]; omega
theorem fill_count {s : Sl} (h : Inv s) : scount (ffill s) = s.want := by
  have h1 := h.low
  have h2 := h.high
  unfold scount
  rw [cnt_full (w := s.want) 32 0 0 fun j hj => ?_]
  · omega
  · rw [Nat.zero_add]
    show (fillIt (s.want - 0).toNat 0 s).f j = _
    rw [fillIt_f _ _ _ (by omega) (by omega) j hj]
    by_cases hw : (j : Int) < s.want
    · rw [decide_eq_true (show (0 : Int) ≤ j ∧ (j : Int) < 0 + ((s.want - 0).toNat : Int) by omega), decide_eq_true hw]; rfl
    · rw [decide_eq_false (show ¬ ((0 : Int) ≤ j ∧ (j : Int) < 0 + ((s.want - 0).toNat : Int)) by omega), decide_eq_false hw]
      exact h.off j hj (by omega)
theorem fill_full {s : Sl} (h : Inv s) : sfull (ffill s) = decide (s.want > 0) := by
  unfold sfull
  rw [fill_count h, show (ffill s).want = s.want from fillIt_want _ _ _]
  simp
theorem scale_same {s : Sl} {n : Int} (h : Inv s) (hw : s.want = capN n) : sscale s n = s := by
  unfold sscale
  rw [← hw]
  refine (mkS_congr _ _ s.f fun j hj => ?_).trans (mkS_self s)
  unfold cutF
  by_cases c : s.want ≤ (j : Int)
  · rw [decide_eq_true c, h.off j hj c]; rfl
  · rw [decide_eq_false c]; rfl
/-! ### The loop -/
noncomputable def rd (f : Nat → Ac) : Nat → Nat → Sl × Sl → Sl × Sl
  | 0, _, x => x
  | k + 1, i, x => rd f k (i + 1) (fready x (f i).slot (f i).n (f i).on).2
theorem fready_want (x : Sl × Sl) (slot i : Int) (on : Bool) : (fready x slot i on).2.1.want = x.1.want ∧ (fready x slot i on).2.2.want = x.2.want := by
  unfold fready
  split
  · exact ⟨ready_want _ _ _, rfl⟩
  · split
    · exact ⟨rfl, ready_want _ _ _⟩
    · exact ⟨rfl, rfl⟩
theorem rd_inv (f : Nat → Ac) : ∀ (k i : Nat) (x : Sl × Sl), Inv x.1 ∧ Inv x.2 → (Inv (rd f k i x).1 ∧ Inv (rd f k i x).2) ∧ (rd f k i x).1.want = x.1.want ∧ (rd f k i x).2.want = x.2.want
  | 0, _, _, h => ⟨h, rfl, rfl⟩
  | k + 1, i, x, h => by
    have ih := rd_inv f k (i + 1) (fready x (f i).slot (f i).n (f i).on).2 (inv_fready h)
    have hw := fready_want x (f i).slot (f i).n (f i).on
    rw [hw.1, hw.2] at ih
    exact ih
@[reducible] def FS := Int × Nat × Int × Int × Sl × Sl × (Nat → Ac)
def hpFS (N : Nat) (w0 w1 : Int) (a b : Sl) (f : Nat → Ac) : List (Option SB) := [some (.ro 6 (.gen N fun i => encAc (f i))), some (.cells [.int .i64 w0, .int .i64 w1]), some (.cells [.ptr 3 0, .ptr 4 0]), some (.cells (encSl a)), some (.cells (encSl b))]
def encFS : FS → Sx.St
  | (i, N, w0, w1, a, b, f) => ⟨[(3, .s (.c (.ptr 1 0))), (5, .s (.c (.ptr 2 0))), (26, .s (.c (.slc 0 0 N))), (27, .s (.c (.int .i64 (N : Int)))), (28, .s (.c (.int .i64 i)))], hpFS N w0 w1 a b f, 5, 84⟩
@[reducible] def FT := Int × Int × Nat × Nat × Int × Int × Sl × Sl × (Nat → List CV)
def decFS : Sx.St → Option FT
  | ⟨[(3, .s (.c (.ptr 1 0))), (5, .s (.c (.ptr 2 0))), (26, .s (.c (.slc 0 0 M))), (27, .s (.c (.int .i64 m))), (28, .s (.c (.int .i64 i)))], [some (.ro 6 (.gen N f)), some (.cells [.int .i64 w0, .int .i64 w1]), some (.cells [.ptr 3 0, .ptr 4 0]), some (.cells x), some (.cells y)], 5, 84⟩ => (decSl x).bind fun a => (decSl y).map fun b => (i, m, N, M, w0, w1, a, b, f)
  | _ => none
noncomputable def chkFS : FT → Bool
  | (_, m, N, M, _, _, _, _, f) => Nat.beq N M && decide (m = N) && chkRo encAc decAcD f
def normFS : FT → FS
  | (i, _, N, _, w0, w1, a, b, f) => (i, N, w0, w1, a, b, fun j => decAcD (f j))
theorem decFS_spec (st : Sx.St) (p : FT) (h : decFS st = some p) (hc : chkFS p = true) : st = encFS (normFS p) := by
  unfold decFS at h
  split at h
  · obtain ⟨a, ha, h⟩ := Option.bind_eq_some_iff.1 h
    obtain ⟨b, hb, rfl⟩ := Option.map_eq_some_iff.1 h
    obtain rfl := decSl_spec _ _ ha
    obtain rfl := decSl_spec _ _ hb
    simp only [chkFS, Bool.and_eq_true, decide_eq_true_eq] at hc
    obtain ⟨⟨h1, h2⟩, h3⟩ := hc
    have h1 := Nat.eq_of_beq_eq_true h1
    subst h1 h2
    have g := chkRo_spec h3
    unfold normFS encFS hpFS
    simp only
    rw [← g]
  · cases h
def finFS (N : Nat) (w0 w1 : Int) (f : Nat → Ac) (x : Sl × Sl) : Sx.St := ⟨[(3, .s (.c (.ptr 1 0))), (5, .s (.c (.ptr 2 0)))], hpFS N w0 w1 x.1 x.2 f, 5, 84⟩
structure FSI (p : FS) : Prop where
  i : 0 ≤ p.1 ∧ p.1 ≤ p.2.1
  N : p.2.1 ≤ 300
  a : Inv p.2.2.2.2.1
  b : Inv p.2.2.2.2.2.1
noncomputable def goodFS (p : FS) : Bool := @decide (FSI p) (Classical.propDecidable _)
noncomputable def tFS (p : FS) (R : Type) (K : Ex → Sx.St → Option R) : Option R := bif goodFS p then K (.exit 0) (finFS p.2.1 p.2.2.1 p.2.2.2.1 p.2.2.2.2.2.2 (rd p.2.2.2.2.2.2 (p.2.1 - p.1.toNat) p.1.toNat (p.2.2.2.2.1, p.2.2.2.2.2.1))) else none
@[reducible] noncomputable def LFS : List (Nat × LoopSum) := [(0, formSumC decFS chkFS normFS tFS)]
theorem roundFS {R : Type} (L : List (Nat × LoopSum)) (i : Int) (N : Nat) (w0 w1 : Int) (a b : Sl) (f : Nat → Ac) (K : Ex → Sx.St → Option R) :
    roundK Try.prog FL1 L 10 1 (resMask Try.f9.results.toList) (lpAt Try.f9 0) (encFS (i, N, w0, w1, a, b, f)) K =
    bif decide (i < (N : Int)) then bif decide (0 ≤ i) && decide (i < (N : Int)) then bif decide (i.toNat < N) then bif decide (a.want ≤ 32) && decide (b.want ≤ 32) then
      K .normal (encFS (IntKind.i64.wrap (i + 1), N, w0, w1, (fready (a, b) (f i.toNat).slot (f i.toNat).n (f i.toNat).on).2.1, (fready (a, b) (f i.toNat).slot (f i.toNat).n (f i.toNat).on).2.2, f)) else none
    else none else none else K (.exit 0) (finFS N w0 w1 f (a, b)) := by kernel_rfl
theorem okFS : LoopOk Try.prog FL1 LFS 10 1 (resMask Try.f9.results.toList) (lpAt Try.f9 0) (formSumC decFS chkFS normFS tFS) := by
  refine LoopOk.ofC decFS_spec (fun p => p.2.1 - p.1.toNat) ?_
  rintro ⟨i, N, w0, w1, a, b, f⟩ R K x h
  unfold tFS at h
  cases hg : goodFS (i, N, w0, w1, a, b, f) with
  | false => rw [hg] at h; cases h
  | true =>
    rw [hg, cond_true] at h
    have hg := (@decide_eq_true_eq _ (Classical.propDecidable _)).mp hg
    obtain ⟨h1, h2, h3, h4⟩ := hg
    simp only at h1 h2 h3 h4 h
    by_cases hi : i < (N : Int)
    · left
      have hv := inv_fready (x := (a, b)) (slot := (f i.toNat).slot) (i := (f i.toNat).n) (on := (f i.toNat).on) ⟨h3, h4⟩
      refine ⟨(i + 1, N, w0, w1, (fready (a, b) (f i.toNat).slot (f i.toNat).n (f i.toNat).on).2.1, (fready (a, b) (f i.toNat).slot (f i.toNat).n (f i.toNat).on).2.2, f), by simp only; omega, fun K' => ?_, ?_⟩
      · rw [roundFS, decide_eq_true hi, decide_eq_true h1.1, decide_eq_true (show i.toNat < N by omega), decide_eq_true h3.high, decide_eq_true h4.high, wi (x := i + 1) (by omega)]
        rfl
      · unfold tFS
        have : goodFS (i + 1, N, w0, w1, (fready (a, b) (f i.toNat).slot (f i.toNat).n (f i.toNat).on).2.1, (fready (a, b) (f i.toNat).slot (f i.toNat).n (f i.toNat).on).2.2, f) = true := (@decide_eq_true_eq _ (Classical.propDecidable _)).mpr ⟨by simp only; omega, h2, hv.1, hv.2⟩
        rw [this]
        simp only [cond_true]
        rw [show (i + 1).toNat = i.toNat + 1 by omega]
        rw [show N - i.toNat = (N - (i.toNat + 1)) + 1 by omega] at h
        exact h
    · right
      refine ⟨.exit 0, _, by simp, fun K' => ?_, h⟩
      rw [roundFS, decide_eq_false hi, show N - i.toNat = 0 by omega]
      rfl
theorem loopsFS : LoopsOk Try.prog FL1 LFS 10 1 (resMask Try.f9.results.toList) (loopsOf (resMask Try.f9.results.toList) (bodyOf Try.f9) [] (resMask Try.f9.results.toList)) :=
  loopsOk_ix 1 (by kernel_rfl) ⟨trivial, loopOk_here (n := 0) (by kernel_rfl) rfl okFS⟩
@[reducible] noncomputable def lastFS {R : Type} (N : Nat) (w0 w1 : Int) (f : Nat → Ac) (x y : Sl × Sl) (K : TV → List (Option SB) → Option R) : Option R :=
  bif !(y.1.want == x.1.want && (y.2.want == x.2.want && (scount y.1 == scount x.1 && (scount y.2 == scount x.2 && true)))) then K (.s (bl false)) [some (.ro 6 (.gen N fun i => encAc (f i)))]
  else bif decide (0 ≤ y.1.want) && decide (y.1.want ≤ 32) && (decide (0 ≤ y.2.want) && decide (y.2.want ≤ 32)) then
    bif scount (ffill y.1) == (ffill y.1).want && (scount (ffill y.2) == (ffill y.2).want && true) then
      bif (ffill y.1).want == x.1.want && ((ffill y.2).want == x.2.want && true) then
        bif sfull (ffill y.1) == decide ((ffill y.1).want > 0) then K (.s (bl (sfull (ffill y.2) == decide ((ffill y.2).want > 0)))) [some (.ro 6 (.gen N fun i => encAc (f i)))]
        else K (.s (bl false)) [some (.ro 6 (.gen N fun i => encAc (f i)))]
      else K (.s (bl false)) [some (.ro 6 (.gen N fun i => encAc (f i)))]
    else K (.s (bl false)) [some (.ro 6 (.gen N fun i => encAc (f i)))]
  else none
theorem t_FleetSame {R : Type} (N : Nat) (f : Nat → Ac) (s : N2) (K : TV → List (Option SB) → Option R) : runFnL Try.prog FL1 LFS 10 Try.f9 (bodyOf Try.f9) [.c (.slc 0 0 N), .agg (encN2 s)] [.ro 6 (.gen N fun i => encAc (f i))] K =
    bif decide ((N : Int) > 300) then K (.s (bl true)) [some (.ro 6 (.gen N fun i => encAc (f i)))] else bif Nat.beq N N && decide ((N : Int) = N) && chkRo encAc decAcD (fun i => encAc (f i)) then bif goodFS (0, N, s.a, s.b, sscale z0 s.a, sscale z0 s.b, f) then
      lastFS N s.a s.b f (rd f (N - (0 : Int).toNat) (0 : Int).toNat (sscale z0 s.a, sscale z0 s.b)) (sscale (rd f (N - (0 : Int).toNat) (0 : Int).toNat (sscale z0 s.a, sscale z0 s.b)).1 s.a, sscale (rd f (N - (0 : Int).toNat) (0 : Int).toNat (sscale z0 s.a, sscale z0 s.b)).2 s.b) K
    else none else none := by kernel_rfl
theorem FleetSame (N : Nat) (f : Nat → Ac) (s : N2) (q : ∀ i, i < N → wfAc (f i)) (q_s : wfN2 s) (w : World) (v : Value) (l : Sx.Loc) (hs : SlcR l 0 N v) (hb : BlkR (outer w fun _ _ => False) (rho1 l) l (.ro 6 (.gen N fun i => encAc (f i))) w) (v_s : Value) (hv_s : ∀ X ρ, (SV.agg (encN2 s)).R X ρ v_s) :
    Calls Try.prog 9 #[v, v_s] w fun e w' => e = .returned (.bool true) ∧ RowKit.Below w.heap.size w w' := by
  refine law_callsL okFL1 mixed Try.func9 (c := bodyOf Try.f9) (by kernel_rfl) lawK_spec (fuel := 10) (args := [.c (.slc 0 0 N), .agg (encN2 s)]) (hp0 := [.ro 6 (.gen N fun i => encAc (f i))]) (X := fun _ _ => False) (ρ := rho1 l) (vs := [v, v_s]) loopsFS ?_ ⟨⟨l, rfl, hs⟩, hv_s _ _, trivial⟩ (blk1 hb) rho1_out
  rw [t_FleetSame]
  by_cases c1 : (N : Int) > 300
  · rw [decide_eq_true c1]; rfl
  have i1 : Inv (sscale z0 s.a) := inv_scale inv_z0
  have i2 : Inv (sscale z0 s.b) := inv_scale inv_z0
  have hg : goodFS (0, N, s.a, s.b, sscale z0 s.a, sscale z0 s.b, f) = true := (@decide_eq_true_eq _ (Classical.propDecidable _)).mpr ⟨by simp only; omega, by simp only; omega, i1, i2⟩
  rw [decide_eq_false c1, hg, chkRo_true backAc, show (Nat.beq N N && decide ((N : Int) = N) && true) = true by simp]
  obtain ⟨⟨j1, j2⟩, e1, e2⟩ := rd_inv f (N - (0 : Int).toNat) (0 : Int).toNat (sscale z0 s.a, sscale z0 s.b) ⟨i1, i2⟩
  have e1 : (rd f (N - (0 : Int).toNat) (0 : Int).toNat (sscale z0 s.a, sscale z0 s.b)).1.want = capN s.a := e1
  have e2 : (rd f (N - (0 : Int).toNat) (0 : Int).toNat (sscale z0 s.a, sscale z0 s.b)).2.want = capN s.b := e2
  generalize rd f (N - (0 : Int).toNat) (0 : Int).toNat (sscale z0 s.a, sscale z0 s.b) = y at j1 j2 e1 e2
  rw [scale_same j1 e1, scale_same j2 e2]
  unfold lastFS
  simp only [cond_false, cond_true]
  rw [decide_eq_true j1.low, decide_eq_true j1.high, decide_eq_true j2.low, decide_eq_true j2.high, fill_count j1, fill_count j2, fill_full j1, fill_full j2, show (ffill y.1).want = y.1.want from fillIt_want _ _ _, show (ffill y.2).want = y.2.want from fillIt_want _ _ _]
  simp only [beq_self_eq_true, Bool.and_self, Bool.not_true, cond_false, cond_true]
  rfl
end Go.Proofs.Ythdplllibigkpaa.Rep

/- The law FusePlays: true, and no memory that was there is written. -/
import Derived.Test.YtnecfmoccnifcaaFuseLaw2
set_option maxRecDepth 100000
set_option linter.unusedSimpArgs false
namespace Go.Proofs.Ytnecfmoccnifcaa.FusePlays
open Go Go.Proofs.Ytnecfmoccnifcaa.Sx Go.Proofs.Ytnecfmoccnifcaa.Fuse Go.Proofs.Ytnecfmoccnifcaa.FuseLaw Go.Proofs.Ytnecfmoccnifcaa.FuseLaw2

/-! ### the reference -/
structure G where
  armed : Bool
  left : Int
  blown : Bool
  count : Int
def encG (s : G) : List CV := [.bool s.armed, .int .i64 s.left, .bool s.blown, .int .i64 s.count]
def decG : List CV → Option G
  | [.bool a, .int .i64 l, .bool b, .int .i64 c] => some ⟨a, l, b, c⟩
  | _ => none
theorem decG_spec (l : List CV) (s : G) (h : decG l = some s) : l = encG s := by
  unfold decG at h; split at h <;> cases h; rfl
theorem encG_ren (s : G) (π) : (encG s).map (CV.ren π) = encG s := rfl
def up (n : Int) : Int := bif decide (n < 0) then 0 else n
def armG (s : G) (n : Int) : G := ⟨true, up n, false, s.count⟩
def blowG (s : G) : Bool := (s.armed && s.left == 0) || s.blown
def spendG (s : G) : G := bif blowG s then ⟨s.armed, s.left, true, s.count⟩ else ⟨s.armed, bif s.armed then IntKind.i64.wrap (s.left - 1) else s.left, false, IntKind.i64.wrap (s.count + 1)⟩
def resetG (s : G) : G := ⟨false, s.left, false, s.count⟩
def gArmG : G → List SV → Option (TV × Option G)
  | s, [.c (.int .i64 n)] => some (unit, some (armG s n))
  | _, _ => none
theorem t_armG (l c n : Int) (a b : Bool) : runFn Try.prog [] 10 Try.f16 (bodyOf Try.f16) [.c (.ptr 0 0), i64 n] [.cells [.bool a, .int .i64 l, .bool b, .int .i64 c]] (fun tv hp => some (tv, hp)) =
    bif decide (n < 0) then some (unit, [some (.cells [.bool true, .int .i64 0, .bool false, .int .i64 c])]) else some (unit, [some (.cells [.bool true, .int .i64 n, .bool false, .int .i64 c])]) := by kernel_rfl
theorem ok_armG : SumOk Try.prog 16 (ptrVal encG decG gArmG) := by
  refine sumOk_ptrV SumsOk.nil mixed Try.func16 (c := bodyOf Try.f16) (by kernel_rfl) (by kernel_rfl) decG_spec encG_ren ?_
  intro s rest tv s' h
  unfold gArmG at h
  split at h
  · cases h
    refine ⟨fun _ => rfl, fun _ => rfl, 10, (t_armG ..).trans ?_⟩
    rename_i n
    unfold armG up encG
    cases h1 : decide (n < 0) <;> simp
  · cases h
def gSpendG : G → List SV → Option (TV × Option G)
  | s, [] => some (.s (bl (!blowG s)), some (spendG s))
  | _, _ => none
theorem t_spendG (l c : Int) (a b : Bool) : runFn Try.prog [] 10 Try.f18 (bodyOf Try.f18) [.c (.ptr 0 0)] [.cells [.bool a, .int .i64 l, .bool b, .int .i64 c]] (fun tv hp => some (tv, hp)) =
    bif a then (bif l == 0 then some (.s (bl false), [some (.cells [.bool a, .int .i64 l, .bool true, .int .i64 c])]) else
      bif b then some (.s (bl false), [some (.cells [.bool a, .int .i64 l, .bool b, .int .i64 c])]) else some (.s (bl true), [some (.cells [.bool a, .int .i64 (IntKind.i64.wrap (l - 1)), .bool b, .int .i64 (IntKind.i64.wrap (c + 1))])]))
    else bif b then some (.s (bl false), [some (.cells [.bool a, .int .i64 l, .bool b, .int .i64 c])]) else some (.s (bl true), [some (.cells [.bool a, .int .i64 l, .bool b, .int .i64 (IntKind.i64.wrap (c + 1))])]) := by
  cases a <;> cases b <;> kernel_rfl
theorem ok_spendG : SumOk Try.prog 18 (ptrVal encG decG gSpendG) := by
  refine sumOk_ptrV SumsOk.nil mixed Try.func18 (c := bodyOf Try.f18) (by kernel_rfl) (by kernel_rfl) decG_spec encG_ren ?_
  intro s rest tv s' h
  unfold gSpendG at h
  split at h
  · cases h
    refine ⟨fun _ => rfl, fun _ => rfl, 10, (t_spendG ..).trans ?_⟩
    obtain ⟨a, l, b, c⟩ := s
    unfold spendG blowG
    cases a <;> cases b <;> cases h1 : l == 0 <;> simp [h1, encG]
  · cases h
def gResetG : G → List SV → Option (TV × Option G)
  | s, [] => some (unit, some (resetG s))
  | _, _ => none
theorem t_resetG (l c : Int) (a b : Bool) : runFn Try.prog [] 10 Try.f20 (bodyOf Try.f20) [.c (.ptr 0 0)] [.cells [.bool a, .int .i64 l, .bool b, .int .i64 c]] (fun tv hp => some (tv, hp)) =
    some (unit, [some (.cells (encG (resetG ⟨a, l, b, c⟩)))]) := by kernel_rfl
theorem ok_resetG : SumOk Try.prog 20 (ptrVal encG decG gResetG) := by
  refine sumOk_ptrV SumsOk.nil mixed Try.func20 (c := bodyOf Try.f20) (by kernel_rfl) (by kernel_rfl) decG_spec encG_ren ?_
  intro s rest tv s' h
  unfold gResetG at h
  split at h
  · cases h
    exact ⟨fun _ => rfl, fun _ => rfl, 10, t_resetG ..⟩
  · cases h
@[reducible] def sPlays : Sums := (16, ptrVal encG decG gArmG) :: (18, ptrVal encG decG gSpendG) :: (20, ptrVal encG decG gResetG) :: sLaw
theorem okPlays : SumsOk Try.prog sPlays := ((okLaw.cons ok_resetG).cons ok_spendG).cons ok_armG

structure Cmd where
  kind : Int
  n : Int
  deriving Inhabited
def encCmd (s : Cmd) : List CV := [.int .i64 s.kind, .int .i64 s.n]
def decCmd : List CV → Option Cmd
  | [.int .i64 a0, .int .i64 a1] => some ⟨a0, a1⟩
  | _ => none
def decCmdD : List CV → Cmd
  | [.int .i64 a0, .int .i64 a1] => ⟨a0, a1⟩
  | _ => default
theorem decCmd_spec (l : List CV) (s : Cmd) (h : decCmd l = some s) : l = encCmd s := by
  unfold decCmd at h; split at h <;> cases h; rfl
theorem encCmd_ren (s : Cmd) (π) : (encCmd s).map (CV.ren π) = encCmd s := rfl
theorem backCmd (s : Cmd) : decCmdD (encCmd s) = s := rfl
structure wfCmd (s : Cmd) : Prop where
  kind : (Lit.int .i64 s.kind).wf = true
  n : (Lit.int .i64 s.n).wf = true
theorem opCmd (cvs : List CV) (vs : List Value) (h : LeafRs [.int .i64, .int .i64] cvs vs) : ∃ x, cvs = encCmd x ∧ wfCmd x := by
  obtain ⟨_, _, _, _, rfl, rfl, ⟨a0, rfl, rfl, w0⟩, h0⟩ := h.cons_inv
  obtain ⟨_, _, _, _, rfl, rfl, ⟨a1, rfl, rfl, w1⟩, h1⟩ := h0.cons_inv
  obtain ⟨rfl, rfl⟩ := h1.nil_inv
  exact ⟨⟨a0, a1⟩, rfl, ⟨w0, w1⟩⟩

@[reducible] def A3 := Nat × (Nat → Cmd) × F × G
def enc3 : Int × Int × A3 → St
  | (i, m, N, f, s, g) => ⟨[(3, .s (.c (.ptr 1 0))), (4, .s (.c (.ptr 2 0))), (22, .s (.c (.slc 0 0 N))), (23, .s (.c (.int .i64 m))), (24, .s (.c (.int .i64 i)))], [some (.ro (.gen N fun i => encCmd (f i))), some (.cells (encF s)), some (.cells (encG g))], 3, 70⟩
@[reducible] def B3 := Int × Int × Nat × (Nat → List CV) × F × G × Nat
def dec3 : St → Option B3
  | ⟨[(3, .s (.c (.ptr 1 0))), (4, .s (.c (.ptr 2 0))), (22, .s (.c (.slc 0 0 N))), (23, .s (.c (.int .i64 m))), (24, .s (.c (.int .i64 i)))], [some (.ro (.gen N' f)), some (.cells [.int .i64 s0, .bool s1, .int .i64 s2]), some (.cells [.bool g0, .int .i64 g1, .bool g2, .int .i64 g3])], 3, 70⟩ => some (i, m, N, f, ⟨s0, s1, s2⟩, ⟨g0, g1, g2, g3⟩, N')
  | _ => none
noncomputable def chk3 : B3 → Bool
  | (_, _, N, f, _, _, N') => Nat.beq N N' && chkRo encCmd decCmdD f
def norm3 : B3 → Int × Int × A3
  | (i, m, N, f, s, g, _) => (i, m, N, fun i => decCmdD (f i), s, g)
theorem dec3_spec (st : St) (p : B3) (h : dec3 st = some p) (hc : chk3 p = true) : st = enc3 (norm3 p) := by
  unfold dec3 at h
  split at h <;> cases h
  simp only [chk3, Bool.and_eq_true] at hc
  obtain ⟨e0, e1⟩ := hc
  have := Nat.eq_of_beq_eq_true e0
  subst this
  have g0 := chkRo_spec e1
  unfold norm3 enc3
  simp only
  rw [← g0]
  try rfl
def fin3 : A3 → St
  | (N, f, _, _) => ⟨[], [some (.ro (.gen N fun i => encCmd (f i)))], 1, 70⟩
def step3 (c : Cmd) (s : F) (g : G) : F × G := bif c.kind == 1 then (armF s c.n, armG g c.n) else bif c.kind == 2 then (spendF s, spendG g) else bif c.kind == 3 then (resetF s, resetG g) else (s, g)
def same3 (s : F) (g : G) : Bool := s.blown == g.blown && s.count == g.count
def k3 (i : Int) (x : A3) : Bool := decide (0 ≤ i) && decide (i < x.1) && (!(x.2.1 i.toNat).kind == 2 || spendB x.2.2.1 == !blowG x.2.2.2) && same3 (step3 (x.2.1 i.toNat) x.2.2.1 x.2.2.2).1 (step3 (x.2.1 i.toNat) x.2.2.1 x.2.2.2).2
def f3 (i : Int) (x : A3) : A3 := (x.1, x.2.1, step3 (x.2.1 i.toNat) x.2.2.1 x.2.2.2)
@[reducible] noncomputable def L3 : List (Nat × LoopSum) := [(0, formSumC dec3 chk3 norm3 (countSum k3 f3 fin3 (.exit 0)))]
@[reducible] noncomputable def mk3 : Nat := resMask Try.f3.results.toList
@[reducible] def r3 (N : Nat) (f : Nat → Cmd) : St := ⟨[(2, .s (bl false))], [some (.ro (.gen N fun i => encCmd (f i)))], 1, 70⟩
theorem round3 {R : Type} (i m : Int) (N : Nat) (f : Nat → Cmd) (s : F) (g : G) (K : Ex → St → Option R) : roundK Try.prog sPlays L3 10 1 mk3 (lpAt Try.f3 0) (enc3 (i, m, N, f, s, g)) K =
    bif decide (i < m) then
      bif decide (0 ≤ i) && decide (i < (N : Int)) then bif decide (i.toNat < N) then bif decide (i.toNat < N) then
        bif (f i.toNat).kind == 1 then
          bif (armF s (f i.toNat).n).count != (armG g (f i.toNat).n).count then K .ret (r3 N f) else K .normal (enc3 (IntKind.i64.wrap (i + 1), m, N, f, armF s (f i.toNat).n, armG g (f i.toNat).n))
        else bif (f i.toNat).kind == 2 then
          bif !(spendB s == !blowG g) then K .ret (r3 N f) else
          bif !((spendF s).blown == (spendG g).blown) then K .ret (r3 N f) else
          bif (spendF s).count != (spendG g).count then K .ret (r3 N f) else K .normal (enc3 (IntKind.i64.wrap (i + 1), m, N, f, spendF s, spendG g))
        else bif (f i.toNat).kind == 3 then
          bif (resetF s).count != (resetG g).count then K .ret (r3 N f) else K .normal (enc3 (IntKind.i64.wrap (i + 1), m, N, f, resetF s, resetG g))
        else
          bif !(s.blown == g.blown) then K .ret (r3 N f) else
          bif s.count != g.count then K .ret (r3 N f) else K .normal (enc3 (IntKind.i64.wrap (i + 1), m, N, f, s, g))
      else none else none else none
    else K (.exit 0) (fin3 (N, f, s, g)) := by kernel_rfl
theorem ok3 : LoopOk Try.prog sPlays L3 10 1 mk3 (lpAt Try.f3 0) (formSumC dec3 chk3 norm3 (countSum k3 f3 fin3 (.exit 0))) := by
  refine LoopOk.countC dec3_spec (by simp) ?_ ?_
  · rintro R i m ⟨N, f, s, g⟩ K hi hk
    simp only [k3, Bool.and_eq_true, same3] at hk
    obtain ⟨⟨⟨h1, h2⟩, h3⟩, h4, h5⟩ := hk
    rw [round3, decide_eq_true hi, h1, h2, decide_eq_true (show i.toNat < N by have := of_decide_eq_true h1; have := of_decide_eq_true h2; omega)]
    simp only [f3, cond_true, Bool.and_self]
    unfold step3 at h4 h5 ⊢
    cases e1 : (f i.toNat).kind == 1 with
    | true => simp only [e1, cond_true] at h4 h5 ⊢; simp [bne, h5]
    | false =>
      cases e2 : (f i.toNat).kind == 2 with
      | true => simp only [e1, e2, cond_true, cond_false, Bool.not_true, Bool.false_or] at h3 h4 h5 ⊢; rw [h3, h4]; simp [bne, h5]
      | false =>
        cases e3 : (f i.toNat).kind == 3 with
        | true => simp only [e1, e2, e3, cond_true, cond_false] at h4 h5 ⊢; simp [bne, h5]
        | false => simp only [e1, e2, e3, cond_false] at h4 h5 ⊢; simp [bne, h5, h4]
  · rintro R i m ⟨N, f, s, g⟩ K hi
    rw [round3, decide_eq_false hi]; rfl
theorem loops3 : LoopsOk Try.prog sPlays L3 10 1 mk3 (loopsOf mk3 (bodyOf Try.f3) [] mk3) :=
  loopsOk_ix 1 (by kernel_rfl) ⟨trivial, loopOk_here (n := 0) (by kernel_rfl) rfl ok3⟩
noncomputable def run3 (x : A3) (m : Int) (K : Option Unit) : Option Unit :=
  bif chkRo encCmd decCmdD fun i => encCmd (x.2.1 i) then cond (decide (0 ≤ (0 : Int) ∧ m ≤ 4611686018427387904) && okN k3 f3 (m - 0).toNat 0 x) K none else none
theorem t_FusePlays (N : Nat) (f : Nat → Cmd) : runFnL Try.prog sPlays L3 10 Try.f3 (bodyOf Try.f3) [.c (.slc 0 0 N)] [.ro (.gen N fun i => encCmd (f i))] lawK =
    bif decide ((N : Int) > 500) then some () else bif Nat.beq N N && chkRo encCmd decCmdD (fun i => encCmd (f i)) then
      cond (decide (0 ≤ (0 : Int) ∧ (N : Int) ≤ 4611686018427387904) && okN k3 f3 ((N : Int) - 0).toNat 0 (N, f, ⟨-1, false, 0⟩, ⟨false, 0, false, 0⟩)) (some ()) none else none := by kernel_rfl
def Rel (s : F) (g : G) (i : Int) : Prop := s.count = g.count ∧ s.blown = g.blown ∧ s.left = (if g.armed = true then g.left else -1) ∧ 0 ≤ s.count ∧ s.count ≤ i ∧ (g.armed = true → 0 ≤ g.left ∧ g.left ≤ 9223372036854775807)
theorem rel_step {c : Cmd} (hc : (Lit.int .i64 c.n).wf = true) {s : F} {g : G} {i : Int} (hi : i ≤ 1000) (h : Rel s g i) :
    (spendB s == !blowG g) = true ∧ Rel (step3 c s g).1 (step3 c s g).2 (i + 1) := by
  obtain ⟨sl, sb, sc⟩ := s
  obtain ⟨ga, gl, gb, gc⟩ := g
  obtain ⟨h1, h2, h3, h4, h5, h6⟩ := h
  simp only at h1 h2 h3 h4 h5 h6
  subst h1 h2
  have hb := bnd hc
  have e : out ⟨sl, sb, sc⟩ = blowG ⟨ga, gl, sb, sc⟩ := by
    subst h3
    cases ga <;> cases sb <;> simp [out, blowG]
  refine ⟨by simp [spendB, e], ?_⟩
  unfold step3
  cases e1 : c.kind == 1 with
  | true =>
    have hu : up c.n = foldMax c.n [0] := by
      rw [fm]; unfold up
      by_cases hn : c.n < 0
      · simp [hn]
      · rw [decide_eq_false hn]; simp only [cond_false]; split <;> omega
    have : 0 ≤ foldMax c.n [0] ∧ foldMax c.n [0] ≤ 9223372036854775807 := by rw [fm]; split <;> omega
    simp only [cond_true, armF, armG, hu]
    exact ⟨rfl, rfl, by simp, h4, by simp only; omega, fun _ => this⟩
  | false =>
    simp only [cond_false]
    cases e2 : c.kind == 2 with
    | true =>
      simp only [cond_true, spendF, spendG, e]
      cases eb : blowG ⟨ga, gl, sb, sc⟩ with
      | true => exact ⟨rfl, rfl, h3, h4, by simp only [cond_true]; omega, h6⟩
      | false =>
        simp only [cond_false]
        cases ga with
        | true =>
          simp only [if_true] at h3
          subst h3
          have hz : sl ≠ 0 := by
            intro hz; subst hz; simp [blowG] at eb
          have hsb : sb = false := by cases sb <;> simp_all [blowG]
          have := h6 rfl
          rw [decide_eq_true (show sl > 0 by omega)]
          simp only [cond_true]
          rw [wi (x := sl - 1) (by omega), wi (x := sc + 1) (by omega)]
          exact ⟨rfl, hsb, by simp, by simp only; omega, by simp only; omega, fun _ => by simp only; omega⟩
        | false =>
          simp only [Bool.false_eq_true, if_false] at h3
          subst h3
          have hsb : sb = false := by cases sb <;> simp_all [blowG]
          rw [wi (x := sc + 1) (by omega)]
          exact ⟨rfl, hsb, by simp, by simp only; omega, by simp only; omega, fun h => by cases h⟩
    | false =>
      simp only [cond_false]
      cases e3 : c.kind == 3 with
      | true => exact ⟨rfl, rfl, rfl, h4, by simp only [cond_true, resetF]; omega, fun h => by cases h⟩
      | false => exact ⟨rfl, rfl, h3, h4, by simp only [cond_false]; omega, h6⟩
theorem FusePlays (N : Nat) (f : Nat → Cmd) (hf : ∀ i, i < N → wfCmd (f i)) (w : World) (v : Value) (l : Sx.Loc) (hs : SlcR l 0 N v) (hb : BlkR (outer w fun _ _ => False) (rho1 l) l (.ro (.gen N fun i => encCmd (f i))) w) :
    Calls Try.prog 3 #[v] w fun e w' => e = .returned (.bool true) ∧ RowKit.Below w.heap.size w w' := by
  refine law_callsL okPlays mixed Try.func3 (c := bodyOf Try.f3) (by kernel_rfl) lawK_spec (fuel := 10) (args := [.c (.slc 0 0 N)]) (hp0 := [.ro (.gen N fun i => encCmd (f i))]) (X := fun _ _ => False) (ρ := rho1 l) (vs := [v]) loops3 ?_ ⟨⟨l, rfl, hs⟩, trivial⟩ (blk1 hb) rho1_out
  rw [t_FusePlays]
  by_cases c1 : (N : Int) > 500
  · simp [c1]
  have := okN_inv (ok := k3) (f := f3) (m := (N : Int)) (fun i (x : A3) => 0 ≤ i ∧ x.1 = N ∧ x.2.1 = f ∧ Rel x.2.2.1 x.2.2.2 i) ?_ ((N : Int) - 0).toNat 0 (N, f, ⟨-1, false, 0⟩, ⟨false, 0, false, 0⟩) (by omega) ⟨by omega, rfl, rfl, rfl, rfl, rfl, by simp, by simp, fun h => by cases h⟩
  · rw [this.1, chkRo_true backCmd, decide_eq_false c1, decide_eq_true (show 0 ≤ (0 : Int) ∧ (N : Int) ≤ 4611686018427387904 by omega), Nat.beq_refl]
    rfl
  · rintro i ⟨N', f', s, g⟩ hi ⟨h0, h1, h2, h3⟩
    simp only at h1 h2 h3
    subst h1 h2
    obtain ⟨r1, r2⟩ := rel_step (c := f' i.toNat) (hf _ (by omega)).n (by omega) h3
    refine ⟨?_, by omega, rfl, rfl, r2⟩
    simp only [k3, same3, r1, Bool.or_true, Bool.and_true, Bool.and_eq_true, decide_eq_true_eq, beq_iff_eq]
    exact ⟨⟨h0, by omega⟩, r2.2.1, r2.1⟩
end Go.Proofs.Ytnecfmoccnifcaa.FusePlays

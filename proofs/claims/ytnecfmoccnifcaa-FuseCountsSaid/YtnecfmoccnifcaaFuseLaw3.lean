/- The law FuseCounts: true, and no memory that was there is written. -/
import Derived.Test.YtnecfmoccnifcaaFuseLaw2
set_option maxRecDepth 100000
set_option linter.unusedSimpArgs false
namespace Go.Proofs.Ytnecfmoccnifcaa.FuseLaw3
open Go Go.Proofs.Ytnecfmoccnifcaa.Sx Go.Proofs.Ytnecfmoccnifcaa.Fuse Go.Proofs.Ytnecfmoccnifcaa.FuseLaw Go.Proofs.Ytnecfmoccnifcaa.FuseLaw2

@[reducible] def A4a := Int × Int × Int × F
def enc4a : Int × Int × A4a → St
  | (i, m, n, a, b, s) => ⟨[(0, .s (.c (.int .i64 n))), (1, .s (.c (.int .i64 a))), (2, .s (.c (.int .i64 b))), (7, .s (.c (.ptr 0 0))), (36, .s (.c (.int .i64 m))), (37, .s (.c (.int .i64 i)))], [some (.cells (encF s))], 1, 85⟩
def dec4a : St → Option (Int × Int × A4a)
  | ⟨[(0, .s (.c (.int .i64 n))), (1, .s (.c (.int .i64 a))), (2, .s (.c (.int .i64 b))), (7, .s (.c (.ptr 0 0))), (36, .s (.c (.int .i64 m))), (37, .s (.c (.int .i64 i)))], [some (.cells [.int .i64 s0, .bool s1, .int .i64 s2])], 1, 85⟩ => some (i, m, n, a, b, ⟨s0, s1, s2⟩)
  | _ => none
theorem dec4a_spec (st : St) (p : Int × Int × A4a) (h : dec4a st = some p) : st = enc4a p := by
  unfold dec4a at h; split at h <;> cases h; rfl
def fin4a : A4a → St
  | (n, a, b, s) => ⟨[(0, .s (.c (.int .i64 n))), (1, .s (.c (.int .i64 a))), (2, .s (.c (.int .i64 b))), (7, .s (.c (.ptr 0 0)))], [some (.cells (encF s))], 1, 85⟩
@[reducible] def A4b := Int × Int × Int × F
def enc4b : Int × Int × A4b → St
  | (i, m, n, a, b, s) => ⟨[(0, .s (.c (.int .i64 n))), (1, .s (.c (.int .i64 a))), (2, .s (.c (.int .i64 b))), (7, .s (.c (.ptr 0 0))), (47, .s (.c (.int .i64 m))), (48, .s (.c (.int .i64 i)))], [some (.cells (encF s))], 1, 85⟩
def dec4b : St → Option (Int × Int × A4b)
  | ⟨[(0, .s (.c (.int .i64 n))), (1, .s (.c (.int .i64 a))), (2, .s (.c (.int .i64 b))), (7, .s (.c (.ptr 0 0))), (47, .s (.c (.int .i64 m))), (48, .s (.c (.int .i64 i)))], [some (.cells [.int .i64 s0, .bool s1, .int .i64 s2])], 1, 85⟩ => some (i, m, n, a, b, ⟨s0, s1, s2⟩)
  | _ => none
theorem dec4b_spec (st : St) (p : Int × Int × A4b) (h : dec4b st = some p) : st = enc4b p := by
  unfold dec4b at h; split at h <;> cases h; rfl
def fin4b : A4b → St
  | (n, a, b, s) => ⟨[(0, .s (.c (.int .i64 n))), (1, .s (.c (.int .i64 a))), (2, .s (.c (.int .i64 b))), (7, .s (.c (.ptr 0 0)))], [some (.cells (encF s))], 1, 85⟩
@[reducible] def A4c := Int × Int × F
def enc4c : Int × Int × A4c → St
  | (i, m, n, a, s) => ⟨[(0, .s (.c (.int .i64 n))), (1, .s (.c (.int .i64 a))), (7, .s (.c (.ptr 0 0))), (58, .s (.c (.int .i64 m))), (59, .s (.c (.int .i64 i)))], [some (.cells (encF s))], 1, 85⟩
def dec4c : St → Option (Int × Int × A4c)
  | ⟨[(0, .s (.c (.int .i64 n))), (1, .s (.c (.int .i64 a))), (7, .s (.c (.ptr 0 0))), (58, .s (.c (.int .i64 m))), (59, .s (.c (.int .i64 i)))], [some (.cells [.int .i64 s0, .bool s1, .int .i64 s2])], 1, 85⟩ => some (i, m, n, a, ⟨s0, s1, s2⟩)
  | _ => none
theorem dec4c_spec (st : St) (p : Int × Int × A4c) (h : dec4c st = some p) : st = enc4c p := by
  unfold dec4c at h; split at h <;> cases h; rfl
def fin4c : A4c → St
  | (n, a, s) => ⟨[(0, .s (.c (.int .i64 n))), (1, .s (.c (.int .i64 a))), (7, .s (.c (.ptr 0 0)))], [some (.cells (encF s))], 1, 85⟩
def f4 (_ : Int) (x : Int × Int × Int × F) : Int × Int × Int × F := (x.1, x.2.1, x.2.2.1, spendF x.2.2.2)
def f4c (_ : Int) (x : Int × Int × F) : Int × Int × F := (x.1, x.2.1, spendF x.2.2)
def k4a (_ : Int) (x : Int × Int × Int × F) : Bool := spendB x.2.2.2
def k4b (_ : Int) (x : Int × Int × Int × F) : Bool := !x.2.2.2.blown && spendB x.2.2.2
def k4c (_ : Int) (x : Int × Int × F) : Bool := !spendB x.2.2 && (spendF x.2.2).blown
@[reducible] def L4 : List (Nat × LoopSum) := [(0, formSum dec4a (countSum k4a f4 fin4a (.exit 0))), (2, formSum dec4b (countSum k4b f4 fin4b (.exit 2))), (4, formSum dec4c (countSum k4c f4c fin4c (.exit 4)))]
@[reducible] def r4 : St := ⟨[(6, .s (bl false))], [], 0, 85⟩
@[reducible] noncomputable def mk : Nat := resMask Try.f4.results.toList
theorem round4a {R : Type} (i m n a b : Int) (s : F) (K : Ex → St → Option R) : roundK Try.prog sLaw L4 10 0 mk (lpAt Try.f4 0) (enc4a (i, m, n, a, b, s)) K =
    bif decide (i < m) then (bif !spendB s then K .ret r4 else K .normal (enc4a (IntKind.i64.wrap (i + 1), m, n, a, b, spendF s))) else K (.exit 0) (fin4a (n, a, b, s)) := by kernel_rfl
theorem round4b {R : Type} (i m n a b : Int) (s : F) (K : Ex → St → Option R) : roundK Try.prog sLaw L4 10 0 mk (lpAt Try.f4 1) (enc4b (i, m, n, a, b, s)) K =
    bif decide (i < m) then (bif s.blown then K .ret r4 else bif !spendB s then K .ret r4 else K .normal (enc4b (IntKind.i64.wrap (i + 1), m, n, a, b, spendF s))) else K (.exit 2) (fin4b (n, a, b, s)) := by kernel_rfl
theorem round4c {R : Type} (i m n a : Int) (s : F) (K : Ex → St → Option R) : roundK Try.prog sLaw L4 10 0 mk (lpAt Try.f4 2) (enc4c (i, m, n, a, s)) K =
    bif decide (i < m) then (bif spendB s then K .ret r4 else bif !(spendF s).blown then K .ret r4 else K .normal (enc4c (IntKind.i64.wrap (i + 1), m, n, a, spendF s))) else K (.exit 4) (fin4c (n, a, s)) := by kernel_rfl
theorem ok4a : LoopOk Try.prog sLaw L4 10 0 mk (lpAt Try.f4 0) (formSum dec4a (countSum k4a f4 fin4a (.exit 0))) := by
  refine LoopOk.count dec4a_spec (by simp) ?_ ?_
  · rintro R i m ⟨n, a, b, s⟩ K hi hk
    have hk : spendB s = true := hk
    rw [round4a]; simp [hi, f4, hk]
  · rintro R i m ⟨n, a, b, s⟩ K hi
    rw [round4a]; simp [hi]
theorem ok4b : LoopOk Try.prog sLaw L4 10 0 mk (lpAt Try.f4 1) (formSum dec4b (countSum k4b f4 fin4b (.exit 2))) := by
  refine LoopOk.count dec4b_spec (by simp) ?_ ?_
  · rintro R i m ⟨n, a, b, s⟩ K hi hk
    simp only [k4b, Bool.and_eq_true, Bool.not_eq_true'] at hk
    rw [round4b]; simp [hi, f4, hk.1, hk.2]
  · rintro R i m ⟨n, a, b, s⟩ K hi
    rw [round4b]; simp [hi]
theorem ok4c : LoopOk Try.prog sLaw L4 10 0 mk (lpAt Try.f4 2) (formSum dec4c (countSum k4c f4c fin4c (.exit 4))) := by
  refine LoopOk.count dec4c_spec (by simp) ?_ ?_
  · rintro R i m ⟨n, a, s⟩ K hi hk
    simp only [k4c, Bool.and_eq_true, Bool.not_eq_true'] at hk
    rw [round4c]; simp [hi, f4c, hk.1, hk.2]
  · rintro R i m ⟨n, a, s⟩ K hi
    rw [round4c]; simp [hi]
theorem loops4 : LoopsOk Try.prog sLaw L4 10 0 mk (loopsOf mk (bodyOf Try.f4) [] mk) :=
  loopsOk_ix 3 (by kernel_rfl) ⟨⟨⟨trivial, loopOk_here (n := 0) (by kernel_rfl) rfl ok4a⟩, loopOk_here (n := 2) (by kernel_rfl) rfl ok4b⟩, loopOk_here (n := 4) (by kernel_rfl) rfl ok4c⟩
def S0 : F := ⟨-1, false, 0⟩
def run4c {R : Type} (x : Int × Int × F) (m : Int) (K : Int × Int × F → Option R) : Option R :=
  cond (decide (0 ≤ (0 : Int) ∧ m ≤ 4611686018427387904) && okN k4c f4c (m - 0).toNat 0 x) (K (iterN f4c (m - 0).toNat 0 x)) none
def run4b {R : Type} (x : Int × Int × Int × F) (m : Int) (K : Int × Int × Int × F → Option R) : Option R :=
  cond (decide (0 ≤ (0 : Int) ∧ m ≤ 4611686018427387904) && okN k4b f4 (m - 0).toNat 0 x) (K (iterN f4 (m - 0).toNat 0 x)) none
def run4a {R : Type} (x : Int × Int × Int × F) (m : Int) (K : Int × Int × Int × F → Option R) : Option R :=
  cond (decide (0 ≤ (0 : Int) ∧ m ≤ 4611686018427387904) && okN k4a f4 (m - 0).toNat 0 x) (K (iterN f4 (m - 0).toNat 0 x)) none
theorem t_FuseCounts (n a b : Int) : runFnL Try.prog sLaw L4 10 Try.f4 (bodyOf Try.f4) [i64 n, i64 a, i64 b] [] lawK =
    bif decide (n < 0) then some () else bif decide (n > 300) then some () else bif decide (a > 300) then some () else bif decide (b < 0) then some () else bif decide (b > 300) then some () else
    run4a (n, a, b, S0) n fun x => run4b (x.1, x.2.1, x.2.2.1, armF x.2.2.2 x.2.1) (foldMax x.2.1 [0]) fun y => run4c (y.1, y.2.1, y.2.2.2) y.2.2.1 fun z =>
      bif z.2.2.count != IntKind.i64.wrap (z.1 + foldMax z.2.1 [0]) then none else some () := by kernel_rfl
theorem all4a {n a b : Int} (hn : 0 ≤ n ∧ n ≤ 300) {R : Type} (K : Int × Int × Int × F → Option R) : run4a (n, a, b, S0) n K = K (n, a, b, ⟨-1, false, n⟩) := by
  have := okN_inv (ok := k4a) (f := f4) (m := n) (fun i (x : Int × Int × Int × F) => 0 ≤ i ∧ x = (n, a, b, ⟨-1, false, i⟩)) ?_ (n - 0).toNat 0 (n, a, b, S0) (by omega) ⟨by omega, rfl⟩
  · obtain ⟨h1, _, h2⟩ := this
    unfold run4a
    rw [h1, h2, decide_eq_true (show 0 ≤ (0 : Int) ∧ n ≤ 4611686018427387904 by omega), show 0 + ((n - 0).toNat : Int) = n by omega]
    rfl
  · rintro i x hi ⟨h0, rfl⟩
    have := spend_free (c := i) (by omega)
    simp only [k4a, f4, this.1, this.2]
    exact ⟨trivial, by omega, trivial⟩
theorem all4b {n a b B : Int} (hn : 0 ≤ n ∧ n ≤ 300) (hB : 0 ≤ B ∧ B ≤ 300) {R : Type} (K : Int × Int × Int × F → Option R) : run4b (n, a, b, ⟨B, false, n⟩) B K = K (n, a, b, ⟨0, false, n + B⟩) := by
  have := okN_inv (ok := k4b) (f := f4) (m := B) (fun i (x : Int × Int × Int × F) => 0 ≤ i ∧ x = (n, a, b, ⟨B - i, false, n + i⟩)) ?_ (B - 0).toNat 0 (n, a, b, ⟨B, false, n⟩) (by omega) ⟨by omega, by simp⟩
  · obtain ⟨h1, _, h2⟩ := this
    unfold run4b
    rw [h1, h2, decide_eq_true (show 0 ≤ (0 : Int) ∧ B ≤ 4611686018427387904 by omega), show 0 + ((B - 0).toNat : Int) = B by omega, show B - B = 0 by omega]
    rfl
  · rintro i x hi ⟨h0, rfl⟩
    have := spend_in (l := B - i) (c := n + i) (by omega) (by omega) (by omega)
    simp only [k4b, f4, this.1, this.2]
    refine ⟨rfl, by omega, ?_⟩
    rw [show B - i - 1 = B - (i + 1) by omega, show n + i + 1 = n + (i + 1) by omega]
theorem all4c {n a b c : Int} (hb : 0 ≤ b ∧ b ≤ 300) : ∃ w, ∀ {R : Type} (K : Int × Int × F → Option R), run4c (n, a, ⟨0, false, c⟩) b K = K (n, a, ⟨0, w, c⟩) := by
  have := okN_inv (ok := k4c) (f := f4c) (m := b) (fun i (x : Int × Int × F) => ∃ w, x = (n, a, ⟨0, w, c⟩)) ?_ (b - 0).toNat 0 (n, a, ⟨0, false, c⟩) (by omega) ⟨false, rfl⟩
  · obtain ⟨h1, w, h2⟩ := this
    refine ⟨w, fun K => ?_⟩
    unfold run4c
    rw [h1, h2, decide_eq_true (show 0 ≤ (0 : Int) ∧ b ≤ 4611686018427387904 by omega)]
    rfl
  · rintro i x hi ⟨w, rfl⟩
    have := spend_out (l := 0) (c := c) (b := w) (.inr rfl)
    simp only [k4c, f4c, this.1, this.2]
    exact ⟨rfl, true, rfl⟩
theorem FuseCounts (n a b : Int) (_ : (Lit.int .i64 n).wf = true) (_ : (Lit.int .i64 a).wf = true) (_ : (Lit.int .i64 b).wf = true) (w : World) :
    Calls Try.prog 4 #[.int .i64 n, .int .i64 a, .int .i64 b] w fun e w' => e = .returned (.bool true) ∧ RowKit.Below w.heap.size w w' := by
  refine law_callsL okLaw mixed Try.func4 (c := bodyOf Try.f4) (by kernel_rfl) lawK_spec (fuel := 10) (args := [i64 n, i64 a, i64 b]) (hp0 := []) (X := fun _ _ => False) (ρ := fun _ => none) (vs := [.int .i64 n, .int .i64 a, .int .i64 b]) loops4 ?_ ⟨rfl, rfl, rfl, trivial⟩ (by intro b sb h; simp at h) (fun _ _ => rfl)
  rw [t_FuseCounts]
  by_cases c1 : n < 0
  · simp [c1]
  by_cases c2 : n > 300
  · simp [c2]
  by_cases c3 : a > 300
  · simp [c3]
  by_cases c4 : b < 0
  · simp [c4]
  by_cases c5 : b > 300
  · simp [c5]
  have hB : 0 ≤ foldMax a [0] ∧ foldMax a [0] ≤ 300 := by rw [fm]; split <;> omega
  rw [decide_eq_false c1, decide_eq_false c2, decide_eq_false c3, decide_eq_false c4, decide_eq_false c5, all4a (by omega)]
  simp only [cond_false, armF]
  rw [all4b (by omega) hB]
  obtain ⟨w, h⟩ := all4c (n := n) (a := a) (b := b) (c := n + foldMax a [0]) (by omega)
  rw [h, wi (x := n + foldMax a [0]) (by omega)]
  simp
end Go.Proofs.Ytnecfmoccnifcaa.FuseLaw3

/- The laws FuseAnew and FuseCounts: true, and no memory that was there is written. -/
import Derived.Test.YtnecfmoccnifcaaFuseLaw
set_option maxRecDepth 100000
set_option linter.unusedSimpArgs false
namespace Go.Proofs.Ytnecfmoccnifcaa.FuseLaw2
open Go Go.Proofs.Ytnecfmoccnifcaa.Sx Go.Proofs.Ytnecfmoccnifcaa.Fuse Go.Proofs.Ytnecfmoccnifcaa.FuseLaw

/-! ### what n spends come to -/
theorem spend_out {l c : Int} {b : Bool} (h : b = true ∨ l = 0) : spendB ⟨l, b, c⟩ = false ∧ spendF ⟨l, b, c⟩ = ⟨l, true, c⟩ := by
  have : out ⟨l, b, c⟩ = true := by rcases h with h | h <;> simp [out, h]
  simp [spendB, spendF, this]
theorem spend_in {l c : Int} (h : 0 < l) (hl : l ≤ 9223372036854775807) (hc : 0 ≤ c ∧ c < 4611686018427387904) : spendB ⟨l, false, c⟩ = true ∧ spendF ⟨l, false, c⟩ = ⟨l - 1, false, c + 1⟩ := by
  have : out ⟨l, false, c⟩ = false := by simp [out]; omega
  simp only [spendB, spendF, this]
  rw [wi (x := l - 1) (by omega), wi (x := c + 1) (by omega)]
  simp [h]
theorem spend_free {c : Int} (hc : 0 ≤ c ∧ c < 4611686018427387904) : spendB ⟨-1, false, c⟩ = true ∧ spendF ⟨-1, false, c⟩ = ⟨-1, false, c + 1⟩ := by
  refine ⟨rfl, ?_⟩
  have : out ⟨-1, false, c⟩ = false := rfl
  simp only [spendF, this]
  rw [wi (x := c + 1) (by omega)]
  rfl

/-! ### FuseAnew -/
@[reducible] def A5 := Int × Int × Int × F
def enc5a (p : Int × Int × A5) : St := ⟨[(0, .s (i64 p.2.2.1)), (1, .s (i64 p.2.2.2.1)), (2, .s (i64 p.2.2.2.2.1)), (7, .s (.c (.ptr 0 0))), (32, .s (i64 p.2.1)), (33, .s (i64 p.1))], [some (.cells (encF p.2.2.2.2.2))], 1, 70⟩
def dec5a : St → Option (Int × Int × A5)
  | ⟨[(0, .s (.c (.int .i64 n))), (1, .s (.c (.int .i64 a))), (2, .s (.c (.int .i64 b))), (7, .s (.c (.ptr 0 0))), (32, .s (.c (.int .i64 m))), (33, .s (.c (.int .i64 i)))], [some (.cells [.int .i64 l, .bool w, .int .i64 c])], 1, 70⟩ => some (i, m, n, a, b, ⟨l, w, c⟩)
  | _ => none
theorem dec5a_spec (st : St) (p : Int × Int × A5) (h : dec5a st = some p) : st = enc5a p := by
  unfold dec5a at h; split at h <;> cases h; rfl
def f5a (_ : Int) (x : A5) : A5 := (x.1, x.2.1, x.2.2.1, spendF x.2.2.2)
def fin5a (x : A5) : St := ⟨[(0, .s (i64 x.1)), (1, .s (i64 x.2.1)), (2, .s (i64 x.2.2.1)), (7, .s (.c (.ptr 0 0)))], [some (.cells (encF x.2.2.2))], 1, 70⟩
@[reducible] def B5 := Int × Int × Int × Int × F
def enc5b (p : Int × Int × B5) : St := ⟨[(0, .s (i64 p.2.2.1)), (1, .s (i64 p.2.2.2.1)), (2, .s (i64 p.2.2.2.2.1)), (7, .s (.c (.ptr 0 0))), (8, .s (i64 p.2.2.2.2.2.1)), (43, .s (i64 p.2.1)), (44, .s (i64 p.1))], [some (.cells (encF p.2.2.2.2.2.2))], 1, 70⟩
def dec5b : St → Option (Int × Int × B5)
  | ⟨[(0, .s (.c (.int .i64 n))), (1, .s (.c (.int .i64 a))), (2, .s (.c (.int .i64 b))), (7, .s (.c (.ptr 0 0))), (8, .s (.c (.int .i64 g))), (43, .s (.c (.int .i64 m))), (44, .s (.c (.int .i64 i)))], [some (.cells [.int .i64 l, .bool w, .int .i64 c])], 1, 70⟩ => some (i, m, n, a, b, g, ⟨l, w, c⟩)
  | _ => none
theorem dec5b_spec (st : St) (p : Int × Int × B5) (h : dec5b st = some p) : st = enc5b p := by
  unfold dec5b at h; split at h <;> cases h; rfl
def f5b (_ : Int) (x : B5) : B5 := (x.1, x.2.1, x.2.2.1, bif spendB x.2.2.2.2 then IntKind.i64.wrap (x.2.2.2.1 + 1) else x.2.2.2.1, spendF x.2.2.2.2)
def fin5b (x : B5) : St := ⟨[(0, .s (i64 x.1)), (1, .s (i64 x.2.1)), (2, .s (i64 x.2.2.1)), (7, .s (.c (.ptr 0 0))), (8, .s (i64 x.2.2.2.1))], [some (.cells (encF x.2.2.2.2))], 1, 70⟩
@[reducible] def L5 : List (Nat × LoopSum) := [(0, formSum dec5a (countSum (fun _ _ => true) f5a fin5a (.exit 0))), (2, formSum dec5b (countSum (fun _ _ => true) f5b fin5b (.exit 2)))]
theorem round5a {R : Type} (i m n a b : Int) (s : F) (K : Ex → St → Option R) : roundK Try.prog sLaw L5 10 0 (resMask Try.f5.results.toList) (lpAt Try.f5 0) (enc5a (i, m, n, a, b, s)) K =
    bif decide (i < m) then K .normal (enc5a (IntKind.i64.wrap (i + 1), m, n, a, b, spendF s)) else K (.exit 0) (fin5a (n, a, b, s)) := by kernel_rfl
theorem round5b {R : Type} (i m n a b g : Int) (s : F) (K : Ex → St → Option R) : roundK Try.prog sLaw L5 10 0 (resMask Try.f5.results.toList) (lpAt Try.f5 1) (enc5b (i, m, n, a, b, g, s)) K =
    bif decide (i < m) then (bif spendB s then K .normal (enc5b (IntKind.i64.wrap (i + 1), m, n, a, b, IntKind.i64.wrap (g + 1), spendF s)) else K .normal (enc5b (IntKind.i64.wrap (i + 1), m, n, a, b, g, spendF s))) else K (.exit 2) (fin5b (n, a, b, g, s)) := by kernel_rfl
theorem ok5a : LoopOk Try.prog sLaw L5 10 0 (resMask Try.f5.results.toList) (lpAt Try.f5 0) (formSum dec5a (countSum (fun _ _ => true) f5a fin5a (.exit 0))) := by
  refine LoopOk.count dec5a_spec (by simp) ?_ ?_
  · rintro R i m ⟨n, a, b, s⟩ K hi _
    rw [round5a]; simp [hi, f5a]
  · rintro R i m ⟨n, a, b, s⟩ K hi
    rw [round5a]; simp [hi]
theorem ok5b : LoopOk Try.prog sLaw L5 10 0 (resMask Try.f5.results.toList) (lpAt Try.f5 1) (formSum dec5b (countSum (fun _ _ => true) f5b fin5b (.exit 2))) := by
  refine LoopOk.count dec5b_spec (by simp) ?_ ?_
  · rintro R i m ⟨n, a, b, g, s⟩ K hi _
    rw [round5b]; cases h : spendB s <;> simp [hi, f5b, h]
  · rintro R i m ⟨n, a, b, g, s⟩ K hi
    rw [round5b]; simp [hi]
theorem loops5 : LoopsOk Try.prog sLaw L5 10 0 (resMask Try.f5.results.toList) (loopsOf (resMask Try.f5.results.toList) (bodyOf Try.f5) [] (resMask Try.f5.results.toList)) :=
  loopsOk_ix 2 (by kernel_rfl) ⟨⟨trivial, loopOk_here (n := 0) (by kernel_rfl) rfl ok5a⟩, loopOk_here (n := 2) (by kernel_rfl) rfl ok5b⟩
def s0 (n : Int) : F := armF ⟨-1, false, 0⟩ n
def end5a (n a b : Int) : A5 := iterN f5a (a - 0).toNat 0 (n, a, b, s0 n)
def end5b (n a b : Int) : B5 := iterN f5b (IntKind.i64.wrap (foldMax (end5a n a b).2.2.1 [0] + 3) - 0).toNat 0 ((end5a n a b).1, (end5a n a b).2.1, (end5a n a b).2.2.1, 0, armF (end5a n a b).2.2.2 (end5a n a b).2.2.1)
theorem t_FuseAnew (n a b : Int) : runFnL Try.prog sLaw L5 10 Try.f5 (bodyOf Try.f5) [i64 n, i64 a, i64 b] [] lawK =
    bif decide (a < 0) then some () else bif decide (a > 300) then some () else bif decide (b > 300) then some () else
    bif decide (0 ≤ (0 : Int) ∧ a ≤ 4611686018427387904) && okN (fun _ _ => true) f5a (a - 0).toNat 0 (n, a, b, s0 n) then
      bif decide (0 ≤ (0 : Int) ∧ IntKind.i64.wrap (foldMax (end5a n a b).2.2.1 [0] + 3) ≤ 4611686018427387904) && okN (fun _ _ => true) f5b (IntKind.i64.wrap (foldMax (end5a n a b).2.2.1 [0] + 3) - 0).toNat 0 ((end5a n a b).1, (end5a n a b).2.1, (end5a n a b).2.2.1, 0, armF (end5a n a b).2.2.2 (end5a n a b).2.2.1) then
        bif (end5b n a b).2.2.2.1 == foldMax (end5b n a b).2.2.1 [0] then
          bif (end5b n a b).2.2.2.2.blown then
            bif (end5b n a b).2.2.2.2.count == IntKind.i64.wrap (foldMin (end5b n a b).2.1 [foldMax (end5b n a b).1 [0]] + (end5b n a b).2.2.2.1) then some () else none
          else none
        else none
      else none
    else none := by kernel_rfl
theorem fm (a b : Int) : foldMax a [b] = if b > a then b else a := rfl
theorem fn (a b : Int) : foldMin a [b] = if b < a then b else a := rfl
theorem bnd {a : Int} (h : (Lit.int .i64 a).wf = true) : -9223372036854775808 ≤ a ∧ a ≤ 9223372036854775807 := by
  simp [Lit.wf, IntKind.min, IntKind.max, IntKind.signed, IntKind.bits] at h
  omega
theorem end5a_eq {n a b : Int} (hn : n ≤ 9223372036854775807) (ha : 0 ≤ a ∧ a ≤ 300) : ∃ s, end5a n a b = (n, a, b, s) ∧ s.count = min a (foldMax n [0]) := by
  have hL : 0 ≤ foldMax n [0] ∧ foldMax n [0] ≤ 9223372036854775807 := by rw [fm]; split <;> omega
  generalize hLe : foldMax n [0] = L at *
  have := okN_inv (ok := fun _ _ => true) (f := f5a) (m := a) (fun i (x : A5) => x.1 = n ∧ x.2.1 = a ∧ x.2.2.1 = b ∧ 0 ≤ i ∧ x.2.2.2.count = min i L ∧ x.2.2.2.left = L - min i L ∧ (x.2.2.2.blown = true → L < i)) ?_ (a - 0).toNat 0 (n, a, b, s0 n) (by omega) ?_
  · obtain ⟨_, h1, h2, h3, _, h4, _⟩ := this
    refine ⟨(end5a n a b).2.2.2, ?_, ?_⟩
    · unfold end5a
      exact Prod.ext h1 (Prod.ext h2 (Prod.ext h3 rfl))
    · unfold end5a; rw [h4]; congr 1; omega
  · rintro i ⟨n', a', b', l, w, c⟩ hi ⟨h1, h2, h3, h4, h5, h6, h7⟩
    refine ⟨rfl, h1, h2, h3, by omega, ?_⟩
    simp only at h5 h6 h7
    simp only [f5a]
    by_cases hw : w = true ∨ l = 0
    · rw [(spend_out hw).2]
      simp only
      have : L ≤ i := by
        rcases hw with hw | hw
        · have := h7 hw; omega
        · omega
      refine ⟨by omega, by omega, fun _ => by omega⟩
    · have hw' : w = false := by cases w <;> simp_all
      subst hw'
      have hl : 0 < l := by omega
      rw [(spend_in hl (by omega) (by omega)).2]
      simp only
      refine ⟨by omega, by omega, by simp⟩
  · simp only [s0, armF, hLe]
    refine ⟨trivial, trivial, trivial, by omega, by omega, by omega, by simp⟩
theorem end5b_eq {n a b : Int} (hn : n ≤ 9223372036854775807) (ha : 0 ≤ a ∧ a ≤ 300) (hb : b ≤ 300) : ∃ s, end5b n a b = (n, a, b, foldMax b [0], s) ∧ s.count = min a (foldMax n [0]) + foldMax b [0] ∧ s.blown = true := by
  obtain ⟨s, h0, hs⟩ := end5a_eq (b := b) hn ha
  have hL : 0 ≤ foldMax n [0] := by rw [fm]; split <;> omega
  have hB : 0 ≤ foldMax b [0] ∧ foldMax b [0] ≤ 300 := by rw [fm]; split <;> omega
  unfold end5b
  rw [h0]
  simp only
  generalize hLe : foldMax n [0] = L at *
  generalize hBe : foldMax b [0] = B at *
  rw [wi (x := B + 3) (by omega)]
  have := okN_inv (ok := fun _ _ => true) (f := f5b) (m := B + 3) (fun i (x : B5) => x.1 = n ∧ x.2.1 = a ∧ x.2.2.1 = b ∧ 0 ≤ i ∧ x.2.2.2.1 = min i B ∧ x.2.2.2.2.count = min a L + min i B ∧ x.2.2.2.2.left = B - min i B ∧ (x.2.2.2.2.blown = true ↔ B < i)) ?_ (B + 3 - 0).toNat 0 (n, a, b, 0, armF s b) (by omega) ?_
  · obtain ⟨_, h1, h2, h3, _, h4, h5, _, h6⟩ := this
    generalize iterN f5b (B + 3 - 0).toNat 0 (n, a, b, 0, armF s b) = x at *
    obtain ⟨n', a', b', g', s'⟩ := x
    simp only at h1 h2 h3 h4 h5 h6
    subst h1 h2 h3
    refine ⟨s', ?_, by omega, h6.2 (by omega)⟩
    rw [h4]
    congr 4
    omega
  · rintro i ⟨n', a', b', g, l, w, c⟩ hi ⟨h1, h2, h3, h4, h5, h6, h7, h8⟩
    refine ⟨rfl, h1, h2, h3, by omega, ?_⟩
    simp only at h5 h6 h7 h8
    simp only [f5b]
    by_cases hw : w = true ∨ l = 0
    · rw [(spend_out hw).1, (spend_out hw).2]
      simp only [cond_false]
      have : B ≤ i := by
        rcases hw with hw | hw
        · have := h8.1 hw; omega
        · omega
      refine ⟨by omega, by omega, by omega, ?_⟩
      constructor
      · intro _; omega
      · intro _; trivial
    · have hw' : w = false := by cases w <;> simp_all
      subst hw'
      have hl : 0 < l := by
        have : ¬ B < i := by simpa using h8
        omega
      rw [(spend_in hl (by omega) (by omega)).1, (spend_in hl (by omega) (by omega)).2]
      simp only [cond_true]
      rw [wi (x := g + 1) (by omega)]
      refine ⟨by omega, by omega, by omega, ?_⟩
      constructor
      · intro h; cases h
      · intro _; omega
  · simp only [armF, hBe, hs]
    refine ⟨trivial, trivial, trivial, by omega, by omega, by omega, by omega, ?_⟩
    constructor
    · intro h; cases h
    · intro _; omega
theorem FuseAnew (n a b : Int) (wn : (Lit.int .i64 n).wf = true) (_ : (Lit.int .i64 a).wf = true) (_ : (Lit.int .i64 b).wf = true) (w : World) :
    Calls Try.prog 5 #[.int .i64 n, .int .i64 a, .int .i64 b] w fun e w' => e = .returned (.bool true) ∧ RowKit.Below w.heap.size w w' := by
  refine law_callsL okLaw mixed Try.func5 (c := bodyOf Try.f5) (by kernel_rfl) lawK_spec (fuel := 10) (args := [i64 n, i64 a, i64 b]) (hp0 := []) (X := fun _ _ => False) (ρ := fun _ => none) (vs := [.int .i64 n, .int .i64 a, .int .i64 b]) loops5 ?_ ⟨rfl, rfl, rfl, trivial⟩ (by intro b sb h; simp at h) (fun _ _ => rfl)
  rw [t_FuseAnew]
  by_cases c1 : a < 0
  · simp [c1]
  · by_cases c2 : a > 300
    · simp [c2]
    · by_cases c3 : b > 300
      · simp [c3]
      · have hb := bnd wn
        obtain ⟨s, h0, hs⟩ := end5a_eq (n := n) (b := b) hb.2 (show 0 ≤ a ∧ a ≤ 300 by omega)
        obtain ⟨s', h1, hs', hbl⟩ := end5b_eq (n := n) (a := a) (b := b) hb.2 (by omega) (by omega)
        have hL : 0 ≤ foldMax n [0] := by rw [fm]; split <;> omega
        have hB : 0 ≤ foldMax b [0] ∧ foldMax b [0] ≤ 300 := by rw [fm]; split <;> omega
        rw [h0, h1, okN_true, okN_true]
        simp only
        rw [hs', hbl, wi (x := foldMax b [0] + 3) (by omega), fn]
        have e1 : (if foldMax n [0] < a then foldMax n [0] else a) = min a (foldMax n [0]) := by split <;> omega
        rw [e1, wi (by omega), decide_eq_false c1, decide_eq_false c2, decide_eq_false c3, decide_eq_true (show 0 ≤ (0 : Int) ∧ a ≤ 4611686018427387904 by omega), decide_eq_true (show 0 ≤ (0 : Int) ∧ foldMax b [0] + 3 ≤ 4611686018427387904 by omega)]
        simp only [cond_true, cond_false, Bool.and_self, beq_self_eq_true]
end Go.Proofs.Ytnecfmoccnifcaa.FuseLaw2

/- A disk: its form, and what its small functions come to. No condition. -/
import Derived.Test.YtkkacjmjjhjpeaaDk
set_option maxRecDepth 100000
set_option linter.unusedSimpArgs false
set_option linter.unusedVariables false
namespace Go.Proofs.Ytkkacjmjjhjpeaa.Dk
open Go Go.Proofs.Ytkkacjmjjhjpeaa.Sx
/-- A string of one byte. -/
noncomputable def oneB (b : Int) : ByteArray := strOfNums [b]
noncomputable def capN (n : Int) : Int := foldMin (foldMax n [0]) [2000]
noncomputable def fillV (b n : Int) : ByteArray := repB (oneB b) (capN n).toNat
theorem oneB_size (b : Int) : (oneB b).size = 1 := rfl
theorem capN_spec (n : Int) : 0 ≤ capN n ∧ capN n ≤ 2000 ∧ (0 ≤ n → n ≤ 2000 → capN n = n) := by
  unfold capN foldMin foldMax foldMax foldMin
  split <;> split <;> refine ⟨?_, ?_, ?_⟩ <;> intros <;> omega
theorem t_fill {R : Type} (b n : Int) (K : TV → List (Option SB) → Option R) : runFn Try.prog SR 20 Try.f12 (bodyOf Try.f12) [.c (.int .u8 b), i64 n] [] K =
    bif decide (0 ≤ capN n) && (decide (capN n ≤ 4096) && decide ((oneB b).size ≤ 4096)) then K (.s (stv (fillV b n))) [] else none := by kernel_rfl
noncomputable def g_fill : List SV → Option TV
  | [.c (.int .u8 b), .c (.int .i64 n)] => some (.s (stv (fillV b n)))
  | _ => none
theorem ok_fill : SumOk Try.prog 12 (valSum g_fill) := by
  refine sumOk_val okSR mixed Try.func12 (c := bodyOf Try.f12) (by kernel_rfl) (by kernel_rfl) ?_
  intro args tv h
  unfold g_fill at h
  split at h
  · cases h
    rename_i b n
    refine ⟨fun _ => rfl, fun _ => rfl, 20, (t_fill ..).trans ?_⟩
    have := capN_spec n
    rw [decide_eq_true this.1, decide_eq_true (by omega : capN n ≤ 4096), oneB_size]
    rfl
  · cases h
/-! ### The form -/
structure D where
  size : Int
  n : Nat
  S : Nat → ByteArray
  k : Nat
  W : Nat → Int × ByteArray
  fu : F
@[reducible] def encS (b : ByteArray) : List CV := [.str b]
@[reducible] def encW (w : Int × ByteArray) : List CV := [.int .i64 w.1, .str w.2]
def decS : List CV → ByteArray
  | [.str b] => b
  | _ => ByteArray.empty
def decW : List CV → Int × ByteArray
  | [.int .i64 a, .str b] => (a, b)
  | _ => (0, ByteArray.empty)
@[reducible] def vS (n : Nat) (S : Nat → ByteArray) : SB := .vec 1 [] (.gen n fun j => encS (S j))
@[reducible] def vW (k : Nat) (W : Nat → Int × ByteArray) : SB := .vec 2 [] (.gen k fun j => encW (W j))
@[reducible] def cF (f : F) : SB := .cells [.int .i64 f.left, .bool f.blown, .int .i64 f.count]
@[reducible] def cD (d : D) : SB := .cells [.int .i64 d.size, .slc 2 0 d.n, .slc 3 0 d.k, .ptr 1 0]
@[reducible] def cDn (d : D) : SB := .cells [.int .i64 d.size, .slc 2 0 d.n, .nils, .ptr 1 0]
@[reducible] def hpD (d : D) : List SB := [cD d, cF d.fu, vS d.n d.S, vW d.k d.W]
/-- A disk as what comes of a call: with its writes, or none. -/
@[reducible] def oD (tv : TV) (d : D) : Cs := .out ⟨true, tv, [some (cD d), some (cF d.fu)], [vS d.n d.S, vW d.k d.W]⟩
@[reducible] def oDn (tv : TV) (d : D) : Cs := .out ⟨true, tv, [some (cDn d), some (cF d.fu)], [vS d.n d.S]⟩
def decD : List SB → Option (Nat × Nat × D × (Nat → List CV) × (Nat → List CV))
  | [.cells [.int .i64 z, .slc 2 0 n', .slc 3 0 k', .ptr 1 0], .cells [.int .i64 l, .bool b, .int .i64 c], .vec 1 [] (.gen n gS), .vec 2 [] (.gen k gW)] => some (n', k', ⟨z, n, fun j => decS (gS j), k, fun j => decW (gW j), ⟨l, b, c⟩⟩, gS, gW)
  | _ => none
noncomputable def okD (n' k' : Nat) (d : D) (gS gW : Nat → List CV) : Bool := Nat.beq n' d.n && (Nat.beq k' d.k && (chkRo encS decS gS && chkRo encW decW gW))
theorem decD_spec {hp : List SB} {n' k' : Nat} {d : D} {gS gW : Nat → List CV} (h : decD hp = some (n', k', d, gS, gW)) (hc : okD n' k' d gS gW = true) : hp = hpD d := by
  unfold okD at hc
  simp only [Bool.and_eq_true] at hc
  obtain ⟨h1', h2', h3', h4'⟩ := hc
  have h1 := Nat.eq_of_beq_eq_true h1'
  have h2 := Nat.eq_of_beq_eq_true h2'
  have h3 := chkRo_spec h3'
  have h4 := chkRo_spec h4'
  clear h1' h2' h3' h4'
  unfold decD at h
  split at h
  · cases h
    simp only at h1 h2
    subst h1 h2
    show _ = [SB.cells _, SB.cells _, SB.vec 1 [] (.gen _ fun j => encS (decS (gS j))), SB.vec 2 [] (.gen _ fun j => encW (decW (gW j)))]
    rw [← h3, ← h4]
  · cases h
theorem okD_self (d : D) : okD d.n d.k d (fun j => encS (d.S j)) (fun j => encW (d.W j)) = true := by
  unfold okD
  rw [Nat.beq_refl, Nat.beq_refl, chkRo_true (dec := decS) (enc := encS) (fun _ => rfl), chkRo_true (dec := decW) (enc := encW) (fun _ => rfl)]; rfl
/-- A summary of a function of a disk. -/
@[reducible] noncomputable def gD (V : List SV → D → Cs) : List SV → List SB → Cs := fun args hp => match decD hp with
  | some (n', k', d, gS, gW) => .br (okD n' k' d gS gW) (V args d) .no
  | none => .no
theorem okN {Su : Sums} (hS : SumsOk Try.prog Su) {f : FuncId} {fn : Func} {c : Code} (hf : Try.prog.funcs[f]? = some fn) (hb : fn.body = some c) (hname : (fn.name == "runtime.NumGoroutine") = false) {V : List SV → D → Cs}
    (h : ∀ args d x, (V args d).pick = some x → x.hp.length = 2 ∧ ∃ L fuel, LoopsOk Try.prog Su L fuel 2 (resMask fn.results.toList) (loopsOf (resMask fn.results.toList) c [] (resMask fn.results.toList)) ∧ runFnN Try.prog Su L fuel 2 fn c args (hpD d) (fun tv hp => some (tv, hp)) = some (x.tv, x.hp ++ x.nw.map some)) : SumOk Try.prog f (genSumN (gD V)) := by
  refine sumOk_genN hS mixed hf hb hname ?_
  intro args hp x hx
  unfold gD at hx ⊢
  cases hd : decD hp with
  | none => rw [hd] at hx; cases hx
  | some p =>
    obtain ⟨n', k', d, gS, gW⟩ := p
    rw [hd] at hx
    simp only [Cs.pick] at hx ⊢
    cases hc : okD n' k' d gS gW with
    | false => rw [hc] at hx; cases hx
    | true =>
      rw [hc] at hx
      simp only [cond_true] at hx
      obtain ⟨h1, L, fuel, h2, h3⟩ := h args d x hx
      rw [decD_spec hd hc]
      refine ⟨L, fuel, by rw [h1]; exact h2, ?_⟩
      rw [h1, h3]
      show _ = cond true ((V args d).run _) _
      rw [cond_true, Cs.run_pick hx]
end Go.Proofs.Ytkkacjmjjhjpeaa.Dk

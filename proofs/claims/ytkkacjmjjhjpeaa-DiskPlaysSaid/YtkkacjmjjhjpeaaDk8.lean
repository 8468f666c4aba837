/- A disk stays good; awake. No condition. -/
import Derived.Test.YtkkacjmjjhjpeaaDk7
set_option maxRecDepth 100000
set_option linter.unusedSimpArgs false
set_option linter.unusedVariables false
namespace Go.Proofs.Ytkkacjmjjhjpeaa.Dk
open Go Go.Proofs.Ytkkacjmjjhjpeaa.Sx
theorem repB_size (s : ByteArray) (c : Nat) : (repB s c).size = c * s.size := by
  show (Lib.repeatL s.data.toList c).toArray.size = _
  rw [List.size_toArray, Lib.repeatL_length]
  rfl
theorem Good.new (z n : Int) (f : F) : Good (newV z n f) := by
  have hz := zc_spec z
  have hn := nc_spec n
  refine ⟨hz, ?_, fun j hj => ?_, fun j hj => absurd hj (by show ¬ j < 0; omega), by show 0 ≤ _; omega⟩
  · show 4 ≤ (nc n).toNat ∧ (nc n).toNat ≤ 1024
    omega
  · have hj : j < (nc n).toNat := hj
    show ((cond (Nat.blt j (nc n).toNat) (zeros (zc z)) ⟨#[]⟩ : ByteArray).size : Int) = zc z
    rw [show Nat.blt j (nc n).toNat = true by rw [Nat.blt_eq]; exact hj, cond_true]
    unfold zeros
    rw [repB_size]
    show (((zc z).toNat * 1 : Nat) : Int) = zc z
    omega
theorem Good.fu {d : D} (h : Good d) (f : F) : Good (wF d f) := ⟨h.size, h.n, h.S, h.W, h.k⟩
theorem isV_spec {d : D} {i : Int} : isV d i = true ↔ 0 ≤ i ∧ i < d.n := by
  unfold isV
  by_cases hi : 0 ≤ i
  · rw [decide_eq_true (show i ≥ 0 from hi), cond_true, decide_eq_true_eq]; simp [hi]
  · rw [decide_eq_false (show ¬ i ≥ 0 from hi), cond_false]; simp [hi]
theorem Good.add {d : D} (h : Good d) {i : Int} {b : ByteArray} (hi : 0 ≤ i ∧ i < d.n) (hb : (b.size : Int) = d.size) (hk : d.k + 1 ≤ 4294967296) : Good (addW d (i, b)) := by
  refine ⟨h.size, h.n, h.S, fun j hj => ?_, hk⟩
  have hj : j < d.k + 1 := hj
  show (0 ≤ (pushW d.W d.k (i, b) j).1 ∧ (pushW d.W d.k (i, b) j).1 < _) ∧ ((pushW d.W d.k (i, b) j).2.size : Int) = _
  by_cases he : j = d.k
  · subst he
    rw [pushW_at]
    exact ⟨hi, hb⟩
  · rw [pushW_lt _ (by omega)]
    exact h.W j (by omega)
theorem writeV_cases (d : D) (i : Int) (b : ByteArray) : (writeV d i b = (1, d) ∧ ¬ ((0 ≤ i ∧ i < d.n) ∧ (b.size : Int) = d.size)) ∨ ((0 ≤ i ∧ i < d.n) ∧ (b.size : Int) = d.size ∧ (((spendV d.fu).1 = false ∧ writeV d i b = (2, wF d (spendV d.fu).2)) ∨ ((spendV d.fu).1 = true ∧ writeV d i b = (0, addW (wF d (spendV d.fu).2) (i, b))))) := by
  unfold writeV
  cases hi : isV d i with
  | false =>
    refine .inl ⟨rfl, fun h => ?_⟩
    rw [isV_spec.2 h.1] at hi
    cases hi
  | true =>
    have hi := isV_spec.1 hi
    cases hb : (b.size : Int) != d.size with
    | true =>
      refine .inl ⟨rfl, fun h => ?_⟩
      rw [h.2] at hb
      simp at hb
    | false =>
      have hb : (b.size : Int) = d.size := by simpa using hb
      refine .inr ⟨hi, hb, ?_⟩
      cases hs : (spendV d.fu).1 with
      | false => exact .inl ⟨rfl, rfl⟩
      | true => exact .inr ⟨rfl, rfl⟩
theorem Good.write {d : D} (h : Good d) (i : Int) (b : ByteArray) (hk : d.k + 1 ≤ 4294967296) : Good (writeV d i b).2 := by
  rcases writeV_cases d i b with ⟨e, _⟩ | ⟨hi, hb, ⟨_, e⟩ | ⟨_, e⟩⟩
  · rw [e]; exact h
  · rw [e]; exact h.fu _
  · rw [e]
    exact Good.add (d := wF d (spendV d.fu).2) (h.fu _) hi hb hk
theorem writeV_k (d : D) (i : Int) (b : ByteArray) : (writeV d i b).2.k ≤ d.k + 1 := by
  rcases writeV_cases d i b with ⟨e, _⟩ | ⟨_, _, ⟨_, e⟩ | ⟨_, e⟩⟩ <;> rw [e]
  · exact Nat.le_succ _
  · exact Nat.le_succ _
  · exact Nat.le_refl _
theorem Good.flush {d : D} (h : Good d) : Good (flushV d).2 := by
  unfold flushV
  cases (spendV d.fu).1 with
  | false => exact h.fu _
  | true => exact ⟨h.size, h.n, lastF_size h.S fun j _ hj => (h.W j (by omega)).2, fun j hj => absurd hj (by show ¬ j < 0; omega), by show 0 ≤ _; omega⟩
theorem tornS_size {d : D} (hd : Good d) (torn : Int) {m : Nat} {L : Nat → Int × ByteArray} (hL : ∀ j, j < m → (0 ≤ (L j).1 ∧ (L j).1 < d.n) ∧ ((L j).2.size : Int) = d.size) : ∀ j, j < d.n → ((tornS d torn m L j).size : Int) = d.size := by
  intro j hj
  unfold tornS
  cases m with
  | zero => exact hd.S j hj
  | succ m =>
    have hz := hd.size
    obtain ⟨hc1, hc2⟩ := cutV_spec torn (d := d) (by omega)
    obtain ⟨⟨h1, h2⟩, h3⟩ := hL m (by omega)
    have hs : ∀ j, j < d.n → ((lastF L m 0 d.S j).size : Int) = d.size := lastF_size hd.S (fun j _ hj => (hL j (by omega)).2)
    show ((setS (lastF L m 0 d.S) (L m).1.toNat ((L m).2.extract 0 (cutV d torn).toNat ++ (lastF L m 0 d.S (L m).1.toNat).extract (cutV d torn).toNat (lastF L m 0 d.S (L m).1.toNat).size) j).size : Int) = _
    by_cases he : j = (L m).1.toNat
    · subst he
      have := hs _ hj
      rw [setS_at, ByteArray.size_append, ByteArray.size_extract, ByteArray.size_extract]
      omega
    · rw [setS_ne _ _ he]
      exact hs j hj
theorem Good.crash {d : D} (h : Good d) (keep torn : Int) : Good (crashV d keep torn) :=
  ⟨h.size, h.n, tornS_size h torn (kept_ok h keep).2, fun j hj => absurd hj (by show ¬ j < 0; omega), by show 0 ≤ _; omega⟩
/-! ### awake -/
def chain {R : Type} : List Bool → Option R → Option R
  | [], x => x
  | c :: r, x => bif c then chain r x else none
theorem chain_true {R : Type} : ∀ {l : List Bool} {x : Option R}, (∀ c ∈ l, c = true) → chain l x = x
  | [], _, _ => rfl
  | c :: r, x, h => by
    have h1 := h c (by simp)
    subst h1
    exact chain_true (l := r) fun c hc => h c (by simp [hc])
@[reducible] noncomputable def okDs (d : D) : Bool := okD d.n d.k d (fun j => encS (d.S j)) (fun j => encW (d.W j))
@[reducible] noncomputable def preD (d : D) : Bool := preW d.W d.k d.n
@[reducible] noncomputable def SA : Sums := (8, genSum g_fnew) :: (10, genSumN g_new) :: (11, genSumN (gD V_write)) :: (15, genSumN (gD V_read)) :: (14, genSumN (gD V_crash)) :: (16, genSumN (gD (V_num fun d => d.k))) :: (20, genSumN (gD (V_num fun d => d.size))) :: (21, genSumN (gD (V_num fun d => d.n))) :: (28, libSum g_rep) :: S0
theorem okSA : SumsOk Try.prog SA := ((((((((okS0.cons ok_rep).cons ok_len).cons ok_size).cons ok_open).cons ok_crash).cons ok_read).cons ok_write).cons ok_new).cons ok_fnew
@[reducible] noncomputable def a0 : D := newV 128 4 ⟨-1, false, 0⟩
@[reducible] noncomputable def a1 : D := (writeV a0 0 (repB ⟨#[97]⟩ 128)).2
@[reducible] noncomputable def a2 : D := (writeV a1 1 (repB ⟨#[98]⟩ 128)).2
@[reducible] noncomputable def a3 : D := crashV a2 2 3
theorem t_awake {R : Type} (K : TV → List (Option SB) → Option R) : runFn Try.prog SA 10 Try.f9 (bodyOf Try.f9) [] [] K =
    chain [okDs a0, okDs a1, okDs a2, okDs a2, gB a2, okDs a3, preD a3, okDs a3, preD a3, okDs a3, preD a3, okDs a3, okDs a3, okDs a3] (K (.s (bl true)) []) := by kernel_rfl
theorem good_a2 : Good a2 := ((Good.new 128 4 _).write _ _ (by show 0 + 1 ≤ _; omega)).write _ _ (by
  have := writeV_k a0 0 (repB ⟨#[97]⟩ 128)
  have e : a0.k = 0 := rfl
  show a1.k + 1 ≤ _
  have : a1.k ≤ a0.k + 1 := this
  omega)
noncomputable def g_awake : List SV → Option TV
  | [] => some (.s (bl true))
  | _ => none
theorem ok_awake : SumOk Try.prog 9 (valSum g_awake) := by
  refine sumOk_val okSA mixed Try.func9 (c := bodyOf Try.f9) (by kernel_rfl) (by kernel_rfl) ?_
  intro args tv h
  unfold g_awake at h
  split at h
  · cases h
    refine ⟨fun _ => rfl, fun _ => rfl, 10, (t_awake ..).trans (chain_true ?_)⟩
    have h3 : preD a3 = true := (good_a2.crash 2 3).preW
    have h2 : gB a2 = true := gB_spec.2 good_a2
    intro c hc
    simp only [List.mem_cons, List.not_mem_nil, or_false] at hc
    rcases hc with rfl | rfl | rfl | rfl | rfl | rfl | rfl | rfl | rfl | rfl | rfl | rfl | rfl | rfl
    all_goals first | exact okD_self _ | exact h2 | exact h3
  · cases h
end Go.Proofs.Ytkkacjmjjhjpeaa.Dk

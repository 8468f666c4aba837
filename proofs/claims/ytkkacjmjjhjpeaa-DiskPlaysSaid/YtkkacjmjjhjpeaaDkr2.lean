/- The reference's disk: Set, Write, Flush, Read. No condition. -/
import Derived.Test.YtkkacjmjjhjpeaaDkr
set_option maxRecDepth 100000
set_option linter.unusedSimpArgs false
set_option linter.unusedVariables false
namespace Go.Proofs.Ytkkacjmjjhjpeaa.Dk
open Go Go.Proofs.Ytkkacjmjjhjpeaa.Sx
/-! ### Set -/
noncomputable def g_set : List SV → List SB → Cs
  | [.c (.slc 0 0 q), .c (.int .i64 i), .c (.str b)], [.vec 1 [] (.gen n gL)] => .br (Nat.beq q n && (chkRo encS decS gL && (decide (n ≤ 4294967296) && (decide (0 ≤ i) && decide (i < n))))) (.out ⟨true, .s (.c (.slc 1 0 n)), [some (vS n fun j => decS (gL j))], [vS n (setS (fun j => decS (gL j)) i.toNat b)]⟩) .no
  | _, _ => .no
theorem t_set {R : Type} (n : Nat) (L : Nat → ByteArray) (i : Int) (b : ByteArray) (K : TV → List (Option SB) → Option R) : runFn Try.prog S0 10 Try.f35 (bodyOf Try.f35) [.c (.slc 0 0 n), i64 i, stv b] [vS n L] K =
    chain [decide (addI 0 n ≤ n), decide (addI 0 n ≤ 4294967296), decide (0 ≤ i) && decide (i < ((addI 0 n : Nat) : Int)), decide (addI 0 i.toNat < addI 0 n)] (K (.s (.c (.slc 1 0 (addI 0 n)))) [some (vS n L), some (.vec 1 [] (.gen (addI 0 n) (setG (fun j => encS (L j)) (addI 0 i.toNat) 0 (SV.c (CV.str b)).cells)))]) := by kernel_rfl
theorem chain_step' {R : Type} {c : Bool} {r : List Bool} {x y : Option R} (h : c = true) (h2 : chain r x = y) : chain (c :: r) x = y := by subst h; exact h2
theorem ok_set : SumOk Try.prog 35 (genSumT g_set) := by
  refine sumOk_genT (sumOk_genL okS0 mixed Try.func35 (c := bodyOf Try.f35) (by kernel_rfl) (by kernel_rfl) ?_)
  intro args hp x h hq1 hq2
  clear hq1 hq2
  unfold g_set at h
  split at h
  · rename_i q i b n gL
    simp only [Cs.pick] at h
    cases hc : Nat.beq q n && (chkRo encS decS gL && (decide (n ≤ 4294967296) && (decide (0 ≤ i) && decide (i < n)))) with
    | false => rw [hc] at h; cases h
    | true =>
      rw [hc] at h
      cases h
      simp only [Bool.and_eq_true, decide_eq_true_eq] at hc
      obtain ⟨h1, h2, h3, h4, h5⟩ := hc
      have h1 := Nat.eq_of_beq_eq_true h1
      subst h1
      refine ⟨[], 10, LoopsOk.nil, ?_⟩
      have e := chkRo_spec h2
      have := t_set q (fun j => decS (gL j)) i b fun tv hp => some (tv, hp)
      rw [show (vS q fun j => decS (gL j)) = SB.vec 1 [] (.gen q gL) by show SB.vec 1 [] (.gen q fun j => encS (decS (gL j))) = _; rw [← e]] at this
      refine this.trans ?_
      rw [ai0, ai0, setG_encS]
      refine chain_step' (decide_eq_true (Nat.le_refl q)) (chain_step' (decide_eq_true h3) (chain_step' (and2 (decide_eq_true h4) (decide_eq_true h5)) (chain_step' (decide_eq_true (by omega)) ?_)))
      show some _ = some (_, [some (vS q fun j => decS (gL j))] ++ _)
      rw [show (vS q fun j => decS (gL j)) = SB.vec 1 [] (.gen q gL) by show SB.vec 1 [] (.gen q fun j => encS (decS (gL j))) = _; rw [← e]]
      rfl
  · cases h
@[reducible] noncomputable def SM : Sums := (35, genSumT g_set) :: (34, ptrVal encRF decRF g_mspend) :: (36, ptrVal encRF decRF g_mreset) :: (33, valSum g_clamp) :: S0
theorem okSM : SumsOk Try.prog SM := (((okS0.cons ok_clamp).cons ok_mreset).cons ok_mspend).cons ok_set
/-! ### One more -/
def pushG {α : Type} (z : α) (W : Nat → α) (x : α) : Nat → Nat → α
  | 0 => fun j => [x].getD j z
  | k + 1 => fun j => cond (Nat.blt j (k + 1)) (W j) ([x].getD (j - (k + 1)) z)
theorem pushG_lt {α : Type} {z : α} {W : Nat → α} {x : α} {k j : Nat} (h : j < k) : pushG z W x k j = W j := by
  cases k with
  | zero => omega
  | succ k =>
    show cond (Nat.blt j (k + 1)) _ _ = _
    rw [show Nat.blt j (k + 1) = true by rw [Nat.blt_eq]; exact h]; rfl
theorem pushG_at {α : Type} {z : α} {W : Nat → α} {x : α} {k : Nat} : pushG z W x k k = x := by
  cases k with
  | zero => rfl
  | succ k =>
    show cond (Nat.blt (k + 1) (k + 1)) _ ([x].getD (k + 1 - (k + 1)) z) = _
    rw [show Nat.blt (k + 1) (k + 1) = false by rw [Bool.eq_false_iff]; simp [Nat.blt_eq], Nat.sub_self]; rfl
theorem catG_I (W : Nat → Int) (x : Int) (k : Nat) : catG (fun j => encI (W j)) (fun j => encI ([x].getD j 0)) k = fun j => encI (pushG 0 W x k j) := by
  cases k with
  | zero => rfl
  | succ k =>
    funext j
    show cond (Nat.blt j (k + 1)) (encI (W j)) (encI ([x].getD (j - (k + 1)) 0)) = encI (cond (Nat.blt j (k + 1)) (W j) ([x].getD (j - (k + 1)) 0))
    cases Nat.blt j (k + 1) <;> rfl
theorem catG_S (W : Nat → ByteArray) (x : ByteArray) (k : Nat) : catG (fun j => encS (W j)) (fun j => encS ([x].getD j ByteArray.empty)) k = fun j => encS (pushG ByteArray.empty W x k j) := by
  cases k with
  | zero => rfl
  | succ k =>
    funext j
    show cond (Nat.blt j (k + 1)) (encS (W j)) (encS ([x].getD (j - (k + 1)) ByteArray.empty)) = encS (cond (Nat.blt j (k + 1)) (W j) ([x].getD (j - (k + 1)) ByteArray.empty))
    cases Nat.blt j (k + 1) <;> rfl
/-! ### Read, Flush, Write -/
@[reducible] def withF (m : M) (f : RF) : M := ⟨m.size, m.n, m.L, m.Nw, m.k, m.Wi, m.Wt, f, m.sh⟩
@[reducible] def nowM (m : M) : Nat → ByteArray := bif m.sh then m.L else m.Nw
noncomputable def mreadV (m : M) (i : Int) : ByteArray × Int := bif decide (i < 0) then (⟨#[]⟩, 1) else bif decide (i ≥ (m.n : Int)) then (⟨#[]⟩, 1) else (nowM m i.toNat, 0)
noncomputable def V_mread : List SV → M → Cs
  | [.c (.ptr 0 0), .c (.int .i64 i)], m => oR (.tup [stv (mreadV m i).1, i64 (mreadV m i).2]) m
  | _, _ => .no
theorem t_mreadA {R : Type} (z : Int) (n : Nat) (L Nw : Nat → ByteArray) (k : Nat) (Wi : Nat → Int) (Wt : Nat → ByteArray) (f : RF) (i : Int) (K : TV → List (Option SB) → Option R) : runFnN Try.prog SM [] 10 2 Try.f27 (bodyOf Try.f27) [.c (.ptr 0 0), i64 i] (hpA ⟨z, n, L, Nw, k, Wi, Wt, f, false⟩) K =
    bif decide (i < 0) then K (.tup [stv ⟨#[]⟩, i64 1]) ((hpA ⟨z, n, L, Nw, k, Wi, Wt, f, false⟩).map some) else bif decide (i ≥ (n : Int)) then K (.tup [stv ⟨#[]⟩, i64 1]) ((hpA ⟨z, n, L, Nw, k, Wi, Wt, f, false⟩).map some) else
      chain [decide (0 ≤ i) && decide (i < (n : Int)), decide (addI 0 i.toNat < n)] (K (.tup [stv (Nw (addI 0 i.toNat)), i64 0]) ((hpA ⟨z, n, L, Nw, k, Wi, Wt, f, false⟩).map some)) := by kernel_rfl
theorem t_mreadH {R : Type} (z : Int) (n : Nat) (L Nw : Nat → ByteArray) (k : Nat) (Wi : Nat → Int) (Wt : Nat → ByteArray) (f : RF) (i : Int) (K : TV → List (Option SB) → Option R) : runFnN Try.prog SM [] 10 2 Try.f27 (bodyOf Try.f27) [.c (.ptr 0 0), i64 i] (hpH ⟨z, n, L, Nw, k, Wi, Wt, f, true⟩) K =
    bif decide (i < 0) then K (.tup [stv ⟨#[]⟩, i64 1]) ((hpH ⟨z, n, L, Nw, k, Wi, Wt, f, true⟩).map some) else bif decide (i ≥ (n : Int)) then K (.tup [stv ⟨#[]⟩, i64 1]) ((hpH ⟨z, n, L, Nw, k, Wi, Wt, f, true⟩).map some) else
      chain [decide (0 ≤ i) && decide (i < (n : Int)), decide (addI 0 i.toNat < n)] (K (.tup [stv (L (addI 0 i.toNat)), i64 0]) ((hpH ⟨z, n, L, Nw, k, Wi, Wt, f, true⟩).map some)) := by kernel_rfl
theorem ok_mread : SumOk Try.prog 27 (genSumN (gR V_mread)) := by
  refine okNR okSM Try.func27 (c := bodyOf Try.f27) (by kernel_rfl) (by kernel_rfl) ?_
  intro args m x h
  unfold V_mread at h
  split at h
  · rename_i i
    obtain ⟨z, n, L, Nw, k, Wi, Wt, f, sh⟩ := m
    have key : ∀ (W : Nat → ByteArray) (hp : List (Option SB)), (bif decide (i < 0) then some (TV.tup [stv ⟨#[]⟩, i64 1], hp) else bif decide (i ≥ (n : Int)) then some (TV.tup [stv ⟨#[]⟩, i64 1], hp) else chain [decide (0 ≤ i) && decide (i < (n : Int)), decide (addI 0 i.toNat < n)] (some (TV.tup [stv (W (addI 0 i.toNat)), i64 0], hp))) =
        some (TV.tup [stv (bif decide (i < 0) then (⟨#[]⟩, (1 : Int)) else bif decide (i ≥ (n : Int)) then (⟨#[]⟩, 1) else (W i.toNat, 0)).1, i64 (bif decide (i < 0) then ((⟨#[]⟩ : ByteArray), (1 : Int)) else bif decide (i ≥ (n : Int)) then (⟨#[]⟩, 1) else (W i.toNat, 0)).2], hp) := by
      intro W hp
      by_cases h1 : i < 0
      · rw [decide_eq_true h1]; rfl
      · rw [decide_eq_false h1]
        by_cases h2 : i ≥ (n : Int)
        · rw [decide_eq_true h2]; rfl
        · rw [decide_eq_false h2, ai0]
          exact chain_step' (and2 (decide_eq_true (by omega)) (decide_eq_true (by omega))) (chain_step' (decide_eq_true (by omega)) rfl)
    cases sh
    · cases h
      exact ⟨rfl, [], 10, LoopsOk.nil, (t_mreadA ..).trans (key Nw _)⟩
    · cases h
      exact ⟨rfl, [], 10, LoopsOk.nil, (t_mreadH ..).trans (key L _)⟩
  · cases h
/-- Nothing is open. -/
@[reducible] def noneM (m : M) (L : Nat → ByteArray) (f : RF) : M := ⟨m.size, m.n, L, L, 0, fun _ => 0, fun _ => ByteArray.empty, f, true⟩
noncomputable def V_mflush : List SV → M → Cs
  | [.c (.ptr 0 0)], m => .br (!(mspendV m.fu).1) (oR (.s (i64 2)) (withF m (mspendV m.fu).2)) (oHn (.s (i64 0)) (noneM m (nowM m) (mspendV m.fu).2))
  | _, _ => .no
theorem t_mflushA {R : Type} (z : Int) (n : Nat) (L Nw : Nat → ByteArray) (k : Nat) (Wi : Nat → Int) (Wt : Nat → ByteArray) (f : RF) (K : TV → List (Option SB) → Option R) : runFnN Try.prog SM [] 10 2 Try.f23 (bodyOf Try.f23) [.c (.ptr 0 0)] (hpA ⟨z, n, L, Nw, k, Wi, Wt, f, false⟩) K =
    bif !(mspendV f).1 then K (.s (i64 2)) ((hpA ⟨z, n, L, Nw, k, Wi, Wt, (mspendV f).2, false⟩).map some) else K (.s (i64 0)) [some (.cells [.int .i64 z, .slc 2 0 n, .slc 2 0 n, .nils, .nils, .ptr 1 0]), some (cRF (mspendV f).2), some (vS n Nw)] := by kernel_rfl
theorem t_mflushH {R : Type} (z : Int) (n : Nat) (L Nw : Nat → ByteArray) (k : Nat) (Wi : Nat → Int) (Wt : Nat → ByteArray) (f : RF) (K : TV → List (Option SB) → Option R) : runFnN Try.prog SM [] 10 2 Try.f23 (bodyOf Try.f23) [.c (.ptr 0 0)] (hpH ⟨z, n, L, Nw, k, Wi, Wt, f, true⟩) K =
    bif !(mspendV f).1 then K (.s (i64 2)) ((hpH ⟨z, n, L, Nw, k, Wi, Wt, (mspendV f).2, true⟩).map some) else K (.s (i64 0)) [some (.cells [.int .i64 z, .slc 2 0 n, .slc 2 0 n, .nils, .nils, .ptr 1 0]), some (cRF (mspendV f).2), some (vS n L)] := by kernel_rfl
theorem ok_mflush0 : SumOk Try.prog 23 (genSumN (gR V_mflush)) := by
  refine okNR okSM Try.func23 (c := bodyOf Try.f23) (by kernel_rfl) (by kernel_rfl) ?_
  intro args m x h
  unfold V_mflush at h
  split at h
  · obtain ⟨z, n, L, Nw, k, Wi, Wt, f, sh⟩ := m
    simp only [Cs.pick] at h
    cases hs : !(mspendV f).1 <;> rw [hs] at h <;> cases sh <;> cases h
    · exact ⟨rfl, [], 10, LoopsOk.nil, (t_mflushA ..).trans (by rw [hs]; rfl)⟩
    · exact ⟨rfl, [], 10, LoopsOk.nil, (t_mflushH ..).trans (by rw [hs]; rfl)⟩
    · exact ⟨rfl, [], 10, LoopsOk.nil, (t_mflushA ..).trans (by rw [hs]; rfl)⟩
    · exact ⟨rfl, [], 10, LoopsOk.nil, (t_mflushH ..).trans (by rw [hs]; rfl)⟩
  · cases h
theorem ok_mflush : SumOk Try.prog 23 (denilWS (denilWS (genSumN (gR V_mflush)))) := sumOk_denilW (sumOk_denilW ok_mflush0)
end Go.Proofs.Ytkkacjmjjhjpeaa.Dk

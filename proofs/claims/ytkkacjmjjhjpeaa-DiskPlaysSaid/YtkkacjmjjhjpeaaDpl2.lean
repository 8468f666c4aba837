/- DiskPlays: what a round of its inner loop does; what a round comes to. No condition. -/
import Derived.Test.YtkkacjmjjhjpeaaDpl
set_option maxRecDepth 100000
set_option linter.unusedSimpArgs false
set_option linter.unusedVariables false
namespace Go.Proofs.Ytkkacjmjjhjpeaa.Dk
open Go Go.Proofs.Ytkkacjmjjhjpeaa.Sx
@[reducible] def badP (N : Nat) (f : Nat → Ac) : St := ⟨[(4, .s (bl false))], [some (row N f)], 1, 216⟩
@[reducible] noncomputable def rJT {R : Type} (N : Nat) (f : Nat → Ac) (d : D) (m : M) (i : Nat) (b j : Int) (K : Ex → St → Option R) : Option R :=
  bif decide (j < b) then chain [okDs d, preD d, oqR m (rawS m)] (bif !((readV d j).1.toList == (mreadV m j).1.toList) then K .ret (badP N f) else bif (readV d j).2 != (mreadV m j).2 then K .ret (badP N f) else K .normal (encJ0 ⟨N, f, d, m, i⟩ b (IntKind.i64.wrap (j + 1)))) else K (.exit 3) (encP0 N f d m i)
theorem roundJA {R : Type} (N : Nat) (f : Nat → Ac) (d : D) (z : Int) (n : Nat) (L Nw : Nat → ByteArray) (k : Nat) (Wi : Nat → Int) (Wt : Nat → ByteArray) (fu : RF) (i : Nat) (b j : Int) (K : Ex → St → Option R) : roundK Try.prog SP [] 20 1 (resMask Try.f7.results.toList) (lpAt Try.f7 1) (encJ0 ⟨N, f, d, ⟨z, n, L, Nw, k, Wi, Wt, fu, false⟩, i⟩ b j) K =
    rJT N f d ⟨z, n, L, Nw, k, Wi, Wt, fu, false⟩ i b j K := by kernel_rfl
theorem roundJH {R : Type} (N : Nat) (f : Nat → Ac) (d : D) (z : Int) (n : Nat) (L : Nat → ByteArray) (k : Nat) (Wi : Nat → Int) (Wt : Nat → ByteArray) (fu : RF) (i : Nat) (b j : Int) (K : Ex → St → Option R) : roundK Try.prog SP [] 20 1 (resMask Try.f7.results.toList) (lpAt Try.f7 1) (encJ0 ⟨N, f, d, ⟨z, n, L, L, k, Wi, Wt, fu, true⟩, i⟩ b j) K =
    rJT N f d ⟨z, n, L, L, k, Wi, Wt, fu, true⟩ i b j K := by kernel_rfl
/-! ### Both go together -/
structure RelF (s : F) (g : RF) : Prop where
  count : s.count = g.count
  blown : s.blown = g.blown
  left : s.left = if g.armed = true then g.left else -1
  le : g.armed = true → 0 ≤ g.left ∧ g.left ≤ 9223372036854775807
theorem rel_spend {s : F} {g : RF} (h : RelF s g) : (spendV s).1 = (mspendV g).1 ∧ RelF (spendV s).2 (mspendV g).2 := by
  obtain ⟨sl, sb, sc⟩ := s
  obtain ⟨ga, gl, gb, gc⟩ := g
  obtain ⟨h1, h2, h3, h4⟩ := h
  simp only at h1 h2 h3 h4
  subst h1 h2
  unfold spendV mspendV
  cases ga with
  | false =>
    simp only [Bool.false_eq_true, if_false] at h3
    subst h3
    cases sb <;> exact ⟨by trivial, ⟨rfl, rfl, rfl, fun h => by cases h⟩⟩
  | true =>
    simp only [if_true] at h3
    subst h3
    have := h4 rfl
    cases sb with
    | true =>
      simp only [cond_true]
      cases hz : sl == 0 <;> exact ⟨by trivial, ⟨rfl, rfl, rfl, fun _ => this⟩⟩
    | false =>
      simp only [cond_true, cond_false]
      cases hz : sl == 0 with
      | true => exact ⟨by trivial, ⟨rfl, rfl, rfl, fun _ => this⟩⟩
      | false =>
        have hz : sl ≠ 0 := by simpa using hz
        rw [decide_eq_true (show sl > 0 by omega)]
        simp only [cond_true, cond_false]
        rw [wi (x := sl - 1) (by omega)]
        exact ⟨by trivial, ⟨rfl, rfl, rfl, fun _ => by simp only; omega⟩⟩
theorem foldMax1 (n : Int) : foldMax n [0] = if n < 0 then 0 else n := by
  simp only [foldMax]
  repeat' split
  all_goals omega
theorem rel_arm {s : F} {g : RF} (h : RelF s g) {n : Int} (hn : (Lit.int .i64 n).wf = true) : RelF (armV s n) (marmV g n) := by
  have := bnd hn
  unfold armV marmV
  rw [foldMax1]
  by_cases hz : n < 0
  · rw [decide_eq_true hz, if_pos hz]
    exact ⟨h.count, rfl, rfl, fun _ => by simp only [cond_true]; omega⟩
  · rw [decide_eq_false hz, if_neg hz]
    exact ⟨h.count, rfl, rfl, fun _ => by simp only [cond_false]; omega⟩
theorem rel_reset {s : F} {g : RF} (h : RelF s g) : RelF (resetV s) (mresetV g) := ⟨h.count, rfl, rfl, fun h => by cases h⟩
theorem rel_newF : RelF ⟨-1, false, 0⟩ ⟨false, 0, false, 0⟩ := ⟨rfl, rfl, rfl, fun h => by cases h⟩
structure Rel (d : D) (m : M) : Prop where
  good : Good d
  size : d.size = m.size
  n : d.n = m.n
  L : ∀ j, j < d.n → d.S j = m.L j
  k : d.k = m.k
  W : ∀ j, j < d.k → d.W j = (m.Wi j, m.Wt j)
  now : ∀ j, j < d.n → nowM m j = lastF d.W d.k 0 d.S j
  fu : RelF d.fu m.fu
  sh : m.sh = true → m.Nw = m.L
theorem Rel.read {d : D} {m : M} (h : Rel d m) (i : Int) : readV d i = mreadV m i := by
  unfold readV mreadV
  have hn := h.n
  by_cases h1 : i < 0
  · rw [decide_eq_true h1, show isV d i = false by rw [Bool.eq_false_iff]; intro hh; have := isV_spec.1 hh; omega]; rfl
  · rw [decide_eq_false h1]
    by_cases h2 : i ≥ (m.n : Int)
    · rw [decide_eq_true h2, show isV d i = false by rw [Bool.eq_false_iff]; intro hh; have := isV_spec.1 hh; omega]; rfl
    · rw [decide_eq_false h2, isV_spec.2 ⟨by omega, by omega⟩]
      show (lastF d.W d.k 0 d.S i.toNat, (0 : Int)) = (nowM m i.toNat, 0)
      rw [h.now _ (by omega)]
theorem Rel.goodM {d : D} {m : M} (h : Rel d m) (hk : d.k ≤ 4294967295) : GoodM m := by
  have hn := h.n
  have hkk := h.k
  refine ⟨h.size ▸ h.good.size, h.n ▸ h.good.n, fun j hj => ?_, fun j hj => ?_, by omega⟩
  · rw [← h.L j (by omega), ← h.size]; exact h.good.S j (by omega)
  · have hw := h.W j (by omega)
    have g := h.good.W j (by omega)
    rw [hw] at g
    rw [← h.size, ← hn]
    exact g
theorem roundJ {R : Type} (N : Nat) (f : Nat → Ac) (d : D) (m : M) (hsh : m.sh = true → m.Nw = m.L) (i : Nat) (b j : Int) (K : Ex → St → Option R) : roundK Try.prog SP [] 20 1 (resMask Try.f7.results.toList) (lpAt Try.f7 1) (encJ0 ⟨N, f, d, m, i⟩ b j) K = rJT N f d m i b j K := by
  obtain ⟨z, n, L, Nw, k, Wi, Wt, fu, sh⟩ := m
  cases sh
  · exact roundJA ..
  · obtain rfl : Nw = L := hsh rfl
    exact roundJH ..
structure InvP (p : LP) : Prop where
  rel : Rel p.d p.m
  i : p.i ≤ p.N
  N : p.N ≤ 100
  k : p.d.k ≤ p.i
  wf : ∀ j, j < p.N → wfAc (p.f j)
structure InvJ (p : LP × Nat) : Prop where
  rel : Rel p.1.d p.1.m
  j : p.2 ≤ p.1.m.n + 1
noncomputable def okJ (p : LP × Nat) : Bool := @decide (InvJ p) (Classical.propDecidable _)
theorem okJ_spec {p : LP × Nat} : okJ p = true ↔ InvJ p := by unfold okJ; rw [@decide_eq_true_eq _ (Classical.propDecidable _)]
def nxJ (p : LP × Nat) : LP × Nat := (p.1, p.2 + 1)
def finJ (p : LP × Nat) : St := encP0 p.1.N p.1.f p.1.d p.1.m p.1.i
theorem loopJ0 : LoopOk Try.prog SP [] 20 1 (resMask Try.f7.results.toList) (lpAt Try.f7 1) (formSumC decJ chkJ normJ (goSum okJ (fun p => p.1.m.n + 1 - p.2) (fun _ => false) nxJ (.exit 9) finJ (.exit 3) finJ)) := by
  refine LoopOk.go (enc := encJ) decJ_spec (by simp) (by simp) ?_ ?_ ?_
  · intro R p K _ _ h; cases h
  · rintro R ⟨⟨N, f, d, m, i⟩, j⟩ c K h1 h2 _
    obtain ⟨r, hj⟩ := okJ_spec.1 h1
    have h2 : m.n + 1 - j = c + 1 := h2
    have hn := r.good.n
    have hn' := r.n
    dsimp only at r hj hn hn'
    refine ⟨?_, okJ_spec.2 ⟨r, by show j + 1 ≤ m.n + 1; omega⟩, by show m.n + 1 - (j + 1) = c; omega⟩
    show roundK _ _ _ _ _ _ _ (encJ0 ⟨N, f, d, m, i⟩ ((m.n : Int) + 1) (j : Nat)) K = _
    rw [roundJ N f d m r.sh]
    unfold rJT
    rw [decide_eq_true (show ((j : Nat) : Int) < (m.n : Int) + 1 by omega), cond_true, r.read, wi (x := (j : Int) + 1) (by omega)]
    refine chain_step (okD_self _) (chain_step r.good.preW (chain_step (oqR_self _) ?_))
    rw [beq_self_eq_true, show ((mreadV m (j : Nat)).2 != (mreadV m (j : Nat)).2) = false by simp]
    rfl
  · rintro R ⟨⟨N, f, d, m, i⟩, j⟩ K h1 h2
    obtain ⟨r, hj⟩ := okJ_spec.1 h1
    have h2 : m.n + 1 - j = 0 := h2
    show roundK _ _ _ _ _ _ _ (encJ0 ⟨N, f, d, m, i⟩ ((m.n : Int) + 1) (j : Nat)) K = _
    rw [roundJ N f d m r.sh]
    unfold rJT
    rw [decide_eq_false (by omega)]
    rfl
theorem goA_J : ∀ (c : Nat) (p : LP × Nat), (goA (fun _ => false) nxJ c p).1 = false ∧ (goA (fun _ => false) nxJ c p).2.1 = p.1
  | 0, _ => ⟨rfl, rfl⟩
  | c + 1, p => goA_J c (nxJ p)
@[reducible] noncomputable def LpJ : LoopSum := formSumC decJ chkJ normJ (fun p R K => cond (okJ p) (K (.exit 3) (finJ p)) none)
theorem loopJ : LoopOk Try.prog SP [] 20 1 (resMask Try.f7.results.toList) (lpAt Try.f7 1) LpJ := by
  intro R st K r h
  refine loopJ0 R st K r (formSumC_imp (fun p R K r h => ?_) h)
  obtain ⟨h1, h2⟩ := goA_J (p.1.m.n + 1 - p.2) p
  unfold goSum
  cases hk : okJ p with
  | false => rw [hk] at h; cases h
  | true =>
    rw [hk] at h
    rw [h1]
    unfold finJ
    dsimp only
    rw [h2]
    exact h
end Go.Proofs.Ytkkacjmjjhjpeaa.Dk

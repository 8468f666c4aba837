/- DiskPlays: a round. No condition. -/
import Derived.Test.YtkkacjmjjhjpeaaDpl2
import Derived.Test.YtkkacjmjjhjpeaaDcrash
set_option maxRecDepth 100000
set_option linter.unusedSimpArgs false
set_option linter.unusedVariables false
namespace Go.Proofs.Ytkkacjmjjhjpeaa.Dk
open Go Go.Proofs.Ytkkacjmjjhjpeaa.Sx
@[reducible] noncomputable def rawJ (N : Nat) (f : Nat → Ac) (d : D) (m : M) (i : Int) : PJ := (((N, fun j => encAc (f j)), (d.n, d.k, d, (fun j => encS (d.S j)), fun j => encW (d.W j)), (m, rawS m)), (i, IntKind.i64.wrap ((m.n : Int) + 1), 0), N, N, nnP m)
@[reducible] noncomputable def tailP {R : Type} (N : Nat) (f : Nat → Ac) (i : Int) (K : Ex → St → Option R) (d : D) (m : M) (same : Bool) : Option R :=
  bif !same then K .ret (badP N f) else chain [okDs d] (bif (d.k : Int) != (m.k : Int) then K .ret (badP N f) else bif !((blownV d.fu).1 == m.fu.blown) then K .ret (badP N f) else bif (countV (blownV d.fu).2).1 != m.fu.count then K .ret (badP N f) else
    chain [chkJ (rawJ N f d m i), okJ (⟨N, f, d, m, i.toNat⟩, 0)] (K .normal (encP0 N f d m (IntKind.i64.wrap ((i.toNat : Int) + 1)))))
@[reducible] noncomputable def wrP {R : Type} (N : Nat) (f : Nat → Ac) (i : Int) (K : Ex → St → Option R) (d : D) (m : M) (pos : Int) (b : ByteArray) : Option R :=
  chain [okDs d, decide (d.k + 1 ≤ 4294967296), oqR m (rawS m)] (bif decide (pos < 0) then tailP N f i K (writeV d pos b).2 m ((writeV d pos b).1 == 1) else bif decide (pos ≥ (m.n : Int)) then tailP N f i K (writeV d pos b).2 m ((writeV d pos b).1 == 1) else bif (b.size : Int) != m.size then tailP N f i K (writeV d pos b).2 m ((writeV d pos b).1 == 1) else
    bif !(mspendV m.fu).1 then tailP N f i K (writeV d pos b).2 (withF m (mspendV m.fu).2) ((writeV d pos b).1 == 2) else chain [decide (m.n ≤ 4294967296) && decide (m.k + 1 ≤ 4294967296)] (tailP N f i K (writeV d pos b).2 (addM m pos b (mspendV m.fu).2) ((writeV d pos b).1 == 0)))
@[reducible] noncomputable def rPT {R : Type} (N : Nat) (f : Nat → Ac) (d : D) (m : M) (i : Int) (a : Ac) (K : Ex → St → Option R) : Option R :=
  bif a.kind == 1 then wrP N f i K d m a.pos (fillV a.byte m.size) else
  bif a.kind == 2 then chain [okDs d, preD d, oqR m (rawS m)] (bif !(mspendV m.fu).1 then tailP N f i K (flushV d).2 (withF m (mspendV m.fu).2) ((flushV d).1 == 2) else tailP N f i K (flushV d).2 (noneM m (nowM m) (mspendV m.fu).2) ((flushV d).1 == 0)) else
  bif a.kind == 3 then chain [okDs d, gB d, oqR m (rawS m), gM m] (tailP N f i K (crashV d a.kp a.num) (mcrashV m a.kp a.num) true) else
  bif a.kind == 4 then tailP N f i K (wF d (armV d.fu a.num)) (withF m (marmV m.fu a.num)) true else
  bif a.kind == 5 then wrP N f i K d m a.pos (fillV a.byte a.num) else tailP N f i K d m true
set_option maxHeartbeats 4000000 in
theorem roundPA {R : Type} (N : Nat) (f : Nat → Ac) (d : D) (z : Int) (n : Nat) (L Nw : Nat → ByteArray) (k : Nat) (Wi : Nat → Int) (Wt : Nat → ByteArray) (fu : RF) (i : Int) (LL : LoopSum) (K : Ex → St → Option R) : roundK Try.prog SP [(0, LL), (3, LpJ)] 20 1 (resMask Try.f7.results.toList) (lpAt Try.f7 0) (encP0 N f d ⟨z, n, L, Nw, k, Wi, Wt, fu, false⟩ i) K =
    bif decide (i < N) then chain [decide (0 ≤ i) && decide (i < (N : Int)), decide (addI 0 i.toNat < N)] (rPT N f d ⟨z, n, L, Nw, k, Wi, Wt, fu, false⟩ i (f (addI 0 i.toNat)) K) else K (.exit 0) (finP ⟨N, f, d, ⟨z, n, L, Nw, k, Wi, Wt, fu, false⟩, 0⟩) := by kernel_rfl
set_option maxHeartbeats 4000000 in
theorem roundPH {R : Type} (N : Nat) (f : Nat → Ac) (d : D) (z : Int) (n : Nat) (L : Nat → ByteArray) (k : Nat) (Wi : Nat → Int) (Wt : Nat → ByteArray) (fu : RF) (i : Int) (LL : LoopSum) (K : Ex → St → Option R) : roundK Try.prog SP [(0, LL), (3, LpJ)] 20 1 (resMask Try.f7.results.toList) (lpAt Try.f7 0) (encP0 N f d ⟨z, n, L, L, k, Wi, Wt, fu, true⟩ i) K =
    bif decide (i < N) then chain [decide (0 ≤ i) && decide (i < (N : Int)), decide (addI 0 i.toNat < N)] (rPT N f d ⟨z, n, L, L, k, Wi, Wt, fu, true⟩ i (f (addI 0 i.toNat)) K) else K (.exit 0) (finP ⟨N, f, d, ⟨z, n, L, L, k, Wi, Wt, fu, true⟩, 0⟩) := by kernel_rfl
theorem roundP {R : Type} (N : Nat) (f : Nat → Ac) (d : D) (m : M) (hsh : m.sh = true → m.Nw = m.L) (i : Int) (LL : LoopSum) (K : Ex → St → Option R) : roundK Try.prog SP [(0, LL), (3, LpJ)] 20 1 (resMask Try.f7.results.toList) (lpAt Try.f7 0) (encP0 N f d m i) K =
    bif decide (i < N) then chain [decide (0 ≤ i) && decide (i < (N : Int)), decide (addI 0 i.toNat < N)] (rPT N f d m i (f (addI 0 i.toNat)) K) else K (.exit 0) (finP ⟨N, f, d, m, 0⟩) := by
  obtain ⟨z, n, L, Nw, k, Wi, Wt, fu, sh⟩ := m
  cases sh
  · exact roundPA ..
  · obtain rfl : Nw = L := hsh rfl
    exact roundPH ..
theorem tail_ok {R : Type} {N : Nat} {f : Nat → Ac} {i : Nat} {d : D} {m : M} (h : Rel d m) (hi : i < 100) (K : Ex → St → Option R) : tailP N f i K d m true = K .normal (encP ⟨N, f, d, m, i + 1⟩) := by
  have hn := h.good.n
  have hn' := h.n
  have hw : IntKind.i64.wrap ((m.n : Int) + 1) = (m.n : Int) + 1 := wi (by omega)
  unfold tailP
  rw [Bool.not_true, cond_false]
  refine chain_step (okD_self _) ?_
  rw [h.k, show ((m.k : Int) != (m.k : Int)) = false by simp, cond_false]
  rw [show (blownV d.fu).1 = m.fu.blown from h.fu.blown, beq_self_eq_true, Bool.not_true, cond_false]
  rw [show (countV (blownV d.fu).2).1 = m.fu.count from h.fu.count, show (m.fu.count != m.fu.count) = false by simp, cond_false]
  refine chain_step ?_ (chain_step (okJ_spec.2 ⟨h, Nat.zero_le _⟩) ?_)
  · unfold chkJ rawJ chkHp
    simp only [Bool.and_eq_true, decide_eq_true_eq]
    exact ⟨⟨chkRo_true backAc _, okD_self d, oqR_self m⟩, by omega, trivial, Nat.beq_refl _, Nat.beq_refl _, by omega, hw⟩
  · rw [Int.toNat_natCast, wi (x := (i : Int) + 1) (by omega)]
    rfl
/-! ### What calls make of both -/
theorem Rel.wF' {d : D} {m : M} (h : Rel d m) {s : F} {g : RF} (hf : RelF s g) : Rel (wF d s) (withF m g) :=
  ⟨h.good.fu _, h.size, h.n, h.L, h.k, h.W, h.now, hf, h.sh⟩
theorem Rel.add {d : D} {m : M} (h : Rel d m) {s : F} {g : RF} (hf : RelF s g) {i : Int} {b : ByteArray} (hi : 0 ≤ i ∧ i < d.n) (hb : (b.size : Int) = d.size) (hk : d.k + 1 ≤ 4294967296) : Rel (addW (wF d s) (i, b)) (addM m i b g) := by
  have hkk := h.k
  refine ⟨Good.add (d := wF d s) (h.good.fu _) hi hb hk, h.size, h.n, h.L, by show d.k + 1 = m.k + 1; omega, fun j hj => ?_, fun j hj => ?_, hf, fun hh => by cases hh⟩
  · have hj : j < d.k + 1 := hj
    show pushW d.W d.k (i, b) j = (pushG 0 m.Wi i m.k j, pushG ByteArray.empty m.Wt b m.k j)
    by_cases he : j = d.k
    · subst he
      rw [pushW_at, hkk, pushG_at, pushG_at]
    · rw [pushW_lt _ (by omega), pushG_lt (by omega), pushG_lt (by omega)]
      exact h.W j (by omega)
  · show setS (nowM m) i.toNat b j = lastF (pushW d.W d.k (i, b)) (d.k + 1) 0 d.S j
    rw [lastF_snoc, Nat.zero_add, pushW_at]
    show setS (nowM m) i.toNat b j = setS (lastF (pushW d.W d.k (i, b)) d.k 0 d.S) i.toNat b j
    rw [lastF_congr (W := d.W) fun j _ hj => pushW_lt _ (by omega)]
    by_cases he : j = i.toNat
    · subst he
      rw [setS_at, setS_at]
    · rw [setS_ne _ _ he, setS_ne _ _ he]
      exact h.now j hj
theorem Rel.flush {d : D} {m : M} (h : Rel d m) {s : F} {g : RF} (hf : RelF s g) : Rel (nilW (wF d s) (lastF d.W d.k 0 d.S)) (noneM m (nowM m) g) := by
  refine ⟨⟨h.good.size, h.good.n, lastF_size h.good.S fun j _ hj => (h.good.W j (by omega)).2, fun j hj => absurd hj (Nat.not_lt_zero j), Nat.zero_le _⟩, h.size, h.n, fun j hj => (h.now j hj).symm, rfl, fun j hj => absurd hj (Nat.not_lt_zero j), fun j hj => h.now j hj, hf, fun _ => rfl⟩
theorem Rel.nilS {d : D} {m : M} (h : Rel d m) {s : F} {g : RF} (hf : RelF s g) {S L : Nat → ByteArray} (hs : ∀ j, j < d.n → ((S j).size : Int) = d.size) (hL : ∀ j, j < d.n → S j = L j) : Rel (nilW (wF d s) S) (noneM m L g) := by
  refine ⟨⟨h.good.size, h.good.n, hs, fun j hj => absurd hj (Nat.not_lt_zero j), Nat.zero_le _⟩, h.size, h.n, hL, rfl, fun j hj => absurd hj (Nat.not_lt_zero j), fun j hj => (hL j hj).symm, hf, fun _ => rfl⟩
theorem wr_ok {R : Type} {N : Nat} {f : Nat → Ac} {i : Nat} {d : D} {m : M} (h : Rel d m) (hi : i < 100) (hk : d.k ≤ i) (pos : Int) (b : ByteArray) : ∃ d' m', Rel d' m' ∧ d'.k ≤ i + 1 ∧ ∀ (R : Type) (K : Ex → St → Option R), wrP N f i K d m pos b = K .normal (encP ⟨N, f, d', m', i + 1⟩) := by
  have hn := h.n
  have hkk := h.k
  have hz := h.size
  have hgn := h.good.n
  have hd1 : decide (d.k + 1 ≤ 4294967296) = true := decide_eq_true (by omega)
  have start : ∀ (R : Type) (x y : Option R), x = y → chain [okDs d, decide (d.k + 1 ≤ 4294967296), oqR m (rawS m)] x = y := fun R x y e => chain_step (okD_self _) (chain_step hd1 (chain_step (oqR_self _) e))
  have hs := rel_spend h.fu
  rcases writeV_cases d pos b with ⟨e, hno⟩ | ⟨hp, hb, hc⟩
  · refine ⟨d, m, h, by omega, fun R K => ?_⟩
    unfold wrP
    rw [e]
    refine start _ _ _ ?_
    have ht := tail_ok (N := N) (f := f) h hi K
    dsimp only
    rw [beq_self_eq_true, ht]
    by_cases h1 : pos < 0
    · rw [decide_eq_true h1]; rfl
    · rw [decide_eq_false h1, cond_false]
      by_cases h2 : pos ≥ (m.n : Int)
      · rw [decide_eq_true h2]; rfl
      · rw [decide_eq_false h2, cond_false]
        have h3 : ((b.size : Int) != m.size) = true := by
          rw [bne_iff_ne]
          intro hh
          exact hno ⟨⟨by omega, by omega⟩, by omega⟩
        rw [h3]; rfl
  · have hA : ∀ (R : Type) (x y v : Option R), (bif decide (pos < 0) then x else bif decide (pos ≥ (m.n : Int)) then x else bif (b.size : Int) != m.size then x else v) = v := by
      intro R x y v
      rw [decide_eq_false (show ¬ pos < 0 by omega), decide_eq_false (show ¬ pos ≥ (m.n : Int) by omega), show ((b.size : Int) != m.size) = false by rw [hb, hz]; simp]
      rfl
    rcases hc with ⟨q1, q2⟩ | ⟨q1, q2⟩
    · have hr := h.wF' hs.2
      refine ⟨_, _, hr, by show d.k ≤ i + 1; omega, fun R K => ?_⟩
      unfold wrP
      rw [q2]
      refine start _ _ _ ((hA R _ none _).trans ?_)
      rw [← hs.1, q1]
      exact tail_ok hr hi K
    · have hr := h.add hs.2 hp hb (by omega)
      refine ⟨_, _, hr, by show d.k + 1 ≤ i + 1; omega, fun R K => ?_⟩
      unfold wrP
      rw [q2]
      refine start _ _ _ ((hA R _ none _).trans ?_)
      rw [← hs.1, q1]
      refine chain_step (and2 (decide_eq_true (by omega)) (decide_eq_true (by omega))) ?_
      exact tail_ok hr hi K
end Go.Proofs.Ytkkacjmjjhjpeaa.Dk

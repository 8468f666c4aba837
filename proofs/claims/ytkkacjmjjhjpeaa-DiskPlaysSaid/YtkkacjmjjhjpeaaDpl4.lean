/- A crash of both. No condition beyond those that each theorem names. -/
import Derived.Test.YtkkacjmjjhjpeaaDpl3
set_option maxRecDepth 100000
set_option linter.unusedSimpArgs false
set_option linter.unusedVariables false
namespace Go.Proofs.Ytkkacjmjjhjpeaa.Dk
open Go Go.Proofs.Ytkkacjmjjhjpeaa.Sx
theorem wu {x : Int} (h : 0 ≤ x ∧ x < 18446744073709551616) : IntKind.u64.wrap x = x := by
  simp [IntKind.wrap, IntKind.bits, IntKind.signed]; omega
theorem tmod64 (i : Nat) : (i : Int).tmod 64 = ((i % 64 : Nat) : Int) := by
  rw [Int.tmod_eq_emod_of_nonneg (by omega)]; omega
theorem keepB_eq (x i : Nat) (hx : x < 18446744073709551616) : keepB (x : Int) (i : Nat) = (x / 2 ^ (i % 64) % 2 == 1) := by
  unfold keepB
  have hr : i % 64 < 64 := Nat.mod_lt _ (by omega)
  rw [tmod64, Int.toNat_natCast, Nat.min_eq_left (by omega)]
  have e : (x : Int).fdiv (2 ^ (i % 64)) = ((x / 2 ^ (i % 64) : Nat) : Int) := by
    rw [Int.fdiv_eq_ediv_of_nonneg _ (by exact Int.pow_nonneg (by omega))]
    rw [Int.natCast_ediv, Int.natCast_pow]
    rfl
  rw [e, BitVec.ofInt_natCast]
  have e1 : (BitVec.ofInt 64 1) = BitVec.ofNat 64 1 := rfl
  have hle : x / 2 ^ (i % 64) < 18446744073709551616 := Nat.lt_of_le_of_lt (Nat.div_le_self ..) hx
  rw [e1, BitVec.toNat_and, BitVec.toNat_ofNat, BitVec.toNat_ofNat, show (1 % 2 ^ 64 : Nat) = 1 from rfl, Nat.and_one_is_mod, Nat.mod_eq_of_lt (show x / 2 ^ (i % 64) < 2 ^ 64 from hle), wu (by omega)]
  rw [Bool.eq_iff_iff, beq_iff_eq, beq_iff_eq]
  omega
/-- The bits that a loop holds. -/
def KI (x : Nat) (p : LX) : Prop := p.keep = (x : Int) ∧ (p.i % 64 ≠ 0 → p.kk = ((x / 2 ^ (p.i % 64) : Nat) : Int))
theorem KI.kb {x : Nat} {p : LX} (h : KI x p) : kb p = ((x / 2 ^ (p.i % 64) : Nat) : Int) := by
  unfold Dk.kb
  rw [tmod64]
  by_cases h0 : p.i % 64 = 0
  · rw [h0, h.1]
    simp
  · rw [show (((p.i % 64 : Nat) : Int) == 0) = false by simp; omega, cond_false, h.2 h0]
theorem KI.bit {x : Nat} {p : LX} (h : KI x p) (hx : x < 18446744073709551616) : bit p = keepB (x : Int) (p.i : Nat) := by
  unfold Dk.bit
  rw [h.kb, keepB_eq x p.i hx, Int.tmod_eq_emod_of_nonneg (Int.natCast_nonneg _), Bool.eq_iff_iff, beq_iff_eq, beq_iff_eq]
  generalize x / 2 ^ (p.i % 64) = y
  omega
theorem KI.hw {x : Nat} {p : LX} (h : KI x p) (hx : x < 18446744073709551616) (h1 : (p.i + 1) % 64 ≠ 0) : Dk.hw (Dk.kb p) = ((x / 2 ^ ((p.i + 1) % 64) : Nat) : Int) := by
  have hle : x / 2 ^ (p.i % 64) < 18446744073709551616 := Nat.lt_of_le_of_lt (Nat.div_le_self ..) hx
  unfold Dk.hw
  rw [h.kb, show (p.i + 1) % 64 = p.i % 64 + 1 by omega, Nat.pow_succ, ← Nat.div_div_eq_div_mul]
  generalize x / 2 ^ (p.i % 64) = y at hle
  rw [Int.tdiv_eq_ediv_of_nonneg (Int.natCast_nonneg _), wu (by omega)]
  omega
def lastK (keep : Int) : Nat → Int
  | 0 => -1
  | i + 1 => bif keepB keep i then (i : Int) else lastK keep i
theorem goA_last1 {x : Nat} (hx : x < 18446744073709551616) : ∀ (c : Nat) (p : LX), KI x p → p.last = lastK x p.i → (goA (fun _ => false) nx1 c p).2.last = lastK x (p.i + c)
  | 0, p, _, h => h
  | c + 1, p, hk, h => by
    have hn : KI x (nx1 p) := ⟨hk.1, fun h1 => hk.hw hx h1⟩
    have hl : (nx1 p).last = lastK x (nx1 p).i := by
      show (bif bit p then (p.i : Int) else p.last) = bif keepB x p.i then (p.i : Int) else lastK x p.i
      rw [hk.bit hx, h]
    have := goA_last1 hx c (nx1 p) hn hl
    refine Eq.trans this ?_
    show lastK x (p.i + 1 + c) = _
    rw [show p.i + 1 + c = p.i + (c + 1) by omega]
theorem lastK_spec (keep : Int) : ∀ k, (∀ t : Nat, t < k → keepB keep t = true → (t : Int) ≤ lastK keep k) ∧ (lastK keep k = -1 ∨ ∃ t : Nat, lastK keep k = t ∧ t < k ∧ keepB keep t = true)
  | 0 => ⟨fun t h => absurd h (by omega), .inl rfl⟩
  | k + 1 => by
    obtain ⟨h1, h2⟩ := lastK_spec keep k
    unfold lastK
    cases hb : keepB keep k with
    | true =>
      refine ⟨fun t ht _ => ?_, .inr ⟨k, rfl, by omega, hb⟩⟩
      show (t : Int) ≤ k
      omega
    | false =>
      refine ⟨fun t ht hbt => ?_, ?_⟩
      · by_cases he : t = k
        · subst he; rw [hb] at hbt; cases hbt
        · exact h1 t (by omega) hbt
      · rcases h2 with h | ⟨t, a, b, c⟩
        · exact .inl h
        · exact .inr ⟨t, a, by omega, c⟩
@[reducible] def mD (m : M) : D := ⟨m.size, m.n, m.L, m.k, fun j => (m.Wi j, m.Wt j), ⟨0, false, 0⟩⟩
theorem cut_eq {z : Int} (torn : Int) (d : D) (hd : d.size = z) (hz : 0 ≤ z) : cutM z torn = cutV d torn := by
  unfold cutM cutV clampV foldMin foldMax foldMax foldMin
  rw [hd]
  by_cases h1 : torn < 0
  · rw [show (if (0 : Int) > torn then 0 else torn) = 0 from if_pos (by omega), decide_eq_true h1, if_neg (by omega)]; rfl
  · rw [show (if (0 : Int) > torn then 0 else torn) = torn from if_neg (by omega), decide_eq_false h1, cond_false]
    by_cases h2 : torn > z
    · rw [decide_eq_true h2, if_pos (by omega)]; rfl
    · rw [decide_eq_false h2, if_neg (by omega)]; rfl
/-- What the second loop has made of the sectors. -/
noncomputable def Lc (m : M) (keep torn lst : Int) (i : Nat) : Nat → ByteArray :=
  if lst < (i : Int) then tornS (mD m) torn (kept (mD m).W keep i).1 (kept (mD m).W keep i).2 else lastF (kept (mD m).W keep i).2 (kept (mD m).W keep i).1 0 m.L
structure J2 (x : Nat) (m : M) (torn : Int) (p : LX) : Prop where
  ki : KI x p
  tr : p.torn = torn
  last : p.last = lastK x m.k
  size : p.m.size = m.size
  n : p.m.n = m.n
  k : p.m.k = m.k
  Wi : p.m.Wi = m.Wi
  Wt : p.m.Wt = m.Wt
  fu : p.m.fu = m.fu
  L : p.m.L = Lc m x torn (lastK x m.k) p.i
theorem torn_succ (d : D) (torn : Int) (c : Nat) (L : Nat → Int × ByteArray) : tornS d torn (c + 1) L = setS (lastF L c 0 d.S) (L c).1.toNat ((L c).2.extract 0 (cutV d torn).toNat ++ (lastF L c 0 d.S (L c).1.toNat).extract (cutV d torn).toNat (lastF L c 0 d.S (L c).1.toNat).size) := rfl
theorem J2.next {x : Nat} {m : M} {torn : Int} (hx : x < 18446744073709551616) (hz : 0 ≤ m.size) {p : LX} (h : J2 x m torn p) (hi : p.i < m.k) : J2 x m torn (nx2 p) := by
  obtain ⟨ki, h1, h2, h3, h4, h5, h6, h7, h8, h9⟩ := h
  have hb := ki.bit hx
  have kn : KI x (nx2 p) := ⟨ki.1, fun hh => ki.hw hx hh⟩
  obtain ⟨s1, s2⟩ := lastK_spec (x : Int) m.k
  cases hbit : bit p with
  | false =>
    have hkb : keepB (x : Int) (p.i : Nat) = false := by rw [← hb]; exact hbit
    have e : (nx2 p).m = p.m := by unfold nx2; rw [hbit]; rfl
    refine ⟨kn, h1, h2, by rw [e, h3], by rw [e, h4], by rw [e, h5], by rw [e, h6], by rw [e, h7], by rw [e, h8], ?_⟩
    rw [e, h9]
    show Lc m x torn (lastK x m.k) p.i = Lc m x torn (lastK x m.k) (p.i + 1)
    unfold Lc
    have hk : kept (mD m).W (x : Int) (p.i + 1) = kept (mD m).W (x : Int) p.i := by
      show (bif keepB (x : Int) (p.i : Nat) then _ else _) = _
      rw [hkb]; rfl
    rw [hk]
    have hne : lastK (x : Int) m.k ≠ (p.i : Int) := by
      rcases s2 with hh | ⟨t, a, b, c⟩
      · omega
      · intro hh
        have : t = p.i := by omega
        subst this
        rw [hkb] at c; cases c
    by_cases hlt : lastK (x : Int) m.k < (p.i : Int)
    · rw [if_pos hlt, if_pos (by omega)]
    · rw [if_neg hlt, if_neg (by omega)]
  | true =>
    have hkb : keepB (x : Int) (p.i : Nat) = true := by rw [← hb]; exact hbit
    have e : (nx2 p).m = takeM p := by unfold nx2; rw [hbit]; rfl
    have hle := s1 p.i hi hkb
    refine ⟨kn, h1, h2, by rw [e]; exact h3, by rw [e]; exact h4, by rw [e]; exact h5, by rw [e]; exact h6, by rw [e]; exact h7, by rw [e]; exact h8, ?_⟩
    rw [e]
    show setS p.m.L (p.m.Wi p.i).toNat (tbV p) = Lc m x torn (lastK x m.k) (p.i + 1)
    have hk : kept (mD m).W (x : Int) (p.i + 1) = ((kept (mD m).W (x : Int) p.i).1 + 1, pushW (kept (mD m).W (x : Int) p.i).2 (kept (mD m).W (x : Int) p.i).1 (m.Wi p.i, m.Wt p.i)) := by
      show (bif keepB (x : Int) (p.i : Nat) then _ else _) = _
      rw [hkb]; rfl
    have hL : p.m.L = lastF (kept (mD m).W (x : Int) p.i).2 (kept (mD m).W (x : Int) p.i).1 0 m.L := by
      rw [h9]; unfold Lc; rw [if_neg (by omega)]
    have hc : lastF (pushW (kept (mD m).W (x : Int) p.i).2 (kept (mD m).W (x : Int) p.i).1 (m.Wi p.i, m.Wt p.i)) (kept (mD m).W (x : Int) p.i).1 0 m.L = p.m.L := by
      rw [hL]
      exact lastF_congr fun j _ hj => pushW_lt _ (by omega)
    unfold Lc tbV
    rw [hk, h2, h6, h7, h1, h3]
    dsimp only
    by_cases heq : (p.i : Int) = lastK (x : Int) m.k
    · rw [if_pos (by omega), show ((p.i : Int) == lastK (x : Int) m.k) = true by rw [beq_iff_eq]; exact heq, cond_true]
      rw [torn_succ, pushW_at, show (mD m).S = m.L from rfl, hc, cut_eq torn (mD m) rfl hz]
    · rw [if_neg (by omega), show ((p.i : Int) == lastK (x : Int) m.k) = false by rw [beq_eq_false_iff_ne]; exact heq, cond_false, lastF_snoc, Nat.zero_add, pushW_at, hc]
theorem goA_J2 {x : Nat} {m : M} {torn : Int} (hx : x < 18446744073709551616) (hz : 0 ≤ m.size) : ∀ (c : Nat) (p : LX), J2 x m torn p → p.i + c ≤ m.k → J2 x m torn (goA (fun _ => false) nx2 c p).2 ∧ (goA (fun _ => false) nx2 c p).2.i = p.i + c
  | 0, p, h, _ => ⟨h, rfl⟩
  | c + 1, p, h, hc => by
    obtain ⟨r1, r2⟩ := goA_J2 hx hz c (nx2 p) (h.next hx hz (by omega)) (by show p.i + 1 + c ≤ m.k; omega)
    exact ⟨r1, r2.trans (by show p.i + 1 + c = p.i + (c + 1); omega)⟩
theorem lastF_pt {L : Nat → Int × ByteArray} {j : Nat} : ∀ {c i : Nat} {S S' : Nat → ByteArray}, S j = S' j → lastF L c i S j = lastF L c i S' j
  | 0, _, _, _, h => h
  | c + 1, i, S, S', h => by
    refine lastF_pt (c := c) (i := i + 1) ?_
    by_cases he : j = (L i).1.toNat
    · subst he; rw [setS_at, setS_at]
    · rw [setS_ne _ _ he, setS_ne _ _ he]; exact h
theorem tornS_pt {d e : D} {torn : Int} {n : Nat} (hz : d.size = e.size) (hS : ∀ j, j < n → d.S j = e.S j) {c : Nat} {L : Nat → Int × ByteArray} (hL : ∀ j, j < c → (L j).1.toNat < n) {j : Nat} (hj : j < n) : tornS d torn c L j = tornS e torn c L j := by
  cases c with
  | zero => exact hS j hj
  | succ c =>
    rw [torn_succ, torn_succ]
    have hc : cutV d torn = cutV e torn := by unfold cutV; rw [hz]
    rw [hc, lastF_pt (S' := e.S) (j := (L c).1.toNat) (hS _ (hL c (by omega)))]
    by_cases he : j = (L c).1.toNat
    · subst he; rw [setS_at, setS_at]
    · rw [setS_ne _ _ he, setS_ne _ _ he]
      exact lastF_pt (hS j hj)
theorem kept_congr {W V : Nat → Int × ByteArray} {keep : Int} : ∀ i, (∀ j, j < i → W j = V j) → kept W keep i = kept V keep i
  | 0, _ => rfl
  | i + 1, h => by
    unfold kept
    rw [kept_congr i fun j hj => h j (by omega), h i (by omega)]
theorem Rel.crash {d : D} {m : M} (h : Rel d m) (hk : d.k ≤ 4294967295) {keep : Int} (hkeep : (Lit.int .u64 keep).wf = true) (torn : Int) : Rel (crashV d keep torn) (mcrashV m keep torn) := by
  have hb : 0 ≤ keep ∧ keep < 18446744073709551616 := by
    simp [Lit.wf, IntKind.min, IntKind.max, IntKind.signed, IntKind.bits] at hkeep
    omega
  obtain ⟨x, rfl⟩ := Int.eq_ofNat_of_zero_le hb.1
  have hx : x < 18446744073709551616 := by omega
  have gm := h.goodM hk
  have hz : 0 ≤ m.size := by have := gm.size; omega
  have hkk := h.k
  have hn := h.n
  have ki0 : ∀ (lst : Int), KI x ⟨m, (x : Int), torn, lst, (x : Int), 0⟩ := fun lst => ⟨rfl, fun h0 => absurd rfl h0⟩
  have hla : la (x1 m (x : Int) torn) = lastK (x : Int) m.k := by
    have := goA_last1 hx (m.k - 0) (x1 m (x : Int) torn) (ki0 _) rfl
    unfold la
    refine Eq.trans this ?_
    show lastK (x : Int) (0 + (m.k - 0)) = _
    rw [show 0 + (m.k - 0) = m.k by omega]
  have j0 : J2 x m torn (x2 m (x : Int) torn) := by
    refine ⟨ki0 _, rfl, hla, rfl, rfl, rfl, rfl, rfl, rfl, ?_⟩
    show m.L = Lc m x torn (lastK x m.k) 0
    unfold Lc
    split <;> rfl
  obtain ⟨r1, r2⟩ := goA_J2 hx hz (m.k - 0) (x2 m (x : Int) torn) j0 (by show 0 + (m.k - 0) ≤ m.k; omega)
  have hend : (goA (fun _ => false) nx2 (m.k - 0) (x2 m (x : Int) torn)).2.i = m.k := r2.trans (by show 0 + (m.k - 0) = m.k; omega)
  have hcr : crM m (x : Int) torn = (goA (fun _ => false) nx2 (m.k - 0) (x2 m (x : Int) torn)).2.m := rfl
  have e1 : (crM m (x : Int) torn).size = m.size := by rw [hcr]; exact r1.size
  have e2 : (crM m (x : Int) torn).n = m.n := by rw [hcr]; exact r1.n
  have e3 : (crM m (x : Int) torn).fu = m.fu := by rw [hcr]; exact r1.fu
  have e4 : (crM m (x : Int) torn).L = tornS (mD m) torn (kept (mD m).W (x : Int) m.k).1 (kept (mD m).W (x : Int) m.k).2 := by
    rw [hcr, r1.L, hend]
    unfold Lc
    rw [if_pos]
    rcases (lastK_spec (x : Int) m.k).2 with hh | ⟨t, a, b, c⟩ <;> omega
  have hkept : kept d.W (x : Int) d.k = kept (mD m).W (x : Int) m.k := by
    rw [hkk]
    exact kept_congr m.k fun j hj => h.W j (by omega)
  have hL : ∀ j, j < d.n → tornS d torn (kept d.W (x : Int) d.k).1 (kept d.W (x : Int) d.k).2 j = (crM m (x : Int) torn).L j := by
    intro j hj
    rw [e4, ← hkept]
    refine tornS_pt (e := mD m) h.size h.L (fun t ht => ?_) hj
    have := ((kept_ok h.good (x : Int)).2 t ht).1
    omega
  have hr := h.nilS (s := resetV d.fu) (g := mresetV m.fu) (rel_reset h.fu) (tornS_size h.good torn (kept_ok h.good (x : Int)).2) hL
  have em : mcrashV m (x : Int) torn = noneM m (crM m (x : Int) torn).L (mresetV m.fu) := by
    unfold mcrashV noneM
    rw [e1, e2, e3]
  rw [em]
  exact hr
end Go.Proofs.Ytkkacjmjjhjpeaa.Dk

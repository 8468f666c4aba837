/- A disk: Crash. No condition. -/
import Derived.Test.YtkkacjmjjhjpeaaDk6
set_option maxRecDepth 100000
set_option linter.unusedSimpArgs false
set_option linter.unusedVariables false
namespace Go.Proofs.Ytkkacjmjjhjpeaa.Dk
open Go Go.Proofs.Ytkkacjmjjhjpeaa.Sx
structure Good (d : D) : Prop where
  size : 128 ≤ d.size ∧ d.size ≤ 1024
  n : 4 ≤ d.n ∧ d.n ≤ 1024
  S : ∀ j, j < d.n → ((d.S j).size : Int) = d.size
  W : ∀ j, j < d.k → (0 ≤ (d.W j).1 ∧ (d.W j).1 < d.n) ∧ ((d.W j).2.size : Int) = d.size
  k : d.k ≤ 4294967296
noncomputable def gB (d : D) : Bool := @decide (Good d) (Classical.propDecidable _)
theorem gB_spec {d : D} : gB d = true ↔ Good d := by
  unfold gB
  rw [@decide_eq_true_eq _ (Classical.propDecidable _)]
theorem Good.preW {d : D} (h : Good d) : preW d.W d.k d.n = true := by
  unfold Dk.preW
  rw [Bool.and_eq_true, decide_eq_true_eq]
  exact ⟨h.k, okWs_spec.2 fun j hj => (h.W j hj).1⟩
theorem pushW_lt {W : Nat → Int × ByteArray} {k j : Nat} (w : Int × ByteArray) (h : j < k) : pushW W k w j = W j := by
  unfold pushW
  rw [show Nat.blt j k = true by rw [Nat.blt_eq]; exact h]; rfl
theorem pushW_at (W : Nat → Int × ByteArray) (k : Nat) (w : Int × ByteArray) : pushW W k w k = w := by
  unfold pushW
  rw [show Nat.blt k k = false by rw [Bool.eq_false_iff]; simp [Nat.blt_eq], show k - k = 0 by omega]; rfl
theorem kept_mem (W : Nat → Int × ByteArray) (keep : Int) : ∀ (i j : Nat), j < (kept W keep i).1 → ∃ t, t < i ∧ (kept W keep i).2 j = W t
  | 0, j, h => by cases h
  | i + 1, j, h => by
    have ih := kept_mem W keep i
    unfold kept at h ⊢
    cases hb : keepB keep i with
    | false =>
      rw [hb] at h
      obtain ⟨t, h1, h2⟩ := ih j h
      exact ⟨t, by omega, h2⟩
    | true =>
      rw [hb] at h
      have h : j < (kept W keep i).1 + 1 := h
      by_cases hj : j = (kept W keep i).1
      · subst hj
        exact ⟨i, by omega, pushW_at ..⟩
      · obtain ⟨t, h1, h2⟩ := ih j (by omega)
        exact ⟨t, by omega, (pushW_lt _ (by omega)).trans h2⟩
theorem lastF_size {L : Nat → Int × ByteArray} {n : Nat} {z : Int} : ∀ {c i : Nat} {S : Nat → ByteArray}, (∀ j, j < n → ((S j).size : Int) = z) → (∀ j, i ≤ j → j < i + c → ((L j).2.size : Int) = z) → ∀ j, j < n → ((lastF L c i S j).size : Int) = z
  | 0, i, S, h, _ => h
  | c + 1, i, S, h, hL => by
    refine lastF_size (c := c) (i := i + 1) (fun j hj => ?_) fun j h1 h2 => hL j (by omega) (by omega)
    by_cases he : j = (L i).1.toNat
    · subst he
      rw [setS_at]
      exact hL i (by omega) (by omega)
    · rw [setS_ne _ _ he]
      exact h j hj
/-! ### Crash -/
@[reducible] noncomputable def cutV (d : D) (torn : Int) : Int := foldMin (foldMax torn [0]) [d.size]
theorem cutV_spec {d : D} (torn : Int) (h : 0 ≤ d.size) : 0 ≤ cutV d torn ∧ cutV d torn ≤ d.size := by
  unfold cutV foldMin foldMax foldMax foldMin
  split <;> split <;> omega
/-- The sectors that last: m writes are kept, the last one is torn. -/
noncomputable def tornS (d : D) (torn : Int) (m : Nat) (L : Nat → Int × ByteArray) : Nat → ByteArray :=
  bif Nat.beq m 0 then d.S else setS (lastF L (m - 1) 0 d.S) (L (m - 1)).1.toNat ((L (m - 1)).2.extract 0 (cutV d torn).toNat ++ (lastF L (m - 1) 0 d.S (L (m - 1)).1.toNat).extract (cutV d torn).toNat (lastF L (m - 1) 0 d.S (L (m - 1)).1.toNat).size)
noncomputable def crashV (d : D) (keep torn : Int) : D := nilW (wF d (resetV d.fu)) (tornS d torn (kept d.W keep d.k).1 (kept d.W keep d.k).2)
@[reducible] noncomputable def wr1 (m : Nat) : Int := IntKind.i64.wrap ((m : Int) - 1)
@[reducible] noncomputable def dA (d : D) (m : Nat) (L : Nat → Int × ByteArray) : D := nilW d (lastF L ((wr1 m).toNat - 0) 0 d.S)
@[reducible] noncomputable def lx (m : Nat) (L : Nat → Int × ByteArray) : Int × ByteArray := L (addI 0 (wr1 m).toNat)
@[reducible] noncomputable def s1 (d : D) (m : Nat) (L : Nat → Int × ByteArray) : ByteArray := (dA d m L).S (addI 0 (lx m L).1.toNat)
@[reducible] noncomputable def nb (d : D) (torn : Int) (m : Nat) (L : Nat → Int × ByteArray) : ByteArray := (lx m L).2.extract 0 (cutV d torn).toNat ++ (s1 d m L).extract (cutV d torn).toNat ((s1 d m L).size : Int).toNat
@[reducible] noncomputable def tailC {R : Type} (d : D) (torn : Int) (m : Nat) (L : Nat → Int × ByteArray) (K : TV → List (Option SB) → Option R) : Option R :=
  bif decide ((m : Int) > 0) then
    bif decide (0 ≤ wr1 m) && decide (wr1 m < (m : Int)) then bif decide (addI 0 (wr1 m).toNat < m) then bif true && decide (0 ≤ wr1 m) && decide (wr1 m ≤ (m : Int)) then
    bif Nat.ble ((wr1 m).toNat - 0) m && (okD d.n d.k d (fun j => encS (d.S j)) (fun j => encW (d.W j)) && (chkRo encW decW (fun j => encW (L j)) && preW L ((wr1 m).toNat - 0) d.n)) then
    bif true && decide (0 ≤ cutV d torn) && decide (cutV d torn ≤ ((lx m L).2.size : Int)) then bif decide (0 ≤ (lx m L).1) && decide ((lx m L).1 < (d.n : Int)) then bif decide (addI 0 (lx m L).1.toNat < d.n) then
    bif decide (0 ≤ cutV d torn) && decide (cutV d torn ≤ ((s1 d m L).size : Int)) && decide (((s1 d m L).size : Int) ≤ ((s1 d m L).size : Int)) then
    bif decide (((lx m L).2.extract 0 (cutV d torn).toNat).size + ((s1 d m L).extract (cutV d torn).toNat ((s1 d m L).size : Int).toNat).size ≤ 9223372036854775807) then
    bif Nat.ble 1 1 && (okD d.n 0 (dA d m L) (fun j => encS ((dA d m L).S j)) (fun _ => encW (0, ByteArray.empty)) && (chkRo encW decW (lit1 (lx m L).1 (nb d torn m L)) && preW (fun j => decW (lit1 (lx m L).1 (nb d torn m L) j)) 1 d.n)) then
      K (.tup []) ((hpD (nilW (wF d (resetV d.fu)) (lastF (fun j => decW (lit1 (lx m L).1 (nb d torn m L) j)) 1 0 (dA d m L).S))).map some)
    else none else none else none else none else none else none else none else none else none else none
  else bif Nat.ble m m && (okD d.n d.k d (fun j => encS (d.S j)) (fun j => encW (d.W j)) && (chkRo encW decW (fun j => encW (L j)) && preW L m d.n)) then K (.tup []) ((hpD (nilW (wF d (resetV d.fu)) (lastF L m 0 d.S))).map some) else none
@[reducible] noncomputable def gaC (d : D) (keep torn : Int) : Bool × LC := goA (fun _ => false) nxC (d.k - 0) (d, (keep, torn), (0, fun _ => (0, ByteArray.empty)), 0)
theorem t_crash {R : Type} (d : D) (keep torn : Int) (K : TV → List (Option SB) → Option R) : runFnN Try.prog S1 [(0, LpC)] 10 2 Try.f14 (bodyOf Try.f14) [.c (.ptr 0 0), .c (.int .u64 keep), i64 torn] (hpD d) K =
    bif chkC ((keep, torn, 0), 0, d.k, 0, d.n, d.k, d.k, d, (fun j => encS (d.S j)), (fun j => encW (d.W j)), fun _ => encW (0, ByteArray.empty)) then bif okC (d, (keep, torn), (0, fun _ => (0, ByteArray.empty)), 0) then bif (gaC d keep torn).1 then none else
      tailC (gaC d keep torn).2.1 (gaC d keep torn).2.2.1.2 (gaC d keep torn).2.2.2.1.1 (gaC d keep torn).2.2.2.1.2 K else none else none := by kernel_rfl
theorem stepT {R : Type} {a : Bool} {x y : Option R} (ha : a = true) (h : x = y) : (bif a then x else none) = y := by subst ha; exact h
theorem and2 {a b : Bool} (ha : a = true) (hb : b = true) : (a && b) = true := by subst ha hb; rfl
theorem chkW1 (i : Int) (b : ByteArray) : chkRo encW decW (lit1 i b) = true := by
  rw [lit1_eq]
  exact chkRo_true (dec := decW) (enc := encW) (fun _ => rfl) _
theorem decW1 (i : Int) (b : ByteArray) : decW (lit1 i b 0) = (i, b) := rfl
theorem tailC_eq {R : Type} {d : D} (hd : Good d) (torn : Int) {m : Nat} {L : Nat → Int × ByteArray} (hm : m ≤ 4294967296) (hL : ∀ j, j < m → (0 ≤ (L j).1 ∧ (L j).1 < d.n) ∧ ((L j).2.size : Int) = d.size) (K : TV → List (Option SB) → Option R) :
    tailC d torn m L K = K (.tup []) ((hpD (nilW (wF d (resetV d.fu)) (tornS d torn m L))).map some) := by
  have hW : chkRo encW decW (fun j => encW (L j)) = true := chkRo_true (dec := decW) (enc := encW) (fun _ => rfl) _
  cases m with
  | zero =>
    unfold tailC
    rw [decide_eq_false (by omega), cond_false]
    refine stepT (and2 rfl (and2 (okD_self d) (and2 hW (by unfold preW; rw [Bool.and_eq_true, decide_eq_true_eq]; exact ⟨by omega, okWs_spec.2 fun j hj => absurd hj (by omega)⟩)))) ?_
    rfl
  | succ m =>
    have hw : wr1 (m + 1) = (m : Int) := by
      have := wi (x := (((m + 1 : Nat) : Int)) - 1) (by omega)
      unfold wr1
      rw [this]; omega
    have hz := hd.size
    obtain ⟨hc1, hc2⟩ := cutV_spec torn (d := d) (by omega)
    obtain ⟨⟨h1, h2⟩, h3⟩ := hL m (by omega)
    have ex : lx (m + 1) L = L m := by unfold lx; rw [hw, Int.toNat_natCast, ai0]
    have eA : dA d (m + 1) L = nilW d (lastF L m 0 d.S) := by unfold dA; rw [hw, Int.toNat_natCast, Nat.sub_zero]
    have es : s1 d (m + 1) L = lastF L m 0 d.S (L m).1.toNat := by unfold s1; rw [eA, ex, ai0]
    have hs : ((s1 d (m + 1) L).size : Int) = d.size := by
      rw [es]
      exact lastF_size hd.S (fun j _ hj => (hL j (by omega)).2) _ (by omega)
    have hsz : ((nb d torn (m + 1) L).size : Int) = d.size := by
      unfold nb
      rw [ByteArray.size_append, ByteArray.size_extract, ByteArray.size_extract, ex]
      omega
    unfold tailC
    rw [decide_eq_true (show ((m + 1 : Nat) : Int) > 0 by omega), cond_true]
    rw [hw, ex, Int.toNat_natCast, ai0, ai0, Nat.sub_zero]
    refine stepT (and2 (decide_eq_true (by omega)) (decide_eq_true (by omega))) ?_
    refine stepT (decide_eq_true (by omega)) ?_
    refine stepT (and2 (and2 rfl (decide_eq_true (by omega))) (decide_eq_true (by omega))) ?_
    refine stepT (and2 (by rw [Nat.ble_eq]; omega) (and2 (okD_self d) (and2 hW (by unfold preW; rw [Bool.and_eq_true, decide_eq_true_eq]; exact ⟨by omega, okWs_spec.2 fun j hj => (hL j (by omega)).1⟩)))) ?_
    refine stepT (and2 (and2 rfl (decide_eq_true hc1)) (decide_eq_true (by omega))) ?_
    refine stepT (and2 (decide_eq_true h1) (decide_eq_true h2)) ?_
    refine stepT (decide_eq_true (by omega)) ?_
    refine stepT (and2 (and2 (decide_eq_true hc1) (decide_eq_true (by omega))) (decide_eq_true (by omega))) ?_
    refine stepT (decide_eq_true (by rw [ByteArray.size_extract, ByteArray.size_extract]; omega)) ?_
    refine stepT (and2 rfl (and2 (okD_self (nilW d (dA d (m + 1) L).S)) (and2 (chkW1 ..) (by
      unfold preW
      rw [Bool.and_eq_true, decide_eq_true_eq]
      refine ⟨by omega, okWs_spec.2 fun j hj => ?_⟩
      obtain rfl : j = 0 := by omega
      rw [decW1]
      exact ⟨h1, h2⟩)))) ?_
    have e : lastF (fun j => decW (lit1 (L m).1 (nb d torn (m + 1) L) j)) 1 0 (dA d (m + 1) L).S = tornS d torn (m + 1) L := by
      show setS (dA d (m + 1) L).S (decW (lit1 (L m).1 (nb d torn (m + 1) L) 0)).1.toNat (decW (lit1 (L m).1 (nb d torn (m + 1) L) 0)).2 = _
      rw [decW1]
      unfold tornS nb
      rw [es, ex, eA]
      rfl
    rw [e]
noncomputable def V_crash : List SV → D → Cs
  | [.c (.ptr 0 0), .c (.int .u64 keep), .c (.int .i64 torn)], d => .br (gB d) (oD (.tup []) (crashV d keep torn)) .no
  | _, _ => .no
theorem kept_ok {d : D} (hd : Good d) (keep : Int) : (kept d.W keep d.k).1 ≤ 4294967296 ∧ ∀ j, j < (kept d.W keep d.k).1 → (0 ≤ ((kept d.W keep d.k).2 j).1 ∧ ((kept d.W keep d.k).2 j).1 < d.n) ∧ (((kept d.W keep d.k).2 j).2.size : Int) = d.size := by
  refine ⟨Nat.le_trans (kept_le d.W keep d.k) hd.k, fun j hj => ?_⟩
  obtain ⟨t, h1, h2⟩ := kept_mem d.W keep d.k j hj
  rw [h2]
  exact hd.W t h1
theorem ok_crash : SumOk Try.prog 14 (genSumN (gD V_crash)) := by
  refine okN okS1 Try.func14 (c := bodyOf Try.f14) (by kernel_rfl) (by kernel_rfl) ?_
  intro args d x h
  unfold V_crash at h
  split at h
  · rename_i keep torn
    cases hk : gB d with
    | false => rw [hk] at h; cases h
    | true =>
      rw [hk] at h
      cases h
      have hd := gB_spec.1 hk
      refine ⟨rfl, [(0, LpC)], 10, loopsOk_ix 1 (by kernel_rfl) ⟨trivial, loopOk_here (n := 0) (by kernel_rfl) rfl loopC⟩, (t_crash ..).trans ?_⟩
      have e : gaC d keep torn = (false, (d, (keep, torn), kept d.W keep d.k, d.k)) := by
        have := goA_crash d keep torn d.k 0
        rw [Nat.zero_add] at this
        exact this
      refine okG (by
        unfold chkC
        simp only [Bool.and_eq_true, decide_eq_true_eq]
        exact ⟨by omega, rfl, Nat.beq_refl _, trivial, chkRo_true (dec := decW) (enc := encW) (fun _ => rfl) fun _ => (0, ByteArray.empty), okD_self d⟩) (by
        unfold okC
        simp only [Bool.and_eq_true, decide_eq_true_eq]
        exact ⟨by omega, hd.k, by omega⟩) (by rw [e]) ?_
      rw [e]
      exact tailC_eq hd torn (kept_ok hd keep).1 (kept_ok hd keep).2 _
  · cases h
end Go.Proofs.Ytkkacjmjjhjpeaa.Dk

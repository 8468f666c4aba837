/- How a model settles. Plain, part 1: the route, filling. -/
import Derived.Test.YtpebebhjmnmcbaaMticks2
import Derived.Test.YtpebebhjmnmcbaaMdCell2
set_option maxRecDepth 100000
set_option linter.unusedSimpArgs false
set_option linter.unusedVariables false
namespace Go.Proofs.Ytpebebhjmnmcbaa.Md
open Go Go.Proofs.Ytpebebhjmnmcbaa.Sx
/-! ### Calls of a route that may be: told, or an outcome less -/
/-- A router whose fuse bears any calls. -/
def Free (r : Rt.Rou) : Prop := r.left = -1 ∧ r.blown = false
/-- A call of this route isn't too old. -/
def Newer (r : Rt.Rou) (to : Rt.Cell) : Prop := r.gen < to.gen ∨ r.gen = to.gen ∧ r.slot = to.slot
structure CallF (r : Rt.Rou) (to : Rt.Cell) (x : Int × Rt.Rou) : Prop where
  free : Free x.2
  newer : Newer x.2 to
  n : x.2.n ≤ r.n
  res : x.1 = 0 ∨ x.1 = 10 ∧ x.2.n < r.n
theorem next_n' (r : Rt.Rou) (o : Nat → Int) : (Rt.nextV r o).2.left = r.left ∧ (Rt.nextV r o).2.blown = r.blown ∧ ((Rt.nextV r o).2.n < r.n ∨ (Rt.nextV r o).2.n = r.n ∧ (Rt.nextV r o).1 = 0) := by
  unfold Rt.nextV
  by_cases h : r.n = 0
  · rw [show ((r.n : Int) == 0) = true by simp [h]]; exact ⟨rfl, rfl, .inr ⟨rfl, rfl⟩⟩
  · rw [show ((r.n : Int) == 0) = false by simp [h]]; exact ⟨rfl, rfl, .inl (by simp only [cond_false]; omega)⟩
theorem set_f {r : Rt.Rou} (o : Nat → Int) {c : Rt.Cell} (h : Newer r c) : (Rt.setV r o c).1 = 0 ∧ (Rt.setV r o c).2.left = r.left ∧ (Rt.setV r o c).2.blown = r.blown ∧ (Rt.setV r o c).2.n = r.n ∧ Newer (Rt.setV r o c).2 c := by
  unfold Rt.setV
  by_cases hg : c.gen > r.gen
  · rw [decide_eq_true hg]; exact ⟨rfl, rfl, rfl, rfl, .inr ⟨rfl, rfl⟩⟩
  · rw [decide_eq_false hg]
    rcases h with h | ⟨h1, h2⟩
    · omega
    · have : (c.slot == r.slot && c.gen == r.gen) = true := by simp [h1, h2]
      rw [this]
      exact ⟨rfl, rfl, rfl, rfl, .inr ⟨h1, h2⟩⟩
theorem spend_free {r : Rt.Rou} (h : Free r) : (Rt.spendV (Rt.fu r)).1 = true ∧ Free (Rt.spend1 r) ∧ (Rt.spend1 r).n = r.n ∧ (Rt.spend1 r).gen = r.gen ∧ (Rt.spend1 r).slot = r.slot := by
  obtain ⟨h1, h2⟩ := h
  have e : Rt.spendV (Rt.fu r) = (true, ⟨-1, false, IntKind.i64.wrap (r.count + 1)⟩) := by
    unfold Rt.spendV
    simp [h1, h2]
  refine ⟨by rw [e], ?_, rfl, rfl, rfl⟩
  unfold Rt.spend1
  rw [e]
  exact ⟨rfl, rfl⟩
theorem call_f {r : Rt.Rou} (o : Nat → Int) {to : Rt.Cell} (hf : Free r) (hn : Newer r to) (hs : to.slot = 0 ∨ to.slot = 1) (hg : 1 ≤ to.gen ∧ to.gen ≤ 1048576) : CallF r to (Rt.callV r o to.gen to.slot) := by
  obtain ⟨s1, s2, s3, s4, s5⟩ := spend_free hf
  obtain ⟨x1, x2⟩ := next_cell (Rt.spend1 r) o
  obtain ⟨y1, y2, y3⟩ := next_n' (Rt.spend1 r) o
  have hf1 : Free (Rt.nextV (Rt.spend1 r) o).2 := ⟨y1.trans s2.1, y2.trans s2.2⟩
  have hn1 : Newer (Rt.nextV (Rt.spend1 r) o).2 to := by
    unfold Newer
    rw [x1, x2, s4, s5]
    exact hn
  obtain ⟨z1, z2, z3, z4, z5⟩ := set_f (c := ⟨to.slot, to.gen⟩) o hn1
  have hf2 : Free (Rt.setV (Rt.nextV (Rt.spend1 r) o).2 o ⟨to.slot, to.gen⟩).2 := ⟨z2.trans hf1.1, z3.trans hf1.2⟩
  have hb : (!(to.slot == 0 || to.slot == 1) || (decide (to.gen < 1) || decide (to.gen > 1048576))) = false := by
    rcases hs with hs | hs <;> rw [hs, decide_eq_false (show ¬ to.gen < 1 by omega), decide_eq_false (show ¬ to.gen > 1048576 by omega)] <;> rfl
  unfold Rt.callV
  rw [hb, cond_false, s1]
  simp only [Bool.not_true, cond_false]
  by_cases h2 : (Rt.nextV (Rt.spend1 r) o).1 = 2
  · rw [show ((Rt.nextV (Rt.spend1 r) o).1 == 2) = true by simpa using h2, cond_true]
    refine ⟨hf1, hn1, by simp only; omega, .inr ⟨rfl, ?_⟩⟩
    simp only
    omega
  · rw [show ((Rt.nextV (Rt.spend1 r) o).1 == 2) = false by simpa using h2, cond_false]
    by_cases h1 : (Rt.nextV (Rt.spend1 r) o).1 = 1
    · rw [show ((Rt.nextV (Rt.spend1 r) o).1 == 1) = true by simpa using h1, cond_true]
      refine ⟨hf2, z5, by simp only; omega, .inr ⟨rfl, ?_⟩⟩
      simp only
      omega
    · rw [show ((Rt.nextV (Rt.spend1 r) o).1 == 1) = false by simpa using h1, cond_false]
      exact ⟨hf2, z5, by simp only; omega, .inl z1⟩
structure SetF (r : Rt.Rou) (to : Rt.Cell) (x : Int × Int × Rt.Rou) : Prop where
  free : Free x.2.2
  newer : Newer x.2.2 to
  n : x.2.2.n ≤ r.n
  res : x.1 = 0 ∨ x.1 = 10
theorem setG_f (o : Nat → Int) {to : Rt.Cell} (T : Int) (hs : to.slot = 0 ∨ to.slot = 1) (hg : 1 ≤ to.gen ∧ to.gen ≤ 1048576) : ∀ (k : Nat) (n : Int) (r : Rt.Rou), Free r → Newer r to → SetF r to (Rt.setG o to T k n r) ∧ ((Rt.setG o to T (k + 1) n r).1 ≠ 0 → (Rt.setG o to T (k + 1) n r).2.2.n < r.n) ∧ SetF r to (Rt.setG o to T (k + 1) n r)
  | k, n, r, hf, hn => by
    have hc := call_f o hf hn hs hg
    have hk : SetF r to (Rt.setG o to T k n r) := by
      match k with
      | 0 => exact ⟨hf, hn, Nat.le_refl _, .inr rfl⟩
      | k + 1 => exact (setG_f o T hs hg k n r hf hn).2.2
    refine ⟨hk, ?_⟩
    have hk2 : SetF (Rt.callV r o to.gen to.slot).2 to (Rt.setG o to T k (n + 1) (Rt.callV r o to.gen to.slot).2) := by
      match k with
      | 0 => exact ⟨hc.free, hc.newer, Nat.le_refl _, .inr rfl⟩
      | k + 1 => exact (setG_f o T hs hg k (n + 1) (Rt.callV r o to.gen to.slot).2 hc.free hc.newer).2.2
    unfold Rt.setG
    rcases hc.res with h0 | ⟨h10, hlt⟩
    · rw [show ((Rt.callV r o to.gen to.slot).1 != 10) = true by simp [h0], cond_true]
      exact ⟨fun h => absurd h0 h, ⟨hc.free, hc.newer, hc.n, .inl h0⟩⟩
    · rw [show ((Rt.callV r o to.gen to.slot).1 != 10) = false by simp [h10], cond_false]
      cases n == T with
      | true => exact ⟨fun _ => hlt, ⟨hc.free, hc.newer, hc.n, .inr h10⟩⟩
      | false =>
        rw [cond_false]
        have h1 := hk2.n
        exact ⟨fun _ => by omega, ⟨hk2.free, hk2.newer, by omega, hk2.res⟩⟩
  termination_by k => k
theorem cset_f {r : Rt.Rou} (o : Nat → Int) {to : Rt.Cell} (T : Int) (hs : to.slot = 0 ∨ to.slot = 1) (hg : 1 ≤ to.gen ∧ to.gen ≤ 1048576) (hf : Free r) (hn : Newer r to) : SetF r to (Rt.csetV r o to T) ∧ ((Rt.csetV r o to T).1 ≠ 0 → (Rt.csetV r o to T).2.2.n < r.n) :=
  ⟨(setG_f o (Rt.clamp T) hs hg 7 1 r hf hn).2.2, (setG_f o (Rt.clamp T) hs hg 7 1 r hf hn).2.1⟩
/-! ### Filling -/
noncomputable def fillK (slot : Int) : Nat → Int → Md → Md
  | 0, _, m => m
  | k + 1, i, m => fillK slot k (i + 1) (readyM m slot i true)
noncomputable def fillM (m : Md) : Md := fillK 1 32 0 (fillK 0 32 0 m)
/-- As many as i are ready. -/
def Upto (s : Rep.Sl) (i : Int) : Prop := ∀ j : Nat, (j : Int) < i → (j : Int) < s.want → s.f j = true
theorem upto_ready {s : Rep.Sl} {i : Int} (h : Upto s i) (h0 : 0 ≤ i) (h32 : s.want ≤ 32) : Upto (Rep.sreadyS s i true) (i + 1) := by
  intro j h1 h2
  rw [Rep.ready_want] at h2
  unfold Rep.sreadyS
  cases hb : Rep.sreadyB s i with
  | false =>
    rw [cond_false]
    have : ¬ i < s.want := by
      intro hc
      unfold Rep.sreadyB at hb
      rw [decide_eq_false (show ¬ i < 0 by omega), decide_eq_false (show ¬ i ≥ s.want by omega)] at hb
      cases hb
    exact h j (by omega) h2
  | true =>
    rw [cond_true, Rep.mkS_f _ _ _ (by omega)]
    by_cases e : i = (j : Int)
    · rw [show (i == (j : Int)) = true by simpa using e]; rfl
    · rw [show (i == (j : Int)) = false by simpa using e]
      exact h j (by omega) h2
structure Fl (m m' : Md) : Prop where
  st : m'.st = m.st
  r : m'.r = m.r
  tries : m'.tries = m.tries
  tick : m'.tick = m.tick
theorem Fl.refl (m : Md) : Fl m m := ⟨rfl, rfl, rfl, rfl⟩
theorem Fl.trans {a b c : Md} (h : Fl a b) (h' : Fl b c) : Fl a c := ⟨h'.st.trans h.st, h'.r.trans h.r, h'.tries.trans h.tries, h'.tick.trans h.tick⟩
theorem ready_a (m : Md) (i : Int) : Fl m (readyM m 0 i true) ∧ (readyM m 0 i true).a = Rep.sreadyS m.a i true ∧ (readyM m 0 i true).b = m.b := ⟨⟨rfl, rfl, rfl, rfl⟩, rfl, rfl⟩
theorem ready_b (m : Md) (i : Int) : Fl m (readyM m 1 i true) ∧ (readyM m 1 i true).b = Rep.sreadyS m.b i true ∧ (readyM m 1 i true).a = m.a := ⟨⟨rfl, rfl, rfl, rfl⟩, rfl, rfl⟩
theorem fillK_inv (slot : Int) {N : Nat} : ∀ (k : Nat) (i : Int) (m : Md), Inv m N → Inv (fillK slot k i m) N
  | 0, _, _, h => h
  | k + 1, i, m, h => fillK_inv slot k (i + 1) _ (inv_ready h _ _ _)
theorem fillK_a {N : Nat} : ∀ (k : Nat) (i : Int) (m : Md), Inv m N → 0 ≤ i → Upto m.a i → Fl m (fillK 0 k i m) ∧ Upto (fillK 0 k i m).a (i + k) ∧ (fillK 0 k i m).b = m.b
  | 0, i, m, _, _, h => ⟨Fl.refl m, by rw [show i + ((0 : Nat) : Int) = i by omega]; exact h, rfl⟩
  | k + 1, i, m, hI, h0, h => by
    obtain ⟨e1, e2, e3⟩ := ready_a m i
    have h32 : m.a.want ≤ 32 := by rw [hI.a]; exact (right_want hI.right).1.2
    obtain ⟨i1, i2, i3⟩ := fillK_a k (i + 1) (readyM m 0 i true) (inv_ready hI _ _ _) (by omega) (by rw [e2]; exact upto_ready h h0 h32)
    refine ⟨e1.trans i1, ?_, i3.trans e3⟩
    rw [show i + ((k + 1 : Nat) : Int) = i + 1 + (k : Int) by omega]
    exact i2
theorem fillK_b {N : Nat} : ∀ (k : Nat) (i : Int) (m : Md), Inv m N → 0 ≤ i → Upto m.b i → Fl m (fillK 1 k i m) ∧ Upto (fillK 1 k i m).b (i + k) ∧ (fillK 1 k i m).a = m.a
  | 0, i, m, _, _, h => ⟨Fl.refl m, by rw [show i + ((0 : Nat) : Int) = i by omega]; exact h, rfl⟩
  | k + 1, i, m, hI, h0, h => by
    obtain ⟨e1, e2, e3⟩ := ready_b m i
    have h32 : m.b.want ≤ 32 := by rw [hI.b]; exact (right_want hI.right).2.2
    obtain ⟨i1, i2, i3⟩ := fillK_b k (i + 1) (readyM m 1 i true) (inv_ready hI _ _ _) (by omega) (by rw [e2]; exact upto_ready h h0 h32)
    refine ⟨e1.trans i1, ?_, i3.trans e3⟩
    rw [show i + ((k + 1 : Nat) : Int) = i + 1 + (k : Int) by omega]
    exact i2
/-- As many as are wanted. -/
theorem cnt_upto {f : Nat → Bool} {w : Int} : ∀ (k i : Nat) (n : Int), (∀ j, j < k → f (i + j) = decide (((i + j : Nat) : Int) < w)) → Rep.cntN f k i n = n + max (min w (i + k) - i) 0
  | 0, i, n, _ => by unfold Rep.cntN; omega
  | k + 1, i, n, h => by
    unfold Rep.cntN
    have ih := cnt_upto (f := f) (w := w) k (i + 1) (bif f i then n + 1 else n) fun j hj => by
      have := h (j + 1) (by omega)
      rwa [show i + (j + 1) = i + 1 + j by omega] at this
    rw [ih]
    have h0 := h 0 (by omega)
    rw [Nat.add_zero] at h0
    rw [h0]
    by_cases hw : (i : Int) < w
    · rw [decide_eq_true hw]; simp only [cond_true]; omega
    · rw [decide_eq_false hw]; simp only [cond_false]; omega
theorem count_full {s : Rep.Sl} (h : Upto s 32) (hc : Clean s) (h0 : 0 ≤ s.want) (h1 : s.want ≤ 32) : Rep.scount s = s.want := by
  unfold Rep.scount
  rw [cnt_upto (w := s.want) 32 0 0 fun j hj => ?_]
  · omega
  · rw [Nat.zero_add]
    by_cases hw : (j : Int) < s.want
    · rw [decide_eq_true hw]; exact h j (by omega) hw
    · rw [decide_eq_false hw]; exact hc j (by omega)
/-- All that are wanted are ready. -/
def AllR (m : Md) : Prop := Rep.scount m.a = m.a.want ∧ Rep.scount m.b = m.b.want
theorem fill_f {m : Md} {N : Nat} (h : Inv m N) : Inv (fillM m) N ∧ Fl m (fillM m) ∧ AllR (fillM m) := by
  have i1 : Inv (fillK 0 32 0 m) N := fillK_inv 0 32 0 m h
  have i2 : Inv (fillM m) N := fillK_inv 1 32 0 _ i1
  obtain ⟨a1, a2, a3⟩ := fillK_a 32 0 m h (by omega) fun j hj => by omega
  obtain ⟨b1, b2, b3⟩ := fillK_b 32 0 (fillK 0 32 0 m) i1 (by omega) fun j hj => by omega
  have hw := right_want i2.right
  refine ⟨i2, a1.trans b1, ?_, ?_⟩
  · refine count_full ?_ i2.ca (by rw [i2.a]; exact hw.1.1) (by rw [i2.a]; exact hw.1.2)
    show Upto (fillK 1 32 0 (fillK 0 32 0 m)).a 32
    rw [b3]; exact a2
  · exact count_full b2 i2.cb (by rw [i2.b]; exact hw.2.1) (by rw [i2.b]; exact hw.2.2)
end Go.Proofs.Ytpebebhjmnmcbaa.Md

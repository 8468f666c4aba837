/- A line's words; the law StatusOne: true, and no memory that was there is written. -/
import Derived.Test.YtkkacjmjjhjpeaaDoorSt9
set_option maxRecDepth 100000
set_option linter.unusedSimpArgs false
set_option linter.unusedVariables false
namespace Go.Proofs.YtkkacjmjjhjpeaaDoor.St
open Go Go.Proofs.YtkkacjmjjhjpeaaDoor.Sx Go.Shelf Go.RowKit

/-! ### Strings as lists -/
theorem loop_list (s : ByteArray) : ∀ (k i : Nat) (r : List UInt8), i + k = s.size → ByteArray.toList.loop s i r = r.reverse ++ s.data.toList.drop i
  | 0, i, r, h => by
    rw [ByteArray.toList.loop, if_neg (by omega)]
    have hs : s.data.toList.length = s.size := rfl
    rw [List.drop_eq_nil_of_le (by omega), List.append_nil]
  | k + 1, i, r, h => by
    have hi : i < s.size := by omega
    rw [ByteArray.toList.loop, if_pos hi, loop_list s k (i + 1) _ (by omega)]
    have hlt : i < s.data.toList.length := hi
    rw [List.drop_eq_getElem_cons hlt]
    have h2 : i < s.data.size := hi
    have : s.get! i = s.data.toList[i] := by
      show s.data[i]! = _
      rw [getElem!_pos s.data i h2]
      rfl
    rw [this, List.reverse_cons, List.append_assoc]
    rfl
theorem toList_eq (s : ByteArray) : s.toList = s.data.toList := by
  rw [ByteArray.toList, loop_list s s.size 0 [] (by omega)]; rfl
theorem beq_str {a b : ByteArray} : (a.toList == b.toList) = decide (a = b) := by
  rw [toList_eq, toList_eq]
  by_cases h : a = b
  · subst h; simp
  · rw [decide_eq_false h, beq_eq_false_iff_ne]
    exact fun e => h (bytes_ext e)

/-! ### Words -/
def bL (s : ByteArray) : List UInt8 := s.data.toList
def headW (w : ByteArray) (r : Rp) : List (List UInt8) := [bL (erB r.err), bL w, [116, 105, 99, 107], Lib.itoa r.tick, [114, 111, 117, 116, 101], Lib.itoa r.slot, Lib.itoa r.cgen]
def moreW (r : Rp) : List (List UInt8) := [bL (phB r.phase), [97, 99, 116, 105, 118, 101], Lib.itoa r.active, [103, 101, 110], Lib.itoa r.gen, [114, 101, 118], Lib.itoa r.rev0, Lib.itoa r.rev1, [119, 97, 110, 116], Lib.itoa r.vwant0, Lib.itoa r.vwant1, [114, 101, 97, 100, 121], Lib.itoa r.ready0, Lib.itoa r.ready1]
/-- The words of a reply's line. -/
def wordsOf (r : Rp) : List (List UInt8) := bif r.up then headW upW r ++ moreW r else headW dnW r
theorem line_words (r : Rp) : (lineB r).data.toList = Lib.join (wordsOf r) [32] ++ [10] := by
  unfold lineB wordsOf
  cases r.up
  · simp only [cond_false, app_data, joinB_data, headW, bL, l4, List.map_cons, List.map_nil, Lib.join_cons, Lib.joinTail, wordsB, List.foldl_cons, List.foldl_nil, addW, itoaB_data, List.flatten_cons, List.flatten_nil, List.append_assoc, List.append_nil, List.cons_append, List.nil_append]
  · simp only [cond_true, app_data, joinB_data, headW, moreW, bL, l4, l6, List.map_cons, List.map_nil, Lib.join_cons, Lib.joinTail, wordsB, List.foldl_cons, List.foldl_nil, addW, itoaB_data, List.flatten_cons, List.flatten_nil, List.append_assoc, List.append_nil, List.cons_append, List.nil_append]
/-- A word: not empty, without a blank or a line feed. -/
def plainW (w : List UInt8) : Bool := !w.isEmpty && w.all fun b => b != 32 && b != 10
theorem plain_dec : ∀ (n u : Nat), u ≤ n → plainW (Lib.decDigits u) = true
  | 0, u, h => by
    rw [dec_small (by omega)]
    obtain rfl : u = 0 := by omega
    decide
  | n + 1, u, h => by
    have hd : ∀ k : Fin 10, plainW [UInt8.ofNat (48 + k)] = true := by decide
    by_cases hu : u < 10
    · rw [dec_small hu]; exact hd ⟨u, hu⟩
    · rw [dec_big hu]
      have h1 := plain_dec n (u / 10) (by omega)
      have h2 : plainW (Lib.decDigits (u % 10)) = true := by
        rw [dec_small (Nat.mod_lt _ (by decide))]; exact hd ⟨u % 10, Nat.mod_lt _ (by decide)⟩
      simp only [plainW, Bool.and_eq_true, List.all_append] at h1 h2 ⊢
      refine ⟨?_, h1.2, h2.2⟩
      cases hx : Lib.decDigits (u / 10) with
      | nil => rw [hx] at h1; cases h1.1
      | cons x r => rfl
theorem plain_itoa (n : Int) : plainW (Lib.itoa n) = true := by
  by_cases h : n < 0
  · rw [itoa_neg h]
    have := plain_dec n.natAbs n.natAbs (Nat.le_refl _)
    simp only [plainW, Bool.and_eq_true, List.all_cons] at this ⊢
    exact ⟨rfl, ⟨by decide, by decide⟩, this.2⟩
  · rw [itoa_nat (by omega)]
    exact plain_dec _ _ (Nat.le_refl _)
theorem plain_er (p : Int) : plainW (bL (erB p)) = true := by
  unfold erB
  by_cases h : 0 ≤ p ∧ p < 15
  · rw [decide_eq_true h.1, decide_eq_true h.2]
    have h2 : ∀ k : Fin 15, plainW (bL (erL.getD k .empty)) = true := by decide
    exact h2 ⟨p.toNat, by omega⟩
  · have : (decide (0 ≤ p) && decide (p < 15)) = false := by simpa using h
    rw [this]; exact of_decide_eq_true rfl
theorem plain_ph (p : Int) : plainW (bL (phB p)) = true := by
  unfold phB
  by_cases h : 0 ≤ p ∧ p < 8
  · rw [decide_eq_true h.1, decide_eq_true h.2]
    have h2 : ∀ k : Fin 8, plainW (bL (phL.getD k .empty)) = true := by decide
    exact h2 ⟨p.toNat, by omega⟩
  · have : (decide (0 ≤ p) && decide (p < 8)) = false := by simpa using h
    rw [this]; exact of_decide_eq_true rfl
theorem plain_head {w : ByteArray} (hw : plainW (bL w) = true) (r : Rp) : (headW w r).all plainW = true := by
  simp only [headW, List.all_cons, List.all_nil, Bool.and_true, plain_er, plain_itoa, hw, Bool.true_and]
  decide
theorem plain_more (r : Rp) : (moreW r).all plainW = true := by
  simp only [moreW, List.all_cons, List.all_nil, Bool.and_true, plain_ph, plain_itoa, Bool.true_and]
  decide
theorem plain_words (r : Rp) : (wordsOf r).all plainW = true := by
  unfold wordsOf
  cases r.up
  · exact plain_head (by decide) r
  · rw [cond_true, List.all_append, plain_head (by decide) r, plain_more]; rfl
/-- Words that are parted by a blank each are found again. -/
theorem split_one {x y T U : List UInt8} (hx : x.all (fun b => b != 32) = true) (hy : y.all (fun b => b != 32) = true) (hT : T = [] ∨ ∃ t, T = 32 :: t) (hU : U = [] ∨ ∃ t, U = 32 :: t) (h : x ++ T = y ++ U) : x = y ∧ T = U := by
  have tk : ∀ {x T : List UInt8}, x.all (fun b => b != 32) = true → (T = [] ∨ ∃ t, T = 32 :: t) → (x ++ T).takeWhile (fun b => b != 32) = x := by
    intro x T hx hT
    induction x with
    | nil =>
      rcases hT with rfl | ⟨t, rfl⟩
      · rfl
      · rfl
    | cons a r ih =>
      simp only [List.all_cons, Bool.and_eq_true] at hx
      rw [List.cons_append, List.takeWhile_cons, if_pos hx.1, ih hx.2]
  have h1 := tk hx hT
  rw [h, tk hy hU] at h1
  subst h1
  exact ⟨rfl, List.append_cancel_left h⟩
theorem tail_form (r : List (List UInt8)) : Lib.joinTail [32] r = [] ∨ ∃ t, Lib.joinTail [32] r = 32 :: t := by
  cases r with
  | nil => exact .inl rfl
  | cons y r => exact .inr ⟨y ++ Lib.joinTail [32] r, by simp [Lib.joinTail]⟩
theorem noBl {w : List UInt8} (h : plainW w = true) : w.all (fun b => b != 32) = true := by
  simp only [plainW, Bool.and_eq_true] at h
  rw [List.all_eq_true] at h ⊢
  intro b hb
  have := h.2 b hb
  simp only [Bool.and_eq_true] at this
  exact this.1
theorem tail_inj : ∀ {a b : List (List UInt8)}, a.all plainW = true → b.all plainW = true → Lib.joinTail [32] a = Lib.joinTail [32] b → a = b
  | [], [], _, _, _ => rfl
  | [], y :: r, _, _, h => by simp [Lib.joinTail] at h
  | x :: r, [], _, _, h => by simp [Lib.joinTail] at h
  | x :: a, y :: b, h1, h2, h => by
    simp only [List.all_cons, Bool.and_eq_true] at h1 h2
    have h : x ++ Lib.joinTail [32] a = y ++ Lib.joinTail [32] b := by simpa [Lib.joinTail] using h
    obtain ⟨rfl, h3⟩ := split_one (noBl h1.1) (noBl h2.1) (tail_form _) (tail_form _) h
    rw [tail_inj h1.2 h2.2 h3]
theorem join_inj {a b : List (List UInt8)} (h1 : a.all plainW = true) (h2 : b.all plainW = true) (ha : a ≠ []) (hb : b ≠ []) (h : Lib.join a [32] = Lib.join b [32]) : a = b := by
  match a, b, ha, hb with
  | x :: a, y :: b, _, _ =>
    rw [Lib.join_cons, Lib.join_cons] at h
    simp only [List.all_cons, Bool.and_eq_true] at h1 h2
    obtain ⟨rfl, h3⟩ := split_one (noBl h1.1) (noBl h2.1) (tail_form _) (tail_form _) h
    rw [tail_inj h1.2 h2.2 h3]
theorem words_ne (r : Rp) : wordsOf r ≠ [] := by
  unfold wordsOf
  cases r.up <;> simp [headW]
/-- Lines that are the same have the same words. -/
theorem line_inj {r s : Rp} (h : lineB r = lineB s) : wordsOf r = wordsOf s := by
  have h1 := line_words r
  rw [h, line_words s] at h1
  exact join_inj (plain_words r) (plain_words s) (words_ne r) (words_ne s) (List.append_cancel_right h1).symm

/-! ### Numbers and names are told apart -/
theorem dec_val : ∀ (n u : Nat), u ≤ n → (Lib.decDigits u).foldl (fun a b => a * 10 + (b.toNat - 48)) 0 = u
  | n, u, h => by
    have hd : ∀ k : Fin 10, (UInt8.ofNat (48 + k)).toNat - 48 = k := by decide
    by_cases hu : u < 10
    · rw [dec_small hu]
      have := hd ⟨u, hu⟩
      simpa using this
    · match n with
      | 0 => omega
      | n + 1 =>
        rw [dec_big hu, List.foldl_append, dec_val n (u / 10) (by omega), dec_small (Nat.mod_lt _ (by decide))]
        have := hd ⟨u % 10, Nat.mod_lt _ (by decide)⟩
        simp only [List.foldl_cons, List.foldl_nil]
        simp only at this
        rw [this]
        omega
theorem dec_inj {u v : Nat} (h : Lib.decDigits u = Lib.decDigits v) : u = v := by
  rw [← dec_val u u (Nat.le_refl _), h, dec_val v v (Nat.le_refl _)]
theorem dec_minus : ∀ (n u : Nat), u ≤ n → (Lib.decDigits u).all (fun b => b != 45) = true
  | n, u, h => by
    have hd : ∀ k : Fin 10, [UInt8.ofNat (48 + k)].all (fun b => b != 45) = true := by decide
    by_cases hu : u < 10
    · rw [dec_small hu]; exact hd ⟨u, hu⟩
    · match n with
      | 0 => omega
      | n + 1 =>
        rw [dec_big hu, List.all_append, dec_minus n (u / 10) (by omega), dec_small (Nat.mod_lt _ (by decide))]
        exact hd ⟨u % 10, Nat.mod_lt _ (by decide)⟩
theorem itoa_inj {a b : Int} (h : Lib.itoa a = Lib.itoa b) : a = b := by
  have hm : ∀ (u : Nat) (l : List UInt8), Lib.decDigits u ≠ 45 :: l := by
    intro u l e
    have := dec_minus u u (Nat.le_refl _)
    rw [e] at this
    simp at this
  by_cases ha : a < 0
  · by_cases hb : b < 0
    · rw [itoa_neg ha, itoa_neg hb] at h
      have := dec_inj (List.cons.inj h).2
      omega
    · rw [itoa_neg ha, itoa_nat (by omega)] at h
      exact absurd h.symm (hm _ _)
  · by_cases hb : b < 0
    · rw [itoa_nat (by omega), itoa_neg hb] at h
      exact absurd h (hm _ _)
    · rw [itoa_nat (by omega), itoa_nat (by omega)] at h
      have := dec_inj h
      omega
theorem er_inj {p q : Int} (h1 : 0 ≤ p ∧ p < 15) (h2 : 0 ≤ q ∧ q < 15) (h : bL (erB p) = bL (erB q)) : p = q := by
  unfold erB at h
  rw [decide_eq_true h1.1, decide_eq_true h1.2, decide_eq_true h2.1, decide_eq_true h2.2] at h
  have hk : ∀ k l : Fin 15, bL (erL.getD k .empty) = bL (erL.getD l .empty) → k = l := by decide
  have := hk ⟨p.toNat, by omega⟩ ⟨q.toNat, by omega⟩ h
  simp only [Fin.mk.injEq] at this
  omega
theorem ph_inj {p q : Int} (h1 : 0 ≤ p ∧ p < 8) (h2 : 0 ≤ q ∧ q < 8) (h : bL (phB p) = bL (phB q)) : p = q := by
  unfold phB at h
  rw [decide_eq_true h1.1, decide_eq_true h1.2, decide_eq_true h2.1, decide_eq_true h2.2] at h
  have hk : ∀ k l : Fin 8, bL (phL.getD k .empty) = bL (phL.getD l .empty) → k = l := by decide
  have := hk ⟨p.toNat, by omega⟩ ⟨q.toNat, by omega⟩ h
  simp only [Fin.mk.injEq] at this
  omega
end Go.Proofs.YtkkacjmjjhjpeaaDoor.St

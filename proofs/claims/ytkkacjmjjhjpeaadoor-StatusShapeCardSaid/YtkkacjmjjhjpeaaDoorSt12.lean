/- The law StatusShape: true, and no memory that was there is written. -/
import Derived.Test.YtkkacjmjjhjpeaaDoorSt10
set_option maxRecDepth 100000
set_option linter.unusedSimpArgs false
set_option linter.unusedVariables false
namespace Go.Proofs.YtkkacjmjjhjpeaaDoor.St
open Go Go.Proofs.YtkkacjmjjhjpeaaDoor.Sx Go.Shelf Go.RowKit

@[reducible] def AS := ByteArray × Int × Rp
def encS : Int × Int × AS → St
  | (i, m, s, k, r) => ⟨[(1, .s (.c (.ptr 0 0))), (3, .s (.c (.str s))), (4, .s (.c (.int .i64 k))), (28, .s (.c (.int .i64 m))), (29, .s (.c (.int .i64 i)))], [some (.cells (encRp r))], 1, 69⟩
def decS : St → Option (Int × Int × AS)
  | ⟨[(1, .s (.c (.ptr 0 0))), (3, .s (.c (.str s))), (4, .s (.c (.int .i64 k))), (28, .s (.c (.int .i64 m))), (29, .s (.c (.int .i64 i)))], [some (.cells l)], 1, 69⟩ => (decRp l).map fun r => (i, m, s, k, r)
  | _ => none
theorem decS_spec (st : St) (p : Int × Int × AS) (h : decS st = some p) : st = encS p := by
  unfold decS at h
  split at h
  · obtain ⟨r, h1, rfl⟩ := Option.map_eq_some_iff.1 h
    obtain rfl := decRp_spec _ _ h1
    rfl
  · cases h
def ch (s : ByteArray) (i : Int) : Int := ((s.data.toList.getD i.toNat 0).toNat : Int)
def inS (s : ByteArray) (i : Int) : Bool := decide (0 ≤ i) && decide (i < (s.size : Int))
def finS (p : AS) : St := ⟨[(1, .s (.c (.ptr 0 0))), (4, .s (.c (.int .i64 p.2.1)))], [some (.cells (encRp p.2.2))], 1, 69⟩
@[reducible] def retS : St := ⟨[(2, .s (bl false))], [], 0, 69⟩
def putS {R : Type} (i m : Int) (s : ByteArray) (k : Int) (r : Rp) (K : Ex → St → Option R) : Option R :=
  bif inS s i then (bif ch s i == 32 then K .normal (encS (wr (i + 1), m, s, wr (k + 1), r)) else K .normal (encS (wr (i + 1), m, s, k, r))) else none
theorem roundS {R : Type} (L : List (Nat × LoopSum)) (i m k : Int) (s : ByteArray) (r : Rp) (K : Ex → St → Option R) :
    roundK Tryd.prog SLw L 10 0 (resMask Tryd.f6.results.toList) (lpAt Tryd.f6 0) (encS (i, m, s, k, r)) K =
    bif decide (i < m) then (bif inS s i then (bif ch s i == 10 then K .ret retS else bif inS s i then (bif ch s i == 32 then (bif inS s (wr (i + 1)) then (bif ch s (wr (i + 1)) == 32 then K .ret retS else bif inS s (wr (i + 1)) then
      (bif ch s (wr (i + 1)) == 10 then K .ret retS else putS i m s k r K) else none) else none) else putS i m s k r K) else none) else none) else K (.exit 0) (finS (s, k, r)) := by kernel_rfl
def fS (i : Int) (p : AS) : AS := (p.1, bif ch p.1 i == 32 then p.2.1 + 1 else p.2.1, p.2.2)
def okS (i : Int) (p : AS) : Bool := inS p.1 i && inS p.1 (i + 1) && !(ch p.1 i == 10) && !(ch p.1 i == 32 && (ch p.1 (i + 1) == 32 || ch p.1 (i + 1) == 10)) && decide (i ≤ 4611686018427387904) && decide (0 ≤ p.2.1) && decide (p.2.1 ≤ 4611686018427387904)
@[reducible] noncomputable def LS : List (Nat × LoopSum) := [(0, formSum decS (countSum okS fS finS (.exit 0)))]
theorem loopS : LoopOk Tryd.prog SLw LS 10 0 (resMask Tryd.f6.results.toList) (lpAt Tryd.f6 0) (formSum decS (countSum okS fS finS (.exit 0))) := by
  refine LoopOk.count decS_spec (by simp) ?_ ?_
  · rintro R i m ⟨s, k, r⟩ K hi hk
    simp only [okS, Bool.and_eq_true, decide_eq_true_eq, Bool.not_eq_true'] at hk
    obtain ⟨⟨⟨⟨⟨⟨h1, h2⟩, h3⟩, h4⟩, h5⟩, h6⟩, h7⟩ := hk
    have h0 : 0 ≤ i := by
      simp only [inS, Bool.and_eq_true, decide_eq_true_eq] at h1
      exact h1.1
    have e1 : wr (i + 1) = i + 1 := wr_ok (by omega)
    have e2 : wr (k + 1) = k + 1 := wr_ok (by omega)
    rw [roundS, decide_eq_true hi, h1, h3]
    simp only [cond_true, cond_false]
    have hp : putS i m s k r K = K .normal (encS (IntKind.i64.wrap (i + 1), m, fS i (s, k, r))) := by
      unfold putS fS
      rw [h1, e2]
      simp only [cond_true]
      cases ch s i == 32 <;> rfl
    cases hc : ch s i == 32 with
    | false => simp only [cond_false]; exact hp
    | true =>
      rw [hc] at h4
      simp only [Bool.true_and, Bool.or_eq_false_iff] at h4
      rw [e1, h2, h4.1, h4.2]
      simp only [cond_true, cond_false]
      exact hp
  · rintro R i m ⟨s, k, r⟩ K hi
    rw [roundS, decide_eq_false hi]; rfl
theorem loopsS : LoopsOk Tryd.prog SLw LS 10 0 (resMask Tryd.f6.results.toList) (loopsOf (resMask Tryd.f6.results.toList) (bodyOf Tryd.f6) [] (resMask Tryd.f6.results.toList)) :=
  loopsOk_ix 1 (by kernel_rfl) ⟨trivial, loopOk_here (n := 0) (by kernel_rfl) rfl loopS⟩
def runS (s : ByteArray) (r : Rp) (K : AS → Option Unit) : Option Unit :=
  bif decide (0 ≤ (0 : Int) ∧ wr ((s.size : Int) - 1) ≤ 4611686018427387904) && okN okS fS (wr ((s.size : Int) - 1) - 0).toNat 0 (s, 0, r) then K (iterN fS (wr ((s.size : Int) - 1) - 0).toNat 0 (s, 0, r)) else none
theorem t_StatusShape (r : Rp) : runFnL Tryd.prog SLw LS 10 Tryd.f6 (bodyOf Tryd.f6) [.agg (encRp r)] [] lawK =
    okK (okR r) (bif decide (((lineB r).size : Int) < 2) then none else bif inS (lineB r) (wr (((lineB r).size : Int) - 1)) then (bif ch (lineB r) (wr (((lineB r).size : Int) - 1)) != 10 then none else bif inS (lineB r) 0 then (bif ch (lineB r) 0 == 32 then none else
      runS (lineB r) r fun p => bif p.2.2.up then lawK (.s (bl (p.2.1 == 20))) [] else lawK (.s (bl (p.2.1 == 6))) []) else none) else none) := by kernel_rfl

/-! ### What a walk along a line finds -/
def walkB : List UInt8 → Nat → Option Nat
  | [], _ => none
  | [x], k => if x = 10 then some k else none
  | x :: y :: r, k => if x = 10 ∨ (x = 32 ∧ (y = 32 ∨ y = 10)) then none else walkB (y :: r) (if x = 32 then k + 1 else k)
theorem plain_mem {w : List UInt8} (h : plainW w = true) : ∀ b ∈ w, b ≠ 32 ∧ b ≠ 10 := by
  simp only [plainW, Bool.and_eq_true, List.all_eq_true] at h
  intro b hb
  have := h.2 b hb
  simpa using this
theorem walk_word {T : List UInt8} {k : Nat} (hT : T ≠ []) : ∀ {w : List UInt8}, (∀ b ∈ w, b ≠ 32 ∧ b ≠ 10) → walkB (w ++ T) k = walkB T k
  | [], _ => rfl
  | [x], h => by
    obtain ⟨y, T', rfl⟩ := List.exists_cons_of_ne_nil hT
    have := h x (by simp)
    simp only [List.singleton_append, walkB]
    rw [if_neg (by simp [this]), if_neg this.1]
  | x :: y :: r, h => by
    have h1 := h x (by simp)
    simp only [List.cons_append, walkB]
    rw [if_neg (by simp [h1]), if_neg h1.1]
    exact walk_word hT (w := y :: r) fun b hb => h b (List.mem_cons_of_mem _ hb)
theorem walk_tail : ∀ (r : List (List UInt8)) (k : Nat), r.all plainW = true → walkB (Lib.joinTail [32] r ++ [10]) k = some (k + r.length)
  | [], k, _ => rfl
  | w :: r, k, h => by
    simp only [List.all_cons, Bool.and_eq_true] at h
    have e : Lib.joinTail [32] (w :: r) ++ [10] = 32 :: (w ++ (Lib.joinTail [32] r ++ [10])) := by simp [Lib.joinTail]
    rw [e]
    have hm := plain_mem h.1
    have hne : w ≠ [] := by
      intro e; rw [e] at h; simp [plainW] at h
    obtain ⟨y, w', rfl⟩ := List.exists_cons_of_ne_nil hne
    have hy := hm y (by simp)
    rw [List.cons_append, walkB, if_neg (by simp [hy]), if_pos rfl, ← List.cons_append, walk_word (by simp) hm, walk_tail r (k + 1) h.2]
    simp only [List.length_cons, Option.some.injEq]
    omega
theorem walk_join {w : List UInt8} {r : List (List UInt8)} (h : (w :: r).all plainW = true) : walkB (Lib.join (w :: r) [32] ++ [10]) 0 = some r.length := by
  simp only [List.all_cons, Bool.and_eq_true] at h
  rw [Lib.join_cons, List.append_assoc, walk_word (by simp) (plain_mem h.1), walk_tail r 0 h.2, Nat.zero_add]
theorem walk_last : ∀ (l : List UInt8) (k : Nat) {n : Nat}, walkB l k = some n → l.getD (l.length - 1) 0 = 10
  | [], _, _, h => by cases h
  | [x], k, n, h => by
    simp only [walkB] at h
    split at h
    · rename_i hx; simp [hx]
    · cases h
  | x :: y :: r, k, n, h => by
    simp only [walkB] at h
    split at h
    · cases h
    · have := walk_last (y :: r) _ h
      simpa using this
theorem byte_eq {x : UInt8} {n : Nat} (hn : n < 256) : ((x.toNat : Int) == (n : Int)) = decide (x = UInt8.ofNat n) := by
  by_cases h : x = UInt8.ofNat n
  · subst h
    rw [decide_eq_true rfl, beq_iff_eq]
    have : (UInt8.ofNat n).toNat = n := by simp [Nat.mod_eq_of_lt hn]
    rw [this]
  · rw [decide_eq_false h, beq_eq_false_iff_ne]
    intro e
    apply h
    have e : x.toNat = n := by omega
    rw [← e]
    simp
theorem walk_run {s : ByteArray} {r : Rp} (hs : s.size ≤ 4000000000) : ∀ (n i k k' : Nat), i + n + 1 = s.size → k ≤ i → walkB (s.data.toList.drop i) k = some k' →
    okN okS fS n (i : Int) (s, (k : Int), r) = true ∧ iterN fS n (i : Int) (s, (k : Int), r) = (s, (k' : Int), r)
  | 0, i, k, k', h, _, hw => by
    have hlt : i < s.data.toList.length := by show i < s.size; omega
    have hd : s.data.toList.drop i = [s.data.toList[i]] := by
      rw [List.drop_eq_getElem_cons hlt, List.drop_eq_nil_of_le (show s.size ≤ i + 1 by omega)]
    rw [hd] at hw
    simp only [walkB] at hw
    split at hw
    · cases hw; exact ⟨rfl, rfl⟩
    · cases hw
  | n + 1, i, k, k', h, hk, hw => by
    have hlt : i < s.data.toList.length := by show i < s.size; omega
    have hlt2 : i + 1 < s.data.toList.length := by show i + 1 < s.size; omega
    rw [List.drop_eq_getElem_cons hlt, List.drop_eq_getElem_cons hlt2, walkB] at hw
    split at hw
    · cases hw
    rename_i hbad
    rw [← List.drop_eq_getElem_cons hlt2] at hw
    have c1 : ∀ b : Nat, b < 256 → (ch s (i : Int) == (b : Int)) = decide (s.data.toList[i] = UInt8.ofNat b) := by
      intro b hb
      unfold ch
      rw [Int.toNat_natCast, List.getD_eq_getElem?_getD, List.getElem?_eq_getElem hlt]
      exact byte_eq hb
    have c2 : ∀ b : Nat, b < 256 → (ch s ((i : Int) + 1) == (b : Int)) = decide (s.data.toList[i + 1] = UInt8.ofNat b) := by
      intro b hb
      unfold ch
      rw [show ((i : Int) + 1).toNat = i + 1 by omega, List.getD_eq_getElem?_getD, List.getElem?_eq_getElem hlt2]
      exact byte_eq hb
    have d1 := c1 10 (by decide)
    have d2 := c1 32 (by decide)
    have d3 := c2 10 (by decide)
    have d4 := c2 32 (by decide)
    have hok : okS (i : Int) (s, (k : Int), r) = true := by
      simp only [okS, inS]
      erw [d1, d2, d3, d4]
      simp only [Bool.and_eq_true, decide_eq_true_eq, Bool.not_eq_true', decide_eq_false_iff_not]
      refine ⟨⟨⟨⟨⟨⟨⟨by omega, by omega⟩, by omega, by omega⟩, ?_⟩, ?_⟩, by omega⟩, by omega⟩, by omega⟩
      · exact fun e => hbad (.inl e)
      · rw [Bool.and_eq_false_iff, Bool.or_eq_false_iff, decide_eq_false_iff_not, decide_eq_false_iff_not, decide_eq_false_iff_not]
        by_cases e : s.data.toList[i] = UInt8.ofNat 32
        · exact .inr ⟨fun e2 => hbad (.inr ⟨e, .inl e2⟩), fun e2 => hbad (.inr ⟨e, .inr e2⟩)⟩
        · exact .inl e
    have hf : fS (i : Int) (s, (k : Int), r) = (s, ((if s.data.toList[i] = 32 then k + 1 else k : Nat) : Int), r) := by
      simp only [fS]
      erw [d2]
      by_cases e : s.data.toList[i] = 32
      · rw [if_pos e, decide_eq_true (show s.data.toList[i] = UInt8.ofNat 32 from e)]; rfl
      · rw [if_neg e, decide_eq_false (show ¬ s.data.toList[i] = UInt8.ofNat 32 from e)]; rfl
    rw [okN, iterN, hok, hf, show ((i : Int) + 1) = ((i + 1 : Nat) : Int) by omega]
    have := walk_run (r := r) hs n (i + 1) (if s.data.toList[i] = 32 then k + 1 else k) k' (by omega) (by split <;> omega) hw
    exact ⟨by rw [this.1]; rfl, this.2⟩
theorem shape_true {r : Rp} (h : okR r = true) : runFnL Tryd.prog SLw LS 10 Tryd.f6 (bodyOf Tryd.f6) [.agg (encRp r)] [] lawK = some () := by
  have hl := line_words r
  have hp := plain_words r
  obtain ⟨w, ws, hw⟩ := List.exists_cons_of_ne_nil (words_ne r)
  rw [hw] at hl hp
  have hwk : walkB ((lineB r).data.toList) 0 = some ws.length := by rw [hl]; exact walk_join hp
  have hn : ws.length = bif r.up then 20 else 6 := by
    unfold wordsOf headW moreW at hw
    cases hu : r.up <;> (rw [hu] at hw; simp only [cond_true, cond_false, List.cons_append, List.nil_append] at hw; rw [← (List.cons.inj hw).2]; rfl)
  have hlen : 2 ≤ (lineB r).size := by
    show 2 ≤ (lineB r).data.toList.length
    simp only [List.all_cons, Bool.and_eq_true] at hp
    rw [hl, Lib.join_cons]
    have : w ≠ [] := by
      intro e; rw [e] at hp; simp [plainW] at hp
    have := List.length_pos_iff.2 this
    simp only [List.length_append, List.length_cons, List.length_nil]
    omega
  have hbig : (lineB r).size ≤ 4000000000 := by
    have hu := l4_small (w := upW) (by decide) h
    have hd := l4_small (w := dnW) (by decide) h
    have h6 := l6_small h
    unfold lineB
    have hnl : nlB.size = 1 := rfl
    rw [ByteArray.size_append, hnl]
    cases r.up
    · have := join_small hd (by simp [l4]); simp only [cond_false]; omega
    · have := join_small (l := l4 upW r ++ l6 r) (by rw [List.all_append, hu, h6]; rfl) (by simp [l4, l6]); simp only [cond_true]; omega
  have e1 : wr (((lineB r).size : Int) - 1) = ((lineB r).size : Int) - 1 := wr_ok (by omega)
  have hlast : ch (lineB r) (((lineB r).size : Int) - 1) = 10 := by
    have := walk_last _ _ hwk
    unfold ch
    rw [show (((lineB r).size : Int) - 1).toNat = (lineB r).data.toList.length - 1 by show _ = (lineB r).size - 1; omega, this]
    rfl
  have hfirst : (ch (lineB r) 0 == 32) = false := by
    simp only [List.all_cons, Bool.and_eq_true] at hp
    have hne : w ≠ [] := by
      intro e; rw [e] at hp; simp [plainW] at hp
    obtain ⟨y, w', rfl⟩ := List.exists_cons_of_ne_nil hne
    have hy := plain_mem hp.1 y (by simp)
    unfold ch
    rw [hl, Lib.join_cons]
    have := byte_eq (x := y) (n := 32) (by decide)
    rw [decide_eq_false (show ¬ y = UInt8.ofNat 32 from hy.1)] at this
    exact this
  obtain ⟨r1, r2⟩ := walk_run (r := r) hbig ((lineB r).size - 1) 0 0 ws.length (by omega) (Nat.le_refl _) (by simpa using hwk)
  rw [t_StatusShape, h]
  unfold okK runS
  rw [e1, hlast, hfirst, decide_eq_false (show ¬ ((lineB r).size : Int) < 2 by omega), show (((lineB r).size : Int) - 1 - 0).toNat = (lineB r).size - 1 by omega]
  have i1 : inS (lineB r) (((lineB r).size : Int) - 1) = true := by simp only [inS, Bool.and_eq_true, decide_eq_true_eq]; omega
  have i0 : inS (lineB r) 0 = true := by simp only [inS, Bool.and_eq_true, decide_eq_true_eq]; omega
  rw [i1, i0, decide_eq_true (show 0 ≤ (0 : Int) ∧ ((lineB r).size : Int) - 1 ≤ 4611686018427387904 by omega)]
  simp only [Int.natCast_zero] at r1 r2
  erw [r1, r2]
  rw [hn]
  simp only [cond_true, cond_false, Bool.and_self]
  cases r.up <;> rfl
theorem StatusShape (r : Rp) (hw : wfRp r) (W : World) (ht : TabsAt fun n => W.heap[n]?) (v : Value) (hv : ∀ X ρ, SV.R X ρ (.agg (encRp r)) v) :
    Calls Tryd.prog 6 #[v] W fun e w' => e = .returned (.bool true) ∧ Below W.heap.size W w' :=
  law_callsL okSLw mixed Tryd.func6 (c := bodyOf Tryd.f6) (by kernel_rfl) lawK_spec loopsS (shape_true (okR_wf hw)) (ht := ht) (X := fun _ _ => False) (ρ := noRho) (vs := [v]) ⟨hv _ _, trivial⟩
    (fun b sb hb => by simp at hb) (fun b _ => rfl)
end Go.Proofs.YtkkacjmjjhjpeaaDoor.St

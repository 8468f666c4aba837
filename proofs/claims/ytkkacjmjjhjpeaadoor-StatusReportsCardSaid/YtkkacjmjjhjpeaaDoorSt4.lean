/- words: a word, and numbers behind it. No condition beyond those that each theorem names. -/
import Derived.Test.YtkkacjmjjhjpeaaDoorSt3
set_option maxRecDepth 100000
set_option linter.unusedSimpArgs false
set_option linter.unusedVariables false
namespace Go.Proofs.YtkkacjmjjhjpeaaDoor.St
open Go Go.Proofs.YtkkacjmjjhjpeaaDoor.Sx Go.Shelf Go.RowKit

@[reducible] noncomputable def SI : Sums := [(23, libSum g_itoa)]
theorem okSI : SumsOk Tryd.prog SI := SumsOk.nil.cons ok_itoa
@[reducible] def encI (x : Int) : List CV := [.int .i64 x]
def decI : List CV → Int
  | [.int .i64 x] => x
  | _ => 0
theorem backI (x : Int) : decI (encI x) = x := rfl
/-- A blank. -/
@[reducible] def blB : ByteArray := ⟨#[32]⟩
def addW (s : ByteArray) (n : Int) : ByteArray := s ++ (blB ++ itoaB n)
def wordsB (s : ByteArray) (l : List Int) : ByteArray := l.foldl addW s
@[reducible] def AW := ByteArray × Nat × (Nat → Int)
def encW : Int × Int × AW → St
  | (i, m, s, N, f) => ⟨[(5, .s (.c (.str s))), (9, .s (.c (.slc 0 0 N))), (10, .s (.c (.int .i64 m))), (11, .s (.c (.int .i64 i)))], [some (.ro 1 (.gen N fun i => encI (f i)))], 1, 22⟩
@[reducible] def BW := Int × Int × ByteArray × Nat × (Nat → List CV) × Nat
def decW : St → Option BW
  | ⟨[(5, .s (.c (.str s))), (9, .s (.c (.slc 0 0 N))), (10, .s (.c (.int .i64 m))), (11, .s (.c (.int .i64 i)))], [some (.ro 1 (.gen N' f))], 1, 22⟩ => some (i, m, s, N, f, N')
  | _ => none
noncomputable def chkW : BW → Bool
  | (_, _, _, N, f, N') => Nat.beq N N' && chkRo encI decI f
def normW : BW → Int × Int × AW
  | (i, m, s, N, f, _) => (i, m, s, N, fun i => decI (f i))
theorem decW_spec (st : St) (p : BW) (h : decW st = some p) (hc : chkW p = true) : st = encW (normW p) := by
  unfold decW at h
  split at h <;> cases h
  simp only [chkW, Bool.and_eq_true] at hc
  obtain ⟨e0, e1⟩ := hc
  have := Nat.eq_of_beq_eq_true e0
  subst this
  have g0 := chkRo_spec e1
  unfold normW encW
  simp only
  rw [← g0]
def finW (p : AW) : St := ⟨[(5, .s (.c (.str p.1)))], [some (.ro 1 (.gen p.2.1 fun i => encI (p.2.2 i)))], 1, 22⟩
def fW (i : Int) (p : AW) : AW := (addW p.1 (p.2.2 i.toNat), p.2.1, p.2.2)
def okW (i : Int) (p : AW) : Bool := decide (0 ≤ i) && decide (i < (p.2.1 : Int)) && okI (p.2.2 i.toNat) && decide (p.1.size ≤ 2000000)
@[reducible] noncomputable def LW : List (Nat × LoopSum) := [(0, formSumC decW chkW normW (countSum okW fW finW (.exit 0)))]
theorem roundW {R : Type} (L : List (Nat × LoopSum)) (i m : Int) (s : ByteArray) (N : Nat) (f : Nat → Int) (K : Ex → St → Option R) :
    roundK Tryd.prog SI L 10 1 (resMask Tryd.f17.results.toList) (lpAt Tryd.f17 0) (encW (i, m, s, N, f)) K =
    bif decide (i < m) then (bif decide (0 ≤ i) && decide (i < (N : Int)) then (bif decide (addI 0 i.toNat < N) then (bif okI (f (addI 0 i.toNat)) then (bif decide (1 + (itoaB (f (addI 0 i.toNat))).size ≤ 9223372036854775807) then
      (bif decide (s.size + (blB ++ itoaB (f (addI 0 i.toNat))).size ≤ 9223372036854775807) then K .normal (encW (IntKind.i64.wrap (i + 1), m, addW s (f (addI 0 i.toNat)), N, f)) else none) else none) else none) else none) else none) else K (.exit 0) (finW (s, N, f)) := by kernel_rfl
theorem pow10_19 : (10 : Nat) ^ 19 = 10000000000000000000 := by decide
theorem digits_len {u k : Nat} (h : u < 10 ^ (k + 1)) : (Lib.decDigits u).length ≤ k + 1 := by
  rw [Lib.decDigits_length]
  apply Classical.byContradiction
  intro hc
  have h1 : ∀ (k u : Nat), u < 10 ^ (k + 1) → Lib.nDigits u ≤ k + 1 := by
    intro k
    induction k with
    | zero => intro u hu; rw [Lib.nDigits_small (by simpa using hu)]; omega
    | succ k ih =>
      intro u hu
      by_cases h : u < 10
      · rw [Lib.nDigits_small h]; omega
      · rw [Lib.nDigits_big h]
        have := ih (u / 10) (by rw [Nat.div_lt_iff_lt_mul (by decide)]; rw [Nat.pow_succ] at hu; exact hu)
        omega
  exact hc (h1 k u h)
/-- A number's text is short. -/
theorem itoaB_size {n : Int} (h : okI n = true) : (itoaB n).size ≤ 20 := by
  rw [okI_iff] at h
  show (Lib.itoa n).length ≤ 20
  unfold Lib.itoa
  split
  · have := digits_len (u := n.natAbs) (k := 18) (by omega)
    simp only [List.length_cons]; omega
  · have := digits_len (u := n.toNat) (k := 18) (by omega)
    omega
theorem addW_size {s : ByteArray} {n : Int} (h : okI n = true) : (addW s n).size ≤ s.size + 21 := by
  have := itoaB_size h
  simp only [addW, ByteArray.size_append]
  have : blB.size = 1 := rfl
  omega
theorem loopW : LoopOk Tryd.prog SI LW 10 1 (resMask Tryd.f17.results.toList) (lpAt Tryd.f17 0) (formSumC decW chkW normW (countSum okW fW finW (.exit 0))) := by
  refine LoopOk.countC decW_spec (by simp) ?_ ?_
  · rintro R i m ⟨s, N, f⟩ K hi hk
    simp only [okW, Bool.and_eq_true, decide_eq_true_eq] at hk
    obtain ⟨⟨⟨h1, h2⟩, h3⟩, h4⟩ := hk
    have e : addI 0 i.toNat = i.toNat := by rw [addI_eq]; omega
    have h5 := itoaB_size h3
    rw [roundW, e, decide_eq_true hi, decide_eq_true h1, decide_eq_true h2, decide_eq_true (show i.toNat < N by omega), h3, decide_eq_true (show 1 + (itoaB (f i.toNat)).size ≤ 9223372036854775807 by omega)]
    have h6 : (blB ++ itoaB (f i.toNat)).size ≤ 21 := by
      have : blB.size = 1 := rfl
      rw [ByteArray.size_append]; omega
    rw [decide_eq_true (show s.size + (blB ++ itoaB (f i.toNat)).size ≤ 9223372036854775807 by omega)]
    rfl
  · rintro R i m ⟨s, N, f⟩ K hi
    rw [roundW, decide_eq_false hi]; rfl
theorem loopsW : LoopsOk Tryd.prog SI LW 10 1 (resMask Tryd.f17.results.toList) (loopsOf (resMask Tryd.f17.results.toList) (bodyOf Tryd.f17) [] (resMask Tryd.f17.results.toList)) :=
  loopsOk_ix 1 (by kernel_rfl) ⟨trivial, loopOk_here (n := 0) (by kernel_rfl) rfl loopW⟩
theorem t_words {R : Type} (s : ByteArray) (N : Nat) (f : Nat → Int) (K : TV → List (Option SB) → Option R) :
    runFnL Tryd.prog SI LW 10 Tryd.f17 (bodyOf Tryd.f17) [stv s, .c (.slc 0 0 N)] [.ro 1 (.gen N fun j => encI (f j))] K =
    bif Nat.beq N N && chkRo encI decI (fun j => encI (f j)) then (bif decide (0 ≤ (0 : Int) ∧ (N : Int) ≤ 4611686018427387904) && okN okW fW ((N : Int) - 0).toNat 0 (s, N, fun j => decI (encI (f j))) then
      K (.s (stv (iterN fW ((N : Int) - 0).toNat 0 (s, N, fun j => decI (encI (f j)))).1)) [some (.ro 1 (.gen (iterN fW ((N : Int) - 0).toNat 0 (s, N, fun j => decI (encI (f j)))).2.1 fun j => encI ((iterN fW ((N : Int) - 0).toNat 0 (s, N, fun j => decI (encI (f j)))).2.2 j)))] else none) else none := by kernel_rfl
/-- The numbers of a row's cells. -/
def isInt : List CV → Bool
  | [.int .i64 _] => true
  | _ => false
def intsOk (g : Nat → List CV) : Nat → Nat → Bool
  | _, 0 => true
  | i, k + 1 => isInt (g i) && intsOk g (i + 1) k
def intsAt (g : Nat → List CV) (i : Nat) : Nat → List Int
  | 0 => []
  | k + 1 => decI (g i) :: intsAt g (i + 1) k
theorem intsOk_get {g : Nat → List CV} : ∀ {n i : Nat}, intsOk g i n = true → ∀ j, j < n → g (i + j) = encI (decI (g (i + j)))
  | n + 1, i, h, j, hj => by
    simp only [intsOk, Bool.and_eq_true] at h
    cases j with
    | zero =>
      have h1 := h.1
      unfold isInt at h1
      split at h1
      · rename_i s hs
        rw [Nat.add_zero, hs]; rfl
      · cases h1
    | succ j =>
      have := intsOk_get h.2 j (by omega)
      rwa [show i + 1 + j = i + (j + 1) by omega] at this
theorem intsAt_shift {g h : Nat → List CV} : ∀ {n i k : Nat}, (∀ j, j < n → decI (g (i + j)) = decI (h (k + j))) → intsAt g i n = intsAt h k n
  | 0, _, _, _ => rfl
  | n + 1, i, k, hh => by
    simp only [intsAt]
    rw [show decI (g i) = decI (h k) from hh 0 (by omega), intsAt_shift (n := n) (i := i + 1) (k := k + 1) fun j hj => by
      have := hh (j + 1) (by omega)
      rwa [show i + (j + 1) = i + 1 + j by omega, show k + (j + 1) = k + 1 + j by omega] at this]
theorem intsAt_all {g : Nat → List CV} {p : Int → Bool} : ∀ {n i : Nat}, (intsAt g i n).all p = true → ∀ j, j < n → p (decI (g (i + j))) = true
  | n + 1, i, h, j, hj => by
    simp only [intsAt, List.all_cons, Bool.and_eq_true] at h
    cases j with
    | zero => exact h.1
    | succ j =>
      have := intsAt_all h.2 j (by omega)
      rwa [show i + 1 + j = i + (j + 1) by omega] at this
theorem iterW {N : Nat} {f : Nat → Int} : ∀ (k i : Nat) (s : ByteArray), iterN fW k (i : Int) (s, N, f) = (wordsB s (intsAt (fun j => encI (f j)) i k), N, f)
  | 0, i, s => rfl
  | k + 1, i, s => by
    rw [iterN, show fW (i : Int) (s, N, f) = (addW s (f i), N, f) from rfl, show ((i : Int) + 1) = ((i + 1 : Nat) : Int) by omega, iterW k (i + 1)]
    rfl
theorem okNW {N : Nat} {f : Nat → Int} (h : ∀ j, j < N → okI (f j) = true) : ∀ (k i : Nat) (s : ByteArray), i + k ≤ N → s.size + 21 * k ≤ 2000000 → okN okW fW k (i : Int) (s, N, f) = true
  | 0, i, s, _, _ => rfl
  | k + 1, i, s, h1, h2 => by
    have h3 := h i (by omega)
    have h4 := addW_size (s := s) h3
    have e : okW (i : Int) (s, N, f) = true := by
      simp only [okW, Bool.and_eq_true, decide_eq_true_eq]
      exact ⟨⟨⟨by omega, by omega⟩, by simpa using h3⟩, by omega⟩
    rw [okN, e, show fW (i : Int) (s, N, f) = (addW s (f i), N, f) from rfl, show ((i : Int) + 1) = ((i + 1 : Nat) : Int) by omega, okNW h k (i + 1) _ (by omega) (by omega)]
    rfl
theorem t_words' {s : ByteArray} {N : Nat} {f : Nat → Int} (h1 : N ≤ 1000) (h2 : s.size ≤ 1000000) (h : ∀ j, j < N → okI (f j) = true) {R : Type} (K : TV → List (Option SB) → Option R) :
    runFnL Tryd.prog SI LW 10 Tryd.f17 (bodyOf Tryd.f17) [stv s, .c (.slc 0 0 N)] [.ro 1 (.gen N fun j => encI (f j))] K =
      K (.s (stv (wordsB s (intsAt (fun j => encI (f j)) 0 N)))) [some (.ro 1 (.gen N fun j => encI (f j)))] := by
  rw [t_words]
  have e0 : Nat.beq N N = true := Nat.beq_refl N
  rw [e0, chkRo_true backI f]
  simp only [backI]
  rw [decide_eq_true (show 0 ≤ (0 : Int) ∧ (N : Int) ≤ 4611686018427387904 by omega), show ((N : Int) - 0).toNat = N by omega]
  have e1 := okNW h N 0 s (by omega) (by omega)
  have e2 := iterW (N := N) (f := f) N 0 s
  simp only [Int.natCast_zero] at e1 e2
  erw [e1, e2]
  rfl

/-- What words comes to, of a row or of an array's slice. -/
def cellG (cs : List CV) (j : Nat) : List CV := [cs.getD j .unk]
def wordsS : Sum := fun args _ => match args with
  | [.c (.str s), .c (.slc b i n)] => .rd b fun
    | .vec 1 _ c | .ro 1 c => .br (decide (i + n ≤ c.size) && intsOk c.get i n && decide (n ≤ 1000) && small s && (intsAt c.get i n).all okI) (cvE (.str (wordsB s (intsAt c.get i n)))) .fail
    | _ => .fail
  | [.c (.str s), .c (.asl b o n)] => .rd b fun
    | .cells cs => .br (decide (o + n ≤ cs.length) && intsOk (cellG cs) o n && decide (n ≤ 1000) && small s && (intsAt (cellG cs) o n).all okI && decide (0 < n)) (cvE (.str (wordsB s (intsAt (cellG cs) o n)))) .fail
    | _ => .fail
  | _ => .fail
theorem ok_words : SumOk Tryd.prog 17 wordsS := by
  refine sumOk_rowA okSI mixed Tryd.func17 (cd := bodyOf Tryd.f17) (by kernel_rfl) (by kernel_rfl) ?_
  intro args nx look e rds hs
  have main : ∀ (s : ByteArray) (x : CV) (b n i : Nat) (sb : SB) (g : Nat → List CV), look b = some sb → intsOk g i n = true → n ≤ 1000 → small s = true → (intsAt g i n).all okI = true →
      RowOf x sb b n (fun j => encI (decI (g (i + j)))) → e = ⟨.s (.c (.str (wordsB s (intsAt g i n)))), [], []⟩ → args = [stv s, .c x] →
      ∃ (va : List SV) (x : CV) (b n : Nat) (sb : SB) (g : Nat → List CV) (tv : TV) (hp' : List (Option SB)) (L : List (Nat × LoopSum)) (fuel : Nat),
        args = va ++ [.c x] ∧ (∀ π, va.map (SV.ren π) = va) ∧ look b = some sb ∧ RowOf x sb b n g ∧
        e = ⟨tv, [], []⟩ ∧ (∀ π, tv.ren π = tv) ∧ LoopsOk Tryd.prog SI L fuel 1 (resMask Tryd.f17.results.toList) (loopsOf (resMask Tryd.f17.results.toList) (bodyOf Tryd.f17) [] (resMask Tryd.f17.results.toList)) ∧
        runFnL Tryd.prog SI L fuel Tryd.f17 (bodyOf Tryd.f17) (va ++ [.c (.slc 0 0 n)]) [.ro 1 (.gen n g)] (fun tv hp => some (tv, hp)) = some (tv, hp') := by
    intro s x b n i sb g hb h1 h2 h3 h4 h5 he ha
    refine ⟨[stv s], x, b, n, sb, _, _, [some (.ro 1 (.gen n fun j => encI (decI (g (i + j)))))], LW, 10, ha, fun π => rfl, hb, h5, he, fun π => rfl, loopsW, ?_⟩
    have := t_words' (s := s) (N := n) (f := fun j => decI (g (i + j))) h2 (of_decide_eq_true h3) (fun j hj => intsAt_all h4 j hj) (fun tv hp => some (tv, hp))
    rw [intsAt_shift (g := fun j => encI (decI (g (i + j)))) (h := g) (i := 0) (k := i) fun j hj => by simp [backI]] at this
    exact this
  unfold wordsS at hs
  split at hs
  · rename_i s b i n
    obtain ⟨sb, m, hb, hs, _⟩ := rd_sem.1 hs
    split at hs
    all_goals first
      | (cases fail_sem.1 hs; done)
      | (obtain ⟨h1, hs⟩ := br_sem.1 hs
         rw [cv_sem] at hs; cases hs
         simp only [Bool.and_eq_true, decide_eq_true_eq] at h1
         obtain ⟨⟨⟨⟨h1, h2⟩, h3⟩, h4⟩, h5⟩ := h1
         refine main _ _ _ _ _ _ _ hb h2 h3 h4 h5 (.inl ⟨i, _, rfl, ?_, h1, fun j hj => (intsOk_get h2 j hj).symm⟩) rfl rfl
         first
          | exact .inl ⟨_, rfl⟩
          | exact .inr rfl)
  · rename_i s b o n
    obtain ⟨sb, m, hb, hs, _⟩ := rd_sem.1 hs
    split at hs
    · rename_i cs
      obtain ⟨h1, hs⟩ := br_sem.1 hs
      rw [cv_sem] at hs; cases hs
      simp only [Bool.and_eq_true, decide_eq_true_eq] at h1
      obtain ⟨⟨⟨⟨⟨h1, h2⟩, h3⟩, h4⟩, h5⟩, h6⟩ := h1
      refine main _ _ _ _ _ _ _ hb h2 h3 h4 h5 (.inr ⟨o, cs, rfl, rfl, h6, fun j hj => ?_⟩) rfl rfl
      have h7 := intsOk_get h2 j hj
      have h8 : cs.getD (o + j) .unk = .int .i64 (decI (cellG cs (o + j))) := by simpa [cellG] using h7
      have h9 : o + j < cs.length := by omega
      rw [List.getD_eq_getElem?_getD, List.getElem?_eq_getElem h9, Option.getD_some] at h8
      exact ⟨_, List.getElem?_eq_getElem h9, by rw [h8]; rfl, by rw [h8]⟩
    · cases fail_sem.1 hs
  · cases fail_sem.1 hs
end Go.Proofs.YtkkacjmjjhjpeaaDoor.St

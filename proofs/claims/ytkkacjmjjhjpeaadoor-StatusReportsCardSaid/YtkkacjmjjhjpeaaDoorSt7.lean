/- The reference's Line; the same line. No condition beyond those that each theorem names. -/
import Derived.Test.YtkkacjmjjhjpeaaDoorSt6
set_option maxRecDepth 100000
set_option linter.unusedSimpArgs false
set_option linter.unusedVariables false
namespace Go.Proofs.YtkkacjmjjhjpeaaDoor.St
open Go Go.Proofs.YtkkacjmjjhjpeaaDoor.Sx Go.Shelf Go.RowKit

@[reducible] noncomputable def SR1 : Sums := [(19, libSum g_itoa)]
theorem okSR1 : SumsOk Tryd.prog SR1 := SumsOk.nil.cons ok_num
def twoB (a b : Int) : ByteArray := ((blB ++ itoaB a) ++ blB) ++ itoaB b
def g_two : List SV → Option (Bool × TV)
  | [.c (.int .i64 a), .c (.int .i64 b)] => some (okI a && okI b, .s (stv (twoB a b)))
  | _ => none
def catK {R : Type} (a b : ByteArray) (k : ByteArray → Option R) : Option R := bif decide (a.size + b.size ≤ 9223372036854775807) then k (a ++ b) else none
def okK {R : Type} (b : Bool) (k : Option R) : Option R := bif b then k else none
theorem catK_eq {R : Type} {a b : ByteArray} {k : ByteArray → Option R} (h : a.size + b.size ≤ 9223372036854775807) : catK a b k = k (a ++ b) := by
  unfold catK; rw [decide_eq_true h]; rfl
theorem t_two {R : Type} (a b : Int) (K : TV → List (Option SB) → Option R) : runFn Tryd.prog SR1 10 Tryd.f20 (bodyOf Tryd.f20) [i64 a, i64 b] [] K =
    okK (okI a) (catK blB (itoaB a) fun s => catK s blB fun s => okK (okI b) (catK s (itoaB b) fun s => K (.s (stv s)) [])) := by kernel_rfl
theorem ok_two : SumOk Tryd.prog 20 (libSum g_two) := by
  refine sumOk_of okSR1 mixed Tryd.func20 (c := bodyOf Tryd.f20) (by kernel_rfl) (by kernel_rfl) ?_
  intro args nx look e rds hs
  obtain ⟨⟨b, tv⟩, h1, h2⟩ := opt_sem.1 hs
  obtain ⟨h3, h4⟩ := br_sem.1 h2
  simp only at h3 h4
  subst h3
  rw [pure_sem] at h4
  cases h4
  unfold g_two at h1
  split at h1
  · rename_i a b
    simp only [Option.some.injEq, Prod.mk.injEq, Bool.and_eq_true] at h1
    obtain ⟨⟨h1, h5⟩, rfl⟩ := h1
    have s1 := itoaB_size h1
    have s2 := itoaB_size h5
    have sb : blB.size = 1 := rfl
    refine ⟨[], [i64 a, i64 b], [], .s (stv (twoB a b)), [], 10, ⟨rfl, rfl, rfl, ?_, rfl, rfl, ?_, ?_, ?_⟩, ?_⟩
    · intro i b h; simp at h
    · intro i b h; simp at h
    · intro j hj; simp at hj
    · intro b _ _; rw [upd_nil]
    · rw [t_two, h1, h5]
      simp only [okK, cond_true]
      rw [catK_eq (by omega), catK_eq (by rw [ByteArray.size_append]; omega), catK_eq (by rw [ByteArray.size_append, ByteArray.size_append]; omega)]
      rfl
  · cases h1
@[reducible] noncomputable def SR2 : Sums := (20, libSum g_two) :: (12, valSum (g_name phB)) :: (14, valSum (g_name erB)) :: SR1
theorem okSR2 : SumsOk Tryd.prog SR2 := ((okSR1.cons ok_err).cons ok_phr).cons ok_two
def headK {R : Type} (w : ByteArray) (r : Rp) (k : ByteArray → Option R) : Option R :=
  catK (erB r.err) w fun out => okK (okI r.tick) (catK ⟨#[32, 116, 105, 99, 107, 32]⟩ (itoaB r.tick) fun a => catK a ⟨#[32, 114, 111, 117, 116, 101]⟩ fun a => okK (okI r.slot && okI r.cgen) (catK a (twoB r.slot r.cgen) fun a => catK out a k))
def moreK {R : Type} (r : Rp) (out : ByteArray) (k : ByteArray → Option R) : Option R :=
  catK blB (phB r.phase) fun a => catK a ⟨#[32, 97, 99, 116, 105, 118, 101, 32]⟩ fun a => okK (okI r.active) (catK a (itoaB r.active) fun a => catK a ⟨#[32, 103, 101, 110, 32]⟩ fun a => okK (okI r.gen) (catK a (itoaB r.gen) fun a =>
    catK a ⟨#[32, 114, 101, 118]⟩ fun a => okK (okI r.rev0 && okI r.rev1) (catK a (twoB r.rev0 r.rev1) fun a => catK out a fun out => okK (okI r.vwant0 && okI r.vwant1) (catK ⟨#[32, 119, 97, 110, 116]⟩ (twoB r.vwant0 r.vwant1) fun a =>
    catK a ⟨#[32, 114, 101, 97, 100, 121]⟩ fun a => okK (okI r.ready0 && okI r.ready1) (catK a (twoB r.ready0 r.ready1) fun a => catK out a k)))))
def lineK {R : Type} (w : ByteArray) (r : Rp) (K : TV → List (Option SB) → Option R) : Option R :=
  headK w r fun out => bif r.up then (moreK r out fun out => catK out nlB fun s => K (.s (stv s)) []) else catK out nlB fun s => K (.s (stv s)) []
theorem t_rline {R : Type} (r : Rp) (K : TV → List (Option SB) → Option R) : runFn Tryd.prog SR2 10 Tryd.f10 (bodyOf Tryd.f10) [.agg (encRp r)] [] K =
    bif r.up then lineK ⟨#[32, 117, 112]⟩ r K else lineK ⟨#[32, 100, 111, 119, 110]⟩ r K := by kernel_rfl
theorem twoB_size {a b : Int} (h1 : okI a = true) (h2 : okI b = true) : (twoB a b).size ≤ 42 := by
  have s1 := itoaB_size h1
  have s2 := itoaB_size h2
  have sb : blB.size = 1 := rfl
  unfold twoB
  rw [ByteArray.size_append, ByteArray.size_append, ByteArray.size_append]
  omega
def headB (w : ByteArray) (r : Rp) : ByteArray := erB r.err ++ w ++ (⟨#[32, 116, 105, 99, 107, 32]⟩ ++ itoaB r.tick ++ ⟨#[32, 114, 111, 117, 116, 101]⟩ ++ twoB r.slot r.cgen)
def moreB (r : Rp) (out : ByteArray) : ByteArray := out ++ (blB ++ phB r.phase ++ ⟨#[32, 97, 99, 116, 105, 118, 101, 32]⟩ ++ itoaB r.active ++ ⟨#[32, 103, 101, 110, 32]⟩ ++ itoaB r.gen ++ ⟨#[32, 114, 101, 118]⟩ ++ twoB r.rev0 r.rev1) ++ (⟨#[32, 119, 97, 110, 116]⟩ ++ twoB r.vwant0 r.vwant1 ++ ⟨#[32, 114, 101, 97, 100, 121]⟩ ++ twoB r.ready0 r.ready1)
theorem head_eq {R : Type} {w : ByteArray} {r : Rp} (h : okR r = true) (hw : w.size ≤ 10) (k : ByteArray → Option R) : headK w r k = k (headB w r) ∧ (headB w r).size ≤ 200 := by
  simp only [okR, List.all_cons, List.all_nil, Bool.and_true, Bool.and_eq_true] at h
  obtain ⟨h1, h2, h3, _⟩ := h
  have s0 := erB_small r.err
  have s1 := itoaB_size h1
  have s2 := twoB_size h2 h3
  have l1 : (⟨#[32, 116, 105, 99, 107, 32]⟩ : ByteArray).size = 6 := rfl
  have l2 : (⟨#[32, 114, 111, 117, 116, 101]⟩ : ByteArray).size = 6 := rfl
  refine ⟨?_, ?_⟩
  · unfold headK okK
    rw [h1, h2, h3]
    simp only [Bool.and_self, cond_true]
    rw [catK_eq (by omega), catK_eq (by omega), catK_eq (by simp only [ByteArray.size_append]; omega), catK_eq (by simp only [ByteArray.size_append]; omega), catK_eq (by simp only [ByteArray.size_append]; omega)]
    rfl
  · unfold headB
    simp only [ByteArray.size_append]
    omega
theorem more_eq {R : Type} {out : ByteArray} {r : Rp} (h : okR r = true) (ho : out.size ≤ 200) (k : ByteArray → Option R) : moreK r out k = k (moreB r out) ∧ (moreB r out).size ≤ 600 := by
  simp only [okR, List.all_cons, List.all_nil, Bool.and_true, Bool.and_eq_true] at h
  obtain ⟨_, _, _, h1, h2, h3, h4, h5, h6, h7, h8⟩ := h
  have s0 := phB_small r.phase
  have s1 := itoaB_size h1
  have s2 := itoaB_size h2
  have s3 := twoB_size h3 h4
  have s4 := twoB_size h5 h6
  have s5 := twoB_size h7 h8
  have l1 : (⟨#[32, 97, 99, 116, 105, 118, 101, 32]⟩ : ByteArray).size = 8 := rfl
  have l2 : (⟨#[32, 103, 101, 110, 32]⟩ : ByteArray).size = 5 := rfl
  have l3 : (⟨#[32, 114, 101, 118]⟩ : ByteArray).size = 4 := rfl
  have l4 : (⟨#[32, 119, 97, 110, 116]⟩ : ByteArray).size = 5 := rfl
  have l5 : (⟨#[32, 114, 101, 97, 100, 121]⟩ : ByteArray).size = 6 := rfl
  have l6 : blB.size = 1 := rfl
  refine ⟨?_, ?_⟩
  · unfold moreK okK
    rw [h1, h2, h3, h4, h5, h6, h7, h8]
    simp only [Bool.and_self, cond_true]
    rw [catK_eq (by omega), catK_eq (by simp only [ByteArray.size_append]; omega), catK_eq (by simp only [ByteArray.size_append]; omega), catK_eq (by simp only [ByteArray.size_append]; omega), catK_eq (by simp only [ByteArray.size_append]; omega), catK_eq (by simp only [ByteArray.size_append]; omega), catK_eq (by simp only [ByteArray.size_append]; omega), catK_eq (by simp only [ByteArray.size_append]; omega),
      catK_eq (by omega), catK_eq (by simp only [ByteArray.size_append]; omega), catK_eq (by simp only [ByteArray.size_append]; omega), catK_eq (by simp only [ByteArray.size_append]; omega)]
    rfl
  · unfold moreB
    simp only [ByteArray.size_append]
    omega
/-- The reference's line is the program's. -/
def rlineB (r : Rp) : ByteArray := bif r.up then moreB r (headB ⟨#[32, 117, 112]⟩ r) ++ nlB else headB ⟨#[32, 100, 111, 119, 110]⟩ r ++ nlB
theorem joinB_data (xs : List ByteArray) (sep : ByteArray) : (joinB xs sep).data.toList = Lib.join (xs.map (·.data.toList)) sep.data.toList := rfl
theorem rline_eq (r : Rp) : rlineB r = lineB r := by
  apply bytes_ext
  unfold rlineB lineB
  cases r.up
  · simp only [cond_false, app_data, joinB_data, headB, l4, List.map_cons, List.map_nil, Lib.join_cons, Lib.joinTail, wordsB, List.foldl_cons, List.foldl_nil, addW, twoB, List.flatten_cons, List.flatten_nil, List.append_assoc, List.append_nil, List.cons_append, List.nil_append]
  · simp only [cond_true, app_data, joinB_data, headB, moreB, l4, l6, List.map_cons, List.map_nil, Lib.join_cons, Lib.joinTail, wordsB, List.foldl_cons, List.foldl_nil, addW, twoB, List.flatten_cons, List.flatten_nil, List.append_assoc, List.append_nil, List.cons_append, List.nil_append]
theorem t_rline' {R : Type} {r : Rp} (h : okR r = true) (K : TV → List (Option SB) → Option R) : runFn Tryd.prog SR2 10 Tryd.f10 (bodyOf Tryd.f10) [.agg (encRp r)] [] K = K (.s (stv (lineB r))) [] := by
  have fin : ∀ out : ByteArray, out.size ≤ 600 → (catK out nlB fun s => K (.s (stv s)) []) = K (.s (stv (out ++ nlB))) [] := fun out ho => by
    have : nlB.size = 1 := rfl
    exact catK_eq (by omega)
  rw [t_rline, ← rline_eq]
  unfold rlineB lineK
  have hu := @head_eq R ⟨#[32, 117, 112]⟩ r h (by decide)
  have hd := @head_eq R ⟨#[32, 100, 111, 119, 110]⟩ r h (by decide)
  cases hr : r.up
  · simp only [cond_false]
    rw [(hd _).1]
    exact fin _ (Nat.le_trans (hd (fun _ => (none : Option R))).2 (by decide))
  · simp only [cond_true]
    have hb := (hu (fun _ => (none : Option R))).2
    rw [(hu _).1, (more_eq h hb _).1]
    exact fin _ (more_eq h hb (fun _ => (none : Option R))).2
theorem ok_rline : SumOk Tryd.prog 10 (libSum g_line) := ok_rp okSR2 Tryd.func10 (c := bodyOf Tryd.f10) (by kernel_rfl) (by kernel_rfl) fun r h => t_rline' h _
end Go.Proofs.YtkkacjmjjhjpeaaDoor.St

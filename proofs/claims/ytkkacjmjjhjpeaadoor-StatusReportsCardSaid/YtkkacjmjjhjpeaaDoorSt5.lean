/- The program's Line. No condition beyond those that each theorem names. -/
import Derived.Test.YtkkacjmjjhjpeaaDoorSt4
set_option maxRecDepth 100000
set_option linter.unusedSimpArgs false
set_option linter.unusedVariables false
namespace Go.Proofs.YtkkacjmjjhjpeaaDoor.St
open Go Go.Proofs.YtkkacjmjjhjpeaaDoor.Sx Go.Shelf Go.RowKit

structure Rp where
  err : Int
  phase : Int
  active : Int
  rev0 : Int
  rev1 : Int
  want0 : Int
  want1 : Int
  passed0 : Bool
  passed1 : Bool
  delay : Int
  gen : Int
  switch : Int
  flip : Int
  slot : Int
  cgen : Int
  vwant0 : Int
  vwant1 : Int
  ready0 : Int
  ready1 : Int
  up : Bool
  tick : Int
  deriving Inhabited
def encRp (s : Rp) : List CV := [.int .i64 s.err, .int .i64 s.phase, .int .i64 s.active, .int .i64 s.rev0, .int .i64 s.rev1, .int .i64 s.want0, .int .i64 s.want1, .bool s.passed0, .bool s.passed1, .int .i64 s.delay, .int .i64 s.gen, .int .i64 s.switch, .int .i64 s.flip, .int .i64 s.slot, .int .i64 s.cgen, .int .i64 s.vwant0, .int .i64 s.vwant1, .int .i64 s.ready0, .int .i64 s.ready1, .bool s.up, .int .i64 s.tick]
def decRp : List CV → Option Rp
  | [.int .i64 a0, .int .i64 a1, .int .i64 a2, .int .i64 a3, .int .i64 a4, .int .i64 a5, .int .i64 a6, .bool a7, .bool a8, .int .i64 a9, .int .i64 a10, .int .i64 a11, .int .i64 a12, .int .i64 a13, .int .i64 a14, .int .i64 a15, .int .i64 a16, .int .i64 a17, .int .i64 a18, .bool a19, .int .i64 a20] => some ⟨a0, a1, a2, a3, a4, a5, a6, a7, a8, a9, a10, a11, a12, a13, a14, a15, a16, a17, a18, a19, a20⟩
  | _ => none
def decRpD : List CV → Rp
  | [.int .i64 a0, .int .i64 a1, .int .i64 a2, .int .i64 a3, .int .i64 a4, .int .i64 a5, .int .i64 a6, .bool a7, .bool a8, .int .i64 a9, .int .i64 a10, .int .i64 a11, .int .i64 a12, .int .i64 a13, .int .i64 a14, .int .i64 a15, .int .i64 a16, .int .i64 a17, .int .i64 a18, .bool a19, .int .i64 a20] => ⟨a0, a1, a2, a3, a4, a5, a6, a7, a8, a9, a10, a11, a12, a13, a14, a15, a16, a17, a18, a19, a20⟩
  | _ => default
theorem decRp_spec (l : List CV) (s : Rp) (h : decRp l = some s) : l = encRp s := by
  unfold decRp at h; split at h <;> cases h; rfl
theorem encRp_ren (s : Rp) (π) : (encRp s).map (CV.ren π) = encRp s := rfl
theorem backRp (s : Rp) : decRpD (encRp s) = s := rfl
structure wfRp (s : Rp) : Prop where
  err : (Lit.int .i64 s.err).wf = true
  phase : (Lit.int .i64 s.phase).wf = true
  active : (Lit.int .i64 s.active).wf = true
  rev0 : (Lit.int .i64 s.rev0).wf = true
  rev1 : (Lit.int .i64 s.rev1).wf = true
  want0 : (Lit.int .i64 s.want0).wf = true
  want1 : (Lit.int .i64 s.want1).wf = true
  delay : (Lit.int .i64 s.delay).wf = true
  gen : (Lit.int .i64 s.gen).wf = true
  switch : (Lit.int .i64 s.switch).wf = true
  flip : (Lit.int .i64 s.flip).wf = true
  slot : (Lit.int .i64 s.slot).wf = true
  cgen : (Lit.int .i64 s.cgen).wf = true
  vwant0 : (Lit.int .i64 s.vwant0).wf = true
  vwant1 : (Lit.int .i64 s.vwant1).wf = true
  ready0 : (Lit.int .i64 s.ready0).wf = true
  ready1 : (Lit.int .i64 s.ready1).wf = true
  tick : (Lit.int .i64 s.tick).wf = true
theorem opRp (cvs : List CV) (vs : List Value) (h : LeafRs [.int .i64, .int .i64, .int .i64, .int .i64, .int .i64, .int .i64, .int .i64, .bool, .bool, .int .i64, .int .i64, .int .i64, .int .i64, .int .i64, .int .i64, .int .i64, .int .i64, .int .i64, .int .i64, .bool, .int .i64] cvs vs) : ∃ x, cvs = encRp x ∧ wfRp x := by
  obtain ⟨_, _, _, _, rfl, rfl, ⟨a0, rfl, rfl, w0⟩, h0⟩ := h.cons_inv
  obtain ⟨_, _, _, _, rfl, rfl, ⟨a1, rfl, rfl, w1⟩, h1⟩ := h0.cons_inv
  obtain ⟨_, _, _, _, rfl, rfl, ⟨a2, rfl, rfl, w2⟩, h2⟩ := h1.cons_inv
  obtain ⟨_, _, _, _, rfl, rfl, ⟨a3, rfl, rfl, w3⟩, h3⟩ := h2.cons_inv
  obtain ⟨_, _, _, _, rfl, rfl, ⟨a4, rfl, rfl, w4⟩, h4⟩ := h3.cons_inv
  obtain ⟨_, _, _, _, rfl, rfl, ⟨a5, rfl, rfl, w5⟩, h5⟩ := h4.cons_inv
  obtain ⟨_, _, _, _, rfl, rfl, ⟨a6, rfl, rfl, w6⟩, h6⟩ := h5.cons_inv
  obtain ⟨_, _, _, _, rfl, rfl, ⟨a7, rfl, rfl⟩, h7⟩ := h6.cons_inv
  obtain ⟨_, _, _, _, rfl, rfl, ⟨a8, rfl, rfl⟩, h8⟩ := h7.cons_inv
  obtain ⟨_, _, _, _, rfl, rfl, ⟨a9, rfl, rfl, w9⟩, h9⟩ := h8.cons_inv
  obtain ⟨_, _, _, _, rfl, rfl, ⟨a10, rfl, rfl, w10⟩, h10⟩ := h9.cons_inv
  obtain ⟨_, _, _, _, rfl, rfl, ⟨a11, rfl, rfl, w11⟩, h11⟩ := h10.cons_inv
  obtain ⟨_, _, _, _, rfl, rfl, ⟨a12, rfl, rfl, w12⟩, h12⟩ := h11.cons_inv
  obtain ⟨_, _, _, _, rfl, rfl, ⟨a13, rfl, rfl, w13⟩, h13⟩ := h12.cons_inv
  obtain ⟨_, _, _, _, rfl, rfl, ⟨a14, rfl, rfl, w14⟩, h14⟩ := h13.cons_inv
  obtain ⟨_, _, _, _, rfl, rfl, ⟨a15, rfl, rfl, w15⟩, h15⟩ := h14.cons_inv
  obtain ⟨_, _, _, _, rfl, rfl, ⟨a16, rfl, rfl, w16⟩, h16⟩ := h15.cons_inv
  obtain ⟨_, _, _, _, rfl, rfl, ⟨a17, rfl, rfl, w17⟩, h17⟩ := h16.cons_inv
  obtain ⟨_, _, _, _, rfl, rfl, ⟨a18, rfl, rfl, w18⟩, h18⟩ := h17.cons_inv
  obtain ⟨_, _, _, _, rfl, rfl, ⟨a19, rfl, rfl⟩, h19⟩ := h18.cons_inv
  obtain ⟨_, _, _, _, rfl, rfl, ⟨a20, rfl, rfl, w20⟩, h20⟩ := h19.cons_inv
  obtain ⟨rfl, rfl⟩ := h20.nil_inv
  exact ⟨⟨a0, a1, a2, a3, a4, a5, a6, a7, a8, a9, a10, a11, a12, a13, a14, a15, a16, a17, a18, a19, a20⟩, rfl, ⟨w0, w1, w2, w3, w4, w5, w6, w9, w10, w11, w12, w13, w14, w15, w16, w17, w18, w20⟩⟩
@[reducible] noncomputable def SL1 : Sums := [(18, joinS), (17, wordsS), (11, valSum (g_name phB)), (13, valSum (g_name erB))]
theorem okSL1 : SumsOk Tryd.prog SL1 := (((SumsOk.nil.cons ok_er).cons ok_ph).cons ok_words).cons ok_join
@[reducible] def upW : ByteArray := ⟨#[117, 112]⟩
@[reducible] def dnW : ByteArray := ⟨#[100, 111, 119, 110]⟩
@[reducible] def nlB : ByteArray := ⟨#[10]⟩
def l4 (w : ByteArray) (r : Rp) : List ByteArray := [erB r.err, w, wordsB ⟨#[116, 105, 99, 107]⟩ [r.tick], wordsB ⟨#[114, 111, 117, 116, 101]⟩ [r.slot, r.cgen]]
def l6 (r : Rp) : List ByteArray := [phB r.phase, wordsB ⟨#[97, 99, 116, 105, 118, 101]⟩ [r.active], wordsB ⟨#[103, 101, 110]⟩ [r.gen], wordsB ⟨#[114, 101, 118]⟩ [r.rev0, r.rev1], wordsB ⟨#[119, 97, 110, 116]⟩ [r.vwant0, r.vwant1], wordsB ⟨#[114, 101, 97, 100, 121]⟩ [r.ready0, r.ready1]]
def endK {R : Type} (l : List ByteArray) (K : TV → List (Option SB) → Option R) : Option R :=
  bif l.all small then (bif decide ((joinB l blB).size + 1 ≤ 9223372036854775807) then K (.s (stv (joinB l blB ++ nlB))) [] else none) else none
def restK {R : Type} (w : ByteArray) (r : Rp) (K : TV → List (Option SB) → Option R) : Option R :=
  bif [r.tick].all okI then (bif [r.slot, r.cgen].all okI then (bif r.up then
    (bif [r.active].all okI then (bif [r.gen].all okI then (bif [r.rev0, r.rev1].all okI && true then (bif [r.vwant0, r.vwant1].all okI && true then (bif [r.ready0, r.ready1].all okI && true then endK (l4 w r ++ l6 r) K else none) else none) else none) else none) else none)
    else endK (l4 w r) K) else none) else none
theorem t_line {R : Type} (r : Rp) (K : TV → List (Option SB) → Option R) : runFn Tryd.prog SL1 10 Tryd.f9 (bodyOf Tryd.f9) [.agg (encRp r)] [] K =
    bif r.up then restK upW r K else restK dnW r K := by kernel_rfl
/-- A reply's line. -/
def lineB (r : Rp) : ByteArray := joinB (bif r.up then l4 upW r ++ l6 r else l4 dnW r) blB ++ nlB
/-- Its numbers are ints. -/
def okR (r : Rp) : Bool := [r.tick, r.slot, r.cgen, r.active, r.gen, r.rev0, r.rev1, r.vwant0, r.vwant1, r.ready0, r.ready1].all okI
theorem erB_small (p : Int) : (erB p).size ≤ 7 := by
  unfold erB
  by_cases h : 0 ≤ p ∧ p < 15
  · rw [decide_eq_true h.1, decide_eq_true h.2]
    simp only [Bool.and_self, cond_true]
    have h2 : ∀ k : Fin 15, (erL.getD k .empty).size ≤ 7 := by decide
    exact h2 ⟨p.toNat, by omega⟩
  · have : (decide (0 ≤ p) && decide (p < 15)) = false := by simpa using h
    rw [this]; exact of_decide_eq_true rfl
theorem phB_small (p : Int) : (phB p).size ≤ 9 := by
  unfold phB
  by_cases h : 0 ≤ p ∧ p < 8
  · rw [decide_eq_true h.1, decide_eq_true h.2]
    simp only [Bool.and_self, cond_true]
    have h2 : ∀ k : Fin 8, (phL.getD k .empty).size ≤ 9 := by decide
    exact h2 ⟨p.toNat, by omega⟩
  · have : (decide (0 ≤ p) && decide (p < 8)) = false := by simpa using h
    rw [this]; exact of_decide_eq_true rfl
theorem wordsB_small {s : ByteArray} : ∀ {l : List Int}, l.all okI = true → (wordsB s l).size ≤ s.size + 21 * l.length
  | [], _ => Nat.le_refl _
  | n :: r, h => by
    simp only [List.all_cons, Bool.and_eq_true] at h
    have h1 := addW_size (s := s) h.1
    have h2 := wordsB_small (s := addW s n) h.2
    show (wordsB (addW s n) r).size ≤ _
    simp only [List.length_cons]
    omega
theorem small_of {s : ByteArray} {k : Nat} (h : s.size ≤ k) (hk : k ≤ 1000000) : small s = true := decide_eq_true (Nat.le_trans h hk)
theorem l4_small {w : ByteArray} {r : Rp} (hw : w.size ≤ 1000) (h : okR r = true) : (l4 w r).all small = true := by
  simp only [okR, List.all_cons, List.all_nil, Bool.and_true, Bool.and_eq_true] at h
  simp only [l4, List.all_cons, List.all_nil, Bool.and_true, Bool.and_eq_true]
  refine ⟨small_of (erB_small _) (by omega), small_of hw (by omega), small_of (wordsB_small (l := [r.tick]) (by simp [h])) ?_, small_of (wordsB_small (l := [r.slot, r.cgen]) (by simp [h])) ?_⟩ <;> exact of_decide_eq_true rfl
theorem l6_small {r : Rp} (h : okR r = true) : (l6 r).all small = true := by
  simp only [okR, List.all_cons, List.all_nil, Bool.and_true, Bool.and_eq_true] at h
  simp only [l6, List.all_cons, List.all_nil, Bool.and_true, Bool.and_eq_true]
  refine ⟨small_of (phB_small _) (by omega), small_of (wordsB_small (l := [r.active]) (by simp [h])) ?_, small_of (wordsB_small (l := [r.gen]) (by simp [h])) ?_, small_of (wordsB_small (l := [r.rev0, r.rev1]) (by simp [h])) ?_, small_of (wordsB_small (l := [r.vwant0, r.vwant1]) (by simp [h])) ?_, small_of (wordsB_small (l := [r.ready0, r.ready1]) (by simp [h])) ?_⟩ <;> exact of_decide_eq_true rfl
theorem join_small {l : List ByteArray} (h : l.all small = true) (hl : l.length ≤ 1000) : (joinB l blB).size ≤ 2000000000 := by
  have := join_len blB (by decide) l (fun x hx => of_decide_eq_true (List.all_eq_true.1 h x hx))
  show (Lib.join (l.map (·.data.toList)) blB.data.toList).length ≤ _
  omega
theorem endK_eq {R : Type} {l : List ByteArray} (h : l.all small = true) (hl : l.length ≤ 1000) (K : TV → List (Option SB) → Option R) : endK l K = K (.s (stv (joinB l blB ++ nlB))) [] := by
  have := join_small h hl
  unfold endK
  rw [h, decide_eq_true (show (joinB l blB).size + 1 ≤ 9223372036854775807 by omega)]
  rfl
theorem t_line' {R : Type} {r : Rp} (h : okR r = true) (K : TV → List (Option SB) → Option R) : runFn Tryd.prog SL1 10 Tryd.f9 (bodyOf Tryd.f9) [.agg (encRp r)] [] K = K (.s (stv (lineB r))) [] := by
  rw [t_line]
  have hu := l4_small (w := upW) (by decide) h
  have hd := l4_small (w := dnW) (by decide) h
  have h6 := l6_small h
  have hud : (l4 upW r ++ l6 r).all small = true := by rw [List.all_append, hu, h6]; rfl
  have e1 := endK_eq hud (by simp [l4, l6]) K
  have e2 := endK_eq hd (by simp [l4]) K
  simp only [okR, List.all_cons, List.all_nil, Bool.and_true, Bool.and_eq_true] at h
  unfold restK lineB
  simp only [List.all_cons, List.all_nil, Bool.and_true, h, cond_true]
  cases hr : r.up
  · simp only [cond_false]; exact e2
  · simp only [cond_true]; exact e1
def g_line : List SV → Option (Bool × TV)
  | [.agg l] => (decRp l).bind fun r => some (okR r, .s (stv (lineB r)))
  | _ => none
/-- A function of one reply. -/
theorem ok_rp {Su : Sums} (hS : SumsOk Tryd.prog Su) {f : FuncId} {fn : Func} {c : Code} (hf : Tryd.prog.funcs[f]? = some fn) (hb : fn.body = some c) (hname : (fn.name == "runtime.NumGoroutine") = false)
    (h : ∀ (r : Rp), okR r = true → runFn Tryd.prog Su 10 fn c [.agg (encRp r)] [] (fun tv hp => some (tv, hp)) = some (.s (stv (lineB r)), [])) : SumOk Tryd.prog f (libSum g_line) := by
  refine sumOk_of hS mixed hf hb hname ?_
  intro args nx look e rds hs
  obtain ⟨⟨b, tv⟩, h1, h2⟩ := opt_sem.1 hs
  obtain ⟨hb', h3⟩ := br_sem.1 h2
  simp only at hb' h3
  subst hb'
  rw [pure_sem] at h3
  cases h3
  unfold g_line at h1
  split at h1
  · rename_i l
    obtain ⟨r, h4, h5⟩ := Option.bind_eq_some_iff.1 h1
    simp only [Option.some.injEq, Prod.mk.injEq] at h5
    obtain ⟨h5, rfl⟩ := h5
    obtain rfl := decRp_spec _ _ h4
    refine ⟨[], [.agg (encRp r)], [], _, [], 10, ⟨rfl, ?_, rfl, ?_, rfl, rfl, ?_, ?_, ?_⟩, h r h5⟩
    · rfl
    · intro i b h; simp at h
    · intro i b h; simp at h
    · intro j hj; simp at hj
    · intro b _ _; rw [upd_nil]
  · cases h1
theorem ok_line : SumOk Tryd.prog 9 (libSum g_line) := ok_rp okSL1 Tryd.func9 (c := bodyOf Tryd.f9) (by kernel_rfl) (by kernel_rfl) fun r h => t_line' h _
end Go.Proofs.YtkkacjmjjhjpeaaDoor.St

/- The program's Report. No condition beyond those that each theorem names. -/
import Derived.Test.YtkkacjmjjhjpeaaDoorSt10
import Derived.WalkKit
set_option maxRecDepth 100000
set_option linter.unusedSimpArgs false
set_option linter.unusedVariables false
namespace Go.Proofs.YtkkacjmjjhjpeaaDoor.St
open Go Go.Proofs.YtkkacjmjjhjpeaaDoor.Sx Go.Shelf Go.RowKit

/-! ### Report's code in pieces -/
def sub : List Nat → Code → Code
  | [], c => c
  | 0 :: r, .seq a _ => sub r a
  | _ :: r, .seq _ b => sub r b
  | _ :: r, .block _ b => sub r b
  | _ :: r, .loop b => sub r b
  | _, c => c
def opsR : Code → Array Oper
  | .region _ ops _ => ops
  | _ => #[]
noncomputable def rpB : Code := bodyOf Tryd.f15
/-- The loop's body. -/
noncomputable def lpB : Code := sub [1, 1, 0, 1, 0, 0] rpB
noncomputable def q3 : Code := sub [0] lpB
noncomputable def q4 : Code := sub [1, 1, 0, 0, 0] lpB
noncomputable def q5 : Code := sub [1, 1, 0, 0, 1] lpB
noncomputable def q6 : Code := sub [1, 1, 1] lpB
theorem lpB_eq : lpB = .seq q3 (.seq (.cond (.tmp 9) .skip (.exit 0)) (.seq (.block 1 (.seq q4 q5)) q6)) := by kernel_rfl
theorem q5_eq : q5 = .region 5 (opsR q5) false := by kernel_rfl
def litC : CV → Bool
  | .int _ _ => true
  | .bool _ => true
  | _ => false
theorem rl_any {X X' : Outs} {ρ ρ' : Rho} : ∀ {xs : List CV} {vs : List Value}, xs.all litC = true → RL (CV.R X ρ) xs vs → RL (CV.R X' ρ') xs vs
  | [], [], _, _ => trivial
  | x :: xs, v :: vs, h, ⟨h1, h2⟩ => by
    simp only [List.all_cons, Bool.and_eq_true] at h
    refine ⟨?_, rl_any h.2 h2⟩
    cases x <;> first
      | exact h1
      | cases h.1
theorem rp_lit (r : Rp) : (encRp r).all litC = true := rfl
/-- The lines of the first k replies. -/
def linesL (f : Nat → Rp) : Nat → List UInt8
  | 0 => []
  | k + 1 => linesL f k ++ (lineB (f k)).data.toList
@[reducible] def stR (n k : Nat) (f : Nat → Rp) : St := ⟨[(3, .s (.c (.ptr 1 0))), (6, .s (.c (.slc 0 0 n))), (7, .s (.c (.int .i64 (n : Int)))), (8, .s (.c (.int .i64 (k : Int))))], [some (.ro 21 (.gen n fun j => encRp (f j))), none], 2, 17⟩
def rho2 (l : Sx.Loc) (B : Nat) : Rho := fun b => if b = 0 then some l else if b = 1 then some ⟨B, 0, 1, 1, false⟩ else none
/-- What the loop's slots hold. -/
structure Sl (l : Sx.Loc) (B n k : Nat) (a : Act) : Prop where
  size : a.tmps.size = 17
  defers : a.defers = []
  s3 : a.tmps[3]? = some (.pointer (some ⟨B, 0, none⟩))
  s6 : ∃ v, a.tmps[6]? = some v ∧ SlcR l 0 n v
  s7 : a.tmps[7]? = some (.int .i64 (n : Int))
  s8 : a.tmps[8]? = some (.int .i64 (k : Int))
/-- A row of replies that lies in the memory of w. -/
def RowAt (l : Sx.Loc) (n : Nat) (f : Nat → Rp) (w : World) : Prop := l.es = 21 ∧ (n = 0 ∨ ∃ arr t fr, l.blk < w.heap.size ∧ w.heap[l.blk]? = some (.cells arr t fr) ∧ RowR (CV.R (fun _ _ => False) noRho) arr.toList l.off 21 (.gen n fun j => encRp (f j)))
theorem RowAt.below {l : Sx.Loc} {n : Nat} {f : Nat → Rp} {w w' : World} (h : RowAt l n f w) (hb : Below w.heap.size w w') : RowAt l n f w' := by
  refine ⟨h.1, ?_⟩
  rcases h.2 with h | ⟨arr, t, fr, h1, h2, h3⟩
  · exact .inl h
  · exact .inr ⟨arr, t, fr, Nat.lt_of_lt_of_le h1 hb.size, (hb.block _ h1).trans h2, h3⟩
theorem tabs_below {w w' : World} (h : TabsAt fun n => w.heap[n]?) (hb : Below w.heap.size w w') : TabsAt fun n => w'.heap[n]? := by
  intro p hp
  obtain ⟨t, fr, hh⟩ := h p hp
  exact ⟨t, fr, (hb.block _ (Array.getElem?_eq_some_iff.1 hh).1).trans hh⟩
theorem isb_below {T e : TypeId} {B b : Nat} {bs : List Value} {w w' : World} (h : Lib.IsBuilder T e B b bs w) (hb : ∀ k, k < w.heap.size → w'.heap[k]? = w.heap[k]?) : Lib.IsBuilder T e B b bs w' := by
  have key : ∀ p, Lib.BuilderAt T e B b p bs w → Lib.BuilderAt T e B b p bs w' := by
    rintro p ⟨h1, v, h2, h3, h4⟩
    refine ⟨h1, v, (hb b (Array.getElem?_eq_some_iff.1 h2).1).trans h2, ⟨h3.1, ?_⟩, h4⟩
    rcases h3.2 with h5 | ⟨g, cap, cur, h5, h6, h7, h8⟩
    · exact .inl h5
    · exact .inr ⟨g, cap, cur, h5, h6, (hb g (Array.getElem?_eq_some_iff.1 h7).1).trans h7, h8⟩
  rcases h with h | h
  · exact .inl (key _ h)
  · exact .inr (key _ h)
@[reducible] def outR (w : World) (ht : TabsAt fun n => w.heap[n]?) : Ctx := outer w (fun _ _ => False) ht
theorem rep0 {w : World} {ht : TabsAt fun n => w.heap[n]?} {l : Sx.Loc} {B n k : Nat} {f : Nat → Rp} {a : Act} (hr : RowAt l n f w) (ha : Sl l B n k a) : StRep (outR w ht) w (fun _ => False) (rho2 l B) (stR n k f) a w := by
  refine ⟨ha.size, ?_, ha.defers, ?_, rfl, ?_⟩
  · intro t tv h
    simp only [getT] at h
    by_cases h3 : t = 3
    · subst h3; cases h; exact ⟨_, ha.s3, ⟨_, rfl, rfl⟩⟩
    by_cases h6 : t = 6
    · subst h6; cases h
      obtain ⟨v, h1, h2⟩ := ha.s6
      exact ⟨v, h1, ⟨_, rfl, h2⟩⟩
    by_cases h7 : t = 7
    · subst h7; cases h; exact ⟨_, ha.s7, rfl⟩
    by_cases h8 : t = 8
    · subst h8; cases h; exact ⟨_, ha.s8, rfl⟩
    have hb : ∀ m, t ≠ m → Nat.beq m t = false := fun m hm => Bool.eq_false_iff.2 fun hh => hm (Nat.eq_of_beq_eq_true hh).symm
    rw [hb 3 h3, hb 6 h6, hb 7 h7, hb 8 h8] at h
    cases h
  · have hlk : ∀ b sb, lookL (stR n k f).hp b = some sb → b = 0 ∧ sb = .ro 21 (.gen n fun j => encRp (f j)) := by
      intro b sb h
      match b with
      | 0 => exact ⟨rfl, by simpa [lookL] using h.symm⟩
      | 1 => simp [lookL] at h
      | b + 2 => simp [lookL] at h
    refine ⟨?_, ?_, ?_, fun n hn => ⟨rfl, hn⟩, fun _ _ _ => rfl, Nat.le_refl _, rfl, rfl, rfl⟩
    · intro b sb h
      obtain ⟨rfl, rfl⟩ := hlk b sb h
      refine ⟨l, rfl, hr.1, ?_⟩
      rcases hr.2 with h0 | ⟨arr, t, fr, h1, h2, h3⟩
      · exact .inl h0
      · exact .inr ⟨arr, t, fr, h1, h2, fun i hi => by rw [hr.1]; exact ⟨rl_any (rp_lit _) (h3 i hi).1, (h3 i hi).2⟩⟩
    · intro b b' sb sb' l l' h _ ho
      obtain ⟨rfl, rfl⟩ := hlk b sb h
      cases ho
    · intro b sb l h ho
      obtain ⟨rfl, rfl⟩ := hlk b sb h
      cases ho
  · intro b hb
    have hb : 2 ≤ b := hb
    unfold rho2
    rw [if_neg (by omega), if_neg (by omega)]
@[reducible] noncomputable def SLn : Sums := [(9, libSum g_line)]
theorem okSLn : SumsOk Tryd.prog SLn := SumsOk.nil.cons ok_line
theorem rep_below {C : Ctx} {w w' : World} {ρ : Rho} {st : St} {a : Act} (H : StRep C w (fun _ => False) ρ st a w') : Below w.heap.size w w' :=
  ⟨H.heap.env.1, H.heap.env.2.1, H.heap.env.2.2, H.heap.size, fun k hk => H.heap.frame k hk fun h => h⟩
/-- Back from a state to the slots. -/
theorem rep_sl {C : Ctx} {w w' : World} {ρ : Rho} {st : St} {a : Act} {l : Sx.Loc} {B n k : Nat} (H : StRep C w (fun _ => False) ρ st a w') (h17 : st.sz = 17) (hag : (rho2 l B).agree 2 ρ)
    (h3 : getT st.tm 3 = some (.s (.c (.ptr 1 0)))) (h6 : getT st.tm 6 = some (.s (.c (.slc 0 0 n)))) (h7 : getT st.tm 7 = some (.s (.c (.int .i64 (n : Int))))) (h8 : getT st.tm 8 = some (.s (.c (.int .i64 (k : Int))))) : Sl l B n k a := by
  have r0 : ρ 0 = some l := hag 0 (by decide) l rfl
  have r1 : ρ 1 = some ⟨B, 0, 1, 1, false⟩ := hag 1 (by decide) _ rfl
  obtain ⟨v3, a3, l3, b3, c3⟩ := H.tm 3 _ h3
  obtain ⟨v6, a6, l6, b6, c6⟩ := H.tm 6 _ h6
  obtain ⟨v7, a7, c7⟩ := H.tm 7 _ h7
  obtain ⟨v8, a8, c8⟩ := H.tm 8 _ h8
  rw [r1] at b3
  cases b3
  rw [r0] at b6
  cases b6
  have c7 : v7 = .int .i64 (n : Int) := c7
  have c8 : v8 = .int .i64 (k : Int) := c8
  subst c3 c7 c8
  exact ⟨H.size.trans h17, H.defers, a3, ⟨v6, a6, c6⟩, a7, a8⟩
/-- A piece of code that comes to one state. -/
theorem piece {c : Code} {st st' : St} (hrun : run Tryd.prog SLn [] 10 2 0 c [] 0 st (fun e s => some (e, s)) = some (.normal, st')) (hl : loopsOf 0 c [] 0 = []) {C : Ctx} {w1 : World} {S : Nat → Prop} {ρ : Rho} {a : Act} {w : World} {Q : Exit → Act → World → Prop} (H : StRep C w1 S ρ st a w)
    (hQ : ∀ ρ' a' w', ρ.agree 2 ρ' → StRep C w1 S ρ' st' a' w' → Q .normal a' w') : c.wp Tryd.prog Q a w := by
  refine run_sound okSLn mixed (keepN := 2) (rt := 0) (L := []) (by rw [hl]; exact fun _ h => by cases h) hrun H ?_
  intro e st'' ρ' a' w' hk hag R'
  simp only [Option.some.injEq, Prod.mk.injEq] at hk
  obtain ⟨rfl, rfl⟩ := hk
  exact hQ ρ' a' w' hag R'
@[reducible] def st3 (n k : Nat) (f : Nat → Rp) : St := ⟨(9, .s (bl (decide ((k : Int) < (n : Int))))) :: (stR n k f).tm, (stR n k f).hp, 2, 17⟩
theorem t_q3 (n k : Nat) (f : Nat → Rp) : run Tryd.prog SLn [] 10 2 0 q3 [] 0 (stR n k f) (fun e s => some (e, s)) = some (.normal, st3 n k f) := by kernel_rfl
@[reducible] def st4 (n k : Nat) (f : Nat → Rp) : St := ⟨(5, .s (.c (.ptr 2 0))) :: (11, .s (.agg (encRp (f (addI 0 k))))) :: (10, .s (.c (.eptr 0 (addI 0 k) 0))) :: (stR n k f).tm, [some (.ro 21 (.gen n fun j => encRp (f j))), none, some (.cells (encRp (f (addI 0 k))))], 3, 17⟩
theorem t_q4 (n k : Nat) (f : Nat → Rp) : run Tryd.prog SLn [] 10 2 0 q4 [] 0 (stR n k f) (fun e s => some (e, s)) =
    bif decide (0 ≤ (k : Int)) && decide ((k : Int) < (n : Int)) then (bif decide (addI 0 k < n) then some (.normal, st4 n k f) else none) else none := by kernel_rfl
@[reducible] def st6 (n k : Nat) (f : Nat → Rp) : St := ⟨(8, .s (.c (.int .i64 (IntKind.i64.wrap ((k : Int) + 1))))) :: (15, .s (.c (.int .i64 (IntKind.i64.wrap ((k : Int) + 1))))) :: (stR n k f).tm, (stR n k f).hp, 2, 17⟩
theorem t_q6 (n k : Nat) (f : Nat → Rp) : run Tryd.prog SLn [] 10 2 0 q6 [] 0 (stR n k f) (fun e s => some (e, s)) = some (.normal, st6 n k f) := by kernel_rfl
/-! ### The fifth region: a load, a line, a write -/
noncomputable def o5 (i : Nat) : Oper := ((opsR q5)[i]?).getD ⟨none, .move (.tmp 0), 0, "", #[], none⟩
theorem q5_size : (opsR q5).size = 3 := by kernel_rfl
theorem o5_0 : (opsR q5)[0]? = some (o5 0) := by kernel_rfl
theorem o5_1 : (opsR q5)[1]? = some (o5 1) := by kernel_rfl
theorem o5_2 : (opsR q5)[2]? = some (o5 2) := by kernel_rfl
noncomputable def c5 : Call := match (o5 2).op with
  | .call c => c
  | _ => ⟨.value (.tmp 0), #[], #[]⟩
theorem ops_cons {P : Program} {ops : Array Oper} {Q : Exit → Act → World → Prop} {i : Nat} {rest : List Nat} {o : Oper} {a : Act} {w : World} (hi : ops[i]? = some o) (hg : o.guard = none) (h : o.wp P a w (wpOps P ops Q rest) Q) : wpOps P ops Q (i :: rest) a w := by
  simp only [wpOps, hi]
  rw [if_pos (by simp [Region.wanted, hg])]
  exact .inl h
theorem call_op {P : Program} {o : Oper} {c : Call} {g : FuncId} {fn : Func} {a : Act} {w : World} {args : Array Value} {K : Act → World → Prop} {Q : Exit → Act → World → Prop} (ho : o.op = .call c) (hc : c.callee = .value (.func g)) (hargs : c.args.map a.eval = args)
    (hf : P.funcs[g]? = some fn) (hb : fn.body.isNone = false) (hname : (fn.name == "runtime.NumGoroutine") = false) (hcall : Calls P g args w fun e w' => ∃ v, e = .returned v ∧ K (a.put o.dst v) w') : o.wp P a w K Q := by
  have hq : (execOp a.eval o).run P w = .ok (.enter g args) w := by
    have hnm : ¬ fn.name = "runtime.NumGoroutine" := by simpa using hname
    have hbn : ¬ fn.body = none := fun h => by simp [h] at hb
    simp only [execOp, ho, resolve, hc, hargs]
    simp [invoke, callFunc, hf, hbn, hnm, Act.eval, Deferred.ofValue]
  unfold Oper.wp
  rw [hq]
  refine Calls.mono hcall ?_
  rintro x w' ⟨v, rfl, hk⟩
  exact hk
theorem lineB_big {r : Rp} (h : okR r = true) : (lineB r).size ≤ 2000000001 := by
  have hu := l4_small (w := upW) (by decide) h
  have hd := l4_small (w := dnW) (by decide) h
  have h6 := l6_small h
  unfold lineB
  have hnl : nlB.size = 1 := rfl
  rw [ByteArray.size_append, hnl]
  cases r.up
  · have := join_small hd (by simp [l4]); simp only [cond_false]; omega
  · have := join_small (l := l4 upW r ++ l6 r) (by rw [List.all_append, hu, h6]; rfl) (by simp [l4, l6]); simp only [cond_true]; omega
theorem lines_len {f : Nat → Rp} {n : Nat} (h : ∀ j, j < n → okR (f j) = true) : ∀ k, k ≤ n → (linesL f k).length ≤ k * 2000000001
  | 0, _ => Nat.zero_le _
  | k + 1, hk => by
    have h1 := lines_len h k (by omega)
    have h2 := lineB_big (h k (by omega))
    have h3 : (lineB (f k)).data.toList.length = (lineB (f k)).size := rfl
    simp only [linesL, List.length_append]
    omega
end Go.Proofs.YtkkacjmjjhjpeaaDoor.St

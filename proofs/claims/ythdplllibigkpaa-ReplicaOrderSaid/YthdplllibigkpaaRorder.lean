/- A loop over a map that counts what holds. No condition beyond those that each theorem names. -/
import Derived.Test.YthdplllibigkpaaRmap
import Derived.Maps.RangeRun
set_option maxRecDepth 100000
set_option linter.unusedSimpArgs false
set_option linter.unusedVariables false
namespace Go.Proofs.Ythdplllibigkpaa.Rep
open Go Go.Proofs.Ythdplllibigkpaa.Sx
/-! ### What is left of a map -/
theorem push_contains (seen : Array Nat) (b x : Nat) : (seen.push b).contains x = (seen.contains x || x == b) := by
  rw [Bool.eq_iff_iff]
  simp only [Array.contains_iff_mem, Array.mem_push, Bool.or_eq_true, beq_iff_eq]
theorem left_count {q : MapEntry → Bool} {seen : Array Nat} {e : MapEntry} (hs : seen.contains e.born = false) : ∀ {L : List MapEntry}, (L.map (·.born)).Nodup → e ∈ L →
    L.countP (fun x => !(seen.push e.born).contains x.born && q x) + (if q e then 1 else 0) = L.countP (fun x => !seen.contains x.born && q x)
  | x :: r, hn, he => by
    simp only [List.map_cons, List.nodup_cons] at hn
    rcases List.mem_cons.1 he with rfl | he
    · have hr : ∀ y ∈ r, (!(seen.push e.born).contains y.born && q y) = (!seen.contains y.born && q y) := by
        intro y hy
        rw [push_contains]
        have : (y.born == e.born) = false := by
          rw [beq_eq_false_iff_ne]
          intro h
          exact hn.1 (h ▸ List.mem_map.2 ⟨y, hy, rfl⟩)
        rw [this, Bool.or_false]
      rw [List.countP_cons, List.countP_cons, List.countP_congr (fun y hy => by rw [hr y hy]), push_contains, hs]
      simp
    · have hne : (x.born == e.born) = false := by
        rw [beq_eq_false_iff_ne]
        intro h
        exact hn.1 (h ▸ List.mem_map.2 ⟨e, he, rfl⟩)
      have ih := left_count (q := q) hs hn.2 he
      rw [List.countP_cons, List.countP_cons, push_contains, hne, Bool.or_false]
      omega
theorem entsL_born : ∀ (es : List (Int × Bool)) (k : Nat), (∀ x ∈ entsL k es, k ≤ x.born ∧ x.born < k + es.length) ∧ ((entsL k es).map (·.born)).Nodup
  | [], k => ⟨fun x h => (by cases h), by simp [entsL]⟩
  | p :: r, k => by
    obtain ⟨h1, h2⟩ := entsL_born r (k + 1)
    refine ⟨fun x hx => ?_, ?_⟩
    · rcases List.mem_cons.1 hx with rfl | hx
      · simp
      · have := h1 x hx
        simp only [List.length_cons]
        omega
    · simp only [entsL, List.map_cons, List.nodup_cons]
      refine ⟨fun hm => ?_, h2⟩
      obtain ⟨x, hx, he⟩ := List.mem_map.1 hm
      have := h1 x hx
      omega
def isT (x : MapEntry) : Bool := match x.val with
  | .bool true => true
  | _ => false
def trues : List (Int × Bool) → Nat
  | [] => 0
  | (_, b) :: r => (bif b then 1 else 0) + trues r
theorem trues_count : ∀ (es : List (Int × Bool)) (k : Nat), (entsL k es).countP (fun x => !(#[] : Array Nat).contains x.born && isT x) = trues es
  | [], _ => rfl
  | (n, b) :: r, k => by
    show List.countP _ (_ :: _) = (bif b then 1 else 0) + trues r
    rw [List.countP_cons, trues_count r (k + 1)]
    cases b <;> simp [isT, Nat.add_comm]
theorem trues_le : ∀ es : List (Int × Bool), trues es ≤ es.length
  | [] => Nat.le_refl _
  | (n, b) :: r => by
    show (bif b then 1 else 0) + trues r ≤ r.length + 1
    have := trues_le r
    cases b <;> simp only [cond_true, cond_false] <;> omega
theorem entsL_val : ∀ (es : List (Int × Bool)) (k : Nat), ∀ x ∈ entsL k es, ∃ n b, x.key = .int .i64 n ∧ x.val = .bool b
  | p :: r, k, x, hx => by
    rcases List.mem_cons.1 hx with rfl | hx
    · exact ⟨_, _, rfl, rfl⟩
    · exact entsL_val r (k + 1) x hx
theorem leftOf_size (es : List (Int × Bool)) (seen : Array Nat) : (leftOf (entsOf es) seen).size = (entsL 0 es).countP (fun x => !seen.contains x.born && true) := by
  unfold leftOf entsOf
  rw [← Array.length_toList, Array.toList_filter, List.countP_eq_length_filter]
  simp
/-! ### A block that nobody knows of is written -/
theorem HRep.poke {C : Ctx} {w1 w w' : World} {S : Nat → Prop} {ρ : Rho} {look : Look} (H : HRep C w1 S ρ look w) {k : Nat} (hI : ¬ C.I k) (hS : S k ∨ w1.heap.size ≤ k) (hb : ∀ b sb l, look b = some sb → sb.own = true → ρ b = some l → l.nil = false → l.blk ≠ k)
    (hsz : w'.heap.size = w.heap.size) (hoth : ∀ n, n ≠ k → w'.heap[n]? = w.heap[n]?) (henv : w'.os = w.os ∧ w'.tape = w.tape ∧ w'.output = w.output) : HRep C w1 S ρ look w' := by
  refine ⟨?_, H.inj, ?_, ?_, ?_, by rw [hsz]; exact H.size, ?_⟩
  · intro b sb h
    obtain ⟨l, h1, h2⟩ := H.blk b sb h
    refine ⟨l, h1, ?_⟩
    cases hso : sb.own with
    | true =>
      cases hmn : l.nil with
      | true =>
        cases sb with
        | cells cs => exact absurd h2.1 (by simp [hmn])
        | vec es pre cc =>
          rcases h2 with h2 | h2
          · exact .inl h2
          · exact absurd h2.1 (by simp [hmn])
        | ro es cc => simp [SB.own] at hso
        | mapi es => exact absurd h2.1 (by simp [hmn])
        | iter b n => exact absurd h2.1 (by simp [hmn])
      | false => exact h2.heap (hoth _ (hb b sb l h hso h1 hmn))
    | false =>
      cases sb with
      | ro es cc =>
        rcases h2 with ⟨he, h2 | ⟨arr, t, fr, hIm, e, h3⟩⟩
        · exact ⟨he, .inl h2⟩
        · exact ⟨he, .inr ⟨arr, t, fr, hIm, (hoth _ (fun h => hI (h ▸ hIm))).trans e, h3⟩⟩
      | _ => simp [SB.own] at hso
  · intro b sb l h1 h2 h3 h4
    obtain ⟨q1, q2, q3⟩ := H.own b sb l h1 h2 h3 h4
    exact ⟨q1, by rw [hsz]; exact q2, q3⟩
  · intro n hn
    obtain ⟨q1, q2⟩ := H.out n hn
    exact ⟨(hoth n fun h => hI (h ▸ hn)).trans q1, by rw [hsz]; exact q2⟩
  · intro n hn hSn
    rw [hoth n ?_]
    · exact H.frame n hn hSn
    · rintro rfl
      rcases hS with h | h
      · exact hSn h
      · omega
  · exact ⟨henv.1.trans H.env.1, henv.2.1.trans H.env.2.1, henv.2.2.trans H.env.2.2⟩
/-! ### The loop's code -/
def seqL : Code → Code
  | .seq a _ => a
  | c => c
def seqR : Code → Code
  | .seq _ b => b
  | c => c
def blkB : Code → Code
  | .block _ b => b
  | c => c
def cndT : Code → Code
  | .cond _ x _ => x
  | c => c
def regO : Code → Array Oper
  | .region _ ops _ => ops
  | _ => #[]
def opAt (ops : Array Oper) (i : Nat) : Oper := ops.getD i ⟨none, .move (.tmp 0), 0, "", #[], none⟩
@[reducible] noncomputable def bd : Code := (lpAt Try.f5 1).body
@[reducible] noncomputable def B16 : Array Oper := regO (seqL bd)
@[reducible] noncomputable def B17 : Array Oper := regO (seqL (blkB (seqR (seqR bd))))
@[reducible] noncomputable def cT : Code := seqR (blkB (seqR (seqR bd)))
@[reducible] noncomputable def B18 : Array Oper := regO (seqL cT)
@[reducible] noncomputable def B19 : Array Oper := regO (cndT (seqR cT))
theorem bd_eq : bd = .seq (.region 16 B16 false) (.seq (.cond (.tmp 77) .skip (.exit 2)) (.block 3 (.seq (.region 17 B17 false) (.seq (.region 18 B18 false) (.cond (.tmp 80) (.region 19 B19 false) .skip))))) := by kernel_rfl
structure IsOp (ops : Array Oper) (i : Nat) (op : Op) (d : Tmp) : Prop where
  at_ : ops[i]? = some (opAt ops i)
  op : (opAt ops i).op = op
  dst : (opAt ops i).dst = some d
  guard : (opAt ops i).guard = none
theorem b16 : B16.size = 2 ∧ IsOp B16 0 (.next (.tmp 75) false) 76 ∧ IsOp B16 1 (.extract (.tmp 76) 0) 77 := ⟨by kernel_rfl, ⟨by kernel_rfl, by kernel_rfl, by kernel_rfl, by kernel_rfl⟩, ⟨by kernel_rfl, by kernel_rfl, by kernel_rfl, by kernel_rfl⟩⟩
theorem b17 : B17.size = 3 ∧ IsOp B17 0 (.entry (.tmp 75)) 78 ∧ IsOp B17 1 (.extract (.tmp 78) 1) 79 ∧ IsOp B17 2 (.assign (.tmp 79)) 11 := ⟨by kernel_rfl, ⟨by kernel_rfl, by kernel_rfl, by kernel_rfl, by kernel_rfl⟩, ⟨by kernel_rfl, by kernel_rfl, by kernel_rfl, by kernel_rfl⟩, ⟨by kernel_rfl, by kernel_rfl, by kernel_rfl, by kernel_rfl⟩⟩
theorem b18 : B18.size = 1 ∧ IsOp B18 0 (.move (.tmp 11)) 80 := ⟨by kernel_rfl, ⟨by kernel_rfl, by kernel_rfl, by kernel_rfl, by kernel_rfl⟩⟩
theorem b19 : B19.size = 3 ∧ IsOp B19 0 (.move (.tmp 9)) 81 ∧ IsOp B19 1 (.binOp .add 3 (.tmp 81) (.const (.int .i64 1)) 3) 82 ∧ IsOp B19 2 (.assign (.tmp 82)) 9 := ⟨by kernel_rfl, ⟨by kernel_rfl, by kernel_rfl, by kernel_rfl, by kernel_rfl⟩, ⟨by kernel_rfl, by kernel_rfl, by kernel_rfl, by kernel_rfl⟩, ⟨by kernel_rfl, by kernel_rfl, by kernel_rfl, by kernel_rfl⟩⟩
section
variable {P : Program} {ops : Array Oper} {Q : Exit → Act → World → Prop} {a : Act} {w w' : World}
theorem step_val {i : Nat} {rest : List Nat} {op : Op} {d : Tmp} {v : Value} (h : IsOp ops i op d) (hx : ∀ o : Oper, o.op = op → (execOp a.eval o).run P w = .ok (.value v) w') (hn : wpOps P ops Q rest (a.put (some d) v) w') : wpOps P ops Q (i :: rest) a w := by
  unfold wpOps
  rw [h.at_]
  simp only
  have hw : Region.wanted (opAt ops i) (yielded ops a.tmps) = true := by unfold Region.wanted; rw [h.guard]
  rw [if_pos hw]
  left
  unfold Oper.wp
  rw [hx _ h.op, Oper.upon_value, h.dst]
  exact hn
theorem ev_tmp {t : Nat} {v : Value} (h : a.tmps[t]? = some v) : a.eval (.tmp t) = v := by
  show a.tmps.getD t undef = v
  rw [Array.getD_eq_getD_getElem?, h]; rfl
theorem x_move {x : Operand} {o : Oper} (h : o.op = .move x ∨ o.op = .assign x) : (execOp a.eval o).run P w = .ok (.value (a.eval x)) w := by
  rcases h with h | h <;> simp [execOp, h]
theorem x_extract {x : Operand} {i : Nat} {vs : Array Value} {v : Value} {o : Oper} (h : o.op = .extract x i) (hx : a.eval x = .tuple vs) (hv : vs[i]? = some v) : (execOp a.eval o).run P w = .ok (.value v) w := by
  simp only [execOp, h, hx]
  refine ok_value1 ?_
  simp [Instr.extract, hv]
end
/-! ### The loop -/
/-- The slots that live on. -/
structure Jt (n : Int) (v5 v75 : Value) (c : Int) (a : Act) : Prop where
  sz : a.tmps.size = 93
  df : a.defers = []
  t0 : a.tmps[0]? = some (.int .i64 n)
  t5 : a.tmps[5]? = some v5
  t9 : a.tmps[9]? = some (.int .i64 c)
  t75 : a.tmps[75]? = some v75
theorem Jt.put {n c : Int} {v5 v75 : Value} {a : Act} (h : Jt n v5 v75 c a) (d : Nat) (v : Value) (h0 : d ≠ 0) (h5 : d ≠ 5) (h9 : d ≠ 9) (h75 : d ≠ 75) : Jt n v5 v75 c (a.put (some d) v) := by
  refine ⟨by rw [put_size]; exact h.sz, by rw [put_defers]; exact h.df, ?_, ?_, ?_, ?_⟩ <;> rw [put_get, if_neg (by simpa using by assumption)]
  · exact h.t0
  · exact h.t5
  · exact h.t9
  · exact h.t75
theorem put_at {a : Act} {d : Nat} {v : Value} (h : d < a.tmps.size) : (a.put (some d) v).tmps[d]? = some v := by
  rw [put_get, if_pos rfl, if_pos h]
theorem put_off {a : Act} {d t : Nat} {v : Value} (h : d ≠ t) : (a.put (some d) v).tmps[t]? = a.tmps[t]? := by
  rw [put_get, if_neg (by simpa using h)]
theorem isT_bool {e : MapEntry} {b : Bool} (h : e.val = .bool b) : isT e = b := by
  unfold isT
  rw [h]
  cases b <;> rfl
@[reducible] def cQ (seen : Array Nat) (es : List (Int × Bool)) : Nat := (entsL 0 es).countP (fun x => !seen.contains x.born && isT x)
theorem bd_wp {Q : Exit → Act → World → Prop} {a : Act} {w : World} (h : (Code.seq (.region 16 B16 false) (.seq (.cond (.tmp 77) .skip (.exit 2)) (.block 3 (.seq (.region 17 B17 false) (.seq (.region 18 B18 false) (.cond (.tmp 80) (.region 19 B19 false) .skip)))))).wp Try.prog Q a w) : bd.wp Try.prog Q a w := by
  rw [bd_eq]
  exact h
section
variable {C : Ctx} {w1 : World} {S : Nat → Prop} {ρ : Rho} {R : Type}
theorem rounds_range {Q : Exit → Act → World → Prop} {look : Look} {n : Int} {v5 : Value} {k m : Nat} {es : List (Int × Bool)} (hsm : es.length ≤ 1000) (hkm : k ≠ m) (hI : ¬ C.I k) (hS : S k ∨ w1.heap.size ≤ k)
    (hb : ∀ b sb l, look b = some sb → sb.own = true → ρ b = some l → l.nil = false → l.blk ≠ k)
    (hQ : ∀ c a w, Jt n v5 (.pointer (some ⟨k, 0, none⟩)) c a → HRep C w1 S ρ look w → c = trues es → Q (.exit 2) a w) :
    ∀ (r : Nat) (seen : Array Nat) (c : Int) (a : Act) (w : World), (leftOf (entsOf es) seen).size < r → Jt n v5 (.pointer (some ⟨k, 0, none⟩)) c a → HRep C w1 S ρ look w → w.heap[k]? = some (.mapIter (some m) es.length seen es.length) → w.heap[m]? = some (.map (entsOf es) es.length) → 0 ≤ c → c + cQ seen es = trues es →
      Code.rounds Try.prog bd Q r a w
  | 0, seen, c, a, w, h, _, _, _, _, _, _ => by omega
  | r + 1, seen, c, a, w, hr, J, H, hk, hm, hc0, hc => by
    rw [rounds_succ]
    refine bd_wp ?_
    obtain ⟨s16, o0, o1⟩ := b16
    obtain ⟨s17, p0, p1, p2⟩ := b17
    obtain ⟨s18, q0⟩ := b18
    obtain ⟨s19, u0, u1, u2⟩ := b19
    have hborn := entsL_born es 0
    have hold : ∀ x ∈ (entsOf es).toList, x.born < es.length := fun x hx => by have := hborn.1 x (by simpa [entsOf] using hx); omega
    refine wp_seq (wp_region ?_)
    rw [s16]
    show wpOps _ _ _ [0, 1] a w
    rcases run_next_at (P := Try.prog) w (opAt B16 0).type k m es.length es.length seen (entsOf es) es.length hk hm hold (Nat.le_refl _) with ⟨h0, hrun⟩ | ⟨e, he, w2, hal, hrun⟩
    · -- nothing is left
      unfold wpOps
      rw [o0.at_]
      simp only
      have hw : Region.wanted (opAt B16 0) (yielded B16 a.tmps) = true := by unfold Region.wanted; rw [o0.guard]
      rw [if_pos hw]
      left
      unfold Oper.wp
      have hx : (execOp a.eval (opAt B16 0)).run Try.prog w = .ok (.value (.tuple #[.bool false])) w := by
        simp only [execOp, o0.op, ev_tmp J.t75]
        exact ok_value1 hrun
      rw [hx, Oper.upon_value, o0.dst]
      have J1 := J.put 76 (.tuple #[.bool false]) (by decide) (by decide) (by decide) (by decide)
      refine step_val o1 (fun o ho => x_extract ho (ev_tmp (put_at (by rw [J.sz]; decide))) rfl) ?_
      have J2 := J1.put 77 (.bool false) (by decide) (by decide) (by decide) (by decide)
      show Exit.then _ _ .normal _ _
      refine wp_seq (wp_cond_false (ev_tmp (put_at (by rw [J1.sz]; decide))) (wp_exit ?_))
      refine hQ c _ _ J2 H ?_
      have : cQ seen es = 0 := by
        show List.countP _ _ = 0
        rw [List.countP_eq_zero]
        intro x hx
        have := all_seen (entsOf es) seen h0 x (by simpa [entsOf] using hx)
        rw [this]
        simp
      omega
    · -- an entry
      obtain ⟨hem, hes⟩ := mem_left he
      have hemL : e ∈ entsL 0 es := by simpa [entsOf] using hem
      obtain ⟨kn, bb, hkey, hval⟩ := entsL_val es 0 e hemL
      unfold wpOps
      rw [o0.at_]
      simp only
      have hw : Region.wanted (opAt B16 0) (yielded B16 a.tmps) = true := by unfold Region.wanted; rw [o0.guard]
      rw [if_pos hw]
      left
      unfold Oper.wp
      have hx : (execOp a.eval (opAt B16 0)).run Try.prog w = .ok (.value (.tuple #[.bool true, e.key, e.val])) (Go.ChangeMaps.setBlock w2 k (.mapIter (some m) es.length (seen.push e.born) es.length)) := by
        simp only [execOp, o0.op, ev_tmp J.t75]
        rw [Sem.run_bind, hrun]
        rfl
      rw [hx, Oper.upon_value, o0.dst]
      have hH2 : w2.heap = w.heap := by rcases hal with rfl | rfl <;> rfl
      have hlt : k < w.heap.size := (Array.getElem?_eq_some_iff.1 hk).1
      have hk' : (Go.ChangeMaps.setBlock w2 k (.mapIter (some m) es.length (seen.push e.born) es.length)).heap[k]? = some (.mapIter (some m) es.length (seen.push e.born) es.length) := by
        unfold Go.ChangeMaps.setBlock
        simp [hH2, hlt]
      have hm' : (Go.ChangeMaps.setBlock w2 k (.mapIter (some m) es.length (seen.push e.born) es.length)).heap[m]? = some (.map (entsOf es) es.length) := by
        unfold Go.ChangeMaps.setBlock
        simp [hH2, hkm, hm]
      have H' : HRep C w1 S ρ look (Go.ChangeMaps.setBlock w2 k (.mapIter (some m) es.length (seen.push e.born) es.length)) := by
        refine HRep.poke H hI hS hb (by unfold Go.ChangeMaps.setBlock; simp [hH2]) (fun j hj => by unfold Go.ChangeMaps.setBlock; simp [hH2, Ne.symm hj]) ?_
        unfold Go.ChangeMaps.setBlock
        rcases hal with rfl | rfl <;> exact ⟨rfl, rfl, rfl⟩
      generalize Go.ChangeMaps.setBlock w2 k (.mapIter (some m) es.length (seen.push e.born) es.length) = w3 at hk' hm' H'
      have J1 := J.put 76 (.tuple #[.bool true, e.key, e.val]) (by decide) (by decide) (by decide) (by decide)
      refine step_val o1 (v := .bool true) (w' := w3) (fun o ho => x_extract ho (ev_tmp (put_at (by rw [J.sz]; decide))) rfl) ?_
      have J2 := J1.put 77 (.bool true) (by decide) (by decide) (by decide) (by decide)
      show Exit.then _ _ .normal _ _
      refine wp_seq (wp_cond_true (ev_tmp (put_at (by rw [J1.sz]; decide))) (wp_skip ?_))
      generalize (a.put (some 76) (Value.tuple #[.bool true, e.key, e.val])).put (some 77) (.bool true) = a2 at J2
      show Exit.then _ _ .normal _ _
      refine wp_block (wp_seq (wp_region ?_))
      rw [s17]
      show wpOps _ _ _ [0, 1, 2] a2 w3
      have hn := hborn.2
      have hentry := run_entry_at (P := Try.prog) w3 k m es.length seen (entsOf es) es.length e hk' hm' hem (by simpa [entsOf] using hn)
      refine step_val p0 (v := .tuple #[e.key, e.val]) (w' := w3) (fun o ho => by
        simp only [execOp, ho, ev_tmp J2.t75]
        exact ok_value1 hentry) ?_
      have J3 := J2.put 78 (.tuple #[e.key, e.val]) (by decide) (by decide) (by decide) (by decide)
      refine step_val p1 (v := .bool bb) (fun o ho => x_extract ho (ev_tmp (put_at (by rw [J2.sz]; decide))) (by rw [hval]; rfl)) ?_
      have J4 := J3.put 79 (.bool bb) (by decide) (by decide) (by decide) (by decide)
      refine step_val p2 (fun o ho => x_move (.inr ho)) ?_
      rw [ev_tmp (put_at (by rw [J3.sz]; decide))]
      have J5 := J4.put 11 (.bool bb) (by decide) (by decide) (by decide) (by decide)
      show Exit.then _ _ .normal _ _
      refine wp_seq (wp_region ?_)
      rw [s18]
      show wpOps _ _ _ [0] _ w3
      refine step_val q0 (fun o ho => x_move (.inl ho)) ?_
      rw [ev_tmp (put_at (by rw [J4.sz]; decide))]
      have J6 := J5.put 80 (.bool bb) (by decide) (by decide) (by decide) (by decide)
      show Exit.then _ _ .normal _ _
      have h80 := put_at (a := (((a2.put (some 78) (Value.tuple #[e.key, e.val])).put (some 79) (.bool bb)).put (some 11) (.bool bb))) (d := 80) (v := .bool bb) (by rw [J5.sz]; decide)
      generalize (((a2.put (some 78) (Value.tuple #[e.key, e.val])).put (some 79) (.bool bb)).put (some 11) (.bool bb)).put (some 80) (.bool bb) = a6 at J6 h80
      have hq1 := left_count (q := fun _ => true) (seen := seen) (e := e) hes hn hemL
      have hq2 := left_count (q := isT) (seen := seen) (e := e) hes hn hemL
      have hsz := leftOf_size es seen
      have hsz' := leftOf_size es (seen.push e.born)
      rw [isT_bool hval] at hq2
      have hle : cQ seen es ≤ es.length := by
        have := List.countP_le_length (p := fun x : MapEntry => !seen.contains x.born && isT x) (l := entsL 0 es)
        rw [entsL_length] at this
        exact this
      have htr : trues es ≤ 1000 := Nat.le_trans (trues_le es) hsm
      simp only [if_true] at hq1
      cases bb with
      | true =>
        refine wp_cond_true (ev_tmp h80) (wp_region ?_)
        rw [s19]
        show wpOps _ _ _ [0, 1, 2] a6 w3
        refine step_val u0 (fun o ho => x_move (.inl ho)) ?_
        rw [ev_tmp J6.t9]
        have J7 := J6.put 81 (.int .i64 c) (by decide) (by decide) (by decide) (by decide)
        simp only [if_true] at hq2
        have hcq : c + 1 + cQ (seen.push e.born) es = trues es := by
          have : cQ (seen.push e.born) es + 1 = cQ seen es := hq2
          omega
        have h81 := put_at (a := a6) (d := 81) (v := .int .i64 c) (by rw [J6.sz]; decide)
        refine step_val u1 (v := .int .i64 (c + 1)) (w' := w3) (fun o ho => by
          obtain ⟨z, h1, h2⟩ := binE_run (P := Try.prog) (w := w3) (t := 3) (C := C) (ρ := ρ) (x := .int .i64 c) (y := .int .i64 1) (r := .int .i64 (c + 1)) (op := .add) (by
            show (if IntKind.i64 = IntKind.i64 then some (CV.int .i64 (IntKind.i64.wrap (c + 1))) else none) = _
            rw [if_pos rfl, wi (x := c + 1) (by omega)]) (show CV.R _ _ (.int .i64 c) _ from ev_tmp h81) (show CV.R _ _ (.int .i64 1) (Act.eval _ (.const (.int .i64 1))) from rfl) (.tmp 81) (.const (.int .i64 1))
          have h2 : z = .int .i64 (c + 1) := h2
          subst h2
          simp only [execOp, ho]
          exact ok_value1 h1) ?_
        have J8 := J7.put 82 (.int .i64 (c + 1)) (by decide) (by decide) (by decide) (by decide)
        refine step_val u2 (fun o ho => x_move (.inr ho)) ?_
        rw [ev_tmp (put_at (by rw [J7.sz]; decide))]
        show Exit.inBlock _ _ .normal _ _
        show Code.rounds _ _ _ _ _ _
        refine rounds_range hsm hkm hI hS hb hQ r (seen.push e.born) (c + 1) _ w3 (by omega) ?_ H' hk' hm' (by omega) hcq
        refine ⟨by rw [put_size]; exact J8.sz, by rw [put_defers]; exact J8.df, by rw [put_off (by decide)]; exact J8.t0, by rw [put_off (by decide)]; exact J8.t5, put_at (by rw [J8.sz]; decide), by rw [put_off (by decide)]; exact J8.t75⟩
      | false =>
        refine wp_cond_false (ev_tmp h80) (wp_skip ?_)
        show Code.rounds _ _ _ _ _ _
        simp only [Bool.false_eq_true, if_false, Nat.add_zero] at hq2
        refine rounds_range hsm hkm hI hS hb hQ r (seen.push e.born) c _ w3 (by omega) J6 H' hk' hm' hc0 ?_
        have : cQ (seen.push e.born) es = cQ seen es := hq2
        omega
end
end Go.Proofs.Ythdplllibigkpaa.Rep

/- The program's Report: its loop; its summary. No condition beyond those that each theorem names. -/
import Derived.Test.YtkkacjmjjhjpeaaDoorSt13
set_option maxRecDepth 100000
set_option linter.unusedSimpArgs false
set_option linter.unusedVariables false
namespace Go.Proofs.YtkkacjmjjhjpeaaDoor.St
open Go Go.Proofs.YtkkacjmjjhjpeaaDoor.Sx Go.Shelf Go.RowKit

@[reducible] def st5a (n k : Nat) (f : Nat → Rp) : St := ⟨(12, .s (.agg (encRp (f (addI 0 k))))) :: (st4 n k f).tm, (st4 n k f).hp, 3, 17⟩
@[reducible] def st5b (n k : Nat) (f : Nat → Rp) : St := ⟨(13, .s (stv (lineB (f (addI 0 k))))) :: (st5a n k f).tm, (st4 n k f).hp, 3, 17⟩
theorem e5a (n k : Nat) (f : Nat → Rp) : (st4 n k f).app (o5 0).dst ⟨.s (.agg (encRp (f (addI 0 k)))), [], []⟩ = st5a n k f := by kernel_rfl
theorem e5b (n k : Nat) (f : Nat → Rp) : (st5a n k f).app (o5 1).dst ⟨.s (stv (lineB (f (addI 0 k)))), [], []⟩ = st5b n k f := by kernel_rfl
theorem s5a (n k : Nat) (f : Nat → Rp) : (evalOp Tryd.prog SLn (o5 0) (evO (st4 n k f).tm) (st4 n k f).n).sem (lookL (st4 n k f).hp) = some (⟨.s (.agg (encRp (f (addI 0 k)))), [], []⟩, [2]) := by kernel_rfl
theorem s5b (n k : Nat) (f : Nat → Rp) : evalOp Tryd.prog SLn (o5 1) (evO (st5a n k f).tm) (st5a n k f).n = .br (okR (f (addI 0 k))) (pureE (.s (stv (lineB (f (addI 0 k)))))) .fail := by kernel_rfl
theorem d5 : (o5 2).dst = some 14 := by kernel_rfl
theorem a5 : c5.args = #[.tmp 3, .tmp 13] := by kernel_rfl
theorem q5_wp {w : World} {ht : TabsAt fun n => w.heap[n]?} {ρ : Rho} {a : Act} {w1 : World} {l : Sx.Loc} {B n k : Nat} {f : Nat → Rp} {L : List UInt8} (H : StRep (outR w ht) w (fun _ => False) ρ (st4 n k f) a w1) (hag : (rho2 l B).agree 2 ρ) (hk : okR (f k) = true)
    (hb : Lib.IsBuilder 54 5 B B (Lib.byteCells L) w) (hlen : L.length + (lineB (f k)).size ≤ 140737488355328) (hB : B ≤ w.heap.size) {Q : Exit → Act → World → Prop}
    (hQ : ∀ a' w2 w', Sl l B n k a' → Lib.IsBuilder 54 5 B B (Lib.byteCells (L ++ (lineB (f k)).data.toList)) w' → Below w.heap.size w w2 → Below B w2 w' → Q .normal a' w') : q5.wp Tryd.prog Q a w1 := by
  have ek : addI 0 k = k := by rw [addI_eq]; omega
  have hb1 : Below w.heap.size w w1 := rep_below H
  rw [q5_eq]
  refine wp_region ?_
  rw [q5_size]
  show wpOps Tryd.prog (opsR q5) Q [0, 1, 2] a w1
  refine ops_cons o5_0 (by kernel_rfl) (op_exec (dOk_spec (by kernel_rfl)) okSLn H (s5a n k f) (fun x hx => by cases hx) ?_)
  intro ρ1 a1 w2 hle1 H1
  rw [e5a] at H1
  refine ops_cons o5_1 (by kernel_rfl) (op_exec (dOk_spec (by kernel_rfl)) okSLn H1 (by rw [s5b]; exact br_sem.2 ⟨by rw [ek]; exact hk, pure_sem.2 rfl⟩) (fun x hx => by cases hx) ?_)
  intro ρ2 a2 w3 hle2 H2
  rw [e5b] at H2
  have hag2 : (rho2 l B).agree 2 ρ2 := hag.trans ((hle1.trans hle2).agree)
  have hb3 : Below w.heap.size w w3 := rep_below H2
  have hS : Sl l B n k a2 := rep_sl H2 rfl hag2 rfl rfl rfl rfl
  obtain ⟨v13, h13, e13⟩ := H2.tm 13 _ rfl
  have e13 : v13 = .string (lineB (f (addI 0 k))) := e13
  rw [ek] at e13
  subst e13
  have hB3 : B ≤ w3.heap.size := Nat.le_trans hB hb3.size
  have hbw := isb_below hb hb3.block
  refine ops_cons o5_2 (by kernel_rfl) (call_op (c := c5) (g := 21) (args := #[.pointer (some ⟨B, 0, none⟩), .string (lineB (f k))]) (by kernel_rfl) (by kernel_rfl) ?_ Tryd.func21 (by kernel_rfl) (by kernel_rfl) ?_)
  · rw [a5]
    have e3 : a2.tmps.getD 3 undef = .pointer (some ⟨B, 0, none⟩) := by rw [Array.getD_eq_getD_getElem?, hS.s3]; rfl
    have e4 : a2.tmps.getD 13 undef = .string (lineB (f k)) := by rw [Array.getD_eq_getD_getElem?, h13]; rfl
    simp only [List.map_toArray, List.map_cons, List.map_nil, Act.eval, e3, e4]
  · refine (Any.Builder_WriteString { join_lays with } join_extra B B _ (lineB (f k)) w3 hbw (by rw [Lib.byteCells_length]; exact hlen) hB3).mono ?_
    rintro e w' ⟨rfl, hba, hbel⟩
    rw [Lib.strCells_eq, ← Lib.byteCells_append] at hba
    refine ⟨_, rfl, hQ _ w3 w' ?_ (.inr hba) hb3 hbel⟩
    rw [d5]
    have hp : ∀ (v : Value) (t : Nat), t ≠ 14 → (a2.put (some 14) v).tmps[t]? = a2.tmps[t]? := fun v t h => by
      rw [put_get, if_neg (by simpa using fun e => h e.symm)]
    refine ⟨by rw [put_size]; exact hS.size, by rw [put_defers]; exact hS.defers, ?_, ?_, ?_, ?_⟩
    · rw [hp _ 3 (by decide)]; exact hS.s3
    · rw [hp _ 6 (by decide)]; exact hS.s6
    · rw [hp _ 7 (by decide)]; exact hS.s7
    · rw [hp _ 8 (by decide)]; exact hS.s8
/-- What holds at the head of the loop, k replies told. -/
structure Hd (w0 : World) (l : Sx.Loc) (n : Nat) (f : Nat → Rp) (k : Nat) (a : Act) (w : World) : Prop where
  sl : Sl l w0.heap.size n k a
  bld : Lib.IsBuilder 54 5 w0.heap.size w0.heap.size (Lib.byteCells (linesL f k)) w
  below : Below w0.heap.size w0 w
theorem below_cut {A : Nat} {w w' : World} (h : Below w.heap.size w w') (hA : A ≤ w.heap.size) : Below A w w' := h.mono hA
theorem rep_round {w0 : World} {l : Sx.Loc} {n : Nat} {f : Nat → Rp} (hr : RowAt l n f w0) (ht : TabsAt fun i => w0.heap[i]?) (hok : ∀ j, j < n → okR (f j) = true) (hn : n ≤ 1000) {Q : Exit → Act → World → Prop} (hQ : ∀ a w, Hd w0 l n f n a w → Q (.exit 0) a w)
    {a : Act} {w : World} {k : Nat} (hk : k ≤ n) (h : Hd w0 l n f k a w) : lpB.wp Tryd.prog (Exit.then (fun a' w' => ∃ k', k' ≤ n ∧ k < k' ∧ Hd w0 l n f k' a' w') Q) a w := by
  have htw : TabsAt fun i => w.heap[i]? := tabs_below ht h.below
  have hrw : RowAt l n f w := hr.below h.below
  rw [lpB_eq]
  refine wp_seq (piece (t_q3 n k f) (by kernel_rfl) (rep0 (ht := htw) hrw h.sl) ?_)
  intro ρ1 a1 w1 hag1 H1
  have hb1 := rep_below H1
  have sl1 : Sl l w0.heap.size n k a1 := rep_sl H1 rfl hag1 rfl rfl rfl rfl
  have bl1 := isb_below h.bld hb1.block
  have be1 : Below w0.heap.size w0 w1 := h.below.trans (below_cut hb1 h.below.size)
  obtain ⟨v9, h9, e9⟩ := H1.tm 9 _ rfl
  have e9 : v9 = .bool (decide ((k : Int) < (n : Int))) := e9
  have hc : a1.eval (.tmp 9) = .bool (decide ((k : Int) < (n : Int))) := by
    simp only [Act.eval]
    rw [Array.getD_eq_getD_getElem?, h9, e9]
    rfl
  refine wp_seq ?_
  by_cases hkn : k < n
  · rw [decide_eq_true (show (k : Int) < (n : Int) by omega)] at hc
    refine wp_cond_true hc (wp_skip ?_)
    have ht1 : TabsAt fun i => w1.heap[i]? := tabs_below htw hb1
    have hr1 : RowAt l n f w1 := hrw.below hb1
    refine wp_seq (wp_block (wp_seq (piece (st' := st4 n k f) ?_ (by kernel_rfl) (rep0 (ht := ht1) hr1 sl1) ?_)))
    · have e : addI 0 k = k := by rw [addI_eq]; omega
      rw [t_q4, decide_eq_true (show 0 ≤ (k : Int) by omega), decide_eq_true (show (k : Int) < (n : Int) by omega), decide_eq_true (show addI 0 k < n by rw [e]; exact hkn)]
      rfl
    intro ρ2 a2 w2 hag2 H2
    have hl := lines_len hok k hk
    have hl2 := lineB_big (hok k hkn)
    refine q5_wp H2 hag2 (hok k hkn) bl1 (by have := Nat.mul_le_mul_right 2000000001 hk; omega) be1.size ?_
    intro a3 w3 w4 sl4 bl4 hb3 hb4
    show q6.wp Tryd.prog _ a3 w4
    have be3 : Below w0.heap.size w0 w3 := be1.trans (below_cut hb3 be1.size)
    have be4 : Below w0.heap.size w0 w4 := be3.trans hb4
    have ht4 : TabsAt fun i => w4.heap[i]? := tabs_below ht be4
    have hr4 : RowAt l n f w4 := hr.below be4
    refine piece (t_q6 n k f) (by kernel_rfl) (rep0 (ht := ht4) hr4 sl4) ?_
    intro ρ5 a5 w5 hag5 H5
    have hb5 := rep_below H5
    have ew : IntKind.i64.wrap ((k : Int) + 1) = ((k + 1 : Nat) : Int) := by
      have := wr_ok (n := (k : Int) + 1) (by omega)
      rw [show IntKind.i64.wrap ((k : Int) + 1) = wr ((k : Int) + 1) from rfl, this]
      omega
    refine ⟨k + 1, by omega, by omega, rep_sl H5 rfl hag5 rfl rfl rfl (by rw [show getT (st6 n k f).tm 8 = some (.s (.c (.int .i64 (IntKind.i64.wrap ((k : Int) + 1))))) from rfl, ew]), isb_below bl4 hb5.block, be4.trans (below_cut hb5 be4.size)⟩
  · rw [decide_eq_false (show ¬ (k : Int) < (n : Int) by omega)] at hc
    obtain rfl : k = n := by omega
    exact wp_cond_false hc (wp_exit (hQ a1 w1 ⟨sl1, bl1, be1⟩))
end Go.Proofs.YtkkacjmjjhjpeaaDoor.St

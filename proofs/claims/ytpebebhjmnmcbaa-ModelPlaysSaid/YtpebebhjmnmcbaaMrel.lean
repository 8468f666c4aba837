/- A model and the reference's one go together. Plain. -/
import Derived.Test.YtpebebhjmnmcbaaMpref3
import Derived.Test.YtpebebhjmnmcbaaCplays
import Derived.Test.YtpebebhjmnmcbaaMll
import Derived.Test.YtpebebhjmnmcbaaMdCell2
set_option maxRecDepth 100000
set_option linter.unusedSimpArgs false
set_option linter.unusedVariables false
namespace Go.Proofs.Ytpebebhjmnmcbaa.Md
open Go Go.Proofs.Ytpebebhjmnmcbaa.Sx
/-- A model, its outcomes; the reference's model, its outcomes, how many of them lie in memory. -/
structure RelY (m : Md) (o : Nat → Int) (x : Mr) (N2 : Nat) (o2 : Nat → Int) : Prop where
  st : x.st = m.st
  a : Rep.RelS m.a x.na x.ga
  b : Rep.RelS m.b x.nb x.gb
  r : Rt.RelR m.r o x.r o2
  tries : x.tries = m.tries
  tick : x.tick = m.tick
  N : x.r.i0 + x.r.n ≤ N2
theorem RelY.ok {m : Md} {o : Nat → Int} {x : Mr} {N2 : Nat} {o2 : Nat → Int} (h : RelY m o x N2 o2) : okL x = true := by
  unfold okL
  rw [h.a.chk, h.b.chk]; rfl
theorem rel_put {m : Md} {o : Nat → Int} {x : Mr} {N2 : Nat} {o2 : Nat → Int} (h : RelY m o x N2 o2) (c : Fold.Rc) : RelY (putM m c) o (rputM x c) N2 o2 := by
  have e : (rputM x c).st = (putM m c).st := by
    show (Fold.stepV x.st c).1 = (Fold.stepV m.st c).1
    rw [h.st]
  refine ⟨e, ?_, ?_, h.r, h.tries, h.tick, h.N⟩
  · show Rep.RelS (Rep.sscale m.a (Fold.stepV m.st c).1.want0) (Rep.capN (Fold.stepV x.st c).1.want0).toNat (Rep.scaledG x.na x.ga (Fold.stepV x.st c).1.want0)
    rw [h.st]
    exact h.a.scale _
  · show Rep.RelS (Rep.sscale m.b (Fold.stepV m.st c).1.want1) (Rep.capN (Fold.stepV x.st c).1.want1).toNat (Rep.scaledG x.nb x.gb (Fold.stepV x.st c).1.want1)
    rw [h.st]
    exact h.b.scale _
theorem rel_op {m : Md} {N : Nat} (hI : Inv m N) {o : Nat → Int} {x : Mr} {N2 : Nat} {o2 : Nat → Int} (h : RelY m o x N2 o2) (c : Fold.Ask) : Fold.rcheckV x.st c x.tick = (opV m c).1 ∧
    ((Fold.rcheckV x.st c x.tick == 0) = true → RelY (opV m c).2 o (rputM x (Fold.rrecordV c)) N2 o2) ∧ ((Fold.rcheckV x.st c x.tick == 0) = false → RelY (opV m c).2 o x N2 o2) := by
  rw [h.st, h.tick, Fold.rcheck_eq hI.right, Fold.rrecord_eq]
  unfold opV
  by_cases hz : Fold.checkV m.st c m.tick = 0
  · rw [hz]
    exact ⟨rfl, fun _ => rel_put h _, fun hz => by cases hz⟩
  · rw [show (Fold.checkV m.st c m.tick != 0) = true by simpa using hz]
    exact ⟨rfl, fun hh => absurd (by simpa using hh) hz, fun _ => h⟩
theorem rel_nx {m : Md} {N : Nat} (hI : Inv m N) {o : Nat → Int} {x : Mr} {N2 : Nat} {o2 : Nat → Int} (h : RelY m o x N2 o2) : nxR x = nxV m := by
  have ht := hI.tick
  unfold nxR nxV
  rw [h.st, h.tick, h.a.cnt, h.b.cnt, ← h.a.want, ← h.b.want, Fold.rnext_eq hI.right _ (by omega)]
theorem rel_route {m : Md} {o : Nat → Int} {x : MO} (h : RelY m o x.m x.N x.o) : (rrouteV x).1 = (routeV m o).1 ∧ RelY (routeV m o).2 o (rrouteV x).2.m (rrouteV x).2.N (rrouteV x).2.o := by
  have e0 : toR x.m = toM m := by unfold toR toM; rw [h.st]
  obtain ⟨c1, _, c3, c4⟩ := Rt.rel_cset h.r h.N (toM m) m.tries
  have hm : msR x = Rt.msetV x.m.r x.N x.o (toM m) m.tries := by unfold msR; rw [e0, h.tries]
  rw [← hm] at c1 c3 c4
  have hw : RelY (withR m (Rt.csetV m.r o (toM m) m.tries).2.2) o (wR x.m (msR x).r) (msR x).M (msR x).o := ⟨h.st, h.a, h.b, c3, h.tries, h.tick, c4⟩
  unfold rrouteV routeV
  rw [c1]
  by_cases hz : (msR x).e = 0
  · rw [hz]
    refine ⟨rfl, ?_⟩
    have := rel_put hw (recA m.st.gen m.tick)
    rw [h.st, h.tick]
    exact this
  · rw [show ((msR x).e == 0) = false by simpa using hz]
    exact ⟨rfl, hw⟩
theorem rel_step (o : Nat → Int) : ∀ (k : Nat) {m : Md} {N : Nat} {x : MO}, Inv m N → RelY m o x.m x.N x.o → m.r.n ≤ 4294967296 → doneG k m = true →
    okG' k x = true ∧ (rstepG k x).1 = (stepG o k m).1 ∧ RelY (stepG o k m).2 o (rstepG k x).2.m (rstepG k x).2.N (rstepG k x).2.o
  | 0, m, N, x, _, _, _, hd => by cases hd
  | k + 1, m, N, x, hI, h, hn, hd => by
    have hx := rel_nx hI h
    have hok := h.ok
    have hp : RelY (putM m (nxV m).2) o (putR x).m (putR x).N (putR x).o := by
      unfold putR
      rw [hx]
      exact rel_put h _
    have hc : Rt.chkMb x.m.r x.N (fun j => Rt.encI (x.o j)) = true := Rt.chkMb_iff.2 ⟨rfl, h.N, by rw [← h.r.n]; exact hn⟩
    unfold doneG at hd
    unfold okG' rstepG stepG
    rw [hx, hok, hc, h.st]
    by_cases n0 : (nxV m).1 = 0
    · rw [n0]
      exact ⟨rfl, rfl, h⟩
    · rw [show ((nxV m).1 == 0) = false by simpa using n0]
      by_cases n5 : (nxV m).1 = 5
      · rw [n5]
        exact ⟨rfl, rel_route h⟩
      · rw [show ((nxV m).1 == 5) = false by simpa using n5]
        by_cases n2 : (nxV m).1 = 2 ∨ (nxV m).1 = 3
        · have e1 : ((nxV m).1 == 2 || (nxV m).1 == 3) = true := by simpa using n2
          have e2 : ((nxV m).1 != 2 && (nxV m).1 != 3) = false := by
            rcases n2 with n2 | n2 <;> rw [n2] <;> rfl
          rw [e1] at hd
          rw [e1, e2]
          cases hs : (Fold.stepV m.st (nxV m).2).2 with
          | true =>
            rw [hs] at hd
            exact rel_step o k (inv_put hI _) hp hn hd
          | false => exact ⟨rfl, rfl, hp⟩
        · have e1 : ((nxV m).1 == 2 || (nxV m).1 == 3) = false := by simpa using n2
          have e2 : ((nxV m).1 != 2 && (nxV m).1 != 3) = true := by simpa using n2
          rw [e1, e2]
          exact ⟨rfl, rfl, hp⟩
theorem rel_pre {m : Md} {o : Nat → Int} {x : Mr} {N2 : Nat} {o2 : Nat → Int} (h : RelY m o x N2 o2) (l : List Int) : RelY (pre m (m.r.n + l.length)) (catO m.r.i0 m.r.n o l) (stepX x o2 l).m (stepX x o2 l).N (stepX x o2 l).o := by
  have hn := h.r.n
  unfold stepX
  refine ⟨h.st, ?_, ?_, ⟨h.r.slot, h.r.gen, h.r.writes, ?_, ?_, h.r.fuse⟩, h.tries, h.tick, ?_⟩
  · show Rep.RelS (Rep.sscale m.a m.st.want0) (Rep.capN x.st.want0).toNat (Rep.scaledG x.na x.ga x.st.want0)
    rw [h.st]
    exact h.a.scale _
  · show Rep.RelS (Rep.sscale m.b m.st.want1) (Rep.capN x.st.want1).toNat (Rep.scaledG x.nb x.gb x.st.want1)
    rw [h.st]
    exact h.b.scale _
  · show m.r.n + l.length = x.r.n + l.length
    rw [hn]
  · intro j hj
    show catO m.r.i0 m.r.n o l (0 + j) = catO x.r.i0 x.r.n o2 l (0 + j)
    rw [Nat.zero_add]
    unfold catO
    rw [← hn]
    by_cases hj2 : j < m.r.n
    · rw [if_pos hj2, if_pos hj2]; exact h.r.out j hj2
    · rw [if_neg hj2, if_neg hj2]
  · show 0 + (x.r.n + l.length) ≤ x.r.n + l.length
    omega
theorem rel_mstep {m : Md} {N : Nat} (hI : Inv m N) {o : Nat → Int} {x : Mr} {N2 : Nat} {o2 : Nat → Int} (h : RelY m o x N2 o2) (l : List Int) (hl : m.r.n + l.length ≤ 4294967296) : rokS x N2 o2 l = true ∧
    (rstepG 4 (stepX x o2 l)).1 = (mstepV m (m.r.n + l.length) (catO m.r.i0 m.r.n o l)).1 ∧ RelY (mstepV m (m.r.n + l.length) (catO m.r.i0 m.r.n o l)).2 (catO m.r.i0 m.r.n o l) (rstepG 4 (stepX x o2 l)).2.m (rstepG 4 (stepX x o2 l)).2.N (rstepG 4 (stepX x o2 l)).2.o := by
  have hp := inv_pre hI (n := m.r.n + l.length)
  obtain ⟨r1, r2, r3⟩ := rel_step (catO m.r.i0 m.r.n o l) 4 hp (rel_pre h l) (by show m.r.n + l.length ≤ 4294967296; exact hl) (done hp.right 1)
  refine ⟨?_, r2, r3⟩
  unfold rokS
  rw [r1, decide_eq_true ⟨h.N, by rw [← h.r.n]; exact hl⟩]; rfl
theorem rel_tick {m : Md} {N : Nat} (hI : Inv m N) {o : Nat → Int} {x : Mr} {N2 : Nat} {o2 : Nat → Int} (h : RelY m o x N2 o2) {n : Int} (hn : -9223372036854775808 ≤ n ∧ n ≤ 9223372036854775807) : RelY (tickM m n) o (rtickM x n) N2 o2 := by
  refine ⟨h.st, h.a, h.b, h.r, h.tries, ?_, h.N⟩
  show Fold.raddV x.tick n 1073741824 = Fold.maddV m.tick n 1073741824
  rw [h.tick, Fold.radd_eq hI.tick hn]
/-- A list of the reference with one made ready, or not. -/
noncomputable def rdyR (n : Nat) (g : Nat → List CV) (k : Int) (b : Bool) : Bool × (Nat → List CV) := bif decide (k < 0) then (false, Rep.fixB n g) else bif decide (k ≥ (n : Int)) then (false, Rep.fixB n g) else (true, fun j => Rep.encB1 (bif Nat.beq j k.toNat then b else Rep.decB1 (Rep.fixB n g j)))
theorem rel_rdy {s : Rep.Sl} {n : Nat} {g : Nat → List CV} (h : Rep.RelS s n g) (k : Int) (b : Bool) : (rdyR n g k b).1 = Rep.sreadyB s k ∧ Rep.RelS (Rep.sreadyS s k b) n (rdyR n g k b).2 := by
  unfold rdyR
  by_cases c1 : k < 0
  · obtain ⟨e1, e2⟩ := h.unready (.inl c1) b
    rw [decide_eq_true c1, e1, e2]
    exact ⟨rfl, h.again⟩
  · by_cases c2 : k ≥ (n : Int)
    · obtain ⟨e1, e2⟩ := h.unready (.inr c2) b
      rw [decide_eq_false c1, decide_eq_true c2, e1, e2]
      exact ⟨rfl, h.again⟩
    · obtain ⟨e1, e2⟩ := h.ready (k := k) (by omega) (by omega) b
      rw [decide_eq_false c1, decide_eq_false c2, e1]
      exact ⟨rfl, e2⟩
@[reducible] def wa (x : Mr) (g : Nat → List CV) : Mr := ⟨x.st, x.na, g, x.nb, x.gb, x.r, x.tries, x.tick⟩
@[reducible] def wb (x : Mr) (g : Nat → List CV) : Mr := ⟨x.st, x.na, x.ga, x.nb, g, x.r, x.tries, x.tick⟩
theorem rel_new {z0 z1 z2 : Int} (h : (Fold.ffirstV z0 z1).2 = true) (hs : Fold.firstV z0 z1 = (Fold.ffirstV z0 z1).1) : RelY (newM z0 z1 z2) (fun _ => 0) (newR (Fold.firstV z0 z1) z2) 0 (fun _ => 0) := by
  refine ⟨hs, ?_, ?_, ⟨rfl, rfl, rfl, rfl, fun j hj => rfl, Rt.rel_new⟩, rfl, rfl, Nat.le_refl _⟩
  · show Rep.RelS (Rep.ffill (Rep.sscale Rep.z0 (Fold.ffirstV z0 z1).1.want0)) (Rep.capN (Fold.firstV z0 z1).want0).toNat (Rep.fillG (Rep.capN (Fold.firstV z0 z1).want0).toNat 32 0 (Rep.newG (Fold.firstV z0 z1).want0))
    rw [hs]
    exact (Rep.RelS.new _).fill
  · show Rep.RelS (Rep.ffill (Rep.sscale Rep.z0 (Fold.ffirstV z0 z1).1.want1)) (Rep.capN (Fold.firstV z0 z1).want1).toNat (Rep.fillG (Rep.capN (Fold.firstV z0 z1).want1).toNat 32 0 (Rep.newG (Fold.firstV z0 z1).want1))
    rw [hs]
    exact (Rep.RelS.new _).fill
end Go.Proofs.Ytpebebhjmnmcbaa.Md

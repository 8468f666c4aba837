/- The law ModelAborts: true, and no memory that was there is written. -/
import Derived.Test.YtpebebhjmnmcbaaMticks2
import Derived.Test.YtpebebhjmnmcbaaMdCell2
set_option maxRecDepth 100000
set_option linter.unusedSimpArgs false
set_option linter.unusedVariables false
namespace Go.Proofs.Ytpebebhjmnmcbaa.Md
open Go Go.Proofs.Ytpebebhjmnmcbaa.Sx
/-! ### Plain -/
@[reducible] def ask2 : Fold.Ask := ⟨2, 0, 0, 0, false⟩
@[reducible] def ask9 (m : Md) : Fold.Ask := ⟨9, selI m.st.active 0 [m.st.rev0, m.st.rev1], 0, 0, false⟩
/-- What is asked of an abort, and of a post-gate that fails. -/
structure AbF (m : Md) (x : Int × Md) : Prop where
  no : x.1 ≠ 0 → x.1 = 7 ∧ x.2 = m
  r : x.2.r = m.r
  act : x.2.st.active = m.st.active
  ahead : x.1 = 0 → m.st.phase ≠ 4 → m.st.phase ≠ 5 → x.2.st.phase = 0 ∧ (m.st.active = 0 → x.2.b.want = 0) ∧ (m.st.active = 1 → x.2.a.want = 0)
  behind : x.1 = 0 → m.st.phase = 4 ∨ m.st.phase = 5 → x.2.st.phase = 6 ∧ x.2.st.want0 = m.st.want0 ∧ x.2.st.want1 = m.st.want1
theorem op_res {m : Md} (o : Fold.Ask) : (Fold.checkV m.st o m.tick ≠ 0 ∧ opV m o = (Fold.checkV m.st o m.tick, m)) ∨ (Fold.checkV m.st o m.tick = 0 ∧ opV m o = (0, putM m (Fold.recordV o))) := by
  unfold opV
  by_cases h : Fold.checkV m.st o m.tick = 0
  · right
    exact ⟨h, by rw [h]; rfl⟩
  · left
    have : (Fold.checkV m.st o m.tick != 0) = true := by simpa using h
    exact ⟨h, by rw [this]; rfl⟩
theorem cap0 : Rep.capN 0 = 0 := rfl
theorem clr_other (s : Fold.St) : (s.active = 0 → (Fold.clr s).want1 = 0) ∧ (s.active = 1 → (Fold.clr s).want0 = 0) ∧ (Fold.clr s).phase = 0 := by
  unfold Fold.clr
  by_cases h : s.active = 0
  · rw [if_pos h]; exact ⟨fun _ => rfl, fun h1 => by omega, rfl⟩
  · rw [if_neg h]; exact ⟨fun h0 => absurd h0 h, fun _ => rfl, rfl⟩
theorem ab_ask2 {m : Md} {N : Nat} (h : Inv m N) : AbF m (opV m ask2) := by
  obtain ⟨hs3, hr⟩ := op_same3 h ask2
  have hc := Fold.check_eq h.act ask2 m.tick
  rw [if_neg (by decide), if_pos rfl] at hc
  have hst := Fold.step_abort h.right 0 0 false
  have hrec : Fold.recordV ask2 = Fold.rec0 2 0 0 false := by rw [Fold.record_eq]; rfl
  rcases op_res (m := m) ask2 with ⟨c, e⟩ | ⟨c, e⟩
  · rw [e] at hs3 hr ⊢
    refine ⟨fun _ => ⟨?_, rfl⟩, rfl, rfl, fun hz => absurd hz c, fun hz => absurd hz c⟩
    simp only
    rw [hc] at c ⊢
    split at c
    · exact absurd rfl c
    · rename_i hn; rw [if_neg hn]
  · rw [hc] at c
    have hp : m.st.phase = 1 ∨ m.st.phase = 2 ∨ m.st.phase = 3 ∧ m.st.switch = 0 ∨ m.st.phase = 4 ∨ m.st.phase = 5 := by
      by_cases hp : m.st.phase = 1 ∨ m.st.phase = 2 ∨ m.st.phase = 3 ∧ m.st.switch = 0 ∨ m.st.phase = 4 ∨ m.st.phase = 5
      · exact hp
      · rw [if_neg hp] at c; cases c
    rw [e, hrec] at hs3 hr ⊢
    refine ⟨fun hz => absurd rfl hz, hr, hs3.1, fun _ h4 h5 => ?_, fun _ h45 => ?_⟩
    · rw [if_pos (show m.st.phase = 1 ∨ m.st.phase = 2 ∨ m.st.phase = 3 ∧ m.st.switch = 0 by omega)] at hst
      obtain ⟨c1, c2, c3⟩ := clr_other m.st
      refine ⟨?_, fun ha => ?_, fun ha => ?_⟩
      · show (Fold.stepV m.st (Fold.rec0 2 0 0 false)).1.phase = 0
        rw [hst]; exact c3
      · show Rep.capN (Fold.stepV m.st (Fold.rec0 2 0 0 false)).1.want1 = 0
        rw [hst]; simp only; rw [c1 ha]; rfl
      · show Rep.capN (Fold.stepV m.st (Fold.rec0 2 0 0 false)).1.want0 = 0
        rw [hst]; simp only; rw [c2 ha]; rfl
    · rw [if_neg (show ¬ (m.st.phase = 1 ∨ m.st.phase = 2 ∨ m.st.phase = 3 ∧ m.st.switch = 0) by omega), if_pos h45] at hst
      have e1 : (putM m (Fold.rec0 2 0 0 false)).st = Fold.setPh m.st 6 := by
        show (Fold.stepV m.st (Fold.rec0 2 0 0 false)).1 = _
        rw [hst]
      simp only
      rw [e1]
      exact ⟨rfl, rfl, rfl⟩
/-- The active slot's revision is one. -/
theorem rev_ok {s : Fold.St} (h : Fold.rightV s = true) : (1 ≤ Fold.revA s ∧ Fold.revA s ≤ 1073741824) ∧ selI s.active 0 [s.rev0, s.rev1] = Fold.revA s := by
  have ha := Fold.right_act h
  obtain ⟨phase, active, rev0, rev1, want0, want1, passed0, passed1, delay, gen, switch, flip⟩ := s
  rcases Fold.act_iff.1 ha with ha | ha <;> (simp only at ha; subst ha)
  · rw [Fold.right0] at h
    simp [Fold.revA, selI]
    omega
  · rw [Fold.right1] at h
    simp [Fold.revA, selI]
    omega
theorem ab_ask9 {m : Md} {N : Nat} (h : Inv m N) (h4 : m.st.phase = 4) : AbF m (opV m (ask9 m)) := by
  obtain ⟨hs3, hr⟩ := op_same3 h (ask9 m)
  obtain ⟨hrv, hre⟩ := rev_ok h.right
  have hc : Fold.checkV m.st (ask9 m) m.tick = 0 := by
    rw [Fold.check_eq h.act]
    simp only [hre]
    rw [if_neg (by decide), if_neg (by decide), if_neg (by decide), if_pos trivial, if_neg (by simpa using hrv), if_neg (by simpa using h4), if_neg (by simp)]
  have hst := Fold.step_post h.right 0 0 false
  have hrec : Fold.recordV (ask9 m) = Fold.rec0 9 0 0 false := by rw [Fold.record_eq]; rfl
  rcases op_res (m := m) (ask9 m) with ⟨c, e⟩ | ⟨c, e⟩
  · exact absurd hc c
  · rw [e, hrec] at hs3 hr ⊢
    refine ⟨fun hz => absurd rfl hz, hr, hs3.1, fun _ k4 _ => absurd h4 k4, fun _ _ => ?_⟩
    rw [if_pos h4] at hst
    have e1 : (putM m (Fold.rec0 9 0 0 false)).st = Fold.setPh m.st 6 := by
      show (Fold.stepV m.st (Fold.rec0 9 0 0 false)).1 = _
      rw [hst]; rfl
    simp only
    rw [e1]
    exact ⟨rfl, rfl, rfl⟩
/-! ### The loop -/
@[reducible] def rowA (N : Nat) (f : Nat → Ac) : List (Option SB) := [some (.ro 10 (.gen N fun i => encAc (f i)))]
@[reducible] def TA := Bool × LA
def encTA : TA → Sx.St
  | (b, i, N, f, m, N1, o) => ⟨[(1, .s (.c (.bool b))), (5, .s (.c (.ptr 1 0))), (29, .s (.c (.slc 0 0 N))), (30, .s (.c (.int .i64 (N : Int)))), (31, .s (.c (.int .i64 i)))], rowA N f ++ hpL m N1 (fun j => Rt.encI (o j)), 8, 117⟩
def decTA : Sx.St → Option (Bool × LB)
  | ⟨[(1, .s (.c (.bool b))), (5, .s (.c (.ptr 1 0))), (29, .s (.c (.slc 0 0 N'))), (30, .s (.c (.int .i64 m'))), (31, .s (.c (.int .i64 i)))], some (.ro 10 (.gen N f)) :: hp, 8, 117⟩ => (decL hp).map fun p => (b, i, m', N, N', f, p.1, p.2.1, p.2.2)
  | _ => none
noncomputable def chkTA : Bool × LB → Bool
  | (_, b) => chkL b
def normTA : Bool × LB → TA
  | (x, b) => (x, normL b)
theorem decTA_spec (st : Sx.St) (p : Bool × LB) (h : decTA st = some p) (hc : chkTA p = true) : st = encTA (normTA p) := by
  unfold decTA at h
  split at h
  · obtain ⟨⟨m, N1, ge⟩, hm, h⟩ := Option.map_eq_some_iff.1 h
    cases h
    simp only [chkTA, chkL, Bool.and_eq_true, decide_eq_true_eq] at hc
    obtain ⟨h1, h2, h3, h4⟩ := hc
    have h1 := Nat.eq_of_beq_eq_true h1
    subst h1 h2
    obtain rfl := decL_spec hm
    have g := chkRo_spec h3
    have g' := chkRo_spec h4
    unfold normTA normL encTA
    simp only
    unfold rowA
    rw [← g, ← g']
    rfl
  · cases h
def finTA (b : Bool) (N : Nat) (f : Nat → Ac) (d : DR) : Sx.St := ⟨[(1, .s (.c (.bool b))), (5, .s (.c (.ptr 1 0)))], rowA N f ++ hpL d.m d.N (fun j => Rt.encI (d.o j)), 8, 117⟩
noncomputable def tTA (p : TA) (R : Type) (K : Ex → Sx.St → Option R) : Option R := match p with
  | (b, i, N, f, m, N1, o) => bif goodL (i, N, f, m, N1, o) then K (.exit 0) (finTA b N f (doAll f (N - i.toNat) i.toNat ⟨0, m, N1, o⟩)) else none
@[reducible] noncomputable def LTA : List (Nat × LoopSum) := [(0, formSumC decTA chkTA normTA tTA)]
theorem roundTA {R : Type} (L : List (Nat × LoopSum)) (b : Bool) (i : Int) (N : Nat) (f : Nat → Ac) (m : Md) (N1 : Nat) (o : Nat → Int) (K : Ex → Sx.St → Option R) : roundK Try.prog PL L 20 1 (resMask Try.f9.results.toList) (lpAt Try.f9 0) (encTA (b, i, N, f, m, N1, o)) K =
    bif decide (i < (N : Int)) then bif decide (0 ≤ i) && decide (i < (N : Int)) then bif decide (i.toNat < N) then bif chkRo Rt.encI Rt.decID (fun j => Rt.encI (o j)) && okDo m N1 (f i.toNat) then
      K .normal (encTA (b, IntKind.i64.wrap (i + 1), N, f, (doV m N1 o (f i.toNat)).m, (doV m N1 o (f i.toNat)).N, (doV m N1 o (f i.toNat)).o))
      else none else none else none else K (.exit 0) (finTA b N f ⟨0, m, N1, o⟩) := by kernel_rfl
theorem fin_kA {b : Bool} {N : Nat} {f : Nat → Ac} (d d' : DR) (h1 : d.m = d'.m) (h2 : d.N = d'.N) (h3 : d.o = d'.o) : finTA b N f d = finTA b N f d' := by
  unfold finTA; rw [h1, h2, h3]
theorem okTA : LoopOk Try.prog PL LTA 20 1 (resMask Try.f9.results.toList) (lpAt Try.f9 0) (formSumC decTA chkTA normTA tTA) := by
  refine LoopOk.ofC decTA_spec (fun p => p.2.2.1 - p.2.1.toNat) ?_
  rintro ⟨b, i, N, f, m, N1, o⟩ R K x h
  unfold tTA at h
  simp only at h
  cases hg : goodL (i, N, f, m, N1, o) with
  | false => rw [hg] at h; cases h
  | true =>
    rw [hg, cond_true] at h
    have hI := goodL_iff.1 hg
    by_cases hi : i < (N : Int)
    · left
      obtain ⟨hok, hn⟩ := hI.next hi
      have h1 := hI.i
      have hN := hI.N
      simp only at h1 hN
      refine ⟨(b, i + 1, N, f, (doV m N1 o (f i.toNat)).m, (doV m N1 o (f i.toNat)).N, (doV m N1 o (f i.toNat)).o), by simp only; omega, fun K' => ?_, ?_⟩
      · rw [roundTA, decide_eq_true hi, decide_eq_true h1.1, decide_eq_true (show i.toNat < N by omega), chkRo_true Rt.backI, hok, wi (x := i + 1) (by omega)]
        rfl
      · unfold tTA
        simp only
        rw [goodL_iff.2 hn, cond_true]
        rw [show N - i.toNat = (N - (i + 1).toNat) + 1 by omega] at h
        unfold doAll at h
        rw [show i.toNat + 1 = (i + 1).toNat by omega] at h
        obtain ⟨e1, e2, e3⟩ := doAll_k f (N - (i + 1).toNat) (i + 1).toNat 0 (doV m N1 o (f i.toNat)).k (doV m N1 o (f i.toNat)).m (doV m N1 o (f i.toNat)).N (doV m N1 o (f i.toNat)).o
        rw [fin_kA _ _ e1 e2 e3]
        exact h
    · right
      rw [show N - i.toNat = 0 by omega] at h
      exact ⟨.exit 0, _, by simp, fun K' => by rw [roundTA, decide_eq_false hi]; rfl, h⟩
theorem loopsTA : LoopsOk Try.prog PL LTA 20 1 (resMask Try.f9.results.toList) (loopsOf (resMask Try.f9.results.toList) (bodyOf Try.f9) [] (resMask Try.f9.results.toList)) :=
  loopsOk_ix 1 (by kernel_rfl) ⟨trivial, loopOk_here (n := 0) (by kernel_rfl) rfl okTA⟩
/-! ### The law -/
@[reducible] noncomputable def r6B {R : Type} (m : Md) (x : Int × Md) (T : Bool → Option R) : Option R := bif x.2.st.phase == 6 then T (x.2.st.want0 == m.st.want0 && (x.2.st.want1 == m.st.want1 && true)) else T false
@[reducible] noncomputable def tailB {R : Type} (m : Md) (x : Int × Md) (N1 : Nat) (ge : Nat → List CV) (T : Bool → Option R) : Option R :=
  bif Rt.chkB x.2.r N1 ge then bif x.1 != 0 then bif x.1 == 7 then T (eqR x.2 m) else T false else
    bif !(x.2.r.slot == m.r.slot && (x.2.r.gen == m.r.gen && true)) then T false else bif x.2.st.active != m.st.active then T false else
    bif m.st.phase != 4 then bif m.st.phase != 5 then bif x.2.st.phase == 0 then bif decide (0 ≤ IntKind.i64.wrap (1 - m.st.active)) && decide (IntKind.i64.wrap (1 - m.st.active) < 2) then T (selI (IntKind.i64.wrap (1 - m.st.active)) 0 [x.2.a.want, x.2.b.want] == 0) else none else T false else r6B m x T else r6B m x T else none
@[reducible] noncomputable def dA (N : Nat) (f : Nat → Ac) : DR := doAll f (N - (0 : Int).toNat) (0 : Int).toNat ⟨0, newM 1 2 1, 0, fun _ => 0⟩
@[reducible] noncomputable def endA {R : Type} (d : DR) (b : Bool) (T : Bool → Option R) : Option R :=
  bif Rt.chkB d.m.r d.N (fun j => Rt.encI (d.o j)) then bif b then bif d.m.st.phase == 4 then bif decide (0 ≤ d.m.st.active) && decide (d.m.st.active < 2) then bif Fold.act d.m.st then tailB d.m (opV d.m (ask9 d.m)) d.N (fun j => Rt.encI (d.o j)) T else none else none
    else bif Fold.act d.m.st then tailB d.m (opV d.m ask2) d.N (fun j => Rt.encI (d.o j)) T else none else bif Fold.act d.m.st then tailB d.m (opV d.m ask2) d.N (fun j => Rt.encI (d.o j)) T else none else none
theorem t_ModelAborts {R : Type} (N : Nat) (f : Nat → Ac) (b : Bool) (K : TV → List (Option SB) → Option R) : runFnL Try.prog PL LTA 20 Try.f9 (bodyOf Try.f9) [.c (.slc 0 0 N), .c (.bool b)] [.ro 10 (.gen N fun i => encAc (f i))] K =
    bif Nat.beq N N && chkRo encAc decAcD (fun i => encAc (f i)) then bif greatV N f then K (.s (bl true)) (rowA N f) else
      bif Nat.beq N N && (decide ((N : Int) = N) && (chkRo Rt.encI Rt.decID (fun _ => [.int .i64 0]) && chkRo encAc decAcD (fun i => encAc (f i)))) then
        bif goodL (0, N, f, newM 1 2 1, 0, fun _ => 0) then endA (dA N f) b (fun x => K (.s (bl x)) (rowA N f)) else none else none else none := by kernel_rfl
theorem tail_true {R : Type} {m : Md} {x : Int × Md} {N1 : Nat} {ge : Nat → List CV} {T : Bool → Option R} (h : AbF m x) (ha : m.st.active = 0 ∨ m.st.active = 1) (hc : Rt.chkB x.2.r N1 ge = true) : tailB m x N1 ge T = T true := by
  unfold tailB
  rw [hc, cond_true]
  have hw : IntKind.i64.wrap (1 - m.st.active) = 1 - m.st.active := wi (by omega)
  by_cases h0 : x.1 = 0
  · rw [show (x.1 != 0) = false by simp [h0], cond_false, h.r, h.act, hw]
    simp only [beq_self_eq_true, Bool.and_self, Bool.not_true, cond_false, bne_self_eq_false]
    by_cases p4 : m.st.phase = 4
    · obtain ⟨a, b, c⟩ := h.behind h0 (.inl p4)
      simp [p4, r6B, a, b, c]
    · by_cases p5 : m.st.phase = 5
      · obtain ⟨a, b, c⟩ := h.behind h0 (.inr p5)
        simp [p4, p5, r6B, a, b, c]
      · obtain ⟨a, b, c⟩ := h.ahead h0 p4 p5
        rw [show (m.st.phase != 4) = true by simpa using p4, show (m.st.phase != 5) = true by simpa using p5]
        rcases ha with ha | ha
        · have b := b ha
          simp [p4, p5, a, ha, selI, b]
        · have c := c ha
          simp [p4, p5, a, ha, selI, c]
  · obtain ⟨a, b⟩ := h.no h0
    rw [show (x.1 != 0) = true by simpa using h0, cond_true, show (x.1 == 7) = true by simpa using a, cond_true, b, eqR_self]
theorem first121 : (Fold.ffirstV 1 2).2 = true := by kernel_rfl
theorem ModelAborts (N : Nat) (f : Nat → Ac) (b : Bool) (q : ∀ i, i < N → wfAc (f i)) (w : World)
    (v : Value) (l : Sx.Loc) (hs : SlcR l 0 N v) (hb : BlkR (outs w) (rho1 l) l (.ro 10 (.gen N fun i => encAc (f i))) w) :
    Calls Try.prog 9 #[v, .bool b] w fun e w' => e = .returned (.bool true) ∧ RowKit.Below w.heap.size w w' := by
  refine law_callsL okPL mixed Try.func9 (c := bodyOf Try.f9) (by kernel_rfl) lawK_spec (fuel := 20) (args := [.c (.slc 0 0 N), .c (.bool b)]) (hp0 := [.ro 10 (.gen N fun i => encAc (f i))]) (X := fun _ _ => True) (ρ := rho1 l) (vs := [v, .bool b]) loopsTA ?_ ⟨⟨l, rfl, hs⟩, rfl, trivial⟩ (blk1 hb) rho1_out
  rw [t_ModelAborts, chkRo_true backAc]
  cases hgr : greatV N f with
  | true => simp; rfl
  | false =>
    obtain ⟨g1, g2⟩ := great_spec hgr
    have hL : LI (0, N, f, newM 1 2 1, 0, fun _ => 0) := LI.first first121 g1 fun j hj => ⟨q j hj, g2 j hj⟩
    have e0 : chkRo Rt.encI Rt.decID (fun _ => [.int .i64 0]) = true := chkRo_true Rt.backI (fun _ => 0)
    have i1 : Inv (dA N f).m (dA N f).N := inv_all f _ _ _ hL.inv (by show 0 + 50 * (N - (0 : Int).toNat) ≤ 100000; omega) fun j h1 h2 => g2 j (by omega)
    rw [goodL_iff.2 hL, e0]
    have ha : (dA N f).m.st.active = 0 ∨ (dA N f).m.st.active = 1 := Fold.act_iff.1 i1.act
    have key : ∀ T : Bool → Option Unit, endA (dA N f) b T = T true := by
      intro T
      unfold endA
      rw [chk_inv i1, i1.act]
      cases b with
      | false => simp only [cond_true, cond_false]; exact tail_true (ab_ask2 i1) ha (chk_inv (inv_op i1 _) _)
      | true =>
        by_cases p4 : (dA N f).m.st.phase = 4
        · rw [show ((dA N f).m.st.phase == 4) = true by simpa using p4, decide_eq_true (show 0 ≤ (dA N f).m.st.active by omega), decide_eq_true (show (dA N f).m.st.active < 2 by omega)]
          simp only [cond_true, Bool.and_self]
          exact tail_true (ab_ask9 i1 p4) ha (chk_inv (inv_op i1 _) _)
        · rw [show ((dA N f).m.st.phase == 4) = false by simpa using p4]
          simp only [cond_true, cond_false]
          exact tail_true (ab_ask2 i1) ha (chk_inv (inv_op i1 _) _)
    simp
    rw [key]
    rfl
end Go.Proofs.Ytpebebhjmnmcbaa.Md

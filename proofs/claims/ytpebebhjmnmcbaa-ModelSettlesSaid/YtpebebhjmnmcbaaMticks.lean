/- The law ModelTicks: true, and no memory that was there is written. -/
import Derived.Test.YtpebebhjmnmcbaaMll
set_option maxRecDepth 100000
set_option linter.unusedSimpArgs false
set_option linter.unusedVariables false
namespace Go.Proofs.Ytpebebhjmnmcbaa.Md
open Go Go.Proofs.Ytpebebhjmnmcbaa.Sx
def wfI (x : Int) : Prop := (Lit.int .i64 x).wf = true
theorem opI (cvs : List CV) (vs : List Value) (h : LeafRs [.int .i64] cvs vs) : ∃ x, cvs = Rt.encI x ∧ wfI x := by
  obtain ⟨_, _, _, _, rfl, rfl, ⟨a0, rfl, rfl, w0⟩, h0⟩ := h.cons_inv
  obtain ⟨rfl, rfl⟩ := h0.nil_inv
  exact ⟨a0, rfl, w0⟩
/-- Behind two blocks. -/
@[reducible] def hpT (m : Md) (N : Nat) (ge : Nat → List CV) : List (Option SB) := [some (.cells [.int .i64 m.st.phase, .int .i64 m.st.active, .int .i64 m.st.rev0, .int .i64 m.st.rev1, .int .i64 m.st.want0, .int .i64 m.st.want1, .bool m.st.passed0, .bool m.st.passed1, .int .i64 m.st.delay, .int .i64 m.st.gen, .int .i64 m.st.switch, .int .i64 m.st.flip, .ptr 3 0, .ptr 6 0, .int .i64 m.tries, .int .i64 m.tick]), some (.cells [.ptr 4 0, .ptr 5 0]), some (.cells (Rep.encSl m.a)), some (.cells (Rep.encSl m.b)), some (.cells [.int .i64 m.r.slot, .int .i64 m.r.gen, .slc 7 m.r.i0 m.r.n, .int .i64 m.r.writes, .ptr 8 0]), some (.vec 1 [] (.gen N ge)), some (cF m)]
def decT : List (Option SB) → Option (Md × Nat × (Nat → List CV))
  | [some (.cells [.int .i64 s0, .int .i64 s1, .int .i64 s2, .int .i64 s3, .int .i64 s4, .int .i64 s5, .bool s6, .bool s7, .int .i64 s8, .int .i64 s9, .int .i64 s10, .int .i64 s11, .ptr 3 0, .ptr 6 0, .int .i64 t, .int .i64 k]), some (.cells [.ptr 4 0, .ptr 5 0]), some (.cells la), some (.cells lb), some (.cells [.int .i64 x, .int .i64 g, .slc 7 i n, .int .i64 w, .ptr 8 0]), some (.vec 1 [] (.gen N ge)), some (.cells [.int .i64 l, .bool c, .int .i64 d])] =>
    (Rep.decSl la).bind fun a => (Rep.decSl lb).map fun b => (⟨⟨s0, s1, s2, s3, s4, s5, s6, s7, s8, s9, s10, s11⟩, a, b, ⟨x, g, w, i, n, l, c, d⟩, t, k⟩, N, ge)
  | _ => none
theorem decT_spec {hp : List (Option SB)} {m : Md} {N : Nat} {ge : Nat → List CV} (h : decT hp = some (m, N, ge)) : hp = hpT m N ge := by
  unfold decT at h
  split at h
  · obtain ⟨a', ha, h⟩ := Option.bind_eq_some_iff.1 h
    obtain ⟨b', hb, h⟩ := Option.map_eq_some_iff.1 h
    cases h
    obtain rfl := Rep.decSl_spec _ _ ha
    obtain rfl := Rep.decSl_spec _ _ hb
    rfl
  · cases h
@[reducible] def rowsT (N : Nat) (f : Nat → Ac) (M : Nat) (g : Nat → Int) : List (Option SB) := [some (.ro 10 (.gen N fun i => encAc (f i))), some (.ro 1 (.gen M fun i => Rt.encI (g i)))]
/-- All acts from one on. -/
noncomputable def doAll (f : Nat → Ac) : Nat → Nat → DR → DR
  | 0, _, d => d
  | k + 1, i, d => doAll f k (i + 1) (doV d.m d.N d.o (f i))
noncomputable def tickAll (g : Nat → Int) : Nat → Nat → Md → Md
  | 0, _, m => m
  | k + 1, i, m => tickAll g k (i + 1) (tickM m (g i))
@[reducible] def T1 := Nat × (Nat → Int) × LA
def encT1 : T1 → Sx.St
  | (M, g, i, N, f, m, N1, o) => ⟨[(1, .s (.c (.slc 1 0 M))), (5, .s (.c (.ptr 2 0))), (34, .s (.c (.slc 0 0 N))), (35, .s (.c (.int .i64 (N : Int)))), (36, .s (.c (.int .i64 i)))], rowsT N f M g ++ hpT m N1 (fun j => Rt.encI (o j)), 9, 99⟩
@[reducible] def T1B := Nat × Nat × (Nat → List CV) × LB
def decT1 : Sx.St → Option T1B
  | ⟨[(1, .s (.c (.slc 1 0 M'))), (5, .s (.c (.ptr 2 0))), (34, .s (.c (.slc 0 0 N'))), (35, .s (.c (.int .i64 m'))), (36, .s (.c (.int .i64 i)))], some (.ro 10 (.gen N f)) :: some (.ro 1 (.gen M g)) :: hp, 9, 99⟩ => (decT hp).map fun p => (M', M, g, i, m', N, N', f, p.1, p.2.1, p.2.2)
  | _ => none
noncomputable def chkT1 : T1B → Bool
  | (M', M, g, b) => Nat.beq M' M && (chkRo Rt.encI Rt.decID g && chkL b)
def normT1 : T1B → T1
  | (_, M, g, b) => (M, fun j => Rt.decID (g j), normL b)
theorem decT1_spec (st : Sx.St) (p : T1B) (h : decT1 st = some p) (hc : chkT1 p = true) : st = encT1 (normT1 p) := by
  unfold decT1 at h
  split at h
  · obtain ⟨⟨m, N1, ge⟩, hm, h⟩ := Option.map_eq_some_iff.1 h
    cases h
    simp only [chkT1, chkL, Bool.and_eq_true, decide_eq_true_eq] at hc
    obtain ⟨h0, h0', h1, h2, h3, h4⟩ := hc
    have h1 := Nat.eq_of_beq_eq_true h1
    have h0 := Nat.eq_of_beq_eq_true h0
    subst h0 h1 h2
    obtain rfl := decT_spec hm
    have g := chkRo_spec h3
    have g' := chkRo_spec h4
    have g'' := chkRo_spec h0'
    unfold normT1 normL encT1
    simp only
    unfold rowsT
    rw [← g, ← g', ← g'']
    rfl
  · cases h
def finT1 (N : Nat) (f : Nat → Ac) (M : Nat) (g : Nat → Int) (d : DR) : Sx.St := ⟨[(1, .s (.c (.slc 1 0 M))), (5, .s (.c (.ptr 2 0)))], rowsT N f M g ++ hpT d.m d.N (fun j => Rt.encI (d.o j)), 9, 99⟩
noncomputable def tT1 (p : T1) (R : Type) (K : Ex → Sx.St → Option R) : Option R := match p with
  | (M, g, i, N, f, m, N1, o) => bif goodL (i, N, f, m, N1, o) then K (.exit 0) (finT1 N f M g (doAll f (N - i.toNat) i.toNat ⟨0, m, N1, o⟩)) else none
theorem roundT1 {R : Type} (L : List (Nat × LoopSum)) (M : Nat) (g : Nat → Int) (i : Int) (N : Nat) (f : Nat → Ac) (m : Md) (N1 : Nat) (o : Nat → Int) (K : Ex → Sx.St → Option R) : roundK Try.prog PL L 20 2 (resMask Try.f4.results.toList) (lpAt Try.f4 0) (encT1 (M, g, i, N, f, m, N1, o)) K =
    bif decide (i < (N : Int)) then bif decide (0 ≤ i) && decide (i < (N : Int)) then bif decide (i.toNat < N) then bif chkRo Rt.encI Rt.decID (fun j => Rt.encI (o j)) && okDo m N1 (f i.toNat) then
      K .normal (encT1 (M, g, IntKind.i64.wrap (i + 1), N, f, (doV m N1 o (f i.toNat)).m, (doV m N1 o (f i.toNat)).N, (doV m N1 o (f i.toNat)).o))
      else none else none else none else K (.exit 0) (finT1 N f M g ⟨0, m, N1, o⟩) := by kernel_rfl
theorem fin_k {N : Nat} {f : Nat → Ac} {M : Nat} {g : Nat → Int} (d d' : DR) (h1 : d.m = d'.m) (h2 : d.N = d'.N) (h3 : d.o = d'.o) : finT1 N f M g d = finT1 N f M g d' := by
  unfold finT1; rw [h1, h2, h3]
theorem doAll_k (f : Nat → Ac) : ∀ (n i : Nat) (k k' : Int) (m : Md) (N1 : Nat) (o : Nat → Int), (doAll f n i ⟨k, m, N1, o⟩).m = (doAll f n i ⟨k', m, N1, o⟩).m ∧ (doAll f n i ⟨k, m, N1, o⟩).N = (doAll f n i ⟨k', m, N1, o⟩).N ∧ (doAll f n i ⟨k, m, N1, o⟩).o = (doAll f n i ⟨k', m, N1, o⟩).o
  | 0, _, _, _, _, _, _ => ⟨rfl, rfl, rfl⟩
  | n + 1, i, k, k', m, N1, o => ⟨rfl, rfl, rfl⟩
/-! ### Ticks -/
@[reducible] def T2 := Nat × (Nat → Ac) × Int × Nat × (Nat → Int) × Md × Nat × (Nat → Int)
def encT2 : T2 → Sx.St
  | (N, f, i, M, g, m, N1, o) => ⟨[(5, .s (.c (.ptr 2 0))), (44, .s (.c (.slc 1 0 M))), (45, .s (.c (.int .i64 (M : Int)))), (46, .s (.c (.int .i64 i)))], rowsT N f M g ++ hpT m N1 (fun j => Rt.encI (o j)), 9, 99⟩
@[reducible] def T2B := Nat × (Nat → List CV) × Int × Int × Nat × Nat × (Nat → List CV) × Md × Nat × (Nat → List CV)
def decT2 : Sx.St → Option T2B
  | ⟨[(5, .s (.c (.ptr 2 0))), (44, .s (.c (.slc 1 0 M'))), (45, .s (.c (.int .i64 m'))), (46, .s (.c (.int .i64 i)))], some (.ro 10 (.gen N f)) :: some (.ro 1 (.gen M g)) :: hp, 9, 99⟩ => (decT hp).map fun p => (N, f, i, m', M', M, g, p.1, p.2.1, p.2.2)
  | _ => none
noncomputable def chkT2 : T2B → Bool
  | (_, f, _, m', M', M, g, _, _, ge) => Nat.beq M' M && (decide (m' = M) && (chkRo Rt.encI Rt.decID g && (chkRo Rt.encI Rt.decID ge && chkRo encAc decAcD f)))
def normT2 : T2B → T2
  | (N, f, i, _, _, M, g, m, N1, ge) => (N, fun j => decAcD (f j), i, M, fun j => Rt.decID (g j), m, N1, fun j => Rt.decID (ge j))
theorem decT2_spec (st : Sx.St) (p : T2B) (h : decT2 st = some p) (hc : chkT2 p = true) : st = encT2 (normT2 p) := by
  unfold decT2 at h
  split at h
  · obtain ⟨⟨m, N1, ge⟩, hm, h⟩ := Option.map_eq_some_iff.1 h
    cases h
    simp only [chkT2, Bool.and_eq_true, decide_eq_true_eq] at hc
    obtain ⟨h0, h2, h0', h3, h4⟩ := hc
    have h0 := Nat.eq_of_beq_eq_true h0
    subst h0 h2
    obtain rfl := decT_spec hm
    have g := chkRo_spec h3
    have g' := chkRo_spec h4
    have g'' := chkRo_spec h0'
    unfold normT2 encT2
    simp only
    unfold rowsT
    rw [← g, ← g', ← g'']
    rfl
  · cases h
def noT (N : Nat) (f : Nat → Ac) (M : Nat) (g : Nat → Int) : Sx.St := ⟨[(4, .s (.c (.bool false)))], rowsT N f M g, 2, 99⟩
def finT2 (N : Nat) (f : Nat → Ac) (M : Nat) (g : Nat → Int) (m : Md) (N1 : Nat) (o : Nat → Int) : Sx.St := ⟨[(5, .s (.c (.ptr 2 0)))], rowsT N f M g ++ hpT m N1 (fun j => Rt.encI (o j)), 9, 99⟩
structure TI (p : T2) : Prop where
  i : 0 ≤ p.2.2.1 ∧ p.2.2.1 ≤ p.2.2.2.1
  M : p.2.2.2.1 ≤ 100
  inv : Inv p.2.2.2.2.2.1 p.2.2.2.2.2.2.1
noncomputable def goodT (p : T2) : Bool := @decide (TI p) (Classical.propDecidable _)
theorem goodT_iff {p : T2} : goodT p = true ↔ TI p := Iff.of_eq (@decide_eq_true_eq _ (Classical.propDecidable _))
noncomputable def tT2 (p : T2) (R : Type) (K : Ex → Sx.St → Option R) : Option R := match p with
  | (N, f, i, M, g, m, N1, o) => bif goodT (N, f, i, M, g, m, N1, o) then K (.exit 2) (finT2 N f M g (tickAll g (M - i.toNat) i.toNat m) N1 o) else none
@[reducible] noncomputable def LT : List (Nat × LoopSum) := [(0, formSumC decT1 chkT1 normT1 tT1), (2, formSumC decT2 chkT2 normT2 tT2)]
/-- The tick put back. -/
@[reducible] def back (m : Md) (t : Int) : Md := ⟨m.st, m.a, m.b, m.r, m.tries, t⟩
theorem roundT2 {R : Type} (L : List (Nat × LoopSum)) (N : Nat) (f : Nat → Ac) (i : Int) (M : Nat) (g : Nat → Int) (m : Md) (N1 : Nat) (o : Nat → Int) (K : Ex → Sx.St → Option R) : roundK Try.prog PL L 20 2 (resMask Try.f4.results.toList) (lpAt Try.f4 1) (encT2 (N, f, i, M, g, m, N1, o)) K =
    bif decide (i < (M : Int)) then bif decide (0 ≤ i) && decide (i < (M : Int)) then bif decide (i.toNat < M) then bif Rt.chkB m.r N1 (fun j => Rt.encI (o j)) then bif Rt.chkB (tickM m (g i.toNat)).r N1 (fun j => Rt.encI (o j)) then
      bif decide ((tickM m (g i.toNat)).tick < m.tick) then K .ret (noT N f M g) else bif decide ((tickM m (g i.toNat)).tick > 1073741824) then K .ret (noT N f M g) else
      bif IntKind.i64.wrap ((tickM m (g i.toNat)).tick - m.tick) != foldMin (foldMax (g i.toNat) [0]) [IntKind.i64.wrap (1073741824 - m.tick)] then K .ret (noT N f M g) else
      bif !eqR (back (tickM m (g i.toNat)) m.tick) m then K .ret (noT N f M g) else K .normal (encT2 (N, f, IntKind.i64.wrap (i + 1), M, g, tickM m (g i.toNat), N1, o))
      else none else none else none else none else K (.exit 2) (finT2 N f M g m N1 o) := by kernel_rfl
end Go.Proofs.Ytpebebhjmnmcbaa.Md

/- The law ModelSettles: true, and no memory that was there is written. Part 2. -/
import Derived.Test.YtpebebhjmnmcbaaMsettle
import Derived.Test.YtpebebhjmnmcbaaMswitch
import Derived.Test.YtpebebhjmnmcbaaMdKeep
set_option maxRecDepth 100000
set_option linter.unusedSimpArgs false
set_option linter.unusedVariables false
namespace Go.Proofs.Ytpebebhjmnmcbaa.Md
open Go Go.Proofs.Ytpebebhjmnmcbaa.Sx
/-! ### The rounds -/
noncomputable def rdAll : Nat → DR → DR
  | 0, d => d
  | k + 1, d => rdAll k ⟨0, rdM d.m d.o, (rpt d.m).r.n, catO (rpt d.m).r.i0 (rpt d.m).r.n d.o []⟩
theorem rank0 {p : Int} (h : rank p = 0) : p = 0 := by
  unfold rank at h
  by_cases h0 : p = 0
  · exact h0
  · rw [if_neg h0] at h
    split at h
    · omega
    · split at h <;> omega
theorem rank3 (p : Int) : rank p ≤ 3 := by
  unfold rank
  (repeat' split) <;> omega
theorem rdAll_set : ∀ (k : Nat) {d : DR} {B : Int}, Set2 d.m d.N B → B + k ≤ 1048575 → d.m.tick + 65536 * k ≤ 1000000000 → Set2 (rdAll k d).m (rdAll k d).N (B + k) ∧ (d.m.st.phase = 0 → (rdAll k d).m.st.phase = 0) ∧ (meas d.m ≤ k → (rdAll k d).m.st.phase = 0)
  | 0, d, B, h, _, _ => ⟨h.up (by omega), fun h => h, fun hm => rank0 (show rank d.m.st.phase = 0 by unfold meas at hm; omega)⟩
  | k + 1, d, B, h, hB, ht => by
    obtain ⟨r1, r2, r3, r4, r5, r6⟩ := rd_set h (by omega) (by omega) d.o
    obtain ⟨i1, i2, i3⟩ := rdAll_set k (d := ⟨0, rdM d.m d.o, (rpt d.m).r.n, catO (rpt d.m).r.i0 (rpt d.m).r.n d.o []⟩) r1 (by omega) (by simp only; omega)
    refine ⟨i1.up (by omega), fun h0 => i2 (r4 h0), fun hm => ?_⟩
    by_cases h0 : d.m.st.phase = 0
    · exact i2 (r4 h0)
    · exact i3 (by have := r3 h0; simp only; omega)
@[reducible] def T2S := Int × Int × Nat × (Nat → Ac) × Md × Nat × (Nat → Int)
@[reducible] def encS2g (M i : Int) (N : Nat) (f : Nat → Ac) (m : Md) (N1 : Nat) (ge : Nat → List CV) : Sx.St := ⟨[(5, .s (.c (.ptr 1 0))), (63, .s (.c (.int .i64 M))), (64, .s (.c (.int .i64 i)))], rowSE N f ++ hpL m N1 ge, 8, 130⟩
def encS2 : T2S → Sx.St
  | (M, i, N, f, m, N1, o) => encS2g M i N f m N1 (fun j => Rt.encI (o j))
@[reducible] def T2SB := Int × Int × Nat × (Nat → List CV) × Md × Nat × (Nat → List CV)
def decS2 : Sx.St → Option T2SB
  | ⟨[(5, .s (.c (.ptr 1 0))), (63, .s (.c (.int .i64 M))), (64, .s (.c (.int .i64 i)))], some (.ro 10 (.gen N f)) :: hp, 8, 130⟩ => (decL hp).map fun p => (M, i, N, f, p.1, p.2.1, p.2.2)
  | _ => none
noncomputable def chkS2 : T2SB → Bool
  | (_, _, _, f, _, _, ge) => chkRo Rt.encI Rt.decID ge && chkRo encAc decAcD f
def normS2 : T2SB → T2S
  | (M, i, N, f, m, N1, ge) => (M, i, N, fun j => decAcD (f j), m, N1, fun j => Rt.decID (ge j))
theorem decS2_spec (st : Sx.St) (p : T2SB) (h : decS2 st = some p) (hc : chkS2 p = true) : st = encS2 (normS2 p) := by
  unfold decS2 at h
  split at h
  · obtain ⟨⟨m, N1, ge⟩, hm, h⟩ := Option.map_eq_some_iff.1 h
    cases h
    simp only [chkS2, Bool.and_eq_true] at hc
    obtain ⟨h3, h4⟩ := hc
    obtain rfl := decL_spec hm
    have g := chkRo_spec h3
    have g' := chkRo_spec h4
    unfold normS2 encS2 encS2g
    simp only
    unfold rowSE
    rw [← g, ← g']
    rfl
  · cases h
structure SI2 (p : T2S) : Prop where
  i : 0 ≤ p.2.1 ∧ p.2.1 ≤ p.1
  M : p.1 ≤ 206
  set : Set2 p.2.2.2.2.1 p.2.2.2.2.2.1 (100 + p.2.1)
  tick : p.2.2.2.2.1.tick ≤ 65536 * p.2.1
  n : p.2.2.2.2.1.r.n ≤ 200
noncomputable def goodS2 (p : T2S) : Bool := @decide (SI2 p) (Classical.propDecidable _)
theorem goodS2_iff {p : T2S} : goodS2 p = true ↔ SI2 p := Iff.of_eq (@decide_eq_true_eq _ (Classical.propDecidable _))
def finS2 (N : Nat) (f : Nat → Ac) (d : DR) : Sx.St := ⟨[(5, .s (.c (.ptr 1 0)))], rowSE N f ++ hpL d.m d.N (fun j => Rt.encI (d.o j)), 8, 130⟩
noncomputable def tS2 (p : T2S) (R : Type) (K : Ex → Sx.St → Option R) : Option R := match p with
  | (M, i, N, f, m, N1, o) => bif goodS2 (M, i, N, f, m, N1, o) then K (.exit 2) (finS2 N f (rdAll (M - i).toNat ⟨0, m, N1, o⟩)) else none
@[reducible] noncomputable def LSe : List (Nat × LoopSum) := [(0, formSumC decTS chkTS normTS tTS), (2, formSumC decS2 chkS2 normS2 tS2)]
@[reducible] noncomputable def raw0 (m : Md) (o : Nat → Int) : Nat → List CV := cat0 (rpt m) (fun j => Rt.encI (o j))
@[reducible] noncomputable def rawM (m : Md) (o : Nat → Int) : Md := (mstepV (rpt m) (addI (rpt m).r.n 0) fun j => Rt.decID (raw0 m o j)).2
theorem roundS2 {R : Type} (L : List (Nat × LoopSum)) (M i : Int) (N : Nat) (f : Nat → Ac) (m : Md) (N1 : Nat) (o : Nat → Int) (K : Ex → Sx.St → Option R) : roundK Try.prog PZ L 20 1 (resMask Try.f3.results.toList) (lpAt Try.f3 1) (encS2 (M, i, N, f, m, N1, o)) K =
    bif decide (i < M) then bif Rt.chkB m.r N1 (fun j => Rt.encI (o j)) then bif small m then bif decide (0 ≤ IntKind.i64.wrap (1 - m.st.active)) && decide (IntKind.i64.wrap (1 - m.st.active) < 2) then bif Fold.act (fillM m).st then
      bif decide (0 ≤ m.st.active) && decide (m.st.active < 2) then bif Fold.act (rp4 m).st then bif decide (N1 = addI (rpt m).r.i0 (rpt m).r.n) && decide (addI (rpt m).r.n 0 ≤ 4294967296) then
        bif Rt.chkB (pre (rpt m) (addI (rpt m).r.n 0)).r (addI (rpt m).r.n 0) (raw0 m o) && doneG 4 (pre (rpt m) (addI (rpt m).r.n 0)) then
          K .normal (encS2g M (IntKind.i64.wrap (i + 1)) N f (rawM m o) (addI (rpt m).r.n 0) (raw0 m o))
        else none else none else none else none else none else none else none else none
    else K (.exit 2) (finS2 N f ⟨0, m, N1, o⟩) := by kernel_rfl
theorem raw0_eq (m : Md) (o : Nat → Int) : raw0 m o = fun j => Rt.encI (catO (rpt m).r.i0 (rpt m).r.n o [] j) := by
  funext j
  unfold raw0 cat0 catO
  by_cases h : j < (rpt m).r.n
  · rw [catG_lt h, subG_eq, if_pos h]
  · rw [catG_ge (by omega), if_neg h]
    rfl
theorem rawM_eq (m : Md) (o : Nat → Int) : rawM m o = rdM m o := by
  unfold rawM rdM
  rw [raw0_eq, addI_eq]
  rfl
theorem okS2 (L : List (Nat × LoopSum)) : LoopOk Try.prog PZ L 20 1 (resMask Try.f3.results.toList) (lpAt Try.f3 1) (formSumC decS2 chkS2 normS2 tS2) := by
  refine LoopOk.ofC decS2_spec (fun p => (p.1 - p.2.1).toNat) ?_
  rintro ⟨M, i, N, f, m, N1, o⟩ R K y h
  unfold tS2 at h
  simp only at h
  cases hg : goodS2 (M, i, N, f, m, N1, o) with
  | false => rw [hg] at h; cases h
  | true =>
    rw [hg, cond_true] at h
    obtain ⟨h1, hM, hS, ht, hnn⟩ := goodS2_iff.1 hg
    simp only at h1 hM hS ht hnn
    by_cases hi : i < M
    · left
      obtain ⟨r1, r2, r3, r4, r5, r6⟩ := rd_set hS (by omega) (by omega) o
      have g := gates hS
      have ha : m.st.active = 0 ∨ m.st.active = 1 := Fold.act_iff.1 hS.inv.act
      have hw : IntKind.i64.wrap (1 - m.st.active) = 1 - m.st.active := wi (by omega)
      have f1 := (fill_f hS.inv).1
      have s4 : Inv (rp4 m) N1 := inv_op f1 (askP m)
      have st : Inv (rpt m) N1 := inv_tick g.set.inv _
      have hn := st.n
      have hn1 : (rpt m).r.n ≤ m.r.n := r5
      have hmn := hS.inv.n
      refine ⟨(M, i + 1, N, f, rdM m o, (rpt m).r.n, catO (rpt m).r.i0 (rpt m).r.n o []), by simp only; omega, fun K' => ?_, ?_⟩
      · rw [roundS2, decide_eq_true hi, chk_inv hS.inv, hS.inv.small, hw, decide_eq_true (show 0 ≤ 1 - m.st.active by omega), decide_eq_true (show 1 - m.st.active < 2 by omega), f1.act, decide_eq_true (show 0 ≤ m.st.active by omega), decide_eq_true (show m.st.active < 2 by omega), s4.act]
        rw [rawM_eq, raw0_eq, addI_eq, addI_eq, decide_eq_true (show N1 = (rpt m).r.i0 + (rpt m).r.n from st.n.symm)]
        rw [Nat.add_zero]
        rw [decide_eq_true (show (rpt m).r.n ≤ 4294967296 by omega), chk_pre, (done (inv_pre st (n := (rpt m).r.n)).right 1), wi (x := i + 1) (by omega)]
        rfl
      · unfold tS2
        simp only
        rw [goodS2_iff.2 ⟨by simp only; omega, hM, by rw [show (100 : Int) + (i + 1) = 100 + i + 1 by omega]; exact r1, by simp only; omega, by simp only; omega⟩, cond_true]
        rw [show (M - i).toNat = (M - (i + 1)).toNat + 1 by omega] at h
        exact h
    · right
      rw [show (M - i).toNat = 0 by omega] at h
      exact ⟨.exit 2, _, by simp, fun K' => by rw [roundS2, decide_eq_false hi]; rfl, h⟩
theorem loopsSe : LoopsOk Try.prog PZ LSe 20 1 (resMask Try.f3.results.toList) (loopsOf (resMask Try.f3.results.toList) (bodyOf Try.f3) [] (resMask Try.f3.results.toList)) :=
  loopsOk_ix 2 (by kernel_rfl) ⟨⟨trivial, loopOk_here (n := 0) (by kernel_rfl) rfl (okTS _)⟩, loopOk_here (n := 2) (by kernel_rfl) rfl (okS2 _)⟩
/-! ### The law -/
@[reducible] noncomputable def tailS {R : Type} (d : DR) (T : Bool → Option R) : Option R :=
  bif Rt.chkB d.m.r d.N (fun j => Rt.encI (d.o j)) then bif d.m.st.phase == 0 then bif decide (0 ≤ IntKind.i64.wrap (1 - d.m.st.active)) && decide (IntKind.i64.wrap (1 - d.m.st.active) < 2) then bif selI (IntKind.i64.wrap (1 - d.m.st.active)) 0 [d.m.st.want0, d.m.st.want1] == 0 then
    bif decide (0 ≤ IntKind.i64.wrap (1 - d.m.st.active)) && decide (IntKind.i64.wrap (1 - d.m.st.active) < 2) then bif selI (IntKind.i64.wrap (1 - d.m.st.active)) 0 [d.m.a.want, d.m.b.want] == 0 then T (d.m.r.slot == d.m.st.active) else T false else none else T false else none else T false else none
@[reducible] noncomputable def sS (z : N3) (N : Nat) (f : Nat → Ac) : DS := allS f (N - (0 : Int).toNat) (0 : Int).toNat ⟨0, 0, newM z.a z.b z.c, 0, fun _ => 0⟩
@[reducible] noncomputable def MS (s : DS) : Int := IntKind.i64.wrap (6 + s.x)
theorem t_ModelSettles {R : Type} (z : N3) (N : Nat) (f : Nat → Ac) (K : TV → List (Option SB) → Option R) : runFnL Try.prog PZ LSe 20 Try.f3 (bodyOf Try.f3) [.agg (encN3 z), .c (.slc 0 0 N)] [.ro 10 (.gen N fun i => encAc (f i))] K =
    bif Nat.beq N N && chkRo encAc decAcD (fun i => encAc (f i)) then bif greatV N f then K (.s (bl true)) (rowSE N f) else bif !(Fold.ffirstV z.a z.b).2 then K (.s (bl true)) (rowSE N f) else
      bif Nat.beq N N && (decide ((N : Int) = N) && (chkRo Rt.encI Rt.decID (fun _ => [.int .i64 0]) && chkRo encAc decAcD (fun i => encAc (f i)))) then
        bif goodS1 (0, 0, N, f, newM z.a z.b z.c, 0, fun _ => 0) then bif overS f (N - (0 : Int).toNat) (0 : Int).toNat ⟨0, 0, newM z.a z.b z.c, 0, fun _ => 0⟩ then K (.s (bl true)) (rowSE N f) else
          bif chkRo Rt.encI Rt.decID (fun j => Rt.encI ((sS z N f).d.o j)) && chkRo encAc decAcD (fun i => encAc (f i)) then
            bif goodS2 (MS (sS z N f), 0, N, f, (sS z N f).d.m, (sS z N f).d.N, (sS z N f).d.o) then tailS (rdAll (MS (sS z N f) - 0).toNat ⟨0, (sS z N f).d.m, (sS z N f).d.N, (sS z N f).d.o⟩) (fun b => K (.s (bl b)) (rowSE N f))
            else none else none else none else none else none := by kernel_rfl
theorem tail_set {R : Type} {d : DR} {B : Int} {T : Bool → Option R} (h : Set2 d.m d.N B) (hp : d.m.st.phase = 0) : tailS d T = T true := by
  unfold tailS
  have ha : d.m.st.active = 0 ∨ d.m.st.active = 1 := Fold.act_iff.1 h.inv.act
  have hw : IntKind.i64.wrap (1 - d.m.st.active) = 1 - d.m.st.active := wi (by omega)
  obtain ⟨_, hsw, _, _⟩ := right_sw h.inv.right
  have hsl := h.ci.slot (by omega)
  have hst := stable_want h.inv.right hp
  have hA := h.inv.a
  have hB := h.inv.b
  rw [chk_inv h.inv, show (d.m.st.phase == 0) = true by simpa using hp, hw, decide_eq_true (show 0 ≤ 1 - d.m.st.active by omega), decide_eq_true (show 1 - d.m.st.active < 2 by omega), show (d.m.r.slot == d.m.st.active) = true by simpa using hsl]
  unfold Fold.wantO at hst
  rcases ha with ha | ha
  · rw [if_pos ha] at hst
    rw [ha]
    simp [selI, hst, hB]
  · rw [if_neg (by omega)] at hst
    rw [ha]
    simp [selI, hst, hA]
theorem new_set {z : N3} (h : (Fold.ffirstV z.a z.b).2 = true) : Set2 (newM z.a z.b z.c) 0 0 ∧ (newM z.a z.b z.c).tick = 0 ∧ (newM z.a z.b z.c).r.n = 0 := by
  have hi : Inv (newM z.a z.b z.c) 0 := inv_new h
  have hf : (Fold.ffirstV z.a z.b).1.flip = 0 ∧ (Fold.ffirstV z.a z.b).1.gen = 0 ∧ (Fold.ffirstV z.a z.b).1.switch = 0 := by
    unfold Fold.ffirstV at h ⊢
    cases hb : Fold.rightV (Fold.St.mk 0 0 z.a 0 z.b 0 true false 0 0 0 0) with
    | true => exact ⟨rfl, rfl, rfl⟩
    | false => rw [hb] at h; cases h
  refine ⟨⟨hi, ci_new, ⟨rfl, rfl⟩, fun hz => ?_, ?_, ?_⟩, rfl, rfl⟩
  · have : (Fold.ffirstV z.a z.b).1.switch = 2 := hz
    omega
  · show (Fold.ffirstV z.a z.b).1.flip ≤ 0
    omega
  · show (Fold.ffirstV z.a z.b).1.gen ≤ 0
    omega
theorem ModelSettles (z : N3) (N : Nat) (f : Nat → Ac) (_ : wfN3 z) (q : ∀ i, i < N → wfAc (f i)) (w : World) (v2 : Value) (hv2 : ∀ X ρ, (SV.agg (encN3 z)).R X ρ v2) (v : Value) (l : Sx.Loc) (hs : SlcR l 0 N v) (hb : BlkR (outs w) (rho1 l) l (.ro 10 (.gen N fun i => encAc (f i))) w) :
    Calls Try.prog 3 #[v2, v] w fun e w' => e = .returned (.bool true) ∧ RowKit.Below w.heap.size w w' := by
  refine law_callsL okPZ mixed Try.func3 (c := bodyOf Try.f3) (by kernel_rfl) lawK_spec (fuel := 20) (args := [.agg (encN3 z), .c (.slc 0 0 N)]) (hp0 := [.ro 10 (.gen N fun i => encAc (f i))]) (X := fun _ _ => True) (ρ := rho1 l) (vs := [v2, v]) loopsSe ?_ ⟨hv2 _ _, ⟨l, rfl, hs⟩, trivial⟩ (blk1 hb) rho1_out
  rw [t_ModelSettles, chkRo_true backAc]
  cases hgr : greatV N f with
  | true => simp; rfl
  | false =>
    obtain ⟨g1, g2⟩ := great_spec hgr
    cases hf : (Fold.ffirstV z.a z.b).2 with
    | false => simp; rfl
    | true =>
      have e0 : chkRo Rt.encI Rt.decID (fun _ => [.int .i64 0]) = true := chkRo_true Rt.backI (fun _ => 0)
      obtain ⟨n1, n2, n3⟩ := new_set hf
      have hS1 : SI1 (0, 0, N, f, newM z.a z.b z.c, 0, fun _ => 0) := ⟨LI.first hf g1 fun j hj => ⟨q j hj, g2 j hj⟩, n1, n2, by simp, by simp only; rw [n3]; decide⟩
      rw [goodS1_iff.2 hS1, e0]
      cases hov : overS f (N - (0 : Int).toNat) (0 : Int).toNat ⟨0, 0, newM z.a z.b z.c, 0, fun _ => 0⟩ with
      | true => simp; rfl
      | false =>
        have hA := all_set (N - (0 : Int).toNat) (s := ⟨0, 0, newM z.a z.b z.c, 0, fun _ => 0⟩) hS1 (by simp) hov
        have hA : SI1 ((sS z N f).x, (N : Int), N, f, (sS z N f).d.m, (sS z N f).d.N, (sS z N f).d.o) := hA
        obtain ⟨a1, a2, a3, a4, a5⟩ := hA
        simp only at a2 a3 a4 a5
        have hM : MS (sS z N f) = 6 + (sS z N f).x := wi (by omega)
        have hS2 : SI2 (MS (sS z N f), 0, N, f, (sS z N f).d.m, (sS z N f).d.N, (sS z N f).d.o) := ⟨by simp only; omega, by simp only; omega, a2.up (by simp only; omega), by simp only; omega, by simp only; omega⟩
        have hk : (((MS (sS z N f) - 0).toNat : Nat) : Int) = 6 + (sS z N f).x := by omega
        have hm3 := rank3 (sS z N f).d.m.st.phase
        obtain ⟨r1, r2, r3⟩ := rdAll_set (MS (sS z N f) - 0).toNat (d := ⟨0, (sS z N f).d.m, (sS z N f).d.N, (sS z N f).d.o⟩) a2 (by omega) (by simp only; omega)
        have hp := r3 (by unfold meas; simp only; omega)
        rw [goodS2_iff.2 hS2, chkRo_true Rt.backI]
        simp only [Bool.and_self, Nat.beq_refl, decide_true, cond_true, cond_false, Bool.not_true]
        rw [tail_set r1 hp]
        rfl
end Go.Proofs.Ytpebebhjmnmcbaa.Md

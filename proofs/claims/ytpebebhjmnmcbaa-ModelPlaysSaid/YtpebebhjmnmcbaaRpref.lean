/- What the reference's router and fuse come to. No condition. -/
import Derived.Test.YtpebebhjmnmcbaaRtx
set_option maxRecDepth 100000
set_option linter.unusedSimpArgs false
set_option linter.unusedVariables false
namespace Go.Proofs.Ytpebebhjmnmcbaa.Rt
open Go Go.Proofs.Ytpebebhjmnmcbaa.Sx
structure RF where
  armed : Bool
  left : Int
  blown : Bool
  count : Int
  deriving Inhabited
def encRF (s : RF) : List CV := [.bool s.armed, .int .i64 s.left, .bool s.blown, .int .i64 s.count]
def decRF : List CV → Option RF
  | [.bool a0, .int .i64 a1, .bool a2, .int .i64 a3] => some ⟨a0, a1, a2, a3⟩
  | _ => none
def decRFD : List CV → RF
  | [.bool a0, .int .i64 a1, .bool a2, .int .i64 a3] => ⟨a0, a1, a2, a3⟩
  | _ => default
theorem decRF_spec (l : List CV) (s : RF) (h : decRF l = some s) : l = encRF s := by
  unfold decRF at h; split at h <;> cases h; rfl
theorem encRF_ren (s : RF) (π) : (encRF s).map (CV.ren π) = encRF s := rfl
theorem backRF (s : RF) : decRFD (encRF s) = s := rfl
structure wfRF (s : RF) : Prop where
  left : (Lit.int .i64 s.left).wf = true
  count : (Lit.int .i64 s.count).wf = true
theorem opRF (cvs : List CV) (vs : List Value) (h : LeafRs [.bool, .int .i64, .bool, .int .i64] cvs vs) : ∃ x, cvs = encRF x ∧ wfRF x := by
  obtain ⟨_, _, _, _, rfl, rfl, ⟨a0, rfl, rfl⟩, h0⟩ := h.cons_inv
  obtain ⟨_, _, _, _, rfl, rfl, ⟨a1, rfl, rfl, w1⟩, h1⟩ := h0.cons_inv
  obtain ⟨_, _, _, _, rfl, rfl, ⟨a2, rfl, rfl⟩, h2⟩ := h1.cons_inv
  obtain ⟨_, _, _, _, rfl, rfl, ⟨a3, rfl, rfl, w3⟩, h3⟩ := h2.cons_inv
  obtain ⟨rfl, rfl⟩ := h3.nil_inv
  exact ⟨⟨a0, a1, a2, a3⟩, rfl, ⟨w1, w3⟩⟩
noncomputable def mspendV (s : RF) : Bool × RF := (bif s.armed then (bif s.left == 0 then (false, ⟨s.armed, s.left, true, s.count⟩) else (bif s.blown then (false, s) else (bif s.armed then (true, ⟨s.armed, IntKind.i64.wrap (s.left - 1), s.blown, IntKind.i64.wrap (s.count + 1)⟩) else (true, ⟨s.armed, s.left, s.blown, IntKind.i64.wrap (s.count + 1)⟩)))) else (bif s.blown then (false, s) else (bif s.armed then (true, ⟨s.armed, IntKind.i64.wrap (s.left - 1), s.blown, IntKind.i64.wrap (s.count + 1)⟩) else (true, ⟨s.armed, s.left, s.blown, IntKind.i64.wrap (s.count + 1)⟩))))
@[reducible] def k_mspend {R : Type} (K : TV → List (Option SB) → Option R) (v : Bool × RF) : Option R := K (.s (.c (.bool (v).1))) [some (.cells (encRF (v).2))]
theorem t_mspend {R : Type} (s : RF) (K : TV → List (Option SB) → Option R) : runFn Try.prog S0 10 Try.f98 (bodyOf Try.f98) [.c (.ptr 0 0)] [.cells (encRF s)] K = k_mspend K (mspendV s) := by
  refine Eq.trans (b := (bif s.armed then (bif s.left == 0 then K (TV.s (SV.c (CV.bool false))) [some (SB.cells [CV.bool s.armed, CV.int IntKind.i64 s.left, CV.bool true, CV.int IntKind.i64 s.count])] else (bif s.blown then K (TV.s (SV.c (CV.bool false))) [some (SB.cells (encRF s))] else (bif s.armed then K (TV.s (SV.c (CV.bool true))) [some (SB.cells [CV.bool s.armed, CV.int IntKind.i64 (IntKind.i64.wrap (s.left - 1)), CV.bool s.blown, CV.int IntKind.i64 (IntKind.i64.wrap (s.count + 1))])] else K (TV.s (SV.c (CV.bool true))) [some (SB.cells [CV.bool s.armed, CV.int IntKind.i64 s.left, CV.bool s.blown, CV.int IntKind.i64 (IntKind.i64.wrap (s.count + 1))])]))) else (bif s.blown then K (TV.s (SV.c (CV.bool false))) [some (SB.cells (encRF s))] else (bif s.armed then K (TV.s (SV.c (CV.bool true))) [some (SB.cells [CV.bool s.armed, CV.int IntKind.i64 (IntKind.i64.wrap (s.left - 1)), CV.bool s.blown, CV.int IntKind.i64 (IntKind.i64.wrap (s.count + 1))])] else K (TV.s (SV.c (CV.bool true))) [some (SB.cells [CV.bool s.armed, CV.int IntKind.i64 s.left, CV.bool s.blown, CV.int IntKind.i64 (IntKind.i64.wrap (s.count + 1))])])))) (by kernel_rfl) ?_
  unfold mspendV
  repeat' (first | exact rfl | refine push (k_mspend K) ?_ ?_)
noncomputable def g_mspend : RF → List SV → Option (TV × Option RF)
  | s, [] => some (.s (.c (.bool (mspendV s).1)), some ((mspendV s).2))
  | _, _ => none
theorem ok_mspend : SumOk Try.prog 98 (ptrVal encRF decRF g_mspend) := by
  refine sumOk_ptrV okS0 mixed Try.func98 (c := bodyOf Try.f98) (by kernel_rfl) (by kernel_rfl) decRF_spec encRF_ren ?_
  intro s rest tv s' h
  unfold g_mspend at h
  split at h
  · cases h
    exact ⟨fun _ => rfl, fun _ => rfl, 10, t_mspend _ _⟩
  · cases h
@[reducible] noncomputable def SF : Sums := (98, ptrVal encRF decRF g_mspend) :: S0
theorem okSF : SumsOk Try.prog SF := (okS0.cons ok_mspend)
/-- The reference's router. -/
structure Rm where
  slot : Int
  gen : Int
  writes : Int
  i0 : Nat
  n : Nat
  armed : Bool
  left : Int
  blown : Bool
  count : Int
@[reducible] def hpM (r : Rm) (N : Nat) (ge : Nat → List CV) : List SB := [.cells [.int .i64 r.slot, .int .i64 r.gen, .slc 1 r.i0 r.n, .int .i64 r.writes, .ptr 2 0], .vec 1 [] (.gen N ge), .cells [.bool r.armed, .int .i64 r.left, .bool r.blown, .int .i64 r.count]]
def decM : List SB → Option (Rm × Nat × (Nat → List CV))
  | [.cells [.int .i64 a, .int .i64 b, .slc 1 i n, .int .i64 w, .ptr 2 0], .vec 1 [] (.gen N ge), .cells [.bool l, .int .i64 e, .bool c, .int .i64 d]] => some (⟨a, b, w, i, n, l, e, c, d⟩, N, ge)
  | _ => none
theorem decM_spec {hp : List SB} {r : Rm} {N : Nat} {ge : Nat → List CV} (h : decM hp = some (r, N, ge)) : hp = hpM r N ge := by
  unfold decM at h; split at h <;> cases h; rfl
@[reducible] def mfu (r : Rm) : RF := ⟨r.armed, r.left, r.blown, r.count⟩
@[reducible] def putM (r : Rm) (f : RF) : Rm := ⟨r.slot, r.gen, r.writes, r.i0, r.n, f.armed, f.left, f.blown, f.count⟩
noncomputable def mspend1 (r : Rm) : Rm := putM r (mspendV (mfu r)).2
def mset (r : Rm) (gen slot : Int) : Int × Rm := bif decide (gen > r.gen) then (0, ⟨slot, gen, IntKind.i64.wrap (r.writes + 1), r.i0, r.n, r.armed, r.left, r.blown, r.count⟩) else bif decide (gen < r.gen) then (11, r) else bif slot != r.slot then (11, r) else (0, r)
/-- What comes of a call that has an outcome. -/
def mpop (r : Rm) (out gen slot : Int) : Int × Rm := bif out == 2 then (10, r) else bif out == 1 then (10, (mset r gen slot).2) else mset r gen slot
@[reducible] def mcut (r : Rm) : Rm := ⟨r.slot, r.gen, r.writes, 0, r.n - 1, r.armed, r.left, r.blown, r.count⟩
def chkM (r : Rm) (N : Nat) (ge : Nat → List CV) : Prop := ge = (fun j => encI (decID (ge j))) ∧ r.i0 + r.n ≤ N ∧ r.n ≤ 4294967296
noncomputable def chkMb (r : Rm) (N : Nat) (ge : Nat → List CV) : Bool := @decide (chkM r N ge) (Classical.propDecidable _)
theorem chkMb_iff {r : Rm} {N : Nat} {ge : Nat → List CV} : chkMb r N ge = true ↔ chkM r N ge := Iff.of_eq (@decide_eq_true_eq _ (Classical.propDecidable _))
@[reducible] def oM (N : Nat) (ge : Nat → List CV) (e : Int) (r : Rm) : Cs := .out ⟨true, .s (i64 e), (hpM r N ge).map some, []⟩
/-- The same, its outcomes in a block of their own. -/
@[reducible] def oM' (N : Nat) (ge : Nat → List CV) (e : Int) (r : Rm) (M : Nat) (ge' : Nat → List CV) : Cs := .out ⟨true, .s (i64 e),
  [some (.cells [.int .i64 r.slot, .int .i64 r.gen, .slc 3 r.i0 r.n, .int .i64 r.writes, .ptr 2 0]), some (.vec 1 [] (.gen N ge)), some (.cells [.bool r.armed, .int .i64 r.left, .bool r.blown, .int .i64 r.count])], [.vec 1 [] (.gen M ge')]⟩
@[reducible] noncomputable def mcallT (r : Rm) (N : Nat) (ge : Nat → List CV) (gen slot : Int) : Cs :=
  .br (decide (slot < 0)) (oM N ge 1 r) (.br (decide (slot > 1)) (oM N ge 1 r) (.br (decide (gen < 1)) (oM N ge 1 r) (.br (decide (gen > 1048576)) (oM N ge 1 r) (.br (!(mspendV (mfu r)).1) (oM N ge 2 (mspend1 r))
  (.br (decide ((r.n : Int) > 0)) (oM' N ge (mpop (mspend1 r) (decID (ge (addI r.i0 0))) gen slot).1 (mcut (mpop (mspend1 r) (decID (ge (addI r.i0 0))) gen slot).2) (r.n - 1) (subG ge (addI r.i0 1)))
  (.br (decide (gen > r.gen)) (oM N ge 0 (mset (mspend1 r) gen slot).2) (.br (decide (gen < r.gen)) (oM N ge 11 (mspend1 r)) (.br (slot != r.slot) (oM N ge 11 (mspend1 r)) (oM N ge 0 (mspend1 r))))))))))
noncomputable def g_mcall : List SV → List SB → Cs
  | [.c (.ptr 0 0), .c (.int .i64 gen), .c (.int .i64 slot)], hp => match decM hp with
    | some (r, N, ge) => .br (chkMb r N ge) (mcallT r N ge gen slot) .no
    | none => .no
  | _, _ => .no
theorem t_mcall {R : Type} (r : Rm) (N : Nat) (o : Nat → Int) (gen slot : Int) (hN : r.i0 + r.n ≤ N) (hn : r.n ≤ 4294967296) (K : TV → List (Option SB) → Option R) : runFn Try.prog SF 10 Try.f76 (bodyOf Try.f76) [.c (.ptr 0 0), i64 gen, i64 slot] (hpM r N (fun j => encI (o j))) K = (mcallT r N (fun j => encI (o j)) gen slot).run K := by
  refine Eq.trans (b := bif decide (slot < 0) then (oM N (fun j => encI (o j)) 1 r).run K else bif decide (slot > 1) then (oM N (fun j => encI (o j)) 1 r).run K else bif decide (gen < 1) then (oM N (fun j => encI (o j)) 1 r).run K else bif decide (gen > 1048576) then (oM N (fun j => encI (o j)) 1 r).run K else
    bif !(mspendV (mfu r)).1 then (oM N (fun j => encI (o j)) 2 (mspend1 r)).run K else bif decide ((r.n : Int) > 0) then
      bif true && decide (0 < (r.n : Int)) then bif decide (addI r.i0 0 < N) then bif true && decide (1 ≤ (r.n : Int)) && decide ((r.n : Int) ≤ (r.n : Int)) then bif decide (addI (addI r.i0 1) ((r.n : Int).toNat - 1) ≤ N) then bif decide (((r.n : Int).toNat - 1) ≤ 4294967296) then
        bif o (addI r.i0 0) == 2 then (oM' N (fun j => encI (o j)) 10 (mcut (mspend1 r)) ((r.n : Int).toNat - 1) (subG (fun j => encI (o j)) (addI r.i0 1))).run K else
        bif decide (gen > r.gen) then bif o (addI r.i0 0) == 1 then (oM' N (fun j => encI (o j)) 10 (mcut ⟨slot, gen, IntKind.i64.wrap (r.writes + 1), 0, r.n, (mspend1 r).armed, (mspend1 r).left, (mspend1 r).blown, (mspend1 r).count⟩) ((r.n : Int).toNat - 1) (subG (fun j => encI (o j)) (addI r.i0 1))).run K else
          (oM' N (fun j => encI (o j)) 0 (mcut ⟨slot, gen, IntKind.i64.wrap (r.writes + 1), 0, r.n, (mspend1 r).armed, (mspend1 r).left, (mspend1 r).blown, (mspend1 r).count⟩) ((r.n : Int).toNat - 1) (subG (fun j => encI (o j)) (addI r.i0 1))).run K else
        bif decide (gen < r.gen) then bif o (addI r.i0 0) == 1 then (oM' N (fun j => encI (o j)) 10 (mcut (mspend1 r)) ((r.n : Int).toNat - 1) (subG (fun j => encI (o j)) (addI r.i0 1))).run K else (oM' N (fun j => encI (o j)) 11 (mcut (mspend1 r)) ((r.n : Int).toNat - 1) (subG (fun j => encI (o j)) (addI r.i0 1))).run K else
        bif slot != r.slot then bif o (addI r.i0 0) == 1 then (oM' N (fun j => encI (o j)) 10 (mcut (mspend1 r)) ((r.n : Int).toNat - 1) (subG (fun j => encI (o j)) (addI r.i0 1))).run K else (oM' N (fun j => encI (o j)) 11 (mcut (mspend1 r)) ((r.n : Int).toNat - 1) (subG (fun j => encI (o j)) (addI r.i0 1))).run K else
          bif o (addI r.i0 0) == 1 then (oM' N (fun j => encI (o j)) 10 (mcut (mspend1 r)) ((r.n : Int).toNat - 1) (subG (fun j => encI (o j)) (addI r.i0 1))).run K else (oM' N (fun j => encI (o j)) 0 (mcut (mspend1 r)) ((r.n : Int).toNat - 1) (subG (fun j => encI (o j)) (addI r.i0 1))).run K
      else none else none else none else none else none
    else bif decide (gen > r.gen) then (oM N (fun j => encI (o j)) 0 ⟨slot, gen, IntKind.i64.wrap (r.writes + 1), r.i0, r.n, (mspend1 r).armed, (mspend1 r).left, (mspend1 r).blown, (mspend1 r).count⟩).run K else bif decide (gen < r.gen) then (oM N (fun j => encI (o j)) 11 (mspend1 r)).run K else bif slot != r.slot then (oM N (fun j => encI (o j)) 11 (mspend1 r)).run K else (oM N (fun j => encI (o j)) 0 (mspend1 r)).run K) (by kernel_rfl) ?_
  simp only [Cs.run, Int.toNat_natCast]
  cases decide (slot < 0) <;> simp only [cond_true, cond_false]
  cases decide (slot > 1) <;> simp only [cond_true, cond_false]
  cases decide (gen < 1) <;> simp only [cond_true, cond_false]
  cases decide (gen > 1048576) <;> simp only [cond_true, cond_false]
  cases !(mspendV (mfu r)).1 <;> simp only [cond_true, cond_false]
  have hm : mset (mspend1 r) gen slot = bif decide (gen > r.gen) then (0, ⟨slot, gen, IntKind.i64.wrap (r.writes + 1), r.i0, r.n, (mspend1 r).armed, (mspend1 r).left, (mspend1 r).blown, (mspend1 r).count⟩) else bif decide (gen < r.gen) then (11, mspend1 r) else bif slot != r.slot then (11, mspend1 r) else (0, mspend1 r) := rfl
  by_cases hp : (r.n : Int) > 0
  · rw [decide_eq_true hp, decide_eq_true (show addI r.i0 0 < N by rw [addI_eq]; omega), decide_eq_true (show (1 : Int) ≤ (r.n : Int) by omega), decide_eq_true (Int.le_refl (r.n : Int)),
      decide_eq_true (show addI (addI r.i0 1) (r.n - 1) ≤ N by rw [addI_eq, addI_eq]; omega), decide_eq_true (show r.n - 1 ≤ 4294967296 by omega)]
    simp only [cond_true, Bool.and_self]
    simp only [backI]
    unfold mpop
    rw [hm]
    generalize o (addI r.i0 0) = out
    cases e0 : out == 2 <;> cases e1 : decide (gen > r.gen) <;> cases e2 : decide (gen < r.gen) <;> cases e3 : slot != r.slot <;> cases e4 : out == 1 <;> simp only [cond_true, cond_false] <;> rfl
  · rw [decide_eq_false hp]
    simp only [cond_false]
    rw [hm]
    cases e1 : decide (gen > r.gen) <;> simp only [cond_true, cond_false] <;> rfl
theorem ok_mcall : SumOk Try.prog 76 (genSumT g_mcall) := by
  refine sumOk_cs okSF mixed Try.func76 (c := bodyOf Try.f76) (by kernel_rfl) (by kernel_rfl) ?_
  intro args hp x h
  unfold g_mcall at h ⊢
  split at h
  · rename_i gen slot
    cases hd : decM hp with
    | none => rw [hd] at h; cases h
    | some p =>
      obtain ⟨r, N, ge⟩ := p
      rw [hd] at h
      simp only at h ⊢
      obtain rfl := decM_spec hd
      cases hc : chkMb r N ge with
      | false => rw [hc] at h; cases h
      | true =>
        obtain ⟨e, hN, hn⟩ := chkMb_iff.1 hc
        refine ⟨[], 10, LoopsOk.nil, ?_⟩
        have t := t_mcall r N (fun j => decID (ge j)) gen slot hN hn (fun tv hp => some (tv, hp))
        rw [← e] at t
        exact t
  · cases h
/-! ### more outcomes -/
noncomputable def g_mscript : List SV → List SB → Cs
  | [.c (.ptr 0 0), .c (.xs _ l)], hp => match decM hp with
    | some (r, N, ge) => .br (decide (r.i0 + r.n ≤ N ∧ r.n + l.length ≤ 4294967296)) (.out ⟨true, .tup [], [some (.cells [.int .i64 r.slot, .int .i64 r.gen, .slc 3 0 (addI r.n l.length), .int .i64 r.writes, .ptr 2 0]), some (.vec 1 [] (.gen N ge)), some (.cells [.bool r.armed, .int .i64 r.left, .bool r.blown, .int .i64 r.count])],
      [.vec 1 [] (.gen (addI r.n l.length) (catG (subG ge r.i0) (fun j => [.int .i64 (l.getD j 0)]) r.n))]⟩) .no
    | none => .no
  | _, _ => .no
theorem t_mscript {R : Type} (r : Rm) (N : Nat) (ge : Nat → List CV) (u : Value) (l : List Int) (K : TV → List (Option SB) → Option R) : runFn Try.prog SF 10 Try.f51 (bodyOf Try.f51) [.c (.ptr 0 0), .c (.xs u l)] (hpM r N ge) K =
    bif decide (addI r.i0 r.n ≤ N) then bif decide (r.n ≤ 4294967296) then bif decide (r.n = r.n) then bif decide (addI r.n l.length ≤ 4294967296) then
      K (.tup []) [some (.cells [.int .i64 r.slot, .int .i64 r.gen, .slc 3 0 (addI r.n l.length), .int .i64 r.writes, .ptr 2 0]), some (.vec 1 [] (.gen N ge)), some (.cells [.bool r.armed, .int .i64 r.left, .bool r.blown, .int .i64 r.count]), some (.vec 1 [] (.gen (addI r.n l.length) (catG (subG ge r.i0) (fun j => [.int .i64 (l.getD j 0)]) r.n)))]
    else none else none else none else none := by kernel_rfl
theorem ok_mscript : SumOk Try.prog 51 (genSumT g_mscript) := by
  refine sumOk_cs okSF mixed Try.func51 (c := bodyOf Try.f51) (by kernel_rfl) (by kernel_rfl) ?_
  intro args hp x h
  unfold g_mscript at h ⊢
  split at h
  · rename_i u l
    cases hd : decM hp with
    | none => rw [hd] at h; cases h
    | some p =>
      obtain ⟨r, N, ge⟩ := p
      rw [hd] at h
      simp only at h ⊢
      obtain rfl := decM_spec hd
      refine ⟨[], 10, LoopsOk.nil, (t_mscript ..).trans ?_⟩
      by_cases hc : r.i0 + r.n ≤ N ∧ r.n + l.length ≤ 4294967296
      · rw [decide_eq_true hc, decide_eq_true (show addI r.i0 r.n ≤ N by rw [addI_eq]; omega), decide_eq_true (show r.n ≤ 4294967296 by omega), decide_eq_true (show addI r.n l.length ≤ 4294967296 by rw [addI_eq]; omega)]
        simp only [decide_true, cond_true]
        rfl
      · rw [decide_eq_false hc] at h; cases h
  · cases h
end Go.Proofs.Ytpebebhjmnmcbaa.Rt

/- What a step of a model comes to. No condition. -/
import Derived.Test.YtpebebhjmnmcbaaMd2
set_option maxRecDepth 100000
set_option linter.unusedSimpArgs false
set_option linter.unusedVariables false
namespace Go.Proofs.Ytpebebhjmnmcbaa.Md
open Go Go.Proofs.Ytpebebhjmnmcbaa.Sx
/-! ### A route is told -/
noncomputable def toM (m : Md) : Rt.Cell := ⟨IntKind.i64.wrap (1 - m.st.active), m.st.gen⟩
noncomputable def withR (m : Md) (r : Rt.Rou) : Md := ⟨m.st, m.a, m.b, r, m.tries, m.tick⟩
@[reducible] def recA (gen tick : Int) : Fold.Rc := ⟨8, 0, 0, 0, gen, tick, false, 0, 0, 0, 0, 0, 0, false, false, 0, 0, 0, 0⟩
noncomputable def routeV (m : Md) (o : Nat → Int) : Int × Md := bif (Rt.csetV m.r o (toM m) m.tries).1 == 0 then (0, putM (withR m (Rt.csetV m.r o (toM m) m.tries).2.2) (recA m.st.gen m.tick)) else ((Rt.csetV m.r o (toM m) m.tries).1, withR m (Rt.csetV m.r o (toM m) m.tries).2.2)
@[reducible] noncomputable def PE : Sums := (70, genSum Rt.g_cset) :: (39, genSum g_mput) :: S0
theorem okPE : SumsOk Try.prog PE := (okS0.cons ok_mput).cons Rt.ok_cset
theorem t_mroute {R : Type} (m : Md) (N : Nat) (ge : Nat → List CV) (K : TV → List (Option SB) → Option R) : runFn Try.prog PE 10 Try.f44 (bodyOf Try.f44) [.c (.ptr 0 0)] (hpM m N ge) K =
    bif Rt.chkB m.r N ge then bif (Rt.csetV m.r (fun j => Rt.decID (ge j)) (toM m) m.tries).1 == 0 then K (.s (i64 (Rt.csetV m.r (fun j => Rt.decID (ge j)) (toM m) m.tries).1)) ((hpM (putM (withR m (Rt.csetV m.r (fun j => Rt.decID (ge j)) (toM m) m.tries).2.2) (recA m.st.gen m.tick)) N ge).map some)
      else K (.s (i64 (Rt.csetV m.r (fun j => Rt.decID (ge j)) (toM m) m.tries).1)) ((hpM (withR m (Rt.csetV m.r (fun j => Rt.decID (ge j)) (toM m) m.tries).2.2) N ge).map some) else none := by kernel_rfl
noncomputable def g_mroute : List SV → List SB → Option Out
  | [.c (.ptr 0 0)], hp => (decM hp).map fun p => ⟨Rt.chkB p.1.r p.2.1 p.2.2, .s (i64 (routeV p.1 fun j => Rt.decID (p.2.2 j)).1), (hpM (routeV p.1 fun j => Rt.decID (p.2.2 j)).2 p.2.1 p.2.2).map some, []⟩
  | _, _ => none
theorem ok_mroute : SumOk Try.prog 44 (genSum g_mroute) := by
  refine sumOk_gen okPE mixed Try.func44 (c := bodyOf Try.f44) (by kernel_rfl) (by kernel_rfl) ?_
  intro args hp y h hp1 _
  unfold g_mroute at h
  split at h
  · obtain ⟨⟨m, N, ge⟩, hm, h⟩ := Option.map_eq_some_iff.1 h
    cases h
    obtain rfl := decM_spec hm
    have hp1 : Rt.chkB m.r N ge = true := hp1
    refine ⟨10, (t_mroute ..).trans ?_⟩
    rw [hp1]
    unfold routeV
    cases hz : (Rt.csetV m.r (fun j => Rt.decID (ge j)) (toM m) m.tries).1 == 0 with
    | true =>
      have : (Rt.csetV m.r (fun j => Rt.decID (ge j)) (toM m) m.tries).1 = 0 := by simpa using hz
      rw [cond_true, cond_true, this]
      rfl
    | false => rfl
  · cases h
/-! ### Script -/
noncomputable def g_script2 : List SV → List SB → Cs
  | [.c (.ptr 0 0), .c (.slc 1 0 m)], [.cells [.int .i64 a, .int .i64 b, .slc 2 i0 n, .int .i64 w, .ptr 3 0], .vec 1 [] (.gen M ge'), .vec 1 [] (.gen N ge), .cells [.int .i64 l, .bool c, .int .i64 d]] =>
    .out ⟨decide (N = addI i0 n) && (decide (addI 0 m ≤ M) && decide (addI n m ≤ 4294967296)), .tup [], [some (.cells [.int .i64 a, .int .i64 b, .slc 4 0 (addI n m), .int .i64 w, .ptr 3 0]), some (.vec 1 [] (.gen M ge')), none, some (.cells [.int .i64 l, .bool c, .int .i64 d])], [.vec 1 [] (.gen (addI n m) (catG (subG ge i0) (subG ge' 0) n))]⟩
  | [.c (.ptr 0 0), .c .nils], [.cells [.int .i64 a, .int .i64 b, .slc 1 i0 n, .int .i64 w, .ptr 2 0], .vec 1 [] (.gen N ge), .cells [.int .i64 l, .bool c, .int .i64 d]] =>
    .out ⟨decide (N = addI i0 n) && decide (addI n 0 ≤ 4294967296), .tup [], [some (.cells [.int .i64 a, .int .i64 b, .slc 3 0 (addI n 0), .int .i64 w, .ptr 2 0]), none, some (.cells [.int .i64 l, .bool c, .int .i64 d])], [.vec 1 [] (.gen (addI n 0) (catG (subG ge i0) (fun _ => [.int .i64 0]) n))]⟩
  | _, _ => .no
theorem t_script2 {R : Type} (a b w l d : Int) (i0 n N m M : Nat) (ge ge' : Nat → List CV) (c : Bool) (K : TV → List (Option SB) → Option R) : runFn Try.prog S0 10 Try.f42 (bodyOf Try.f42) [.c (.ptr 0 0), .c (.slc 1 0 m)]
    [.cells [.int .i64 a, .int .i64 b, .slc 2 i0 n, .int .i64 w, .ptr 3 0], .vec 1 [] (.gen M ge'), .vec 1 [] (.gen N ge), .cells [.int .i64 l, .bool c, .int .i64 d]] K =
    bif decide (N = addI i0 n) then bif decide (addI 0 m ≤ M) then bif decide (addI n m ≤ 4294967296) then K (.tup []) [some (.cells [.int .i64 a, .int .i64 b, .slc 4 0 (addI n m), .int .i64 w, .ptr 3 0]), some (.vec 1 [] (.gen M ge')), none, some (.cells [.int .i64 l, .bool c, .int .i64 d]), some (.vec 1 [] (.gen (addI n m) (catG (subG ge i0) (subG ge' 0) n)))] else none else none else none := by kernel_rfl
theorem t_script3 {R : Type} (a b w l d : Int) (i0 n N : Nat) (ge : Nat → List CV) (c : Bool) (K : TV → List (Option SB) → Option R) : runFn Try.prog S0 10 Try.f42 (bodyOf Try.f42) [.c (.ptr 0 0), .c .nils]
    [.cells [.int .i64 a, .int .i64 b, .slc 1 i0 n, .int .i64 w, .ptr 2 0], .vec 1 [] (.gen N ge), .cells [.int .i64 l, .bool c, .int .i64 d]] K =
    bif decide (N = addI i0 n) then bif decide (addI n 0 ≤ 4294967296) then K (.tup []) [some (.cells [.int .i64 a, .int .i64 b, .slc 3 0 (addI n 0), .int .i64 w, .ptr 2 0]), none, some (.cells [.int .i64 l, .bool c, .int .i64 d]), some (.vec 1 [] (.gen (addI n 0) (catG (subG ge i0) (fun _ => [.int .i64 0]) n)))] else none else none := by kernel_rfl
theorem ok_script2 : SumOk Try.prog 42 (genSumT g_script2) := by
  refine sumOk_genT (sumOk_gen okS0 mixed Try.func42 (c := bodyOf Try.f42) (by kernel_rfl) (by kernel_rfl) ?_)
  intro args hp x h hp1 _
  unfold g_script2 at h
  split at h
  · cases h
    simp only [Bool.and_eq_true] at hp1
    exact ⟨10, by rw [t_script2, hp1.1, hp1.2.1, hp1.2.2]; rfl⟩
  · cases h
    simp only [Bool.and_eq_true] at hp1
    exact ⟨10, by rw [t_script3, hp1.1, hp1.2]; rfl⟩
  · cases h
/-! ### Step -/
@[reducible] noncomputable def viewM (m : Md) : Fold.Vw := ⟨m.a.want, m.b.want, Rep.scount m.a, Rep.scount m.b⟩
noncomputable def nxV (m : Md) : Int × Fold.Rc := Fold.nextV m.st (viewM m) m.tick
/-- Steps: k at most. -/
noncomputable def stepG (o : Nat → Int) : Nat → Md → Int × Md
  | 0, m => (0, m)
  | k + 1, m => bif (nxV m).1 == 2 || (nxV m).1 == 3 then bif (Fold.stepV m.st (nxV m).2).2 then stepG o k (putM m (nxV m).2) else (9, putM m (nxV m).2) else bif (nxV m).1 == 5 then routeV m o else bif (nxV m).1 == 0 then (0, m) else (0, putM m (nxV m).2)
noncomputable def doneG : Nat → Md → Bool
  | 0, _ => false
  | k + 1, m => bif (nxV m).1 == 2 || (nxV m).1 == 3 then bif (Fold.stepV m.st (nxV m).2).2 then doneG k (putM m (nxV m).2) else true else true
@[reducible] noncomputable def PS : Sums := (42, genSumT g_script2) :: (34, genSum Rep.g_fapply) :: (37, roSumT fun a hp => csOf (Rep.g_fview a hp)) :: (43, valSum Fold.g_next) :: (39, genSum g_mput) :: (44, genSum g_mroute) :: S0
theorem okPS : SumsOk Try.prog PS := (((((okS0.cons ok_mroute).cons ok_mput).cons Fold.ok_next).cons (sumOk_ro same_fview (ok_csOf Rep.ok_fview))).cons Rep.ok_fapply).cons ok_script2
def encSt (e : Int) (m : Md) (N : Nat) (ge : Nat → List CV) : Sx.St := ⟨[(0, .s (.c (.ptr 0 0))), (4, .s (.c (.int .i64 e)))], (hpV m).map some ++ [some (.vec 1 [] (.gen N ge))], 7, 58⟩
def finSt (e : Int) (m : Md) (N : Nat) (ge : Nat → List CV) : Sx.St := ⟨[(4, .s (.c (.int .i64 e)))], (hpV m).map some ++ [some (.vec 1 [] (.gen N ge))], 7, 58⟩
end Go.Proofs.Ytpebebhjmnmcbaa.Md

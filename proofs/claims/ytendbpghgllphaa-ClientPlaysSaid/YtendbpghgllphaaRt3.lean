/- How a router begins, and is scripted; answers that are fixed. No condition. -/
import Derived.Test.YtendbpghgllphaaRt2
set_option maxRecDepth 100000
set_option linter.unusedSimpArgs false
set_option linter.unusedVariables false
namespace Go.Proofs.Ytendbpghgllphaa.Rt
open Go Go.Proofs.Ytendbpghgllphaa.Sx
noncomputable def g_rnew : List SV → List SB → Option Out
  | [.c (.ptr 0 0)], [.cells [.int .i64 l, .bool b, .int .i64 c]] => some ⟨true, .s (.c (.ptr 1 0)), [some (.cells [.int .i64 l, .bool b, .int .i64 c])], [.cells [.int .i64 0, .int .i64 0, .nils, .int .i64 0, .ptr 0 0]]⟩
  | _, _ => none
theorem t_rnew (l c : Int) (b : Bool) : runFn Try.prog S0 10 Try.f15 (bodyOf Try.f15) [.c (.ptr 0 0)] [.cells [.int .i64 l, .bool b, .int .i64 c]] (fun tv hp => some (tv, hp)) =
    some (.s (.c (.ptr 1 0)), [some (.cells [.int .i64 l, .bool b, .int .i64 c]), some (.cells [.int .i64 0, .int .i64 0, .nils, .int .i64 0, .ptr 0 0])]) := by kernel_rfl
theorem ok_rnew : SumOk Try.prog 15 (genSum g_rnew) := by
  refine sumOk_gen okS0 mixed Try.func15 (c := bodyOf Try.f15) (by kernel_rfl) (by kernel_rfl) ?_
  intro args hp x h _ _
  unfold g_rnew at h
  split at h
  · cases h; exact ⟨10, t_rnew ..⟩
  · cases h
noncomputable def g_script : List SV → List SB → Option Out
  | [.c (.ptr 0 0), .c (.slc 1 0 n)], [.cells [.int .i64 a, .int .i64 b, .nils, .int .i64 w, .ptr 2 0], .vec 1 [] (.gen N ge), .cells [.int .i64 l, .bool c, .int .i64 d]] =>
    some ⟨decide (n ≤ N) && decide (n ≤ 4294967296), .tup [], [some (.cells [.int .i64 a, .int .i64 b, .slc 3 0 n, .int .i64 w, .ptr 2 0]), some (.vec 1 [] (.gen N ge)), some (.cells [.int .i64 l, .bool c, .int .i64 d])], [.vec 1 [] (.gen n ge)]⟩
  | _, _ => none
theorem t_script {R : Type} (a b w l d : Int) (c : Bool) (n N : Nat) (ge : Nat → List CV) (K : TV → List (Option SB) → Option R) : runFn Try.prog S0 10 Try.f17 (bodyOf Try.f17) [.c (.ptr 0 0), .c (.slc 1 0 n)]
    [.cells [.int .i64 a, .int .i64 b, .nils, .int .i64 w, .ptr 2 0], .vec 1 [] (.gen N ge), .cells [.int .i64 l, .bool c, .int .i64 d]] K =
    bif decide (n ≤ N) then bif decide (n ≤ 4294967296) then K (.tup []) [some (.cells [.int .i64 a, .int .i64 b, .slc 3 0 n, .int .i64 w, .ptr 2 0]), some (.vec 1 [] (.gen N ge)), some (.cells [.int .i64 l, .bool c, .int .i64 d]), some (.vec 1 [] (.gen n ge))] else none else none := by kernel_rfl
theorem ok_script : SumOk Try.prog 17 (genSum g_script) := by
  refine sumOk_gen okS0 mixed Try.func17 (c := bodyOf Try.f17) (by kernel_rfl) (by kernel_rfl) ?_
  intro args hp x h hp1 _
  unfold g_script at h
  split at h
  · cases h
    simp only [Bool.and_eq_true] at hp1
    exact ⟨10, by rw [t_script, hp1.1, hp1.2]; rfl⟩
  · cases h
@[reducible] noncomputable def SL : Sums := (12, (genSum g_fnew)) :: (15, (genSum g_rnew)) :: (17, (genSum g_script)) :: (18, (genSum g_call)) :: (16, (genSum g_cell)) :: (19, (genSum g_writes)) :: (29, (genSum g_cset)) :: (22, ptrVal encF decF g_arm) :: (32, ptrVal encF decF g_spend) :: (24, ptrVal encF decF g_reset) :: (30, ptrVal encF decF g_blown) :: (26, ptrVal encF decF g_count) :: S0
theorem okSL : SumsOk Try.prog SL := ((((((((((((okS0.cons ok_count).cons ok_blown).cons ok_reset).cons ok_spend).cons ok_arm).cons ok_cset).cons ok_writes).cons ok_cell).cons ok_call).cons ok_script).cons ok_rnew).cons ok_fnew)
def ttV : Bool := true
theorem chkB_of {r : Rou} {N : Nat} {ge : Nat → List CV} (e : ge = fun j => encI (decID (ge j))) (h : r.i0 + r.n ≤ N) : chkB r N ge = true := by
  unfold chkB chkRo
  rw [decide_eq_true h, @decide_eq_true _ (Classical.propDecidable _) e]
  rfl
theorem chkB_cell (r : Rou) (o : Nat → Int) (N : Nat) (ge : Nat → List CV) : chkB (cellV r o).2 N ge = chkB r N ge := rfl
theorem chkB_writes (r : Rou) (o : Nat → Int) (N : Nat) (ge : Nat → List CV) : chkB (writesV r o).2 N ge = chkB r N ge := rfl
theorem setG_n (o : Nat → Int) (to : Cell) (T : Int) : ∀ (k : Nat) (n : Int) (r : Rou), (setG o to T k n r).2.2.i0 + (setG o to T k n r).2.2.n = r.i0 + r.n
  | 0, _, _ => rfl
  | k + 1, n, r => by
    unfold setG
    cases (callV r o to.gen to.slot).1 != 10 <;> simp only [cond_true, cond_false]
    · cases n == T <;> simp only [cond_true, cond_false]
      · rw [setG_n o to T k, call_n]
      · exact call_n ..
    · exact call_n ..
theorem chkB_cset (r : Rou) (o : Nat → Int) (to : Cell) (T : Int) (N : Nat) (ge : Nat → List CV) : chkB (csetV r o to T).2.2 N ge = chkB r N ge := by
  unfold chkB csetV
  rw [setG_n]
@[reducible] def k_aw11 {R : Type} (K : TV → List (Option SB) → Option R) (v : Bool) : Option R := K (.s (.c (.bool (v)))) []
theorem t_aw11 {R : Type}  (K : TV → List (Option SB) → Option R) : runFn Try.prog SL 20 Try.f13 (bodyOf Try.f13) [] [] K = k_aw11 K (ttV) := by
  refine Eq.trans (b := (bif chkB (Rou.mk 0 0 0 0 1 (-1) false 0) 1 (litZ 1 [CV.int IntKind.i64 0] (setRange (repN 1 1 [CV.int IntKind.i64 0]) 0 (SV.c (CV.int IntKind.i64 1)).cells)) then (bif chkB (callV (Rou.mk 0 0 0 0 1 (-1) false 0) (fun j => decID (litZ 1 [CV.int IntKind.i64 0] (setRange (repN 1 1 [CV.int IntKind.i64 0]) 0 (SV.c (CV.int IntKind.i64 1)).cells) j)) 1 1).snd 1 (litZ 1 [CV.int IntKind.i64 0] (setRange (repN 1 1 [CV.int IntKind.i64 0]) 0 (SV.c (CV.int IntKind.i64 1)).cells)) then (bif chkB (cellV (callV (Rou.mk 0 0 0 0 1 (-1) false 0) (fun j => decID (litZ 1 [CV.int IntKind.i64 0] (setRange (repN 1 1 [CV.int IntKind.i64 0]) 0 (SV.c (CV.int IntKind.i64 1)).cells) j)) 1 1).snd fun j => decID (litZ 1 [CV.int IntKind.i64 0] (setRange (repN 1 1 [CV.int IntKind.i64 0]) 0 (SV.c (CV.int IntKind.i64 1)).cells) j)).snd 1 (litZ 1 [CV.int IntKind.i64 0] (setRange (repN 1 1 [CV.int IntKind.i64 0]) 0 (SV.c (CV.int IntKind.i64 1)).cells)) then (bif chkB (callV (cellV (callV (Rou.mk 0 0 0 0 1 (-1) false 0) (fun j => decID (litZ 1 [CV.int IntKind.i64 0] (setRange (repN 1 1 [CV.int IntKind.i64 0]) 0 (SV.c (CV.int IntKind.i64 1)).cells) j)) 1 1).snd fun j => decID (litZ 1 [CV.int IntKind.i64 0] (setRange (repN 1 1 [CV.int IntKind.i64 0]) 0 (SV.c (CV.int IntKind.i64 1)).cells) j)).snd (fun j => decID (litZ 1 [CV.int IntKind.i64 0] (setRange (repN 1 1 [CV.int IntKind.i64 0]) 0 (SV.c (CV.int IntKind.i64 1)).cells) j)) 1 1).snd 1 (litZ 1 [CV.int IntKind.i64 0] (setRange (repN 1 1 [CV.int IntKind.i64 0]) 0 (SV.c (CV.int IntKind.i64 1)).cells)) then (bif chkB (callV (callV (cellV (callV (Rou.mk 0 0 0 0 1 (-1) false 0) (fun j => decID (litZ 1 [CV.int IntKind.i64 0] (setRange (repN 1 1 [CV.int IntKind.i64 0]) 0 (SV.c (CV.int IntKind.i64 1)).cells) j)) 1 1).snd fun j => decID (litZ 1 [CV.int IntKind.i64 0] (setRange (repN 1 1 [CV.int IntKind.i64 0]) 0 (SV.c (CV.int IntKind.i64 1)).cells) j)).snd (fun j => decID (litZ 1 [CV.int IntKind.i64 0] (setRange (repN 1 1 [CV.int IntKind.i64 0]) 0 (SV.c (CV.int IntKind.i64 1)).cells) j)) 1 1).snd (fun j => decID (litZ 1 [CV.int IntKind.i64 0] (setRange (repN 1 1 [CV.int IntKind.i64 0]) 0 (SV.c (CV.int IntKind.i64 1)).cells) j)) 1 0).snd 1 (litZ 1 [CV.int IntKind.i64 0] (setRange (repN 1 1 [CV.int IntKind.i64 0]) 0 (SV.c (CV.int IntKind.i64 1)).cells)) then (bif chkB (callV (callV (callV (cellV (callV (Rou.mk 0 0 0 0 1 (-1) false 0) (fun j => decID (litZ 1 [CV.int IntKind.i64 0] (setRange (repN 1 1 [CV.int IntKind.i64 0]) 0 (SV.c (CV.int IntKind.i64 1)).cells) j)) 1 1).snd fun j => decID (litZ 1 [CV.int IntKind.i64 0] (setRange (repN 1 1 [CV.int IntKind.i64 0]) 0 (SV.c (CV.int IntKind.i64 1)).cells) j)).snd (fun j => decID (litZ 1 [CV.int IntKind.i64 0] (setRange (repN 1 1 [CV.int IntKind.i64 0]) 0 (SV.c (CV.int IntKind.i64 1)).cells) j)) 1 1).snd (fun j => decID (litZ 1 [CV.int IntKind.i64 0] (setRange (repN 1 1 [CV.int IntKind.i64 0]) 0 (SV.c (CV.int IntKind.i64 1)).cells) j)) 1 0).snd (fun j => decID (litZ 1 [CV.int IntKind.i64 0] (setRange (repN 1 1 [CV.int IntKind.i64 0]) 0 (SV.c (CV.int IntKind.i64 1)).cells) j)) 0 0).snd 1 (litZ 1 [CV.int IntKind.i64 0] (setRange (repN 1 1 [CV.int IntKind.i64 0]) 0 (SV.c (CV.int IntKind.i64 1)).cells)) then K (TV.s (SV.c (CV.bool true))) [] else none) else none) else none) else none) else none) else none)) (by kernel_rfl) ?_
  have c0 : chkB (Rou.mk 0 0 0 0 1 (-1) false 0) 1 (litZ 1 [CV.int IntKind.i64 0] (setRange (repN 1 1 [CV.int IntKind.i64 0]) 0 (SV.c (CV.int IntKind.i64 1)).cells)) = true := chkB_of rfl (by decide)
  simp only [chkB_call, chkB_cell, chkB_writes, c0, cond_true]
  rfl
noncomputable def g_aw11 : List SV → Option TV
  | [] => some (.s (.c (.bool (ttV))))
  | _ => none
theorem ok_aw11 : SumOk Try.prog 13 (valSum g_aw11) := by
  refine sumOk_val okSL mixed Try.func13 (c := bodyOf Try.f13) (by kernel_rfl) (by kernel_rfl) ?_
  intro args tv h
  unfold g_aw11 at h
  split at h
  · cases h
    exact ⟨fun _ => rfl, fun _ => rfl, 20, t_aw11  _⟩
  · cases h
@[reducible] def k_aw12 {R : Type} (K : TV → List (Option SB) → Option R) (v : Bool) : Option R := K (.s (.c (.bool (v)))) []
theorem t_aw12 {R : Type}  (K : TV → List (Option SB) → Option R) : runFn Try.prog SL 20 Try.f27 (bodyOf Try.f27) [] [] K = k_aw12 K (ttV) := by
  refine Eq.trans (b := (bif chkB (Rou.mk 0 0 0 0 2 (-1) false 0) 2 (litZ 1 [CV.int IntKind.i64 0] (setRange (setRange (repN 2 1 [CV.int IntKind.i64 0]) 0 (SV.c (CV.int IntKind.i64 2)).cells) 1 (SV.c (CV.int IntKind.i64 1)).cells)) then (bif chkB (csetV (Rou.mk 0 0 0 0 2 (-1) false 0) (fun j => decID (litZ 1 [CV.int IntKind.i64 0] (setRange (setRange (repN 2 1 [CV.int IntKind.i64 0]) 0 (SV.c (CV.int IntKind.i64 2)).cells) 1 (SV.c (CV.int IntKind.i64 1)).cells) j)) (Cell.mk 1 1) 2).snd.snd 2 (litZ 1 [CV.int IntKind.i64 0] (setRange (setRange (repN 2 1 [CV.int IntKind.i64 0]) 0 (SV.c (CV.int IntKind.i64 2)).cells) 1 (SV.c (CV.int IntKind.i64 1)).cells)) then (bif chkB (csetV (csetV (Rou.mk 0 0 0 0 2 (-1) false 0) (fun j => decID (litZ 1 [CV.int IntKind.i64 0] (setRange (setRange (repN 2 1 [CV.int IntKind.i64 0]) 0 (SV.c (CV.int IntKind.i64 2)).cells) 1 (SV.c (CV.int IntKind.i64 1)).cells) j)) (Cell.mk 1 1) 2).snd.snd (fun j => decID (litZ 1 [CV.int IntKind.i64 0] (setRange (setRange (repN 2 1 [CV.int IntKind.i64 0]) 0 (SV.c (CV.int IntKind.i64 2)).cells) 1 (SV.c (CV.int IntKind.i64 1)).cells) j)) (Cell.mk 1 1) 2).snd.snd 2 (litZ 1 [CV.int IntKind.i64 0] (setRange (setRange (repN 2 1 [CV.int IntKind.i64 0]) 0 (SV.c (CV.int IntKind.i64 2)).cells) 1 (SV.c (CV.int IntKind.i64 1)).cells)) then (bif chkB (csetV (csetV (csetV (Rou.mk 0 0 0 0 2 (-1) false 0) (fun j => decID (litZ 1 [CV.int IntKind.i64 0] (setRange (setRange (repN 2 1 [CV.int IntKind.i64 0]) 0 (SV.c (CV.int IntKind.i64 2)).cells) 1 (SV.c (CV.int IntKind.i64 1)).cells) j)) (Cell.mk 1 1) 2).snd.snd (fun j => decID (litZ 1 [CV.int IntKind.i64 0] (setRange (setRange (repN 2 1 [CV.int IntKind.i64 0]) 0 (SV.c (CV.int IntKind.i64 2)).cells) 1 (SV.c (CV.int IntKind.i64 1)).cells) j)) (Cell.mk 1 1) 2).snd.snd (fun j => decID (litZ 1 [CV.int IntKind.i64 0] (setRange (setRange (repN 2 1 [CV.int IntKind.i64 0]) 0 (SV.c (CV.int IntKind.i64 2)).cells) 1 (SV.c (CV.int IntKind.i64 1)).cells) j)) (Cell.mk 0 1) 5).snd.snd 2 (litZ 1 [CV.int IntKind.i64 0] (setRange (setRange (repN 2 1 [CV.int IntKind.i64 0]) 0 (SV.c (CV.int IntKind.i64 2)).cells) 1 (SV.c (CV.int IntKind.i64 1)).cells)) then K (TV.s (SV.c (CV.bool true))) [] else none) else none) else none) else none)) (by kernel_rfl) ?_
  have c0 : chkB (Rou.mk 0 0 0 0 2 (-1) false 0) 2 (litZ 1 [CV.int IntKind.i64 0] (setRange (setRange (repN 2 1 [CV.int IntKind.i64 0]) 0 (SV.c (CV.int IntKind.i64 2)).cells) 1 (SV.c (CV.int IntKind.i64 1)).cells)) = true := chkB_of rfl (by decide)
  simp only [chkB_cset, chkB_cell, chkB_writes, c0, cond_true]
  rfl
noncomputable def g_aw12 : List SV → Option TV
  | [] => some (.s (.c (.bool (ttV))))
  | _ => none
theorem ok_aw12 : SumOk Try.prog 27 (valSum g_aw12) := by
  refine sumOk_val okSL mixed Try.func27 (c := bodyOf Try.f27) (by kernel_rfl) (by kernel_rfl) ?_
  intro args tv h
  unfold g_aw12 at h
  split at h
  · cases h
    exact ⟨fun _ => rfl, fun _ => rfl, 20, t_aw12  _⟩
  · cases h
noncomputable def triesV (n : Int) : Int := (bif decide (n < 1) then 1 else (bif decide (n > 8) then 8 else n))
@[reducible] def k_tries {R : Type} (K : TV → List (Option SB) → Option R) (v : Int) : Option R := K (.s (.c (.int .i64 (v)))) []
theorem t_tries {R : Type} (n : Int) (K : TV → List (Option SB) → Option R) : runFn Try.prog S0 10 Try.f28 (bodyOf Try.f28) [.c (.int .i64 n)] [] K = k_tries K (triesV n) := by
  refine Eq.trans (b := (bif decide (n < 1) then K (TV.s (SV.c (CV.int IntKind.i64 1))) [] else (bif decide (n > 8) then K (TV.s (SV.c (CV.int IntKind.i64 8))) [] else K (TV.s (SV.c (CV.int IntKind.i64 n))) []))) (by kernel_rfl) ?_
  unfold triesV
  repeat' (first | exact rfl | refine push (k_tries K) ?_ ?_)
noncomputable def g_tries : List SV → Option TV
  | [.c (.int .i64 n)] => some (.s (.c (.int .i64 (triesV n))))
  | _ => none
theorem ok_tries : SumOk Try.prog 28 (valSum g_tries) := by
  refine sumOk_val okS0 mixed Try.func28 (c := bodyOf Try.f28) (by kernel_rfl) (by kernel_rfl) ?_
  intro args tv h
  unfold g_tries at h
  split at h
  · cases h
    exact ⟨fun _ => rfl, fun _ => rfl, 10, t_tries _ _⟩
  · cases h
@[reducible] noncomputable def SM : Sums := (13, valSum g_aw11) :: (27, valSum g_aw12) :: (28, valSum g_tries) :: SL
theorem okSM : SumsOk Try.prog SM := (((okSL.cons ok_tries).cons ok_aw12).cons ok_aw11)
end Go.Proofs.Ytendbpghgllphaa.Rt

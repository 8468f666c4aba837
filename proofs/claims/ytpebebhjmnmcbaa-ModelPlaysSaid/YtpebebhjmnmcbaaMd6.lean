/- What an act comes to; are there more than are played? No condition. -/
import Derived.Test.YtpebebhjmnmcbaaMd5
set_option maxRecDepth 100000
set_option linter.unusedSimpArgs false
set_option linter.unusedVariables false
namespace Go.Proofs.Ytpebebhjmnmcbaa.Md
open Go Go.Proofs.Ytpebebhjmnmcbaa.Sx
@[reducible] def askA (a : Ac) : Fold.Ask := ⟨a.okind, a.orev, a.onn, a.odelay, a.opass⟩
@[reducible] def hpE (m : Md) (N : Nat) (ge : Nat → List CV) : List (Option SB) := (hpV m).map some ++ [some (.vec 1 [] (.gen N ge))]
@[reducible] def litO (l : List Int) : Nat → List CV := catG (subG (Content.gen 0 (litZ 1 [.int .i64 0] (repN 0 1 [.int .i64 0]))).get 0) (fun j => [.int .i64 (l.getD j 0)]) 0
theorem t_do {R : Type} (m : Md) (a : Ac) (N : Nat) (ge : Nat → List CV) (K : TV → List (Option SB) → Option R) : runFnN Try.prog PD [] 20 6 Try.f13 (bodyOf Try.f13) [.c (.ptr 0 0), .agg (encAc a)] (hpV m ++ [.vec 1 [] (.gen N ge)]) K =
    bif a.kind == 1 then bif Fold.act m.st then K (.s (i64 (opV m (askA a)).1)) (hpE (opV m (askA a)).2 N ge) else none else
    bif a.kind == 2 then bif decide (addI 0 a.outL.length ≤ 4294967296) then bif decide (N = addI m.r.i0 m.r.n) && (decide (addI 0 (addI 0 a.outL.length) ≤ addI 0 a.outL.length) && decide (addI m.r.n (addI 0 a.outL.length) ≤ 4294967296)) then
      bif Rt.chkB (pre m (addI m.r.n (addI 0 a.outL.length))).r (addI m.r.n (addI 0 a.outL.length)) (cat1 m ge (litO a.outL)) && doneG 4 (pre m (addI m.r.n (addI 0 a.outL.length))) then
        K (.s (i64 (mstepV m (addI m.r.n (addI 0 a.outL.length)) fun j => Rt.decID (cat1 m ge (litO a.outL) j)).1)) (hpE (mstepV m (addI m.r.n (addI 0 a.outL.length)) fun j => Rt.decID (cat1 m ge (litO a.outL) j)).2 (addI m.r.n (addI 0 a.outL.length)) (cat1 m ge (litO a.outL)))
      else none else none else none else
    bif a.kind == 3 then bif small m then bif (Rep.fready (m.a, m.b) a.slot a.n a.on).1 then K (.s (i64 1)) (hpE (readyM m a.slot a.n a.on) N ge) else K (.s (i64 0)) (hpE (readyM m a.slot a.n a.on) N ge) else none else
    bif a.kind == 4 then K (.s (i64 0)) (hpE (tickM m a.n) N ge) else K (.s (i64 0)) (hpE m N ge) := by kernel_rfl
def catO (i0 n : Nat) (o : Nat → Int) (l : List Int) : Nat → Int := fun j => if j < n then o (i0 + j) else l.getD (j - n) 0
theorem cat1_enc (m : Md) (o : Nat → Int) (l : List Int) : cat1 m (fun j => Rt.encI (o j)) (litO l) = fun j => Rt.encI (catO m.r.i0 m.r.n o l j) := by
  funext j
  unfold cat1 litO catO
  by_cases h : j < m.r.n
  · rw [catG_lt h, subG_eq, if_pos h]
  · rw [catG_ge (by omega), if_neg h]
    rfl
/-- What it tells; the model; how many outcomes there are in memory, and which. -/
structure DR where
  k : Int
  m : Md
  N : Nat
  o : Nat → Int
noncomputable def doV (m : Md) (N : Nat) (o : Nat → Int) (a : Ac) : DR :=
  bif a.kind == 1 then ⟨(opV m (askA a)).1, (opV m (askA a)).2, N, o⟩ else
  bif a.kind == 2 then ⟨(mstepV m (m.r.n + a.outL.length) (catO m.r.i0 m.r.n o a.outL)).1, (mstepV m (m.r.n + a.outL.length) (catO m.r.i0 m.r.n o a.outL)).2, m.r.n + a.outL.length, catO m.r.i0 m.r.n o a.outL⟩ else
  bif a.kind == 3 then ⟨bif (Rep.fready (m.a, m.b) a.slot a.n a.on).1 then 1 else 0, readyM m a.slot a.n a.on, N, o⟩ else
  bif a.kind == 4 then ⟨0, tickM m a.n, N, o⟩ else ⟨0, m, N, o⟩
noncomputable def okDo (m : Md) (N : Nat) (a : Ac) : Bool :=
  bif a.kind == 1 then Fold.act m.st else bif a.kind == 2 then decide (N = m.r.i0 + m.r.n) && (decide (m.r.n + a.outL.length ≤ 4294967296) && doneG 4 (pre m (m.r.n + a.outL.length))) else bif a.kind == 3 then small m else true
noncomputable def g_do : List SV → List SB → Cs
  | [.c (.ptr 0 0), .agg l], hp => match decAc l, decV1 hp with
    | some a, some (m, N, ge) => .br (chkRo Rt.encI Rt.decID ge && okDo m N a) (.out ⟨true, .s (i64 (doV m N (fun j => Rt.decID (ge j)) a).k), (hpV (doV m N (fun j => Rt.decID (ge j)) a).m).map some, [.vec 1 [] (.gen (doV m N (fun j => Rt.decID (ge j)) a).N fun j => Rt.encI ((doV m N (fun j => Rt.decID (ge j)) a).o j))]⟩) .no
    | _, _ => .no
  | _, _ => .no
theorem chk_pre (m : Md) (n : Nat) (o : Nat → Int) : Rt.chkB (pre m n).r n (fun j => Rt.encI (o j)) = true := Rt.chkB_true (by show 0 + n ≤ n; omega)
theorem ok_do : SumOk Try.prog 13 (genSumN g_do) := by
  refine sumOk_genN okPD mixed Try.func13 (c := bodyOf Try.f13) (by kernel_rfl) (by kernel_rfl) ?_
  intro args hp x h
  unfold g_do at h ⊢
  split at h
  · rename_i l
    cases ha : decAc l with
    | none => rw [ha] at h; cases h
    | some a =>
      cases hd : decV1 hp with
      | none => rw [ha, hd] at h; cases h
      | some p =>
        obtain ⟨m, N, ge⟩ := p
        rw [ha, hd] at h
        obtain rfl := decV1_spec hd
        obtain rfl := decAc_spec _ _ ha
        simp only at h ⊢
        cases hc : chkRo Rt.encI Rt.decID ge && okDo m N a with
        | false => rw [hc] at h; cases h
        | true =>
          rw [hc] at h
          cases h
          simp only [Bool.and_eq_true] at hc
          obtain ⟨c1, c2⟩ := hc
          have e := chkRo_spec c1
          refine ⟨[], 20, LoopsOk.nil, (t_do ..).trans ?_⟩
          clear hd c1
          obtain ⟨o, rfl⟩ : ∃ o : Nat → Int, ge = fun j => Rt.encI (o j) := ⟨_, e⟩
          clear e
          unfold okDo at c2
          show _ = some (TV.s (i64 (doV m N o a).k), hpE (doV m N o a).m (doV m N o a).N fun j => Rt.encI ((doV m N o a).o j))
          unfold doV
          cases k1 : a.kind == 1 with
          | true => rw [k1, cond_true] at c2; rw [c2]; rfl
          | false =>
            rw [k1, cond_false] at c2
            simp only [cond_false]
            cases k2 : a.kind == 2 with
            | true =>
              rw [k2, cond_true] at c2
              simp only [Bool.and_eq_true, decide_eq_true_eq] at c2
              simp only [addI_eq, Nat.zero_add, cond_true]
              rw [decide_eq_true (show a.outL.length ≤ 4294967296 by omega), decide_eq_true c2.1, decide_eq_true c2.2.1, cat1_enc, chk_pre, c2.2.2, decide_eq_true (Nat.le_refl _)]
              rfl
            | false =>
              rw [k2, cond_false] at c2
              simp only [cond_false]
              cases k3 : a.kind == 3 with
              | true =>
                rw [k3, cond_true] at c2
                rw [c2]
                simp only [cond_true]
                cases (Rep.fready (m.a, m.b) a.slot a.n a.on).1 <;> rfl
              | false =>
                simp only [cond_false]
                cases a.kind == 4 <;> rfl
  · cases h
end Go.Proofs.Ytpebebhjmnmcbaa.Md

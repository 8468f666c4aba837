/- What a model's methods come to, part 2. No condition. -/
import Derived.Test.YtpebebhjmnmcbaaMd
set_option maxRecDepth 100000
set_option linter.unusedSimpArgs false
set_option linter.unusedVariables false
namespace Go.Proofs.Ytpebebhjmnmcbaa.Md
open Go Go.Proofs.Ytpebebhjmnmcbaa.Sx
/-- A summary of one case as one by cases. -/
def csOf : Option Out → Cs
  | some x => .out x
  | none => .no
theorem csOf_pick (x : Option Out) : (csOf x).pick = x := by cases x <;> rfl
theorem ok_csOf {f : FuncId} {g : List SV → List SB → Option Out} (h : SumOk Try.prog f (genSum g)) : SumOk Try.prog f (genSumT fun a hp => csOf (g a hp)) :=
  sumOk_genT (by simpa only [csOf_pick] using h)
/-! ### put -/
noncomputable def putM (m : Md) (x : Fold.Rc) : Md := ⟨(Fold.stepV m.st x).1, Rep.sscale m.a (Fold.stepV m.st x).1.want0, Rep.sscale m.b (Fold.stepV m.st x).1.want1, m.r, m.tries, m.tick⟩
theorem t_mput {R : Type} (m : Md) (N : Nat) (ge : Nat → List CV) (x : Fold.Rc) (K : TV → List (Option SB) → Option R) : runFn Try.prog PA 10 Try.f39 (bodyOf Try.f39) [.c (.ptr 0 0), .agg (Fold.encRc x)] (hpM m N ge) K =
    K (.s (bl (Fold.stepV m.st x).2)) ((hpM (putM m x) N ge).map some) := by kernel_rfl
noncomputable def g_mput : List SV → List SB → Option Out
  | [.c (.ptr 0 0), .agg l], hp => (Fold.decRc l).bind fun x => (decM hp).map fun p => ⟨true, .s (bl (Fold.stepV p.1.st x).2), (hpM (putM p.1 x) p.2.1 p.2.2).map some, []⟩
  | _, _ => none
theorem ok_mput : SumOk Try.prog 39 (genSum g_mput) := by
  refine sumOk_gen okPA mixed Try.func39 (c := bodyOf Try.f39) (by kernel_rfl) (by kernel_rfl) ?_
  intro args hp y h _ _
  unfold g_mput at h
  split at h
  · rename_i l
    obtain ⟨x, hx, h⟩ := Option.bind_eq_some_iff.1 h
    obtain ⟨⟨m, N, ge⟩, hm, h⟩ := Option.map_eq_some_iff.1 h
    cases h
    obtain rfl := Fold.decRc_spec _ _ hx
    obtain rfl := decM_spec hm
    exact ⟨10, (t_mput ..).trans rfl⟩
  · cases h
/-! ### Tick, Ready -/
noncomputable def tickM (m : Md) (n : Int) : Md := ⟨m.st, m.a, m.b, m.r, m.tries, Fold.maddV m.tick n 1073741824⟩
@[reducible] noncomputable def PB : Sums := (41, valSum Fold.g_madd) :: (56, genSum Rep.g_fready) :: S0
theorem okPB : SumsOk Try.prog PB := (okS0.cons Rep.ok_fready).cons Fold.ok_madd
theorem t_mtick {R : Type} (m : Md) (N : Nat) (ge : Nat → List CV) (n : Int) (K : TV → List (Option SB) → Option R) : runFn Try.prog PB 10 Try.f17 (bodyOf Try.f17) [.c (.ptr 0 0), i64 n] (hpM m N ge) K =
    K (.tup []) ((hpM (tickM m n) N ge).map some) := by kernel_rfl
noncomputable def g_mtick : List SV → List SB → Option Out
  | [.c (.ptr 0 0), .c (.int .i64 n)], hp => (decM hp).map fun p => ⟨true, .tup [], (hpM (tickM p.1 n) p.2.1 p.2.2).map some, []⟩
  | _, _ => none
theorem ok_mtick : SumOk Try.prog 17 (genSum g_mtick) := by
  refine sumOk_gen okPB mixed Try.func17 (c := bodyOf Try.f17) (by kernel_rfl) (by kernel_rfl) ?_
  intro args hp y h _ _
  unfold g_mtick at h
  split at h
  · rename_i n
    obtain ⟨⟨m, N, ge⟩, hm, h⟩ := Option.map_eq_some_iff.1 h
    cases h
    obtain rfl := decM_spec hm
    exact ⟨10, (t_mtick ..).trans rfl⟩
  · cases h
noncomputable def readyM (m : Md) (slot i : Int) (on : Bool) : Md := ⟨m.st, (Rep.fready (m.a, m.b) slot i on).2.1, (Rep.fready (m.a, m.b) slot i on).2.2, m.r, m.tries, m.tick⟩
def small (m : Md) : Bool := decide (m.a.want ≤ 32) && decide (m.b.want ≤ 32)
theorem t_mready {R : Type} (m : Md) (N : Nat) (ge : Nat → List CV) (slot i : Int) (on : Bool) (K : TV → List (Option SB) → Option R) : runFn Try.prog PB 10 Try.f29 (bodyOf Try.f29) [.c (.ptr 0 0), i64 slot, i64 i, bl on] (hpM m N ge) K =
    bif small m then K (.s (bl (Rep.fready (m.a, m.b) slot i on).1)) ((hpM (readyM m slot i on) N ge).map some) else none := by kernel_rfl
noncomputable def g_mready : List SV → List SB → Option Out
  | [.c (.ptr 0 0), .c (.int .i64 slot), .c (.int .i64 i), .c (.bool on)], hp => (decM hp).map fun p => ⟨small p.1, .s (bl (Rep.fready (p.1.a, p.1.b) slot i on).1), (hpM (readyM p.1 slot i on) p.2.1 p.2.2).map some, []⟩
  | _, _ => none
theorem ok_mready : SumOk Try.prog 29 (genSum g_mready) := by
  refine sumOk_gen okPB mixed Try.func29 (c := bodyOf Try.f29) (by kernel_rfl) (by kernel_rfl) ?_
  intro args hp y h hp1 _
  unfold g_mready at h
  split at h
  · rename_i slot i on
    obtain ⟨⟨m, N, ge⟩, hm, h⟩ := Option.map_eq_some_iff.1 h
    cases h
    obtain rfl := decM_spec hm
    have hp1 : small m = true := hp1
    exact ⟨10, (t_mready ..).trans (by rw [hp1]; rfl)⟩
  · cases h
/-! ### Op -/
noncomputable def opV (m : Md) (o : Fold.Ask) : Int × Md := bif Fold.checkV m.st o m.tick != 0 then (Fold.checkV m.st o m.tick, m) else (0, putM m (Fold.recordV o))
@[reducible] noncomputable def PC : Sums := (38, Fold.valSumB Fold.g_check) :: (40, valSum Fold.g_record) :: (39, genSum g_mput) :: S0
theorem okPC : SumsOk Try.prog PC := ((okS0.cons ok_mput).cons Fold.ok_record).cons Fold.ok_check
theorem t_mop {R : Type} (m : Md) (N : Nat) (ge : Nat → List CV) (o : Fold.Ask) (K : TV → List (Option SB) → Option R) : runFn Try.prog PC 10 Try.f16 (bodyOf Try.f16) [.c (.ptr 0 0), .agg (Fold.encAsk o)] (hpM m N ge) K =
    bif Fold.act m.st then bif Fold.checkV m.st o m.tick != 0 then K (.s (i64 (Fold.checkV m.st o m.tick))) ((hpM m N ge).map some) else K (.s (i64 0)) ((hpM (putM m (Fold.recordV o)) N ge).map some) else none := by kernel_rfl
noncomputable def g_mop : List SV → List SB → Option Out
  | [.c (.ptr 0 0), .agg l], hp => (Fold.decAsk l).bind fun o => (decM hp).map fun p => ⟨Fold.act p.1.st, .s (i64 (opV p.1 o).1), (hpM (opV p.1 o).2 p.2.1 p.2.2).map some, []⟩
  | _, _ => none
theorem ok_mop : SumOk Try.prog 16 (genSum g_mop) := by
  refine sumOk_gen okPC mixed Try.func16 (c := bodyOf Try.f16) (by kernel_rfl) (by kernel_rfl) ?_
  intro args hp y h hp1 _
  unfold g_mop at h
  split at h
  · rename_i l
    obtain ⟨o, ho, h⟩ := Option.bind_eq_some_iff.1 h
    obtain ⟨⟨m, N, ge⟩, hm, h⟩ := Option.map_eq_some_iff.1 h
    cases h
    obtain rfl := Fold.decAsk_spec _ _ ho
    obtain rfl := decM_spec hm
    have hp1 : Fold.act m.st = true := hp1
    refine ⟨10, (t_mop ..).trans ?_⟩
    rw [hp1]
    unfold opV
    cases Fold.checkV m.st o m.tick != 0 <;> rfl
  · cases h
/-! ### Reply -/
@[reducible] noncomputable def PR : Sums := (36, roSumT fun a hp => csOf (Rt.g_cell a hp)) :: (37, roSumT fun a hp => csOf (Rep.g_fview a hp)) :: S0
theorem same_cell (args : List SV) (hp : List SB) : (csOf (Rt.g_cell args hp)).same hp := by
  unfold Rt.g_cell
  split
  · generalize hd : Rt.decB _ = q
    cases q with
    | none => trivial
    | some p =>
      obtain ⟨r, N, ge⟩ := p
      obtain rfl := Rt.decB_spec hd
      exact ⟨rfl, rfl⟩
  · trivial
theorem same_fview (args : List SV) (hp : List SB) : (csOf (Rep.g_fview args hp)).same hp := by
  unfold Rep.g_fview
  split
  · generalize hd : Rep.decF _ = q
    cases q with
    | none => trivial
    | some p =>
      obtain ⟨a, b⟩ := p
      obtain rfl := Rep.decF_spec hd
      exact ⟨rfl, rfl⟩
  · trivial
theorem okPR : SumsOk Try.prog PR := (okS0.cons (sumOk_ro same_fview (ok_csOf Rep.ok_fview))).cons (sumOk_ro same_cell (ok_csOf Rt.ok_cell))
@[reducible] noncomputable def repC (m : Md) : List CV := [.int .i64 0, .int .i64 m.st.phase, .int .i64 m.st.active, .int .i64 m.st.rev0, .int .i64 m.st.rev1, .int .i64 m.st.want0, .int .i64 m.st.want1, .bool m.st.passed0, .bool m.st.passed1, .int .i64 m.st.delay, .int .i64 m.st.gen, .int .i64 m.st.switch, .int .i64 m.st.flip,
  .int .i64 m.r.slot, .int .i64 m.r.gen, .int .i64 m.a.want, .int .i64 m.b.want, .int .i64 (Rep.scount m.a), .int .i64 (Rep.scount m.b), .bool true, .int .i64 m.tick]
theorem t_mreply {R : Type} (m : Md) (N : Nat) (ge : Nat → List CV) (K : TV → List (Option SB) → Option R) : runFn Try.prog PR 10 Try.f14 (bodyOf Try.f14) [.c (.ptr 0 0)] (hpM m N ge) K =
    bif Rt.chkB m.r N ge then K (.s (.agg (repC m))) ((hpM m N ge).map some) else none := by kernel_rfl
noncomputable def g_mreply : List SV → List SB → Option Out
  | [.c (.ptr 0 0)], hp => (decM hp).map fun p => ⟨Rt.chkB p.1.r p.2.1 p.2.2, .s (.agg (repC p.1)), (hpM p.1 p.2.1 p.2.2).map some, []⟩
  | _, _ => none
theorem ok_mreply : SumOk Try.prog 14 (genSum g_mreply) := by
  refine sumOk_gen okPR mixed Try.func14 (c := bodyOf Try.f14) (by kernel_rfl) (by kernel_rfl) ?_
  intro args hp y h hp1 _
  unfold g_mreply at h
  split at h
  · obtain ⟨⟨m, N, ge⟩, hm, h⟩ := Option.map_eq_some_iff.1 h
    cases h
    obtain rfl := decM_spec hm
    have hp1 : Rt.chkB m.r N ge = true := hp1
    exact ⟨10, (t_mreply ..).trans (by rw [hp1]; rfl)⟩
  · cases h
end Go.Proofs.Ytpebebhjmnmcbaa.Md

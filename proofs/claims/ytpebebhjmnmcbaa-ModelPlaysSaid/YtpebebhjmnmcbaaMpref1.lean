/- What the reference's model comes to, part 1. No condition. -/
import Derived.Test.YtpebebhjmnmcbaaMpref0
import Derived.Test.YtpebebhjmnmcbaaRset
import Derived.Test.YtpebebhjmnmcbaaRfleet
set_option maxRecDepth 100000
set_option linter.unusedSimpArgs false
set_option linter.unusedVariables false
namespace Go.Proofs.Ytpebebhjmnmcbaa.Md
open Go Go.Proofs.Ytpebebhjmnmcbaa.Sx
/-- The reference's model: its state, both lists, its router, its tries, its tick. -/
structure Mr where
  st : Fold.St
  na : Nat
  ga : Nat → List CV
  nb : Nat
  gb : Nat → List CV
  r : Rt.Rm
  tries : Int
  tick : Int
@[reducible] def cMr (m : Mr) : SB := .cells [.int .i64 m.st.phase, .int .i64 m.st.active, .int .i64 m.st.rev0, .int .i64 m.st.rev1, .int .i64 m.st.want0, .int .i64 m.st.want1, .bool m.st.passed0, .bool m.st.passed1, .int .i64 m.st.delay, .int .i64 m.st.gen, .int .i64 m.st.switch, .int .i64 m.st.flip, .ptr 1 0, .ptr 2 0, .int .i64 m.tries, .int .i64 m.tick]
@[reducible] def hpR (m : Mr) (N : Nat) (ge : Nat → List CV) : List SB := [cMr m, .cells [.ptr 3 0, .ptr 4 0], .cells [.int .i64 m.r.slot, .int .i64 m.r.gen, .slc 6 m.r.i0 m.r.n, .int .i64 m.r.writes, .ptr 5 0], .cells [.slc 7 0 m.na], .cells [.slc 8 0 m.nb], .cells [.bool m.r.armed, .int .i64 m.r.left, .bool m.r.blown, .int .i64 m.r.count],
  .vec 1 [] (.gen N ge), .vec 1 [] (.gen m.na m.ga), .vec 1 [] (.gen m.nb m.gb)]
@[reducible] noncomputable def QA : Sums := (72, valSum Fold.g_rstep) :: (46, genSumN Rep.g_rapply) :: S0
theorem okQA : SumsOk Try.prog QA := (okS0.cons Rep.ok_rapply).cons Fold.ok_rstep
def decMr : List SB → Option (Nat × Nat × Mr × Nat × (Nat → List CV))
  | [.cells [.int .i64 s0, .int .i64 s1, .int .i64 s2, .int .i64 s3, .int .i64 s4, .int .i64 s5, .bool s6, .bool s7, .int .i64 s8, .int .i64 s9, .int .i64 s10, .int .i64 s11, .ptr 1 0, .ptr 2 0, .int .i64 t, .int .i64 k], .cells [.ptr 3 0, .ptr 4 0], .cells [.int .i64 x, .int .i64 g, .slc 6 i n, .int .i64 w, .ptr 5 0], .cells [.slc 7 0 na'], .cells [.slc 8 0 nb'], .cells [.bool l, .int .i64 e, .bool c, .int .i64 d],
    .vec 1 [] (.gen N ge), .vec 1 [] (.gen na ga), .vec 1 [] (.gen nb gb)] => some (na', nb', ⟨⟨s0, s1, s2, s3, s4, s5, s6, s7, s8, s9, s10, s11⟩, na, ga, nb, gb, ⟨x, g, w, i, n, l, e, c, d⟩, t, k⟩, N, ge)
  | _ => none
theorem decMr_spec {hp : List SB} {na' nb' : Nat} {m : Mr} {N : Nat} {ge : Nat → List CV} (h : decMr hp = some (na', nb', m, N, ge)) (h1 : na' = m.na) (h2 : nb' = m.nb) : hp = hpR m N ge := by
  unfold decMr at h
  split at h
  · cases h
    simp only at h1 h2
    subst h1 h2
    rfl
  · cases h
/-- Both lists are such. -/
noncomputable def okL (m : Mr) : Bool := Rep.chkL m.na m.na (Rep.fixB m.na m.ga) && Rep.chkL m.nb m.nb (Rep.fixB m.nb m.gb)
noncomputable def okD (na' nb' : Nat) (m : Mr) : Bool := Nat.beq na' m.na && (Nat.beq nb' m.nb && okL m)
theorem okD_spec {na' nb' : Nat} {m : Mr} (h : okD na' nb' m = true) : na' = m.na ∧ nb' = m.nb ∧ Rep.chkL m.na m.na (Rep.fixB m.na m.ga) = true ∧ Rep.chkL m.nb m.nb (Rep.fixB m.nb m.gb) = true := by
  unfold okD okL at h
  simp only [Bool.and_eq_true] at h
  exact ⟨Nat.eq_of_beq_eq_true h.1, Nat.eq_of_beq_eq_true h.2.1, h.2.2.1, h.2.2.2⟩
/-- The reference's model as what comes of a call. -/
@[reducible] def oMr (tv : TV) (m : Mr) (N : Nat) (ge : Nat → List CV) : Cs := .out ⟨true, tv, [some (cMr m), some (.cells [.ptr 3 0, .ptr 4 0]), some (.cells [.int .i64 m.r.slot, .int .i64 m.r.gen, .slc 6 m.r.i0 m.r.n, .int .i64 m.r.writes, .ptr 5 0]), some (.cells [.slc 7 0 m.na]), some (.cells [.slc 8 0 m.nb]), some (.cells [.bool m.r.armed, .int .i64 m.r.left, .bool m.r.blown, .int .i64 m.r.count])], [.vec 1 [] (.gen N ge), .vec 1 [] (.gen m.na m.ga), .vec 1 [] (.gen m.nb m.gb)]⟩
/-! ### Put -/
noncomputable def rputM (m : Mr) (x : Fold.Rc) : Mr := ⟨(Fold.stepV m.st x).1, (Rep.capN (Fold.stepV m.st x).1.want0).toNat, Rep.scaledG m.na m.ga (Fold.stepV m.st x).1.want0, (Rep.capN (Fold.stepV m.st x).1.want1).toNat, Rep.scaledG m.nb m.gb (Fold.stepV m.st x).1.want1, m.r, m.tries, m.tick⟩
@[reducible] noncomputable def chk2 (m : Mr) : Bool := Nat.beq m.na m.na && Nat.beq m.nb m.nb && Rep.chkL m.na m.na (Rep.fixB m.na m.ga) && Rep.chkL m.nb m.nb (Rep.fixB m.nb m.gb)
theorem chk2_eq (m : Mr) : chk2 m = okL m := by
  unfold chk2 okL
  rw [Nat.beq_refl, Nat.beq_refl]; rfl
theorem t_rput {R : Type} (m : Mr) (N : Nat) (ge : Nat → List CV) (x : Fold.Rc) (K : TV → List (Option SB) → Option R) : runFnN Try.prog QA [] 10 6 Try.f49 (bodyOf Try.f49) [.c (.ptr 0 0), .agg (Fold.encRc x)] (hpR m N ge) K =
    bif chk2 m then K (.s (bl (Fold.stepV m.st x).2)) ((hpR (rputM m x) N ge).map some) else none := by kernel_rfl
noncomputable def g_rput : List SV → List SB → Cs
  | [.c (.ptr 0 0), .agg l], hp => match Fold.decRc l, decMr hp with
    | some x, some (na', nb', m, N, ge) => .br (okD na' nb' m) (oMr (.s (bl (Fold.stepV m.st x).2)) (rputM m x) N ge) .no
    | _, _ => .no
  | _, _ => .no
theorem ok_rput : SumOk Try.prog 49 (genSumN g_rput) := by
  refine sumOk_genN okQA mixed Try.func49 (c := bodyOf Try.f49) (by kernel_rfl) (by kernel_rfl) ?_
  intro args hp y h
  unfold g_rput at h ⊢
  split at h
  · rename_i l
    cases hx : Fold.decRc l with
    | none => rw [hx] at h; cases h
    | some x =>
      cases hd : decMr hp with
      | none => rw [hx, hd] at h; cases h
      | some p =>
        obtain ⟨na', nb', m, N, ge⟩ := p
        rw [hx, hd] at h
        simp only at h ⊢
        obtain rfl := Fold.decRc_spec _ _ hx
        cases hc : okD na' nb' m with
        | false => rw [hc] at h; cases h
        | true =>
          obtain ⟨c1, c2, c3, c4⟩ := okD_spec hc
          obtain rfl := decMr_spec hd c1 c2
          rw [hc] at h
          cases h
          refine ⟨[], 10, LoopsOk.nil, (t_rput ..).trans ?_⟩
          rw [chk2_eq]
          unfold okL
          rw [c3, c4]; rfl
  · cases h
/-! ### Op, Time -/
@[reducible] noncomputable def QB : Sums := (48, Fold.valSumB Fold.g_rcheck) :: (50, valSum Fold.g_rrecord) :: (49, genSumN g_rput) :: S0
theorem okQB : SumsOk Try.prog QB := ((okS0.cons ok_rput).cons Fold.ok_rrecord).cons Fold.ok_rcheck
theorem t_rop {R : Type} (m : Mr) (N : Nat) (ge : Nat → List CV) (o : Fold.Ask) (K : TV → List (Option SB) → Option R) : runFnN Try.prog QB [] 10 6 Try.f22 (bodyOf Try.f22) [.c (.ptr 0 0), .agg (Fold.encAsk o)] (hpR m N ge) K =
    bif Fold.act m.st then bif Fold.rcheckV m.st o m.tick == 0 then bif okD m.na m.nb m then K (.s (i64 (Fold.rcheckV m.st o m.tick))) ((hpR (rputM m (Fold.rrecordV o)) N ge).map some) else none else K (.s (i64 (Fold.rcheckV m.st o m.tick))) ((hpR m N ge).map some) else none := by kernel_rfl
noncomputable def g_rop : List SV → List SB → Cs
  | [.c (.ptr 0 0), .agg l], hp => match Fold.decAsk l, decMr hp with
    | some o, some (na', nb', m, N, ge) => .br (okD na' nb' m && Fold.act m.st) (.br (Fold.rcheckV m.st o m.tick == 0) (oMr (.s (i64 (Fold.rcheckV m.st o m.tick))) (rputM m (Fold.rrecordV o)) N ge) (oMr (.s (i64 (Fold.rcheckV m.st o m.tick))) m N ge)) .no
    | _, _ => .no
  | _, _ => .no
theorem okD_self {m : Mr} : okD m.na m.nb m = okL m := by
  unfold okD
  rw [Nat.beq_refl, Nat.beq_refl]; rfl
theorem ok_rop : SumOk Try.prog 22 (genSumN g_rop) := by
  refine sumOk_genN okQB mixed Try.func22 (c := bodyOf Try.f22) (by kernel_rfl) (by kernel_rfl) ?_
  intro args hp y h
  unfold g_rop at h ⊢
  split at h
  · rename_i l
    cases hx : Fold.decAsk l with
    | none => rw [hx] at h; cases h
    | some o =>
      cases hd : decMr hp with
      | none => rw [hx, hd] at h; cases h
      | some p =>
        obtain ⟨na', nb', m, N, ge⟩ := p
        rw [hx, hd] at h
        simp only at h ⊢
        obtain rfl := Fold.decAsk_spec _ _ hx
        cases hc : okD na' nb' m && Fold.act m.st with
        | false => rw [hc] at h; cases h
        | true =>
          have hc' := hc
          simp only [Bool.and_eq_true] at hc'
          obtain ⟨c1, c2, c3, c4⟩ := okD_spec hc'.1
          obtain rfl := decMr_spec hd c1 c2
          subst c1 c2
          rw [hc] at h
          cases hr : Fold.rcheckV m.st o m.tick == 0 with
          | true =>
            rw [hr] at h
            cases h
            refine ⟨[], 10, LoopsOk.nil, (t_rop ..).trans ?_⟩
            rw [hc'.1, hc'.2, hr]; rfl
          | false =>
            rw [hr] at h
            cases h
            refine ⟨[], 10, LoopsOk.nil, (t_rop ..).trans ?_⟩
            rw [hc'.2, hr]; rfl
  · cases h
noncomputable def rtickM (m : Mr) (n : Int) : Mr := ⟨m.st, m.na, m.ga, m.nb, m.gb, m.r, m.tries, Fold.raddV m.tick n 1073741824⟩
@[reducible] noncomputable def QT : Sums := (55, valSum Fold.g_radd) :: S0
theorem okQT : SumsOk Try.prog QT := okS0.cons Fold.ok_radd
theorem t_rtime {R : Type} (m : Mr) (N : Nat) (ge : Nat → List CV) (n : Int) (K : TV → List (Option SB) → Option R) : runFnN Try.prog QT [] 10 6 Try.f26 (bodyOf Try.f26) [.c (.ptr 0 0), i64 n] (hpR m N ge) K = K (.tup []) ((hpR (rtickM m n) N ge).map some) := by kernel_rfl
noncomputable def g_rtime : List SV → List SB → Cs
  | [.c (.ptr 0 0), .c (.int .i64 n)], hp => match decMr hp with
    | some (na', nb', m, N, ge) => .br (okD na' nb' m) (oMr (.tup []) (rtickM m n) N ge) .no
    | none => .no
  | _, _ => .no
theorem ok_rtime : SumOk Try.prog 26 (genSumN g_rtime) := by
  refine sumOk_genN okQT mixed Try.func26 (c := bodyOf Try.f26) (by kernel_rfl) (by kernel_rfl) ?_
  intro args hp y h
  unfold g_rtime at h ⊢
  split at h
  · rename_i n
    cases hd : decMr hp with
    | none => rw [hd] at h; cases h
    | some p =>
      obtain ⟨na', nb', m, N, ge⟩ := p
      rw [hd] at h
      simp only at h ⊢
      cases hc : okD na' nb' m with
      | false => rw [hc] at h; cases h
      | true =>
        obtain ⟨c1, c2, c3, c4⟩ := okD_spec hc
        obtain rfl := decMr_spec hd c1 c2
        rw [hc] at h
        cases h
        exact ⟨[], 10, LoopsOk.nil, (t_rtime ..).trans rfl⟩
  · cases h
end Go.Proofs.Ytpebebhjmnmcbaa.Md

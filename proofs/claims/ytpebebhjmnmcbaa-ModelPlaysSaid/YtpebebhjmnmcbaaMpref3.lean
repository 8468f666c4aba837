/- What the reference's model comes to, part 3: how it begins, its reply. No condition. -/
import Derived.Test.YtpebebhjmnmcbaaMpref2
set_option maxRecDepth 100000
set_option linter.unusedSimpArgs false
set_option linter.unusedVariables false
namespace Go.Proofs.Ytpebebhjmnmcbaa.Md
open Go Go.Proofs.Ytpebebhjmnmcbaa.Sx
/-! ### Reply -/
@[reducible] noncomputable def QV : Sums := (53, roSumT Rep.g_rview) :: S0
theorem okQV : SumsOk Try.prog QV := okS0.cons Rep.ok_rview
@[reducible] noncomputable def repR (m : Mr) : List CV := [.int .i64 0, .int .i64 m.st.phase, .int .i64 m.st.active, .int .i64 m.st.rev0, .int .i64 m.st.rev1, .int .i64 m.st.want0, .int .i64 m.st.want1, .bool m.st.passed0, .bool m.st.passed1, .int .i64 m.st.delay, .int .i64 m.st.gen, .int .i64 m.st.switch, .int .i64 m.st.flip,
  .int .i64 m.r.slot, .int .i64 m.r.gen, .int .i64 (m.na : Int), .int .i64 (m.nb : Int), .int .i64 (Rep.rcnt m.na (Rep.fixB m.na m.ga)), .int .i64 (Rep.rcnt m.nb (Rep.fixB m.nb m.gb)), .bool true, .int .i64 m.tick]
/-- As it is found. -/
@[reducible] def hpRf (m : Mr) (N : Nat) (ge : Nat → List CV) : List SB := [cMr m, .cells [.ptr 3 0, .ptr 4 0], .cells [.int .i64 m.r.slot, .int .i64 m.r.gen, .slc 5 m.r.i0 m.r.n, .int .i64 m.r.writes, .ptr 6 0], .cells [.slc 7 0 m.na], .cells [.slc 8 0 m.nb], .vec 1 [] (.gen N ge), .cells [.bool m.r.armed, .int .i64 m.r.left, .bool m.r.blown, .int .i64 m.r.count], .vec 1 [] (.gen m.na m.ga), .vec 1 [] (.gen m.nb m.gb)]
def decRf : List SB → Option (Nat × Nat × Mr × Nat × (Nat → List CV))
  | [.cells [.int .i64 s0, .int .i64 s1, .int .i64 s2, .int .i64 s3, .int .i64 s4, .int .i64 s5, .bool s6, .bool s7, .int .i64 s8, .int .i64 s9, .int .i64 s10, .int .i64 s11, .ptr 1 0, .ptr 2 0, .int .i64 t, .int .i64 k], .cells [.ptr 3 0, .ptr 4 0], .cells [.int .i64 x, .int .i64 g, .slc 5 i n, .int .i64 w, .ptr 6 0], .cells [.slc 7 0 na'], .cells [.slc 8 0 nb'], .vec 1 [] (.gen N ge), .cells [.bool l, .int .i64 e, .bool c, .int .i64 d],
    .vec 1 [] (.gen na ga), .vec 1 [] (.gen nb gb)] => some (na', nb', ⟨⟨s0, s1, s2, s3, s4, s5, s6, s7, s8, s9, s10, s11⟩, na, ga, nb, gb, ⟨x, g, w, i, n, l, e, c, d⟩, t, k⟩, N, ge)
  | _ => none
theorem decRf_spec {hp : List SB} {na' nb' : Nat} {m : Mr} {N : Nat} {ge : Nat → List CV} (h : decRf hp = some (na', nb', m, N, ge)) (h1 : na' = m.na) (h2 : nb' = m.nb) : hp = hpRf m N ge := by
  unfold decRf at h
  split at h
  · cases h
    simp only at h1 h2
    subst h1 h2
    rfl
  · cases h
theorem t_rreply {R : Type} (m : Mr) (N : Nat) (ge : Nat → List CV) (K : TV → List (Option SB) → Option R) : runFn Try.prog QV 10 Try.f27 (bodyOf Try.f27) [.c (.ptr 0 0)] (hpRf m N ge) K =
    bif chk2 m then K (.s (.agg (repR m))) ((hpRf m N ge).map some) else none := by kernel_rfl
noncomputable def g_rreply : List SV → List SB → Cs
  | [.c (.ptr 0 0)], hp => match decRf hp with
    | some (na', nb', m, _, _) => .br (okD na' nb' m) (.out ⟨true, .s (.agg (repR m)), hp.map some, []⟩) .no
    | none => .no
  | _, _ => .no
theorem ok_rreply0 : SumOk Try.prog 27 (genSumT g_rreply) := by
  refine sumOk_cs okQV mixed Try.func27 (c := bodyOf Try.f27) (by kernel_rfl) (by kernel_rfl) ?_
  intro args hp x h
  unfold g_rreply at h ⊢
  split at h
  · cases hd : decRf hp with
    | none => rw [hd] at h; cases h
    | some p =>
      obtain ⟨na', nb', m, N, ge⟩ := p
      rw [hd] at h
      simp only at h ⊢
      cases hc : okD na' nb' m with
      | false => rw [hc] at h; cases h
      | true =>
        obtain ⟨c1, c2, c3, c4⟩ := okD_spec hc
        obtain rfl := decRf_spec hd c1 c2
        refine ⟨[], 10, LoopsOk.nil, (t_rreply ..).trans ?_⟩
        rw [chk2_eq]
        unfold okL
        rw [c3, c4]; rfl
  · cases h
theorem same_rreply (args : List SV) (hp : List SB) : (g_rreply args hp).same hp := by
  unfold g_rreply
  split
  · cases decRf hp with
    | none => trivial
    | some p => exact ⟨⟨rfl, rfl⟩, trivial⟩
  · trivial
theorem ok_rreply : SumOk Try.prog 27 (roSumT g_rreply) := sumOk_ro same_rreply ok_rreply0
/-! ### New -/
@[reducible] noncomputable def QN : Sums := (45, genSum Rep.g_rfnew) :: (46, genSumN Rep.g_rapply) :: (47, genSumN Rep.g_rfill) :: S0
theorem okQN : SumsOk Try.prog QN := ((okS0.cons Rep.ok_rfill).cons Rep.ok_rapply).cons Rep.ok_rfnew
noncomputable def newR (s : Fold.St) (tries : Int) : Mr := ⟨s, (Rep.capN s.want0).toNat, Rep.fillG (Rep.capN s.want0).toNat 32 0 (Rep.newG s.want0), (Rep.capN s.want1).toNat, Rep.fillG (Rep.capN s.want1).toNat 32 0 (Rep.newG s.want1), ⟨0, 0, 0, 0, 0, false, 0, false, 0⟩, tries, 0⟩
@[reducible] noncomputable def hpRn (s : Fold.St) (m : Mr) : List SB := [.cells [.int .i64 s.phase, .int .i64 s.active, .int .i64 s.rev0, .int .i64 s.rev1, .int .i64 s.want0, .int .i64 s.want1, .bool s.passed0, .bool s.passed1, .int .i64 s.delay, .int .i64 s.gen, .int .i64 s.switch, .int .i64 s.flip, .ptr 1 0, .ptr 6 0, .int .i64 m.tries, .int .i64 0], .cells [.ptr 2 0, .ptr 4 0], .cells [.slc 3 0 m.na], .vec 1 [] (.gen m.na m.ga), .cells [.slc 5 0 m.nb], .vec 1 [] (.gen m.nb m.gb), .cells [.int .i64 0, .int .i64 0, .nils, .int .i64 0, .ptr 7 0], .cells [.bool false, .int .i64 0, .bool false, .int .i64 0]]
noncomputable def g_rnew : List SV → List SB → Cs
  | [.agg l, .c (.int .i64 tries)], [] => match Fold.decSt l with
    | some s => .out ⟨true, .s (.c (.ptr 0 0)), [], hpRn s (newR s tries)⟩
    | none => .no
  | _, _ => .no
@[reducible] noncomputable def chkN (k : Int) : Bool := Rep.chkL (Rep.capN k).toNat (Rep.capN k).toNat (Rep.fixB (Rep.capN k).toNat (Rep.newG k))
theorem t_rnew {R : Type} (s : Fold.St) (tries : Int) (K : TV → List (Option SB) → Option R) : runFnL Try.prog QN [] 10 Try.f21 (bodyOf Try.f21) [.agg (Fold.encSt s), i64 tries] [] K =
    bif Nat.beq (Rep.capN s.want0).toNat (Rep.capN s.want0).toNat && Nat.beq (Rep.capN s.want1).toNat (Rep.capN s.want1).toNat && chkN s.want0 && chkN s.want1 then K (.s (.c (.ptr 0 0))) ((hpRn s (newR s tries)).map some) else none := by kernel_rfl
theorem chkN_true (k : Int) : chkN k = true := (Rep.RelS.new k).chk
theorem ok_rnew0 : SumOk Try.prog 21 (genSumT g_rnew) := by
  refine sumOk_cs okQN mixed Try.func21 (c := bodyOf Try.f21) (by kernel_rfl) (by kernel_rfl) ?_
  intro args hp x h
  unfold g_rnew at h ⊢
  split at h
  · rename_i l tries
    cases hs : Fold.decSt l with
    | none => rw [hs] at h; cases h
    | some s =>
      obtain rfl := Fold.decSt_spec _ _ hs
      refine ⟨[], 10, LoopsOk.nil, (t_rnew ..).trans ?_⟩
      rw [chkN_true, chkN_true, Nat.beq_refl, Nat.beq_refl]
      rfl
  · cases h
theorem ok_rnew : SumOk Try.prog 21 (denilS (genSumT g_rnew)) := sumOk_denil ok_rnew0
/-- What the law of plays calls. -/
@[reducible] noncomputable def PY : Sums := (21, denilS (genSumT g_rnew)) :: (19, valSum Fold.g_first) :: (22, genSumN g_rop) :: (23, genSumN g_rstepS) :: (26, genSumN g_rtime) :: (27, roSumT g_rreply) :: (24, genSumT Rep.g_rslot) :: (25, genSumN Rep.g_rready) :: PL
theorem okPY : SumsOk Try.prog PY := (((((((okPL.cons Rep.ok_rready).cons Rep.ok_rslot).cons ok_rreply).cons ok_rtime).cons ok_rstepS).cons ok_rop).cons Fold.ok_first).cons ok_rnew
end Go.Proofs.Ytpebebhjmnmcbaa.Md

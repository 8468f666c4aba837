/- What a step of a model comes to, part 3; an act. No condition. -/
import Derived.Test.YtpebebhjmnmcbaaMd4
set_option maxRecDepth 100000
set_option linter.unusedSimpArgs false
set_option linter.unusedVariables false
namespace Go.Proofs.Ytpebebhjmnmcbaa.Md
open Go Go.Proofs.Ytpebebhjmnmcbaa.Sx
structure Ac where
  kind : Int
  slot : Int
  n : Int
  on : Bool
  okind : Int
  orev : Int
  onn : Int
  odelay : Int
  opass : Bool
  outV : Value
  outL : List Int
instance : Inhabited Ac := ⟨⟨0, 0, 0, false, 0, 0, 0, 0, false, .bool false, []⟩⟩
def encAc (s : Ac) : List CV := [.int .i64 s.kind, .int .i64 s.slot, .int .i64 s.n, .bool s.on, .int .i64 s.okind, .int .i64 s.orev, .int .i64 s.onn, .int .i64 s.odelay, .bool s.opass, .xs s.outV s.outL]
def decAc : List CV → Option Ac
  | [.int .i64 a0, .int .i64 a1, .int .i64 a2, .bool a3, .int .i64 a4, .int .i64 a5, .int .i64 a6, .int .i64 a7, .bool a8, .xs a9 b9] => some ⟨a0, a1, a2, a3, a4, a5, a6, a7, a8, a9, b9⟩
  | _ => none
def decAcD : List CV → Ac
  | [.int .i64 a0, .int .i64 a1, .int .i64 a2, .bool a3, .int .i64 a4, .int .i64 a5, .int .i64 a6, .int .i64 a7, .bool a8, .xs a9 b9] => ⟨a0, a1, a2, a3, a4, a5, a6, a7, a8, a9, b9⟩
  | _ => default
theorem decAc_spec (l : List CV) (s : Ac) (h : decAc l = some s) : l = encAc s := by
  unfold decAc at h; split at h <;> cases h; rfl
theorem encAc_ren (s : Ac) (π) : (encAc s).map (CV.ren π) = encAc s := rfl
theorem backAc (s : Ac) : decAcD (encAc s) = s := rfl
structure wfAc (s : Ac) : Prop where
  kind : (Lit.int .i64 s.kind).wf = true
  slot : (Lit.int .i64 s.slot).wf = true
  n : (Lit.int .i64 s.n).wf = true
  okind : (Lit.int .i64 s.okind).wf = true
  orev : (Lit.int .i64 s.orev).wf = true
  onn : (Lit.int .i64 s.onn).wf = true
  odelay : (Lit.int .i64 s.odelay).wf = true
  out : ∀ x ∈ s.outL, (Lit.int .i64 x).wf = true
theorem opAc {w : World} (cvs : List CV) (vs : List Value) (h : LeafXRs w [.int .i64, .int .i64, .int .i64, .bool, .int .i64, .int .i64, .int .i64, .int .i64, .bool, .ints] cvs vs) : ∃ x, cvs = encAc x ∧ wfAc x := by
  obtain ⟨_, _, _, _, rfl, rfl, ⟨a0, rfl, rfl, w0⟩, h0⟩ := h.cons_inv
  obtain ⟨_, _, _, _, rfl, rfl, ⟨a1, rfl, rfl, w1⟩, h1⟩ := h0.cons_inv
  obtain ⟨_, _, _, _, rfl, rfl, ⟨a2, rfl, rfl, w2⟩, h2⟩ := h1.cons_inv
  obtain ⟨_, _, _, _, rfl, rfl, ⟨a3, rfl, rfl⟩, h3⟩ := h2.cons_inv
  obtain ⟨_, _, _, _, rfl, rfl, ⟨a4, rfl, rfl, w4⟩, h4⟩ := h3.cons_inv
  obtain ⟨_, _, _, _, rfl, rfl, ⟨a5, rfl, rfl, w5⟩, h5⟩ := h4.cons_inv
  obtain ⟨_, _, _, _, rfl, rfl, ⟨a6, rfl, rfl, w6⟩, h6⟩ := h5.cons_inv
  obtain ⟨_, _, _, _, rfl, rfl, ⟨a7, rfl, rfl, w7⟩, h7⟩ := h6.cons_inv
  obtain ⟨_, _, _, _, rfl, rfl, ⟨a8, rfl, rfl⟩, h8⟩ := h7.cons_inv
  obtain ⟨_, _, _, _, rfl, rfl, ⟨a9, b9, rfl, rfl, _, _, w9⟩, h9⟩ := h8.cons_inv
  obtain ⟨rfl, rfl⟩ := h9.nil_inv
  exact ⟨⟨a0, a1, a2, a3, a4, a5, a6, a7, a8, _, b9⟩, rfl, ⟨w0, w1, w2, w4, w5, w6, w7, w9⟩⟩
def decS : List SB → Option (Md × Nat × (Nat → List CV) × Nat × (Nat → List CV))
  | [.cells [.int .i64 s0, .int .i64 s1, .int .i64 s2, .int .i64 s3, .int .i64 s4, .int .i64 s5, .bool s6, .bool s7, .int .i64 s8, .int .i64 s9, .int .i64 s10, .int .i64 s11, .ptr 1 0, .ptr 2 0, .int .i64 t, .int .i64 k], .cells [.ptr 3 0, .ptr 4 0], .cells [.int .i64 x, .int .i64 g, .slc 7 i n, .int .i64 w, .ptr 5 0], .cells la, .cells lb, .cells [.int .i64 l, .bool c, .int .i64 d], .vec 1 [] (.gen M ga), .vec 1 [] (.gen N ge)] =>
    (Rep.decSl la).bind fun a => (Rep.decSl lb).map fun b => (⟨⟨s0, s1, s2, s3, s4, s5, s6, s7, s8, s9, s10, s11⟩, a, b, ⟨x, g, w, i, n, l, c, d⟩, t, k⟩, M, ga, N, ge)
  | _ => none
theorem decS_spec {hp : List SB} {m : Md} {M N : Nat} {ga ge : Nat → List CV} (h : decS hp = some (m, M, ga, N, ge)) : hp = hpS m M ga N ge := by
  unfold decS at h
  split at h
  · obtain ⟨a', ha, h⟩ := Option.bind_eq_some_iff.1 h
    obtain ⟨b', hb, h⟩ := Option.map_eq_some_iff.1 h
    cases h
    obtain rfl := Rep.decSl_spec _ _ ha
    obtain rfl := Rep.decSl_spec _ _ hb
    rfl
  · cases h
def decV1 (hp : List SB) : Option (Md × Nat × (Nat → List CV)) := match decV hp with
  | some (m, [.vec 1 [] (.gen N ge)]) => some (m, N, ge)
  | _ => none
theorem decV1_spec {hp : List SB} {m : Md} {N : Nat} {ge : Nat → List CV} (h : decV1 hp = some (m, N, ge)) : hp = hpV m ++ [.vec 1 [] (.gen N ge)] := by
  unfold decV1 at h
  split at h
  · rename_i hd
    cases h
    exact decV_spec hd
  · cases h
@[reducible] noncomputable def csSt (m : Md) (n : Nat) (ge : Nat → List CV) : Cs := .br (Rt.chkB (pre m n).r n ge && doneG 4 (pre m n)) (.out ⟨true, .s (i64 (mstepV m n fun j => Rt.decID (ge j)).1), (hpV (mstepV m n fun j => Rt.decID (ge j)).2).map some, [.vec 1 [] (.gen n ge)]⟩) .no
noncomputable def g_mstep : List SV → List SB → Cs
  | [.c (.ptr 0 0), .c (.slc 6 0 k)], hp => match decS hp with
    | some (m, M, ga, N, ge) => .br (decide (N = addI m.r.i0 m.r.n) && (decide (addI 0 k ≤ M) && decide (addI m.r.n k ≤ 4294967296))) (csSt m (addI m.r.n k) (cat1 m ge ga)) .no
    | none => .no
  | [.c (.ptr 0 0), .c .nils], hp => match decV1 hp with
    | some (m, N, ge) => .br (decide (N = addI m.r.i0 m.r.n) && decide (addI m.r.n 0 ≤ 4294967296)) (csSt m (addI m.r.n 0) (cat0 m ge)) .no
    | none => .no
  | _, _ => .no
theorem csSt_pick {m : Md} {n : Nat} {ge : Nat → List CV} {x : Out} (h : (csSt m n ge).pick = some x) : x.hp.length = 6 ∧ outSt m n ge (fun tv hp => some (tv, hp)) = (csSt m n ge).run (fun tv hp => some (tv, hp)) := by
  unfold csSt outSt at *
  cases hc : Rt.chkB (pre m n).r n ge && doneG 4 (pre m n) with
  | false => rw [hc] at h; cases h
  | true => rw [hc] at h; cases h; exact ⟨rfl, rfl⟩
theorem ok_mstep : SumOk Try.prog 18 (genSumN g_mstep) := by
  refine sumOk_genN okPS mixed Try.func18 (c := bodyOf Try.f18) (by kernel_rfl) (by kernel_rfl) ?_
  intro args hp x h
  unfold g_mstep at h ⊢
  split at h
  · rename_i k
    cases hd : decS hp with
    | none => rw [hd] at h; cases h
    | some p =>
      obtain ⟨m, M, ga, N, ge⟩ := p
      rw [hd] at h
      obtain rfl := decS_spec hd
      simp only at h ⊢
      cases hc : decide (N = addI m.r.i0 m.r.n) && (decide (addI 0 k ≤ M) && decide (addI m.r.n k ≤ 4294967296)) with
      | false => rw [hc] at h; cases h
      | true =>
        rw [hc] at h
        obtain ⟨h6, h7⟩ := csSt_pick (m := m) (n := addI m.r.n k) (ge := cat1 m ge ga) h
        refine ⟨LSt, 20, ?_⟩
        rw [h6]
        refine ⟨loopsSt, (t_mstep ..).trans ?_⟩
        rw [hc, cond_true]
        exact h7
  · cases hd : decV1 hp with
    | none => rw [hd] at h; cases h
    | some p =>
      obtain ⟨m, N, ge⟩ := p
      rw [hd] at h
      obtain rfl := decV1_spec hd
      simp only at h ⊢
      cases hc : decide (N = addI m.r.i0 m.r.n) && decide (addI m.r.n 0 ≤ 4294967296) with
      | false => rw [hc] at h; cases h
      | true =>
        rw [hc] at h
        obtain ⟨h6, h7⟩ := csSt_pick (m := m) (n := addI m.r.n 0) (ge := cat0 m ge) h
        refine ⟨LSt, 20, ?_⟩
        rw [h6]
        refine ⟨loopsSt, (t_mstep0 ..).trans ?_⟩
        rw [hc, cond_true]
        exact h7
  · cases h
@[reducible] noncomputable def PD : Sums := (16, genSum g_mop) :: (18, genSumN g_mstep) :: (29, genSum g_mready) :: (17, genSum g_mtick) :: S0
theorem okPD : SumsOk Try.prog PD := (((okS0.cons ok_mtick).cons ok_mready).cons ok_mstep).cons ok_mop
end Go.Proofs.Ytpebebhjmnmcbaa.Md

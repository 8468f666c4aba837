/- What a model is, and what its methods come to, part 1. No condition. -/
import Derived.Test.YtpebebhjmnmcbaaMdb
import Derived.Test.YtpebebhjmnmcbaaMay
import Derived.Test.YtpebebhjmnmcbaaFill
import Derived.Test.YtpebebhjmnmcbaaRt3
import Derived.Test.YtpebebhjmnmcbaaSxE
set_option maxRecDepth 100000
set_option linter.unusedSimpArgs false
set_option linter.unusedVariables false
namespace Go.Proofs.Ytpebebhjmnmcbaa.Md
open Go Go.Proofs.Ytpebebhjmnmcbaa.Sx
theorem mixed : Try.prog.follows .mixedOrders = true := by kernel_rfl
@[reducible] def i64 (n : Int) : SV := .c (.int .i64 n)
@[reducible] def bl (b : Bool) : SV := .c (.bool b)
@[reducible] def S0 : Sums := []
theorem okS0 : SumsOk Try.prog S0 := SumsOk.nil
/-- A model: its state, both slots' replicas, its router (with a fuse), its tries, its tick. -/
structure Md where
  st : Fold.St
  a : Rep.Sl
  b : Rep.Sl
  r : Rt.Rou
  tries : Int
  tick : Int
@[reducible] def cM (m : Md) : SB := .cells [.int .i64 m.st.phase, .int .i64 m.st.active, .int .i64 m.st.rev0, .int .i64 m.st.rev1, .int .i64 m.st.want0, .int .i64 m.st.want1, .bool m.st.passed0, .bool m.st.passed1, .int .i64 m.st.delay, .int .i64 m.st.gen, .int .i64 m.st.switch, .int .i64 m.st.flip, .ptr 1 0, .ptr 2 0, .int .i64 m.tries, .int .i64 m.tick]
@[reducible] def cF (m : Md) : SB := .cells [.int .i64 m.r.left, .bool m.r.blown, .int .i64 m.r.count]
/-- As it is found. -/
@[reducible] def hpM (m : Md) (N : Nat) (ge : Nat → List CV) : List SB := [cM m, .cells [.ptr 3 0, .ptr 4 0], .cells [.int .i64 m.r.slot, .int .i64 m.r.gen, .slc 5 m.r.i0 m.r.n, .int .i64 m.r.writes, .ptr 6 0], .cells (Rep.encSl m.a), .cells (Rep.encSl m.b), .vec 1 [] (.gen N ge), cF m]
/-- With its row behind all others. -/
@[reducible] def hpV (m : Md) : List SB := [cM m, .cells [.ptr 3 0, .ptr 4 0], .cells [.int .i64 m.r.slot, .int .i64 m.r.gen, .slc 6 m.r.i0 m.r.n, .int .i64 m.r.writes, .ptr 5 0], .cells (Rep.encSl m.a), .cells (Rep.encSl m.b), cF m]
def decM : List SB → Option (Md × Nat × (Nat → List CV))
  | [.cells [.int .i64 s0, .int .i64 s1, .int .i64 s2, .int .i64 s3, .int .i64 s4, .int .i64 s5, .bool s6, .bool s7, .int .i64 s8, .int .i64 s9, .int .i64 s10, .int .i64 s11, .ptr 1 0, .ptr 2 0, .int .i64 t, .int .i64 k], .cells [.ptr 3 0, .ptr 4 0], .cells [.int .i64 x, .int .i64 g, .slc 5 i n, .int .i64 w, .ptr 6 0], .cells la, .cells lb, .vec 1 [] (.gen N ge), .cells [.int .i64 l, .bool c, .int .i64 d]] =>
    (Rep.decSl la).bind fun a => (Rep.decSl lb).map fun b => (⟨⟨s0, s1, s2, s3, s4, s5, s6, s7, s8, s9, s10, s11⟩, a, b, ⟨x, g, w, i, n, l, c, d⟩, t, k⟩, N, ge)
  | _ => none
theorem decM_spec {hp : List SB} {m : Md} {N : Nat} {ge : Nat → List CV} (h : decM hp = some (m, N, ge)) : hp = hpM m N ge := by
  unfold decM at h
  split at h
  · obtain ⟨a', ha, h⟩ := Option.bind_eq_some_iff.1 h
    obtain ⟨b', hb, h⟩ := Option.map_eq_some_iff.1 h
    cases h
    obtain rfl := Rep.decSl_spec _ _ ha
    obtain rfl := Rep.decSl_spec _ _ hb
    rfl
  · cases h
def decV : List SB → Option (Md × List SB)
  | .cells [.int .i64 s0, .int .i64 s1, .int .i64 s2, .int .i64 s3, .int .i64 s4, .int .i64 s5, .bool s6, .bool s7, .int .i64 s8, .int .i64 s9, .int .i64 s10, .int .i64 s11, .ptr 1 0, .ptr 2 0, .int .i64 t, .int .i64 k] :: .cells [.ptr 3 0, .ptr 4 0] :: .cells [.int .i64 x, .int .i64 g, .slc 6 i n, .int .i64 w, .ptr 5 0] :: .cells la :: .cells lb :: .cells [.int .i64 l, .bool c, .int .i64 d] :: r =>
    (Rep.decSl la).bind fun a => (Rep.decSl lb).map fun b => (⟨⟨s0, s1, s2, s3, s4, s5, s6, s7, s8, s9, s10, s11⟩, a, b, ⟨x, g, w, i, n, l, c, d⟩, t, k⟩, r)
  | _ => none
theorem decV_spec {hp r : List SB} {m : Md} (h : decV hp = some (m, r)) : hp = hpV m ++ r := by
  unfold decV at h
  split at h
  · obtain ⟨a', ha, h⟩ := Option.bind_eq_some_iff.1 h
    obtain ⟨b', hb, h⟩ := Option.map_eq_some_iff.1 h
    cases h
    obtain rfl := Rep.decSl_spec _ _ ha
    obtain rfl := Rep.decSl_spec _ _ hb
    rfl
  · cases h
@[reducible] noncomputable def PA : Sums := (66, valSum Fold.g_step) :: (34, genSum Rep.g_fapply) :: S0
theorem okPA : SumsOk Try.prog PA := (okS0.cons Rep.ok_fapply).cons Fold.ok_step
end Go.Proofs.Ytpebebhjmnmcbaa.Md

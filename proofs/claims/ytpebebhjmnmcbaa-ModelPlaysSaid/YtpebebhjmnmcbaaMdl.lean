/- A model among a law's other memory. No condition. -/
import Derived.Test.YtpebebhjmnmcbaaMd9
set_option maxRecDepth 100000
set_option linter.unusedSimpArgs false
set_option linter.unusedVariables false
namespace Go.Proofs.Ytpebebhjmnmcbaa.Md
open Go Go.Proofs.Ytpebebhjmnmcbaa.Sx
/-- Behind one block. -/
@[reducible] def hpL (m : Md) (N : Nat) (ge : Nat → List CV) : List (Option SB) := [some (.cells [.int .i64 m.st.phase, .int .i64 m.st.active, .int .i64 m.st.rev0, .int .i64 m.st.rev1, .int .i64 m.st.want0, .int .i64 m.st.want1, .bool m.st.passed0, .bool m.st.passed1, .int .i64 m.st.delay, .int .i64 m.st.gen, .int .i64 m.st.switch, .int .i64 m.st.flip, .ptr 2 0, .ptr 5 0, .int .i64 m.tries, .int .i64 m.tick]), some (.cells [.ptr 3 0, .ptr 4 0]), some (.cells (Rep.encSl m.a)), some (.cells (Rep.encSl m.b)), some (.cells [.int .i64 m.r.slot, .int .i64 m.r.gen, .slc 6 m.r.i0 m.r.n, .int .i64 m.r.writes, .ptr 7 0]), some (.vec 1 [] (.gen N ge)), some (cF m)]
def decL : List (Option SB) → Option (Md × Nat × (Nat → List CV))
  | [some (.cells [.int .i64 s0, .int .i64 s1, .int .i64 s2, .int .i64 s3, .int .i64 s4, .int .i64 s5, .bool s6, .bool s7, .int .i64 s8, .int .i64 s9, .int .i64 s10, .int .i64 s11, .ptr 2 0, .ptr 5 0, .int .i64 t, .int .i64 k]), some (.cells [.ptr 3 0, .ptr 4 0]), some (.cells la), some (.cells lb), some (.cells [.int .i64 x, .int .i64 g, .slc 6 i n, .int .i64 w, .ptr 7 0]), some (.vec 1 [] (.gen N ge)), some (.cells [.int .i64 l, .bool c, .int .i64 d])] =>
    (Rep.decSl la).bind fun a => (Rep.decSl lb).map fun b => (⟨⟨s0, s1, s2, s3, s4, s5, s6, s7, s8, s9, s10, s11⟩, a, b, ⟨x, g, w, i, n, l, c, d⟩, t, k⟩, N, ge)
  | _ => none
theorem decL_spec {hp : List (Option SB)} {m : Md} {N : Nat} {ge : Nat → List CV} (h : decL hp = some (m, N, ge)) : hp = hpL m N ge := by
  unfold decL at h
  split at h
  · obtain ⟨a', ha, h⟩ := Option.bind_eq_some_iff.1 h
    obtain ⟨b', hb, h⟩ := Option.map_eq_some_iff.1 h
    cases h
    obtain rfl := Rep.decSl_spec _ _ ha
    obtain rfl := Rep.decSl_spec _ _ hb
    rfl
  · cases h
/-- What a reply's fields being alike comes to. -/
noncomputable def eqR (x y : Md) : Bool := true && (x.st.phase == y.st.phase && (x.st.active == y.st.active && (x.st.rev0 == y.st.rev0 && (x.st.rev1 == y.st.rev1 && (x.st.want0 == y.st.want0 && (x.st.want1 == y.st.want1 && (x.st.passed0 == y.st.passed0 && (x.st.passed1 == y.st.passed1 && (x.st.delay == y.st.delay && (x.st.gen == y.st.gen && (x.st.switch == y.st.switch && (x.st.flip == y.st.flip && (x.r.slot == y.r.slot && (x.r.gen == y.r.gen && (x.a.want == y.a.want && (x.b.want == y.b.want && (Rep.scount x.a == Rep.scount y.a && (Rep.scount x.b == Rep.scount y.b && (true && (x.tick == y.tick && true))))))))))))))))))))
theorem eqR_self (x : Md) : eqR x x = true := by
  unfold eqR
  simp
end Go.Proofs.Ytpebebhjmnmcbaa.Md

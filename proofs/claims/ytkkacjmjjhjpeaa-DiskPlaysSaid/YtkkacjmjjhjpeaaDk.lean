/- strings.Repeat at this program; what fill, the fuse come to. No condition beyond those that each theorem names. -/
import Derived.Test.YtkkacjmjjhjpeaaSxE
import Derived.Test.YtkkacjmjjhjpeaaProg
import Derived.Shelf.Strings.Repeat
import Derived.Lib.Agree
import Derived.KernelRfl
set_option maxRecDepth 100000
set_option linter.unusedSimpArgs false
set_option linter.unusedVariables false
namespace Go.Proofs.Ytkkacjmjjhjpeaa.Dk
open Go Go.Proofs.Ytkkacjmjjhjpeaa.Sx Go.Shelf Go.RowKit

def rep_ren : Go.Shelf.Ren := ⟨fun | 105 => 28 | 212 => 37 | 99 => 38 | 165 => 39 | 166 => 40 | 170 => 41 | 169 => 42 | 263 => 43 | 264 => 44 | 206 => 45 | 240 => 46 | 241 => 47 | 276 => 48 | 277 => 49 | n => n, fun | 9 => 9 | 3 => 3 | 4 => 4 | 20 => 20 | 0 => 0 | 46 => 71 | 109 => 72 | 5 => 5 | 72 => 77 | 76 => 80 | 51 => 83 | 146 => 84 | 53 => 23 | 148 => 86 | 70 => 75 | 37 => 67 | 75 => 79 | 127 => 88 | 164 => 89 | 80 => 82 | n => n, fun | n => n⟩
theorem rep_lays : Lays.n105 Try.prog rep_ren := {
  mixed := by kernel_rfl,
  f99 := Try.func38.trans (congrArg some (by kernel_rfl)),
  f105 := Try.func28.trans (congrArg some (by kernel_rfl)),
  f165 := Try.func39.trans (congrArg some (by kernel_rfl)),
  f166 := Try.func40.trans (congrArg some (by kernel_rfl)),
  f169 := Try.func42.trans (congrArg some (by kernel_rfl)),
  f170 := Try.func41.trans (congrArg some (by kernel_rfl)),
  f206 := Try.func45.trans (congrArg some (by kernel_rfl)),
  f212 := Try.func37.trans (congrArg some (by kernel_rfl)),
  f240 := Try.func46.trans (congrArg some (by kernel_rfl)),
  f241 := Try.func47.trans (congrArg some (by kernel_rfl)),
  f263 := Try.func43.trans (congrArg some (by kernel_rfl)),
  f264 := Try.func44.trans (congrArg some (by kernel_rfl)),
  f276 := Try.func48.trans (congrArg some (by kernel_rfl)),
  f277 := Try.func49.trans (congrArg some (by kernel_rfl)),
  t0 := Try.underlying0,
  a0 := Try.isAgg0,
  z0 := Try.sizeOf0,
  v0 := Try.zeroValue0,
  t3 := Try.underlying3,
  a3 := Try.isAgg3,
  z3 := Try.sizeOf3,
  v3 := Try.zeroValue3,
  t4 := Try.underlying4,
  a4 := Try.isAgg4,
  z4 := Try.sizeOf4,
  v4 := Try.zeroValue4,
  t5 := Try.underlying5,
  a5 := Try.isAgg5,
  z5 := Try.sizeOf5,
  v5 := Try.zeroValue5,
  t9 := Try.underlying9,
  a9 := Try.isAgg9,
  z9 := Try.sizeOf9,
  v9 := Try.zeroValue9,
  t20 := Try.underlying20,
  a20 := Try.isAgg20,
  z20 := Try.sizeOf20,
  v20 := Try.zeroValue20,
  t37 := Try.underlying67,
  a37 := Try.isAgg67,
  z37 := Try.sizeOf67,
  v37 := Try.zeroValue67,
  t46 := Try.underlying71,
  a46 := Try.isAgg71,
  z46 := Try.sizeOf71,
  v46 := Try.zeroValue71,
  t51 := Try.underlying83,
  a51 := Try.isAgg83,
  z51 := Try.sizeOf83,
  v51 := Try.zeroValue83,
  t53 := Try.underlying23,
  a53 := Try.isAgg23,
  z53 := Try.sizeOf23,
  v53 := Try.zeroValue23,
  t70 := Try.underlying75,
  a70 := Try.isAgg75,
  z70 := Try.sizeOf75,
  v70 := Try.zeroValue75,
  t72 := Try.underlying77,
  a72 := Try.isAgg77,
  z72 := Try.sizeOf77,
  v72 := Try.zeroValue77,
  t75 := Try.underlying79,
  a75 := Try.isAgg79,
  z75 := Try.sizeOf79,
  v75 := Try.zeroValue79,
  t76 := Try.underlying80,
  a76 := Try.isAgg80,
  z76 := Try.sizeOf80,
  v76 := Try.zeroValue80,
  t109 := Try.underlying72,
  a109 := Try.isAgg72,
  z109 := Try.sizeOf72,
  v109 := Try.zeroValue72,
  t127 := Try.underlying88,
  a127 := Try.isAgg88,
  z127 := Try.sizeOf88,
  v127 := Try.zeroValue88,
  t146 := Try.underlying84,
  a146 := Try.isAgg84,
  z146 := Try.sizeOf84,
  v146 := Try.zeroValue84,
  t148 := Try.underlying86,
  a148 := Try.isAgg86,
  z148 := Try.sizeOf86,
  v148 := Try.zeroValue86,
  t164 := Try.underlying89,
  a164 := Try.isAgg89,
  z164 := Try.sizeOf89,
  v164 := Try.zeroValue89 }
theorem rep_extra : Builder.Extra Try.prog rep_ren := {
  sizeBuilder := by kernel_rfl,
  liesBuilder := by kernel_rfl,
  t5 := rep_lays.t5,
  a5 := rep_lays.a5,
  z5 := rep_lays.z5,
  v5 := rep_lays.v5,
  infoByte := by kernel_rfl,
  cellsByte := by kernel_rfl,
  sizeByte := by kernel_rfl,
  neB5 := by decide }

/-- A string, so many times. -/
def repB (s : ByteArray) (c : Nat) : ByteArray := ⟨(Lib.repeatL s.data.toList c).toArray⟩
theorem mixed : Try.prog.follows .mixedOrders = true := by kernel_rfl
@[reducible] def i64 (n : Int) : SV := .c (.int .i64 n)
@[reducible] def bl (b : Bool) : SV := .c (.bool b)
@[reducible] def stv (b : ByteArray) : SV := .c (.str b)
def g_rep : List SV → Option (Bool × TV)
  | [.c (.str s), .c (.int .i64 n)] => some (decide (0 ≤ n) && (decide (n ≤ 4096) && decide (s.size ≤ 4096)), .s (stv (repB s n.toNat)))
  | _ => none
theorem ok_rep : SumOk Try.prog 28 (libSum g_rep) := by
  refine sumOk_lib Try.func28 (by kernel_rfl) (by kernel_rfl) ?_
  intro X ρ args vs tv w h hargs
  unfold g_rep at h
  split at h
  · rename_i s n
    simp only [Option.some.injEq, Prod.mk.injEq, Bool.and_eq_true, decide_eq_true_eq] at h
    obtain ⟨⟨h1, h2, h3⟩, rfl⟩ := h
    match vs, hargs with
    | [u, v], ⟨hu, hv, _⟩ =>
      have hu : u = .string s := hu
      have hv : v = .int .i64 n := hv
      subst hu hv
      have hm : s.size * n.toNat ≤ 4096 * 4096 := Nat.mul_le_mul h3 (by omega)
      have := Any.strings_Repeat rep_lays rep_extra s n.toNat w (by omega) (by omega)
      rw [show ((n.toNat : Nat) : Int) = n by omega] at this
      refine this.mono ?_
      rintro e w' ⟨rfl, hb⟩
      exact ⟨⟨_, rfl, rfl⟩, hb⟩
  · cases h
theorem push {α β : Type} (f : α → β) {b : Bool} {x y : α} {X Y : β} (hx : X = f x) (hy : Y = f y) : (bif b then X else Y) = f (bif b then x else y) := by cases b <;> assumption
theorem wi {x : Int} (h : -9223372036854775808 ≤ x ∧ x ≤ 9223372036854775807) : IntKind.i64.wrap x = x := by
  simp [IntKind.wrap, IntKind.bits, IntKind.signed]; omega
theorem bnd {a : Int} (h : (Lit.int .i64 a).wf = true) : -9223372036854775808 ≤ a ∧ a ≤ 9223372036854775807 := by
  simp [Lit.wf, IntKind.min, IntKind.max, IntKind.signed, IntKind.bits] at h
  omega
theorem lawK_if (b : Bool) : lawK (.s (.c (.bool b))) [] = bif b then some () else none := rfl
@[reducible] def S0 : Sums := []
theorem okS0 : SumsOk Try.prog S0 := SumsOk.nil
@[reducible] noncomputable def SR : Sums := (28, libSum g_rep) :: S0
theorem okSR : SumsOk Try.prog SR := okS0.cons ok_rep
structure F where
  left : Int
  blown : Bool
  count : Int
  deriving Inhabited
def encF (s : F) : List CV := [.int .i64 s.left, .bool s.blown, .int .i64 s.count]
def decF : List CV → Option F
  | [.int .i64 a0, .bool a1, .int .i64 a2] => some ⟨a0, a1, a2⟩
  | _ => none
def decFD : List CV → F
  | [.int .i64 a0, .bool a1, .int .i64 a2] => ⟨a0, a1, a2⟩
  | _ => default
theorem decF_spec (l : List CV) (s : F) (h : decF l = some s) : l = encF s := by
  unfold decF at h; split at h <;> cases h; rfl
theorem encF_ren (s : F) (π) : (encF s).map (CV.ren π) = encF s := rfl
theorem backF (s : F) : decFD (encF s) = s := rfl
structure wfF (s : F) : Prop where
  left : (Lit.int .i64 s.left).wf = true
  count : (Lit.int .i64 s.count).wf = true
theorem opF (cvs : List CV) (vs : List Value) (h : LeafRs [.int .i64, .bool, .int .i64] cvs vs) : ∃ x, cvs = encF x ∧ wfF x := by
  obtain ⟨_, _, _, _, rfl, rfl, ⟨a0, rfl, rfl, w0⟩, h0⟩ := h.cons_inv
  obtain ⟨_, _, _, _, rfl, rfl, ⟨a1, rfl, rfl⟩, h1⟩ := h0.cons_inv
  obtain ⟨_, _, _, _, rfl, rfl, ⟨a2, rfl, rfl, w2⟩, h2⟩ := h1.cons_inv
  obtain ⟨rfl, rfl⟩ := h2.nil_inv
  exact ⟨⟨a0, a1, a2⟩, rfl, ⟨w0, w2⟩⟩
noncomputable def armV (s : F) (n : Int) : F := ⟨foldMax n [0], false, s.count⟩
@[reducible] def k_arm {R : Type} (K : TV → List (Option SB) → Option R) (v : F) : Option R := K (.tup []) [some (.cells (encF (v)))]
theorem t_arm {R : Type} (s : F) (n : Int) (K : TV → List (Option SB) → Option R) : runFn Try.prog S0 10 Try.f17 (bodyOf Try.f17) [.c (.ptr 0 0), .c (.int .i64 n)] [.cells (encF s)] K = k_arm K (armV s n) := by
  refine Eq.trans (b := K (TV.tup []) [some (SB.cells [CV.int IntKind.i64 (foldMax n [0]), CV.bool false, CV.int IntKind.i64 s.count])]) (by kernel_rfl) ?_
  unfold armV
  repeat' (first | exact rfl | refine push (k_arm K) ?_ ?_)
noncomputable def g_arm : F → List SV → Option (TV × Option F)
  | s, [.c (.int .i64 n)] => some (.tup [], some ((armV s n)))
  | _, _ => none
theorem ok_arm : SumOk Try.prog 17 (ptrVal encF decF g_arm) := by
  refine sumOk_ptrV okS0 mixed Try.func17 (c := bodyOf Try.f17) (by kernel_rfl) (by kernel_rfl) decF_spec encF_ren ?_
  intro s rest tv s' h
  unfold g_arm at h
  split at h
  · cases h
    exact ⟨fun _ => rfl, fun _ => rfl, 10, t_arm _ _ _⟩
  · cases h
noncomputable def spendV (s : F) : Bool × F := (bif s.blown then (false, ⟨s.left, true, s.count⟩) else (bif s.left == 0 then (false, ⟨s.left, true, s.count⟩) else (bif decide (s.left > 0) then (true, ⟨IntKind.i64.wrap (s.left - 1), s.blown, IntKind.i64.wrap (s.count + 1)⟩) else (true, ⟨s.left, s.blown, IntKind.i64.wrap (s.count + 1)⟩))))
@[reducible] def k_spend {R : Type} (K : TV → List (Option SB) → Option R) (v : Bool × F) : Option R := K (.s (.c (.bool (v).1))) [some (.cells (encF (v).2))]
theorem t_spend {R : Type} (s : F) (K : TV → List (Option SB) → Option R) : runFn Try.prog S0 10 Try.f30 (bodyOf Try.f30) [.c (.ptr 0 0)] [.cells (encF s)] K = k_spend K (spendV s) := by
  refine Eq.trans (b := (bif s.blown then K (TV.s (SV.c (CV.bool false))) [some (SB.cells [CV.int IntKind.i64 s.left, CV.bool true, CV.int IntKind.i64 s.count])] else (bif s.left == 0 then K (TV.s (SV.c (CV.bool false))) [some (SB.cells [CV.int IntKind.i64 s.left, CV.bool true, CV.int IntKind.i64 s.count])] else (bif decide (s.left > 0) then K (TV.s (SV.c (CV.bool true))) [some (SB.cells [CV.int IntKind.i64 (IntKind.i64.wrap (s.left - 1)), CV.bool s.blown, CV.int IntKind.i64 (IntKind.i64.wrap (s.count + 1))])] else K (TV.s (SV.c (CV.bool true))) [some (SB.cells [CV.int IntKind.i64 s.left, CV.bool s.blown, CV.int IntKind.i64 (IntKind.i64.wrap (s.count + 1))])])))) (by kernel_rfl) ?_
  unfold spendV
  repeat' (first | exact rfl | refine push (k_spend K) ?_ ?_)
noncomputable def g_spend : F → List SV → Option (TV × Option F)
  | s, [] => some (.s (.c (.bool (spendV s).1)), some ((spendV s).2))
  | _, _ => none
theorem ok_spend : SumOk Try.prog 30 (ptrVal encF decF g_spend) := by
  refine sumOk_ptrV okS0 mixed Try.func30 (c := bodyOf Try.f30) (by kernel_rfl) (by kernel_rfl) decF_spec encF_ren ?_
  intro s rest tv s' h
  unfold g_spend at h
  split at h
  · cases h
    exact ⟨fun _ => rfl, fun _ => rfl, 10, t_spend _ _⟩
  · cases h
noncomputable def resetV (s : F) : F := ⟨-1, false, s.count⟩
@[reducible] def k_reset {R : Type} (K : TV → List (Option SB) → Option R) (v : F) : Option R := K (.tup []) [some (.cells (encF (v)))]
theorem t_reset {R : Type} (s : F) (K : TV → List (Option SB) → Option R) : runFn Try.prog S0 10 Try.f32 (bodyOf Try.f32) [.c (.ptr 0 0)] [.cells (encF s)] K = k_reset K (resetV s) := by
  refine Eq.trans (b := K (TV.tup []) [some (SB.cells [CV.int IntKind.i64 (-1), CV.bool false, CV.int IntKind.i64 s.count])]) (by kernel_rfl) ?_
  unfold resetV
  repeat' (first | exact rfl | refine push (k_reset K) ?_ ?_)
noncomputable def g_reset : F → List SV → Option (TV × Option F)
  | s, [] => some (.tup [], some ((resetV s)))
  | _, _ => none
theorem ok_reset : SumOk Try.prog 32 (ptrVal encF decF g_reset) := by
  refine sumOk_ptrV okS0 mixed Try.func32 (c := bodyOf Try.f32) (by kernel_rfl) (by kernel_rfl) decF_spec encF_ren ?_
  intro s rest tv s' h
  unfold g_reset at h
  split at h
  · cases h
    exact ⟨fun _ => rfl, fun _ => rfl, 10, t_reset _ _⟩
  · cases h
noncomputable def blownV (s : F) : Bool × F := (s.blown, s)
@[reducible] def k_blown {R : Type} (K : TV → List (Option SB) → Option R) (v : Bool × F) : Option R := K (.s (.c (.bool (v).1))) [some (.cells (encF (v).2))]
theorem t_blown {R : Type} (s : F) (K : TV → List (Option SB) → Option R) : runFn Try.prog S0 10 Try.f18 (bodyOf Try.f18) [.c (.ptr 0 0)] [.cells (encF s)] K = k_blown K (blownV s) := by
  refine Eq.trans (b := K (TV.s (SV.c (CV.bool s.blown))) [some (SB.cells [CV.int IntKind.i64 s.left, CV.bool s.blown, CV.int IntKind.i64 s.count])]) (by kernel_rfl) ?_
  unfold blownV
  repeat' (first | exact rfl | refine push (k_blown K) ?_ ?_)
noncomputable def g_blown : F → List SV → Option (TV × Option F)
  | s, [] => some (.s (.c (.bool (blownV s).1)), some ((blownV s).2))
  | _, _ => none
theorem ok_blown : SumOk Try.prog 18 (ptrVal encF decF g_blown) := by
  refine sumOk_ptrV okS0 mixed Try.func18 (c := bodyOf Try.f18) (by kernel_rfl) (by kernel_rfl) decF_spec encF_ren ?_
  intro s rest tv s' h
  unfold g_blown at h
  split at h
  · cases h
    exact ⟨fun _ => rfl, fun _ => rfl, 10, t_blown _ _⟩
  · cases h
noncomputable def countV (s : F) : Int × F := (s.count, s)
@[reducible] def k_count {R : Type} (K : TV → List (Option SB) → Option R) (v : Int × F) : Option R := K (.s (.c (.int .i64 (v).1))) [some (.cells (encF (v).2))]
theorem t_count {R : Type} (s : F) (K : TV → List (Option SB) → Option R) : runFn Try.prog S0 10 Try.f26 (bodyOf Try.f26) [.c (.ptr 0 0)] [.cells (encF s)] K = k_count K (countV s) := by
  refine Eq.trans (b := K (TV.s (SV.c (CV.int IntKind.i64 s.count))) [some (SB.cells [CV.int IntKind.i64 s.left, CV.bool s.blown, CV.int IntKind.i64 s.count])]) (by kernel_rfl) ?_
  unfold countV
  repeat' (first | exact rfl | refine push (k_count K) ?_ ?_)
noncomputable def g_count : F → List SV → Option (TV × Option F)
  | s, [] => some (.s (.c (.int .i64 (countV s).1)), some ((countV s).2))
  | _, _ => none
theorem ok_count : SumOk Try.prog 26 (ptrVal encF decF g_count) := by
  refine sumOk_ptrV okS0 mixed Try.func26 (c := bodyOf Try.f26) (by kernel_rfl) (by kernel_rfl) decF_spec encF_ren ?_
  intro s rest tv s' h
  unfold g_count at h
  split at h
  · cases h
    exact ⟨fun _ => rfl, fun _ => rfl, 10, t_count _ _⟩
  · cases h
noncomputable def g_fnew : List SV → List SB → Option Out
  | [], [] => some ⟨true, .s (.c (.ptr 0 0)), [], [.cells (encF ⟨-1, false, 0⟩)]⟩
  | _, _ => none
theorem t_fnew : runFn Try.prog S0 10 Try.f8 (bodyOf Try.f8) [] [] (fun tv hp => some (tv, hp)) = some (.s (.c (.ptr 0 0)), [some (.cells (encF ⟨-1, false, 0⟩))]) := by kernel_rfl
theorem ok_fnew : SumOk Try.prog 8 (genSum g_fnew) := by
  refine sumOk_gen okS0 mixed Try.func8 (c := bodyOf Try.f8) (by kernel_rfl) (by kernel_rfl) ?_
  intro args hp x h _ _
  unfold g_fnew at h
  split at h
  · cases h; exact ⟨10, t_fnew⟩
  · cases h
end Go.Proofs.Ytkkacjmjjhjpeaa.Dk

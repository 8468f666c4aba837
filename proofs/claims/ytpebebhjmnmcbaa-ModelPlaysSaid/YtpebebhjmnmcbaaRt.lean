/- What the methods of a fuse come to; what a router is. No condition. -/
import Derived.Test.YtpebebhjmnmcbaaSxD
import Derived.Test.YtpebebhjmnmcbaaProg
import Derived.KernelRfl
set_option maxRecDepth 100000
set_option linter.unusedSimpArgs false
set_option linter.unusedVariables false
namespace Go.Proofs.Ytpebebhjmnmcbaa.Rt
open Go Go.Proofs.Ytpebebhjmnmcbaa.Sx

theorem mixed : Try.prog.follows .mixedOrders = true := by kernel_rfl
@[reducible] def i64 (n : Int) : SV := .c (.int .i64 n)
@[reducible] def bl (b : Bool) : SV := .c (.bool b)
theorem push {α β : Type} (f : α → β) {b : Bool} {x y : α} {X Y : β} (hx : X = f x) (hy : Y = f y) : (bif b then X else Y) = f (bif b then x else y) := by cases b <;> assumption
theorem wi {x : Int} (h : -9223372036854775808 ≤ x ∧ x ≤ 9223372036854775807) : IntKind.i64.wrap x = x := by
  simp [IntKind.wrap, IntKind.bits, IntKind.signed]; omega
theorem bnd {a : Int} (h : (Lit.int .i64 a).wf = true) : -9223372036854775808 ≤ a ∧ a ≤ 9223372036854775807 := by
  simp [Lit.wf, IntKind.min, IntKind.max, IntKind.signed, IntKind.bits] at h
  omega
theorem lawK_if (b : Bool) : lawK (.s (.c (.bool b))) [] = bif b then some () else none := rfl
@[reducible] def S0 : Sums := []
theorem okS0 : SumsOk Try.prog S0 := SumsOk.nil
structure F where
  left : Int
  blown : Bool
  count : Int
  deriving Inhabited
def encF (s : F) : List CV := [.int .i64 s.left, .bool s.blown, .int .i64 s.count]
def decF : List CV → Option F
  | [.int .i64 a0, .bool a1, .int .i64 a2] => some ⟨a0, a1, a2⟩
  | _ => none
def decFD : List CV → F
  | [.int .i64 a0, .bool a1, .int .i64 a2] => ⟨a0, a1, a2⟩
  | _ => default
theorem decF_spec (l : List CV) (s : F) (h : decF l = some s) : l = encF s := by
  unfold decF at h; split at h <;> cases h; rfl
theorem encF_ren (s : F) (π) : (encF s).map (CV.ren π) = encF s := rfl
theorem backF (s : F) : decFD (encF s) = s := rfl
structure wfF (s : F) : Prop where
  left : (Lit.int .i64 s.left).wf = true
  count : (Lit.int .i64 s.count).wf = true
theorem opF (cvs : List CV) (vs : List Value) (h : LeafRs [.int .i64, .bool, .int .i64] cvs vs) : ∃ x, cvs = encF x ∧ wfF x := by
  obtain ⟨_, _, _, _, rfl, rfl, ⟨a0, rfl, rfl, w0⟩, h0⟩ := h.cons_inv
  obtain ⟨_, _, _, _, rfl, rfl, ⟨a1, rfl, rfl⟩, h1⟩ := h0.cons_inv
  obtain ⟨_, _, _, _, rfl, rfl, ⟨a2, rfl, rfl, w2⟩, h2⟩ := h1.cons_inv
  obtain ⟨rfl, rfl⟩ := h2.nil_inv
  exact ⟨⟨a0, a1, a2⟩, rfl, ⟨w0, w2⟩⟩
noncomputable def spendV (s : F) : Bool × F := (bif s.blown then (false, ⟨s.left, true, s.count⟩) else (bif s.left == 0 then (false, ⟨s.left, true, s.count⟩) else (bif decide (s.left > 0) then (true, ⟨IntKind.i64.wrap (s.left - 1), s.blown, IntKind.i64.wrap (s.count + 1)⟩) else (true, ⟨s.left, s.blown, IntKind.i64.wrap (s.count + 1)⟩))))
@[reducible] def k_spend {R : Type} (K : TV → List (Option SB) → Option R) (v : Bool × F) : Option R := K (.s (.c (.bool (v).1))) [some (.cells (encF (v).2))]
theorem t_spend {R : Type} (s : F) (K : TV → List (Option SB) → Option R) : runFn Try.prog S0 10 Try.f99 (bodyOf Try.f99) [.c (.ptr 0 0)] [.cells (encF s)] K = k_spend K (spendV s) := by
  refine Eq.trans (b := (bif s.blown then K (TV.s (SV.c (CV.bool false))) [some (SB.cells [CV.int IntKind.i64 s.left, CV.bool true, CV.int IntKind.i64 s.count])] else (bif s.left == 0 then K (TV.s (SV.c (CV.bool false))) [some (SB.cells [CV.int IntKind.i64 s.left, CV.bool true, CV.int IntKind.i64 s.count])] else (bif decide (s.left > 0) then K (TV.s (SV.c (CV.bool true))) [some (SB.cells [CV.int IntKind.i64 (IntKind.i64.wrap (s.left - 1)), CV.bool s.blown, CV.int IntKind.i64 (IntKind.i64.wrap (s.count + 1))])] else K (TV.s (SV.c (CV.bool true))) [some (SB.cells [CV.int IntKind.i64 s.left, CV.bool s.blown, CV.int IntKind.i64 (IntKind.i64.wrap (s.count + 1))])])))) (by kernel_rfl) ?_
  unfold spendV
  repeat' (first | exact rfl | refine push (k_spend K) ?_ ?_)
noncomputable def g_spend : F → List SV → Option (TV × Option F)
  | s, [] => some (.s (.c (.bool (spendV s).1)), some ((spendV s).2))
  | _, _ => none
theorem ok_spend : SumOk Try.prog 99 (ptrVal encF decF g_spend) := by
  refine sumOk_ptrV okS0 mixed Try.func99 (c := bodyOf Try.f99) (by kernel_rfl) (by kernel_rfl) decF_spec encF_ren ?_
  intro s rest tv s' h
  unfold g_spend at h
  split at h
  · cases h
    exact ⟨fun _ => rfl, fun _ => rfl, 10, t_spend _ _⟩
  · cases h
noncomputable def g_fnew : List SV → List SB → Option Out
  | [], [] => some ⟨true, .s (.c (.ptr 0 0)), [], [.cells (encF ⟨-1, false, 0⟩)]⟩
  | _, _ => none
theorem t_fnew : runFn Try.prog S0 10 Try.f33 (bodyOf Try.f33) [] [] (fun tv hp => some (tv, hp)) = some (.s (.c (.ptr 0 0)), [some (.cells (encF ⟨-1, false, 0⟩))]) := by kernel_rfl
theorem ok_fnew : SumOk Try.prog 33 (genSum g_fnew) := by
  refine sumOk_gen okS0 mixed Try.func33 (c := bodyOf Try.f33) (by kernel_rfl) (by kernel_rfl) ?_
  intro args hp x h _ _
  unfold g_fnew at h
  split at h
  · cases h; exact ⟨10, t_fnew⟩
  · cases h
/-! ### A router -/
structure Rou where
  slot : Int
  gen : Int
  writes : Int
  i0 : Nat
  n : Nat
  left : Int
  blown : Bool
  count : Int
  deriving Inhabited
structure Cell where
  slot : Int
  gen : Int
  deriving Inhabited
def encCell (s : Cell) : List CV := [.int .i64 s.slot, .int .i64 s.gen]
def decCell : List CV → Option Cell
  | [.int .i64 a0, .int .i64 a1] => some ⟨a0, a1⟩
  | _ => none
def decCellD : List CV → Cell
  | [.int .i64 a0, .int .i64 a1] => ⟨a0, a1⟩
  | _ => default
theorem decCell_spec (l : List CV) (s : Cell) (h : decCell l = some s) : l = encCell s := by
  unfold decCell at h; split at h <;> cases h; rfl
theorem encCell_ren (s : Cell) (π) : (encCell s).map (CV.ren π) = encCell s := rfl
theorem backCell (s : Cell) : decCellD (encCell s) = s := rfl
structure wfCell (s : Cell) : Prop where
  slot : (Lit.int .i64 s.slot).wf = true
  gen : (Lit.int .i64 s.gen).wf = true
theorem opCell (cvs : List CV) (vs : List Value) (h : LeafRs [.int .i64, .int .i64] cvs vs) : ∃ x, cvs = encCell x ∧ wfCell x := by
  obtain ⟨_, _, _, _, rfl, rfl, ⟨a0, rfl, rfl, w0⟩, h0⟩ := h.cons_inv
  obtain ⟨_, _, _, _, rfl, rfl, ⟨a1, rfl, rfl, w1⟩, h1⟩ := h0.cons_inv
  obtain ⟨rfl, rfl⟩ := h1.nil_inv
  exact ⟨⟨a0, a1⟩, rfl, ⟨w0, w1⟩⟩
@[reducible] def encI (x : Int) : List CV := [.int .i64 x]
def decID : List CV → Int
  | [.int .i64 x] => x
  | _ => 0
theorem backI (x : Int) : decID (encI x) = x := rfl
@[reducible] def hpB (r : Rou) (N : Nat) (ge : Nat → List CV) : List SB := [.cells [.int .i64 r.slot, .int .i64 r.gen, .slc 1 r.i0 r.n, .int .i64 r.writes, .ptr 2 0], .vec 1 [] (.gen N ge), .cells [.int .i64 r.left, .bool r.blown, .int .i64 r.count]]
def decB : List SB → Option (Rou × Nat × (Nat → List CV))
  | [.cells [.int .i64 a, .int .i64 b, .slc 1 i n, .int .i64 w, .ptr 2 0], .vec 1 [] (.gen N ge), .cells [.int .i64 l, .bool c, .int .i64 d]] => some (⟨a, b, w, i, n, l, c, d⟩, N, ge)
  | _ => none
theorem decB_spec {hp : List SB} {r : Rou} {N : Nat} {ge : Nat → List CV} (h : decB hp = some (r, N, ge)) : hp = hpB r N ge := by
  unfold decB at h; split at h <;> cases h; rfl
noncomputable def chkB (r : Rou) (N : Nat) (ge : Nat → List CV) : Bool := chkRo encI decID ge && decide (r.i0 + r.n ≤ N)
theorem chkB_spec {r : Rou} {N : Nat} {ge : Nat → List CV} (h : chkB r N ge = true) : (fun j => encI (decID (ge j))) = ge ∧ r.i0 + r.n ≤ N := by
  simp only [chkB, Bool.and_eq_true, decide_eq_true_eq] at h
  exact ⟨(chkRo_spec h.1).symm, h.2⟩
theorem chkB_true {r : Rou} {N : Nat} {o : Nat → Int} (h : r.i0 + r.n ≤ N) : chkB r N (fun j => encI (o j)) = true := by
  unfold chkB
  rw [chkRo_true backI, decide_eq_true h]
  rfl
@[reducible] def fu (r : Rou) : F := ⟨r.left, r.blown, r.count⟩
@[reducible] def putF (r : Rou) (f : F) : Rou := ⟨r.slot, r.gen, r.writes, r.i0, r.n, f.left, f.blown, f.count⟩
def cellV (r : Rou) (_ : Nat → Int) : Cell × Rou := (⟨r.slot, r.gen⟩, r)
def writesV (r : Rou) (_ : Nat → Int) : Int × Rou := (r.writes, r)
def nextV (r : Rou) (o : Nat → Int) : Int × Rou := bif (r.n : Int) == 0 then (0, r) else (o (addI r.i0 0), ⟨r.slot, r.gen, r.writes, addI r.i0 1, r.n - 1, r.left, r.blown, r.count⟩)
def setV (r : Rou) (_ : Nat → Int) (c : Cell) : Int × Rou := bif decide (c.gen > r.gen) then (0, ⟨c.slot, c.gen, IntKind.i64.wrap (r.writes + 1), r.i0, r.n, r.left, r.blown, r.count⟩) else bif c.slot == r.slot && c.gen == r.gen then (0, r) else (11, r)
@[reducible] def k_next {R : Type} (K : TV → List (Option SB) → Option R) (N : Nat) (o : Nat → Int) (v : Int × Rou) : Option R := K (.s (.c (.int .i64 (v).1))) ((hpB ((v).2) N (fun j => encI (o j))).map some)
theorem t_next {R : Type} (r : Rou) (N : Nat) (o : Nat → Int)  (hN : r.i0 + r.n ≤ N) (K : TV → List (Option SB) → Option R) : runFn Try.prog S0 10 Try.f100 (bodyOf Try.f100) [.c (.ptr 0 0)] (hpB r N (fun j => encI (o j))) K = k_next K N o (nextV r o ) := by
  refine Eq.trans (b := (bif (↑r.n : Int) == 0 then k_next K N o (0, r) else (bif true && decide (0 < (↑r.n : Int)) then (bif decide (addI r.i0 0 < (Content.gen N fun j => encI (o j)).size) then (bif true && decide (1 ≤ (↑r.n : Int)) && decide ((↑r.n : Int) ≤ (↑r.n : Int)) then k_next K N o (o (addI r.i0 0), ⟨r.slot, r.gen, r.writes, addI r.i0 1, (↑r.n : Int).toNat - 1, r.left, r.blown, r.count⟩) else none) else none) else none))) (by kernel_rfl) ?_
  unfold nextV
  by_cases h : r.n = 0
  · have e1 : ((r.n : Int) == 0) = true := by simp [h]
    simp only [e1, cond_true]
  · have e5 : decide ((r.n : Int) ≤ (r.n : Int)) = true := by simp
    have e1 : ((r.n : Int) == 0) = false := by simp [h]
    have e2 : decide ((0 : Int) < (r.n : Int)) = true := by rw [decide_eq_true_eq]; omega
    have e3 : decide (addI r.i0 0 < N) = true := by rw [addI_eq, decide_eq_true_eq]; omega
    have e4 : decide ((1 : Int) ≤ (r.n : Int)) = true := by rw [decide_eq_true_eq]; omega
    have e6 : decide (addI r.i0 0 < (Content.gen N fun j => encI (o j)).size) = true := e3
    simp only [e1, e2, e6, e4, e5, cond_true, cond_false, Bool.and_self, Bool.true_and, Bool.and_true, Int.toNat_natCast]
noncomputable def g_next : List SV → List SB → Option Out
  | [.c (.ptr 0 0)], hp => (decB hp).bind fun x => some ⟨chkB x.1 x.2.1 x.2.2, .s (.c (.int .i64 (nextV x.1 (fun j => decID (x.2.2 j)) ).1)), (hpB ((nextV x.1 (fun j => decID (x.2.2 j)) ).2) x.2.1 x.2.2).map some, []⟩
  | _, _ => none
theorem ok_next : SumOk Try.prog 100 (genSum g_next) := by
  refine sumOk_gen okS0 mixed Try.func100 (c := bodyOf Try.f100) (by kernel_rfl) (by kernel_rfl) ?_
  intro args hp x h hp1 _
  unfold g_next at h
  split at h
  · skip
    have hq := Option.bind_eq_some_iff.1 h
    clear h
    obtain ⟨⟨r, N, ge⟩, h_r, h⟩ := hq
    obtain rfl := decB_spec h_r
    cases h
    obtain ⟨e, hN⟩ := chkB_spec hp1
    have t := t_next r N (fun j => decID (ge j))  hN (fun tv hp => some (tv, hp))
    unfold k_next at t
    simp only [e] at t
    refine ⟨10, ?_⟩
    simp only [List.map_nil, List.append_nil]
    exact t
  · cases h
@[reducible] def k_set {R : Type} (K : TV → List (Option SB) → Option R) (N : Nat) (o : Nat → Int) (v : Int × Rou) : Option R := K (.s (.c (.int .i64 (v).1))) ((hpB ((v).2) N (fun j => encI (o j))).map some)
theorem t_set {R : Type} (r : Rou) (N : Nat) (o : Nat → Int) (c : Cell) (hN : r.i0 + r.n ≤ N) (K : TV → List (Option SB) → Option R) : runFn Try.prog S0 10 Try.f101 (bodyOf Try.f101) [.c (.ptr 0 0), .agg (encCell c)] (hpB r N (fun j => encI (o j))) K = k_set K N o (setV r o c) := by
  refine Eq.trans (b := (bif decide (c.gen > r.gen) then k_set K N o (0, ⟨c.slot, c.gen, IntKind.i64.wrap (r.writes + 1), r.i0, r.n, r.left, r.blown, r.count⟩) else (bif c.slot == r.slot && (c.gen == r.gen && true) then k_set K N o (0, r) else k_set K N o (11, r)))) (by kernel_rfl) ?_
  unfold setV
  simp
  grind
noncomputable def g_set : List SV → List SB → Option Out
  | [.c (.ptr 0 0), .agg l_c], hp => (decCell l_c).bind fun c => (decB hp).bind fun x => some ⟨chkB x.1 x.2.1 x.2.2, .s (.c (.int .i64 (setV x.1 (fun j => decID (x.2.2 j)) c).1)), (hpB ((setV x.1 (fun j => decID (x.2.2 j)) c).2) x.2.1 x.2.2).map some, []⟩
  | _, _ => none
theorem ok_set : SumOk Try.prog 101 (genSum g_set) := by
  refine sumOk_gen okS0 mixed Try.func101 (c := bodyOf Try.f101) (by kernel_rfl) (by kernel_rfl) ?_
  intro args hp x h hp1 _
  unfold g_set at h
  split at h
  · rename_i l_c
    have hq := Option.bind_eq_some_iff.1 h
    clear h
    obtain ⟨c, h_c, h⟩ := hq
    obtain rfl := decCell_spec _ _ h_c
    have hq := Option.bind_eq_some_iff.1 h
    clear h
    obtain ⟨⟨r, N, ge⟩, h_r, h⟩ := hq
    obtain rfl := decB_spec h_r
    cases h
    obtain ⟨e, hN⟩ := chkB_spec hp1
    have t := t_set r N (fun j => decID (ge j)) c hN (fun tv hp => some (tv, hp))
    unfold k_set at t
    simp only [e] at t
    refine ⟨10, ?_⟩
    simp only [List.map_nil, List.append_nil]
    exact t
  · cases h
@[reducible] def k_cell {R : Type} (K : TV → List (Option SB) → Option R) (N : Nat) (o : Nat → Int) (v : Cell × Rou) : Option R := K (.s (.agg (encCell (v).1))) ((hpB ((v).2) N (fun j => encI (o j))).map some)
theorem t_cell {R : Type} (r : Rou) (N : Nat) (o : Nat → Int)  (hN : r.i0 + r.n ≤ N) (K : TV → List (Option SB) → Option R) : runFn Try.prog S0 10 Try.f36 (bodyOf Try.f36) [.c (.ptr 0 0)] (hpB r N (fun j => encI (o j))) K = k_cell K N o (cellV r o ) := by
  refine Eq.trans (b := k_cell K N o (⟨r.slot, r.gen⟩, r)) (by kernel_rfl) ?_
  rfl
noncomputable def g_cell : List SV → List SB → Option Out
  | [.c (.ptr 0 0)], hp => (decB hp).bind fun x => some ⟨chkB x.1 x.2.1 x.2.2, .s (.agg (encCell (cellV x.1 (fun j => decID (x.2.2 j)) ).1)), (hpB ((cellV x.1 (fun j => decID (x.2.2 j)) ).2) x.2.1 x.2.2).map some, []⟩
  | _, _ => none
theorem ok_cell : SumOk Try.prog 36 (genSum g_cell) := by
  refine sumOk_gen okS0 mixed Try.func36 (c := bodyOf Try.f36) (by kernel_rfl) (by kernel_rfl) ?_
  intro args hp x h hp1 _
  unfold g_cell at h
  split at h
  · skip
    have hq := Option.bind_eq_some_iff.1 h
    clear h
    obtain ⟨⟨r, N, ge⟩, h_r, h⟩ := hq
    obtain rfl := decB_spec h_r
    cases h
    obtain ⟨e, hN⟩ := chkB_spec hp1
    have t := t_cell r N (fun j => decID (ge j))  hN (fun tv hp => some (tv, hp))
    unfold k_cell at t
    simp only [e] at t
    refine ⟨10, ?_⟩
    simp only [List.map_nil, List.append_nil]
    exact t
  · cases h
end Go.Proofs.Ytpebebhjmnmcbaa.Rt

/- DiskPlays: the states of its loops. No condition. -/
import Derived.Test.YtkkacjmjjhjpeaaDkr7
import Derived.Test.YtkkacjmjjhjpeaaDfuses
set_option maxRecDepth 100000
set_option linter.unusedSimpArgs false
set_option linter.unusedVariables false
namespace Go.Proofs.Ytkkacjmjjhjpeaa.Dk
open Go Go.Proofs.Ytkkacjmjjhjpeaa.Sx
@[reducible] noncomputable def SP : Sums := (26, ptrVal encF decF g_count) :: (24, denilWS (denilWS (genSumN (gR V_mcrash)))) :: (23, denilWS (denilWS (genSumN (gR V_mflush)))) :: (22, genSumN (gR V_mwrite)) :: (27, genSumN (gR V_mread)) :: (19, genSumN g_mnew) :: (25, ptrVal encRF decRF g_marm) :: SLF
theorem okSP : SumsOk Try.prog SP := ((((((okSLF.cons ok_marm).cons ok_mnew).cons ok_mread).cons ok_mwrite).cons ok_mflush).cons ok_mcrash).cons ok_count
@[reducible] def cDP (d : D) : SB := .cells [.int .i64 d.size, .slc 4 0 d.n, .slc 5 0 d.k, .ptr 1 0]
@[reducible] def cAP (m : M) : SB := .cells [.int .i64 m.size, .slc 7 0 m.n, .slc 8 0 m.n, .slc 9 0 m.k, .slc 10 0 m.k, .ptr 2 0]
@[reducible] def cHP (m : M) : SB := .cells [.int .i64 m.size, .slc 7 0 m.n, .slc 7 0 m.n, .slc 8 0 m.k, .slc 9 0 m.k, .ptr 2 0]
@[reducible] def tlP (m : M) : List (Option SB) := bif m.sh then some (cHP m) :: (rowsH m).map some else some (cAP m) :: (rowsA m).map some
@[reducible] def hpP (N : Nat) (f : Nat → Ac) (d : D) (m : M) : List (Option SB) := some (row N f) :: some (cF d.fu) :: some (cRF m.fu) :: some (cDP d) :: some (vS d.n d.S) :: some (vW d.k d.W) :: tlP m
@[reducible] def nnP (m : M) : Nat := bif m.sh then 10 else 11
structure LP where
  N : Nat
  f : Nat → Ac
  d : D
  m : M
  i : Nat
@[reducible] def encP0 (N : Nat) (f : Nat → Ac) (d : D) (m : M) (i : Int) : St := ⟨[(5, .s (.c (.ptr 1 0))), (6, .s (.c (.ptr 2 0))), (7, .s (.c (.ptr 3 0))), (8, .s (.c (.ptr 6 0))), (70, .s (.c (.slc 0 0 N))), (71, .s (i64 N)), (72, .s (i64 i))], hpP N f d m, nnP m, 216⟩
@[reducible] def encP (p : LP) : St := encP0 p.N p.f p.d p.m p.i
def finP (p : LP) : St := ⟨[], [some (row p.N p.f)], 1, 216⟩
@[reducible] def encJ0 (p : LP) (b j : Int) : St := ⟨[(5, .s (.c (.ptr 1 0))), (6, .s (.c (.ptr 2 0))), (7, .s (.c (.ptr 3 0))), (8, .s (.c (.ptr 6 0))), (70, .s (.c (.slc 0 0 p.N))), (71, .s (i64 p.N)), (72, .s (i64 p.i)), (190, .s (i64 b)), (191, .s (i64 j))], hpP p.N p.f p.d p.m, nnP p.m, 216⟩
/-! ### What memory holds -/
@[reducible] def RawP := (Nat × (Nat → List CV)) × (Nat × Nat × D × (Nat → List CV) × (Nat → List CV)) × (M × Raw)
def decTl : Option SB → List (Option SB) → Option (M × Raw)
  | some (.cells [.bool a, .int .i64 l, .bool b, .int .i64 c]), [some (.cells [.int .i64 z, .slc 7 0 n', .slc 8 0 n2', .slc 9 0 k', .slc 10 0 k2', .ptr 2 0]), some (.vec 1 [] (.gen n gL)), some (.vec 1 [] (.gen n2 gN)), some (.vec 1 [] (.gen k gI)), some (.vec 1 [] (.gen k2 gT))] =>
    some (⟨z, n, fun j => decS (gL j), fun j => decS (gN j), k, fun j => decI (gI j), fun j => decS (gT j), ⟨a, l, b, c⟩, false⟩, (n', n2', n2, k', k2', k2), gL, gN, gI, gT)
  | some (.cells [.bool a, .int .i64 l, .bool b, .int .i64 c]), [some (.cells [.int .i64 z, .slc 7 0 n', .slc 7 0 n2', .slc 8 0 k', .slc 9 0 k2', .ptr 2 0]), some (.vec 1 [] (.gen n gL)), some (.vec 1 [] (.gen k gI)), some (.vec 1 [] (.gen k2 gT))] =>
    some (⟨z, n, fun j => decS (gL j), fun j => decS (gL j), k, fun j => decI (gI j), fun j => decS (gT j), ⟨a, l, b, c⟩, true⟩, (n', n2', n, k', k2', k2), gL, gL, gI, gT)
  | _, _ => none
theorem decTl_spec {x : Option SB} {r : List (Option SB)} {m : M} {raw : Raw} (h : decTl x r = some (m, raw)) (hc : oqR m raw = true) : x = some (cRF m.fu) ∧ r = tlP m := by
  obtain ⟨⟨n1, n2, n3, k1, k2, k3⟩, gL, gN, gI, gT⟩ := raw
  obtain ⟨e1, e2, e3, e4, e5, e6, e7, e8, e9, e10⟩ := oqR_parts hc
  unfold decTl at h
  split at h
  · cases h
    simp only at e1 e2 e3 e4 e5 e6
    subst e1 e2 e4 e5
    subst e3 e6
    refine ⟨rfl, ?_⟩
    show _ = [some (SB.cells _), some (SB.vec 1 [] (.gen _ fun j => encS (decS (gL j)))), some (SB.vec 1 [] (.gen _ fun j => encS (decS (gN j)))), some (SB.vec 1 [] (.gen _ fun j => encI (decI (gI j)))), some (SB.vec 1 [] (.gen _ fun j => encS (decS (gT j))))]
    rw [← e7, ← e8, ← e9, ← e10]
  · cases h
    simp only at e1 e2 e4 e5 e6
    subst e1 e2 e4 e5
    subst e6
    refine ⟨rfl, ?_⟩
    show _ = [some (SB.cells _), some (SB.vec 1 [] (.gen _ fun j => encS (decS (gL j)))), some (SB.vec 1 [] (.gen _ fun j => encI (decI (gI j)))), some (SB.vec 1 [] (.gen _ fun j => encS (decS (gT j))))]
    rw [← e7, ← e9, ← e10]
  · cases h
def decDk : Option SB → Option SB → Option SB → Option SB → Option (Nat × Nat × D × (Nat → List CV) × (Nat → List CV))
  | some (.cells [.int .i64 l, .bool c1, .int .i64 c2]), some (.cells [.int .i64 z, .slc 4 0 n', .slc 5 0 k', .ptr 1 0]), some (.vec 1 [] (.gen n gS)), some (.vec 2 [] (.gen k gW)) => some (n', k', ⟨z, n, fun j => decS (gS j), k, fun j => decW (gW j), ⟨l, c1, c2⟩⟩, gS, gW)
  | _, _, _, _ => none
theorem decDk_spec {x1 x2 x3 x4 : Option SB} {n' k' : Nat} {d : D} {gS gW : Nat → List CV} (h : decDk x1 x2 x3 x4 = some (n', k', d, gS, gW)) (hc : okD n' k' d gS gW = true) : x1 = some (cF d.fu) ∧ x2 = some (cDP d) ∧ x3 = some (vS d.n d.S) ∧ x4 = some (vW d.k d.W) := by
  obtain ⟨e1, e2, e3, e4⟩ := okD_parts hc
  unfold decDk at h
  split at h
  · cases h
    simp only at e1 e2
    subst e1 e2
    refine ⟨rfl, rfl, ?_, ?_⟩
    · show _ = some (SB.vec 1 [] (.gen _ fun j => encS (decS (gS j))))
      rw [← e3]
    · show _ = some (SB.vec 2 [] (.gen _ fun j => encW (decW (gW j))))
      rw [← e4]
  · cases h
def decRw : Option SB → Option (Nat × (Nat → List CV))
  | some (.ro 5 (.gen N gA)) => some (N, gA)
  | _ => none
theorem decRw_spec {x : Option SB} {N : Nat} {gA : Nat → List CV} (h : decRw x = some (N, gA)) (hc : chkRo encAc decAcD gA = true) : x = some (row N fun j => decAcD (gA j)) := by
  unfold decRw at h
  split at h
  · cases h
    have e := chkRo_spec hc
    show _ = some (SB.ro 5 (.gen _ fun j => encAc (decAcD (gA j))))
    rw [← e]
  · cases h
def decHp : List (Option SB) → Option RawP
  | x0 :: x1 :: x2 :: x3 :: x4 :: x5 :: r => match decRw x0, decDk x1 x3 x4 x5, decTl x2 r with
    | some a, some b, some c => some (a, b, c)
    | _, _, _ => none
  | _ => none
noncomputable def chkHp (p : RawP) : Bool := match p with
  | ((N, gA), (n', k', d, gS, gW), (m, raw)) => chkRo encAc decAcD gA && (okD n' k' d gS gW && oqR m raw)
theorem decHp_spec {hp : List (Option SB)} {N n' k' : Nat} {gA gS gW : Nat → List CV} {d : D} {m : M} {raw : Raw} (h : decHp hp = some ((N, gA), (n', k', d, gS, gW), (m, raw))) (hc : chkHp ((N, gA), (n', k', d, gS, gW), (m, raw)) = true) : hp = hpP N (fun j => decAcD (gA j)) d m := by
  unfold chkHp at hc
  simp only [Bool.and_eq_true] at hc
  obtain ⟨h1, h2, h3⟩ := hc
  unfold decHp at h
  split at h
  · split at h
    · rename_i q1 q2 q3
      cases h
      obtain ⟨r1, r2⟩ := decTl_spec q3 h3
      obtain ⟨s1, s2, s3, s4⟩ := decDk_spec q2 h2
      rw [decRw_spec q1 h1, r1, r2, s1, s2, s3, s4]
    · cases h
  · cases h
@[reducible] def PP := RawP × Int × Nat × Int × Nat
def decP : St → Option PP
  | ⟨[(5, .s (.c (.ptr 1 0))), (6, .s (.c (.ptr 2 0))), (7, .s (.c (.ptr 3 0))), (8, .s (.c (.ptr 6 0))), (70, .s (.c (.slc 0 0 N2))), (71, .s (.c (.int .i64 b))), (72, .s (.c (.int .i64 i)))], hp, nn, 216⟩ => match decHp hp with
    | some p => some (p, i, N2, b, nn)
    | none => none
  | _ => none
noncomputable def chkP (p : PP) : Bool := match p with
  | (((N, gA), (n', k', d, gS, gW), (m, raw)), i, N2, b, nn) => chkHp ((N, gA), (n', k', d, gS, gW), (m, raw)) && (decide (0 ≤ i) && (decide (b = N) && (Nat.beq N2 N && Nat.beq nn (nnP m))))
def normP (p : PP) : LP := match p with
  | (((N, gA), (n', k', d, gS, gW), (m, raw)), i, N2, b, nn) => ⟨N, fun j => decAcD (gA j), d, m, i.toNat⟩
theorem decP_spec (st : St) (p : PP) (h : decP st = some p) (hc : chkP p = true) : st = encP (normP p) := by
  unfold decP at h
  split at h
  · rename_i N2 b i hp nn
    split at h
    · rename_i q hq
      cases h
      obtain ⟨⟨N, gA⟩, ⟨n', k', d, gS, gW⟩, ⟨m, raw⟩⟩ := q
      unfold chkP at hc
      simp only [Bool.and_eq_true, decide_eq_true_eq] at hc
      obtain ⟨h1, h2, h3, h4, h5⟩ := hc
      have h4 := Nat.eq_of_beq_eq_true h4
      have h5 := Nat.eq_of_beq_eq_true h5
      subst h3 h4 h5
      rw [decHp_spec hq h1]
      simp only [normP, encP, encP0, Int.toNat_of_nonneg h2]
    · cases h
  · cases h
@[reducible] def PJ := RawP × (Int × Int × Int) × Nat × Int × Nat
def decJ : St → Option PJ
  | ⟨[(5, .s (.c (.ptr 1 0))), (6, .s (.c (.ptr 2 0))), (7, .s (.c (.ptr 3 0))), (8, .s (.c (.ptr 6 0))), (70, .s (.c (.slc 0 0 N2))), (71, .s (.c (.int .i64 b))), (72, .s (.c (.int .i64 i))), (190, .s (.c (.int .i64 bn))), (191, .s (.c (.int .i64 j)))], hp, nn, 216⟩ => match decHp hp with
    | some p => some (p, (i, bn, j), N2, b, nn)
    | none => none
  | _ => none
noncomputable def chkJ (p : PJ) : Bool := match p with
  | (((N, gA), (n', k', d, gS, gW), (m, raw)), (i, bn, j), N2, b, nn) => chkHp ((N, gA), (n', k', d, gS, gW), (m, raw)) && (decide (0 ≤ i) && (decide (b = N) && (Nat.beq N2 N && (Nat.beq nn (nnP m) && (decide (0 ≤ j) && decide (bn = (m.n : Int) + 1))))))
def normJ (p : PJ) : LP × Nat := match p with
  | (((N, gA), (n', k', d, gS, gW), (m, raw)), (i, bn, j), N2, b, nn) => (⟨N, fun j => decAcD (gA j), d, m, i.toNat⟩, j.toNat)
@[reducible] def encJ (p : LP × Nat) : St := encJ0 p.1 ((p.1.m.n : Int) + 1) p.2
theorem decJ_spec (st : St) (p : PJ) (h : decJ st = some p) (hc : chkJ p = true) : st = encJ (normJ p) := by
  unfold decJ at h
  split at h
  · rename_i N2 b i bn j hp nn
    split at h
    · rename_i q hq
      cases h
      obtain ⟨⟨N, gA⟩, ⟨n', k', d, gS, gW⟩, ⟨m, raw⟩⟩ := q
      unfold chkJ at hc
      simp only [Bool.and_eq_true, decide_eq_true_eq] at hc
      obtain ⟨h1, h2, h3, h4, h5, h6, h7⟩ := hc
      have h4 := Nat.eq_of_beq_eq_true h4
      have h5 := Nat.eq_of_beq_eq_true h5
      subst h3 h4 h5 h7
      rw [decHp_spec hq h1]
      simp only [normJ, encJ, encJ0, Int.toNat_of_nonneg h2, Int.toNat_of_nonneg h6]
    · cases h
  · cases h
end Go.Proofs.Ytkkacjmjjhjpeaa.Dk

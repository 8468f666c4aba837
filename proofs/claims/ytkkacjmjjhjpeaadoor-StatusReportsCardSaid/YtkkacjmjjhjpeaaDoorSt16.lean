/- The law StatusReports: true, and no memory that was there is written. -/
import Derived.Test.YtkkacjmjjhjpeaaDoorSt15
set_option maxRecDepth 100000
set_option linter.unusedSimpArgs false
set_option linter.unusedVariables false
namespace Go.Proofs.YtkkacjmjjhjpeaaDoor.St
open Go Go.Proofs.YtkkacjmjjhjpeaaDoor.Sx Go.Shelf Go.RowKit

@[reducible] noncomputable def SLr : Sums := (15, repS) :: SLw
theorem okSLr : SumsOk Tryd.prog SLr := okSLw.cons ok_rep
@[reducible] def AV := ByteArray × Nat × (Nat → Rp)
def encV : Int × Int × AV → St
  | (i, m, s, n, f) => ⟨[(0, .s (.c (.slc 0 0 n))), (3, .s (.c (.str s))), (14, .s (.c (.slc 0 0 n))), (15, .s (.c (.int .i64 m))), (16, .s (.c (.int .i64 i)))], [some (.ro 21 (.gen n fun j => encRp (f j)))], 1, 31⟩
@[reducible] def BV := Int × Int × ByteArray × Nat × Nat × Nat × (Nat → List CV)
def decV : St → Option BV
  | ⟨[(0, .s (.c (.slc 0 0 n))), (3, .s (.c (.str s))), (14, .s (.c (.slc 0 0 n'))), (15, .s (.c (.int .i64 m))), (16, .s (.c (.int .i64 i)))], [some (.ro 21 (.gen n'' f))], 1, 31⟩ => some (i, m, s, n, n', n'', f)
  | _ => none
noncomputable def chkV : BV → Bool
  | (_, _, _, n, n', n'', f) => Nat.beq n n' && Nat.beq n n'' && chkRo encRp decRpD f
def normV : BV → Int × Int × AV
  | (i, m, s, n, _, _, f) => (i, m, s, n, fun j => decRpD (f j))
theorem decV_spec (st : St) (p : BV) (h : decV st = some p) (hc : chkV p = true) : st = encV (normV p) := by
  unfold decV at h
  split at h <;> cases h
  simp only [chkV, Bool.and_eq_true] at hc
  obtain ⟨⟨e0, e1⟩, e2⟩ := hc
  obtain rfl := Nat.eq_of_beq_eq_true e0
  obtain rfl := Nat.eq_of_beq_eq_true e1
  have g0 := chkRo_spec e2
  unfold normV encV
  simp only
  rw [← g0]
def finV (p : AV) : St := ⟨[(0, .s (.c (.slc 0 0 p.2.1))), (3, .s (.c (.str p.1)))], [some (.ro 21 (.gen p.2.1 fun j => encRp (p.2.2 j)))], 1, 31⟩
def fV (i : Int) (p : AV) : AV := (p.1 ++ lineB (p.2.2 i.toNat), p.2.1, p.2.2)
def okV (i : Int) (p : AV) : Bool := decide (0 ≤ i) && decide (i < (p.2.1 : Int)) && okR (p.2.2 i.toNat) && decide (p.1.size + (lineB (p.2.2 i.toNat)).size ≤ 9223372036854775807)
@[reducible] noncomputable def LV : List (Nat × LoopSum) := [(0, formSumC decV chkV normV (countSum okV fV finV (.exit 0)))]
theorem roundV {R : Type} (L : List (Nat × LoopSum)) (i m : Int) (s : ByteArray) (n : Nat) (f : Nat → Rp) (K : Ex → St → Option R) :
    roundK Tryd.prog SLr L 10 1 (resMask Tryd.f7.results.toList) (lpAt Tryd.f7 0) (encV (i, m, s, n, f)) K =
    bif decide (i < m) then (bif decide (0 ≤ i) && decide (i < (n : Int)) then (bif decide (addI 0 i.toNat < n) then (bif okR (f (addI 0 i.toNat)) then (bif decide (s.size + (lineB (f (addI 0 i.toNat))).size ≤ 9223372036854775807) then
      K .normal (encV (IntKind.i64.wrap (i + 1), m, s ++ lineB (f (addI 0 i.toNat)), n, f)) else none) else none) else none) else none) else K (.exit 0) (finV (s, n, f)) := by kernel_rfl
theorem loopV : LoopOk Tryd.prog SLr LV 10 1 (resMask Tryd.f7.results.toList) (lpAt Tryd.f7 0) (formSumC decV chkV normV (countSum okV fV finV (.exit 0))) := by
  refine LoopOk.countC decV_spec (by simp) ?_ ?_
  · rintro R i m ⟨s, n, f⟩ K hi hk
    simp only [okV, Bool.and_eq_true, decide_eq_true_eq] at hk
    obtain ⟨⟨⟨h1, h2⟩, h3⟩, h4⟩ := hk
    have e : addI 0 i.toNat = i.toNat := by rw [addI_eq]; omega
    rw [roundV, e, decide_eq_true hi, decide_eq_true h1, decide_eq_true h2, decide_eq_true (show i.toNat < n by omega), h3, decide_eq_true h4]
    rfl
  · rintro R i m ⟨s, n, f⟩ K hi
    rw [roundV, decide_eq_false hi]; rfl
theorem loopsV : LoopsOk Tryd.prog SLr LV 10 1 (resMask Tryd.f7.results.toList) (loopsOf (resMask Tryd.f7.results.toList) (bodyOf Tryd.f7) [] (resMask Tryd.f7.results.toList)) :=
  loopsOk_ix 1 (by kernel_rfl) ⟨trivial, loopOk_here (n := 0) (by kernel_rfl) rfl loopV⟩
def tailV (p : AV) : Option Unit :=
  bif decide (addI 0 p.2.1 ≤ p.2.1) then (bif decide (addI 0 p.2.1 ≤ 4294967296) then (bif decide (0 + addI 0 p.2.1 ≤ addI 0 p.2.1) && rpsOk (fun j => encRp (p.2.2 j)) 0 (addI 0 p.2.1) && decide (addI 0 p.2.1 ≤ 1000) then
    lawK (.s (bl ((repB (fun j => encRp (p.2.2 j)) 0 (addI 0 p.2.1)).toList == p.1.toList))) [] else none) else none) else none
noncomputable def runV (n : Nat) (f : Nat → Rp) (K : AV → Option Unit) : Option Unit :=
  bif Nat.beq n n && Nat.beq n n && chkRo encRp decRpD (fun j => encRp (f j)) then (bif decide (0 ≤ (0 : Int) ∧ (n : Int) ≤ 4611686018427387904) && okN okV fV ((n : Int) - 0).toNat 0 (.empty, n, fun j => decRpD (encRp (f j))) then
    K (iterN fV ((n : Int) - 0).toNat 0 (.empty, n, fun j => decRpD (encRp (f j)))) else none) else none
theorem t_StatusReports (n : Nat) (f : Nat → Rp) : runFnL Tryd.prog SLr LV 10 Tryd.f7 (bodyOf Tryd.f7) [.c (.slc 0 0 n)] [.ro 21 (.gen n fun j => encRp (f j))] lawK =
    bif decide ((n : Int) > 100) then some () else runV n f tailV := by kernel_rfl
def linesB (f : Nat → Rp) (k : Nat) : ByteArray := ⟨(linesL f k).toArray⟩
theorem lines_succ (f : Nat → Rp) (k : Nat) : linesB f k ++ lineB (f k) = linesB f (k + 1) := by
  apply bytes_ext
  rw [app_data]
  rfl
theorem iterV {n : Nat} {f : Nat → Rp} (hok : ∀ j, j < n → okR (f j) = true) (hn : n ≤ 100) : ∀ (k i : Nat), i + k = n → okN okV fV k (i : Int) (linesB f i, n, f) = true ∧ iterN fV k (i : Int) (linesB f i, n, f) = (linesB f n, n, f)
  | 0, i, h => by
    obtain rfl : i = n := by omega
    exact ⟨rfl, rfl⟩
  | k + 1, i, h => by
    have h1 := hok i (by omega)
    have h2 := lineB_big h1
    have h3 := lines_len hok i (by omega)
    have h4 : (linesB f i).size = (linesL f i).length := rfl
    have e : okV (i : Int) (linesB f i, n, f) = true := by
      simp only [okV, Bool.and_eq_true, decide_eq_true_eq, Int.toNat_natCast]
      exact ⟨⟨⟨by omega, by omega⟩, h1⟩, by omega⟩
    have e2 : fV (i : Int) (linesB f i, n, f) = (linesB f (i + 1), n, f) := by
      simp only [fV, Int.toNat_natCast]
      rw [lines_succ]
    have := iterV hok hn k (i + 1) (by omega)
    rw [okN, iterN, e, e2, show ((i : Int) + 1) = ((i + 1 : Nat) : Int) by omega]
    exact ⟨by rw [this.1]; rfl, this.2⟩
theorem reports_true {n : Nat} {f : Nat → Rp} (hok : ∀ j, j < n → okR (f j) = true) : runFnL Tryd.prog SLr LV 10 Tryd.f7 (bodyOf Tryd.f7) [.c (.slc 0 0 n)] [.ro 21 (.gen n fun j => encRp (f j))] lawK = some () := by
  rw [t_StatusReports]
  by_cases hn : (n : Int) > 100
  · rw [decide_eq_true hn]; rfl
  rw [decide_eq_false hn, cond_false]
  unfold runV
  have e0 : Nat.beq n n = true := Nat.beq_refl n
  obtain ⟨r1, r2⟩ := iterV hok (by omega) n 0 (by omega)
  rw [e0, chkRo_true backRp f]
  simp only [backRp]
  rw [decide_eq_true (show 0 ≤ (0 : Int) ∧ (n : Int) ≤ 4611686018427387904 by omega), show ((n : Int) - 0).toNat = n by omega]
  simp only [Int.natCast_zero] at r1 r2
  erw [r1, r2]
  simp only [Bool.and_self, cond_true]
  unfold tailV
  have ea : addI 0 n = n := by rw [addI_eq]; omega
  simp only [ea]
  rw [decide_eq_true (show n ≤ n from Nat.le_refl n), decide_eq_true (show n ≤ 4294967296 by omega), decide_eq_true (show 0 + n ≤ n by omega), decide_eq_true (show n ≤ 1000 by omega), rpsOk_of (f := f) fun j hj => ⟨by rw [Nat.zero_add], hok j hj⟩]
  have er : repB (fun j => encRp (f j)) 0 n = linesB f n := by
    unfold repB linesB
    have : (fun j => decRpD (encRp (f (0 + j)))) = f := by funext j; rw [backRp, Nat.zero_add]
    rw [this]
  rw [er, beq_self_eq_true]
  rfl
theorem StatusReports (n : Nat) (f : Nat → Rp) (hw : ∀ j, j < n → wfRp (f j)) (W : World) (ht : TabsAt fun i => W.heap[i]?) (v : Value) (l : Sx.Loc) (hs : SlcR l 0 n v) (hb : BlkR (outer W (fun _ _ => False) ht) (fun _ => none) l (.ro 21 (.gen n fun j => encRp (f j))) W) :
    Calls Tryd.prog 7 #[v] W fun e w' => e = .returned (.bool true) ∧ Below W.heap.size W w' :=
  law_callsL okSLr mixed Tryd.func7 (c := bodyOf Tryd.f7) (by kernel_rfl) lawK_spec loopsV (reports_true fun j hj => okR_wf (hw j hj)) (ht := ht) (X := fun _ _ => False) (ρ := rho1 l) (vs := [v]) ⟨⟨l, rfl, hs⟩, trivial⟩
    (fun b sb h => blk1 (BlkR.mono (noRho_le _) hb) b sb h) rho1_out
end Go.Proofs.YtkkacjmjjhjpeaaDoor.St

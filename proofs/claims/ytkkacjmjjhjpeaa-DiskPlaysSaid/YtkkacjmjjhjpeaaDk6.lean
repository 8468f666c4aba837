/- A disk: New; the first half of Crash. No condition. -/
import Derived.Test.YtkkacjmjjhjpeaaDk5
set_option maxRecDepth 100000
set_option linter.unusedSimpArgs false
set_option linter.unusedVariables false
namespace Go.Proofs.Ytkkacjmjjhjpeaa.Dk
open Go Go.Proofs.Ytkkacjmjjhjpeaa.Sx
@[reducible] noncomputable def zc (z : Int) : Int := foldMin (foldMax z [128]) [1024]
@[reducible] noncomputable def nc (n : Int) : Int := foldMin (foldMax n [4]) [1024]
theorem zc_spec (z : Int) : 128 ≤ zc z ∧ zc z ≤ 1024 := by unfold zc foldMin foldMax foldMax foldMin; split <;> split <;> omega
theorem nc_spec (n : Int) : 4 ≤ nc n ∧ nc n ≤ 1024 := by unfold nc foldMin foldMax foldMax foldMin; split <;> split <;> omega
def zeros (z : Int) : ByteArray := repB ⟨#[0]⟩ z.toNat
@[reducible] noncomputable def d0 (z n : Int) (f : F) : D := ⟨zc z, (nc n).toNat, fun j => decS [CV.str ⟨#[]⟩], 0, fun j => decW [CV.int .i64 0, CV.str ByteArray.empty], f⟩
noncomputable def newV (z n : Int) (f : F) : D := ⟨zc z, (nc n).toNat, fun j => bif Nat.blt j (nc n).toNat then zeros (zc z) else ⟨#[]⟩, 0, fun _ => (0, ByteArray.empty), f⟩
theorem goA_new : ∀ (c i : Nat) (d : D), (goA (fun _ => false) nxN c (d, i)).1 = false ∧ (goA (fun _ => false) nxN c (d, i)).2.1 = wS d (fun j => bif Nat.ble i j && Nat.blt j (i + c) then zeros d.size else d.S j)
  | 0, i, d => by
    refine ⟨rfl, ?_⟩
    show d = _
    obtain ⟨z, n, S, k, W, f⟩ := d
    unfold wS
    congr 1
    funext j
    have : (Nat.ble i j && Nat.blt j (i + 0)) = false := by
      rw [Bool.eq_false_iff]
      simp only [ne_eq, Bool.and_eq_true, Nat.ble_eq, Nat.blt_eq]
      omega
    rw [this]; rfl
  | c + 1, i, d => by
    have e : goA (fun _ => false) nxN (c + 1) (d, i) = goA (fun _ => false) nxN c (wS d (setS d.S i (zeros d.size)), i + 1) := rfl
    rw [e]
    obtain ⟨h1, h2⟩ := goA_new c (i + 1) (wS d (setS d.S i (zeros d.size)))
    refine ⟨h1, h2.trans ?_⟩
    unfold wS
    congr 1
    funext j
    by_cases hj : j = i
    · subst hj
      rw [show (Nat.ble (j + 1) j && Nat.blt j (j + 1 + c)) = false by rw [Bool.eq_false_iff]; simp only [ne_eq, Bool.and_eq_true, Nat.ble_eq, Nat.blt_eq]; omega, show (Nat.ble j j && Nat.blt j (j + (c + 1))) = true by simp only [Bool.and_eq_true, Nat.ble_eq, Nat.blt_eq]; omega]
      exact setS_at ..
    · rw [show (Nat.ble (i + 1) j && Nat.blt j (i + 1 + c)) = (Nat.ble i j && Nat.blt j (i + (c + 1))) by
        rw [Bool.eq_iff_iff]; simp only [Bool.and_eq_true, Nat.ble_eq, Nat.blt_eq]; omega]
      show cond _ _ (setS d.S i _ j) = _
      rw [setS_ne _ _ hj]
theorem t_new {R : Type} (z n : Int) (f : F) (K : TV → List (Option SB) → Option R) : runFnN Try.prog S1 [(0, LpN)] 10 1 Try.f10 (bodyOf Try.f10) [i64 z, i64 n, .c (.ptr 0 0)] [cF f] K =
    bif decide (nc n = nc n) && decide (0 ≤ nc n) && decide (nc n ≤ 16777216) then bif chkN (((nc n).toNat : Int), 0, (nc n).toNat, 0, d0 z n f, fun x => [CV.str ⟨#[]⟩], fun x => [CV.int .i64 0, CV.str ByteArray.empty]) then bif okNn (d0 z n f, 0) then
      bif (goA (fun x => false) nxN ((nc n).toNat - 0) (d0 z n f, 0)).1 then none else K (.s (.c (.ptr 1 0))) [some (cF (goA (fun x => false) nxN ((nc n).toNat - 0) (d0 z n f, 0)).2.1.fu), some (cDN (goA (fun x => false) nxN ((nc n).toNat - 0) (d0 z n f, 0)).2.1), some (vS (goA (fun x => false) nxN ((nc n).toNat - 0) (d0 z n f, 0)).2.1.n (goA (fun x => false) nxN ((nc n).toNat - 0) (d0 z n f, 0)).2.1.S), some (vW (goA (fun x => false) nxN ((nc n).toNat - 0) (d0 z n f, 0)).2.1.k (goA (fun x => false) nxN ((nc n).toNat - 0) (d0 z n f, 0)).2.1.W)]
      else none else none else none := by kernel_rfl
noncomputable def g_new : List SV → List SB → Cs
  | [.c (.int .i64 z), .c (.int .i64 n), .c (.ptr 0 0)], [.cells [.int .i64 l, .bool b, .int .i64 c]] => .out ⟨true, .s (.c (.ptr 1 0)), [some (cF ⟨l, b, c⟩)], [cDN (newV z n ⟨l, b, c⟩), vS (newV z n ⟨l, b, c⟩).n (newV z n ⟨l, b, c⟩).S, vW 0 fun _ => (0, ByteArray.empty)]⟩
  | _, _ => .no
theorem ok_new : SumOk Try.prog 10 (genSumN g_new) := by
  refine sumOk_genN okS1 mixed Try.func10 (c := bodyOf Try.f10) (by kernel_rfl) (by kernel_rfl) ?_
  intro args hp x h
  unfold g_new at h ⊢
  split at h
  · rename_i z n l b c
    cases h
    refine ⟨[(0, LpN)], 10, loopsOk_ix 1 (by kernel_rfl) ⟨trivial, loopOk_here (n := 0) (by kernel_rfl) rfl loopN⟩, (t_new z n ⟨l, b, c⟩ _).trans ?_⟩
    have hn := nc_spec n
    have hz := zc_spec z
    rw [decide_eq_true (show 0 ≤ nc n by omega), decide_eq_true (show nc n ≤ 16777216 by omega), decide_eq_true (show nc n = nc n from rfl)]
    simp only [Bool.and_self, cond_true]
    obtain ⟨h1, h2⟩ := goA_new ((nc n).toNat - 0) 0 (d0 z n ⟨l, b, c⟩)
    refine okG (by
      unfold chkN
      simp only [Bool.and_eq_true, decide_eq_true_eq]
      exact ⟨by omega, trivial, okD_self (d0 z n ⟨l, b, c⟩)⟩) (by
      unfold okNn
      simp only [Bool.and_eq_true, decide_eq_true_eq]
      exact ⟨by omega, by omega, by omega, by omega⟩) h1 ?_
    rw [h2]
    have e : wS (d0 z n ⟨l, b, c⟩) (fun j => bif Nat.ble 0 j && Nat.blt j (0 + ((nc n).toNat - 0)) then zeros (d0 z n ⟨l, b, c⟩).size else (d0 z n ⟨l, b, c⟩).S j) = newV z n ⟨l, b, c⟩ := by
      unfold wS newV
      congr 1
      funext j
      rw [show Nat.ble 0 j = true from Nat.ble_eq ▸ Nat.zero_le j, Nat.zero_add, Nat.sub_zero]
      rfl
    rw [e]
    rfl
  · cases h
/-! ### Crash: what is kept -/
def keepB (keep : Int) (i : Int) : Bool := IntKind.u64.wrap (↑(BitVec.ofInt 64 (keep.fdiv (2 ^ min (i.tmod 64).toNat 64)) &&& BitVec.ofInt 64 1).toNat : Int) == 1
def kept (W : Nat → Int × ByteArray) (keep : Int) : Nat → Nat × (Nat → Int × ByteArray)
  | 0 => (0, fun _ => (0, ByteArray.empty))
  | i + 1 => bif keepB keep i then ((kept W keep i).1 + 1, pushW (kept W keep i).2 (kept W keep i).1 (W i)) else kept W keep i
@[reducible] def LC := D × (Int × Int) × (Nat × (Nat → Int × ByteArray)) × Nat
@[reducible] def encC (d : D) (keep torn : Int) (m : Nat) (L : Nat → Int × ByteArray) (i : Int) : St := ⟨[(0, .s (.c (.ptr 0 0))), (1, .s (.c (.int .u64 keep))), (2, .s (i64 torn)), (6, .s (.c (.slc 4 0 m))), (15, .s (.c (.slc 3 0 d.k))), (16, .s (i64 d.k)), (17, .s (i64 i))], [some (cD d), some (cF d.fu), some (vS d.n d.S), some (vW d.k d.W), some (vW m L)], 5, 82⟩
@[reducible] def finC (d : D) (torn : Int) (m : Nat) (L : Nat → Int × ByteArray) : St := ⟨[(0, .s (.c (.ptr 0 0))), (2, .s (i64 torn)), (6, .s (.c (.slc 4 0 m)))], [some (cD d), some (cF d.fu), some (vS d.n d.S), some (vW d.k d.W), some (vW m L)], 5, 82⟩
theorem roundC {R : Type} (d : D) (keep torn : Int) (m : Nat) (L : Nat → Int × ByteArray) (i : Int) (K : Ex → St → Option R) : roundK Try.prog S1 [] 10 2 (resMask Try.f14.results.toList) (lpAt Try.f14 0) (encC d keep torn m L i) K =
    bif decide (i < d.k) then bif decide (0 ≤ i) && decide (i < (d.k : Int)) then bif decide (addI 0 i.toNat < d.k) then bif decide (0 ≤ i.tmod 64) then bif keepB keep i then bif decide (m = addI 0 m) then bif decide (addI m 1 ≤ 4294967296) then
      K .normal ⟨[(0, .s (.c (.ptr 0 0))), (1, .s (.c (.int .u64 keep))), (2, .s (i64 torn)), (6, .s (.c (.slc 4 0 (addI m 1)))), (15, .s (.c (.slc 3 0 d.k))), (16, .s (i64 d.k)), (17, .s (i64 (IntKind.i64.wrap (i + 1))))], [some (cD d), some (cF d.fu), some (vS d.n d.S), some (vW d.k d.W), some (.vec 2 [] (.gen (addI m 1) (catG (fun j => encW (L j)) (lit1 (d.W (addI 0 i.toNat)).1 (d.W (addI 0 i.toNat)).2) m)))], 5, 82⟩
      else none else none else K .normal (encC d keep torn m L (IntKind.i64.wrap (i + 1))) else none else none else none else K (.exit 0) (finC d torn m L) := by kernel_rfl
@[reducible] def PC := (Int × Int × Int) × Nat × Nat × Nat × Nat × Nat × Int × D × (Nat → List CV) × (Nat → List CV) × (Nat → List CV)
def decC : St → Option PC
  | ⟨[(0, .s (.c (.ptr 0 0))), (1, .s (.c (.int .u64 keep))), (2, .s (.c (.int .i64 torn))), (6, .s (.c (.slc 4 0 mm))), (15, .s (.c (.slc 3 0 kk))), (16, .s (.c (.int .i64 ki))), (17, .s (.c (.int .i64 i)))], [some (.cells [.int .i64 z, .slc 2 0 n', .slc 3 0 k', .ptr 1 0]), some (.cells [.int .i64 l, .bool b, .int .i64 c]), some (.vec 1 [] (.gen n gS)), some (.vec 2 [] (.gen k gW)), some (.vec 2 [] (.gen m gL))], 5, 82⟩ => some ((keep, torn, i), mm, kk, m, n', k', ki, ⟨z, n, fun j => decS (gS j), k, fun j => decW (gW j), ⟨l, b, c⟩⟩, gS, gW, gL)
  | _ => none
noncomputable def chkC (p : PC) : Bool := match p with
  | ((keep, torn, i), mm, kk, m, n', k', ki, d, gS, gW, gL) => decide (0 ≤ i) && (Nat.beq mm m && (Nat.beq kk d.k && (decide (ki = d.k) && (chkRo encW decW gL && okD n' k' d gS gW))))
def normC (p : PC) : LC := match p with
  | ((keep, torn, i), mm, kk, m, n', k', ki, d, gS, gW, gL) => (d, (keep, torn), (m, fun j => decW (gL j)), i.toNat)
theorem decC_spec (st : St) (p : PC) (h : decC st = some p) (hc : chkC p = true) : st = encC (normC p).1 (normC p).2.1.1 (normC p).2.1.2 (normC p).2.2.1.1 (normC p).2.2.1.2 ((normC p).2.2.2 : Nat) := by
  unfold decC at h
  split at h
  · rename_i keep torn mm kk ki i z n' k' l b c n gS k gW m gL
    cases h
    unfold chkC at hc
    simp only [Bool.and_eq_true, decide_eq_true_eq] at hc
    obtain ⟨c0, c1, c2, c3, c4, c5⟩ := hc
    obtain ⟨e1, e2, e3, e4⟩ := okD_parts c5
    have c1 := Nat.eq_of_beq_eq_true c1
    have c2 := Nat.eq_of_beq_eq_true c2
    have c4 := chkRo_spec c4
    simp only at e1 e2 c2 c3
    subst e1 e2 c1 c2 c3
    simp only [normC, Int.toNat_of_nonneg c0]
    show _ = St.mk _ [_, _, some (SB.vec 1 [] (.gen _ fun j => encS (decS (gS j)))), some (SB.vec 2 [] (.gen _ fun j => encW (decW (gW j)))), some (SB.vec 2 [] (.gen _ fun j => encW (decW (gL j))))] _ _
    rw [← e3, ← e4, ← c4]
  · cases h
noncomputable def okC (p : LC) : Bool := decide (p.2.2.2 ≤ p.1.k) && (decide (p.1.k ≤ 4294967296) && decide (p.2.2.1.1 ≤ p.2.2.2))
def nxC (p : LC) : LC := (p.1, p.2.1, bif keepB p.2.1.1 p.2.2.2 then (p.2.2.1.1 + 1, pushW p.2.2.1.2 p.2.2.1.1 (p.1.W p.2.2.2)) else p.2.2.1, p.2.2.2 + 1)
@[reducible] noncomputable def LpC : LoopSum := formSumC decC chkC normC (goSum okC (fun p => p.1.k - p.2.2.2) (fun _ => false) nxC (.exit 9) (fun p => finC p.1 p.2.1.2 p.2.2.1.1 p.2.2.1.2) (.exit 0) (fun p => finC p.1 p.2.1.2 p.2.2.1.1 p.2.2.1.2))
theorem loopC : LoopOk Try.prog S1 [] 10 2 (resMask Try.f14.results.toList) (lpAt Try.f14 0) LpC := by
  refine LoopOk.go (enc := fun p : LC => encC p.1 p.2.1.1 p.2.1.2 p.2.2.1.1 p.2.2.1.2 (p.2.2.2 : Nat)) decC_spec (by simp) (by simp) ?_ ?_ ?_
  · intro R p K _ _ h; cases h
  · rintro R ⟨d, ⟨keep, torn⟩, ⟨m, L⟩, i⟩ c K h1 h2 _
    unfold okC at h1
    simp only [Bool.and_eq_true, decide_eq_true_eq] at h1 h2
    obtain ⟨c1, c2, c3⟩ := h1
    refine ⟨?_, ?_, ?_⟩
    · show roundK _ _ _ _ _ _ _ (encC d keep torn m L i) K = _
      have hm : (0 : Int) ≤ (i : Int).tmod 64 := Int.tmod_nonneg _ (by omega)
      rw [roundC, decide_eq_true (show (i : Int) < d.k by omega), decide_eq_true (show (0 : Int) ≤ i by omega), decide_eq_true hm]
      simp only [Int.toNat_natCast, ai0, Bool.and_self, cond_true]
      rw [decide_eq_true (show i < d.k by omega), wi (x := (i : Int) + 1) (by omega), catG_encW, addI_eq, decide_eq_true (show m + 1 ≤ 4294967296 by omega)]
      unfold nxC
      cases hb : keepB keep i
      · simp only [hb]; rfl
      · simp only [hb, decide_true]; rfl
    · unfold okC nxC
      simp only [Bool.and_eq_true, decide_eq_true_eq]
      refine ⟨by omega, c2, ?_⟩
      cases keepB keep i
      · show m ≤ i + 1
        omega
      · show m + 1 ≤ i + 1
        omega
    · show d.k - (i + 1) = c
      omega
  · rintro R ⟨d, ⟨keep, torn⟩, ⟨m, L⟩, i⟩ K h1 h2
    have h2 : d.k - i = 0 := h2
    show roundK _ _ _ _ _ _ _ (encC d keep torn m L i) K = _
    rw [roundC, decide_eq_false (by omega)]
    rfl
theorem kept_le (W : Nat → Int × ByteArray) (keep : Int) : ∀ i, (kept W keep i).1 ≤ i
  | 0 => Nat.le_refl 0
  | i + 1 => by
    have := kept_le W keep i
    unfold kept
    cases keepB keep i
    · show (kept W keep i).1 ≤ i + 1
      omega
    · show (kept W keep i).1 + 1 ≤ i + 1
      omega
theorem goA_crash (d : D) (keep torn : Int) : ∀ (c i : Nat), goA (fun _ => false) nxC c (d, (keep, torn), kept d.W keep i, i) = (false, (d, (keep, torn), kept d.W keep (i + c), i + c))
  | 0, i => rfl
  | c + 1, i => by
    have e : goA (fun _ => false) nxC (c + 1) (d, (keep, torn), kept d.W keep i, i) = goA (fun _ => false) nxC c (d, (keep, torn), kept d.W keep (i + 1), i + 1) := rfl
    rw [e, goA_crash d keep torn c (i + 1), show i + 1 + c = i + (c + 1) by omega]
end Go.Proofs.Ytkkacjmjjhjpeaa.Dk

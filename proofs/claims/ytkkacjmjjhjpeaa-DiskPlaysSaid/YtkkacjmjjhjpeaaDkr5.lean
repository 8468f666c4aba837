/- The reference's disk: Crash. No condition. -/
import Derived.Test.YtkkacjmjjhjpeaaDkr4
set_option maxRecDepth 100000
set_option linter.unusedSimpArgs false
set_option linter.unusedVariables false
namespace Go.Proofs.Ytkkacjmjjhjpeaa.Dk
open Go Go.Proofs.Ytkkacjmjjhjpeaa.Sx
def unS : List (Option SB) → Option (List SB)
  | [] => some []
  | some x :: r => match unS r with
    | some l => some (x :: l)
    | none => none
  | none :: _ => none
theorem unS_spec : ∀ {hp : List (Option SB)} {l : List SB}, unS hp = some l → hp = l.map some
  | [], l, h => by cases h; rfl
  | some x :: r, l, h => by
    unfold unS at h
    cases hr : unS r with
    | none => rw [hr] at h; cases h
    | some l' =>
      rw [hr] at h
      cases h
      rw [unS_spec hr]; rfl
  | none :: r, l, h => by cases h
def dcO (hp : List (Option SB)) : Option (M × Raw) := match unS hp with
  | some l => dcR l
  | none => none
theorem dcO_spec {hp : List (Option SB)} {m : M} {r : Raw} (h : dcO hp = some (m, r)) (hc : oqR m r = true) : hp = (hpR m).map some := by
  unfold dcO at h
  cases hu : unS hp with
  | none => rw [hu] at h; cases h
  | some l =>
    rw [hu] at h
    rw [unS_spec hu, dcR_spec' h hc]
/-- A loop of Crash: the disk, what is kept, how it is torn, the last one, the bits, the round. -/
structure LX where
  m : M
  keep : Int
  torn : Int
  last : Int
  kk : Int
  i : Nat
@[reducible] def nnM (m : M) : Nat := bif m.sh then 5 else 6
@[reducible] def encX0 (t : Nat) (hp : List SB) (nn : Nat) (keep torn last kk i : Int) : St := ⟨[(0, .s (.c (.ptr 0 0))), (1, .s (.c (.int .u64 keep))), (2, .s (i64 torn)), (6, .s (i64 last)), (7, .s (.c (.int .u64 kk))), (t, .s (i64 i))], hp.map some, nn, 120⟩
@[reducible] def encX (t : Nat) (p : LX) : St := encX0 t (hpR p.m) (nnM p.m) p.keep p.torn p.last p.kk p.i
@[reducible] def PX := M × Raw × Int × Int × Int × Int × Int × Nat
def decX1 : St → Option PX
  | ⟨[(0, .s (.c (.ptr 0 0))), (1, .s (.c (.int .u64 keep))), (2, .s (.c (.int .i64 torn))), (6, .s (.c (.int .i64 last))), (7, .s (.c (.int .u64 kk))), (8, .s (.c (.int .i64 i)))], hp, n, 120⟩ => match dcO hp with
    | some (m, r) => some (m, r, keep, torn, last, kk, i, n)
    | none => none
  | _ => none
def decX2 : St → Option PX
  | ⟨[(0, .s (.c (.ptr 0 0))), (1, .s (.c (.int .u64 keep))), (2, .s (.c (.int .i64 torn))), (6, .s (.c (.int .i64 last))), (7, .s (.c (.int .u64 kk))), (9, .s (.c (.int .i64 i)))], hp, n, 120⟩ => match dcO hp with
    | some (m, r) => some (m, r, keep, torn, last, kk, i, n)
    | none => none
  | _ => none
noncomputable def chkX (p : PX) : Bool := match p with
  | (m, r, keep, torn, last, kk, i, n) => oqR m r && (decide (0 ≤ i) && Nat.beq n (nnM m))
def normX (p : PX) : LX := match p with
  | (m, r, keep, torn, last, kk, i, n) => ⟨m, keep, torn, last, kk, i.toNat⟩
theorem decX1_spec (st : St) (p : PX) (h : decX1 st = some p) (hc : chkX p = true) : st = encX 8 (normX p) := by
  unfold decX1 at h
  split at h
  · rename_i keep torn last kk i hp n
    split at h
    · rename_i m r hd
      cases h
      unfold chkX at hc
      simp only [Bool.and_eq_true, decide_eq_true_eq] at hc
      obtain ⟨h1, h2, h3⟩ := hc
      have h3 := Nat.eq_of_beq_eq_true h3
      subst h3
      rw [dcO_spec hd h1]
      simp only [normX, encX, Int.toNat_of_nonneg h2]
    · cases h
  · cases h
theorem decX2_spec (st : St) (p : PX) (h : decX2 st = some p) (hc : chkX p = true) : st = encX 9 (normX p) := by
  unfold decX2 at h
  split at h
  · rename_i keep torn last kk i hp n
    split at h
    · rename_i m r hd
      cases h
      unfold chkX at hc
      simp only [Bool.and_eq_true, decide_eq_true_eq] at hc
      obtain ⟨h1, h2, h3⟩ := hc
      have h3 := Nat.eq_of_beq_eq_true h3
      subst h3
      rw [dcO_spec hd h1]
      simp only [normX, encX, Int.toNat_of_nonneg h2]
    · cases h
  · cases h
/-! ### The first loop: which is the last one? -/
@[reducible] def hw (x : Int) : Int := IntKind.u64.wrap (x.tdiv 2)
@[reducible] def fin1 (hp : List SB) (nn : Nat) (keep torn last : Int) : St := ⟨[(0, .s (.c (.ptr 0 0))), (1, .s (.c (.int .u64 keep))), (2, .s (i64 torn)), (6, .s (i64 last))], hp.map some, nn, 120⟩
@[reducible] def r1T {R : Type} (hp : List SB) (nn : Nat) (k : Nat) (keep torn last kk i : Int) (K : Ex → St → Option R) : Option R :=
  bif decide (i < (k : Int)) then bif i.tmod 64 == 0 then (bif keep.tmod 2 == 1 then K .normal (encX0 8 hp nn keep torn i (hw keep) (IntKind.i64.wrap (i + 1))) else K .normal (encX0 8 hp nn keep torn last (hw keep) (IntKind.i64.wrap (i + 1)))) else
    (bif kk.tmod 2 == 1 then K .normal (encX0 8 hp nn keep torn i (hw kk) (IntKind.i64.wrap (i + 1))) else K .normal (encX0 8 hp nn keep torn last (hw kk) (IntKind.i64.wrap (i + 1))))
  else K (.exit 0) (fin1 hp nn keep torn last)
theorem round1A {R : Type} (z : Int) (n : Nat) (L Nw : Nat → ByteArray) (k : Nat) (Wi : Nat → Int) (Wt : Nat → ByteArray) (f : RF) (keep torn last kk i : Int) (K : Ex → St → Option R) : roundK Try.prog SM [] 10 2 (resMask Try.f24.results.toList) (lpAt Try.f24 0) (encX0 8 (hpA ⟨z, n, L, Nw, k, Wi, Wt, f, false⟩) 6 keep torn last kk i) K =
    r1T (hpA ⟨z, n, L, Nw, k, Wi, Wt, f, false⟩) 6 k keep torn last kk i K := by kernel_rfl
theorem round1H {R : Type} (z : Int) (n : Nat) (L Nw : Nat → ByteArray) (k : Nat) (Wi : Nat → Int) (Wt : Nat → ByteArray) (f : RF) (keep torn last kk i : Int) (K : Ex → St → Option R) : roundK Try.prog SM [] 10 2 (resMask Try.f24.results.toList) (lpAt Try.f24 0) (encX0 8 (hpH ⟨z, n, L, Nw, k, Wi, Wt, f, true⟩) 5 keep torn last kk i) K =
    r1T (hpH ⟨z, n, L, Nw, k, Wi, Wt, f, true⟩) 5 k keep torn last kk i K := by kernel_rfl
theorem round1 {R : Type} (m : M) (keep torn last kk i : Int) (K : Ex → St → Option R) : roundK Try.prog SM [] 10 2 (resMask Try.f24.results.toList) (lpAt Try.f24 0) (encX0 8 (hpR m) (nnM m) keep torn last kk i) K =
    r1T (hpR m) (nnM m) m.k keep torn last kk i K := by
  obtain ⟨z, n, L, Nw, k, Wi, Wt, f, sh⟩ := m
  cases sh
  · exact round1A ..
  · exact round1H ..
/-- The bits that a round sees. -/
def kb (p : LX) : Int := bif (p.i : Int).tmod 64 == 0 then p.keep else p.kk
def bit (p : LX) : Bool := (kb p).tmod 2 == 1
def nx1 (p : LX) : LX := ⟨p.m, p.keep, p.torn, bif bit p then (p.i : Int) else p.last, hw (kb p), p.i + 1⟩
noncomputable def ok1 (p : LX) : Bool := decide (p.i ≤ p.m.k) && decide (p.m.k ≤ 4294967296)
@[reducible] noncomputable def Lp1g : LoopSum := formSumC decX1 chkX normX (goSum ok1 (fun p => p.m.k - p.i) (fun _ => false) nx1 (.exit 9) (fun p => fin1 (hpR p.m) (nnM p.m) p.keep p.torn p.last) (.exit 0) (fun p => fin1 (hpR p.m) (nnM p.m) p.keep p.torn p.last))
theorem loop1 : LoopOk Try.prog SM [] 10 2 (resMask Try.f24.results.toList) (lpAt Try.f24 0) Lp1g := by
  refine LoopOk.go (enc := encX 8) decX1_spec (by simp) (by simp) ?_ ?_ ?_
  · intro R p K _ _ h; cases h
  · rintro R p c K h1 h2 _
    unfold ok1 at h1
    simp only [Bool.and_eq_true, decide_eq_true_eq] at h1
    refine ⟨?_, ?_, ?_⟩
    · rw [round1]
      unfold r1T
      rw [decide_eq_true (show (p.i : Int) < p.m.k by omega), cond_true, wi (x := (p.i : Int) + 1) (by omega)]
      unfold nx1 bit kb
      cases h3 : (p.i : Int).tmod 64 == 0
      · simp only [cond_false]
        cases h4 : p.kk.tmod 2 == 1 <;> rfl
      · simp only [cond_true]
        cases h4 : p.keep.tmod 2 == 1 <;> rfl
    · unfold ok1 nx1
      simp only [Bool.and_eq_true, decide_eq_true_eq]
      exact ⟨by omega, h1.2⟩
    · show p.m.k - (p.i + 1) = c
      omega
  · rintro R p K h1 h2
    have h1' := h1
    unfold ok1 at h1'
    simp only [Bool.and_eq_true, decide_eq_true_eq] at h1'
    rw [round1]
    unfold r1T
    rw [decide_eq_false (show ¬ (p.i : Int) < p.m.k by omega)]
    rfl
end Go.Proofs.Ytkkacjmjjhjpeaa.Dk

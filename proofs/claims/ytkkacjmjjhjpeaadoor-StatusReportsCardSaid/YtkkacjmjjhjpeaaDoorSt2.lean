/- strconv.Itoa, strings.Join in the interpreter's terms. No condition beyond those that each theorem names. -/
import Derived.Test.YtkkacjmjjhjpeaaDoorSt
set_option maxRecDepth 100000
set_option linter.unusedSimpArgs false
set_option linter.unusedVariables false
namespace Go.Proofs.YtkkacjmjjhjpeaaDoor.St
open Go Go.Proofs.YtkkacjmjjhjpeaaDoor.Sx Go.Shelf Go.RowKit

theorem join_extra : Builder.Extra Tryd.prog join_ren := {
  sizeBuilder := by kernel_rfl,
  liesBuilder := by kernel_rfl,
  t5 := Tryd.underlying5,
  a5 := Tryd.isAgg5,
  z5 := Tryd.sizeOf5,
  v5 := Tryd.zeroValue5,
  infoByte := by kernel_rfl,
  cellsByte := by kernel_rfl,
  sizeByte := by kernel_rfl,
  neB5 := by decide }
theorem mixed : Tryd.prog.follows .mixedOrders = true := by kernel_rfl
@[reducible] def i64 (n : Int) : SV := .c (.int .i64 n)
@[reducible] def bl (b : Bool) : SV := .c (.bool b)
@[reducible] def stv (b : ByteArray) : SV := .c (.str b)
/-- A number that an int holds. -/
def okI (n : Int) : Bool := decide (-9223372036854775808 ≤ n) && decide (n ≤ 9223372036854775807)
theorem okI_iff {n : Int} : okI n = true ↔ -9223372036854775808 ≤ n ∧ n ≤ 9223372036854775807 := by simp [okI]
theorem okI_wf {a : Int} (h : (Lit.int .i64 a).wf = true) : okI a = true := by
  simp [Lit.wf, IntKind.min, IntKind.max, IntKind.signed, IntKind.bits] at h
  rw [okI_iff]; omega
/-- A number's text. -/
def itoaB (n : Int) : ByteArray := ⟨(Lib.itoa n).toArray⟩
def g_itoa : List SV → Option (Bool × TV)
  | [.c (.int .i64 n)] => some (okI n, .s (stv (itoaB n)))
  | _ => none
theorem pow10_at {w : World} (h : TabsAt fun n => w.heap[n]?) : Lib.TabIs Tryd.prog w "internal/strconv.uint64pow10" .u64 Lib.pow10Tab := by
  obtain ⟨t, fr, h1⟩ := h _ (List.mem_singleton.2 rfl)
  unfold Lib.TabIs World.var?
  rw [show Tryd.prog.globalNamed "internal/strconv.uint64pow10" = some 1 by kernel_rfl]
  simp only [Option.bind_some]
  simp only at h1
  rw [h1]
theorem grown_below (w : World) (k : Nat) (os : Array Obj) : Below w.heap.size w (Go.Sort.grow (w.drewN k) os) := by
  refine ⟨rfl, rfl, rfl, by simp [Go.Sort.grow, World.drewN], fun n hn => ?_⟩
  simp only [Go.Sort.grow, World.drewN]
  rw [Array.getElem?_append_left hn]
theorem ok_itoa : SumOk Tryd.prog 23 (libSum g_itoa) := by
  refine sumOk_libT Tryd.func23 (by kernel_rfl) (by kernel_rfl) ?_
  intro X ρ args vs tv w ht h hargs
  unfold g_itoa at h
  split at h
  · rename_i n
    simp only [Option.some.injEq, Prod.mk.injEq] at h
    obtain ⟨h1, rfl⟩ := h
    rw [okI_iff] at h1
    match vs, hargs with
    | [u], ⟨hu, _⟩ =>
      have hu : u = .int .i64 n := hu
      subst hu
      refine (Any.strconv_Itoa itoa_lays n h1.1 h1.2 w (pow10_at ht)).mono ?_
      rintro e w' ⟨rfl, k, os, rfl⟩
      exact ⟨⟨_, rfl, rfl⟩, grown_below w k os⟩
  · cases h

/-! ### Rows of strings -/
def isStr : List CV → Bool
  | [.str _] => true
  | _ => false
def strOf : List CV → ByteArray
  | [.str s] => s
  | _ => .empty
def strsOk (g : Nat → List CV) : Nat → Nat → Bool
  | _, 0 => true
  | i, k + 1 => isStr (g i) && strsOk g (i + 1) k
def strsAt (g : Nat → List CV) (i : Nat) : Nat → List ByteArray
  | 0 => []
  | k + 1 => strOf (g i) :: strsAt g (i + 1) k
def small (s : ByteArray) : Bool := decide (s.size ≤ 1000000)
def joinB (xs : List ByteArray) (sep : ByteArray) : ByteArray := ⟨(Lib.join (xs.map (·.data.toList)) sep.data.toList).toArray⟩
def joinS : Sum := fun args _ => match args with
  | [.c (.slc b i n), .c (.str sep)] => .rd b fun
    | .vec 1 _ c | .ro 1 c => .br (decide (i + n ≤ c.size) && strsOk c.get i n && decide (0 < n) && decide (n ≤ 1000) && small sep && (strsAt c.get i n).all small) (cvE (.str (joinB (strsAt c.get i n) sep))) .fail
    | _ => .fail
  | _ => .fail
theorem strsOk_get {g : Nat → List CV} : ∀ {n i : Nat}, strsOk g i n = true → ∀ j, j < n → g (i + j) = [.str (strOf (g (i + j)))]
  | n + 1, i, h, j, hj => by
    simp only [strsOk, Bool.and_eq_true] at h
    cases j with
    | zero =>
      have h1 := h.1
      unfold isStr at h1
      split at h1
      · rename_i s hs
        rw [Nat.add_zero, hs]; rfl
      · cases h1
    | succ j =>
      have := strsOk_get h.2 j (by omega)
      rwa [show i + 1 + j = i + (j + 1) by omega] at this
theorem strsAt_length {g : Nat → List CV} : ∀ {n i : Nat}, (strsAt g i n).length = n
  | 0, _ => rfl
  | n + 1, i => by simp [strsAt, strsAt_length]
theorem strsAt_get {g : Nat → List CV} : ∀ {n i j : Nat} {x : ByteArray}, (strsAt g i n)[j]? = some x → j < n ∧ x = strOf (g (i + j))
  | 0, _, _, _, h => by simp [strsAt] at h
  | n + 1, i, 0, x, h => by simp [strsAt] at h; exact ⟨by omega, h.symm⟩
  | n + 1, i, j + 1, x, h => by
    rw [strsAt, List.getElem?_cons_succ] at h
    have := strsAt_get h
    rw [show i + 1 + j = i + (j + 1) by omega] at this
    exact ⟨by omega, this.2⟩
theorem join_len (sep : ByteArray) (hs : sep.size ≤ 1000000) : ∀ (xs : List ByteArray), (∀ x ∈ xs, x.size ≤ 1000000) → (Lib.join (xs.map (·.data.toList)) sep.data.toList).length ≤ xs.length * 2000000 := by
  intro xs
  cases xs with
  | nil => intro _; simp [Lib.join]
  | cons x r =>
    intro h
    have hl : ∀ (l : List ByteArray), (∀ x ∈ l, x.size ≤ 1000000) → Lib.lens (l.map (·.data.toList)) ≤ l.length * 1000000 := by
      intro l
      induction l with
      | nil => intro _; simp [Lib.lens]
      | cons y t ih =>
        intro h
        have h1 := h y (by simp)
        have h2 := ih fun x hx => h x (by simp [hx])
        have h3 : y.data.toList.length = y.size := rfl
        have h4 : Lib.lens ((y :: t).map (·.data.toList)) = y.data.toList.length + Lib.lens (t.map (·.data.toList)) := by simp only [Lib.lens, List.map_cons, List.sum_cons]
        simp only [List.length_cons]
        omega
    have h1 := Lib.join_length x.data.toList (r.map (·.data.toList)) sep.data.toList
    have h2 := hl (x :: r) h
    have h3 : sep.data.toList.length = sep.size := rfl
    simp only [List.map_cons, List.length_map, List.length_cons, h3, Nat.add_sub_cancel] at h1 h2 ⊢
    have h4 := Nat.mul_le_mul_right r.length hs
    omega
theorem ok_join : SumOk Tryd.prog 18 joinS := by
  refine ⟨⟨_, Tryd.func18, by kernel_rfl, by kernel_rfl⟩, ?_⟩
  intro C w1 S ρ look w args vs nx e rds hargs H _ hs
  unfold joinS at hs
  split at hs
  · rename_i b i n sep
    obtain ⟨sb, m, hb, hs, _⟩ := rd_sem.1 hs
    match vs, hargs with
    | [u, v], ⟨hu, hv, _⟩ =>
    have hv : v = .string sep := hv
    subst hv
    obtain ⟨l, q1, q2⟩ := hu
    obtain ⟨l1, hl1, hblk⟩ := H.blk b sb hb
    rw [q1] at hl1
    cases hl1
    have main : ∀ (c : Content), (l.nil = false → ∃ arr t fr, w.heap[l.blk]? = some (.cells arr t fr) ∧ l.es = 1 ∧ RowR (CV.R C.X noRho) arr.toList l.off 1 c) →
        (Tr.br (decide (i + n ≤ c.size) && strsOk c.get i n && decide (0 < n) && decide (n ≤ 1000) && small sep && (strsAt c.get i n).all small) (cvE (.str (joinB (strsAt c.get i n) sep))) .fail).sem look = some (e, m) →
        Calls Tryd.prog 18 [u, .string sep].toArray w fun x w' => ∃ v ρ', x = .returned v ∧ ρ.le ρ' ∧ Dom ρ ρ' nx e.nw.length ∧ e.sv.R C.X ρ' v ∧ HRep C w1 S ρ' (upd look e nx) w' := by
      intro c hc hs
      obtain ⟨h1, hs⟩ := br_sem.1 hs
      rw [cv_sem] at hs; cases hs
      simp only [Bool.and_eq_true, decide_eq_true_eq, small, List.all_eq_true] at h1
      obtain ⟨⟨⟨⟨⟨h1, h2⟩, h3⟩, h4⟩, h5⟩, h6⟩ := h1
      rcases q2 with ⟨_, _, q3⟩ | ⟨q3, A, cap, rfl, q5, q6, q7⟩
      · omega
      obtain ⟨arr, t, fr, g1, g2, g3⟩ := hc q3
      have hA := q7 (by omega)
      rw [g2, Nat.mul_one] at hA
      subst hA
      have hlen : (Lib.join ((strsAt c.get i n).map (·.data.toList)) sep.data.toList).length ≤ 140737488355328 := by
        have := join_len sep h5 (strsAt c.get i n) h6
        rw [strsAt_length] at this
        omega
      have := Any.strings_Join join_lays join_extra l.blk (l.off + i) cap (strsAt c.get i n) sep w ?_ (Array.getElem?_eq_some_iff.1 g1).1 (by rw [strsAt_length]; omega) (by rw [strsAt_length]; exact q5) hlen
      · rw [strsAt_length] at this
        refine this.mono ?_
        rintro x w' ⟨rfl, hbel⟩
        exact ⟨_, ρ, rfl, Rho.le.refl _, fun b l hh => .inl hh, rfl, by rw [upd_nil]; exact H.below hbel⟩
      · intro j x hx
        obtain ⟨k1, rfl⟩ := strsAt_get hx
        have k2 := strsOk_get h2 j k1
        obtain ⟨k3, _⟩ := g3 (i + j) (by omega)
        rw [k2] at k3
        obtain ⟨y, us, k4, k5, _⟩ := k3.cons_inv
        have k5 : y = .string (strOf (c.get (i + j))) := k5
        subst k5
        have k6 : arr.toList[l.off + (i + j) * 1]? = some (.string (strOf (c.get (i + j)))) := by
          have := congrArg (·[0]?) k4
          simpa using this
        unfold World.cell?
        simp only [g1]
        rw [Nat.mul_one, ← Nat.add_assoc, Array.getElem?_toList] at k6
        exact k6
    split at hs
    · rename_i pre c
      refine main c (fun hn => ?_) hs
      rcases hblk with ⟨hn', _⟩ | ⟨⟨_, hes⟩, arr, ty, harr, _, _, _, _, hrow⟩
      · rw [hn] at hn'; cases hn'
      · rw [hes] at hrow
        exact ⟨arr, ty, _, harr, hes, hrow⟩
    · rename_i c
      by_cases hz : c.size = 0
      · obtain ⟨h1, _⟩ := br_sem.1 hs
        simp only [Bool.and_eq_true, decide_eq_true_eq] at h1
        obtain ⟨⟨⟨⟨⟨h1, h2⟩, h3⟩, h4⟩, h5⟩, h6⟩ := h1
        omega
      refine main c (fun hn => ?_) hs
      obtain ⟨hes, h0 | ⟨arr, ty, fr, _, harr, hrow⟩⟩ := hblk
      · omega
      · rw [hes] at hrow
        exact ⟨arr, ty, fr, harr, hes, hrow⟩
    · cases fail_sem.1 hs
  · cases fail_sem.1 hs
end Go.Proofs.YtkkacjmjjhjpeaaDoor.St

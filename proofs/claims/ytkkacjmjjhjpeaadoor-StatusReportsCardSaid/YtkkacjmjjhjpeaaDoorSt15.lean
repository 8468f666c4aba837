/- The program's Report, whole; its summary. No condition beyond those that each theorem names. -/
import Derived.Test.YtkkacjmjjhjpeaaDoorSt14
set_option maxRecDepth 100000
set_option linter.unusedSimpArgs false
set_option linter.unusedVariables false
namespace Go.Proofs.YtkkacjmjjhjpeaaDoor.St
open Go Go.Proofs.YtkkacjmjjhjpeaaDoor.Sx Go.Shelf Go.RowKit

theorem frame17 {t : Array Value} (h : t.size = 17) : ∃ x0 x1 x2 x3 x4 x5 x6 x7 x8 x9 x10 x11 x12 x13 x14 x15 x16, t = #[x0, x1, x2, x3, x4, x5, x6, x7, x8, x9, x10, x11, x12, x13, x14, x15, x16] := by
  obtain ⟨l⟩ := t
  match l, h with
  | [x0, x1, x2, x3, x4, x5, x6, x7, x8, x9, x10, x11, x12, x13, x14, x15, x16], _ => exact ⟨x0, x1, x2, x3, x4, x5, x6, x7, x8, x9, x10, x11, x12, x13, x14, x15, x16, rfl⟩
theorem rep_calls {w : World} {l : Sx.Loc} {n : Nat} {f : Nat → Rp} {ad : Option Addr} {cap : Nat} (hs : SlcR l 0 n (.slice ad n cap)) (hr : RowAt l n f w) (ht : TabsAt fun i => w.heap[i]?) (hok : ∀ j, j < n → okR (f j) = true) (hn : n ≤ 1000) :
    Calls Tryd.prog 15 #[.slice ad n cap] w fun e w' => e = .returned (.string ⟨(linesL f n).toArray⟩) ∧ Below w.heap.size w w' := by
  have HS := Any.hidJ hs
  have HR := Any.hidJ hr
  have HT := Any.hidJ ht
  have HO := Any.hidJ hok
  clear hs hr ht hok
  go_enter Tryd.func15, Tryd.ntmps15
  go_wp2
  rename_i Q' K hK
  have hend : ∀ a w1, Hd w l n f n a w1 → Exit.inBlock 0 (Exit.then K Q') (.exit 0) a w1 := by
    intro a w1 hd
    have h0 : Exit.inBlock 0 (Exit.then K Q') (.exit 0) a w1 = K a w1 := by simp [Exit.inBlock, Exit.then]
    rw [h0]
    refine hK a w1 ?_
    obtain ⟨x0, x1, x2, x3, x4, x5, x6, x7, x8, x9, x10, x11, x12, x13, x14, x15, x16, hx⟩ := frame17 hd.sl.size
    have h3 := hd.sl.s3
    have hdf := hd.sl.defers
    obtain ⟨tm, df⟩ := a
    simp only at hx hdf h3
    subst hx hdf
    have h3 : x3 = .pointer (some ⟨w.heap.size, 0, none⟩) := by simpa using h3
    subst h3
    have HD := Any.hidJ hd.bld
    have HB := Any.hidJ hd.below
    clear hd h0 hK
    go_wp2_with fail
    refine (Any.Builder_String_any { join_lays with } join_extra w.heap.size w.heap.size _ w1 HD.out HB.out.size).mono ?_
    rintro e w5 ⟨rfl, hb5⟩
    have Hb5 := Any.hidJ (HB.out.trans hb5)
    clear hb5
    go_wp2
    go_ret
    exact ⟨rfl, Hb5.out⟩
  refine wp_loop (fun a w' => ∃ k, k ≤ n ∧ Hd w l n f k a w') (fun a _ => n - (intOf (a.tmps.getD 8 undef)).toNat) ?_ ?_
  · refine ⟨0, Nat.zero_le _, ⟨rfl, rfl, rfl, ⟨_, rfl, HS.out⟩, rfl, rfl⟩, Lib.fresh_isBuilder 54 5 w, (Below.refl w.heap.size w).alloc (Nat.le_refl _) _⟩
  · rintro a w' ⟨k, hk, h⟩
    refine Code.wp_mono ?_ (rep_round (Q := Exit.inBlock 0 (Exit.then K Q')) HR.out HT.out HO.out hn hend hk h)
    intro e a' w'' q
    cases e with
    | normal =>
      obtain ⟨k', h1, h2, h3⟩ := q
      refine ⟨⟨k', h1, h3⟩, ?_⟩
      have e1 : a.tmps.getD 8 undef = .int .i64 (k : Int) := by rw [Array.getD_eq_getD_getElem?, h.sl.s8]; rfl
      have e2 : a'.tmps.getD 8 undef = .int .i64 (k' : Int) := by rw [Array.getD_eq_getD_getElem?, h3.sl.s8]; rfl
      simp only [e1, e2, intOf, Int.toNat_natCast]
      omega
    | _ => exact q
/-- Rows of replies whose numbers are ints. -/
def rpOk (c : List CV) : Bool := match decRp c with
  | some r => okR r
  | none => false
def rpsOk (g : Nat → List CV) : Nat → Nat → Bool
  | _, 0 => true
  | i, k + 1 => rpOk (g i) && rpsOk g (i + 1) k
theorem rpsOk_get {g : Nat → List CV} : ∀ {n i : Nat}, rpsOk g i n = true → ∀ j, j < n → g (i + j) = encRp (decRpD (g (i + j))) ∧ okR (decRpD (g (i + j))) = true
  | n + 1, i, h, j, hj => by
    simp only [rpsOk, Bool.and_eq_true] at h
    cases j with
    | zero =>
      have h1 := h.1
      unfold rpOk at h1
      split at h1
      · rename_i r hr
        have := decRp_spec _ _ hr
        rw [Nat.add_zero, this, backRp]
        exact ⟨rfl, h1⟩
      · cases h1
    | succ j =>
      have := rpsOk_get h.2 j (by omega)
      rwa [show i + 1 + j = i + (j + 1) by omega] at this
theorem rpsOk_of {g : Nat → List CV} {f : Nat → Rp} : ∀ {n i : Nat}, (∀ j, j < n → g (i + j) = encRp (f j) ∧ okR (f j) = true) → rpsOk g i n = true
  | 0, _, _ => rfl
  | n + 1, i, h => by
    have h0 := h 0 (by omega)
    have h1 : decRp (encRp (f 0)) = some (f 0) := rfl
    rw [rpsOk, rpsOk_of (f := fun j => f (j + 1)) fun j hj => by
      have := h (j + 1) (by omega)
      rwa [show i + (j + 1) = i + 1 + j by omega] at this]
    rw [Nat.add_zero] at h0
    rw [h0.1, rpOk, h1]
    simp [h0.2]
def repB (g : Nat → List CV) (i n : Nat) : ByteArray := ⟨(linesL (fun j => decRpD (g (i + j))) n).toArray⟩
def repS : Sum := fun args _ => match args with
  | [.c (.slc b i n)] => .rd b fun
    | .vec 21 _ c | .ro 21 c => .br (decide (i + n ≤ c.size) && rpsOk c.get i n && decide (n ≤ 1000)) (cvE (.str (repB c.get i n))) .fail
    | _ => .fail
  | _ => .fail
theorem ok_rep : SumOk Tryd.prog 15 repS := by
  refine ⟨⟨_, Tryd.func15, by kernel_rfl, by kernel_rfl⟩, ?_⟩
  intro C w1 S ρ look w args vs nx e rds hargs H _ hs
  have ht : TabsAt fun i => w.heap[i]? := fun p hp => by
    obtain ⟨t, fr, hh⟩ := C.tabs p hp
    exact ⟨t, fr, (H.out p.1 (C.tabI p hp)).1.trans hh⟩
  unfold repS at hs
  split at hs
  · rename_i b i n
    obtain ⟨sb, m, hb, hs, _⟩ := rd_sem.1 hs
    match vs, hargs with
    | [u], ⟨hu, _⟩ =>
    obtain ⟨l, q1, q2⟩ := hu
    obtain ⟨l1, hl1, hblk⟩ := H.blk b sb hb
    rw [q1] at hl1
    cases hl1
    have main : ∀ (c : Content), (l.nil = false → c.size ≠ 0 → ∃ arr t fr, w.heap[l.blk]? = some (.cells arr t fr) ∧ RowR (CV.R C.X noRho) arr.toList l.off 21 c) → (l.nil = false → l.es = 21) →
        (Tr.br (decide (i + n ≤ c.size) && rpsOk c.get i n && decide (n ≤ 1000)) (cvE (.str (repB c.get i n))) .fail).sem look = some (e, m) →
        Calls Tryd.prog 15 [u].toArray w fun x w' => ∃ v ρ', x = .returned v ∧ ρ.le ρ' ∧ Dom ρ ρ' nx e.nw.length ∧ e.sv.R C.X ρ' v ∧ HRep C w1 S ρ' (upd look e nx) w' := by
      intro c hc hes hs
      obtain ⟨h1, hs⟩ := br_sem.1 hs
      rw [cv_sem] at hs; cases hs
      simp only [Bool.and_eq_true, decide_eq_true_eq] at h1
      obtain ⟨⟨h1, h2⟩, h3⟩ := h1
      have fin : ∀ (l' : Sx.Loc) (ad : Option Addr) (cap : Nat), u = .slice ad n cap → SlcR l' 0 n u → RowAt l' n (fun j => decRpD (c.get (i + j))) w →
          Calls Tryd.prog 15 [u].toArray w fun x w' => ∃ v ρ', x = .returned v ∧ ρ.le ρ' ∧ Dom ρ ρ' nx 0 ∧ (CV.str (repB c.get i n)).R C.X ρ' v ∧ HRep C w1 S ρ' (upd look ⟨.s (.c (.str (repB c.get i n))), [], []⟩ nx) w' := by
        rintro l' ad cap rfl hsl hrow
        refine (rep_calls hsl hrow ht (fun j hj => (rpsOk_get h2 j hj).2) h3).mono ?_
        rintro x w' ⟨rfl, hbel⟩
        exact ⟨_, ρ, rfl, Rho.le.refl _, fun b l hh => .inl hh, rfl, by rw [upd_nil]; exact H.below hbel⟩
      rcases q2 with ⟨_, hv, hz⟩ | ⟨q3, A, cap, hv, q5, q6, q7⟩
      · subst hz
        exact fin ⟨0, 0, 21, 0, true⟩ none 0 hv (.inl ⟨rfl, hv, rfl⟩) ⟨rfl, .inl rfl⟩
      · refine fin ⟨l.blk, l.off + i * 21, 21, cap, false⟩ (some A) cap hv (.inr ⟨rfl, A, cap, hv, q5, by simp, fun hp => ?_⟩) ⟨rfl, ?_⟩
        · have := q7 hp
          rw [hes q3] at this
          simpa using this
        · by_cases hz : n = 0
          · exact .inl hz
          right
          obtain ⟨arr, t, fr, g1, g2⟩ := hc q3 (by omega)
          refine ⟨arr, t, fr, (Array.getElem?_eq_some_iff.1 g1).1, g1, fun j hj => ?_⟩
          simp only [Content.size] at hj
          have h4 := g2 (i + j) (by omega)
          have h5 := (rpsOk_get h2 j hj).1
          show RL _ (encRp (decRpD (c.get (i + j)))) _ ∧ (encRp (decRpD (c.get (i + j)))).length = _
          rw [← h5]
          rw [show l.off + i * 21 + j * 21 = l.off + (i + j) * 21 by omega]
          refine ⟨?_, h4.2⟩
          have h6 := h4.1
          rw [h5] at h6 ⊢
          exact rl_any (rp_lit _) h6
    split at hs
    · rename_i pre c
      refine main c (fun hn _ => ?_) (fun hn => ?_) hs
      · rcases hblk with ⟨hn', _⟩ | ⟨⟨_, hes⟩, arr, ty, harr, _, _, _, _, hrow⟩
        · rw [hn] at hn'; cases hn'
        · rw [hes] at hrow
          exact ⟨arr, ty, _, harr, hrow⟩
      · rcases hblk with ⟨hn', _⟩ | ⟨⟨_, hes⟩, _⟩
        · rw [hn] at hn'; cases hn'
        · exact hes
    · rename_i c
      refine main c (fun hn hz => ?_) (fun _ => hblk.1) hs
      obtain ⟨hes, h0 | ⟨arr, ty, fr, _, harr, hrow⟩⟩ := hblk
      · exact absurd h0 hz
      · rw [hes] at hrow
        exact ⟨arr, ty, fr, harr, hrow⟩
    · cases fail_sem.1 hs
  · cases fail_sem.1 hs
end Go.Proofs.YtkkacjmjjhjpeaaDoor.St

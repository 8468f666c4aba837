/- A symbolic interpreter over the wp rules, fifth part: arguments with slices of whole numbers inside. No condition beyond those that each theorem names. -/
import Derived.Test.YtendbpghgllphaaSxD
import Derived.Deep.Slices
import Derived.Carry
import Derived.OpenShut
namespace Go.Proofs.Ytendbpghgllphaa.Sx
open Go

/-- Outside slices are known. -/
@[reducible] def outs (w : World) : Ctx := outer w fun _ _ => True
inductive LeafX where
  | int (k : IntKind)
  | bool
  | ints
def LeafXR (w : World) : LeafX → CV → Value → Prop
  | .int k, c, v => ∃ n, c = .int k n ∧ v = .int k n ∧ (Lit.int k n).wf = true
  | .bool, c, v => ∃ b, c = .bool b ∧ v = .bool b
  | .ints, c, v => ∃ u l, c = .xs u l ∧ v = u ∧ (outs w).X u l ∧ (∃ a n k, u = .slice a n k) ∧ ∀ x ∈ l, (Lit.int .i64 x).wf = true
def LeafXRs (w : World) : List LeafX → List CV → List Value → Prop
  | [], [], [] => True
  | l :: ls, c :: cs, v :: vs => LeafXR w l c v ∧ LeafXRs w ls cs vs
  | _, _, _ => False
theorem LeafXRs.append {w : World} : ∀ {a b : List LeafX} {c d : List CV} {v u : List Value}, LeafXRs w a c v → LeafXRs w b d u → LeafXRs w (a ++ b) (c ++ d) (v ++ u)
  | [], _, [], _, [], _, _, h => h
  | _ :: _, _, _ :: _, _, _ :: _, _, h, h' => ⟨h.1, LeafXRs.append h.2 h'⟩
theorem LeafXRs.length {w : World} : ∀ {a : List LeafX} {c : List CV} {v : List Value}, LeafXRs w a c v → c.length = a.length ∧ v.length = a.length
  | [], [], [], _ => ⟨rfl, rfl⟩
  | _ :: _, _ :: _, _ :: _, h => by simp [(LeafXRs.length h.2).1, (LeafXRs.length h.2).2]
theorem LeafXR.cv {w : World} {ρ : Rho} {l : LeafX} {c : CV} {v : Value} (h : LeafXR w l c v) : CV.R (outs w).X ρ c v := by
  cases l with
  | int k => obtain ⟨n, rfl, rfl, _⟩ := h; rfl
  | bool => obtain ⟨b, rfl, rfl⟩ := h; rfl
  | ints => obtain ⟨u, l, rfl, rfl, h1, h2, _⟩ := h; exact ⟨rfl, h1, h2⟩
theorem LeafXRs.rl {w : World} {ρ : Rho} : ∀ {a : List LeafX} {c : List CV} {v : List Value}, LeafXRs w a c v → RL (CV.R (outs w).X ρ) c v
  | [], [], [], _ => trivial
  | _ :: _, _ :: _, _ :: _, h => ⟨h.1.cv, LeafXRs.rl h.2⟩

theorem LeafXRs.cons_inv {w : World} {l : LeafX} {ls : List LeafX} {cvs : List CV} {vs : List Value} (h : LeafXRs w (l :: ls) cvs vs) : ∃ c cs v vs', cvs = c :: cs ∧ vs = v :: vs' ∧ LeafXR w l c v ∧ LeafXRs w ls cs vs' := by
  match cvs, vs, h with
  | c :: cs, v :: vs, h => exact ⟨c, cs, v, vs, rfl, rfl, h.1, h.2⟩
theorem LeafXRs.nil_inv {w : World} {cvs : List CV} {vs : List Value} (h : LeafXRs w [] cvs vs) : cvs = [] ∧ vs = [] := by
  match cvs, vs, h with
  | [], [], _ => exact ⟨rfl, rfl⟩

def leavesXF (P : Program) (g : TypeId → Option (List LeafX)) : List Field → Nat → Option (List LeafX)
  | [], _ => some []
  | f :: r, o => match g f.type with
    | some ls => cond (Nat.beq f.offset o && Nat.beq (P.cellsOf f.type) ls.length) (match leavesXF P g r (o + ls.length) with
      | some l => some (ls ++ l)
      | none => none) none
    | none => none
def repX (ls : List LeafX) : Nat → List LeafX
  | 0 => []
  | n + 1 => ls ++ repX ls n
def leavesXT (P : Program) : Nat → TypeId → Option (List LeafX)
  | 0, _ => none
  | d + 1, t => match P.underlying t with
    | some .bool => some [.bool]
    | some (.int k) => some [.int k]
    | some (.slice e) => match P.underlying e with
      | some (.int .i64) => cond (Nat.beq (P.cellsOf e) 1) (some [.ints]) none
      | _ => none
    | some (.struct fs) => match leavesXF P (leavesXT P d) fs.toList 0 with
      | some ls => cond (Nat.beq (P.cellsOf t) ls.length) (some ls) none
      | none => none
    | some (.array n e) => match leavesXT P d e with
      | some ls => cond (Nat.beq (P.cellsOf e) ls.length && Nat.beq (P.cellsOf t) (n * ls.length)) (some (repX ls n)) none
      | none => none
    | _ => none

section
variable {H : Type} {enc : TypeId × Value → H} {P : Program} {w : World} {base : Nat} {spare : Nat → Bool} {held : Bool} {b0 : Nat}

theorem leavesXF_reads {g : TypeId → Option (List LeafX)} {cs : List Value} {fs : Array Field}
    (hg : ∀ f, f ∈ fs.toList → ∀ ls, g f.type = some ls → P.cellsOf f.type = ls.length → ∃ cvs, LeafXRs w ls cvs ((cs.drop f.offset).take (P.cellsOf f.type))) :
    ∀ (r : List Field) (o : Nat) (l : List LeafX), (∀ f, f ∈ r → f ∈ fs.toList) → leavesXF P g r o = some l → ∃ cvs, LeafXRs w l cvs ((cs.drop o).take l.length)
  | [], o, l, _, h => by
    simp only [leavesXF, Option.some.injEq] at h
    subst h
    exact ⟨[], by simp [LeafXRs]⟩
  | f :: r, o, l, hr, h => by
    simp only [leavesXF] at h
    split at h
    · rename_i ls hls
      cases hb : (Nat.beq f.offset o && Nat.beq (P.cellsOf f.type) ls.length) with
      | false => rw [hb] at h; cases h
      | true =>
        rw [hb] at h
        simp only [cond_true] at h
        rw [Bool.and_eq_true] at hb
        have h1 := Nat.eq_of_beq_eq_true hb.1
        have h2 := Nat.eq_of_beq_eq_true hb.2
        split at h
        · rename_i l' hl'
          cases h
          obtain ⟨c1, r1⟩ := hg f (hr f (List.mem_cons_self ..)) ls hls h2
          obtain ⟨c2, r2⟩ := leavesXF_reads hg r (o + ls.length) l' (fun f hf => hr f (List.mem_cons_of_mem _ hf)) hl'
          refine ⟨c1 ++ c2, ?_⟩
          rw [h1, h2] at r1
          rw [List.length_append, List.take_add, List.drop_drop]
          exact r1.append r2
        · cases h
    · cases h

theorem trod_ints {t e : TypeId} {fuel : Nat} {cs : List Value} {x : DataW H × List MemPlace} (hu : P.underlying t = some (.slice e)) (hu' : P.underlying e = some (.int .i64)) (hc : P.cellsOf e = 1)
    (ht : DataW.trod enc P w base spare held fuel t cs = some x) : ∃ cvs, LeafXRs w [.ints] cvs cs := by
  rcases Deep.open_slice1 hu hc ht with ⟨rfl, _⟩ | ⟨a, len, cap, m, n, V, D, Pl, rfl, _, hle, hmax, hm, _, hi⟩
  · exact ⟨[.xs (.slice none 0 0) []], ⟨_, _, rfl, rfl, ⟨trivial, .inl ⟨rfl, rfl⟩⟩, ⟨_, _, _, rfl⟩, fun x hx => by cases hx⟩, trivial⟩
  · have hlm : len ≤ m := by rw [hm]; split <;> omega
    have key : ∀ i, ∃ z : Int, i < len → w.cell? (a.add i) = some (.int .i64 z) ∧ (Lit.int .i64 z).wf = true := by
      intro i
      by_cases hil : i < len
      · obtain ⟨h1, h2⟩ := hi i (by omega)
        obtain ⟨z, h3, _, h4⟩ := DataW.trod_int hu' h2
        have h3 : V i = .int .i64 z := by simpa using h3
        exact ⟨z, fun _ => ⟨by rw [h1, h3], h4⟩⟩
      · exact ⟨0, fun h => absurd h hil⟩
    let f : Nat → Int := fun i => Classical.choose (key i)
    have hf : ∀ i, i < len → w.cell? (a.add i) = some (.int .i64 (f i)) ∧ (Lit.int .i64 (f i)).wf = true := fun i => Classical.choose_spec (key i)
    refine ⟨[.xs (.slice (some a) len cap) ((List.range len).map f)], ⟨_, _, rfl, rfl, ⟨trivial, .inr ⟨a, cap, by simp, by simp; omega, ?_⟩⟩, ⟨_, _, _, rfl⟩, fun x hx => ?_⟩, trivial⟩
    · by_cases hz : 0 < len
      · right
        obtain ⟨h1, _⟩ := hf 0 hz
        obtain ⟨blk, off, spot⟩ := a
        unfold World.cell? at h1
        split at h1
        case h_2 => cases h1
        rename_i arr ty fr harr
        have harr2 : w.heap[blk]? = some (.cells arr ty fr) := by simpa [Addr.add] using harr
        clear harr
        have hs : spot = none := by
          cases spot with
          | none => rfl
          | some s => simp [Addr.add] at h1
        subst hs
        refine ⟨blk, off, arr, ty, fr, rfl, (Array.getElem?_eq_some_iff.1 harr2).1, harr2, fun j x hx => ?_⟩
        rw [List.getElem?_map] at hx
        by_cases hj : j < len
        · rw [List.getElem?_range hj] at hx
          cases hx
          have := (hf j hj).1
          rw [Addr.add_mid] at this
          unfold World.cell? at this
          simp only [harr2] at this
          simpa using this
        · rw [List.getElem?_eq_none (by simpa using hj)] at hx
          cases hx
      · left
        have : len = 0 := by omega
        subst this
        rfl
    · obtain ⟨i, hi', rfl⟩ := List.mem_map.1 hx
      exact (hf i (by simpa using hi')).2

theorem trod_leavesX : ∀ (d : Nat) {t : TypeId} {ls : List LeafX}, leavesXT P d t = some ls → ∀ {fuel : Nat} {cs : List Value} {x : DataW H × List MemPlace}, DataW.trod enc P w base spare held fuel t cs = some x → ∃ cvs, LeafXRs w ls cvs cs
  | 0, _, _, h, _, _, _, _ => by cases h
  | d + 1, t, ls, h, fuel, cs, x, ht => by
    simp only [leavesXT] at h
    split at h
    · rename_i hu
      cases h
      obtain ⟨b, rfl, _⟩ := DataW.trod_bool hu ht
      exact ⟨[.bool b], ⟨b, rfl, rfl⟩, trivial⟩
    · rename_i k hu
      cases h
      obtain ⟨n, rfl, _, hw⟩ := DataW.trod_int hu ht
      exact ⟨[.int k n], ⟨n, rfl, rfl, hw⟩, trivial⟩
    · rename_i e hu
      split at h
      · rename_i hu'
        cases hb : Nat.beq (P.cellsOf e) 1 with
        | false => rw [hb] at h; cases h
        | true =>
          rw [hb] at h
          simp only [cond_true] at h
          cases h
          exact trod_ints hu hu' (Nat.eq_of_beq_eq_true hb) ht
      · cases h
    · rename_i fs hu
      split at h
      · rename_i l hl
        cases hb : Nat.beq (P.cellsOf t) l.length with
        | false => rw [hb] at h; cases h
        | true =>
          rw [hb] at h
          simp only [cond_true] at h
          cases h
          obtain ⟨ys, n', _, _, hlen, hyl, hf⟩ := DataW.trod_struct hu ht
          have hb := Nat.eq_of_beq_eq_true hb
          have := leavesXF_reads (P := P) (g := leavesXT P d) (cs := cs) (fs := fs) (fun f hfm ls' hls' hc => by
            obtain ⟨i, hi, rfl⟩ := List.getElem_of_mem hfm
            have hi' : i < fs.size := by simpa using hi
            have h1 := hf i fs[i] (by simp)
            have h2 : ys[i]? = some (ys[i]'(by rw [hyl]; exact hi')) := List.getElem?_eq_getElem _
            rw [h2] at h1
            simp only [Array.getElem_toList] at hls' ⊢
            exact trod_leavesX d hls' h1) fs.toList 0 _ (fun f hf => hf) hl
          rw [List.drop_zero, List.take_of_length_le (by omega)] at this
          exact this
      · cases h
    · rename_i n e hu
      split at h
      · rename_i l hl
        cases hb : (Nat.beq (P.cellsOf e) l.length && Nat.beq (P.cellsOf t) (n * l.length)) with
        | false => rw [hb] at h; cases h
        | true =>
          rw [hb] at h
          simp only [cond_true] at h
          cases h
          rw [Bool.and_eq_true] at hb
          have h1 := Nat.eq_of_beq_eq_true hb.1
          have h2 := Nat.eq_of_beq_eq_true hb.2
          obtain ⟨ys, n', _, _, hlen, hyl, hf⟩ := DataW.trod_array hu ht
          have key : ∀ (k i : Nat), i + k = n → ∃ cvs, LeafXRs w (repX l k) cvs ((cs.drop (i * l.length)).take (k * l.length)) := by
            intro k
            induction k with
            | zero => intro i _; exact ⟨[], by simp [repX, LeafXRs]⟩
            | succ k ih =>
              intro i hik
              have h3 := hf i (by omega)
              have h4 : ys[i]? = some (ys[i]'(by omega)) := List.getElem?_eq_getElem _
              rw [h4] at h3
              obtain ⟨c1, r1⟩ := trod_leavesX d hl h3
              obtain ⟨c2, r2⟩ := ih (i + 1) (by omega)
              refine ⟨c1 ++ c2, ?_⟩
              rw [h1] at r1
              rw [show (k + 1) * l.length = l.length + k * l.length by rw [Nat.add_mul, Nat.one_mul, Nat.add_comm], List.take_add, List.drop_drop, repX]
              rw [show i * l.length + l.length = (i + 1) * l.length by rw [Nat.add_mul, Nat.one_mul]]
              exact r1.append r2
          obtain ⟨c, r⟩ := key n 0 (by omega)
          rw [Nat.zero_mul, List.drop_zero, List.take_of_length_le (by omega)] at r
          exact ⟨c, r⟩
      · cases h
    · cases h

/-- An argument that is a struct or an array of whole numbers and booleans. -/
theorem open_flatX {r : Reach} {d : Nat} {t : TypeId} {ls : List LeafX} {v : Value} {dd : DataW H} {p : List MemPlace} (hl : leavesXT P d t = some ls) (hagg : (match P.underlying t with
      | some (.struct _) | some (.array _ _) => true
      | _ => false) = true)
    (hv : Value.okWide P w r b0 t v) (h : DataW.Trod enc P w base spare held t v dd p) : ∃ cvs vs, LeafXRs w ls cvs vs ∧ v = .agg vs.toArray := by
  obtain ⟨fuel, hf⟩ := h
  have : ∃ cs, v = .agg cs := by
    unfold Value.okWide at hv
    split at hv
    · obtain ⟨cs, h, _⟩ := hv; exact ⟨cs, h⟩
    · obtain ⟨cs, h, _⟩ := hv; exact ⟨cs, h⟩
    · rename_i h1 h2
      split at hagg
      · rename_i hu; exact absurd hu (h1 _)
      · rename_i hu; exact absurd hu (h2 _ _)
      · cases hagg
  obtain ⟨cs, rfl⟩ := this
  obtain ⟨cvs, hr⟩ := trod_leavesX d hl hf
  exact ⟨cvs, cs.toList, hr, by simp⟩

/-- An argument that is a slice of such. -/
theorem open_flatsX {α : Type} [Inhabited α] {enc' : α → List CV} {Q : α → Prop} {ρ : Rho} {d : Nat} {t e : TypeId} {ls : List LeafX} {v : Value} {dd : DataW H} {p : List MemPlace} (hu : P.underlying t = some (.slice e)) (hl : leavesXT P d e = some ls) (hc : P.cellsOf e = ls.length) (h0 : 0 < ls.length)
    (hdec : ∀ cvs vs, LeafXRs w ls cvs vs → ∃ x, cvs = enc' x ∧ Q x)
    (hv : Value.okWide P w .any b0 t v) (h : DataW.Trod enc P w 0 (fun _ => true) true t v dd p) :
    ∃ (n : Nat) (f : Nat → α) (l : Loc), (∀ i, i < n → Q (f i)) ∧ n ≤ maxLen ∧ SlcR l 0 n v ∧ BlkR (outs w) ρ l (.ro ls.length (.gen n fun i => enc' (f i))) w := by
  obtain ⟨a', len', cap', rfl⟩ := WideShapes.okWide_slice hu hv
  obtain ⟨fuel, hf⟩ := h
  rcases Deep.open_slice hu hf with ⟨hcs, _⟩ | ⟨a, len, cap, m, n, D, Pl, hcs, _, hle, hmax, hm, _, hi⟩
  · simp [Value.cells] at hcs
    obtain ⟨rfl, rfl, rfl⟩ := hcs
    exact ⟨0, fun _ => default, ⟨0, 0, ls.length, 0, true⟩, fun i hi => absurd hi (Nat.not_lt_zero i), Nat.zero_le _, .inl ⟨rfl, rfl, rfl⟩, rfl, .inl rfl⟩
  · simp [Value.cells] at hcs
    obtain ⟨rfl, rfl, rfl⟩ := hcs
    have hm : m = cap' := by simpa using hm
    subst hm
    have key : ∀ i, ∃ x, i < m → ∃ vs, w.cells? 0 (a.add (i * ls.length)) ls.length = some vs ∧ LeafXRs w ls (enc' x) vs ∧ Q x := by
      intro i
      by_cases him : i < m
      · obtain ⟨cs', h1, h2⟩ := hi i him
        obtain ⟨cvs, h3⟩ := trod_leavesX d hl h2
        obtain ⟨x, rfl, hq⟩ := hdec _ _ h3
        rw [hc] at h1
        exact ⟨x, fun _ => ⟨cs', h1, h3, hq⟩⟩
      · exact ⟨default, fun h => absurd h him⟩
    let f : Nat → α := fun i => Classical.choose (key i)
    have hf' : ∀ i, i < m → ∃ vs, w.cells? 0 (a.add (i * ls.length)) ls.length = some vs ∧ LeafXRs w ls (enc' (f i)) vs ∧ Q (f i) := fun i => Classical.choose_spec (key i)
    refine ⟨len', f, ⟨a.block, a.off, ls.length, m, false⟩, fun i hi => ?_, by omega, .inr ⟨rfl, a, m, rfl, hle, by simp, ?_⟩, ?_⟩
    · obtain ⟨_, _, _, h⟩ := hf' i (by omega)
      exact h
    all_goals by_cases hz : 0 < m
    case neg => intro h; exact absurd h hz
    case neg => exact ⟨rfl, .inl (by simp [Content.size]; omega)⟩
    all_goals
      obtain ⟨vs, h1, h2, _⟩ := hf' 0 hz
      obtain ⟨_, h3, h4⟩ := World.cells?_some h1
      have h5 := h4 0 h0
      have h6 : vs[0]? = some vs[0] := List.getElem?_eq_getElem (by omega)
      rw [h6] at h5
      have ha : (a.add (0 * ls.length)).add 0 = a := by simp [Addr.add]
      rw [ha] at h5
      obtain ⟨blk, off, spot⟩ := a
      unfold World.cell? at h5
      split at h5
      case h_2 => cases h5
      rename_i arr ty fr harr
      have hs : spot = none := by
        cases spot with
        | none => rfl
        | some s => simp at h5
      subst hs
    · intro _; simp
    · refine ⟨rfl, .inr ⟨arr, ty, fr, ?_, harr, ?_⟩⟩
      · exact (Array.getElem?_eq_some_iff.1 harr).1
      · intro i hi
        simp only [Content.size] at hi
        obtain ⟨us, g1, g2, _⟩ := hf' i (by omega)
        obtain ⟨_, g3, g4⟩ := World.cells?_some g1
        have e : us = (arr.toList.drop (off + i * ls.length)).take ls.length := by
          apply List.ext_getElem?
          intro j
          by_cases hj : j < ls.length
          · have := g4 j hj
            rw [Addr.add_mid, Addr.add_mid] at this
            unfold World.cell? at this
            rw [harr] at this
            simp only [Option.isSome_none, Bool.false_eq_true, if_false] at this
            rw [← this, List.getElem?_take_of_lt hj, List.getElem?_drop, Array.getElem?_toList]
          · rw [List.getElem?_eq_none (by omega), List.getElem?_eq_none (by simp; omega)]
        refine ⟨?_, (LeafXRs.length g2).1⟩
        rw [← e]
        exact g2.rl
end

end Go.Proofs.Ytendbpghgllphaa.Sx

namespace Go.Proofs.Ytendbpghgllphaa.Sx
open Go
section
variable {P : Program}

/-- A summary that says what another one says of the same call. -/
theorem SumOk.imp {f : FuncId} {s s' : Sum} (h : SumOk P f s) (hi : ∀ args nx look e rds, (s' args nx).sem look = some (e, rds) → ∃ rds', (s args nx).sem look = some (e, rds')) : SumOk P f s' :=
  ⟨h.1, fun C w1 S ρ look w args vs nx e rds ha H hn hs => by
    obtain ⟨rds', hs'⟩ := hi args nx look e rds hs
    exact h.2 C w1 S ρ look w args vs nx e rds' ha H hn hs'⟩

/-- What comes of a call, by cases. -/
inductive Cs where
  | out (x : Out)
  | br (b : Bool) (t e : Cs)
  | no
def Cs.pick : Cs → Option Out
  | .out x => some x
  | .br b t e => cond b t.pick e.pick
  | .no => none
def Cs.run {R : Type} (c : Cs) (K : TV → List (Option SB) → Option R) : Option R := match c with
  | .out x => K x.tv (x.hp ++ x.nw.map some)
  | .br b t e => cond b (t.run K) (e.run K)
  | .no => none
theorem Cs.run_pick {R : Type} {K : TV → List (Option SB) → Option R} {x : Out} : ∀ {c : Cs}, c.pick = some x → c.run K = K x.tv (x.hp ++ x.nw.map some)
  | .out y, h => by cases h; rfl
  | .br b t e, h => by
    cases b
    · exact Cs.run_pick (c := e) h
    · exact Cs.run_pick (c := t) h
  | .no, h => by cases h
def Cs.tr (f : Out → Tr Eff) : Cs → Tr Eff
  | .out x => f x
  | .br b t e => .br b (t.tr f) (e.tr f)
  | .no => .fail
theorem Cs.tr_pick {f : Out → Tr Eff} {look : Look} {r : Eff × List Nat} : ∀ {c : Cs}, (c.tr f).sem look = some r → ∃ x, c.pick = some x ∧ (f x).sem look = some r
  | .out x, h => ⟨x, rfl, h⟩
  | .br b t e, h => by
    cases b
    · exact Cs.tr_pick (c := e) h
    · exact Cs.tr_pick (c := t) h
  | .no, h => by cases h
def genOut (ks : List Nat) (nx : Nat) (x : Out) : Tr Eff := cond (Nat.beq x.hp.length ks.length && ks.all fun b => Nat.blt b nx) (.br x.pre
    (.ret ⟨x.tv.ren (backOf ks nx (ks.length + x.nw.length)), ks.zip (x.hp.map fun s => s.map (SB.ren (backOf ks nx (ks.length + x.nw.length)))), x.nw.map (SB.ren (backOf ks nx (ks.length + x.nw.length)))⟩) .fail) .fail
def genSumT (g : List SV → List SB → Cs) : Sum := fun args nx => clo 60 (args.flatMap SV.ids) [] [] fun ks sbs =>
  (g (args.map (SV.ren fun b => posOf b ks 0)) (sbs.map (SB.ren fun b => posOf b ks 0))).tr (genOut ks nx)
theorem clo_imp {β : Type} {look : Look} {K K' : List Nat → List SB → Tr β} (hK : ∀ ks sbs r rds, (K' ks sbs).sem look = some (r, rds) → ∃ rds', (K ks sbs).sem look = some (r, rds')) {r : β} :
    ∀ {k : Nat} {todo ks : List Nat} {sbs : List SB} {rds : List Nat}, (clo k todo ks sbs K').sem look = some (r, rds) → ∃ rds', (clo k todo ks sbs K).sem look = some (r, rds')
  | 0, _, _, _, _, h => by cases fail_sem.1 h
  | k + 1, [], ks, sbs, rds, h => hK ks sbs r rds h
  | k + 1, b :: todo, ks, sbs, rds, h => by
    unfold clo at h ⊢
    cases hm : memN b ks with
    | true => rw [hm] at h; exact clo_imp hK h
    | false =>
      rw [hm] at h
      obtain ⟨s, rds', hs, h', _⟩ := rd_sem.1 h
      obtain ⟨rds2, h2⟩ := clo_imp hK h'
      exact ⟨b :: rds2, rd_sem.2 ⟨s, rds2, hs, h2, rfl⟩⟩
theorem sumOk_genT {f : FuncId} {g : List SV → List SB → Cs} (h : SumOk P f (genSum fun a hp => (g a hp).pick)) : SumOk P f (genSumT g) := by
  refine h.imp fun args nx look e rds hs => ?_
  unfold genSumT at hs
  unfold genSum
  refine clo_imp (fun ks sbs r rds hr => ?_) hs
  obtain ⟨x, h1, h2⟩ := Cs.tr_pick hr
  refine ⟨rds, ?_⟩
  rw [opt_sem]
  exact ⟨x, h1, h2⟩

/-- A summary by cases: what its function's body comes to is just these cases. -/
theorem sumOk_cs {Su : Sums} (hS : SumsOk P Su) (hm : P.follows .mixedOrders = true) {f : FuncId} {fn : Func} {c : Code} (hf : P.funcs[f]? = some fn) (hb : fn.body = some c) (hname : (fn.name == "runtime.NumGoroutine") = false) {g : List SV → List SB → Cs}
    (h : ∀ args hp x, (g args hp).pick = some x → ∃ L fuel, LoopsOk P Su L fuel hp.length (resMask fn.results.toList) (loopsOf (resMask fn.results.toList) c [] (resMask fn.results.toList)) ∧ runFnL P Su L fuel fn c args hp (fun tv hp => some (tv, hp)) = (g args hp).run fun tv hp => some (tv, hp)) : SumOk P f (genSumT g) :=
  sumOk_genT (sumOk_genL hS hm hf hb hname fun args hp x h1 _ _ => by
    obtain ⟨L, fuel, h2, h3⟩ := h args hp x h1
    exact ⟨L, fuel, h2, by rw [h3, Cs.run_pick h1]⟩)

/-- The same, its nil slices in structs being rows. -/
def denilE (nx : Nat) (e : Eff) : Eff := match denilH (nx + e.nw.length) (e.nw.map some) with
  | some l => match l.mapM id with
    | some nw => ⟨e.sv, e.wr, nw ++ [nilRow]⟩
    | none => e
  | none => e
def denilS (s : Sum) : Sum := fun args nx => (s args nx).bind fun e => .ret (denilE nx e)
theorem mapM_id : ∀ {l : List (Option SB)} {r : List SB}, l.mapM id = some r → l = r.map some
  | [], r, h => by simp at h; subst h; rfl
  | none :: l, r, h => by simp at h
  | some x :: l, r, h => by
    simp only [List.mapM_cons, id_eq, Option.bind_eq_bind, Option.bind_some, Option.pure_def, Option.bind_eq_some_iff, Option.some.injEq] at h
    obtain ⟨r', h1, h2⟩ := h
    subst h2
    rw [mapM_id h1]
    rfl
theorem sumOk_denil {f : FuncId} {s : Sum} (h : SumOk P f s) : SumOk P f (denilS s) := by
  refine ⟨h.1, fun C w1 S ρ look w args vs nx e rds ha H hn hs => ?_⟩
  unfold denilS at hs
  obtain ⟨e0, r1, r2, h1, h2, _⟩ := Tr.sem_bind hs
  rw [ret_sem] at h2
  cases h2
  by_cases hc : ∃ l nw, denilH (nx + e0.nw.length) (e0.nw.map some) = some l ∧ l.mapM id = some nw
  · obtain ⟨l, nw, g1, g2⟩ := hc
    have he : denilE nx e0 = ⟨e0.sv, e0.wr, nw ++ [nilRow]⟩ := by
      unfold denilE
      rw [g1]
      simp only
      rw [g2]
    rw [he] at hn ⊢
    obtain ⟨b, cs, cs', k1, k2, k3⟩ := denilH_spec g1
    have k4 := mapM_id g2
    have hlen : nw.length = e0.nw.length := by
      have e1 : l.length = nw.length := by rw [k4]; simp
      have e2 : l.length = e0.nw.length := by rw [k3]; simp
      omega
    have hnw : ∀ j, j < e0.nw.length → ρ (nx + j) = none := fun j hj => hn j (by simp [hlen]; omega)
    refine (h.2 C w1 S ρ look w args vs nx e0 r1 ha H hnw h1).mono ?_
    rintro x w' ⟨v, ρ', q1, q2, q3, q4, q5⟩
    let l0 : Loc := ⟨0, 0, 1, 0, true⟩
    have hno : ρ' (nx + e0.nw.length) = none := by
      cases hh : ρ' (nx + e0.nw.length) with
      | none => rfl
      | some m =>
        rcases q3 _ _ hh with p | p
        · rw [hn e0.nw.length (by simp [hlen])] at p; cases p
        · omega
    have hle : ρ'.le (ρ'.put (nx + e0.nw.length) l0) := Rho.le_put hno
    have hb : b < e0.nw.length := by have := (List.getElem?_eq_some_iff.1 k1).1; simpa using this
    have hlb : upd look e0 nx (nx + b) = some (.cells cs) := by
      unfold upd
      rw [if_pos (by omega), if_pos (by omega), show nx + b - nx = b by omega]
      simpa using k1
    have H1 := q5.newNil (l := l0) (sb := nilRow) hno rfl (.inl ⟨rfl, rfl, rfl⟩)
    have H2 := H1.alt (b := nx + b) (sb := .cells cs) (sb' := .cells cs') (by rw [if_neg (by omega)]; exact hlb) rfl (fun l hl hb => by
      obtain ⟨p1, arr, t, p2, p3⟩ := hb
      exact ⟨p1, arr, t, p2, denilC_R ⟨l0, Rho.put_same .., rfl⟩ k2 p3⟩)
    have hlook : (fun c => if c = nx + b then some (SB.cells cs') else if c = nx + e0.nw.length then some nilRow else upd look e0 nx c) = upd look ⟨e0.sv, e0.wr, nw ++ [nilRow]⟩ nx := by
      funext c
      unfold upd
      simp only [List.length_append, List.length_singleton, hlen]
      by_cases c1 : nx ≤ c
      · rw [if_pos c1, if_pos c1]
        have hget : ∀ j, nw[j]? = if j = b then (if b < e0.nw.length then some (SB.cells cs') else none) else e0.nw[j]? := by
          intro j
          have e1 : (nw.map some)[j]? = ((e0.nw.map some).set b (some (SB.cells cs')))[j]? := by rw [← k4, k3]
          rw [List.getElem?_set] at e1
          by_cases hj : j = b
          · subst hj
            rw [if_pos rfl, if_pos (by simpa using hb)] at e1
            rw [if_pos rfl, if_pos hb]
            simpa using e1
          · rw [if_neg (by omega)] at e1
            rw [if_neg hj]
            rw [List.getElem?_map, List.getElem?_map] at e1
            cases hx : nw[j]? <;> cases hy : e0.nw[j]? <;> rw [hx, hy] at e1 <;> simp_all
        by_cases c2 : c = nx + b
        · rw [if_pos c2, if_pos (by omega), List.getElem?_append_left (by omega), hget, if_pos (by omega), if_pos hb]
        · rw [if_neg c2]
          by_cases c3 : c = nx + e0.nw.length
          · rw [if_pos c3, if_pos (by omega), List.getElem?_append_right (by omega)]
            simp [c3, hlen]
          · rw [if_neg c3]
            by_cases c4 : c < nx + e0.nw.length
            · rw [if_pos c4, if_pos (by omega), List.getElem?_append_left (by omega), hget, if_neg (by omega)]
            · rw [if_neg c4, if_neg (by omega)]
      · rw [if_neg (by omega), if_neg (by omega), if_neg c1, if_neg c1]
    rw [hlook] at H2
    refine ⟨v, ρ'.put (nx + e0.nw.length) l0, q1, q2.trans hle, ?_, q4.mono hle, H2⟩
    intro c m hm
    unfold Rho.put at hm
    split at hm
    · rename_i hc
      subst hc
      exact .inr ⟨by omega, by simp [hlen]⟩
    · rcases q3 c m hm with p | ⟨p1, p2⟩
      · exact .inl p
      · exact .inr ⟨p1, by simp [hlen]; omega⟩
  · have he : denilE nx e0 = e0 := by
      unfold denilE
      split
      · rename_i l hl
        split
        · rename_i nw hnw
          exact absurd ⟨l, nw, hl, hnw⟩ hc
        · rfl
      · rfl
    rw [he] at hn ⊢
    exact h.2 C w1 S ρ look w args vs nx e0 r1 ha H hn h1
end
end Go.Proofs.Ytendbpghgllphaa.Sx

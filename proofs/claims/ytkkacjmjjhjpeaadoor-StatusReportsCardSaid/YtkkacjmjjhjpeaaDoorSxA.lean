/- A symbolic interpreter over the wp rules, first half: each single operation does to memory what the interpreter says. No condition beyond those that each theorem names. -/
import Derived.Lib.ItoaNum
import Derived.Orders
import Derived.Deep.MidRow
import Derived.Laws.Entries
import Derived.Laws.BytesArg
import Derived.Laws.MakeOwn
import Derived.Laws.Rows
import Derived.Laws.StructEq
import Derived.Laws.Append
import Derived.Laws.AppendOwn
namespace Go.Proofs.YtkkacjmjjhjpeaaDoor.Sx
open Go

/-- Where an abstract block lies. -/
structure Loc where
  blk : Nat
  off : Nat
  es : Nat
  cap : Nat
  nil : Bool

abbrev Rho := Nat → Option Loc

/-- A cell's abstract value. -/
inductive CV where
  | unk
  | bool (b : Bool)
  | int (k : IntKind) (n : Int)
  | str (s : ByteArray)
  | nilp
  | ptr (b o : Nat)
  | eptr (b i o : Nat)
  | iptr (b o len : Nat) (n : Int)
  | nils
  | slc (b i len : Nat)
  | xs (v : Value) (l : List Int)
  | asl (b o len : Nat)
  | mp (b : Nat)
  | fn (f : Nat)
  | nilf

/-- What may be known of outside memory: the value reads as these whole numbers. -/
abbrev Outs := Value → List Int → Prop

def SlcR (l : Loc) (i len : Nat) (v : Value) : Prop :=
  (l.nil = true ∧ v = .slice none 0 0 ∧ len = 0) ∨
  (l.nil = false ∧ ∃ A cap, v = .slice (some A) len cap ∧ len ≤ cap ∧ i + cap = l.cap ∧ (0 < cap → A = ⟨l.blk, l.off + i * l.es, none⟩))

def CV.R (X : Outs) (ρ : Rho) : CV → Value → Prop
  | .unk, v => v.oneCell' = true
  | .bool b, v => v = .bool b
  | .int k n, v => v = .int k n
  | .str s, v => v = .string s
  | .nilp, v => v = .pointer none
  | .ptr b o, v => ∃ l, ρ b = some l ∧ v = .pointer (some ⟨l.blk, o, none⟩)
  | .eptr b i o, v => ∃ l, ρ b = some l ∧ v = .pointer (some ⟨l.blk, l.off + i * l.es + o, none⟩)
  | .iptr b o len n, v => ∃ l, ρ b = some l ∧ 0 ≤ n ∧ n < len ∧ v = .pointer (some ⟨l.blk, o + n.toNat, none⟩)
  | .nils, v => v = .slice none 0 0
  | .slc b i len, v => ∃ l, ρ b = some l ∧ SlcR l i len v
  | .xs u l, v => v = u ∧ X u l ∧ ∃ a n c, u = .slice a n c
  | .asl b o len, v => ∃ l, ρ b = some l ∧ v = .slice (some ⟨l.blk, o, none⟩) len len
  | .mp b, v => ∃ l, ρ b = some l ∧ v = .map (some l.blk)
  | .fn f, v => v = .func (.func f) #[] #[]
  | .nilf, v => v = .nilFunc

def CV.known : CV → Bool
  | .unk => false
  | _ => true

def Rho.le (ρ ρ' : Rho) : Prop := ∀ b l, ρ b = some l → ρ' b = some l
theorem Rho.le.refl (ρ : Rho) : ρ.le ρ := fun _ _ h => h
theorem Rho.le.trans {a b c : Rho} (h : a.le b) (h' : b.le c) : a.le c := fun _ _ e => h' _ _ (h _ _ e)

theorem CV.R.mono {X : Outs} {ρ ρ' : Rho} (h : ρ.le ρ') {x : CV} {v : Value} (hr : x.R X ρ v) : x.R X ρ' v := by
  cases x <;> simp only [CV.R] at hr ⊢ <;> first
    | exact hr
    | (obtain ⟨l, hl, hv⟩ := hr; exact ⟨l, h _ _ hl, hv⟩)

theorem CV.R.one' {X : Outs} {ρ : Rho} {x : CV} {v : Value} (hr : x.R X ρ v) : v.oneCell' = true := by
  cases x with
  | unk => exact hr
  | bool b => cases hr; rfl
  | int k n => cases hr; rfl
  | str s => cases hr; rfl
  | nilp => cases hr; rfl
  | ptr b o => obtain ⟨l, _, rfl⟩ := hr; rfl
  | eptr b i o => obtain ⟨l, _, rfl⟩ := hr; rfl
  | iptr b o len n => obtain ⟨l, _, _, _, rfl⟩ := hr; rfl
  | nils => cases hr; rfl
  | slc b i len => obtain ⟨l, _, ⟨_, rfl, _⟩ | ⟨_, A, cap, rfl, _⟩⟩ := hr <;> rfl
  | xs u l => obtain ⟨rfl, _, a, n, c, rfl⟩ := hr; rfl
  | asl b o len => obtain ⟨l, _, rfl⟩ := hr; rfl
  | mp b => obtain ⟨l, _, rfl⟩ := hr; rfl
  | fn f => cases hr; rfl
  | nilf => cases hr; rfl
theorem CV.R.one {X : Outs} {ρ : Rho} {x : CV} {v : Value} (hk : x.known = true) (hr : x.R X ρ v) : v.oneCell' = true ∧ v.cells = #[v] := by
  cases x <;> simp only [CV.R, CV.known, Bool.false_eq_true] at hr hk <;> first
    | (obtain ⟨rfl, _, a, n, c, rfl⟩ := hr; exact ⟨rfl, rfl⟩)
    | (subst hr; exact ⟨rfl, rfl⟩)
    | (obtain ⟨l, _, h⟩ := hr
       first
        | (subst h; exact ⟨rfl, rfl⟩)
        | (obtain ⟨_, _, rfl⟩ := h; exact ⟨rfl, rfl⟩)
        | (rcases h with ⟨_, rfl, _⟩ | ⟨_, A, cap, rfl, _⟩ <;> exact ⟨rfl, rfl⟩))

/-- Lists of cells. -/
def RL (R : CV → Value → Prop) : List CV → List Value → Prop
  | [], [] => True
  | x :: xs, v :: vs => R x v ∧ RL R xs vs
  | _, _ => False

section RL
variable {R R' : CV → Value → Prop}
theorem RL.mono (h : ∀ x v, R x v → R' x v) : ∀ {xs : List CV} {vs : List Value}, RL R xs vs → RL R' xs vs
  | [], [], _ => trivial
  | _ :: _, _ :: _, ⟨a, b⟩ => ⟨h _ _ a, RL.mono h b⟩
theorem RL.length : ∀ {xs : List CV} {vs : List Value}, RL R xs vs → xs.length = vs.length
  | [], [], _ => rfl
  | _ :: _, _ :: _, ⟨_, b⟩ => by simp [RL.length b]
theorem RL.take : ∀ (n : Nat) {xs : List CV} {vs : List Value}, RL R xs vs → RL R (xs.take n) (vs.take n)
  | 0, _, _, _ => by simp [RL]
  | _ + 1, [], [], _ => by simp [RL]
  | n + 1, _ :: _, _ :: _, ⟨a, b⟩ => by simpa [RL] using ⟨a, RL.take n b⟩
theorem RL.drop : ∀ (n : Nat) {xs : List CV} {vs : List Value}, RL R xs vs → RL R (xs.drop n) (vs.drop n)
  | 0, _, _, h => by simpa using h
  | _ + 1, [], [], _ => by simp [RL]
  | n + 1, _ :: _, _ :: _, ⟨_, b⟩ => by simpa using RL.drop n b
theorem RL.append : ∀ {xs ys : List CV} {vs us : List Value}, RL R xs vs → RL R ys us → RL R (xs ++ ys) (vs ++ us)
  | [], _, [], _, _, h => by simpa using h
  | _ :: _, _, _ :: _, _, ⟨a, b⟩, h => by simpa [RL] using ⟨a, RL.append b h⟩
theorem RL.get : ∀ {xs : List CV} {vs : List Value} (_ : RL R xs vs) (i : Nat) (x : CV), xs[i]? = some x → ∃ v, vs[i]? = some v ∧ R x v
  | _ :: _, v :: _, ⟨a, _⟩, 0, x, h => ⟨v, by simp, (by simpa using h : _ = x) ▸ a⟩
  | _ :: _, _ :: _, ⟨_, b⟩, i + 1, x, h => by simpa using RL.get b i x (by simpa using h)
theorem RL.set : ∀ {xs : List CV} {vs : List Value} (_ : RL R xs vs) (i : Nat) (x : CV) (v : Value), R x v → RL R (xs.set i x) (vs.set i v)
  | [], [], _, _, _, _, _ => by simp [RL]
  | _ :: _, _ :: _, ⟨_, b⟩, 0, x, v, h => by simpa [RL] using ⟨h, b⟩
  | _ :: _, _ :: _, ⟨a, b⟩, i + 1, x, v, h => by simpa [RL] using ⟨a, RL.set b i x v h⟩
theorem RL.nil_right {vs : List Value} (h : RL R [] vs) : vs = [] := by cases vs <;> simp_all [RL]
theorem RL.cons_inv {x : CV} {xs : List CV} {vs : List Value} (h : RL R (x :: xs) vs) : ∃ v us, vs = v :: us ∧ R x v ∧ RL R xs us := by
  cases vs with
  | nil => exact h.elim
  | cons v us => exact ⟨v, us, rfl, h⟩
end RL

theorem RL.one' {X : Outs} {ρ : Rho} : ∀ {xs : List CV} {vs : List Value}, RL (CV.R X ρ) xs vs → ∀ v ∈ vs, v.oneCell' = true
  | [], [], _, v, h => by simp at h
  | _ :: _, _ :: _, hr, v, h => by
    rcases List.mem_cons.1 h with rfl | h
    · exact hr.1.one'
    · exact RL.one' hr.2 v h
  | [], _ :: _, hr, _, _ => hr.elim
  | _ :: _, [], hr, _, _ => hr.elim
theorem RL.all_one {X : Outs} {ρ : Rho} : ∀ {xs : List CV} {vs : List Value}, xs.all CV.known = true → RL (CV.R X ρ) xs vs → ∀ v ∈ vs, v.oneCell' = true
  | [], [], _, _, v, hv => by simp at hv
  | x :: xs, v :: vs, hk, ⟨a, b⟩, u, hu => by
    simp only [List.all_cons, Bool.and_eq_true] at hk
    rcases List.mem_cons.1 hu with rfl | hu
    · exact (CV.R.one hk.1 a).1
    · exact RL.all_one hk.2 b u hu

/-- A value. -/
inductive SV where
  | c (x : CV)
  | agg (l : List CV)
/-- A slot's value. -/
inductive TV where
  | s (x : SV)
  | tup (l : List SV)

def SV.R (X : Outs) (ρ : Rho) : SV → Value → Prop
  | .c x, v => x.R X ρ v
  | .agg l, v => ∃ vs : List Value, v = .agg vs.toArray ∧ RL (CV.R X ρ) l vs
def SL (R : SV → Value → Prop) : List SV → List Value → Prop
  | [], [] => True
  | x :: xs, v :: vs => R x v ∧ SL R xs vs
  | _, _ => False
def TV.R (X : Outs) (ρ : Rho) : TV → Value → Prop
  | .s x, v => x.R X ρ v
  | .tup l, v => ∃ vs : List Value, v = .tuple vs.toArray ∧ SL (SV.R X ρ) l vs
def TL (R : TV → Value → Prop) : List TV → List Value → Prop
  | [], [] => True
  | x :: xs, v :: vs => R x v ∧ TL R xs vs
  | _, _ => False

section SL
variable {R R' : SV → Value → Prop}
theorem SL.mono (h : ∀ x v, R x v → R' x v) : ∀ {xs : List SV} {vs : List Value}, SL R xs vs → SL R' xs vs
  | [], [], _ => trivial
  | _ :: _, _ :: _, ⟨a, b⟩ => ⟨h _ _ a, SL.mono h b⟩
theorem SL.length : ∀ {xs : List SV} {vs : List Value}, SL R xs vs → xs.length = vs.length
  | [], [], _ => rfl
  | _ :: _, _ :: _, ⟨_, b⟩ => by simp [SL.length b]
theorem SL.get : ∀ {xs : List SV} {vs : List Value} (_ : SL R xs vs) (i : Nat) (x : SV), xs[i]? = some x → ∃ v, vs[i]? = some v ∧ R x v
  | _ :: _, v :: _, ⟨a, _⟩, 0, x, h => ⟨v, by simp, (by simpa using h : _ = x) ▸ a⟩
  | _ :: _, _ :: _, ⟨_, b⟩, i + 1, x, h => by simpa using SL.get b i x (by simpa using h)
end SL
section TL
variable {R R' : TV → Value → Prop}
theorem TL.mono (h : ∀ x v, R x v → R' x v) : ∀ {xs : List TV} {vs : List Value}, TL R xs vs → TL R' xs vs
  | [], [], _ => trivial
  | _ :: _, _ :: _, ⟨a, b⟩ => ⟨h _ _ a, TL.mono h b⟩
theorem TL.length : ∀ {xs : List TV} {vs : List Value}, TL R xs vs → xs.length = vs.length
  | [], [], _ => rfl
  | _ :: _, _ :: _, ⟨_, b⟩ => by simp [TL.length b]
theorem TL.get : ∀ {xs : List TV} {vs : List Value} (_ : TL R xs vs) (i : Nat) (x : TV), xs[i]? = some x → ∃ v, vs[i]? = some v ∧ R x v
  | _ :: _, v :: _, ⟨a, _⟩, 0, x, h => ⟨v, by simp, (by simpa using h : _ = x) ▸ a⟩
  | _ :: _, _ :: _, ⟨_, b⟩, i + 1, x, h => by simpa using TL.get b i x (by simpa using h)
theorem TL.set : ∀ {xs : List TV} {vs : List Value} (_ : TL R xs vs) (i : Nat) (x : TV) (v : Value), R x v → TL R (xs.set i x) (vs.set i v)
  | [], [], _, _, _, _, _ => by simp [TL]
  | _ :: _, _ :: _, ⟨_, b⟩, 0, x, v, h => by simpa [TL] using ⟨h, b⟩
  | _ :: _, _ :: _, ⟨a, b⟩, i + 1, x, v, h => by simpa [TL] using ⟨a, TL.set b i x v h⟩
theorem TL.append : ∀ {xs ys : List TV} {vs us : List Value}, TL R xs vs → TL R ys us → TL R (xs ++ ys) (vs ++ us)
  | [], _, [], _, _, h => by simpa using h
  | _ :: _, _, _ :: _, _, ⟨a, b⟩, h => by simpa [TL] using ⟨a, TL.append b h⟩
theorem TL.replicate (x : TV) (v : Value) (h : R x v) : ∀ n, TL R (List.replicate n x) (List.replicate n v)
  | 0 => by simp [TL]
  | n + 1 => by simpa [TL, List.replicate_succ] using ⟨h, TL.replicate x v h n⟩
end TL

theorem SV.R.mono {X : Outs} {ρ ρ' : Rho} (h : ρ.le ρ') {x : SV} {v : Value} (hr : x.R X ρ v) : x.R X ρ' v := by
  cases x with
  | c x => exact CV.R.mono h hr
  | agg l => obtain ⟨vs, e, hl⟩ := hr; exact ⟨vs, e, hl.mono fun _ _ => CV.R.mono h⟩
theorem TV.R.mono {X : Outs} {ρ ρ' : Rho} (h : ρ.le ρ') {x : TV} {v : Value} (hr : x.R X ρ v) : x.R X ρ' v := by
  cases x with
  | s x => exact SV.R.mono h hr
  | tup l => obtain ⟨vs, e, hl⟩ := hr; exact ⟨vs, e, hl.mono fun _ _ => SV.R.mono h⟩

/-- What elements a row has. -/
inductive Content where
  | ints (k : IntKind) (l : List Int)
  | bools (l : List Bool)
  | strs (l : List ByteArray)
  | istr (k : IntKind) (l : List (Int × ByteArray))
  | gen (n : Nat) (get : Nat → List CV)

def Content.size : Content → Nat
  | .ints _ l => l.length
  | .bools l => l.length
  | .strs l => l.length
  | .istr _ l => l.length
  | .gen n _ => n
def Content.get : Content → Nat → List CV
  | .ints k l, i => [.int k (l.getD i 0)]
  | .bools l, i => [.bool (l.getD i false)]
  | .strs l, i => [.str (l.getD i ByteArray.empty)]
  | .istr k l, i => [.int k (l.getD i (0, ByteArray.empty)).1, .str (l.getD i (0, ByteArray.empty)).2]
  | .gen _ g, i => g i

/-- A block. -/
inductive SB where
  | cells (cs : List CV)
  | vec (es : Nat) (pre : List CV) (c : Content)
  | ro (es : Nat) (c : Content)
  | mapi (es : List (Int × Bool))
  | mapb (es : List (Int × CV))
  | iter (b : Option Nat) (n : Nat)

def SB.own : SB → Bool
  | .ro _ _ => false
  | _ => true

/-- An outside slice of whole numbers: what it holds. -/
def OutSl (I : Nat → Prop) (h0 : Nat → Option Obj) (u : Value) (l : List Int) : Prop :=
  (u = .slice none 0 0 ∧ l = []) ∨ ∃ (A : Addr) (cap : Nat), u = .slice (some A) l.length cap ∧ l.length ≤ maxLen ∧ (l = [] ∨ ∃ b o arr t fr, A = ⟨b, o, none⟩ ∧ I b ∧ h0 b = some (.cells arr t fr) ∧ ∀ j x, l[j]? = some x → arr[o + j]? = some (.int .i64 x))

/-- Tables of the program's package variables that the seat's rows list: block and cells (inst.py lays a seat's own). -/
def tabsOf : List (Nat × Array Value) := [(1, (Go.Lib.pow10Tab.map fun z => Value.int .u64 z).toArray)]
def TabsAt (h : Nat → Option Obj) : Prop := ∀ p ∈ tabsOf, ∃ t fr, h p.1 = some (.cells p.2 t fr)
/-- The memory around: blocks that nobody writes, and what is known of outside values. -/
structure Ctx where
  I : Nat → Prop
  h0 : Nat → Option Obj
  tabs : TabsAt h0
  tabI : ∀ p ∈ tabsOf, I p.1
  X : Outs
  xok : ∀ u l, X u l → OutSl I h0 u l

/-- The entries of a map that nothing was deleted from. -/
def entsL : Nat → List (Int × Bool) → List MapEntry
  | _, [] => []
  | k, p :: r => { key := .int .i64 p.1, val := .bool p.2, born := k } :: entsL (k + 1) r
def entsOf (es : List (Int × Bool)) : Array MapEntry := (entsL 0 es).toArray

/-- A row's elements in memory, from cell 'off' of a block on. -/
def RowR (R : CV → Value → Prop) (arr : List Value) (off es : Nat) (c : Content) : Prop :=
  ∀ i, i < c.size → RL R (c.get i) ((arr.drop (off + i * es)).take es) ∧ (c.get i).length = es

/-- No block at all. -/
def noRho : Rho := fun _ => none
theorem noRho_le (ρ : Rho) : noRho.le ρ := fun _ _ h => by cases h

def BlkR (C : Ctx) (ρ : Rho) (l : Loc) : SB → World → Prop
  | .cells cs, w => l.nil = false ∧ ∃ arr t, w.heap[l.blk]? = some (.cells arr t (0, 0)) ∧ RL (CV.R C.X ρ) cs arr.toList
  | .vec es pre c, w => (l.nil = true ∧ c.size = 0 ∧ pre = []) ∨ ((l.nil = false ∧ l.es = es) ∧ ∃ arr t, w.heap[l.blk]? = some (.cells arr t (0, 0)) ∧ RL (CV.R C.X ρ) pre (arr.toList.take pre.length) ∧ pre.length ≤ l.off ∧ arr.size = l.off + l.cap * l.es ∧ c.size ≤ l.cap ∧ RowR (CV.R C.X noRho) arr.toList l.off l.es c)
  | .ro es c, w => l.es = es ∧ (c.size = 0 ∨ (∃ arr t fr, C.I l.blk ∧ w.heap[l.blk]? = some (.cells arr t fr) ∧ RowR (CV.R C.X noRho) arr.toList l.off l.es c))
  | .mapi es, w => l.nil = false ∧ w.heap[l.blk]? = some (.map (entsOf es) es.length)
  | .mapb es, w => l.nil = false ∧ ∃ entries clock, w.heap[l.blk]? = some (.map entries clock) ∧ entries.toList.map (·.key) = es.map (fun p => Value.int .i64 p.1) ∧ RL (CV.R C.X ρ) (es.map (·.2)) (entries.toList.map (·.val))
  | .iter b n, w => l.nil = false ∧ ∃ m, w.heap[l.blk]? = some (.mapIter (some m) n #[] n) ∧ ∀ c, b = some c → ∃ l', ρ c = some l' ∧ l'.blk = m

theorem BlkR.mono {C : Ctx} {ρ ρ' : Rho} (h : ρ.le ρ') {l : Loc} {sb : SB} {w : World} (hr : BlkR C ρ l sb w) : BlkR C ρ' l sb w := by
  have m : ∀ x v, CV.R C.X ρ x v → CV.R C.X ρ' x v := fun _ _ => CV.R.mono h
  cases sb with
  | cells cs => obtain ⟨hn, arr, t, e, hl⟩ := hr; exact ⟨hn, arr, t, e, hl.mono m⟩
  | vec es pre c =>
    rcases hr with hr | ⟨hn, arr, t, e, hp, h1, h2, h3, h4⟩
    · exact .inl hr
    · exact .inr ⟨hn, arr, t, e, hp.mono m, h1, h2, h3, h4⟩
  | ro es c => exact hr
  | mapi es => exact hr
  | mapb es => obtain ⟨hn, en, cl, e, h1, h2⟩ := hr; exact ⟨hn, en, cl, e, h1, h2.mono m⟩
  | iter b n => obtain ⟨hn, m, e, h1⟩ := hr; exact ⟨hn, m, e, fun c hc => let ⟨l', q1, q2⟩ := h1 c hc; ⟨l', h _ _ q1, q2⟩⟩

theorem BlkR.heap {C : Ctx} {ρ : Rho} {l : Loc} {sb : SB} {w w' : World} (hr : BlkR C ρ l sb w) (h : w'.heap[l.blk]? = w.heap[l.blk]?) : BlkR C ρ l sb w' := by
  cases sb <;> simp only [BlkR, h] at hr ⊢ <;> exact hr

abbrev Look := Nat → Option SB

/-- The heap as it is known; what became of the rest since w1 (S: blocks that were there and may be written). -/
structure HRep (C : Ctx) (w1 : World) (S : Nat → Prop) (ρ : Rho) (look : Look) (w : World) : Prop where
  blk : ∀ b sb, look b = some sb → ∃ l, ρ b = some l ∧ BlkR C ρ l sb w
  inj : ∀ b b' sb sb' l l', look b = some sb → look b' = some sb' → sb.own = true → sb'.own = true → ρ b = some l → ρ b' = some l' → l.nil = false → l'.nil = false → b ≠ b' → l.blk ≠ l'.blk
  own : ∀ b sb l, look b = some sb → sb.own = true → ρ b = some l → l.nil = false → ¬ C.I l.blk ∧ l.blk < w.heap.size ∧ (S l.blk ∨ w1.heap.size ≤ l.blk)
  out : ∀ n, C.I n → w.heap[n]? = C.h0 n ∧ n < w.heap.size
  frame : ∀ n, n < w1.heap.size → ¬ S n → w.heap[n]? = w1.heap[n]?
  size : w1.heap.size ≤ w.heap.size
  env : w.os = w1.os ∧ w.tape = w1.tape ∧ w.output = w1.output

end Go.Proofs.YtkkacjmjjhjpeaaDoor.Sx

namespace Go.Proofs.YtkkacjmjjhjpeaaDoor.Sx
open Go

/-- A computation by cases, that may read blocks. -/
inductive Tr (α : Type) where
  | ret (a : α)
  | br (b : Bool) (t e : Tr α)
  | rd (b : Nat) (k : SB → Tr α)
  | fail

def Tr.bind {α β : Type} : Tr α → (α → Tr β) → Tr β
  | .ret a, f => f a
  | .br b t e, f => .br b (t.bind f) (e.bind f)
  | .rd b k, f => .rd b fun s => (k s).bind f
  | .fail, _ => .fail

/-- What it comes to: the result, and the blocks that were read. -/
def Tr.sem {α : Type} (look : Look) : Tr α → Option (α × List Nat)
  | .ret a => some (a, [])
  | .br b t e => cond b (t.sem look) (e.sem look)
  | .rd b k => match look b with
    | some s => match (k s).sem look with
      | some (a, l) => some (a, b :: l)
      | none => none
    | none => none
  | .fail => none

/-- The same, handed on. -/
def Tr.cps {α R : Type} (look : Look) : Tr α → List Nat → (α → List Nat → Option R) → Option R
  | .ret a, l, K => K a l
  | .br b t e, l, K => cond b (t.cps look l K) (e.cps look l K)
  | .rd b k, l, K => match look b with
    | some s => (k s).cps look (b :: l) K
    | none => none
  | .fail, _, _ => none

theorem Tr.cps_sem {α R : Type} {look : Look} {r : R} : ∀ {t : Tr α} {l : List Nat} {K : α → List Nat → Option R}, t.cps look l K = some r →
    ∃ a rds, t.sem look = some (a, rds) ∧ K a (rds.reverse ++ l) = some r
  | .ret a, l, K, h => ⟨a, [], rfl, by simpa [Tr.cps] using h⟩
  | .br b t e, l, K, h => by
    cases b
    · exact Tr.cps_sem (t := e) h
    · exact Tr.cps_sem (t := t) h
  | .rd b k, l, K, h => by
    simp only [Tr.cps] at h
    cases hb : look b with
    | none => simp [hb] at h
    | some s =>
      simp only [hb] at h
      obtain ⟨a, rds, h1, h2⟩ := Tr.cps_sem (t := k s) h
      exact ⟨a, b :: rds, by simp [Tr.sem, hb, h1], by simpa using h2⟩
  | .fail, _, _, h => by simp [Tr.cps] at h

theorem Tr.sem_local {α : Type} {look look' : Look} {a : α} : ∀ {t : Tr α} {rds : List Nat}, t.sem look = some (a, rds) → (∀ b ∈ rds, look' b = look b) → t.sem look' = some (a, rds)
  | .ret _, _, h, _ => h
  | .br b t e, rds, h, hl => by
    cases b
    · exact Tr.sem_local (t := e) h hl
    · exact Tr.sem_local (t := t) h hl
  | .rd b k, rds, h, hl => by
    simp only [Tr.sem] at h ⊢
    cases hb : look b with
    | none => simp [hb] at h
    | some s =>
      simp only [hb] at h
      cases hk : (k s).sem look with
      | none => simp [hk] at h
      | some x =>
        obtain ⟨a', l⟩ := x
        simp only [hk, Option.some.injEq, Prod.mk.injEq] at h
        obtain ⟨rfl, rfl⟩ := h
        rw [hl b (by simp), hb]
        simp only
        rw [Tr.sem_local hk fun c hc => hl c (by simp [hc])]
  | .fail, _, h, _ => by simp [Tr.sem] at h

theorem Tr.sem_bind {α β : Type} {look : Look} {f : α → Tr β} {c : β} : ∀ {t : Tr α} {rds : List Nat}, (t.bind f).sem look = some (c, rds) →
    ∃ a r1 r2, t.sem look = some (a, r1) ∧ (f a).sem look = some (c, r2) ∧ rds = r1 ++ r2
  | .ret a, rds, h => ⟨a, [], rds, rfl, h, rfl⟩
  | .br b t e, rds, h => by
    cases b
    · exact Tr.sem_bind (t := e) h
    · exact Tr.sem_bind (t := t) h
  | .rd b k, rds, h => by
    simp only [Tr.bind, Tr.sem] at h
    cases hb : look b with
    | none => simp [hb] at h
    | some s =>
      simp only [hb] at h
      cases hk : ((k s).bind f).sem look with
      | none => simp [hk] at h
      | some x =>
        obtain ⟨a', l⟩ := x
        simp only [hk, Option.some.injEq, Prod.mk.injEq] at h
        obtain ⟨rfl, rfl⟩ := h
        obtain ⟨a, r1, r2, h1, h2, rfl⟩ := Tr.sem_bind hk
        exact ⟨a, b :: r1, r2, by simp [Tr.sem, hb, h1], h2, rfl⟩
  | .fail, _, h => by simp [Tr.bind, Tr.sem] at h

/-- What an operation does: its value, the blocks that it turns, the new ones. -/
structure Eff where
  sv : TV
  wr : List (Nat × Option SB)
  nw : List SB

def updW (look : Look) : List (Nat × Option SB) → Look
  | [] => look
  | (b, s) :: r => updW (fun c => if c = b then s else look c) r
def upd (look : Look) (e : Eff) (nx : Nat) : Look := fun b =>
  if nx ≤ b then (if b < nx + e.nw.length then e.nw[b - nx]? else updW look e.wr b) else updW look e.wr b

def pureE (v : TV) : Tr Eff := .ret ⟨v, [], []⟩
def cvE (x : CV) : Tr Eff := pureE (.s (.c x))

abbrev Sum := List SV → Nat → Tr Eff
abbrev Sums := List (FuncId × Sum)

def Sums.find (S : Sums) (f : FuncId) : Option Sum :=
  match S with
  | [] => none
  | (g, s) :: r => if g = f then some s else Sums.find r f

def cvOf : Value → Option CV
  | .bool b => some (.bool b)
  | .int k n => some (.int k n)
  | .string s => some (.str s)
  | .pointer none => some .nilp
  | .slice none 0 0 => some .nils
  | .func (.func f) first cap => cond (first.isEmpty && cap.isEmpty) (some (.fn f)) none
  | .nilFunc => some .nilf
  | _ => none

def cvsOf : List Value → Option (List CV)
  | [] => some []
  | v :: r => match cvOf v, cvsOf r with
    | some x, some l => some (x :: l)
    | _, _ => none

/-- A slot's or a constant's value. -/
def evF (tm : Nat → Option TV) : Operand → Option TV
  | .tmp t => tm t
  | .const (.agg cs) => (cvsOf cs.toList).map fun l => .s (.agg l)
  | .const v => (cvOf v).map fun x => .s (.c x)
  | .func f => some (.s (.c (.fn f)))
  | .global _ => none
/-- A slot's value: what was put last. -/
def getT : List (Nat × TV) → Nat → Option TV
  | [], _ => none
  | (d, v) :: r, t => cond (Nat.beq d t) (some v) (getT r t)
def evO (tm : List (Nat × TV)) : Operand → Option TV := evF (getT tm)

section types
variable (P : Program)
def szT (t : TypeId) : Option Nat := (P.info? t).map (·.size)
def aggT (t : TypeId) : Option Bool := (P.underlying t).map TypeDesc.isRow
def zeroT (t : TypeId) : Option (List CV) := match (P.info? t).map (·.zero) with
  | some (some z) => cvsOf z.cells.toList
  | _ => none
def fieldT (t : TypeId) (f : Nat) : Option (Nat × TypeId) := match P.underlying t with
  | some (.struct fs) => (fs[f]?).map fun x => (x.offset, x.type)
  | _ => none
def arrT (t : TypeId) : Option (Nat × TypeId) := match P.underlying t with
  | some (.array n e) => some (n, e)
  | _ => none
def sliT (t : TypeId) : Option TypeId := match P.underlying t with
  | some (.slice e) => some e
  | _ => none
end types

/-- A value out of cells: of a struct or an array all of them, else the one. -/
def mkSV (agg : Bool) (cs : List CV) : Option SV := match agg, cs with
  | true, cs => some (.agg cs)
  | false, [x] => some (.c x)
  | _, _ => none
def SV.cells : SV → List CV
  | .c x => [x]
  | .agg l => l

def opt {α β : Type} : Option α → (α → Tr β) → Tr β
  | some a, f => f a
  | none, _ => .fail

def retSV (agg : Bool) (cs : List CV) : Tr Eff := opt (mkSV agg cs) fun v => pureE (.s v)

/-- One of several, by its number. -/
def selI (n : Int) : Nat → List Int → Int
  | _, [] => 0
  | _, [x] => x
  | j, x :: r => cond (n == (j : Int)) x (selI n (j + 1) r)
def selB (n : Int) : Nat → List Bool → Bool
  | _, [] => false
  | _, [x] => x
  | j, x :: r => cond (n == (j : Int)) x (selB n (j + 1) r)
def asInts (k : IntKind) : List CV → Option (List Int)
  | [] => some []
  | .int k' x :: r => match decide (k = k'), asInts k r with
    | true, some l => some (x :: l)
    | _, _ => none
  | _ => none
def asBools : List CV → Option (List Bool)
  | [] => some []
  | .bool x :: r => match asBools r with
    | some l => some (x :: l)
    | none => none
  | _ => none
def idxTree {α : Type} (n : Int) (f : Nat → Tr α) : Nat → Nat → Tr α
  | 0, _ => .fail
  | k + 1, i => .br (n == (i : Int)) (f i) (idxTree n f k (i + 1))
def selE (n : Int) (xs : List CV) : Tr Eff := match xs with
  | .int k _ :: _ => match asInts k xs with
    | some l => cvE (.int k (selI n 0 l))
    | none => .fail
  | .bool _ :: _ => match asBools xs with
    | some l => cvE (.bool (selB n 0 l))
    | none => .fail
  | _ => idxTree n (fun j => match xs[j]? with
    | some x => cvE x
    | none => .fail) xs.length 0

/-- One of several is set, by its number. -/
def putI (n x : Int) : Nat → List Int → List Int
  | _, [] => []
  | j, y :: r => cond (n == (j : Int)) x y :: putI n x (j + 1) r
def putB (n : Int) (x : Bool) : Nat → List Bool → List Bool
  | _, [] => []
  | j, y :: r => cond (n == (j : Int)) x y :: putB n x (j + 1) r
def putE (n : Int) (x : CV) (xs : List CV) : Option (List CV) := match x with
  | .int k v => match asInts k xs with
    | some l => some ((putI n v 0 l).map (CV.int k))
    | none => none
  | .bool v => match asBools xs with
    | some l => some ((putB n v 0 l).map CV.bool)
    | none => none
  | _ => none

/-- The cells of a variable at an address. -/
def loadE (agg : Bool) (sz : Nat) : CV → Tr Eff
  | .ptr b o => .rd b fun
    | .cells cs => cond (decide (o + sz ≤ cs.length)) (retSV agg ((cs.drop o).take sz)) .fail
    | .vec _ pre _ => cond (decide (0 < sz) && decide (o + sz ≤ pre.length)) (retSV agg ((pre.drop o).take sz)) .fail
    | _ => .fail
  | .eptr b i o => .rd b fun
    | .vec _ _ c | .ro _ c => .br (decide (i < c.size)) (cond (decide (0 < sz) && decide (o + sz ≤ (c.get i).length)) (retSV agg (((c.get i).drop o).take sz)) .fail) .fail
    | _ => .fail
  | .iptr b o len n => .rd b fun
    | .cells cs => cond (!agg && (decide (sz = 1) && decide (o + len ≤ cs.length))) (selE n ((cs.drop o).take len)) .fail
    | _ => .fail
  | _ => .fail

def setRange {α : Type} (l : List α) (o : Nat) (vs : List α) : List α := l.take o ++ (vs ++ l.drop (o + vs.length))

def undefE : TV := .tup []

/-- A row with another element. -/
def setG (g : Nat → List CV) (i o : Nat) (vs : List CV) : Nat → List CV := fun j => bif Nat.beq j i then setRange (g j) o vs else g j
/-- No place of memory. -/
def CV.plain : CV → Bool
  | .ptr .. | .eptr .. | .iptr .. | .slc .. | .asl .. | .mp .. => false
  | _ => true
def storeE (sz : Nat) (v : SV) : CV → Tr Eff
  | .eptr b i o => .rd b fun
    | .vec es [] c => .br (decide (i < c.size)) (cond (decide (v.cells.length = sz) && (decide (0 < sz) && decide (o + sz ≤ es) && v.cells.all CV.plain && v.cells.all CV.known)) (.ret ⟨undefE, [(b, some (.vec es [] (.gen c.size (setG c.get i o v.cells))))], []⟩) .fail) .fail
    | _ => .fail
  | .ptr b o => .rd b fun
    | .cells cs => cond (decide (v.cells.length = sz) && (decide (o + sz ≤ cs.length) && v.cells.all CV.known)) (.ret ⟨undefE, [(b, some (.cells (setRange cs o v.cells)))], []⟩) .fail
    | .vec es pre c => cond (decide (v.cells.length = sz) && (decide (0 < sz) && decide (o + sz ≤ pre.length) && v.cells.all CV.known)) (.ret ⟨undefE, [(b, some (.vec es (setRange pre o v.cells) c))], []⟩) .fail
    | _ => .fail
  | .iptr b o len n => .rd b fun
    | .cells cs => match v with
      | .c x => cond (decide (sz = 1) && decide (o + len ≤ cs.length)) (match putE n x ((cs.drop o).take len) with
        | some ys => .ret ⟨undefE, [(b, some (.cells (setRange cs o ys)))], []⟩
        | none => .fail) .fail
      | _ => .fail
    | _ => .fail
  | _ => .fail

def binE (op : BinOp) (x y : CV) : Option CV :=
  match op, x, y with
  | .add, .int k a, .int k' b => if k = k' then some (.int k (k.wrap (a + b))) else none
  | .sub, .int k a, .int k' b => if k = k' then some (.int k (k.wrap (a - b))) else none
  | .mul, .int k a, .int k' b => if k = k' then some (.int k (k.wrap (a * b))) else none
  | .eql, .int k a, .int k' b => if k = k' then some (.bool (a == b)) else none
  | .neq, .int k a, .int k' b => if k = k' then some (.bool (a != b)) else none
  | .lss, .int k a, .int k' b => if k = k' then some (.bool (a < b)) else none
  | .leq, .int k a, .int k' b => if k = k' then some (.bool (a ≤ b)) else none
  | .gtr, .int k a, .int k' b => if k = k' then some (.bool (a > b)) else none
  | .geq, .int k a, .int k' b => if k = k' then some (.bool (a ≥ b)) else none
  | .eql, .str a, .str b => some (.bool (a.toList == b.toList))
  | .neq, .str a, .str b => some (.bool (!(a.toList == b.toList)))
  | _, _, _ => none


def getV (ev : Operand → Option TV) (x : Operand) : Option SV := match ev x with
  | some (.s v) => some v
  | _ => none
def getC (ev : Operand → Option TV) (x : Operand) : Option CV := match ev x with
  | some (.s (.c v)) => some v
  | _ => none

def getVs (ev : Operand → Option TV) : List Operand → Option (List SV)
  | [] => some []
  | x :: r => match getV ev x, getVs ev r with
    | some v, some l => some (v :: l)
    | _, _ => none

/-- What '==' looks at. -/
inductive TK where
  | bool
  | int (k : IntKind)
  | str
def eqK : List TK → List CV → List CV → Option Bool
  | [], [], [] => some true
  | k :: ks, x :: xs, y :: ys => match eqK1 k x y, eqK ks xs ys with
    | some a, some b => some (a && b)
    | _, _ => none
  | _, _, _ => none
  where eqK1 : TK → CV → CV → Option Bool
  | .bool, .bool a, .bool b => some (a == b)
  | .int k, .int k1 a, .int k2 b => if k1 = k ∧ k2 = k then some (a == b) else none
  | .str, .str a, .str b => some (a == b)
  | _, _, _ => none

/-- A type of which '==' is that of its cells, in order: their kinds. -/
def kindsT (P : Program) : Nat → TypeId → Option (List TK)
  | 0, _ => none
  | d + 1, t => match P.underlying t with
    | some .bool => some [.bool]
    | some (.int k) => some [.int k]
    | some .string => some [.str]
    | some (.struct fs) => cond (P.stoodInHeld t) none (fieldsK P (kindsT P d) fs.toList 0)
    | some (.array n e) => cond (n == 2) (match kindsT P d e with
      | some ks => cond (decide (szT P e = some ks.length)) (some (ks ++ ks)) none
      | none => none) none
    | _ => none
  where fieldsK (P : Program) (kd : TypeId → Option (List TK)) : List Field → Nat → Option (List TK)
    | [], _ => some []
    | f :: r, o => cond (f.offset == o && f.name != "_") (match kd f.type with
      | some ks => cond (decide (szT P f.type = some ks.length)) (match fieldsK P kd r (o + ks.length) with
        | some l => some (ks ++ l)
        | none => none) none
      | none => none) none

def partsE (P : Program) (t : TypeId) (place : Nat → Option (Nat × Nat)) : List (Nat × Operand) → (Operand → Option TV) → List CV → Option (List CV)
  | [], _, cs => some cs
  | (i, x) :: r, ev, cs => match place i, getV ev x with
    | some (o, sz), some v => match v.cells.all CV.known && (decide (v.cells.length = sz) && decide (o + sz ≤ cs.length)) with
      | true => partsE P t place r ev (setRange cs o v.cells)
      | false => none
    | _, _ => none

def placeT (P : Program) (t : TypeId) (i : Nat) : Option (Nat × Nat) := match P.underlying t with
  | some (.struct _) => match fieldT P t i with
    | some (o, ft) => (szT P ft).map fun s => (o, s)
    | none => none
  | some (.array _ e) => (szT P e).map fun s => (i * s, s)
  | _ => none

/-- All the parts of a struct or array type have a size. -/
def buildOk (P : Program) (t : TypeId) : Bool := match P.underlying t with
  | some (.struct fs) => fs.toList.all fun f => (szT P f.type).isSome
  | some (.array _ e) => (szT P e).isSome
  | _ => false

def foldMax : Int → List Int → Int
  | x, [] => x
  | x, y :: r => foldMax (if y > x then y else x) r
def foldMin : Int → List Int → Int
  | x, [] => x
  | x, y :: r => foldMin (if y < x then y else x) r

def intsOf (ev : Operand → Option TV) : List Operand → Option (List Int)
  | [] => some []
  | x :: r => match getC ev x, intsOf ev r with
    | some (.int .i64 n), some l => some (n :: l)
    | _, _ => none

/-- A map from whole numbers, as it is laid at once. -/
def lookTree (n : Int) (zero : CV) (ok : Bool) : List (Int × CV) → Tr Eff
  | [] => cond ok (pureE (.tup [.c zero, .c (.bool false)])) (cvE zero)
  | (k, v) :: r => .br (n == k) (cond ok (pureE (.tup [.c v, .c (.bool true)])) (cvE v)) (lookTree n zero ok r)
/-- A map from whole numbers: what is there of a key; another entry. -/
def getM (n : Int) : List (Int × Bool) → Option Bool
  | [] => none
  | (k, v) :: r => bif n == k then some v else getM n r
def putM' (n : Int) (x : Bool) : List (Int × Bool) → List (Int × Bool)
  | [] => [(n, x)]
  | (k, v) :: r => bif n == k then (n, x) :: r else (k, v) :: putM' n x r

def addI : Nat → Nat → Nat
  | 0, n => n
  | i + 1, n => i + 1 + n
theorem addI_eq (i n : Nat) : addI i n = i + n := by cases i <;> simp [addI]
def lenE (P : Program) (t : Option TypeId) (args : Option (List SV)) : Tr Eff := match t, args with
  | some t, some [.c x] => match P.underlying t, x with
    | some (.slice _), .slc _ _ n => cvE (.int .i64 (n : Int))
    | some (.slice _), .nils => cvE (.int .i64 0)
    | some (.slice _), .xs _ l => cvE (.int .i64 (l.length : Int))
    | some (.map _ _), .mp b => .rd b fun
      | .mapi es => cvE (.int .i64 (es.length : Int))
      | _ => .fail
    | _, _ => .fail
  | _, _ => .fail

def rowGet (sz : Nat) (cells : List CV) (i : Nat) : List CV := (cells.drop (i * sz)).take sz
def repN (n sz : Nat) (z : List CV) : List CV := (List.range (n * sz)).map fun i => z.getD (i % sz) .unk
def asStrs : List CV → Option (List ByteArray)
  | [] => some []
  | .str x :: r => match asStrs r with
    | some l => some (x :: l)
    | none => none
  | _ => none
/-- The elements, one by one; behind the end zeros. -/
def rowZ (sz : Nat) (z : List CV) : List CV → Nat → List CV
  | [], _ => z
  | x :: r, 0 => (x :: r).take sz
  | x :: r, j + 1 => rowZ sz z ((x :: r).drop sz) j
/-- A literal's elements: some behind its end too. -/
def litG1 (z cs : List CV) : Nat → List CV := match asInts .i64 cs with
  | some l => fun j => [.int .i64 (l.getD j 0)]
  | none => match asBools cs with
    | some l => fun j => [.bool (l.getD j false)]
    | none => match asStrs cs with
      | some l => fun j => [.str (l.getD j ByteArray.empty)]
      | none => rowZ 1 z cs
def litG (sz : Nat) (z cs : List CV) : Nat → List CV := match sz with
  | 1 => litG1 z cs
  | sz => rowZ sz z cs
/-- The same, of no element: of zeros. -/
def litZ (sz : Nat) (z : List CV) : List CV → Nat → List CV
  | [] => fun _ => z
  | x :: r => litG sz z (x :: r)
def buildSliceE (P : Program) (t : TypeId) (n : Nat) (parts : List (Nat × Operand)) (ev : Operand → Option TV) (nx : Nat) : Tr Eff := match P.underlying t with
  | some (.slice e) => opt (szT P e) fun sz => opt (zeroT P e) fun z => cond (decide (0 < sz) && decide (n * sz ≤ 16777216) && decide (z.length = sz))
    (opt (partsE P t (fun i => some (i * sz, sz)) parts ev (repN n sz z)) fun cs => cond (decide (cs.length = n * sz) && cs.all CV.plain) (.ret ⟨.s (.c (.slc nx 0 n)), [], [.vec sz [] (.gen n (litZ sz z cs))]⟩) .fail) .fail
  | _ => .fail
def optI (ev : Operand → Option TV) : Option Operand → Int → Option Int
  | none, d => some d
  | some x, _ => match getC ev x with
    | some (.int _ n) => some n
    | _ => none
def sliceE (P : Program) (t : TypeId) (x : Option CV) (lo : Option Int) (hi : Int → Option Int) : Tr Eff := match x, P.underlying t with
  | some (.slc b i0 len), some (.slice e) => opt (szT P e) fun sz => opt lo fun l => opt (hi (len : Int)) fun h =>
    .br (decide (0 ≤ l) && decide (l ≤ h) && decide (h ≤ (len : Int))) (.rd b fun
      | .vec es _ _ | .ro es _ => cond (decide (es = sz)) (cvE (.slc b (addI i0 l.toNat) (h.toNat - l.toNat))) .fail
      | _ => .fail) .fail
  | _, _ => .fail

def subG (g : Nat → List CV) : Nat → Nat → List CV
  | 0 => g
  | k + 1 => fun j => g (k + 1 + j)
def catG (f g : Nat → List CV) : Nat → Nat → List CV
  | 0 => g
  | k + 1 => fun j => cond (Nat.blt j (k + 1)) (f j) (g (j - (k + 1)))
def bytesT (P : Program) (t : TypeId) : Option Nat := (P.info? t).map (·.bytes)
/-- What is appended: how many elements, and which. -/
def srcE (sz : Nat) : CV → (Nat → (Nat → List CV) → Tr Eff) → Tr Eff
  | .slc b i0 m, K => .rd b fun
    | .vec es _ c | .ro es c => cond (decide (es = sz)) (.br (decide (addI i0 m ≤ c.size)) (K m (subG c.get i0)) .fail) .fail
    | _ => .fail
  | .nils, K => K 0 fun _ => [.int .i64 0]
  | .xs _ l, K => cond (Nat.beq sz 1) (K l.length fun j => [.int .i64 (l.getD j 0)]) .fail
  | _, _ => .fail
def slcOf : CV → Option Nat
  | .slc b _ _ => some b
  | _ => none
def appE (P : Program) (ts : List TypeId) (args : Option (List SV)) (nx : Nat) : Tr Eff := match ts, args with
  | [t, t'], some [.c x, .c y] => match P.underlying t with
    | some (.slice e) => opt (szT P e) fun sz => opt (zeroT P e) fun z => opt (bytesT P e) fun by_ => cond (decide (t = t') && decide (0 < sz) && decide (z.length = sz) && decide (by_ ≤ 16384))
      (match x with
      | .slc b i0 len => cond (decide (slcOf y ≠ some b)) (.rd b fun
        | .vec es [] c => cond (decide (es = sz)) (.br (decide (c.size = addI i0 len)) (srcE sz y fun m g => .br (decide (addI len m ≤ 4294967296)) (.ret ⟨.s (.c (.slc nx 0 (addI len m))), [(b, none)], [.vec sz [] (.gen (addI len m) (catG (subG c.get i0) g len))]⟩) .fail) .fail) .fail
        | _ => .fail) .fail
      | .nils => srcE sz y fun m g => .br (decide (m ≤ 4294967296)) (.ret ⟨.s (.c (.slc nx 0 m)), [], [.vec sz [] (.gen m g)]⟩) .fail
      | _ => .fail) .fail
    | _ => .fail
  | _, _ => .fail

/-- WHAT AN OPERATION DOES. 'nx': the next new block's number. -/
def evalOp0 (P : Program) (S : Sums) (o : Oper) (ev : Operand → Option TV) (nx : Nat) : Tr Eff :=
  match o.op with
  | .move x | .assign x => opt (ev x) pureE
  | .pick c a b => match getC ev c with
    | some (.bool t) => .br t (opt (ev a) pureE) (opt (ev b) pureE)
    | _ => .fail
  | .alloc t => opt (zeroT P t) fun cs => .ret ⟨.s (.c (.ptr nx 0)), [], [.cells cs]⟩
  | .box _ x => opt (getV ev x) fun v => cond (v.cells.all CV.known) (.ret ⟨.s (.c (.ptr nx 0)), [], [.cells v.cells]⟩) .fail
  | .build t parts => opt (zeroT P t) fun z => opt (aggT P t) fun g => cond (g && buildOk P t) (opt (partsE P t (placeT P t) parts.toList ev z) fun cs => pureE (.s (.agg cs))) .fail
  | .buildSlice t n parts => buildSliceE P t n parts.toList ev nx
  | .slice t x lo hi none => sliceE P t (getC ev x) (optI ev lo 0) (fun n => optI ev hi n)
  | .load t x => opt (getC ev x) fun v => opt (szT P t) fun sz => opt (aggT P t) fun g => cond (g || sz == 1) (loadE g sz v) .fail
  | .store t x y => opt (getC ev x) fun a => opt (getV ev y) fun v => opt (szT P t) fun sz => storeE sz v a
  | .nilCheck x => opt (getC ev x) fun v => match v with
    | .ptr b o => cvE (.ptr b o)
    | .eptr b i o => cvE (.eptr b i o)
    | .fn f => cvE (.fn f)
    | _ => .fail
  | .binOp op t x y _ => opt (getV ev x) fun a => opt (getV ev y) fun b => match a, b with
    | .c (.bool a), .c (.bool b) => match P.underlying t, op with
      | some .bool, .eql => cvE (.bool (a == b))
      | some .bool, .neq => cvE (.bool (!(a == b)))
      | _, _ => .fail
    | .c (.ptr _ _), .c .nilp => match P.underlying t, op with
      | some (.pointer _), .eql => cvE (.bool false)
      | some (.pointer _), .neq => cvE (.bool true)
      | _, _ => .fail
    | .c .nilp, .c .nilp => match P.underlying t, op with
      | some (.pointer _), .eql => cvE (.bool true)
      | some (.pointer _), .neq => cvE (.bool false)
      | _, _ => .fail
    | .c a, .c b => opt (binE op a b) cvE
    | .agg a, .agg b => match op with
      | .eql => opt (kindsT P 20 t) fun ks => cond (decide (aggT P t = some true) && !P.eqGuardType P.depth t) (opt (eqK ks a b) fun r => cvE (.bool r)) .fail
      | .neq => opt (kindsT P 20 t) fun ks => cond (decide (aggT P t = some true) && !P.eqGuardType P.depth t) (opt (eqK ks a b) fun r => cvE (.bool (!r))) .fail
      | _ => .fail
    | _, _ => .fail
  | .unOp .not _ x => match getC ev x with
    | some (.bool b) => cvE (.bool (!b))
    | _ => .fail
  | .unOp .neg _ x => match getC ev x with
    | some (.int k n) => cvE (.int k (k.wrap (0 - n)))
    | _ => .fail
  | .convert src dst x => match getC ev x, P.underlying src, P.underlying dst with
    | some (.int _ n), some (.int _), some (.int k') => cvE (.int k' (k'.wrap n))
    | _, _, _ => .fail
  | .fieldAddr t x f => match getC ev x, fieldT P t f with
    | some (.ptr b o), some (off, ft) => match szT P ft with
      | some (_ + 1) => cvE (.ptr b (o + off))
      | _ => .fail
    | some (.eptr b i o), some (off, ft) => match szT P ft with
      | some (_ + 1) => cvE (.eptr b i (o + off))
      | _ => .fail
    | _, _ => .fail
  | .indexAddr t x i => match getC ev x, getC ev i, arrT P t with
    | some (.ptr b o), some (.int _ n), some (len, e) => match szT P e with
      | some sz => cond (decide (2 ≤ len) && decide (len ≤ 64)) (cond (decide (sz = 1)) (.br (decide (0 ≤ n) && decide (n < len)) (cvE (.iptr b o len n)) .fail) (idxTree n (fun j => cvE (.ptr b (o + j * sz))) len 0)) .fail
      | none => .fail
    | some (.slc b i0 len), some (.int _ n), _ => match P.underlying t with
      | some (.slice e) => opt (szT P e) fun sz => .br (decide (0 ≤ n) && decide (n < (len : Int))) (.rd b fun
        | .vec es _ _ | .ro es _ => cond (decide (es = sz)) (cvE (.eptr b (addI i0 n.toNat) 0)) .fail
        | _ => .fail) .fail
      | _ => .fail
    | _, _, _ => .fail
  | .index t x i => match ev x, getC ev i, arrT P t with
    | some (.s (.agg cs)), some (.int _ n), some (len, e) => match szT P e, aggT P e with
      | some sz, some g => cond (decide (len ≤ 64) && decide (len * sz ≤ cs.length)) (cond (!g && decide (sz = 1)) (.br (decide (0 ≤ n) && decide (n < len)) (selE n (cs.take len)) .fail) (idxTree n (fun j => cond (g || sz == 1) (retSV g ((cs.drop (j * sz)).take sz)) .fail) len 0)) .fail
      | _, _ => .fail
    | _, _, _ => .fail
  | .field t x f => match ev x, fieldT P t f with
    | some (.s (.agg cs)), some (off, ft) => match szT P ft, aggT P ft with
      | some sz, some g => cond ((g || sz == 1) && decide (off + sz ≤ cs.length)) (retSV g ((cs.drop off).take sz)) .fail
      | _, _ => .fail
    | _, _ => .fail
  | .extract x i => match ev x with
    | some (.tup l) => match l[i]? with
      | some v => pureE (.s v)
      | none => .fail
    | _ => .fail
  | .makeMap _ none => .ret ⟨.s (.c (.mp nx)), [], [.mapi []]⟩
  | .insert t m k v => match getC ev m, getC ev k, getC ev v, P.underlying t with
    | some (.mp b), some (.int .i64 n), some x, some (.map kt _) => match P.underlying kt with
      | some (.int .i64) => .rd b fun
        | .mapi [] => .ret ⟨undefE, [(b, some (.mapb [(n, x)]))], []⟩
        | .mapb es => cond (es.all fun p => !(n == p.1)) (.ret ⟨undefE, [(b, some (.mapb (es ++ [(n, x)])))], []⟩) .fail
        | _ => .fail
      | _ => .fail
    | _, _, _, _ => .fail
  | .mapUpdate t m k v => match getC ev m, getC ev k, getC ev v, P.underlying t with
    | some (.mp b), some (.int .i64 n), some (.bool x), some (.map kt _) => match P.underlying kt with
      | some (.int .i64) => .rd b fun
        | .mapi es => .ret ⟨undefE, [(b, some (.mapi (putM' n x es)))], []⟩
        | _ => .fail
      | _ => .fail
    | _, _, _, _ => .fail
  | .range t m => match getC ev m, P.underlying t with
    | some (.mp b), some (.map _ _) => .rd b fun
      | .mapi es => .ret ⟨.s (.c (.ptr nx 0)), [], [.iter (some b) es.length]⟩
      | _ => .fail
    | _, _ => .fail
  | .lookup t m k ok => match getC ev m, getC ev k, P.underlying t with
    | some (.mp b), some (.int .i64 n), some (.map kt et) => match P.underlying kt, (P.info? et).map (·.zero) with
      | some (.int .i64), some (some z) => match cvOf z with
        | some (.bool false) => .rd b fun
          | .mapi es => cond ok (pureE (.tup [.c (.bool ((getM n es).getD false)), .c (.bool (getM n es).isSome)])) (cvE (.bool ((getM n es).getD false)))
          | .mapb es => lookTree n (.bool false) ok es
          | _ => .fail
        | some zc => .rd b fun
          | .mapb es => lookTree n zc ok es
          | _ => .fail
        | none => .fail
      | _, _ => .fail
    | _, _, _ => .fail
  | .call c => match c.callee with
    | .value f => match getC ev f, getVs ev c.args.toList with
      | some (.fn g), some args => match S.find g with
        | some s => s args nx
        | none => .fail
      | _, _ => .fail
    | .builtin .len => lenE P c.argTypes[0]? (getVs ev c.args.toList)
    | .builtin .append => appE P c.argTypes.toList (getVs ev c.args.toList) nx
    | .builtin .max => match intsOf ev c.args.toList with
      | some (x :: r) => cvE (.int .i64 (foldMax x r))
      | _ => .fail
    | .builtin .min => match intsOf ev c.args.toList with
      | some (x :: r) => cvE (.int .i64 (foldMin x r))
      | _ => .fail
    | _ => .fail
  | _ => .fail

/-! ### Strings, shifts, made rows -/
/-- Is it a byte? Which? -/
def isByte : List CV → Bool
  | [.int .u8 _] => true
  | _ => false
def byteOf : List CV → Int
  | [.int .u8 n] => n
  | _ => 0
def bytesOk (g : Nat → List CV) : Nat → Nat → Bool
  | _, 0 => true
  | i, k + 1 => isByte (g i) && bytesOk g (i + 1) k
def bytesAt (g : Nat → List CV) (i n : Nat) : List Int := (List.range n).map fun j => byteOf (g (addI i j))
def strBin (op : BinOp) : CV → CV → Option (Tr Eff)
  | .str a, .str b => match op with
    | .add => some (.br (decide (a.size + b.size ≤ 9223372036854775807)) (cvE (.str (a ++ b))) .fail)
    | _ => none
  | .int k a, .int k' b => match op with
    | .quo => some (cond (decide (k = k')) (.br (!(b == 0)) (cvE (.int k (k.wrap (a.tdiv b)))) .fail) .fail)
    | .rem => some (cond (decide (k = k')) (.br (!(b == 0)) (cvE (.int k (a.tmod b))) .fail) .fail)
    | .shr => some (.br (decide (0 ≤ b)) (cvE (.int k (a.fdiv (2 ^ min b.toNat k.bits)))) .fail)
    | .and => some (cond (decide (k = k')) (cvE (.int k (k.wrap ((BitVec.ofInt k.bits a &&& BitVec.ofInt k.bits b).toNat)))) .fail)
    | _ => none
  | _, _ => none
/-- What an operation does on strings, and the like. -/
def strOp (P : Program) (o : Oper) (ev : Operand → Option TV) (nx : Nat) : Option (Tr Eff) := match o.op with
  | .binOp op _ x y _ => match getC ev x, getC ev y with
    | some a, some b => strBin op a b
    | _, _ => none
  | .slice t x lo hi none => match getC ev x, P.underlying t with
    | some (.str s), some .string => some (opt (optI ev lo 0) fun l => opt (optI ev hi (s.size : Int)) fun h => .br (decide (0 ≤ l) && decide (l ≤ h) && decide (h ≤ (s.size : Int))) (cvE (.str (s.extract l.toNat h.toNat))) .fail)
    | some (.ptr b k), some (.array n e) => some (cond (lo.isNone && hi.isNone && decide (0 < n) && decide (szT P e = some 1)) (cvE (.asl b k n)) .fail)
    | _, _ => none
  | .index t x i => match getC ev x, getC ev i, P.underlying t with
    | some (.str s), some (.int _ n), some .string => some (.br (decide (0 ≤ n) && decide (n < (s.size : Int))) (cvE (.int .u8 ((s.data.toList.getD n.toNat 0).toNat : Int))) .fail)
    | _, _, _ => none
  | .makeSlice t l c => match getC ev l, getC ev c, P.underlying t with
    | some (.int _ n), some (.int _ m), some (.slice e) => some (opt (szT P e) fun sz => opt (zeroT P e) fun z => opt (bytesT P e) fun by_ => cond (decide (0 < sz) && decide (z.length = sz) && decide (by_ ≤ 16384) && z.all CV.plain)
      (.br (decide (n = m) && decide (0 ≤ n) && decide (n ≤ 16777216)) (.ret ⟨.s (.c (.slc nx 0 n.toNat)), [], [.vec sz [] (.gen n.toNat fun _ => z)]⟩) .fail) .fail)
    | _, _, _ => none
  | .convert src dst x => match getC ev x, P.underlying src, P.underlying dst with
    | some (.slc b i n), some (.slice e), some .string => match P.underlying e with
      | some (.int .u8) => some (.rd b fun
        | .vec 1 _ c => .br (decide (addI i n ≤ c.size) && bytesOk c.get i n) (cvE (.str (strOfNums (bytesAt c.get i n)))) .fail
        | _ => .fail)
      | _ => none
    | _, _, _ => none
  | .call c => match c.callee with
    | .builtin .len => match c.argTypes[0]?, getVs ev c.args.toList with
      | some t, some [.c (.str s)] => match P.underlying t with
        | some .string => some (cvE (.int .i64 (s.size : Int)))
        | _ => none
      | _, _ => none
    | _ => none
  | _ => none
/-- What an operation does. -/
def evalOp (P : Program) (S : Sums) (o : Oper) (ev : Operand → Option TV) (nx : Nat) : Tr Eff := match strOp P o ev nx with
  | some t => t
  | none => evalOp0 P S o ev nx

end Go.Proofs.YtkkacjmjjhjpeaaDoor.Sx

namespace Go.Proofs.YtkkacjmjjhjpeaaDoor.Sx
open Go

theorem upd_nil (look : Look) (sv : TV) (nx : Nat) : upd look ⟨sv, [], []⟩ nx = look := by
  funext b
  simp only [upd, updW, List.length_nil, Nat.add_zero]
  split
  · rw [if_neg (by omega)]
  · rfl
theorem upd_new (look : Look) (sv : TV) (sb : SB) (nx : Nat) : upd look ⟨sv, [], [sb]⟩ nx = fun b => if b = nx then some sb else look b := by
  funext b
  simp only [upd, updW, List.length_cons, List.length_nil]
  by_cases h : b = nx
  · subst h; simp
  · rw [if_neg h]
    split
    · rw [if_neg (by omega)]
    · rfl
theorem upd_one (look : Look) (sv : TV) (c : Nat) (s : Option SB) (nx : Nat) : upd look ⟨sv, [(c, s)], []⟩ nx = fun b => if b = c then s else look b := by
  funext b
  simp only [upd, updW, List.length_nil, Nat.add_zero]
  split
  · rw [if_neg (by omega)]
  · rfl

theorem BlkR.lt {C : Ctx} {ρ : Rho} {l : Loc} {sb : SB} {w : World} (h : BlkR C ρ l sb w) : l.nil = true ∨ l.blk < w.heap.size ∨ sb.own = false := by
  cases sb with
  | cells cs => obtain ⟨_, arr, t, e, _⟩ := h; exact .inr (.inl (Array.getElem?_eq_some_iff.1 e).1)
  | vec es pre c =>
    rcases h with h | ⟨_, arr, t, e, _⟩
    · exact .inl h.1
    · exact .inr (.inl (Array.getElem?_eq_some_iff.1 e).1)
  | ro es c => exact .inr (.inr rfl)
  | mapi es => obtain ⟨_, e⟩ := h; exact .inr (.inl (Array.getElem?_eq_some_iff.1 e).1)
  | mapb es => obtain ⟨_, en, cl, e, _⟩ := h; exact .inr (.inl (Array.getElem?_eq_some_iff.1 e).1)
  | iter b n => obtain ⟨_, m, e, _⟩ := h; exact .inr (.inl (Array.getElem?_eq_some_iff.1 e).1)

theorem BlkR.later {C : Ctx} {ρ : Rho} {l : Loc} {sb : SB} {w w' : World} (h : BlkR C ρ l sb w) (hw : ∀ n, n < w.heap.size → w'.heap[n]? = w.heap[n]?) : BlkR C ρ l sb w' := by
  have g : ∀ o, w.heap[l.blk]? = some o → w'.heap[l.blk]? = some o := fun o e => (hw _ (Array.getElem?_eq_some_iff.1 e).1).trans e
  cases sb with
  | cells cs => obtain ⟨hn, arr, t, e, h1⟩ := h; exact ⟨hn, arr, t, g _ e, h1⟩
  | vec es pre c =>
    rcases h with h | ⟨hn, arr, t, e, h1⟩
    · exact .inl h
    · exact .inr ⟨hn, arr, t, g _ e, h1⟩
  | ro es c =>
    rcases h with ⟨he, h | ⟨arr, t, fr, hI, e, h1⟩⟩
    · exact ⟨he, .inl h⟩
    · exact ⟨he, .inr ⟨arr, t, fr, hI, g _ e, h1⟩⟩
  | mapi es => obtain ⟨hn, e⟩ := h; exact ⟨hn, g _ e⟩
  | mapb es => obtain ⟨hn, en, cl, e, h1⟩ := h; exact ⟨hn, en, cl, g _ e, h1⟩
  | iter b n => obtain ⟨hn, m, e, h1⟩ := h; exact ⟨hn, m, g _ e, h1⟩

def Rho.put (ρ : Rho) (b : Nat) (l : Loc) : Rho := fun c => if c = b then some l else ρ c
theorem Rho.le_put {ρ : Rho} {b : Nat} {l : Loc} (h : ρ b = none) : ρ.le (ρ.put b l) := fun c m hc => by
  unfold Rho.put
  split
  · rename_i e; subst e; rw [h] at hc; cases hc
  · exact hc
theorem Rho.put_same (ρ : Rho) (b : Nat) (l : Loc) : ρ.put b l b = some l := by simp [Rho.put]

section
variable {C : Ctx} {w1 : World} {S : Nat → Prop} {ρ : Rho} {look : Look} {w : World}

theorem heap_alloc_old (w : World) (o : Obj) (n : Nat) (h : n < w.heap.size) : (w.alloc o).heap[n]? = w.heap[n]? := by
  show (w.heap.push o)[n]? = _
  rw [Array.getElem?_push, if_neg (Nat.ne_of_lt h)]
theorem heap_alloc_at (w : World) (o : Obj) : (w.alloc o).heap[w.heap.size]? = some o := by
  show (w.heap.push o)[w.heap.size]? = _
  rw [Array.getElem?_push, if_pos rfl]

/-- A new block. -/
theorem HRep.new (H : HRep C w1 S ρ look w) {nx : Nat} (hn : ρ nx = none) (o : Obj) (l : Loc) (hl : l.blk = w.heap.size) (sb : SB)
    (hsb : BlkR C (ρ.put nx l) l sb (w.alloc o)) : HRep C w1 S (ρ.put nx l) (fun b => if b = nx then some sb else look b) (w.alloc o) := by
  have hI : ¬ C.I w.heap.size := fun h => absurd (H.out _ h).2 (by omega)
  have hno : ∀ b x, b ≠ nx → ρ.put nx l b = some x → ρ b = some x := fun b x hb h => by simpa [Rho.put, hb] using h
  refine ⟨?_, ?_, ?_, ?_, ?_, ?_, H.env⟩
  · intro b s hs
    by_cases hb : b = nx
    · subst hb
      simp only [if_true, Option.some.injEq] at hs
      subst hs
      exact ⟨l, Rho.put_same .., hsb⟩
    · simp only [hb, if_false] at hs
      obtain ⟨l', h1, h2⟩ := H.blk b s hs
      exact ⟨l', Rho.le_put hn _ _ h1, (h2.later fun n hn => heap_alloc_old w o n hn).mono (Rho.le_put hn)⟩
  · intro b b' s s' m m' hs hs' ho ho' hm hm' hnil hnil' hne
    have key : ∀ b s m, b ≠ nx → look b = some s → s.own = true → ρ.put nx l b = some m → m.nil = false → m.blk < w.heap.size :=
      fun b s m hb h1 h2 h3 h4 => (H.own b s m h1 h2 (hno b m hb h3) h4).2.1
    by_cases hb : b = nx
    · have hb' : b' ≠ nx := fun h => hne (hb.trans h.symm)
      simp only [hb', if_false] at hs'
      have := key b' s' m' hb' hs' ho' hm' hnil'
      subst hb
      rw [Rho.put_same] at hm
      cases hm
      omega
    · simp only [hb, if_false] at hs
      by_cases hb' : b' = nx
      · have := key b s m hb hs ho hm hnil
        subst hb'
        rw [Rho.put_same] at hm'
        cases hm'
        omega
      · simp only [hb', if_false] at hs'
        exact H.inj b b' s s' m m' hs hs' ho ho' (hno _ _ hb hm) (hno _ _ hb' hm') hnil hnil' hne
  · intro b s m hs ho hm hnil
    by_cases hb : b = nx
    · subst hb
      rw [Rho.put_same] at hm
      cases hm
      rw [hl]
      exact ⟨hI, by simp, .inr H.size⟩
    · simp only [hb, if_false] at hs
      obtain ⟨h1, h2, h3⟩ := H.own b s m hs ho (hno _ _ hb hm) hnil
      exact ⟨h1, by simp; omega, h3⟩
  · intro n hn'
    obtain ⟨h1, h2⟩ := H.out n hn'
    exact ⟨by rw [heap_alloc_old w o n h2]; exact h1, by simp; omega⟩
  · intro n hn' hS
    rw [heap_alloc_old w o n (Nat.lt_of_lt_of_le hn' H.size)]
    exact H.frame n hn' hS
  · have := H.size; simp; omega

/-- A block is turned. -/
theorem HRep.set (H : HRep C w1 S ρ look w) {b : Nat} {l : Loc} {sb sb' : SB} (hb : look b = some sb) (ho : sb.own = true) (hl : ρ b = some l) (hn : l.nil = false)
    (w' : World) (hsz : w'.heap.size = w.heap.size) (hoth : ∀ n, n ≠ l.blk → w'.heap[n]? = w.heap[n]?) (henv : w'.os = w.os ∧ w'.tape = w.tape ∧ w'.output = w.output)
    (hsb : BlkR C ρ l sb' w') : HRep C w1 S ρ (fun c => if c = b then some sb' else look c) w' := by
  obtain ⟨hI, hlt, hS⟩ := H.own b sb l hb ho hl hn
  refine ⟨?_, ?_, ?_, ?_, ?_, ?_, ?_⟩
  · intro c s hs
    by_cases hc : c = b
    · subst hc
      simp only [if_true, Option.some.injEq] at hs
      subst hs
      exact ⟨l, hl, hsb⟩
    · simp only [hc, if_false] at hs
      obtain ⟨m, h1, h2⟩ := H.blk c s hs
      refine ⟨m, h1, ?_⟩
      cases hso : s.own with
      | true =>
        cases hmn : m.nil with
        | true =>
          cases s with
          | cells cs => exact absurd h2.1 (by simp [hmn])
          | vec es pre cc =>
            rcases h2 with h2 | h2
            · exact .inl h2
            · exact absurd h2.1 (by simp [hmn])
          | ro es cc => simp [SB.own] at hso
          | mapi es => exact absurd h2.1 (by simp [hmn])
          | mapb es => exact absurd h2.1 (by simp [hmn])
          | iter b n => exact absurd h2.1 (by simp [hmn])
        | false => exact h2.heap (hoth _ (H.inj c b s sb m l hs hb hso ho h1 hl hmn hn hc))
      | false =>
        cases s with
        | ro es cc =>
          rcases h2 with ⟨he, h2 | ⟨arr, t, fr, hIm, e, h3⟩⟩
          · exact ⟨he, .inl h2⟩
          · refine ⟨he, .inr ⟨arr, t, fr, hIm, (hoth _ (fun h => hI (h ▸ hIm))).trans e, h3⟩⟩
        | _ => simp [SB.own] at hso
  · intro c c' s s' m m' hs hs' hso hso' hm hm' hnil hnil' hne
    have key : ∀ c s m, (if c = b then some sb' else look c) = some s → s.own = true → ρ c = some m → ∃ s0, look c = some s0 ∧ s0.own = true := fun c s m h1 h2 h3 => by
      by_cases hc : c = b
      · subst hc; exact ⟨sb, hb, ho⟩
      · simp only [hc, if_false] at h1; exact ⟨s, h1, h2⟩
    obtain ⟨s0, a1, a2⟩ := key c s m hs hso hm
    obtain ⟨s1, b1, b2⟩ := key c' s' m' hs' hso' hm'
    exact H.inj c c' s0 s1 m m' a1 b1 a2 b2 hm hm' hnil hnil' hne
  · intro c s m hs hso hm hnil
    rw [hsz]
    by_cases hc : c = b
    · subst hc
      exact H.own c sb m hb ho hm hnil
    · simp only [hc, if_false] at hs
      exact H.own c s m hs hso hm hnil
  · intro n hn'
    obtain ⟨h1, h2⟩ := H.out n hn'
    exact ⟨(hoth n (fun h => hI (h ▸ hn'))).trans h1, by omega⟩
  · intro n hn' hSn
    rw [hoth n (fun h => by subst h; rcases hS with h | h <;> first | exact hSn h | omega)]
    exact H.frame n hn' hSn
  · have := H.size; omega
  · exact ⟨henv.1.trans H.env.1, henv.2.1.trans H.env.2.1, henv.2.2.trans H.env.2.2⟩

/-- A draw. -/
theorem HRep.drew (H : HRep C w1 S ρ look w) : HRep C w1 S ρ look w.drew :=
  ⟨fun b s h => let ⟨l, h1, h2⟩ := H.blk b s h; ⟨l, h1, h2.heap rfl⟩, H.inj, H.own, H.out, H.frame, H.size, H.env⟩
end

section
variable {C : Ctx} {w1 : World} {S : Nat → Prop} {ρ : Rho} {look look' : Look} {w : World}

/-- Blocks are forgotten. -/
theorem HRep.drop (H : HRep C w1 S ρ look w) (h : ∀ b s, look' b = some s → look b = some s) : HRep C w1 S ρ look' w :=
  ⟨fun b s hb => H.blk b s (h b s hb), fun b b' s s' l l' hb hb' => H.inj b b' s s' l l' (h b s hb) (h b' s' hb'), fun b s l hb => H.own b s l (h b s hb), H.out, H.frame, H.size, H.env⟩

/-- A nil row gets a number. -/
theorem HRep.newNil (H : HRep C w1 S ρ look w) {nx : Nat} (hn : ρ nx = none) {l : Loc} (hl : l.nil = true) {sb : SB} (hsb : BlkR C (ρ.put nx l) l sb w) : HRep C w1 S (ρ.put nx l) (fun b => if b = nx then some sb else look b) w := by
  have hno : ∀ b x, b ≠ nx → ρ.put nx l b = some x → ρ b = some x := fun b x hb h => by simpa [Rho.put, hb] using h
  refine ⟨?_, ?_, ?_, H.out, H.frame, H.size, H.env⟩
  · intro b s hs
    by_cases hb : b = nx
    · subst hb
      simp only [if_true, Option.some.injEq] at hs
      subst hs
      exact ⟨l, Rho.put_same .., hsb⟩
    · simp only [hb, if_false] at hs
      obtain ⟨m, h1, h2⟩ := H.blk b s hs
      exact ⟨m, Rho.le_put hn b m h1, h2.mono (Rho.le_put hn)⟩
  · intro b b' s s' m m' hs hs' ho ho' hm hm' hnl hnl' hne
    by_cases hb : b = nx
    · subst hb; rw [Rho.put_same] at hm; cases hm; rw [hl] at hnl; cases hnl
    · by_cases hb' : b' = nx
      · subst hb'; rw [Rho.put_same] at hm'; cases hm'; rw [hl] at hnl'; cases hnl'
      · simp only [hb, hb', if_false] at hs hs'
        exact H.inj b b' s s' m m' hs hs' ho ho' (hno b m hb hm) (hno b' m' hb' hm') hnl hnl' hne
  · intro b s m hs ho hm hnl
    by_cases hb : b = nx
    · subst hb; rw [Rho.put_same] at hm; cases hm; rw [hl] at hnl; cases hnl
    · simp only [hb, if_false] at hs
      exact H.own b s m hs ho (hno b m hb hm) hnl

/-- A block goes on under another number. -/
theorem HRep.move (H : HRep C w1 S ρ look w) {b nx : Nat} {l l' : Loc} {sb sb' : SB} (hb : look b = some sb) (ho : sb.own = true) (hl : ρ b = some l) (hnil : l.nil = false) (hblk : l'.blk = l.blk) (hnx : ρ nx = none)
    (hsb : BlkR C (ρ.put nx l') l' sb' w) : HRep C w1 S (ρ.put nx l') (fun c => if c = nx then some sb' else if c = b then none else look c) w := by
  have hno : ∀ b x, b ≠ nx → ρ.put nx l' b = some x → ρ b = some x := fun b x hb h => by simpa [Rho.put, hb] using h
  refine ⟨?_, ?_, ?_, H.out, H.frame, H.size, H.env⟩
  · intro c s hs
    by_cases hc : c = nx
    · subst hc
      simp only [if_true, Option.some.injEq] at hs
      subst hs
      exact ⟨l', Rho.put_same .., hsb⟩
    · simp only [hc, if_false] at hs
      split at hs
      · cases hs
      · obtain ⟨m, h1, h2⟩ := H.blk c s hs
        exact ⟨m, Rho.le_put hnx c m h1, h2.mono (Rho.le_put hnx)⟩
  · intro c c' s s' m m' hs hs' hso hso' hm hm' hnl hnl' hne
    by_cases hc : c = nx
    · subst hc
      rw [Rho.put_same] at hm
      cases hm
      have hc' : c' ≠ c := fun h => hne h.symm
      simp only [hc', if_false] at hs'
      split at hs'
      · cases hs'
      · rename_i hcb
        rw [hblk]
        exact H.inj b c' sb s' l m' hb hs' ho hso' hl (hno c' m' hc' hm') hnil hnl' (fun h => hcb h.symm)
    · simp only [hc, if_false] at hs
      split at hs
      · cases hs
      · rename_i hcb
        by_cases hc' : c' = nx
        · subst hc'
          rw [Rho.put_same] at hm'
          cases hm'
          rw [hblk]
          exact H.inj c b s sb m l hs hb hso ho (hno c m hc hm) hl hnl hnil hcb
        · simp only [hc', if_false] at hs'
          split at hs'
          · cases hs'
          · exact H.inj c c' s s' m m' hs hs' hso hso' (hno c m hc hm) (hno c' m' hc' hm') hnl hnl' hne
  · intro c s m hs hso hm hnl
    by_cases hc : c = nx
    · subst hc
      rw [Rho.put_same] at hm
      cases hm
      rw [hblk]
      exact H.own b sb l hb ho hl hnil
    · simp only [hc, if_false] at hs
      split at hs
      · cases hs
      · exact H.own c s m hs hso (hno c m hc hm) hnl
end

/-! ### Many cells of one block -/
theorem heap_setCell (w : World) (b o : Nat) (v : Value) (arr : Array Value) (t : TypeId) (fr : Nat × Nat) (h : w.heap[b]? = some (.cells arr t fr)) :
    (w.setCell ⟨b, o, none⟩ v).heap[b]? = some (.cells (arr.setIfInBounds o v) t fr) := by
  show (w.heap.modify b _)[b]? = _
  rw [Array.getElem?_modify, if_pos rfl, h]
  rfl
theorem heap_setCell_other (w : World) (b o : Nat) (v : Value) (n : Nat) (h : n ≠ b) : (w.setCell ⟨b, o, none⟩ v).heap[n]? = w.heap[n]? := by
  show (w.heap.modify b _)[n]? = _
  rw [Array.getElem?_modify, if_neg (Ne.symm h)]

theorem setCells_heap (b : Nat) (t : TypeId) (fr : Nat × Nat) : ∀ (vs : List Value) (o : Nat) (w : World) (arr : Array Value), w.heap[b]? = some (.cells arr t fr) → o + vs.length ≤ arr.size →
    ∃ arr', (w.setCells b o vs).heap[b]? = some (.cells arr' t fr) ∧ arr'.toList = setRange arr.toList o vs
  | [], o, w, arr, h, _ => ⟨arr, by simpa [World.setCells] using h, by simp [setRange]⟩
  | v :: vs, o, w, arr, h, hl => by
    simp only [List.length_cons] at hl
    obtain ⟨arr', h1, h2⟩ := setCells_heap b t fr vs (o + 1) (w.setCell ⟨b, o, none⟩ v) (arr.setIfInBounds o v) (heap_setCell w b o v arr t fr h) (by simp; omega)
    refine ⟨arr', by simpa [World.setCells] using h1, ?_⟩
    rw [h2]
    simp only [setRange, Array.toList_setIfInBounds, List.length_cons]
    rw [List.drop_set_of_lt (by omega)]
    rw [List.take_set]
    have : (arr.toList.take (o + 1)).set o v = arr.toList.take o ++ [v] := by
      rw [List.take_succ_eq_append_getElem (by simp; omega), List.set_append_right _ _ (by simp; omega)]
      simp [Nat.min_eq_left (show o ≤ arr.size by omega)]
    rw [this]
    simp [Nat.add_comm, Nat.add_left_comm]
theorem setCells_other (b : Nat) (n : Nat) (hn : n ≠ b) : ∀ (vs : List Value) (o : Nat) (w : World), (w.setCells b o vs).heap[n]? = w.heap[n]?
  | [], _, _ => rfl
  | v :: vs, o, w => by rw [World.setCells, setCells_other b n hn vs]; exact heap_setCell_other w b o v n hn
theorem setCells_rest (b : Nat) : ∀ (vs : List Value) (o : Nat) (w : World), (w.setCells b o vs).heap.size = w.heap.size ∧ (w.setCells b o vs).os = w.os ∧ (w.setCells b o vs).tape = w.tape ∧ (w.setCells b o vs).output = w.output
  | [], _, _ => ⟨rfl, rfl, rfl, rfl⟩
  | v :: vs, o, w => by
    have := setCells_rest b vs (o + 1) (w.setCell ⟨b, o, none⟩ v)
    simp only [World.setCells]
    exact ⟨this.1.trans (by simp), this.2.1.trans rfl, this.2.2.1.trans rfl, this.2.2.2.trans rfl⟩

theorem RL.setRange {R : CV → Value → Prop} {xs ys : List CV} {vs us : List Value} (h : RL R xs vs) (h' : RL R ys us) (o : Nat) : RL R (setRange xs o ys) (setRange vs o us) := by
  unfold Sx.setRange
  rw [h'.length]
  exact (h.take o).append (h'.append (h.drop _))

end Go.Proofs.YtkkacjmjjhjpeaaDoor.Sx

namespace Go.Proofs.YtkkacjmjjhjpeaaDoor.Sx
open Go

def Dom (ρ ρ' : Rho) (nx n : Nat) : Prop := ∀ b l, ρ' b = some l → ρ b = some l ∨ (nx ≤ b ∧ b < nx + n)

def OpOk (P : Program) (C : Ctx) (w1 : World) (S : Nat → Prop) (ρ : Rho) (look : Look) (nx : Nat) (o : Oper) (a : Act) (w : World) (e : Eff) : Prop :=
  ∀ (K : Act → World → Prop) (Q : Exit → Act → World → Prop),
    (∀ ρ' v w', ρ.le ρ' → Dom ρ ρ' nx e.nw.length → e.sv.R C.X ρ' v → HRep C w1 S ρ' (upd look e nx) w' → K (a.put o.dst v) w') → o.wp P a w K Q

/-- A function's summary is right. -/
def SumOk (P : Program) (f : FuncId) (s : Sum) : Prop :=
  (∃ fn, P.funcs[f]? = some fn ∧ fn.body.isNone = false ∧ (fn.name == "runtime.NumGoroutine") = false) ∧
  ∀ (C : Ctx) (w1 : World) (S : Nat → Prop) (ρ : Rho) (look : Look) (w : World) (args : List SV) (vs : List Value) (nx : Nat) (e : Eff) (rds : List Nat),
    SL (SV.R C.X ρ) args vs → HRep C w1 S ρ look w → (∀ j, j < e.nw.length → ρ (nx + j) = none) → (s args nx).sem look = some (e, rds) →
    Calls P f vs.toArray w fun x w' => ∃ v ρ', x = .returned v ∧ ρ.le ρ' ∧ Dom ρ ρ' nx e.nw.length ∧ e.sv.R C.X ρ' v ∧ HRep C w1 S ρ' (upd look e nx) w'

def SumsOk (P : Program) (S : Sums) : Prop := ∀ p ∈ S, SumOk P p.1 p.2
theorem SumsOk.find {P : Program} : ∀ {S : Sums} {f : FuncId} {s : Sum}, SumsOk P S → S.find f = some s → SumOk P f s
  | [], _, _, _, h => by simp [Sums.find] at h
  | (g, t) :: r, f, s, H, h => by
    simp only [Sums.find] at h
    split at h
    · rename_i e; cases h; subst e; exact H (g, t) (by simp)
    · exact SumsOk.find (fun p hp => H p (by simp [hp])) h

theorem opt_sem {α β : Type} {look : Look} {x : Option α} {f : α → Tr β} {r : β × List Nat} : (opt x f).sem look = some r ↔ ∃ a, x = some a ∧ (f a).sem look = some r := by
  cases x <;> simp [opt, Tr.sem]
theorem cond_sem {α : Type} {look : Look} {b : Bool} {t : Tr α} {r : α × List Nat} : (cond b t .fail).sem look = some r ↔ b = true ∧ t.sem look = some r := by
  cases b <;> simp [Tr.sem]
theorem br_sem {α : Type} {look : Look} {b : Bool} {t : Tr α} {r : α × List Nat} : (Tr.br b t .fail).sem look = some r ↔ b = true ∧ t.sem look = some r := by
  cases b <;> simp [Tr.sem]
theorem pure_sem {look : Look} {v : TV} {r : Eff × List Nat} : (pureE v).sem look = some r ↔ r = (⟨v, [], []⟩, []) := by
  simp [pureE, Tr.sem, eq_comm]
theorem cv_sem {look : Look} {v : CV} {r : Eff × List Nat} : (cvE v).sem look = some r ↔ r = (⟨.s (.c v), [], []⟩, []) := pure_sem
theorem ret_sem {α : Type} {look : Look} {v : α} {r : α × List Nat} : (Tr.ret v).sem look = some r ↔ r = (v, []) := by
  simp [Tr.sem, eq_comm]
theorem fail_sem {α : Type} {look : Look} {r : α × List Nat} : ((Tr.fail : Tr α).sem look = some r) ↔ False := by simp [Tr.sem]
theorem rd_sem {α : Type} {look : Look} {b : Nat} {k : SB → Tr α} {a : α} {l : List Nat} : (Tr.rd b k).sem look = some (a, l) ↔ ∃ s m, look b = some s ∧ (k s).sem look = some (a, m) ∧ l = b :: m := by
  simp only [Tr.sem]
  cases look b with
  | none => simp
  | some s =>
    cases h : (k s).sem look with
    | none => simp [h]
    | some x =>
      obtain ⟨y, m⟩ := x
      simp only [h, Option.some.injEq, Prod.mk.injEq]
      constructor
      · rintro ⟨rfl, rfl⟩; exact ⟨s, m, rfl, ⟨by rw [h], rfl⟩⟩
      · rintro ⟨s', m', rfl, h2, rfl⟩
        rw [h] at h2
        simp only [Option.some.injEq, Prod.mk.injEq] at h2
        exact ⟨h2.1, by rw [h2.2]⟩

section
variable {P : Program} {C : Ctx} {w1 : World} {S : Nat → Prop} {ρ : Rho} {look : Look} {nx : Nat} {o : Oper} {a : Act} {w : World} {ev : Operand → Option TV}

theorem getV_R (hev : ∀ x tv, ev x = some tv → tv.R C.X ρ (a.eval x)) {x : Operand} {v : SV} (h : getV ev x = some v) : v.R C.X ρ (a.eval x) := by
  unfold getV at h
  split at h
  · rename_i v' e; cases h; exact hev _ _ e
  · cases h
theorem getC_R (hev : ∀ x tv, ev x = some tv → tv.R C.X ρ (a.eval x)) {x : Operand} {v : CV} (h : getC ev x = some v) : v.R C.X ρ (a.eval x) := by
  unfold getC at h
  split at h
  · rename_i v' e; cases h; exact hev _ _ e
  · cases h

theorem OpOk.value {sv : TV} {v : Value} (hr : (execOp a.eval o).run P w = .ok (.value v) w) (hv : sv.R C.X ρ v) (H : HRep C w1 S ρ look w) :
    OpOk P C w1 S ρ look nx o a w ⟨sv, [], []⟩ := fun K Q hK => by
  unfold Oper.wp
  rw [hr]
  exact hK ρ v w (Rho.le.refl _) (fun b l h => .inl h) hv (by rw [upd_nil]; exact H)

theorem OpOk.new {sv : TV} {v : Value} {sb : SB} {l : Loc} {ob : Obj} (hr : (execOp a.eval o).run P w = .ok (.value v) (w.alloc ob)) (hn : ρ nx = none) (hl : l.blk = w.heap.size)
    (hv : sv.R C.X (ρ.put nx l) v) (hsb : BlkR C (ρ.put nx l) l sb (w.alloc ob)) (H : HRep C w1 S ρ look w) :
    OpOk P C w1 S ρ look nx o a w ⟨sv, [], [sb]⟩ := fun K Q hK => by
  unfold Oper.wp
  rw [hr]
  refine hK (ρ.put nx l) v _ (Rho.le_put hn) (fun b m h => ?_) hv (by rw [upd_new]; exact H.new hn ob l hl sb hsb)
  unfold Rho.put at h
  split at h
  · rename_i e; exact .inr (by subst e; simp)
  · exact .inl h

theorem OpOk.newCells {cs : List CV} {arr : Array Value} {t : TypeId} (hr : (execOp a.eval o).run P w = .ok (.value (.pointer (some ⟨w.heap.size, 0, none⟩))) (w.alloc (.cells arr t))) (hn : ρ nx = none)
    (hcs : RL (CV.R C.X ρ) cs arr.toList) (H : HRep C w1 S ρ look w) :
    OpOk P C w1 S ρ look nx o a w ⟨.s (.c (.ptr nx 0)), [], [.cells cs]⟩ :=
  OpOk.new (l := ⟨w.heap.size, 0, 0, 0, false⟩) hr hn rfl ⟨_, Rho.put_same .., rfl⟩
    ⟨rfl, arr, t, heap_alloc_at .., hcs.mono fun _ _ => CV.R.mono (Rho.le_put hn)⟩ H

theorem szT_info {t : TypeId} {n : Nat} (h : szT P t = some n) : ∃ i, P.info? t = some i ∧ i.size = n := by
  unfold szT at h
  cases hi : P.info? t with
  | none => simp [hi] at h
  | some i => exact ⟨i, rfl, by simpa [hi] using h⟩
theorem run_sizeOf {t : TypeId} {n : Nat} (h : szT P t = some n) (w : World) : (sizeOf t).run P w = .ok n w := by
  obtain ⟨i, h1, rfl⟩ := szT_info h
  simp [sizeOf, typeInfo, h1]
theorem run_isAgg {t : TypeId} {g : Bool} (h : aggT P t = some g) (w : World) : (isAgg t).run P w = .ok g w := by
  unfold aggT at h
  cases hu : P.underlying t with
  | none => simp [hu] at h
  | some d =>
    simp only [hu, Option.map_some, Option.some.injEq] at h
    unfold isAgg
    rw [Sem.run_bind, run_underlying hu w]
    subst h
    cases d <;> rfl

theorem cvOf_R {X : Outs} {v : Value} {x : CV} (h : cvOf v = some x) : x.R X ρ v := by
  unfold cvOf at h
  split at h <;> first
    | (cases h; exact rfl)
    | (rename_i f first cap
       cases hb : (first.isEmpty && cap.isEmpty) with
       | false => simp [hb] at h
       | true =>
         simp only [hb, cond_true, Option.some.injEq] at h
         subst h
         simp only [Bool.and_eq_true, Array.isEmpty_iff] at hb
         obtain ⟨rfl, rfl⟩ := hb
         rfl)
    | cases h
theorem cvsOf_R {X : Outs} : ∀ {vs : List Value} {l : List CV}, cvsOf vs = some l → RL (CV.R X ρ) l vs
  | [], l, h => by simp only [cvsOf, Option.some.injEq] at h; subst h; trivial
  | v :: r, l, h => by
    simp only [cvsOf] at h
    split at h
    · rename_i x l' h1 h2
      cases h
      exact ⟨cvOf_R h1, cvsOf_R h2⟩
    · cases h

theorem zeroT_R {X : Outs} {t : TypeId} {cs : List CV} (h : zeroT P t = some cs) : ∃ z, (∀ w, (zeroValue t).run P w = .ok z w) ∧ RL (CV.R X ρ) cs z.cells.toList := by
  unfold zeroT at h
  split at h
  · rename_i z hz
    cases hi : P.info? t with
    | none => simp [hi] at hz
    | some i =>
      have hz' : i.zero = some z := by simpa [hi] using hz
      exact ⟨z, fun w => by simp [zeroValue, typeInfo, hi, hz'], cvsOf_R h⟩
  · cases h

theorem SV.R.cells {X : Outs} {v : SV} {u : Value} (hk : v.cells.all CV.known = true) (h : v.R X ρ u) : RL (CV.R X ρ) v.cells u.cells.toList := by
  cases v with
  | c x =>
    have := CV.R.one (by simpa [SV.cells] using hk) h
    rw [this.2]
    exact ⟨h, trivial⟩
  | agg l => obtain ⟨vs, rfl, hl⟩ := h; simpa [SV.cells, Value.cells] using hl

/-! ### The operations -/
theorem ok_value1 {s : Sem Value} {v : Value} (h : s.run P w = .ok v w) : (do pure (.value (← s)) : Sem Next).run P w = .ok (.value v) w := by
  simp [h]

theorem ok_move {x : Operand} {e : Eff} {rds : List Nat} (ho : o.op = .move x ∨ o.op = .assign x) (hev : ∀ x tv, ev x = some tv → tv.R C.X ρ (a.eval x)) (H : HRep C w1 S ρ look w)
    (hs : (opt (ev x) pureE).sem look = some (e, rds)) : OpOk P C w1 S ρ look nx o a w e := by
  obtain ⟨v, h1, h2⟩ := opt_sem.1 hs
  rw [pure_sem] at h2
  cases h2
  refine OpOk.value (v := a.eval x) ?_ (hev _ _ h1) H
  rcases ho with ho | ho <;> simp [execOp, ho]

theorem ok_pick {c x y : Operand} {e : Eff} {rds : List Nat} {t : Bool} (ho : o.op = .pick c x y) (hev : ∀ x tv, ev x = some tv → tv.R C.X ρ (a.eval x)) (H : HRep C w1 S ρ look w)
    (hc : getC ev c = some (.bool t)) (hs : (Tr.br t (opt (ev x) pureE) (opt (ev y) pureE)).sem look = some (e, rds)) : OpOk P C w1 S ρ look nx o a w e := by
  have hb : a.eval c = .bool t := getC_R hev hc
  cases t
  · obtain ⟨v, h1, h2⟩ := opt_sem.1 (show (opt (ev y) pureE).sem look = some (e, rds) from hs)
    rw [pure_sem] at h2
    cases h2
    exact OpOk.value (v := a.eval y) (by simp [execOp, ho, hb, asBool]) (hev _ _ h1) H
  · obtain ⟨v, h1, h2⟩ := opt_sem.1 (show (opt (ev x) pureE).sem look = some (e, rds) from hs)
    rw [pure_sem] at h2
    cases h2
    exact OpOk.value (v := a.eval x) (by simp [execOp, ho, hb, asBool]) (hev _ _ h1) H

theorem ok_alloc {t : TypeId} {cs : List CV} (ho : o.op = .alloc t) (H : HRep C w1 S ρ look w) (hn : ρ nx = none) (hz : zeroT P t = some cs) :
    OpOk P C w1 S ρ look nx o a w ⟨.s (.c (.ptr nx 0)), [], [.cells cs]⟩ := by
  obtain ⟨z, h1, h2⟩ := zeroT_R (ρ := ρ) (X := C.X) hz
  refine OpOk.newCells (arr := z.cells) (t := t) ?_ hn h2 H
  simp [execOp, ho, Instr.alloc, h1, newVar, newRow]

theorem ok_box {t : TypeId} {x : Operand} {v : SV} (ho : o.op = .box t x) (hev : ∀ x tv, ev x = some tv → tv.R C.X ρ (a.eval x)) (H : HRep C w1 S ρ look w) (hn : ρ nx = none)
    (hx : getV ev x = some v) (hk : v.cells.all CV.known = true) :
    OpOk P C w1 S ρ look nx o a w ⟨.s (.c (.ptr nx 0)), [], [.cells v.cells]⟩ := by
  refine OpOk.newCells (arr := (a.eval x).cells) (t := t) ?_ hn ((getV_R hev hx).cells hk) H
  simp [execOp, ho, Instr.box, newVar, newRow]

theorem ok_nilCheck {x : Operand} {v : CV} (ho : o.op = .nilCheck x) (hev : ∀ x tv, ev x = some tv → tv.R C.X ρ (a.eval x)) (H : HRep C w1 S ρ look w)
    (hx : getC ev x = some v) (hk : (∃ b k, v = .ptr b k) ∨ (∃ b i k, v = .eptr b i k) ∨ ∃ f, v = .fn f) : OpOk P C w1 S ρ look nx o a w ⟨.s (.c v), [], []⟩ := by
  have hv := getC_R hev hx
  refine OpOk.value (v := a.eval x) ?_ hv H
  rcases hk with ⟨b, k, rfl⟩ | ⟨b, i, k, rfl⟩ | ⟨f, rfl⟩
  · obtain ⟨l, _, h⟩ := hv; simp [execOp, ho, h]
  · obtain ⟨l, _, h⟩ := hv; simp [execOp, ho, h]
  · have h : a.eval x = _ := hv; simp [execOp, ho, h]

theorem binE_run {op : BinOp} {t : TypeId} {x y r : CV} {u v : Value} (h : binE op x y = some r) (hu : x.R C.X ρ u) (hv : y.R C.X ρ v) (A B : Operand) :
    ∃ z, (do eqGuard op t A B u v; binOp op t u v : Sem Value).run P w = .ok z w ∧ r.R C.X ρ z := by
  unfold binE at h
  split at h <;> first
    | (simp only [Option.ite_none_right_eq_some] at h
       obtain ⟨rfl, h⟩ := h
       cases h
       simp only [CV.R] at hu hv
       subst hu hv
       refine ⟨_, ?_, rfl⟩
       simp [eqGuard, binOp, Op.intArith, Op.intCmp])
    | (cases h
       simp only [CV.R] at hu hv
       subst hu hv
       refine ⟨_, ?_, rfl⟩
       simp [eqGuard, binOp, Op.stringOp])
    | cases h


theorem run_part {t : TypeId} {g : Bool} {sz : Nat} (hg : aggT P t = some g) (hz : szT P t = some sz) (h1 : (g || sz == 1) = true) (us : List Value) (off : Nat) (hl : off + sz ≤ us.length) (w : World) :
    ∃ v, (part t us.toArray off).run P w = .ok v w ∧ (g = true → v = .agg ((us.drop off).take sz).toArray) ∧ (g = false → (us.drop off).take sz = [v]) := by
  unfold part
  rw [Sem.run_bind, run_isAgg hg w]
  simp only [Result.andThen_ok]
  cases g with
  | true =>
    refine ⟨_, by simp [run_sizeOf hz w]; rfl, fun _ => ?_, fun h => by cases h⟩
    simp [List.take_drop]
  | false =>
    have hs : sz = 1 := by simpa using h1
    subst hs
    have hlt : off < us.length := by omega
    refine ⟨us[off], by simp [hlt], (fun h => by cases h), fun _ => ?_⟩
    rw [List.take_one, List.head?_drop]
    simp [hlt]

theorem eqK_length : ∀ {ks : List TK} {a c : List CV} {r : Bool}, eqK ks a c = some r → a.length = ks.length ∧ c.length = ks.length
  | [], [], [], _, _ => ⟨rfl, rfl⟩
  | [], [], _ :: _, _, h => by simp [eqK] at h
  | [], _ :: _, _, _, h => by simp [eqK] at h
  | _ :: _, [], _, _, h => by simp [eqK] at h
  | _ :: _, _ :: _, [], _, h => by simp [eqK] at h
  | k :: ks, x :: a, y :: c, r, h => by
    simp only [eqK] at h
    split at h
    · rename_i p q h1 h2; have := eqK_length h2; simp [this]
    · cases h

theorem eqK_split : ∀ {k1 k2 : List TK} {xs ys : List CV} {r : Bool}, eqK (k1 ++ k2) xs ys = some r →
    ∃ r1 r2, eqK k1 (xs.take k1.length) (ys.take k1.length) = some r1 ∧ eqK k2 (xs.drop k1.length) (ys.drop k1.length) = some r2 ∧ r = (r1 && r2)
  | [], k2, xs, ys, r, h => ⟨true, r, by simp [eqK], by simpa using h, by simp⟩
  | k :: k1, k2, [], ys, r, h => by simp [eqK] at h
  | k :: k1, k2, _ :: _, [], r, h => by simp [eqK] at h
  | k :: k1, k2, x :: xs, y :: ys, r, h => by
    simp only [List.cons_append, eqK] at h
    split at h
    · rename_i p q h1 h2
      cases h
      obtain ⟨r1, r2, e1, e2, rfl⟩ := eqK_split h2
      exact ⟨p && r1, r2, by simp [eqK, h1, e1], by simpa using e2, by simp [Bool.and_assoc]⟩
    · cases h

/-- The value that some cells make. -/
def ValOf (g : Bool) (us : List Value) (v : Value) : Prop := (g = true → v = .agg us.toArray) ∧ (g = false → us = [v])

theorem fieldsK_run {X : Outs} {kd : TypeId → Option (List TK)} {D : Nat}
    (hkd : ∀ t ks g (xs ys : List CV) (us vs : List Value) (u v : Value) (r : Bool) (w : World), kd t = some ks → aggT P t = some g → szT P t = some ks.length → (g || ks.length == 1) = true → RL (CV.R X ρ) xs us → RL (CV.R X ρ) ys vs → ValOf g us u → ValOf g vs v → eqK ks xs ys = some r → (Op.equalIn D t u v).run P w = .ok r w)
    (hag : ∀ t ks, kd t = some ks → ∃ g, aggT P t = some g ∧ (szT P t = some ks.length → (g || ks.length == 1) = true)) :
    ∀ (fs : List Field) (o : Nat) (ks : List TK) (xs ys : List CV) (us vs : List Value) (r : Bool) (w : World), kindsT.fieldsK P kd fs o = some ks → RL (CV.R X ρ) xs us → RL (CV.R X ρ) ys vs → eqK ks (xs.drop o) (ys.drop o) = some r → o ≤ xs.length → o ≤ ys.length →
    (Op.eqFields D us.toArray vs.toArray fs).run P w = .ok r w
  | [], o, ks, xs, ys, us, vs, r, w, h, hx, hy, he, _, _ => by
    simp only [kindsT.fieldsK, Option.some.injEq] at h
    subst h
    have := eqK_length he
    cases hxd : xs.drop o with
    | cons _ _ => simp [hxd] at this
    | nil =>
      cases hyd : ys.drop o with
      | cons _ _ => simp [hyd] at this
      | nil =>
        rw [hxd, hyd] at he
        simp only [eqK, Option.some.injEq] at he
        subst he
        simp [Op.eqFields]
  | f :: fs, o, ks, xs, ys, us, vs, r, w, h, hx, hy, he, hox, hoy => by
    simp only [kindsT.fieldsK] at h
    cases hc : (f.offset == o && f.name != "_") with
    | false => simp [hc] at h
    | true =>
      simp only [hc, cond_true] at h
      simp only [Bool.and_eq_true, beq_iff_eq, bne_iff_ne, ne_eq] at hc
      obtain ⟨ho, hn⟩ := hc
      cases hk : kd f.type with
      | none => simp [hk] at h
      | some k1 =>
        simp only [hk] at h
        cases hz : decide (szT P f.type = some k1.length) with
        | false => simp [hz] at h
        | true =>
          simp only [hz, cond_true] at h
          have hz' : szT P f.type = some k1.length := of_decide_eq_true hz
          split at h
          · rename_i l hl
            cases h
            obtain ⟨r1, r2, e1, e2, rfl⟩ := eqK_split he
            obtain ⟨g, hg, hg1⟩ := hag _ _ hk
            have l1 := eqK_length e1
            have hxl : o + k1.length ≤ xs.length := by have := l1.1; simp at this; omega
            have hyl : o + k1.length ≤ ys.length := by have := l1.2; simp at this; omega
            obtain ⟨u, hu, hu1, hu2⟩ := run_part hg hz' (hg1 hz') us o (by rw [← hx.length]; exact hxl) w
            obtain ⟨v, hv, hv1, hv2⟩ := run_part hg hz' (hg1 hz') vs o (by rw [← hy.length]; exact hyl) w
            have hrun := hkd f.type k1 g _ _ _ _ u v r1 w hk hg hz' (hg1 hz') ((hx.drop o).take k1.length) ((hy.drop o).take k1.length) ⟨hu1, hu2⟩ ⟨hv1, hv2⟩ e1
            have hrest := fieldsK_run hkd hag fs (o + k1.length) l xs ys us vs r2 w hl hx hy (by simpa [List.drop_drop] using e2) hxl hyl
            rw [Op.eqFields, if_pos hn]
            rw [ho]
            simp only [Sem.run_bind, hu, hv, hrun, Result.andThen_ok]
            cases r1
            · simp
            · simpa using hrest
          · cases h

theorem kindsT_agg {d : Nat} {t : TypeId} {ks : List TK} (h : kindsT P d t = some ks) : ∃ g, aggT P t = some g ∧ (szT P t = some ks.length → (g || ks.length == 1) = true) := by
  cases d with
  | zero => simp [kindsT] at h
  | succ d =>
    unfold kindsT at h
    unfold aggT
    split at h
    · rename_i hd; cases h; exact ⟨false, by simp [hd], fun _ => rfl⟩
    · rename_i hd; cases h; exact ⟨false, by simp [hd], fun _ => rfl⟩
    · rename_i hd; cases h; exact ⟨false, by simp [hd], fun _ => rfl⟩
    · rename_i hd; exact ⟨true, by simp [hd], fun _ => rfl⟩
    · rename_i hd; exact ⟨true, by simp [hd], fun _ => rfl⟩
    · cases h

theorem equalIn_kinds {X : Outs} : ∀ (d : Nat) (t : TypeId) (ks : List TK) (g : Bool) (xs ys : List CV) (us vs : List Value) (u v : Value) (r : Bool) (k : Nat) (w : World), kindsT P d t = some ks → aggT P t = some g →
    RL (CV.R X ρ) xs us → RL (CV.R X ρ) ys vs → ValOf g us u → ValOf g vs v → eqK ks xs ys = some r → (Op.equalIn (d + k) t u v).run P w = .ok r w
  | 0, t, ks, g, xs, ys, us, vs, u, v, r, k, w, hp, _, _, _, _, _, _ => by simp [kindsT] at hp
  | d + 1, t, ks, g, xs, ys, us, vs, u, v, r, k, w, hp, hg, hxs, hys, hu, hv, he => by
    have hd : d + 1 + k = (d + k) + 1 := by omega
    rw [hd]
    have scal : ∀ desc tk, P.underlying t = some desc → desc.isRow = false → ks = [tk] → ∃ x y, xs = [x] ∧ ys = [y] ∧ x.R X ρ u ∧ y.R X ρ v ∧ eqK.eqK1 tk x y = some r := by
      intro desc tk hdesc hrow h1
      subst h1
      have hgf : g = false := by simpa [aggT, hdesc, hrow, eq_comm] using hg
      have hl := eqK_length he
      obtain ⟨x, rfl⟩ := List.length_eq_one_iff.1 hl.1
      obtain ⟨y, rfl⟩ := List.length_eq_one_iff.1 hl.2
      have e1 := hu.2 hgf
      have e2 := hv.2 hgf
      subst e1 e2
      simp only [eqK] at he
      split at he
      · rename_i p q h1 h2
        cases h2
        cases he
        exact ⟨x, y, rfl, rfl, hxs.1, hys.1, by simpa using h1⟩
      · cases he
    unfold kindsT at hp
    split at hp
    · rename_i hdesc
      cases hp
      obtain ⟨x, y, rfl, rfl, hx, hy, hxy⟩ := scal _ _ hdesc rfl rfl
      unfold eqK.eqK1 at hxy
      split at hxy <;> simp only [CV.R] at hx hy <;> first
        | (cases hxy; subst hx hy; simp [Op.equalIn, run_underlying hdesc]; done)
        | (simp at *; done)
    · rename_i hdesc
      cases hp
      obtain ⟨x, y, rfl, rfl, hx, hy, hxy⟩ := scal _ _ hdesc rfl rfl
      cases x <;> cases y <;> simp only [eqK.eqK1, reduceCtorEq] at hxy
      simp only [Option.ite_none_right_eq_some] at hxy
      obtain ⟨⟨rfl, rfl⟩, hxy⟩ := hxy
      cases hxy
      simp only [CV.R] at hx hy
      subst hx hy
      simp [Op.equalIn, run_underlying hdesc]
    · rename_i hdesc
      cases hp
      obtain ⟨x, y, rfl, rfl, hx, hy, hxy⟩ := scal _ _ hdesc rfl rfl
      cases x <;> cases y <;> simp only [eqK.eqK1, reduceCtorEq] at hxy
      cases hxy
      simp only [CV.R] at hx hy
      subst hx hy
      simp [Op.equalIn, run_underlying hdesc]
    · rename_i fs hdesc
      cases hst : P.stoodInHeld t with
      | true => simp [hst] at hp
      | false =>
        simp only [hst, cond_false] at hp
        have hgt : g = true := by simpa [aggT, hdesc, eq_comm] using hg
        subst hgt
        rw [hu.1 rfl, hv.1 rfl]
        have hf : P.fieldsOf t = fs := by simp [Program.fieldsOf, hdesc]
        rw [run_equalIn_struct (P := P) w (d + k) t us.toArray vs.toArray (by rw [hf]; exact hdesc) hst, hf]
        exact fieldsK_run (D := d + k) (fun t ks g xs ys us vs u v r w h1 h2 _ _ h5 h6 h7 h8 h9 => equalIn_kinds d t ks g xs ys us vs u v r k w h1 h2 h5 h6 h7 h8 h9)
          (fun t ks h => kindsT_agg h) fs.toList 0 ks xs ys us vs r w hp hxs hys (by simpa using he) (Nat.zero_le _) (Nat.zero_le _)
    · rename_i n e hdesc
      cases hn : (n == 2) with
      | false => simp [hn] at hp
      | true =>
        simp only [hn, cond_true] at hp
        have hn2 : n = 2 := by simpa using hn
        subst hn2
        have hgt : g = true := by simpa [aggT, hdesc, eq_comm] using hg
        subst hgt
        rw [hu.1 rfl, hv.1 rfl]
        split at hp
        · rename_i k1 hk1
          cases hz : decide (szT P e = some k1.length) with
          | false => simp [hz] at hp
          | true =>
            simp only [hz, cond_true] at hp
            cases hp
            have hz' : szT P e = some k1.length := of_decide_eq_true hz
            obtain ⟨ge, hge, hge1⟩ := kindsT_agg hk1
            obtain ⟨r1, r2, e1, e2, rfl⟩ := eqK_split he
            have l1 := eqK_length he
            have hlx : us.length = k1.length + k1.length := by rw [← hxs.length]; simpa using l1.1
            have hly : vs.length = k1.length + k1.length := by rw [← hys.length]; simpa using l1.2
            obtain ⟨u0, hu0, hu1, hu2⟩ := run_part hge hz' (hge1 hz') us 0 (by omega) w
            obtain ⟨v0, hv0, hv1, hv2⟩ := run_part hge hz' (hge1 hz') vs 0 (by omega) w
            obtain ⟨u1, hu0', hu1', hu2'⟩ := run_part hge hz' (hge1 hz') us k1.length (by omega) w
            obtain ⟨v1, hv0', hv1', hv2'⟩ := run_part hge hz' (hge1 hz') vs k1.length (by omega) w
            have q1 := equalIn_kinds d e k1 ge _ _ _ _ u0 v0 r1 k w hk1 hge ((hxs.drop 0).take k1.length) ((hys.drop 0).take k1.length) ⟨hu1, hu2⟩ ⟨hv1, hv2⟩ (by simpa using e1)
            have hlen2 := eqK_length e2
            have q2 := equalIn_kinds d e k1 ge _ _ _ _ u1 v1 r2 k w hk1 hge ((hxs.drop k1.length).take k1.length) ((hys.drop k1.length).take k1.length) ⟨hu1', hu2'⟩ ⟨hv1', hv2'⟩
              (by rw [List.take_of_length_le (by omega), List.take_of_length_le (by omega)]; exact e2)
            simp only [Op.equalIn, Sem.run_bind, run_underlying hdesc, Result.andThen_ok, run_sizeOf hz' w]
            simp only [Std.Legacy.Range.forIn_eq_forIn_range', Std.Legacy.Range.size]
            simp [List.range', hu0, hv0, hu0', hv0', q1, q2]
            cases r1 <;> cases r2 <;> simp
        · cases hp
    · cases hp

end
end Go.Proofs.YtkkacjmjjhjpeaaDoor.Sx

namespace Go.Proofs.YtkkacjmjjhjpeaaDoor.Sx
open Go

section
variable {P : Program} {C : Ctx} {w1 : World} {S : Nat → Prop} {ρ : Rho} {look : Look} {nx : Nat} {o : Oper} {a : Act} {w : World} {ev : Operand → Option TV}

theorem ok_bin {op : BinOp} {t yt : TypeId} {x y : Operand} {c d r : CV} (ho : o.op = .binOp op t x y yt) (hev : ∀ x tv, ev x = some tv → tv.R C.X ρ (a.eval x)) (H : HRep C w1 S ρ look w)
    (hx : getV ev x = some (.c c)) (hy : getV ev y = some (.c d)) (h : binE op c d = some r) : OpOk P C w1 S ρ look nx o a w ⟨.s (.c r), [], []⟩ := by
  obtain ⟨z, h1, h2⟩ := binE_run (P := P) (w := w) (t := t) h (getV_R hev hx) (getV_R hev hy) x y
  exact OpOk.value (v := z) (by simp only [execOp, ho]; exact ok_value1 h1) h2 H

theorem ok_binBool {op : BinOp} {t yt : TypeId} {x y : Operand} {c d r : Bool} (ho : o.op = .binOp op t x y yt) (hev : ∀ x tv, ev x = some tv → tv.R C.X ρ (a.eval x)) (H : HRep C w1 S ρ look w)
    (hx : getV ev x = some (.c (.bool c))) (hy : getV ev y = some (.c (.bool d))) (ht : P.underlying t = some .bool) (h : (op = .eql ∧ r = (c == d)) ∨ (op = .neq ∧ r = !(c == d))) :
    OpOk P C w1 S ρ look nx o a w ⟨.s (.c (.bool r)), [], []⟩ := by
  have h1 : a.eval x = .bool c := getV_R hev hx
  have h2 : a.eval y = .bool d := getV_R hev hy
  refine OpOk.value (v := .bool r) ?_ rfl H
  simp only [execOp, ho]
  refine ok_value1 ?_
  have q : (Op.equal t (.bool c) (.bool d)).run P w = .ok (c == d) w := by
    have := equalIn_kinds (P := P) (ρ := ρ) (X := C.X) 1 t [.bool] false [.bool c] [.bool d] [.bool c] [.bool d] (.bool c) (.bool d) (c == d) 9999 w (by simp [kindsT, ht]) (by simp [aggT, ht]) ⟨rfl, trivial⟩ ⟨rfl, trivial⟩
      ⟨(fun h => by cases h), fun _ => rfl⟩ ⟨(fun h => by cases h), fun _ => rfl⟩ (by simp [eqK, eqK.eqK1])
    exact this
  rw [h1, h2]
  rcases h with ⟨rfl, rfl⟩ | ⟨rfl, rfl⟩ <;> simp [eqGuard, binOp, q]

theorem ok_ptrNil {op : BinOp} {t yt et : TypeId} {x y : Operand} {b k : Nat} {r : Bool} (ho : o.op = .binOp op t x y yt) (hev : ∀ x tv, ev x = some tv → tv.R C.X ρ (a.eval x)) (H : HRep C w1 S ρ look w)
    (hx : getV ev x = some (.c (.ptr b k))) (hy : getV ev y = some (.c .nilp)) (ht : P.underlying t = some (.pointer et)) (h : (op = .eql ∧ r = false) ∨ (op = .neq ∧ r = true)) :
    OpOk P C w1 S ρ look nx o a w ⟨.s (.c (.bool r)), [], []⟩ := by
  obtain ⟨l, _, h1⟩ := getV_R hev hx
  have h2 : a.eval y = .pointer none := getV_R hev hy
  refine OpOk.value (v := .bool r) ?_ rfl H
  simp only [execOp, ho]
  refine ok_value1 ?_
  have q : (Op.equal t (.pointer (some ⟨l.blk, k, none⟩)) (.pointer none)).run P w = .ok false w := by
    unfold Op.equal Op.maxDepth Op.equalIn
    rw [Sem.run_bind, run_underlying ht]
    rfl
  rw [h1, h2]
  rcases h with ⟨rfl, rfl⟩ | ⟨rfl, rfl⟩ <;> simp [eqGuard, binOp, q]
theorem ok_nilNil {op : BinOp} {t yt et : TypeId} {x y : Operand} {r : Bool} (ho : o.op = .binOp op t x y yt) (hev : ∀ x tv, ev x = some tv → tv.R C.X ρ (a.eval x)) (H : HRep C w1 S ρ look w)
    (hx : getV ev x = some (.c .nilp)) (hy : getV ev y = some (.c .nilp)) (ht : P.underlying t = some (.pointer et)) (h : (op = .eql ∧ r = true) ∨ (op = .neq ∧ r = false)) :
    OpOk P C w1 S ρ look nx o a w ⟨.s (.c (.bool r)), [], []⟩ := by
  have h1 : a.eval x = .pointer none := getV_R hev hx
  have h2 : a.eval y = .pointer none := getV_R hev hy
  refine OpOk.value (v := .bool r) ?_ rfl H
  simp only [execOp, ho]
  refine ok_value1 ?_
  have q : (Op.equal t (.pointer none) (.pointer none)).run P w = .ok true w := by
    unfold Op.equal Op.maxDepth Op.equalIn
    rw [Sem.run_bind, run_underlying ht]
    rfl
  rw [h1, h2]
  rcases h with ⟨rfl, rfl⟩ | ⟨rfl, rfl⟩ <;> simp [eqGuard, binOp, q]

theorem ok_eqAgg {op : BinOp} {t yt : TypeId} {x y : Operand} {c d : List CV} {ks : List TK} {r : Bool} (ho : o.op = .binOp op t x y yt) (hev : ∀ x tv, ev x = some tv → tv.R C.X ρ (a.eval x)) (H : HRep C w1 S ρ look w)
    (hx : getV ev x = some (.agg c)) (hy : getV ev y = some (.agg d)) (hk : kindsT P 20 t = some ks) (hg : P.eqGuardType P.depth t = false) (he : eqK ks c d = some r) (hagg : aggT P t = some true) :
    (op = .eql → OpOk P C w1 S ρ look nx o a w ⟨.s (.c (.bool r)), [], []⟩) ∧ (op = .neq → OpOk P C w1 S ρ look nx o a w ⟨.s (.c (.bool (!r))), [], []⟩) := by
  obtain ⟨us, h1, h2⟩ := getV_R hev hx
  obtain ⟨vs, h3, h4⟩ := getV_R hev hy
  have q : (Op.equal t (.agg us.toArray) (.agg vs.toArray)).run P w = .ok r w := by
    have := equalIn_kinds (P := P) (ρ := ρ) (X := C.X) 20 t ks true c d us vs (.agg us.toArray) (.agg vs.toArray) r 9980 w hk hagg h2 h4 ⟨fun _ => rfl, fun h => by cases h⟩ ⟨fun _ => rfl, fun h => by cases h⟩ he
    exact this
  constructor
  · rintro rfl
    refine OpOk.value (v := .bool r) ?_ rfl H
    simp only [execOp, ho]
    refine ok_value1 ?_
    simp [h1, h3, eqGuard, binOp, q, hg]
  · rintro rfl
    refine OpOk.value (v := .bool (!r)) ?_ rfl H
    simp only [execOp, ho]
    refine ok_value1 ?_
    simp [h1, h3, eqGuard, binOp, q, hg]

theorem ok_not {t : TypeId} {x : Operand} {b : Bool} (ho : o.op = .unOp .not t x) (hev : ∀ x tv, ev x = some tv → tv.R C.X ρ (a.eval x)) (H : HRep C w1 S ρ look w)
    (hx : getC ev x = some (.bool b)) : OpOk P C w1 S ρ look nx o a w ⟨.s (.c (.bool (!b))), [], []⟩ := by
  have h1 : a.eval x = .bool b := getC_R hev hx
  exact OpOk.value (v := .bool (!b)) (by simp [execOp, ho, h1, Op.unary]) rfl H
theorem ok_neg {t : TypeId} {x : Operand} {k : IntKind} {n : Int} (ho : o.op = .unOp .neg t x) (hev : ∀ x tv, ev x = some tv → tv.R C.X ρ (a.eval x)) (H : HRep C w1 S ρ look w)
    (hx : getC ev x = some (.int k n)) : OpOk P C w1 S ρ look nx o a w ⟨.s (.c (.int k (k.wrap (0 - n)))), [], []⟩ := by
  have h1 : a.eval x = .int k n := getC_R hev hx
  exact OpOk.value (v := .int k (k.wrap (0 - n))) (by simp [execOp, ho, h1, Op.unary, Op.intArith]) rfl H
theorem ok_conv {src dst : TypeId} {x : Operand} {k k1 k' : IntKind} {n : Int} (ho : o.op = .convert src dst x) (hev : ∀ x tv, ev x = some tv → tv.R C.X ρ (a.eval x)) (H : HRep C w1 S ρ look w)
    (hx : getC ev x = some (.int k n)) (hs : P.underlying src = some (.int k1)) (hd : P.underlying dst = some (.int k')) : OpOk P C w1 S ρ look nx o a w ⟨.s (.c (.int k' (k'.wrap n))), [], []⟩ := by
  have h1 : a.eval x = .int k n := getC_R hev hx
  exact OpOk.value (v := .int k' (k'.wrap n)) (by simp [execOp, ho, h1, convert, run_underlying hs, run_underlying hd, Conv.intToInt]) rfl H

theorem fieldT_run {t : TypeId} {f off : Nat} {ft : TypeId} (h : fieldT P t f = some (off, ft)) : ∃ fs x, P.underlying t = some (.struct fs) ∧ fs[f]? = some x ∧ x.offset = off ∧ x.type = ft := by
  unfold fieldT at h
  split at h
  · rename_i fs hu
    cases hx : fs[f]? with
    | none => simp [hx] at h
    | some x => simp [hx] at h; exact ⟨fs, x, hu, hx, h.1, h.2⟩
  · cases h

theorem run_fieldAt {t : TypeId} {f off : Nat} {ft : TypeId} {n : Nat} (h : fieldT P t f = some (off, ft)) (hz : szT P ft = some (n + 1)) (b k : Nat) (w : World) :
    (Instr.fieldAt t (.pointer (some ⟨b, k, none⟩)) f).run P w = .ok (.pointer (some ⟨b, k + off, none⟩)) w := by
  obtain ⟨fs, x, hu, hx, rfl, rfl⟩ := fieldT_run h
  simp [Instr.fieldAt, run_underlying hu, hx, Instr.sureAddr, fieldPlace, run_sizeOf hz, Addr.add_mid]

theorem ok_fieldAddr {t : TypeId} {x : Operand} {f b k off n : Nat} {ft : TypeId} (ho : o.op = .fieldAddr t x f) (hev : ∀ x tv, ev x = some tv → tv.R C.X ρ (a.eval x)) (H : HRep C w1 S ρ look w)
    (hx : getC ev x = some (.ptr b k)) (hf : fieldT P t f = some (off, ft)) (hz : szT P ft = some (n + 1)) : OpOk P C w1 S ρ look nx o a w ⟨.s (.c (.ptr b (k + off))), [], []⟩ := by
  obtain ⟨l, h1, h2⟩ := getC_R hev hx
  exact OpOk.value (v := .pointer (some ⟨l.blk, k + off, none⟩)) (by simp only [execOp, ho, h2]; exact ok_value1 (run_fieldAt hf hz ..)) ⟨l, h1, rfl⟩ H
theorem ok_fieldAddrE {t : TypeId} {x : Operand} {f b i k off n : Nat} {ft : TypeId} (ho : o.op = .fieldAddr t x f) (hev : ∀ x tv, ev x = some tv → tv.R C.X ρ (a.eval x)) (H : HRep C w1 S ρ look w)
    (hx : getC ev x = some (.eptr b i k)) (hf : fieldT P t f = some (off, ft)) (hz : szT P ft = some (n + 1)) : OpOk P C w1 S ρ look nx o a w ⟨.s (.c (.eptr b i (k + off))), [], []⟩ := by
  obtain ⟨l, h1, h2⟩ := getC_R hev hx
  exact OpOk.value (v := .pointer (some ⟨l.blk, l.off + i * l.es + (k + off), none⟩)) (by simp only [execOp, ho, h2]; rw [← Nat.add_assoc]; exact ok_value1 (run_fieldAt hf hz ..)) ⟨l, h1, rfl⟩ H

theorem idxTree_sem {α : Type} {n : Int} {f : Nat → Tr α} {r : α × List Nat} : ∀ {k i : Nat}, (idxTree n f k i).sem look = some r → ∃ j, i ≤ j ∧ j < i + k ∧ n = (j : Int) ∧ (f j).sem look = some r
  | 0, _, h => by simp [idxTree, Tr.sem] at h
  | k + 1, i, h => by
    simp only [idxTree, Tr.sem] at h
    cases hb : (n == (i : Int)) with
    | true => simp only [hb, cond_true] at h; exact ⟨i, by omega, by omega, by simpa using hb, h⟩
    | false =>
      simp only [hb, cond_false] at h
      obtain ⟨j, h1, h2, h3, h4⟩ := idxTree_sem h
      exact ⟨j, by omega, by omega, h3, h4⟩

theorem asInts_spec {k : IntKind} : ∀ {xs : List CV} {l : List Int}, asInts k xs = some l → xs = l.map (CV.int k)
  | [], l, h => by simp only [asInts, Option.some.injEq] at h; subst h; rfl
  | x :: r, l, h => by
    cases x <;> simp only [asInts, reduceCtorEq] at h
    rename_i k' n
    split at h
    · rename_i l' hk hl
      cases h
      have := of_decide_eq_true hk
      subst this
      rw [asInts_spec hl]
      rfl
    · cases h
theorem asBools_spec : ∀ {xs : List CV} {l : List Bool}, asBools xs = some l → xs = l.map CV.bool
  | [], l, h => by simp only [asBools, Option.some.injEq] at h; subst h; rfl
  | x :: r, l, h => by
    cases x <;> simp only [asBools, reduceCtorEq] at h
    split at h
    · rename_i l' hl
      cases h
      rw [asBools_spec hl]
      rfl
    · cases h
theorem selI_spec {n : Int} : ∀ {l : List Int} {j i : Nat}, n = ((j + i : Nat) : Int) → i < l.length → l[i]? = some (selI n j l)
  | [], _, _, _, h => by simp at h
  | [x], j, 0, _, _ => rfl
  | [x], j, i + 1, _, h => by simp at h
  | x :: y :: r, j, 0, hn, _ => by subst hn; simp [selI]
  | x :: y :: r, j, i + 1, hn, h => by
    have hb : (n == (j : Int)) = false := by
      rw [beq_eq_false_iff_ne]; omega
    simp only [selI, hb, cond_false, List.getElem?_cons_succ]
    exact selI_spec (l := y :: r) (j := j + 1) (i := i) (by omega) (by simpa using h)
theorem selB_spec {n : Int} : ∀ {l : List Bool} {j i : Nat}, n = ((j + i : Nat) : Int) → i < l.length → l[i]? = some (selB n j l)
  | [], _, _, _, h => by simp at h
  | [x], j, 0, _, _ => rfl
  | [x], j, i + 1, _, h => by simp at h
  | x :: y :: r, j, 0, hn, _ => by subst hn; simp [selB]
  | x :: y :: r, j, i + 1, hn, h => by
    have hb : (n == (j : Int)) = false := by
      rw [beq_eq_false_iff_ne]; omega
    simp only [selB, hb, cond_false, List.getElem?_cons_succ]
    exact selB_spec (l := y :: r) (j := j + 1) (i := i) (by omega) (by simpa using h)
theorem putI_spec {n x : Int} : ∀ {l : List Int} {j i : Nat}, n = ((j + i : Nat) : Int) → i < l.length → putI n x j l = l.set i x
  | [], _, _, _, h => by simp at h
  | y :: r, j, 0, hn, _ => by
    have hr : ∀ (l : List Int) (k : Nat), j < k → putI n x k l = l := by
      intro l
      induction l with
      | nil => intro _ _; rfl
      | cons z l ih =>
        intro k hk
        have hb : (n == (k : Int)) = false := by rw [beq_eq_false_iff_ne]; omega
        simp [putI, hb, ih (k + 1) (by omega)]
    have hb : (n == (j : Int)) = true := by rw [beq_iff_eq]; omega
    simp [putI, hb, hr r (j + 1) (by omega)]
  | y :: r, j, i + 1, hn, h => by
    have hb : (n == (j : Int)) = false := by rw [beq_eq_false_iff_ne]; omega
    simp only [putI, hb, cond_false, List.set_cons_succ]
    rw [putI_spec (l := r) (j := j + 1) (i := i) (by omega) (by simpa using h)]
theorem putB_spec {n : Int} {x : Bool} : ∀ {l : List Bool} {j i : Nat}, n = ((j + i : Nat) : Int) → i < l.length → putB n x j l = l.set i x
  | [], _, _, _, h => by simp at h
  | y :: r, j, 0, hn, _ => by
    have hr : ∀ (l : List Bool) (k : Nat), j < k → putB n x k l = l := by
      intro l
      induction l with
      | nil => intro _ _; rfl
      | cons z l ih =>
        intro k hk
        have hb : (n == (k : Int)) = false := by rw [beq_eq_false_iff_ne]; omega
        simp [putB, hb, ih (k + 1) (by omega)]
    have hb : (n == (j : Int)) = true := by rw [beq_iff_eq]; omega
    simp [putB, hb, hr r (j + 1) (by omega)]
  | y :: r, j, i + 1, hn, h => by
    have hb : (n == (j : Int)) = false := by rw [beq_eq_false_iff_ne]; omega
    simp only [putB, hb, cond_false, List.set_cons_succ]
    rw [putB_spec (l := r) (j := j + 1) (i := i) (by omega) (by simpa using h)]

theorem selE_sem {n : Int} {xs : List CV} {e : Eff} {rds : List Nat} {i : Nat} (hn : n = (i : Int)) (hi : i < xs.length) (h : (selE n xs).sem look = some (e, rds)) : ∃ x, xs[i]? = some x ∧ e = ⟨.s (.c x), [], []⟩ ∧ rds = [] := by
  unfold selE at h
  split at h
  · split at h
    · rename_i l hl
      rw [cv_sem] at h; cases h
      have hx := asInts_spec hl
      rw [hx] at hi ⊢
      have := selI_spec (n := n) (l := l) (j := 0) (i := i) (by simpa using hn) (by simpa using hi)
      exact ⟨_, by rw [List.getElem?_map, this]; rfl, rfl, rfl⟩
    · cases fail_sem.1 h
  · split at h
    · rename_i l hl
      rw [cv_sem] at h; cases h
      have hx := asBools_spec hl
      rw [hx] at hi ⊢
      have := selB_spec (n := n) (l := l) (j := 0) (i := i) (by simpa using hn) (by simpa using hi)
      exact ⟨_, by rw [List.getElem?_map, this]; rfl, rfl, rfl⟩
    · cases fail_sem.1 h
  · obtain ⟨j, _, _, hj, h2⟩ := idxTree_sem h
    have : j = i := by omega
    subst this
    split at h2
    · rename_i x hx; rw [cv_sem] at h2; cases h2; exact ⟨x, hx, rfl, rfl⟩
    · cases fail_sem.1 h2

theorem putE_spec {n : Int} {x : CV} {xs ys : List CV} {i : Nat} (hn : n = (i : Int)) (hi : i < xs.length) (h : putE n x xs = some ys) : ys = xs.set i x ∧ x.known = true := by
  unfold putE at h
  split at h
  · split at h
    · rename_i l hl
      cases h
      have hx := asInts_spec hl
      subst hx
      rw [putI_spec (l := l) (j := 0) (i := i) (by simpa using hn) (by simpa using hi)]
      simp [CV.known, List.map_set]
    · cases h
  · split at h
    · rename_i l hl
      cases h
      have hx := asBools_spec hl
      subst hx
      rw [putB_spec (l := l) (j := 0) (i := i) (by simpa using hn) (by simpa using hi)]
      simp [CV.known, List.map_set]
    · cases h
  · cases h

theorem ok_indexAddrI {t : TypeId} {x i : Operand} {b k len : Nat} {n : Int} {e : TypeId} {kd : IntKind} (ho : o.op = .indexAddr t x i) (hev : ∀ x tv, ev x = some tv → tv.R C.X ρ (a.eval x)) (H : HRep C w1 S ρ look w)
    (hx : getC ev x = some (.ptr b k)) (hi : getC ev i = some (.int kd n)) (ha : P.underlying t = some (.array len e)) (hz : szT P e = some 1) (hn : 0 ≤ n) (hl : n < len) :
    OpOk P C w1 S ρ look nx o a w ⟨.s (.c (.iptr b k len n)), [], []⟩ := by
  obtain ⟨l, h1, h2⟩ := getC_R hev hx
  have h3 : a.eval i = .int kd n := getC_R hev hi
  refine OpOk.value (v := .pointer (some ⟨l.blk, k + n.toNat, none⟩)) ?_ ⟨l, h1, hn, hl, rfl⟩ H
  simp only [execOp, ho]
  refine ok_value1 ?_
  rw [h2, h3]
  simp [Instr.indexAt, asIntOf, run_underlying ha, Instr.sureAddr, run_sizeOf hz, Addr.add_mid, hn, hl]

theorem arrT_run {t : TypeId} {len : Nat} {e : TypeId} (h : arrT P t = some (len, e)) : P.underlying t = some (.array len e) := by
  unfold arrT at h
  split at h
  · rename_i n e' hu; cases h; exact hu
  · cases h

theorem ok_indexAddr {t : TypeId} {x i : Operand} {b k len j sz : Nat} {e : TypeId} {kd : IntKind} (ho : o.op = .indexAddr t x i) (hev : ∀ x tv, ev x = some tv → tv.R C.X ρ (a.eval x)) (H : HRep C w1 S ρ look w)
    (hx : getC ev x = some (.ptr b k)) (hi : getC ev i = some (.int kd (j : Int))) (ha : arrT P t = some (len, e)) (hz : szT P e = some sz) (hj : j < len) :
    OpOk P C w1 S ρ look nx o a w ⟨.s (.c (.ptr b (k + j * sz))), [], []⟩ := by
  obtain ⟨l, h1, h2⟩ := getC_R hev hx
  have h3 : a.eval i = .int kd j := getC_R hev hi
  refine OpOk.value (v := .pointer (some ⟨l.blk, k + j * sz, none⟩)) ?_ ⟨l, h1, rfl⟩ H
  simp only [execOp, ho]
  refine ok_value1 ?_
  rw [h2, h3]
  simp [Instr.indexAt, asIntOf, run_underlying (arrT_run ha), Instr.sureAddr, run_sizeOf hz, Addr.add_mid, hj]

theorem mkSV_sem {g : Bool} {cs : List CV} {e : Eff} {rds : List Nat} (h : (retSV g cs).sem look = some (e, rds)) : ∃ v, mkSV g cs = some v ∧ e = ⟨.s v, [], []⟩ ∧ rds = [] := by
  obtain ⟨v, h1, h2⟩ := opt_sem.1 h
  rw [pure_sem] at h2
  cases h2
  exact ⟨v, h1, rfl, rfl⟩

theorem mkSV_R {X : Outs} {g : Bool} {cs : List CV} {v : SV} {us : List Value} {u : Value} (h : mkSV g cs = some v) (hr : RL (CV.R X ρ) cs us) (hu : (g = true → u = .agg us.toArray) ∧ (g = false → us = [u])) : v.R X ρ u := by
  cases g with
  | true => simp only [mkSV, Option.some.injEq] at h; subst h; exact ⟨us, hu.1 rfl, hr⟩
  | false =>
    have := hu.2 rfl
    subst this
    cases cs with
    | nil => exact hr.elim
    | cons x r =>
      cases r with
      | nil => simp only [mkSV, Option.some.injEq] at h; subst h; exact hr.1
      | cons _ _ => exact hr.2.elim

theorem ok_index {t : TypeId} {x i : Operand} {cs : List CV} {len j sz : Nat} {e : TypeId} {kd : IntKind} {g : Bool} {v : SV} (ho : o.op = .index t x i) (hev : ∀ x tv, ev x = some tv → tv.R C.X ρ (a.eval x)) (H : HRep C w1 S ρ look w)
    (hx : ev x = some (.s (.agg cs))) (hi : getC ev i = some (.int kd (j : Int))) (ha : arrT P t = some (len, e)) (hz : szT P e = some sz) (hg : aggT P e = some g) (h1 : (g || sz == 1) = true) (hj : j < len) (hl : len * sz ≤ cs.length)
    (hv : mkSV g ((cs.drop (j * sz)).take sz) = some v) : OpOk P C w1 S ρ look nx o a w ⟨.s v, [], []⟩ := by
  obtain ⟨us, h2, h3⟩ := hev _ _ hx
  have h4 : a.eval i = .int kd j := getC_R hev hi
  have hjl : j * sz + sz ≤ us.length := by
    rw [← h3.length]
    have : (j + 1) * sz ≤ len * sz := Nat.mul_le_mul_right _ hj
    rw [Nat.succ_mul] at this
    omega
  obtain ⟨u, hu, hu1, hu2⟩ := run_part hg hz h1 us (j * sz) hjl w
  refine OpOk.value (v := u) ?_ (mkSV_R hv ((h3.drop _).take _) ⟨hu1, hu2⟩) H
  simp only [execOp, ho]
  refine ok_value1 ?_
  rw [h2, h4]
  simp [Instr.index, asIntOf, run_underlying (arrT_run ha), run_sizeOf hz, hu, hj]

theorem ok_field {t : TypeId} {x : Operand} {f off sz : Nat} {ft : TypeId} {cs : List CV} {g : Bool} {v : SV} (ho : o.op = .field t x f) (hev : ∀ x tv, ev x = some tv → tv.R C.X ρ (a.eval x)) (H : HRep C w1 S ρ look w)
    (hx : ev x = some (.s (.agg cs))) (hf : fieldT P t f = some (off, ft)) (hz : szT P ft = some sz) (hg : aggT P ft = some g) (h1 : (g || sz == 1) = true) (hl : off + sz ≤ cs.length)
    (hv : mkSV g ((cs.drop off).take sz) = some v) : OpOk P C w1 S ρ look nx o a w ⟨.s v, [], []⟩ := by
  obtain ⟨us, h2, h3⟩ := hev _ _ hx
  obtain ⟨fs, y, hu, hy, rfl, rfl⟩ := fieldT_run hf
  obtain ⟨u, hr, hu1, hu2⟩ := run_part hg hz h1 us y.offset (by rw [← h3.length]; exact hl) w
  refine OpOk.value (v := u) ?_ (mkSV_R hv ((h3.drop _).take _) ⟨hu1, hu2⟩) H
  simp only [execOp, ho]
  refine ok_value1 ?_
  rw [h2]
  simp [Instr.field, run_underlying hu, hy, asAgg, hr]

theorem ok_extract {x : Operand} {i : Nat} {l : List SV} {v : SV} (ho : o.op = .extract x i) (hev : ∀ x tv, ev x = some tv → tv.R C.X ρ (a.eval x)) (H : HRep C w1 S ρ look w)
    (hx : ev x = some (.tup l)) (hi : l[i]? = some v) : OpOk P C w1 S ρ look nx o a w ⟨.s v, [], []⟩ := by
  obtain ⟨vs, h1, h2⟩ := hev _ _ hx
  obtain ⟨u, h3, h4⟩ := h2.get i v hi
  exact OpOk.value (v := u) (by simp [execOp, ho, h1, Instr.extract, h3]) h4 H

theorem ok_makeMap {t : TypeId} (ho : o.op = .makeMap t none) (H : HRep C w1 S ρ look w) (hn : ρ nx = none) : OpOk P C w1 S ρ look nx o a w ⟨.s (.c (.mp nx)), [], [.mapi []]⟩ := by
  refine OpOk.new (l := ⟨w.heap.size, 0, 0, 0, false⟩) (v := .map (some w.heap.size)) (ob := .map #[] 0) ?_ hn rfl ⟨_, Rho.put_same .., rfl⟩ ⟨rfl, heap_alloc_at ..⟩ H
  simp [execOp, ho, Instr.makeMap]

/-! ### Loads and stores -/
theorem run_loadCells_arr {b off n : Nat} {arr : Array Value} {t : TypeId} {fr : Nat × Nat} (hb : w.heap[b]? = some (.cells arr t fr)) (hl : off + n ≤ arr.size) :
    (loadCells ⟨b, off, none⟩ n).run P w = .ok ((arr.toList.drop off).take n).toArray w := by
  have := run_loadCells_list (P := P) w ⟨b, off, none⟩ ((arr.toList.drop off).take n) (fun j v hv => by
    rw [Addr.add_mid]
    simp only [World.cell?, hb]
    have hj : j < n := by
      have := (List.getElem?_eq_some_iff.1 hv).1
      simp at this
      omega
    rw [List.getElem?_take_of_lt hj, List.getElem?_drop] at hv
    simpa using hv)
  simpa [Nat.min_eq_left (show n ≤ arr.size - off by omega)] using this

theorem run_loadVar_arr {ty : TypeId} {g : Bool} {sz b off : Nat} {arr : Array Value} {t : TypeId} {fr : Nat × Nat} (hg : aggT P ty = some g) (hz : szT P ty = some sz) (h1 : (g || sz == 1) = true)
    (hb : w.heap[b]? = some (.cells arr t fr)) (hl : off + sz ≤ arr.size) :
    ∃ u, (loadVar ty ⟨b, off, none⟩).run P w = .ok u w ∧ (g = true → u = .agg ((arr.toList.drop off).take sz).toArray) ∧ (g = false → (arr.toList.drop off).take sz = [u]) := by
  unfold loadVar
  rw [Sem.run_bind, run_isAgg hg w]
  simp only [Result.andThen_ok]
  cases g with
  | true => exact ⟨.agg ((arr.toList.drop off).take sz).toArray, by simp [run_sizeOf hz w, run_loadCells_arr hb hl], fun _ => rfl, fun h => by cases h⟩
  | false =>
    have hs : sz = 1 := by simpa using h1
    subst hs
    have hlt : off < arr.size := by omega
    refine ⟨arr[off], by simp [World.cell?, hb, hlt], (fun h => by cases h), fun _ => ?_⟩
    rw [List.take_one, List.head?_drop]
    simp [hlt]

theorem ok_loadAt {ty : TypeId} {x : Operand} {g : Bool} {sz b off : Nat} {arr : Array Value} {t : TypeId} {fr : Nat × Nat} {cs : List CV} {v : SV} (ho : o.op = .load ty x) (H : HRep C w1 S ρ look w)
    (hx : a.eval x = .pointer (some ⟨b, off, none⟩)) (hg : aggT P ty = some g) (hz : szT P ty = some sz) (h1 : (g || sz == 1) = true)
    (hb : w.heap[b]? = some (.cells arr t fr)) (hl : off + sz ≤ arr.size) (hcs : RL (CV.R C.X ρ) cs ((arr.toList.drop off).take sz)) (hv : mkSV g cs = some v) :
    OpOk P C w1 S ρ look nx o a w ⟨.s v, [], []⟩ := by
  obtain ⟨u, h2, h3⟩ := run_loadVar_arr (P := P) hg hz h1 hb hl
  refine OpOk.value (v := u) ?_ (mkSV_R hv hcs h3) H
  simp only [execOp, ho]
  refine ok_value1 ?_
  rw [hx]
  simp [Instr.loadAt, Instr.sureAddr, h2]

theorem ok_loadR {ty : TypeId} {x : Operand} {g : Bool} {sz : Nat} {c : CV} {e : Eff} {rds : List Nat} (ho : o.op = .load ty x) (H : HRep C w1 S ρ look w)
    (hni : ∀ b o l n, c ≠ .iptr b o l n) (hc : c.R C.X ρ (a.eval x)) (hg : aggT P ty = some g) (hz : szT P ty = some sz) (h1 : (g || sz == 1) = true) (hs : (loadE g sz c).sem look = some (e, rds)) : OpOk P C w1 S ρ look nx o a w e := by
  cases c <;> simp only [loadE, fail_sem] at hs
  case iptr b k len n => exact absurd rfl (hni _ _ _ _)
  case ptr b k =>
    obtain ⟨s, m, hb, hk, rfl⟩ := rd_sem.1 hs
    obtain ⟨l, hl, hx'⟩ := hc
    obtain ⟨l', hl', hblk⟩ := H.blk b s hb
    rw [hl] at hl'
    cases hl'
    cases s <;> simp only [fail_sem] at hk
    case cells cs =>
      obtain ⟨hle, hk⟩ := cond_sem.1 hk
      obtain ⟨v, hv, rfl, rfl⟩ := mkSV_sem hk
      obtain ⟨_, arr, t, hb', hr⟩ := hblk
      have hle : k + sz ≤ cs.length := by simpa using hle
      exact ok_loadAt ho H hx' hg hz h1 hb' (by have := hr.length; simp at this; omega) ((hr.drop k).take sz) hv
    case vec es pre c =>
      obtain ⟨hle, hk⟩ := cond_sem.1 hk
      obtain ⟨v, hv, rfl, rfl⟩ := mkSV_sem hk
      simp only [Bool.and_eq_true, decide_eq_true_eq] at hle
      rcases hblk with hblk | ⟨_, arr, t, hb', hr, hoff, hsz, _⟩
      · obtain ⟨_, _, rfl⟩ := hblk; simp at hle; omega
      · have hr' := (hr.drop k).take sz
        rw [List.drop_take, List.take_take, Nat.min_eq_left (by omega)] at hr'
        exact ok_loadAt ho H hx' hg hz h1 hb' (by omega) hr' hv
  case eptr b i k =>
    obtain ⟨s, m, hb, hk, rfl⟩ := rd_sem.1 hs
    obtain ⟨l, hl, hx'⟩ := hc
    obtain ⟨l', hl', hblk⟩ := H.blk b s hb
    rw [hl] at hl'
    cases hl'
    have key : ∀ c : Content, (∃ arr t fr, w.heap[l.blk]? = some (.cells arr t fr) ∧ RowR (CV.R C.X noRho) arr.toList l.off l.es c) → i < c.size →
        ∀ v, mkSV g (((c.get i).drop k).take sz) = some v → (0 < sz ∧ k + sz ≤ (c.get i).length) → OpOk P C w1 S ρ look nx o a w ⟨.s v, [], []⟩ := by
      rintro c ⟨arr, t, fr, hb', hrow⟩ hi v hv ⟨hpos, hle⟩
      obtain ⟨hr, hes⟩ := hrow i hi
      have hr' := ((hr.mono fun _ _ => CV.R.mono (noRho_le ρ)).drop k).take sz
      have hlen := hr.length
      rw [List.drop_take, List.take_take, List.drop_drop, Nat.min_eq_left (by omega)] at hr'
      simp at hlen
      exact ok_loadAt ho H hx' hg hz h1 hb' (by omega) hr' hv
    cases s <;> simp only [fail_sem] at hk
    case vec es pre c =>
      obtain ⟨hi, hk⟩ := br_sem.1 hk
      obtain ⟨hle, hk⟩ := cond_sem.1 hk
      obtain ⟨v, hv, rfl, rfl⟩ := mkSV_sem hk
      have hi : i < c.size := by simpa using hi
      rcases hblk with hblk | ⟨_, arr, t, hb', _, _, _, _, hrow⟩
      · exact absurd hi (by omega)
      · exact key c ⟨arr, t, _, hb', hrow⟩ hi v hv (by simpa only [Bool.and_eq_true, decide_eq_true_eq] using hle)
    case ro es c =>
      obtain ⟨hi, hk⟩ := br_sem.1 hk
      obtain ⟨hle, hk⟩ := cond_sem.1 hk
      obtain ⟨v, hv, rfl, rfl⟩ := mkSV_sem hk
      have hi : i < c.size := by simpa using hi
      rcases hblk with ⟨_, hblk | ⟨arr, t, fr, _, hb', hrow⟩⟩
      · exact absurd hi (by omega)
      · exact key c ⟨arr, t, fr, hb', hrow⟩ hi v hv (by simpa only [Bool.and_eq_true, decide_eq_true_eq] using hle)

theorem iptr_ptr {X : Outs} {b k len : Nat} {n : Int} {v : Value} (h : (CV.iptr b k len n).R X ρ v) : (CV.ptr b (k + n.toNat)).R X ρ v := by
  obtain ⟨l, h1, _, _, h2⟩ := h; exact ⟨l, h1, h2⟩

theorem loadE_iptr {g : Bool} {sz b k len : Nat} {n : Int} {e : Eff} {rds : List Nat} (h0 : 0 ≤ n) (h1 : n < len) (hs : (loadE g sz (.iptr b k len n)).sem look = some (e, rds)) : (loadE g sz (.ptr b (k + n.toNat))).sem look = some (e, rds) := by
  simp only [loadE] at hs ⊢
  obtain ⟨s, m, hb, hk, rfl⟩ := rd_sem.1 hs
  rw [rd_sem]
  cases s <;> simp only [fail_sem] at hk
  case cells cs =>
    obtain ⟨hc, hk2⟩ := cond_sem.1 hk
    clear hk hs
    simp only [Bool.and_eq_true, Bool.not_eq_true', decide_eq_true_eq] at hc
    obtain ⟨rfl, rfl, hle⟩ := hc
    obtain ⟨x, hx, rfl, rfl⟩ := selE_sem (n := n) (xs := (cs.drop k).take len) (i := n.toNat) (by omega) (by rw [List.length_take, List.length_drop]; omega) hk2
    refine ⟨_, [], hb, ?_, rfl⟩
    simp only
    rw [cond_sem]
    refine ⟨by simp; omega, ?_⟩
    rw [List.getElem?_take_of_lt (by omega), List.getElem?_drop] at hx
    have hl : (cs.drop (k + n.toNat)).take 1 = [x] := by
      rw [List.take_one, List.head?_drop, hx]; rfl
    rw [hl]
    simp [retSV, mkSV, opt, pureE, Tr.sem]

theorem ok_load {ty : TypeId} {x : Operand} {g : Bool} {sz : Nat} {c : CV} {e : Eff} {rds : List Nat} (ho : o.op = .load ty x) (hev : ∀ x tv, ev x = some tv → tv.R C.X ρ (a.eval x)) (H : HRep C w1 S ρ look w)
    (hx : getC ev x = some c) (hg : aggT P ty = some g) (hz : szT P ty = some sz) (h1 : (g || sz == 1) = true) (hs : (loadE g sz c).sem look = some (e, rds)) : OpOk P C w1 S ρ look nx o a w e := by
  have hc := getC_R hev hx
  by_cases hi : ∃ b o l n, c = .iptr b o l n
  · obtain ⟨b, k, len, n, rfl⟩ := hi
    obtain ⟨_, _, h2, h3, _⟩ := id hc
    exact ok_loadR ho H (fun _ _ _ _ h => by cases h) (iptr_ptr hc) hg hz h1 (loadE_iptr h2 h3 hs)
  · exact ok_loadR ho H (fun b o l n h => hi ⟨b, o, l, n, h⟩) hc hg hz h1 hs

theorem setRange_length {α : Type} (l : List α) (k : Nat) (vs : List α) (h : k + vs.length ≤ l.length) : (setRange l k vs).length = l.length := by
  simp only [setRange, List.length_append, List.length_take, List.length_drop]
  omega
theorem setRange_take {α : Type} (l : List α) (k : Nat) (vs : List α) (n : Nat) (h : k + vs.length ≤ n) : (setRange l k vs).take n = setRange (l.take n) k vs := by
  unfold setRange
  rw [List.take_append, List.take_append, List.take_take, List.take_take, List.drop_take]
  by_cases hk : k ≤ l.length
  · have h1 : min n k = k := by omega
    have h2 : min k n = k := by omega
    rw [h1, h2]
    have h3 : (l.take k).length = k := by simp; omega
    rw [h3, List.take_of_length_le (show vs.length ≤ n - k by omega), Nat.sub_sub]
  · have h1 : min n k = k := by omega
    have h2 : min k n = k := by omega
    rw [h1, h2]
    have h3 : (l.take k).length = l.length := by simp; omega
    have h4 : l.drop (k + vs.length) = [] := by simp; omega
    rw [h3, h4, List.take_of_length_le (show vs.length ≤ n - l.length by omega)]
    simp
theorem setRange_drop {α : Type} (l : List α) (k : Nat) (vs : List α) (n : Nat) (h : k + vs.length ≤ n) : (setRange l k vs).drop n = l.drop n := by
  unfold setRange
  by_cases hk : k ≤ l.length
  · rw [List.drop_append, List.drop_append, List.drop_drop]
    have h3 : (l.take k).length = k := by simp; omega
    rw [h3, List.drop_of_length_le (by simp; omega), List.drop_of_length_le (show vs.length ≤ n - k by omega)]
    simp only [List.nil_append]
    congr 1
    omega
  · rw [List.drop_of_length_le (by simp; omega), List.drop_of_length_le (by omega)]

theorem setRange_at {α : Type} (l : List α) (k : Nat) (vs : List α) (h : k + vs.length ≤ l.length) (j : Nat) : (setRange l k vs)[j]? = if k ≤ j ∧ j < k + vs.length then vs[j - k]? else l[j]? := by
  unfold setRange
  by_cases h1 : j < k
  · rw [if_neg (by omega), List.getElem?_append_left (by simp; omega), List.getElem?_take_of_lt h1]
  · rw [List.getElem?_append_right (by simp; omega)]
    have e : (l.take k).length = k := by simp; omega
    rw [e]
    by_cases h2 : j < k + vs.length
    · rw [if_pos (by omega), List.getElem?_append_left (by omega)]
    · rw [if_neg (by omega), List.getElem?_append_right (by omega), List.getElem?_drop]
      congr 1
      omega
/-- What is stored at an element, as the row is read. -/
theorem setRange_row {α : Type} (l : List α) (off es i o : Nat) (vs : List α) (hi : o + vs.length ≤ es) (n : Nat) (hn : i < n) (hl : off + n * es ≤ l.length) (j : Nat) (hj : j < n) :
    ((setRange l (off + i * es + o) vs).drop (off + j * es)).take es = if j = i then setRange ((l.drop (off + j * es)).take es) o vs else (l.drop (off + j * es)).take es := by
  have hb : i * es + es ≤ n * es := by
    have := Nat.mul_le_mul_right es (show i + 1 ≤ n by omega)
    rw [Nat.add_mul, Nat.one_mul] at this; exact this
  have hb' : j * es + es ≤ n * es := by
    have := Nat.mul_le_mul_right es (show j + 1 ≤ n by omega)
    rw [Nat.add_mul, Nat.one_mul] at this; exact this
  have hlen : ((l.drop (off + j * es)).take es).length = es := by simp; omega
  by_cases hji : j = i
  · subst hji
    rw [if_pos rfl]
    apply List.ext_getElem?
    intro k
    rw [setRange_at _ _ _ (by omega)]
    by_cases hk : k < es
    · rw [List.getElem?_take_of_lt hk, List.getElem?_drop, setRange_at _ _ _ (by omega), List.getElem?_take_of_lt hk, List.getElem?_drop]
      by_cases h1 : o ≤ k ∧ k < o + vs.length
      · rw [if_pos h1, if_pos (by omega)]
        congr 1
        omega
      · rw [if_neg h1, if_neg (by omega)]
    · rw [if_neg (by omega), List.getElem?_eq_none (by simp; omega), List.getElem?_eq_none (by omega)]
  · rw [if_neg hji]
    apply List.ext_getElem?
    intro k
    by_cases hk : k < es
    · rw [List.getElem?_take_of_lt hk, List.getElem?_drop, setRange_at _ _ _ (by omega), List.getElem?_take_of_lt hk, List.getElem?_drop, if_neg ?_]
      rintro ⟨g1, g2⟩
      have : j < i ∨ i < j := by omega
      rcases this with h | h
      · have := Nat.mul_le_mul_right es (show j + 1 ≤ i by omega)
        rw [Nat.add_mul, Nat.one_mul] at this
        omega
      · have := Nat.mul_le_mul_right es (show i + 1 ≤ j by omega)
        rw [Nat.add_mul, Nat.one_mul] at this
        omega
    · rw [List.getElem?_eq_none (by simp; omega), List.getElem?_eq_none (by simp; omega)]
theorem CV.plain_R {X : Outs} {c : CV} {v : Value} (h : c.plain = true) (hr : CV.R X ρ c v) : CV.R X noRho c v := by
  cases c <;> first | exact hr | cases h
theorem RL.plain {X : Outs} : ∀ {cs : List CV} {vs : List Value}, cs.all CV.plain = true → RL (CV.R X ρ) cs vs → RL (CV.R X noRho) cs vs
  | [], [], _, _ => trivial
  | c :: cs, v :: vs, h, hr => by
    simp only [List.all_cons, Bool.and_eq_true] at h
    exact ⟨CV.plain_R h.1 hr.1, RL.plain h.2 hr.2⟩
  | [], _ :: _, _, hr => hr.elim
  | _ :: _, [], _, hr => hr.elim
theorem store_main {ty : TypeId} {x y : Operand} {sz b k : Nat} {v : SV} {s : SB} {l : Loc} (ho : o.op = .store ty x y) (H : HRep C w1 S ρ look w) (hv : v.R C.X ρ (a.eval y)) (hz : szT P ty = some sz)
    (hb : look b = some s) (hl : ρ b = some l) (hx' : a.eval x = .pointer (some ⟨l.blk, k, none⟩)) (arr : Array Value) (t : TypeId) (sb' : SB) (hb' : w.heap[l.blk]? = some (.cells arr t (0, 0))) (hle : k + v.cells.length ≤ arr.size) (hlen : v.cells.length = sz) (hall : v.cells.all CV.known = true) (hown : s.own = true) (hnil : l.nil = false)
    (hbr : ∀ us : List Value, RL (CV.R C.X ρ) v.cells us → ∀ arr' : Array Value, arr'.toList = setRange arr.toList k us → ∀ w', w'.heap[l.blk]? = some (.cells arr' t (0, 0)) → BlkR C ρ l sb' w') :
    OpOk P C w1 S ρ look nx o a w ⟨undefE, [(b, some sb')], []⟩ := by
  intro K Q hK
  have hcs := hv.cells hall
  have hul := hcs.length
  have hcell : ∀ j, j < (a.eval y).cells.size → (w.cell? ⟨l.blk, k + j, none⟩).isSome = true ∧ w.frozen? ⟨l.blk, k + j, none⟩ = false := by
    intro j hj
    simp at hul
    refine ⟨?_, ?_⟩
    · simp only [World.cell?, hb']; simp; omega
    · simp [World.frozen?, hb']
  have hrun := run_storeCells_cells (P := P) l.blk k (a.eval y).cells.toList 0 w (fun j hj => by simpa using (hcell j (by simpa using hj)).1) (fun j hj => by simpa using (hcell j (by simpa using hj)).2)
    (fun u hu => RL.all_one hall hcs u hu)
  obtain ⟨i, hi, hi2⟩ := szT_info hz
  have hstore : (storeVar ty ⟨l.blk, k, none⟩ (a.eval y)).run P w = .ok () (w.setCells l.blk k (a.eval y).cells.toList) := by
    have hse : (a.eval y).cells.size = i.size := by simp at hul; omega
    simp only [Nat.add_zero] at hrun
    simp [storeVar, sizeOf, typeInfo, hi, hse, hrun]
  have hq : (execOp a.eval o).run P w = .ok .skip (w.setCells l.blk k (a.eval y).cells.toList) := by
    simp only [execOp, ho]
    rw [hx']
    simp [Instr.storeAt, Instr.sureAddr, hstore]
  unfold Oper.wp
  rw [hq]
  obtain ⟨arr', h1, h2⟩ := setCells_heap l.blk t (0, 0) (a.eval y).cells.toList k w arr hb' (by simp at hul ⊢; omega)
  obtain ⟨r1, r2, r3, r4⟩ := setCells_rest l.blk (a.eval y).cells.toList k w
  refine hK ρ undef _ (Rho.le.refl _) (fun b l h => .inl h) ⟨[], rfl, trivial⟩ ?_
  rw [upd_one]
  exact H.set hb hown hl hnil _ r1 (fun n hn => setCells_other l.blk n hn _ _ _) ⟨r2, r3, r4⟩ (hbr _ hcs arr' h2 _ h1)

theorem ok_storeR {ty : TypeId} {x y : Operand} {sz : Nat} {c : CV} {v : SV} {e : Eff} {rds : List Nat} (ho : o.op = .store ty x y) (hev : ∀ x tv, ev x = some tv → tv.R C.X ρ (a.eval x)) (H : HRep C w1 S ρ look w)
    (hni : ∀ b o l n, c ≠ .iptr b o l n) (hc : c.R C.X ρ (a.eval x)) (hy : getV ev y = some v) (hz : szT P ty = some sz) (hs : (storeE sz v c).sem look = some (e, rds)) : OpOk P C w1 S ρ look nx o a w e := by
  have hv := getV_R hev hy
  cases c <;> simp only [storeE, fail_sem] at hs
  case iptr b k len n => exact absurd rfl (hni _ _ _ _)
  case eptr b i k =>
    obtain ⟨s, m, hb, hk, rfl⟩ := rd_sem.1 hs
    obtain ⟨l, hl, hx'⟩ := hc
    obtain ⟨l', hl', hblk⟩ := H.blk b s hb
    rw [hl] at hl'
    cases hl'
    split at hk
    · rename_i es c
      obtain ⟨h1, hk⟩ := br_sem.1 hk
      obtain ⟨h2, hk⟩ := cond_sem.1 hk
      rw [ret_sem] at hk
      cases hk
      simp only [Bool.and_eq_true, decide_eq_true_eq] at h1 h2
      obtain ⟨h3, ⟨⟨h4, h5⟩, h6⟩, h7⟩ := h2
      rcases hblk with hblk | ⟨⟨hn, hes⟩, arr, t, hb', hr, hoff, hsz, hcap, hrow⟩
      · omega
      · subst hes
        have hb1 : i * l.es + l.es ≤ l.cap * l.es := by
          have := Nat.mul_le_mul_right l.es (show i + 1 ≤ l.cap by omega)
          rw [Nat.add_mul, Nat.one_mul] at this; exact this
        have hb2 : c.size * l.es ≤ l.cap * l.es := Nat.mul_le_mul_right l.es hcap
        refine store_main (k := l.off + i * l.es + k) ho H hv hz hb hl hx' arr t _ hb' (by omega) h3 h7 rfl hn (fun us hus arr' harr w' hw' => .inr ⟨⟨hn, rfl⟩, arr', t, hw', by simp [RL], by simp, ?_, hcap, ?_⟩)
        · have hul := hus.length
          have := congrArg List.length harr
          rw [setRange_length _ _ _ (by simp; omega)] at this
          simp at this
          omega
        · intro j hj
          have hj' : j < c.size := hj
          have hul := hus.length
          obtain ⟨g1, g2⟩ := hrow j hj'
          rw [harr, setRange_row _ _ _ _ _ _ (by omega) c.size h1 (by simp; omega) j hj']
          show RL _ (setG c.get i k v.cells j) _ ∧ (setG c.get i k v.cells j).length = _
          unfold setG
          by_cases hji : j = i
          · subst hji
            rw [if_pos rfl, show Nat.beq j j = true by simp]
            refine ⟨g1.setRange (RL.plain h6 hus) k, ?_⟩
            rw [cond_true, setRange_length _ _ _ (by omega)]
            exact g2
          · rw [if_neg hji, show Nat.beq j i = false from by cases hb : Nat.beq j i with
              | false => rfl
              | true => exact absurd (Nat.eq_of_beq_eq_true hb) hji]
            exact ⟨g1, g2⟩
    · cases fail_sem.1 hk
  case ptr b k =>
    obtain ⟨s, m, hb, hk, rfl⟩ := rd_sem.1 hs
    obtain ⟨l, hl, hx'⟩ := hc
    obtain ⟨l', hl', hblk⟩ := H.blk b s hb
    rw [hl] at hl'
    cases hl'
    have main := fun arr t sb' h1 h2 h3 h4 (h5 : s.own = true) (h6 : l.nil = false) h7 => store_main (nx := nx) (w1 := w1) (S := S) (look := look) (b := b) (s := s) ho H hv hz hb hl hx' arr t sb' h1 h2 h3 h4 h5 h6 h7
    cases s <;> simp only [fail_sem] at hk
    case cells cs =>
      obtain ⟨hle, hk⟩ := cond_sem.1 hk
      simp only [Bool.and_eq_true, decide_eq_true_eq] at hle
      rw [ret_sem] at hk
      cases hk
      obtain ⟨hn, arr, t, hb', hr⟩ := hblk
      have hlen := hr.length
      simp at hlen
      exact main arr t _ hb' (by omega) hle.1 hle.2.2 rfl hn (fun us hus arr' harr w' hw' => ⟨hn, arr', t, hw', by rw [harr]; exact hr.setRange hus k⟩)
    case vec es pre c =>
      obtain ⟨hle, hk⟩ := cond_sem.1 hk
      simp only [Bool.and_eq_true, decide_eq_true_eq] at hle
      rw [ret_sem] at hk
      cases hk
      rcases hblk with hblk | ⟨hn, arr, t, hb', hr, hoff, hsz, hcap, hrow⟩
      · obtain ⟨_, _, rfl⟩ := hblk; simp at hle; omega
      · refine main arr t _ hb' (by omega) hle.1 hle.2.2 rfl hn.1 (fun us hus arr' harr w' hw' => .inr ⟨hn, arr', t, hw', ?_, ?_, ?_, hcap, ?_⟩)
        · have hul := hus.length
          rw [harr, setRange_length _ _ _ (by omega), setRange_take _ _ _ _ (by omega)]
          exact hr.setRange hus k
        · rw [setRange_length _ _ _ (by omega)]; exact hoff
        · have hul := hus.length
          have := congrArg List.length harr
          rw [setRange_length _ _ _ (by simp; omega)] at this
          simp at this
          omega
        · intro i hi
          have hul := hus.length
          have h1 := hrow i hi
          rw [harr, setRange_drop _ _ _ _ (by omega)]
          exact h1

theorem storeE_iptr {v : SV} {sz b k len : Nat} {n : Int} {e : Eff} {rds : List Nat} (h0 : 0 ≤ n) (h1 : n < len) (hs : (storeE sz v (.iptr b k len n)).sem look = some (e, rds)) : (storeE sz v (.ptr b (k + n.toNat))).sem look = some (e, rds) := by
  simp only [storeE] at hs ⊢
  obtain ⟨s, m, hb, hk, rfl⟩ := rd_sem.1 hs
  rw [rd_sem]
  cases s <;> simp only [fail_sem] at hk
  case cells cs =>
    cases v <;> simp only [fail_sem] at hk
    case c x =>
      cases hys : putE n x ((cs.drop k).take len) with
      | none => simp only [hys] at hk; cases hd : (decide (sz = 1) && decide (k + len ≤ cs.length)) <;> simp [hd, Tr.sem] at hk
      | some ys =>
        simp only [hys] at hk
        obtain ⟨hc, hk2⟩ := cond_sem.1 hk
        clear hk hs
        simp only [Bool.and_eq_true, decide_eq_true_eq] at hc
        obtain ⟨rfl, hle⟩ := hc
        rw [ret_sem] at hk2; cases hk2
        obtain ⟨rfl, hkn⟩ := putE_spec (n := n) (i := n.toNat) (by omega) (by simp only [List.length_take, List.length_drop]; omega) hys
        refine ⟨_, [], hb, ?_, rfl⟩
        simp only
        rw [cond_sem]
        refine ⟨by simp [SV.cells, hkn]; omega, ?_⟩
        rw [ret_sem]
        have : setRange cs k (((cs.drop k).take len).set n.toNat x) = setRange cs (k + n.toNat) [x] := by
          apply List.ext_getElem?
          intro i
          have hl1 : (setRange cs k (((cs.drop k).take len).set n.toNat x)).length = cs.length := setRange_length _ _ _ (by simp; omega)
          have hl2 : (setRange cs (k + n.toNat) [x]).length = cs.length := setRange_length _ _ _ (by simp; omega)
          by_cases hi : i < cs.length
          · simp only [setRange]
            by_cases hik : i < k
            · rw [List.getElem?_append_left (by simp; omega), List.getElem?_append_left (by simp; omega), List.getElem?_take_of_lt hik, List.getElem?_take_of_lt (by omega)]
            · rw [List.getElem?_append_right (by simp; omega)]
              have e1 : (cs.take k).length = k := by simp; omega
              rw [e1]
              by_cases hil : i - k < len
              · rw [List.getElem?_append_left (by simp; omega), List.getElem?_set]
                by_cases hin : n.toNat = i - k
                · rw [if_pos hin, if_pos (by simp; omega)]
                  rw [List.getElem?_append_right (by simp; omega)]
                  have e2 : (cs.take (k + n.toNat)).length = k + n.toNat := by simp; omega
                  rw [e2, show i - (k + n.toNat) = 0 by omega]
                  rfl
                · rw [if_neg hin, List.getElem?_take_of_lt hil, List.getElem?_drop, show k + (i - k) = i by omega]
                  by_cases hlt : i < k + n.toNat
                  · rw [List.getElem?_append_left (by simp; omega), List.getElem?_take_of_lt hlt]
                  · rw [List.getElem?_append_right (by simp; omega)]
                    have e2 : (cs.take (k + n.toNat)).length = k + n.toNat := by simp; omega
                    rw [e2, List.getElem?_append_right (by simp; omega), List.getElem?_drop]
                    congr 1
                    simp
                    omega
              · have e3 : (((cs.drop k).take len).set n.toNat x).length = len := by simp; omega
                rw [List.getElem?_append_right (by omega), e3, List.getElem?_drop]
                rw [List.getElem?_append_right (by simp; omega)]
                have e2 : (cs.take (k + n.toNat)).length = k + n.toNat := by simp; omega
                rw [e2, List.getElem?_append_right (by simp; omega), List.getElem?_drop]
                congr 1
                simp
                omega
          · rw [List.getElem?_eq_none (by omega), List.getElem?_eq_none (by omega)]
        rw [this]
        rfl

theorem ok_store {ty : TypeId} {x y : Operand} {sz : Nat} {c : CV} {v : SV} {e : Eff} {rds : List Nat} (ho : o.op = .store ty x y) (hev : ∀ x tv, ev x = some tv → tv.R C.X ρ (a.eval x)) (H : HRep C w1 S ρ look w)
    (hx : getC ev x = some c) (hy : getV ev y = some v) (hz : szT P ty = some sz) (hs : (storeE sz v c).sem look = some (e, rds)) : OpOk P C w1 S ρ look nx o a w e := by
  have hc := getC_R hev hx
  by_cases hi : ∃ b o l n, c = .iptr b o l n
  · obtain ⟨b, k, len, n, rfl⟩ := hi
    obtain ⟨_, _, h2, h3, _⟩ := id hc
    exact ok_storeR ho hev H (fun _ _ _ _ h => by cases h) (iptr_ptr hc) hy hz (storeE_iptr h2 h3 hs)
  · exact ok_storeR ho hev H (fun b o l n h => hi ⟨b, o, l, n, h⟩) hc hy hz hs

end
end Go.Proofs.YtkkacjmjjhjpeaaDoor.Sx

namespace Go.Proofs.YtkkacjmjjhjpeaaDoor.Sx
open Go

section
variable {P : Program} {C : Ctx} {w1 : World} {S : Nat → Prop} {ρ : Rho} {look : Look} {nx : Nat} {o : Oper} {a : Act} {w : World} {ev : Operand → Option TV}

theorem run_mapM_list {α β : Type} {f : α → Sem β} {g : α → β} {w : World} : ∀ {l : List α}, (∀ x ∈ l, (f x).run P w = .ok (g x) w) → (l.mapM f).run P w = .ok (l.map g) w
  | [], _ => by simp
  | x :: l, h => by
    have h1 := h x (by simp)
    have h2 := run_mapM_list (l := l) fun y hy => h y (by simp [hy])
    simp [List.mapM_cons, h1, h2]

theorem run_mapM_array {α β : Type} {f : α → Sem β} {g : α → β} {w : World} {l : Array α} (h : ∀ x ∈ l.toList, (f x).run P w = .ok (g x) w) : (l.mapM f).run P w = .ok (l.map g) w := by
  rw [Array.mapM_eq_mapM_toList]
  have := run_mapM_list (P := P) h
  simp only [Sem.run_map, this, Result.andThen_ok]
  congr 1
  apply Array.ext'
  simp

theorem fill_foldl : ∀ (vs : List Value) (off k : Nat) (cells : Array Value), off + k + vs.length ≤ cells.size →
    ((vs.zipIdx k).foldl (fun cs (x : Value × Nat) => cs.setIfInBounds (off + x.2) x.1) cells).toList = setRange cells.toList (off + k) vs
  | [], off, k, cells, _ => by simp [setRange]
  | v :: vs, off, k, cells, h => by
    simp only [List.length_cons] at h
    rw [List.zipIdx_cons, List.foldl_cons]
    have := fill_foldl vs off (k + 1) (cells.setIfInBounds (off + k) v) (by simp; omega)
    rw [← Nat.add_assoc] at this
    rw [this]
    simp only [setRange, Array.toList_setIfInBounds, List.length_cons]
    rw [List.drop_set_of_lt (by omega), List.take_set]
    have e : (cells.toList.take (off + k + 1)).set (off + k) v = cells.toList.take (off + k) ++ [v] := by
      rw [List.take_succ_eq_append_getElem (by simp; omega), List.set_append_right _ _ (by simp; omega)]
      simp [Nat.min_eq_left (show off + k ≤ cells.size by omega)]
    rw [e]
    simp [Nat.add_comm, Nat.add_left_comm]

theorem partsE_fill {t : TypeId} {place : Nat → Option (Nat × Nat)} (hev : ∀ x tv, ev x = some tv → tv.R C.X ρ (a.eval x)) : ∀ {l : List (Nat × Operand)} {cs cs' : List CV} {arr : Array Value}, partsE P t place l ev cs = some cs' → RL (CV.R C.X ρ) cs arr.toList →
    ∃ arr', Instr.fill place arr (l.map fun x => (x.1, a.eval x.2)) = some arr' ∧ RL (CV.R C.X ρ) cs' arr'.toList
  | [], cs, cs', arr, h, hr => by
    simp only [partsE, Option.some.injEq] at h
    subst h
    exact ⟨arr, rfl, hr⟩
  | (i, x) :: r, cs, cs', arr, h, hr => by
    simp only [partsE] at h
    split at h
    · rename_i off sz v hp hv
      split at h
      · rename_i hc
        simp only [Bool.and_eq_true, decide_eq_true_eq] at hc
        have hvr := (getV_R hev hv).cells hc.1
        have l1 := hvr.length
        have l2 := hr.length
        simp at l1 l2
        have hset : ((a.eval x).cells.zipIdx.foldl (fun cs (y : Value × Nat) => cs.setIfInBounds (off + y.2) y.1) arr).toList = setRange arr.toList off (a.eval x).cells.toList := by
          rw [← Array.foldl_toList]
          have := fill_foldl (a.eval x).cells.toList off 0 arr (by simp; omega)
          simpa using this
        obtain ⟨arr', h1, h2⟩ := partsE_fill hev (arr := (a.eval x).cells.zipIdx.foldl (fun cs (y : Value × Nat) => cs.setIfInBounds (off + y.2) y.1) arr) h (by rw [hset]; exact hr.setRange hvr off)
        refine ⟨arr', ?_, h2⟩
        simp only [List.map_cons, Instr.fill, hp]
        rw [if_neg (by simp; omega)]
        exact h1
      · cases h
    · cases h

theorem ok_build {t : TypeId} {parts : Array (Nat × Operand)} {z cs : List CV} (ho : o.op = .build t parts) (hev : ∀ x tv, ev x = some tv → tv.R C.X ρ (a.eval x)) (H : HRep C w1 S ρ look w)
    (hz : zeroT P t = some z) (hp : partsE P t (placeT P t) parts.toList ev z = some cs) (hpl : buildOk P t = true) : OpOk P C w1 S ρ look nx o a w ⟨.s (.agg cs), [], []⟩ := by
  obtain ⟨zv, h1, h2⟩ := zeroT_R (ρ := ρ) (X := C.X) hz
  obtain ⟨arr', h3, h4⟩ := partsE_fill hev hp h2
  refine OpOk.value (v := .agg arr') ?_ ⟨arr'.toList, rfl, h4⟩ H
  simp only [execOp, ho]
  refine ok_value1 ?_
  unfold Instr.build
  simp only [Sem.run_bind, h1, Result.andThen_ok]
  unfold buildOk at hpl
  have hmap : (parts.map fun (x : Nat × Operand) => (x.1, a.eval x.2)).toList = parts.toList.map fun x => (x.1, a.eval x.2) := by simp
  split at hpl
  · rename_i fs hu
    rw [run_underlying hu]
    simp only [Result.andThen_ok]
    have hfs : ∀ f ∈ fs.toList, (do pure (f.offset, ← sizeOf f.type) : Sem (Nat × Nat)).run P w = .ok ((fun f : Field => (f.offset, (szT P f.type).getD 0)) f) w := by
      intro f hf
      have := List.all_eq_true.1 hpl f hf
      obtain ⟨n, hn⟩ := Option.isSome_iff_exists.1 this
      simp [run_sizeOf hn, hn]
    rw [Sem.run_bind, run_mapM_array hfs]
    simp only [Result.andThen_ok]
    have hplace : (fun i => (fs.map fun f : Field => (f.offset, (szT P f.type).getD 0))[i]?) = placeT P t := by
      funext i
      simp only [placeT, fieldT, hu, Array.getElem?_map]
      cases hi : fs[i]? with
      | none => simp
      | some f =>
        have hf : f ∈ fs.toList := by
          rw [Array.mem_toList_iff]
          exact Array.mem_of_getElem? hi
        obtain ⟨n, hn⟩ := Option.isSome_iff_exists.1 (List.all_eq_true.1 hpl f hf)
        simp [hn]
    rw [hplace, hmap, h3]
    simp
  · rename_i n e hu
    rw [run_underlying hu]
    simp only [Result.andThen_ok]
    obtain ⟨m, hm⟩ := Option.isSome_iff_exists.1 hpl
    have hplace : (fun i => some (i * m, m)) = placeT P t := by
      funext i
      simp [placeT, hu, hm]
    simp only [Sem.run_bind, run_sizeOf hm, Result.andThen_ok]
    rw [hplace, hmap, h3]
    simp
  · cases hpl

/-! ### Maps -/
theorem run_getObj_map {r : Nat} {es : Array MapEntry} {cl : Nat} (h : w.heap[r]? = some (.map es cl)) : (getObj r).run P w = .ok (.map es cl) w := by
  simp [getObj, Sem.run, h]
theorem run_setObj_map {r : Nat} {es : Array MapEntry} {cl : Nat} {ob : Obj} (h : w.heap[r]? = some (.map es cl)) : (setObj r ob).run P w = .ok () { w with heap := w.heap.setIfInBounds r ob } := by
  simp [setObj, Sem.run, h]
theorem run_checkKey_int {e : Bool} {kt : TypeId} {n : Int} (hk : P.underlying kt = some (.int .i64)) : (Instr.checkKey e 10000 kt (.int .i64 n)).run P w = .ok () w := by
  unfold Instr.checkKey
  rw [Sem.run_bind, run_underlying hk]
  rfl

def posM (n : Int) : List (Int × Bool) → Nat
  | [] => 0
  | (k, _) :: r => bif n == k then 0 else posM n r + 1
theorem findNow_ents {n : Int} : ∀ (es : List (Int × Bool)) (k i : Nat), Instr.findNow (.int .i64) (.int .i64 n) (entsL k es) i = some ((getM n es).map fun v => (i + posM n es, Value.bool v))
  | [], _, _ => rfl
  | (q, v) :: r, k, i => by
    unfold entsL Instr.findNow
    simp only [Instr.sameNow, if_true]
    unfold getM posM
    cases hq : n == q with
    | true => rfl
    | false =>
      simp only [cond_false]
      rw [findNow_ents r (k + 1) (i + 1)]
      cases getM n r <;> simp <;> omega
theorem entsL_length : ∀ (es : List (Int × Bool)) (k : Nat), (entsL k es).length = es.length
  | [], _ => rfl
  | _ :: r, k => by simp [entsL, entsL_length r]
theorem putM'_none {n : Int} {x : Bool} : ∀ {es : List (Int × Bool)}, getM n es = none → putM' n x es = es ++ [(n, x)]
  | [], _ => rfl
  | (k, v) :: r, h => by
    unfold getM at h
    unfold putM'
    cases hq : n == k with
    | true => rw [hq] at h; cases h
    | false => rw [hq] at h; simp only [cond_false] at h ⊢; rw [putM'_none h]; rfl
theorem putM'_length {n : Int} {x : Bool} : ∀ {es : List (Int × Bool)} {v : Bool}, getM n es = some v → (putM' n x es).length = es.length
  | [], _, h => by cases h
  | (k, w) :: r, v, h => by
    unfold getM at h
    unfold putM'
    cases hq : n == k with
    | true => rfl
    | false => rw [hq] at h; simp only [cond_false] at h ⊢; simp [putM'_length h]
theorem entsL_append : ∀ (es fs : List (Int × Bool)) (k : Nat), entsL k (es ++ fs) = entsL k es ++ entsL (k + es.length) fs
  | [], fs, k => rfl
  | p :: r, fs, k => by
    simp only [List.cons_append, entsL, entsL_append r fs (k + 1), List.length_cons]
    rw [show k + 1 + r.length = k + (r.length + 1) by omega]
theorem entsL_put {n : Int} {x : Bool} : ∀ {es : List (Int × Bool)} {v : Bool} (k : Nat), getM n es = some v → entsL k (putM' n x es) = (entsL k es).modify (posM n es) fun e => { e with key := .int .i64 n, val := .bool x }
  | [], _, _, h => by cases h
  | (q, w) :: r, v, k, h => by
    unfold getM at h
    unfold putM' posM
    cases hq : n == q with
    | true => rfl
    | false =>
      rw [hq] at h
      simp only [cond_false] at h ⊢
      unfold entsL
      rw [entsL_put (k + 1) h]
      rfl
theorem entsL_at {n : Int} : ∀ {es : List (Int × Bool)} {v : Bool} (k : Nat), getM n es = some v → ∃ e, (entsL k es)[posM n es]? = some e ∧ e.key = .int .i64 n
  | [], _, _, h => by cases h
  | (q, w) :: r, v, k, h => by
    unfold getM at h
    unfold posM
    cases hq : n == q with
    | true =>
      have : n = q := by simpa using hq
      exact ⟨_, rfl, by rw [this]⟩
    | false =>
      rw [hq] at h
      simp only [cond_false] at h ⊢
      obtain ⟨e, h1, h2⟩ := entsL_at (k + 1) h
      exact ⟨e, by simpa [entsL] using h1, h2⟩

theorem findNow_none {n : Int} : ∀ {es : List MapEntry} {ks : List Int} {i : Nat}, es.map (·.key) = ks.map (fun k => Value.int .i64 k) → (∀ k ∈ ks, n ≠ k) → Instr.findNow (.int .i64) (.int .i64 n) es i = some none
  | [], _, _, _, _ => rfl
  | e :: es, [], _, h, _ => by simp at h
  | e :: es, k :: ks, i, h, hn => by
    simp only [List.map_cons, List.cons.injEq] at h
    have hne : (n == k) = false := by simpa using hn k (by simp)
    simp only [Instr.findNow, h.1, Instr.sameNow, if_true, hne]
    exact findNow_none h.2 fun k hk => hn k (by simp [hk])

theorem ok_insert {t : TypeId} {m k v : Operand} {b : Nat} {n : Int} {x : CV} {kt et : TypeId} {es : List (Int × CV)} (ho : o.op = .insert t m k v) (hev : ∀ x tv, ev x = some tv → tv.R C.X ρ (a.eval x)) (H : HRep C w1 S ρ look w)
    (hm : getC ev m = some (.mp b)) (hk : getC ev k = some (.int .i64 n)) (hv : getC ev v = some x) (ht : P.underlying t = some (.map kt et)) (hkt : P.underlying kt = some (.int .i64))
    (hb : look b = some (.mapb es)) (hne : (es.all fun p => !(n == p.1)) = true) : OpOk P C w1 S ρ look nx o a w ⟨undefE, [(b, some (.mapb (es ++ [(n, x)])))], []⟩ := fun K Q hK => by
  obtain ⟨l, hl, h1⟩ := getC_R hev hm
  have h2 : a.eval k = .int .i64 n := getC_R hev hk
  have h3 := getC_R hev hv
  obtain ⟨l', hl', hblk⟩ := H.blk b _ hb
  rw [hl] at hl'
  cases hl'
  obtain ⟨hnil, en, cl, hh, hkeys, hvals⟩ := hblk
  have hlt := (Array.getElem?_eq_some_iff.1 hh).1
  have hfind : Instr.findNow (.int .i64) (.int .i64 n) en.toList 0 = some none := by
    refine findNow_none (ks := es.map (·.1)) (by rw [hkeys, List.map_map]; rfl) ?_
    intro k hk
    obtain ⟨p, hp, rfl⟩ := List.mem_map.1 hk
    have := List.all_eq_true.1 hne p hp
    simpa using this
  have hq : (execOp a.eval o).run P w = .ok .skip { w with heap := w.heap.setIfInBounds l.blk (.map (en.push { key := .int .i64 n, val := a.eval v, born := cl }) (cl + 1)) } := by
    simp only [execOp, ho]
    rw [h1, h2]
    simp [Instr.mapUpdate, run_underlying ht, run_getObj_map hh, run_checkKey_int hkt, Instr.findKey, run_underlying hkt, hfind, run_setObj_map hh]
  unfold Oper.wp
  rw [hq]
  refine hK ρ undef _ (Rho.le.refl _) (fun b l h => .inl h) ⟨[], rfl, trivial⟩ ?_
  rw [upd_one]
  refine H.set hb rfl hl hnil _ (by simp) (fun j hj => by simp [Ne.symm hj]) ⟨rfl, rfl, rfl⟩ ⟨hnil, _, _, by simp [hlt]; exact ⟨rfl, rfl⟩, ?_, ?_⟩
  · simp [hkeys]
  · simpa using hvals.append (show RL _ [x] [a.eval v] from ⟨h3, trivial⟩)

theorem lookTree_sem {n : Int} {zc : CV} {z : Value} {ok : Bool} {e : Eff} {rds : List Nat} {X : Outs} (hz : zc.R X ρ z) : ∀ {es : List (Int × CV)} {en : List MapEntry} (i : Nat), (lookTree n zc ok es).sem look = some (e, rds) →
    en.map (·.key) = es.map (fun p => Value.int .i64 p.1) → RL (CV.R X ρ) (es.map (·.2)) (en.map (·.val)) →
    rds = [] ∧ ∃ r v b, Instr.findNow (.int .i64) (.int .i64 n) en i = some r ∧ ((r = none ∧ v = z ∧ b = false) ∨ (∃ j, r = some (j, v) ∧ b = true)) ∧
      ∃ c, c.R X ρ v ∧ e = ⟨cond ok (.tup [.c c, .c (.bool b)]) (.s (.c c)), [], []⟩
  | [], [], i, h, _, _ => by
    cases ok
    · rw [lookTree, cond_false, cv_sem] at h; cases h
      exact ⟨rfl, none, z, false, rfl, .inl ⟨rfl, rfl, rfl⟩, zc, hz, rfl⟩
    · rw [lookTree, cond_true, pure_sem] at h; cases h
      exact ⟨rfl, none, z, false, rfl, .inl ⟨rfl, rfl, rfl⟩, zc, hz, rfl⟩
  | (k, x) :: es, [], i, h, hk, _ => by simp at hk
  | [], _ :: _, i, h, hk, _ => by simp at hk
  | (k, x) :: es, m :: en, i, h, hk, hv => by
    simp only [List.map_cons, List.cons.injEq] at hk
    simp only [lookTree, Tr.sem] at h
    cases hb : (n == k) with
    | true =>
      simp only [hb, cond_true] at h
      have hf : Instr.findNow (.int .i64) (.int .i64 n) (m :: en) i = some (some (i, m.val)) := by
        simp [Instr.findNow, hk.1, Instr.sameNow, hb]
      cases ok
      · rw [cond_false, cv_sem] at h; cases h
        exact ⟨rfl, _, m.val, true, hf, .inr ⟨i, rfl, rfl⟩, x, hv.1, rfl⟩
      · rw [cond_true, pure_sem] at h; cases h
        exact ⟨rfl, _, m.val, true, hf, .inr ⟨i, rfl, rfl⟩, x, hv.1, rfl⟩
    | false =>
      simp only [hb, cond_false] at h
      obtain ⟨h1, r, v, b, h2, h3, h4⟩ := lookTree_sem hz (i + 1) h hk.2 hv.2
      exact ⟨h1, r, v, b, by simp [Instr.findNow, hk.1, Instr.sameNow, hb, h2], h3, h4⟩

theorem ok_insert0 {t : TypeId} {m k v : Operand} {b : Nat} {n : Int} {x : CV} {kt et : TypeId} (ho : o.op = .insert t m k v) (hev : ∀ x tv, ev x = some tv → tv.R C.X ρ (a.eval x)) (H : HRep C w1 S ρ look w)
    (hm : getC ev m = some (.mp b)) (hk : getC ev k = some (.int .i64 n)) (hv : getC ev v = some x) (ht : P.underlying t = some (.map kt et)) (hkt : P.underlying kt = some (.int .i64))
    (hb : look b = some (.mapi [])) : OpOk P C w1 S ρ look nx o a w ⟨undefE, [(b, some (.mapb [(n, x)]))], []⟩ := fun K Q hK => by
  obtain ⟨l, hl, h1⟩ := getC_R hev hm
  have h2 : a.eval k = .int .i64 n := getC_R hev hk
  have h3 := getC_R hev hv
  obtain ⟨l', hl', hblk⟩ := H.blk b _ hb
  rw [hl] at hl'
  cases hl'
  obtain ⟨hnil, hh⟩ := hblk
  have hh : w.heap[l.blk]? = some (.map #[] 0) := hh
  have hlt := (Array.getElem?_eq_some_iff.1 hh).1
  have hfind : Instr.findNow (.int .i64) (.int .i64 n) (#[] : Array MapEntry).toList 0 = some none := rfl
  have hq : (execOp a.eval o).run P w = .ok .skip { w with heap := w.heap.setIfInBounds l.blk (.map ((#[] : Array MapEntry).push { key := .int .i64 n, val := a.eval v, born := 0 }) 1) } := by
    simp only [execOp, ho]
    rw [h1, h2]
    simp [Instr.mapUpdate, run_underlying ht, run_getObj_map hh, run_checkKey_int hkt, Instr.findKey, run_underlying hkt, hfind, run_setObj_map hh]
  unfold Oper.wp
  rw [hq]
  refine hK ρ undef _ (Rho.le.refl _) (fun b l h => .inl h) ⟨[], rfl, trivial⟩ ?_
  rw [upd_one]
  refine H.set hb rfl hl hnil _ (by simp) (fun j hj => by simp [Ne.symm hj]) ⟨rfl, rfl, rfl⟩ ⟨hnil, _, _, by simp [hlt]; exact ⟨rfl, rfl⟩, ?_, ?_⟩
  · simp
  · simpa using (show RL _ [x] [a.eval v] from ⟨h3, trivial⟩)

theorem ok_lookupB {t : TypeId} {m k : Operand} {ok : Bool} {b : Nat} {n : Int} {kt et : TypeId} {zc : CV} {z : Value} {es : List (Int × CV)} {e : Eff} {rds : List Nat} (ho : o.op = .lookup t m k ok) (hev : ∀ x tv, ev x = some tv → tv.R C.X ρ (a.eval x)) (H : HRep C w1 S ρ look w)
    (hm : getC ev m = some (.mp b)) (hk : getC ev k = some (.int .i64 n)) (ht : P.underlying t = some (.map kt et)) (hkt : P.underlying kt = some (.int .i64)) (hzt : (P.info? et).map (·.zero) = some (some z)) (hz : cvOf z = some zc)
    (hb : look b = some (.mapb es)) (hs : (lookTree n zc ok es).sem look = some (e, rds)) : OpOk P C w1 S ρ look nx o a w e := by
  obtain ⟨l, hl, h1⟩ := getC_R hev hm
  have h2 : a.eval k = .int .i64 n := getC_R hev hk
  obtain ⟨l', hl', hblk⟩ := H.blk b _ hb
  rw [hl] at hl'
  cases hl'
  obtain ⟨hnil, en, cl, hh, hkeys, hvals⟩ := hblk
  obtain ⟨_, r, v, bb, hf, hr, c, hc, rfl⟩ := lookTree_sem (cvOf_R (ρ := ρ) (X := C.X) hz) 0 hs hkeys hvals
  have hzero : (zeroValue et).run P w = .ok z w := by
    cases hi : P.info? et with
    | none => simp [hi] at hzt
    | some i => have : i.zero = some z := by simpa [hi] using hzt
                simp [zeroValue, typeInfo, hi, this]
  have hq : (Instr.lookup t (.map (some l.blk)) (.int .i64 n) ok).run P w = .ok (if ok then .tuple #[v, .bool bb] else v) w := by
    rcases hr with ⟨rfl, rfl, rfl⟩ | ⟨j, rfl, rfl⟩
    · simp [Instr.lookup, run_underlying ht, run_getObj_map hh, run_checkKey_int hkt, Instr.findKey, run_underlying hkt, hf, hzero]
    · simp [Instr.lookup, run_underlying ht, run_getObj_map hh, run_checkKey_int hkt, Instr.findKey, run_underlying hkt, hf]
  refine OpOk.value (v := if ok then .tuple #[v, .bool bb] else v) ?_ ?_ H
  · simp only [execOp, ho]
    refine ok_value1 ?_
    rw [h1, h2]
    exact hq
  · cases ok
    · exact hc
    · exact ⟨[v, .bool bb], rfl, hc, rfl, trivial⟩

theorem ok_mapUpdate {t : TypeId} {m k v : Operand} {b : Nat} {n : Int} {x : Bool} {kt et : TypeId} {es : List (Int × Bool)} (ho : o.op = .mapUpdate t m k v) (hev : ∀ x tv, ev x = some tv → tv.R C.X ρ (a.eval x)) (H : HRep C w1 S ρ look w)
    (hm : getC ev m = some (.mp b)) (hk : getC ev k = some (.int .i64 n)) (hv : getC ev v = some (.bool x)) (ht : P.underlying t = some (.map kt et)) (hkt : P.underlying kt = some (.int .i64))
    (hb : look b = some (.mapi es)) : OpOk P C w1 S ρ look nx o a w ⟨undefE, [(b, some (.mapi (putM' n x es)))], []⟩ := fun K Q hK => by
  obtain ⟨l, hl, h1⟩ := getC_R hev hm
  have h2 : a.eval k = .int .i64 n := getC_R hev hk
  have h3 : a.eval v = .bool x := getC_R hev hv
  obtain ⟨l', hl', hblk⟩ := H.blk b _ hb
  rw [hl] at hl'
  cases hl'
  obtain ⟨hnil, hh⟩ := hblk
  have hlt := (Array.getElem?_eq_some_iff.1 hh).1
  have hfind : Instr.findNow (.int .i64) (.int .i64 n) (entsOf es).toList 0 = some ((getM n es).map fun v => (0 + posM n es, Value.bool v)) := findNow_ents es 0 0
  have hq : (execOp a.eval o).run P w = .ok .skip { w with heap := w.heap.setIfInBounds l.blk (.map (entsOf (putM' n x es)) (putM' n x es).length) } := by
    simp only [execOp, ho]
    rw [h1, h2, h3]
    cases hg : getM n es with
    | none =>
      rw [hg] at hfind
      have e1 : (entsOf es).push { key := .int .i64 n, val := .bool x, born := es.length } = entsOf (putM' n x es) := by
        rw [putM'_none hg]
        unfold entsOf
        rw [entsL_append]
        simp [entsL]
      have e2 : (putM' n x es).length = es.length + 1 := by rw [putM'_none hg]; simp
      simp [Instr.mapUpdate, run_underlying ht, run_getObj_map hh, run_checkKey_int hkt, Instr.findKey, run_underlying hkt, hfind, run_setObj_map hh, e1, e2]
    | some u =>
      rw [hg] at hfind
      obtain ⟨e0, g1, g2⟩ := entsL_at (k := 0) hg
      have e1 : (entsOf es).modify (posM n es) (fun e => { e with key := .int .i64 n, val := .bool x }) = entsOf (putM' n x es) := by
        apply Array.ext'
        unfold entsOf
        rw [entsL_put 0 hg]
        simp
      have e2 : (putM' n x es).length = es.length := putM'_length hg
      have e3 : (entsOf es)[posM n es]? = some e0 := by unfold entsOf; simpa using g1
      have e4 : (Instr.keyThatStays (.int .i64 n) (.int .i64 n)).run P w = .ok (.int .i64 n) w := by
        simp [Instr.keyThatStays, Instr.sameBits]
      simp [Instr.mapUpdate, run_underlying ht, run_getObj_map hh, run_checkKey_int hkt, Instr.findKey, run_underlying hkt, hfind, run_setObj_map hh, e1, e2, e3, g2, e4]
  unfold Oper.wp
  rw [hq]
  refine hK ρ undef _ (Rho.le.refl _) (fun b l h => .inl h) ⟨[], rfl, trivial⟩ ?_
  rw [upd_one]
  exact H.set hb rfl hl hnil _ (by simp) (fun j hj => by simp [Ne.symm hj]) ⟨rfl, rfl, rfl⟩ ⟨hnil, by simp [hlt]⟩

theorem ok_lookup {t : TypeId} {m k : Operand} {ok : Bool} {b : Nat} {n : Int} {kt et : TypeId} {z : Value} {es : List (Int × Bool)} (ho : o.op = .lookup t m k ok) (hev : ∀ x tv, ev x = some tv → tv.R C.X ρ (a.eval x)) (H : HRep C w1 S ρ look w)
    (hm : getC ev m = some (.mp b)) (hk : getC ev k = some (.int .i64 n)) (ht : P.underlying t = some (.map kt et)) (hkt : P.underlying kt = some (.int .i64)) (hzt : (P.info? et).map (·.zero) = some (some z)) (hz : cvOf z = some (.bool false))
    (hb : look b = some (.mapi es)) : OpOk P C w1 S ρ look nx o a w ⟨cond ok (.tup [.c (.bool ((getM n es).getD false)), .c (.bool (getM n es).isSome)]) (.s (.c (.bool ((getM n es).getD false)))), [], []⟩ := by
  obtain ⟨l, hl, h1⟩ := getC_R hev hm
  have h2 : a.eval k = .int .i64 n := getC_R hev hk
  obtain ⟨l', hl', hblk⟩ := H.blk b _ hb
  rw [hl] at hl'
  cases hl'
  obtain ⟨hnil, hh⟩ := hblk
  have hfind : Instr.findNow (.int .i64) (.int .i64 n) (entsOf es).toList 0 = some ((getM n es).map fun v => (0 + posM n es, Value.bool v)) := findNow_ents es 0 0
  have hzv : z = .bool false := cvOf_R (ρ := ρ) (X := C.X) hz
  subst hzv
  have hzero : (zeroValue et).run P w = .ok (.bool false) w := by
    cases hi : P.info? et with
    | none => simp [hi] at hzt
    | some i => have : i.zero = some (.bool false) := by simpa [hi] using hzt
                simp [zeroValue, typeInfo, hi, this]
  have hq : (Instr.lookup t (.map (some l.blk)) (.int .i64 n) ok).run P w = .ok (if ok then .tuple #[.bool ((getM n es).getD false), .bool (getM n es).isSome] else .bool ((getM n es).getD false)) w := by
    cases hg : getM n es with
    | none => rw [hg] at hfind; simp [Instr.lookup, run_underlying ht, run_getObj_map hh, run_checkKey_int hkt, Instr.findKey, run_underlying hkt, hfind, hzero]
    | some u => rw [hg] at hfind; simp [Instr.lookup, run_underlying ht, run_getObj_map hh, run_checkKey_int hkt, Instr.findKey, run_underlying hkt, hfind]
  refine OpOk.value (v := if ok then .tuple #[.bool ((getM n es).getD false), .bool (getM n es).isSome] else .bool ((getM n es).getD false)) ?_ ?_ H
  · simp only [execOp, ho]
    refine ok_value1 ?_
    rw [h1, h2]
    exact hq
  · cases ok
    · exact rfl
    · exact ⟨[_, _], rfl, rfl, rfl, trivial⟩

theorem ok_range {t : TypeId} {m : Operand} {b : Nat} {kt et : TypeId} {es : List (Int × Bool)} (ho : o.op = .range t m) (hev : ∀ x tv, ev x = some tv → tv.R C.X ρ (a.eval x)) (H : HRep C w1 S ρ look w) (hn : ρ nx = none)
    (hm : getC ev m = some (.mp b)) (ht : P.underlying t = some (.map kt et)) (hb : look b = some (.mapi es)) : OpOk P C w1 S ρ look nx o a w ⟨.s (.c (.ptr nx 0)), [], [.iter (some b) es.length]⟩ := by
  obtain ⟨l, hl, h1⟩ := getC_R hev hm
  obtain ⟨l', hl', hblk⟩ := H.blk b _ hb
  rw [hl] at hl'
  cases hl'
  obtain ⟨hnil, hh⟩ := hblk
  have hne : b ≠ nx := fun h => by rw [h] at hl; rw [hn] at hl; cases hl
  refine OpOk.new (l := ⟨w.heap.size, 0, 0, 0, false⟩) (v := .pointer (some ⟨w.heap.size, 0, none⟩)) (ob := .mapIter (some l.blk) es.length #[] es.length) ?_ hn rfl ⟨_, Rho.put_same .., rfl⟩ ⟨rfl, l.blk, heap_alloc_at .., fun c hc => ?_⟩ H
  · simp only [execOp, ho]
    have hr : (Instr.range t (.map (some l.blk))).run P w = .ok (.pointer (some ⟨w.heap.size, 0, none⟩)) (w.alloc (.mapIter (some l.blk) es.length #[] es.length)) := by
      simp [Instr.range, run_underlying ht, run_getObj_map hh]
    rw [h1, Sem.run_bind, hr]; rfl
  · cases hc
    exact ⟨l, by unfold Rho.put; rw [if_neg hne]; exact hl, rfl⟩

/-! ### Calls -/
theorem getVs_R (hev : ∀ x tv, ev x = some tv → tv.R C.X ρ (a.eval x)) : ∀ {l : List Operand} {vs : List SV}, getVs ev l = some vs → SL (SV.R C.X ρ) vs (l.map a.eval)
  | [], vs, h => by simp only [getVs, Option.some.injEq] at h; subst h; trivial
  | x :: l, vs, h => by
    simp only [getVs] at h
    split at h
    · rename_i v r h1 h2
      cases h
      exact ⟨getV_R hev h1, getVs_R hev h2⟩
    · cases h

theorem ok_call {c : Call} {f : Operand} {g : FuncId} {s : Sum} {args : List SV} {e : Eff} {rds : List Nat} (ho : o.op = .call c) (hc : c.callee = .value f) (hev : ∀ x tv, ev x = some tv → tv.R C.X ρ (a.eval x)) (H : HRep C w1 S ρ look w)
    (hf : getC ev f = some (.fn g)) (ha : getVs ev c.args.toList = some args) (hs : SumOk P g s) (hnew : ∀ j, j < e.nw.length → ρ (nx + j) = none) (hsem : (s args nx).sem look = some (e, rds)) : OpOk P C w1 S ρ look nx o a w e := fun K Q hK => by
  have h1 : a.eval f = .func (.func g) #[] #[] := getC_R hev hf
  have h2 := getVs_R hev ha
  obtain ⟨⟨fn, hfn, hbody, hname⟩, hcall⟩ := hs
  have hargs : (c.args.map a.eval) = (c.args.toList.map a.eval).toArray := by apply Array.ext'; simp
  have hq : (execOp a.eval o).run P w = .ok (.enter g (c.args.toList.map a.eval).toArray) w := by
    have hnm : ¬ fn.name = "runtime.NumGoroutine" := by simpa using hname
    have hbn : ¬ fn.body = none := fun h => by simp [h] at hbody
    simp only [execOp, ho, resolve, hc, h1, Deferred.ofValue, hargs]
    simp [invoke, callFunc, hfn, hbn, hnm]
  unfold Oper.wp
  rw [hq]
  refine Calls.mono (hcall C w1 S ρ look w args _ nx e rds h2 H hnew hsem) ?_
  rintro x w' ⟨v, ρ', rfl, hle, hdom, hr, hH⟩
  exact hK ρ' v w' hle hdom hr hH

theorem intsOf_R (hev : ∀ x tv, ev x = some tv → tv.R C.X ρ (a.eval x)) : ∀ {l : List Operand} {vs : List Int}, intsOf ev l = some vs → l.map a.eval = vs.map (Value.int .i64)
  | [], vs, h => by simp only [intsOf, Option.some.injEq] at h; subst h; rfl
  | x :: l, vs, h => by
    simp only [intsOf] at h
    split at h
    · rename_i n r h1 h2
      cases h
      have : a.eval x = .int .i64 n := getC_R hev h1
      simp [this, intsOf_R hev h2]
    · cases h

theorem run_foldMax : ∀ (l : List Int) (x : Int), ((l.map (Value.int .i64)).foldlM Builtin.max2 (.int .i64 x)).run P w = .ok (.int .i64 (foldMax x l)) w
  | [], x => by simp [foldMax]
  | y :: l, x => by simp [List.foldlM_cons, Builtin.max2, foldMax, run_foldMax l]
theorem run_foldMin : ∀ (l : List Int) (x : Int), ((l.map (Value.int .i64)).foldlM Builtin.min2 (.int .i64 x)).run P w = .ok (.int .i64 (foldMin x l)) w
  | [], x => by simp [foldMin]
  | y :: l, x => by simp [List.foldlM_cons, Builtin.min2, foldMin, run_foldMin l]

theorem ok_max {c : Call} {x : Int} {r : List Int} (ho : o.op = .call c) (hc : c.callee = .builtin .max) (hev : ∀ x tv, ev x = some tv → tv.R C.X ρ (a.eval x)) (H : HRep C w1 S ρ look w)
    (hi : intsOf ev c.args.toList = some (x :: r)) : OpOk P C w1 S ρ look nx o a w ⟨.s (.c (.int .i64 (foldMax x r))), [], []⟩ := by
  have h := intsOf_R hev hi
  refine OpOk.value (v := .int .i64 (foldMax x r)) ?_ rfl H
  have hl : (c.args.map a.eval).toList = Value.int .i64 x :: r.map (Value.int .i64) := by simpa using h
  simp only [execOp, ho, resolve, hc]
  simp only [Sem.run_bind, Sem.run_pure, Result.andThen_ok, invoke, builtin, Builtin.max_, hl, run_foldMax r x]
theorem ok_min {c : Call} {x : Int} {r : List Int} (ho : o.op = .call c) (hc : c.callee = .builtin .min) (hev : ∀ x tv, ev x = some tv → tv.R C.X ρ (a.eval x)) (H : HRep C w1 S ρ look w)
    (hi : intsOf ev c.args.toList = some (x :: r)) : OpOk P C w1 S ρ look nx o a w ⟨.s (.c (.int .i64 (foldMin x r))), [], []⟩ := by
  have h := intsOf_R hev hi
  refine OpOk.value (v := .int .i64 (foldMin x r)) ?_ rfl H
  have hl : (c.args.map a.eval).toList = Value.int .i64 x :: r.map (Value.int .i64) := by simpa using h
  simp only [execOp, ho, resolve, hc]
  simp only [Sem.run_bind, Sem.run_pure, Result.andThen_ok, invoke, builtin, Builtin.min_, hl, run_foldMin r x]

theorem ok_indexAddrS {t : TypeId} {x i : Operand} {b i0 len sz : Nat} {n : Int} {e : TypeId} {kd : IntKind} {s : SB} {c : Content} (ho : o.op = .indexAddr t x i) (hev : ∀ x tv, ev x = some tv → tv.R C.X ρ (a.eval x)) (H : HRep C w1 S ρ look w)
    (hx : getC ev x = some (.slc b i0 len)) (hi : getC ev i = some (.int kd n)) (ht : P.underlying t = some (.slice e)) (hz : szT P e = some sz) (hn : 0 ≤ n) (hl : n < len)
    (hs : look b = some s) (hc : s = .ro sz c ∨ ∃ pre, s = .vec sz pre c) :
    OpOk P C w1 S ρ look nx o a w ⟨.s (.c (.eptr b (addI i0 n.toNat) 0)), [], []⟩ := by
  obtain ⟨l, h1, h2⟩ := getC_R hev hx
  have h3 : a.eval i = .int kd n := getC_R hev hi
  obtain ⟨l', hl', hb⟩ := H.blk b s hs
  rw [h1] at hl'
  cases hl'
  have hes : sz = l.es ∨ l.nil = true := by
    rcases hc with rfl | ⟨pre, rfl⟩
    · exact .inl hb.1.symm
    · rcases hb with ⟨hn, _⟩ | ⟨⟨_, he⟩, _⟩
      · exact .inr hn
      · exact .inl he.symm
  rcases h2 with ⟨_, _, h2⟩ | ⟨hnil, A, cap, hv, hle, hcap, hA⟩
  · omega
  · have hA := hA (by omega)
    have hes : sz = l.es := by
      rcases hes with h | h
      · exact h
      · rw [hnil] at h; cases h
    subst hA
    refine OpOk.value (v := .pointer (some ⟨l.blk, l.off + addI i0 n.toNat * l.es + 0, none⟩)) ?_ ⟨l, h1, rfl⟩ H
    simp only [execOp, ho]
    refine ok_value1 ?_
    have h3' : n.toNat < len := by omega
    rw [h3]
    rw [hv]
    simp [Instr.indexAt, asIntOf, run_underlying ht, run_sizeOf hz, Addr.add_mid, hn, hl, addI_eq, hes, Nat.add_mul]
    omega

theorem ok_len {c : Call} {e : Eff} {rds : List Nat} (ho : o.op = .call c) (hc : c.callee = .builtin .len) (hev : ∀ x tv, ev x = some tv → tv.R C.X ρ (a.eval x)) (H : HRep C w1 S ρ look w)
    (h : (lenE P c.argTypes[0]? (getVs ev c.args.toList)).sem look = some (e, rds)) : OpOk P C w1 S ρ look nx o a w e := by
  unfold lenE at h
  split at h
  · rename_i t x ht hx
    have hr := getVs_R hev hx
    obtain ⟨u, hl⟩ : ∃ u, c.args.toList.map a.eval = [u] := by
      match c.args.toList.map a.eval, hr with
      | [u], _ => exact ⟨u, rfl⟩
    have hu : x.R C.X ρ u := by rw [hl] at hr; exact hr.1
    have ha : (c.args.map a.eval)[0]? = some u := by
      rw [← Array.getElem?_toList]; simp [Array.toList_map, hl]
    split at h
    · rename_i e' b i n hu'
      rw [cv_sem] at h; cases h
      obtain ⟨l, h1, h2⟩ := hu
      refine OpOk.value (v := .int .i64 n) ?_ rfl H
      simp only [execOp, ho, resolve, hc]
      rcases h2 with ⟨_, rfl, rfl⟩ | ⟨_, A, cap, rfl, _⟩
      · simp [invoke, builtin, Builtin.len_, ht, ha, run_underlying hu', goInt]
      · simp [invoke, builtin, Builtin.len_, ht, ha, run_underlying hu', goInt]
    · rename_i e' hu'
      rw [cv_sem] at h; cases h
      have hu : u = .slice none 0 0 := hu
      subst hu
      refine OpOk.value (v := .int .i64 0) ?_ rfl H
      simp only [execOp, ho, resolve, hc]
      simp [invoke, builtin, Builtin.len_, ht, ha, run_underlying hu', goInt]
    · rename_i e' v l hu'
      rw [cv_sem] at h; cases h
      obtain ⟨rfl, hX, _⟩ := hu
      refine OpOk.value (v := .int .i64 l.length) ?_ rfl H
      simp only [execOp, ho, resolve, hc]
      rcases C.xok _ _ hX with ⟨rfl, rfl⟩ | ⟨A, cap, rfl, _⟩
      · simp [invoke, builtin, Builtin.len_, ht, ha, run_underlying hu', goInt]
      · simp [invoke, builtin, Builtin.len_, ht, ha, run_underlying hu', goInt]
    · rename_i kt et b hu'
      obtain ⟨sb, m, hb, h7, rfl⟩ := rd_sem.1 h
      split at h7
      · rename_i es
        rw [cv_sem] at h7; cases h7
        obtain ⟨l, h1, rfl⟩ := hu
        obtain ⟨l', h1', hblk⟩ := H.blk b _ hb
        rw [h1] at h1'
        cases h1'
        obtain ⟨_, hh⟩ := hblk
        refine OpOk.value (v := .int .i64 es.length) ?_ rfl H
        simp only [execOp, ho, resolve, hc]
        have hlen : (entsOf es).size = es.length := by simp [entsOf, entsL_length]
        simp [invoke, builtin, Builtin.len_, ht, ha, run_underlying hu', goInt, run_getObj_map hh, hlen]
      · cases fail_sem.1 h7
    · cases fail_sem.1 h
  · cases fail_sem.1 h

theorem RL.map_same {α : Type} {R : CV → Value → Prop} {f : α → CV} {g : α → Value} : ∀ {l : List α}, (∀ i ∈ l, R (f i) (g i)) → RL R (l.map f) (l.map g)
  | [], _ => trivial
  | x :: _, h => ⟨h x (List.mem_cons_self ..), RL.map_same fun i hi => h i (List.mem_cons_of_mem _ hi)⟩

theorem asInts_eq {k : IntKind} : ∀ {cs : List CV} {l : List Int}, asInts k cs = some l → cs = l.map (CV.int k)
  | [], l, h => by simp only [asInts, Option.some.injEq] at h; subst h; rfl
  | c :: cs, l, h => by
    cases c with
    | int k' x =>
      simp only [asInts] at h
      split at h
      · rename_i l' hd hl
        cases h
        have := of_decide_eq_true hd
        subst this
        rw [asInts_eq hl]
        rfl
      · cases h
    | _ => simp [asInts] at h
theorem asBools_eq : ∀ {cs : List CV} {l : List Bool}, asBools cs = some l → cs = l.map CV.bool
  | [], l, h => by simp only [asBools, Option.some.injEq] at h; subst h; rfl
  | c :: cs, l, h => by
    cases c with
    | bool x =>
      simp only [asBools] at h
      split at h
      · rename_i l' hl
        cases h
        rw [asBools_eq hl]
        rfl
      · cases h
    | _ => simp [asBools] at h
theorem asStrs_eq : ∀ {cs : List CV} {l : List ByteArray}, asStrs cs = some l → cs = l.map CV.str
  | [], l, h => by simp only [asStrs, Option.some.injEq] at h; subst h; rfl
  | c :: cs, l, h => by
    cases c with
    | str x =>
      simp only [asStrs] at h
      split at h
      · rename_i l' hl
        cases h
        rw [asStrs_eq hl]
        rfl
      · cases h
    | _ => simp [asStrs] at h
theorem rowZ_eq {sz : Nat} {z : List CV} (hpos : 0 < sz) : ∀ (i n : Nat) (cs : List CV), cs.length = n * sz → i < n → rowZ sz z cs i = rowGet sz cs i
  | i, 0, _, _, h => by omega
  | i, n + 1, [], h, _ => by rw [Nat.add_mul, Nat.one_mul] at h; simp at h; omega
  | 0, n + 1, x :: r, _, _ => by simp [rowZ, rowGet]
  | i + 1, n + 1, x :: r, h, hi => by
    unfold rowZ
    rw [rowZ_eq hpos i n ((x :: r).drop sz) (by rw [List.length_drop, h, Nat.add_mul, Nat.one_mul]; omega) (by omega)]
    unfold rowGet
    rw [List.drop_drop, show sz + i * sz = (i + 1) * sz by rw [Nat.add_mul, Nat.one_mul, Nat.add_comm]]
theorem litG_eq {sz n i : Nat} {z cs : List CV} (hc : cs.length = n * sz) (hi : i < n) (hpos : 0 < sz) : litG sz z cs i = rowGet sz cs i := by
  unfold litG
  split
  · simp only [Nat.mul_one] at hc
    have hlt : i < cs.length := by omega
    have e : rowGet 1 cs i = [cs[i]] := by
      simp only [rowGet, Nat.mul_one]
      rw [List.drop_eq_getElem_cons hlt]
      rfl
    unfold litG1
    cases h1 : asInts .i64 cs with
    | some l =>
      have := asInts_eq h1
      subst this
      rw [e]
      have hlt' : i < l.length := by simpa using hlt
      simp [List.getD_eq_getElem?_getD, List.getElem?_eq_getElem hlt']
    | none =>
      simp only
      cases h2 : asBools cs with
      | some l =>
        have := asBools_eq h2
        subst this
        rw [e]
        have hlt' : i < l.length := by simpa using hlt
        simp [List.getD_eq_getElem?_getD, List.getElem?_eq_getElem hlt']
      | none =>
        simp only
        cases h3 : asStrs cs with
        | some l =>
          have := asStrs_eq h3
          subst this
          rw [e]
          have hlt' : i < l.length := by simpa using hlt
          simp [List.getD_eq_getElem?_getD, List.getElem?_eq_getElem hlt']
        | none => exact rowZ_eq hpos i n cs (by omega) hi
  · exact rowZ_eq hpos i n cs hc hi
theorem litZ_eq {sz n i : Nat} {z cs : List CV} (hc : cs.length = n * sz) (hi : i < n) (hpos : 0 < sz) : litZ sz z cs i = rowGet sz cs i := by
  cases cs with
  | nil =>
    have := Nat.mul_le_mul_right sz (show 1 ≤ n by omega)
    simp only [List.length_nil] at hc
    omega
  | cons x r => exact litG_eq hc hi hpos
theorem ok_buildSlice {t : TypeId} {n : Nat} {parts : Array (Nat × Operand)} {e : Eff} {rds : List Nat} (ho : o.op = .buildSlice t n parts) (hev : ∀ x tv, ev x = some tv → tv.R C.X ρ (a.eval x)) (H : HRep C w1 S ρ look w) (hn : ρ nx = none)
    (h : (buildSliceE P t n parts.toList ev nx).sem look = some (e, rds)) : OpOk P C w1 S ρ look nx o a w e := by
  unfold buildSliceE at h
  split at h
  · rename_i el hu
    obtain ⟨sz, hz, h⟩ := opt_sem.1 h
    obtain ⟨z, hzz, h⟩ := opt_sem.1 h
    obtain ⟨h1, h⟩ := cond_sem.1 h
    obtain ⟨cs, hp, h⟩ := opt_sem.1 h
    obtain ⟨h2, h⟩ := cond_sem.1 h
    rw [ret_sem] at h
    cases h
    simp only [Bool.and_eq_true, decide_eq_true_eq] at h1 h2
    obtain ⟨⟨hpos, hsm⟩, hzl⟩ := h1
    obtain ⟨zv, g1, g2⟩ := zeroT_R (ρ := ρ) (X := C.X) hzz
    have hzs : zv.cells.size = sz := by have := g2.length; simp at this; omega
    have g3 : RL (CV.R C.X ρ) (repN n sz z) ((Array.range (n * sz)).map (fun i => zv.cells[i % zv.cells.size]!)).toList := by
      unfold repN
      rw [Array.toList_map, Array.toList_range]
      refine RL.map_same fun i _ => ?_
      have hlt : i % sz < z.length := by rw [hzl]; exact Nat.mod_lt _ hpos
      obtain ⟨u, q1, q2⟩ := g2.get (i % sz) z[i % sz] (List.getElem?_eq_getElem hlt)
      rw [List.getD_eq_getElem?_getD, List.getElem?_eq_getElem hlt, hzs]
      rw [Array.getElem?_toList] at q1
      simp only [Option.getD_some, Array.getElem!_eq_getD, Array.getD_eq_getD_getElem?, q1]
      exact q2
    obtain ⟨arr, h3, h4⟩ := partsE_fill hev hp g3
    have hlen := h4.length
    simp only [Array.length_toList] at hlen
    refine OpOk.new (l := ⟨w.heap.size, 0, sz, n, false⟩) (v := .slice (some ⟨w.heap.size, 0, none⟩) n n) (ob := .cells arr el) ?_ hn rfl ⟨_, Rho.put_same .., .inr ⟨rfl, _, n, rfl, Nat.le_refl _, by simp, fun _ => by simp⟩⟩ ?_ H
    · simp only [execOp, ho]
      suffices hr : (Instr.buildSlice t n (parts.map fun (x : Nat × Operand) => (x.1, a.eval x.2))).run P w = .ok (.slice (some ⟨w.heap.size, 0, none⟩) n n) (w.alloc (.cells arr el)) by
        rw [Sem.run_bind, hr]; rfl
      have hmap : (parts.map fun (x : Nat × Operand) => (x.1, a.eval x.2)).toList = parts.toList.map fun x => (x.1, a.eval x.2) := by simp
      unfold Instr.buildSlice
      simp only [Sem.run_bind, run_underlying hu, Result.andThen_ok, run_sizeOf hz]
      rw [if_neg (by omega)]
      by_cases h0 : n * sz = 0
      · have : n = 0 := by rcases Nat.mul_eq_zero.1 h0 with h | h <;> omega
        subst this
        have e0 : (Array.range (0 * sz)).map (fun i => zv.cells[i % zv.cells.size]!) = (Array.range (0 * sz)).map (fun i => (#[] : Array Value)[i % (#[] : Array Value).size]!) := by simp
        rw [e0] at h3
        rw [if_pos h0, Sem.run_bind, Sem.run_pure]
        simp only [Result.andThen_ok]
        rw [hmap, h3]
        simp [newRow]
      · rw [if_neg h0]
        simp only [Sem.run_bind, g1, Result.andThen_ok, Sem.run_pure]
        rw [hmap, h3]
        simp [newRow]
    · refine .inr ⟨⟨rfl, rfl⟩, arr, el, heap_alloc_at .., by simp [RL], by simp, by simp; omega, Nat.le_refl _, ?_⟩
      intro i hi
      simp only [Content.size] at hi
      have hb : i * sz + sz ≤ n * sz := by
        have := Nat.mul_le_mul_right sz (show i + 1 ≤ n by omega)
        rw [Nat.add_mul, Nat.one_mul] at this; exact this
      have hl : litZ sz z cs i = rowGet sz cs i := litZ_eq (n := n) (by omega) hi hpos
      refine ⟨?_, by simp [Content.get, hl, rowGet]; omega⟩
      have := ((RL.plain (by simpa using h2.2) h4).drop (i * sz)).take sz
      simpa [Content.get, hl, rowGet] using this
  · cases fail_sem.1 h

theorem sliceBound_run {x : Value} {k : IntKind} {n : Int} {y : Nat} {code : BoundsCode} (hx : x = .int k n) (h0 : 0 ≤ n) (h1 : n ≤ y) : (Instr.sliceBound x y code).run P w = .ok n.toNat w := by
  subst hx
  simp [Instr.sliceBound, asIntOf, h0, h1]

theorem optI_R (hev : ∀ x tv, ev x = some tv → tv.R C.X ρ (a.eval x)) {x : Option Operand} {d n : Int} (h : optI ev x d = some n) : (x = none ∧ n = d) ∨ ∃ y k, x = some y ∧ a.eval y = .int k n := by
  cases x with
  | none => simp only [optI, Option.some.injEq] at h; exact .inl ⟨rfl, h.symm⟩
  | some y =>
    simp only [optI] at h
    split at h
    · rename_i k m hm
      cases h
      exact .inr ⟨y, k, rfl, getC_R hev hm⟩
    · cases h

theorem ok_slice {t : TypeId} {x : Operand} {lo hi : Option Operand} {e : Eff} {rds : List Nat} (ho : o.op = .slice t x lo hi none) (hev : ∀ x tv, ev x = some tv → tv.R C.X ρ (a.eval x)) (H : HRep C w1 S ρ look w)
    (h : (sliceE P t (getC ev x) (optI ev lo 0) (fun n => optI ev hi n)).sem look = some (e, rds)) : OpOk P C w1 S ρ look nx o a w e := by
  unfold sliceE at h
  split at h
  · rename_i b i0 len el hx hu
    obtain ⟨sz, hz, h⟩ := opt_sem.1 h
    obtain ⟨lv, hlo, h⟩ := opt_sem.1 h
    obtain ⟨hv, hhi, h⟩ := opt_sem.1 h
    obtain ⟨h1, h⟩ := br_sem.1 h
    simp only [Bool.and_eq_true, decide_eq_true_eq] at h1
    obtain ⟨⟨b1, b2⟩, b3⟩ := h1
    obtain ⟨s, m, hs, h, _⟩ := rd_sem.1 h
    obtain ⟨l, q1, q2⟩ := getC_R hev hx
    obtain ⟨l', hl', hb⟩ := H.blk b s hs
    rw [q1] at hl'
    cases hl'
    have fin : ∀ es, (l.es = es ∨ l.nil = true) → es = sz → e = ⟨.s (.c (.slc b (addI i0 lv.toNat) (hv.toNat - lv.toNat))), [], []⟩ → OpOk P C w1 S ρ look nx o a w e := by
      rintro es hes rfl rfl
      have hbnd : ∀ (len cap : Nat), len ≤ cap → (hi = none → hv = len) → hv ≤ len → (Instr.sliceBounds true len cap (lo.map a.eval) (hi.map a.eval) none).run P w = .ok (lv.toNat, hv.toNat, cap) w := by
        intro len cap hlc hd hle
        have gl : ∀ h : Nat, hv.toNat = h → (match lo.map a.eval with
            | some v => Instr.sliceBound v h .sliceB
            | none => (pure 0 : Sem Nat)).run P w = .ok lv.toNat w := by
          intro h hh
          rcases optI_R hev hlo with ⟨rfl, rfl⟩ | ⟨y, k, rfl, hy⟩
          · simp
          · exact sliceBound_run hy b1 (by omega)
        have gh : (match hi.map a.eval, (none : Option Value) with
            | some v, some _ => Instr.sliceBound v cap .slice3B
            | some v, none => Instr.sliceBound v cap .sliceAcap
            | none, none => (pure len : Sem Nat)
            | none, some _ => stuck "Slice: max without high").run P w = .ok hv.toNat w := by
          cases hi with
          | none => rw [hd rfl]; simp
          | some y =>
            rcases optI_R hev hhi with ⟨h, _⟩ | ⟨y', k, hy', hy⟩
            · cases h
            · cases hy'
              exact sliceBound_run hy (by omega) (by omega)
        unfold Instr.sliceBounds
        simp only [Sem.run_bind, Sem.run_pure, Result.andThen_ok]
        cases hi with
        | none =>
          simp only [Option.map_none]
          have hd := hd rfl
          have := gl len (by omega)
          cases lo with
          | none => simp only [Option.map_none, Sem.run_pure, Result.ok.injEq, and_true] at this ⊢; simp [this]; omega
          | some y => simp only [Option.map_some] at this ⊢; simp [this]; omega
        | some y =>
          have gh' : (Instr.sliceBound (a.eval y) cap .sliceAcap).run P w = .ok hv.toNat w := by simpa using gh
          have := gl hv.toNat rfl
          cases lo with
          | none => simp only [Option.map_none, Sem.run_pure, Result.ok.injEq, and_true] at this; simp [gh', this]
          | some y => simp only [Option.map_some] at this; simp [gh', this]
      have hd : hi = none → hv = len := by
        rintro rfl
        simp only [optI, Option.some.injEq] at hhi
        exact hhi.symm
      have main : ∀ (ad : Option Addr) (cap : Nat), a.eval x = .slice ad len cap → len ≤ cap → (CV.slc b (addI i0 lv.toNat) (hv.toNat - lv.toNat)).R C.X ρ (.slice (if cap = lv.toNat then ad else ad.map (·.add (lv.toNat * es))) (hv.toNat - lv.toNat) (cap - lv.toNat)) → OpOk P C w1 S ρ look nx o a w ⟨.s (.c (.slc b (addI i0 lv.toNat) (hv.toNat - lv.toNat))), [], []⟩ := by
        intro ad cap hx hlc hr
        refine OpOk.value (v := .slice (if cap = lv.toNat then ad else ad.map (·.add (lv.toNat * es))) (hv.toNat - lv.toNat) (cap - lv.toNat)) ?_ hr H
        simp only [execOp, ho]
        refine ok_value1 ?_
        rw [hx]
        have := hbnd len cap hlc hd b3
        simp [Instr.sliceAt, Instr.slice, run_underlying hu, this, run_sizeOf hz]
      rcases q2 with ⟨hn, hxv, rfl⟩ | ⟨hn, A, cap, hxv, hlc, hcap, hA⟩
      · refine main none 0 hxv (by omega) ⟨l, q1, .inl ⟨hn, ?_, by omega⟩⟩
        simp; omega
      · have hes : l.es = es := by
          rcases hes with h | h
          · exact h
          · rw [hn] at h; cases h
        refine main (some A) cap hxv hlc ⟨l, q1, .inr ⟨hn, if cap = lv.toNat then A else A.add (lv.toNat * es), cap - lv.toNat, ?_, by omega, ?_, ?_⟩⟩
        · by_cases hc : cap = lv.toNat <;> simp [hc]
        · rw [addI_eq]; omega
        · intro hpos
          rw [if_neg (by omega), hA (by omega), Addr.add_mid, addI_eq, hes, Nat.add_mul]
          simp; omega
    split at h
    · rename_i es pre c
      obtain ⟨h10, h11⟩ := cond_sem.1 h
      rw [cv_sem] at h11; cases h11
      refine fin es ?_ (of_decide_eq_true h10) rfl
      rcases hb with ⟨hn, _⟩ | ⟨⟨_, he⟩, _⟩
      · exact .inr hn
      · exact .inl he
    · rename_i es c
      obtain ⟨h10, h11⟩ := cond_sem.1 h
      rw [cv_sem] at h11; cases h11
      exact fin es (.inl hb.1) (of_decide_eq_true h10) rfl
    · cases fail_sem.1 h
  · cases fail_sem.1 h

/-! ### append -/
theorem subG_eq (g : Nat → List CV) (i j : Nat) : subG g i j = g (i + j) := by cases i <;> simp [subG]
theorem catG_lt {f g : Nat → List CV} {n j : Nat} (h : j < n) : catG f g n j = f j := by
  cases n with
  | zero => omega
  | succ k =>
    have : Nat.blt j (k + 1) = true := by rw [Nat.blt_eq]; exact h
    simp [catG, this]
theorem catG_ge {f g : Nat → List CV} {n j : Nat} (h : n ≤ j) : catG f g n j = g (j - n) := by
  cases n with
  | zero => rfl
  | succ k =>
    have : Nat.blt j (k + 1) = false := by
      cases hb : Nat.blt j (k + 1) with
      | false => rfl
      | true => rw [Nat.blt_eq] at hb; omega
    simp [catG, this]

/-- What a slice holds, as memory has it. -/
structure Held (P : Program) (C : Ctx) (w : World) (sz : Nat) (v : Value) (m : Nat) (g : Nat → List CV) (blk : Option Nat) (news : List Value) : Prop where
  len : news.length = m * sz
  first : ∀ w' : World, (∀ k, blk = some k → w'.heap[k]? = w.heap[k]?) → (Builtin.firstCells sz m v).run P w' = .ok news.toArray w'
  row : ∀ j, j < m → RL (CV.R C.X noRho) (g j) ((news.drop (j * sz)).take sz) ∧ (g j).length = sz
  lenOf : ∀ w' : World, (Builtin.lenOf v).run P w' = .ok m w'

theorem held_row {arr : Array Value} {ty : TypeId} {fr : Nat × Nat} {blk off i0 m sz cap : Nat} {c : Content} (hpos : 0 < sz) (hb : w.heap[blk]? = some (.cells arr ty fr)) (hrow : RowR (CV.R C.X noRho) arr.toList off sz c) (hm : i0 + m ≤ c.size)
    {A : Addr} (hA : 0 < m → A = ⟨blk, off + i0 * sz, none⟩) : ∃ news, Held P C w sz (.slice (some A) m cap) m (fun j => c.get (i0 + j)) (some blk) news := by
  by_cases h0 : m = 0
  · subst h0
    exact ⟨[], by simp, fun w' _ => run_firstCells_some (P := P) w' sz 0 A 0 cap [] (by simp) (fun j v h => by simp at h), fun j h => by omega, fun w' => by simp [Builtin.lenOf]⟩
  · have hA := hA (by omega)
    subst hA
    have hsize : off + (i0 + m) * sz ≤ arr.size := by
      have h1 := hrow (i0 + m - 1) (by omega)
      have h2 := h1.1.length
      rw [h1.2] at h2
      simp only [List.length_take, List.length_drop, Array.length_toList] at h2
      have h3 : off + (i0 + m - 1) * sz + sz = off + (i0 + m) * sz := by
        rw [Nat.add_assoc]
        congr 1
        have : (i0 + m - 1 + 1) * sz = (i0 + m - 1) * sz + sz := by rw [Nat.add_mul, Nat.one_mul]
        rw [← this]; congr 1; omega
      omega
    have hms : (i0 + m) * sz = i0 * sz + m * sz := Nat.add_mul ..
    refine ⟨(arr.toList.drop (off + i0 * sz)).take (m * sz), by simp; omega, ?_, ?_, fun w' => by simp [Builtin.lenOf]⟩
    · intro w' hw'
      refine run_firstCells_some (P := P) w' sz m _ m cap _ (by simp; omega) ?_
      intro j v hv
      rw [Addr.add_mid]
      unfold World.cell?
      rw [hw' blk rfl, hb]
      have hj : j < m * sz := by
        have := (List.getElem?_eq_some_iff.1 hv).1
        simp at this; omega
      rw [List.getElem?_take_of_lt hj, List.getElem?_drop, Array.getElem?_toList] at hv
      simpa using hv
    · intro j hj
      have h1 := hrow (i0 + j) (by omega)
      refine ⟨?_, h1.2⟩
      have hjm : j * sz + sz ≤ m * sz := by
        have := Nat.mul_le_mul_right sz (show j + 1 ≤ m by omega)
        rw [Nat.add_mul, Nat.one_mul] at this; exact this
      rw [List.drop_take, List.take_take, Nat.min_eq_left (by omega), List.drop_drop, show off + i0 * sz + j * sz = off + (i0 + j) * sz by rw [Nat.add_mul]; omega]
      exact h1.1

/-- The source of an append. -/
theorem srcE_held {y : CV} {v : Value} {sz : Nat} {K : Nat → (Nat → List CV) → Tr Eff} {e : Eff} {rds : List Nat} (hpos : 0 < sz) (hy : y.R C.X ρ v) (H : HRep C w1 S ρ look w) (h : (srcE sz y K).sem look = some (e, rds)) :
    ∃ m g news blk rds', (K m g).sem look = some (e, rds') ∧ Held P C w sz v m g blk news ∧ ((∃ a n c, v = .slice (some a) n c) ∨ v = .slice none 0 0) ∧ (∀ k, blk = some k → (∃ b s l, slcOf y = some b ∧ look b = some s ∧ ρ b = some l ∧ l.nil = false ∧ l.blk = k) ∨ C.I k) := by
  unfold srcE at h
  split at h
  · rename_i b i0 m
    obtain ⟨s, rds', hs, h, _⟩ := rd_sem.1 h
    obtain ⟨l, q1, q2⟩ := hy
    obtain ⟨l', hl', hb⟩ := H.blk b s hs
    rw [q1] at hl'
    cases hl'
    have main : ∀ es c, es = sz → i0 + m ≤ c.size → (K m (subG c.get i0)).sem look = some (e, rds') → (l.nil = true ∨ c.size = 0 ∨ ∃ arr t fr, w.heap[l.blk]? = some (.cells arr t fr) ∧ l.es = es ∧ RowR (CV.R C.X noRho) arr.toList l.off l.es c) →
        ∃ m g news blk rds', (K m g).sem look = some (e, rds') ∧ Held P C w sz v m g blk news ∧ ((∃ a n c, v = .slice (some a) n c) ∨ v = .slice none 0 0) ∧ (∀ k, blk = some k → (∃ b' s l, slcOf (.slc b i0 m) = some b' ∧ look b' = some s ∧ ρ b' = some l ∧ l.nil = false ∧ l.blk = k) ∨ C.I k) := by
      intro es c hes hm hk hblk
      have hg : subG c.get i0 = fun j => c.get (i0 + j) := by funext j; exact subG_eq ..
      rw [hg] at hk
      rcases q2 with ⟨hn, rfl, rfl⟩ | ⟨hn, A, cap, rfl, hlc, hcap, hA⟩
      · exact ⟨0, _, [], none, _, hk, ⟨by simp, fun w' _ => run_firstCells_none w' sz 0 0 0, fun j h => by omega, fun w' => by simp [Builtin.lenOf]⟩, .inr rfl, fun k h => by cases h⟩
      · by_cases h0 : m = 0
        · subst h0
          exact ⟨0, _, [], none, _, hk, ⟨by simp, fun w' _ => run_firstCells_some (P := P) w' sz 0 A 0 cap [] (by simp) (fun j v h => by simp at h), fun j h => by omega, fun w' => by simp [Builtin.lenOf]⟩, .inl ⟨A, 0, cap, rfl⟩, fun k h => by cases h⟩
        · rcases hblk with h | h | ⟨arr, t, fr, hb', hle, hrow⟩
          · rw [hn] at h; cases h
          · omega
          · subst hes
            rw [hle] at hrow hA
            obtain ⟨news, hh⟩ := held_row (P := P) (cap := cap) hpos hb' hrow hm (A := A) (fun _ => hA (by omega))
            exact ⟨m, _, news, some l.blk, _, hk, hh, .inl ⟨A, m, cap, rfl⟩, fun k h => .inl ⟨b, s, l, rfl, hs, q1, hn, by cases h; rfl⟩⟩
    split at h
    · rename_i es pre c
      obtain ⟨h1, h⟩ := cond_sem.1 h
      obtain ⟨h2, h⟩ := br_sem.1 h
      refine main es c (of_decide_eq_true h1) (by rw [← addI_eq]; exact of_decide_eq_true h2) h ?_
      rcases hb with ⟨hn, _⟩ | ⟨⟨_, he⟩, arr, t, hb', _, _, _, _, hrow⟩
      · exact .inl hn
      · exact .inr (.inr ⟨arr, t, _, hb', he, hrow⟩)
    · rename_i es c
      obtain ⟨h1, h⟩ := cond_sem.1 h
      obtain ⟨h2, h⟩ := br_sem.1 h
      refine main es c (of_decide_eq_true h1) (by rw [← addI_eq]; exact of_decide_eq_true h2) h ?_
      rcases hb with ⟨he, h0 | ⟨arr, t, fr, _, hb', hrow⟩⟩
      · exact .inr (.inl h0)
      · exact .inr (.inr ⟨arr, t, fr, hb', he, hrow⟩)
    · cases fail_sem.1 h
  · have hv : v = .slice none 0 0 := hy
    subst hv
    exact ⟨0, _, [], none, _, h, ⟨by simp, fun w' _ => run_firstCells_none w' sz 0 0 0, fun j h => by omega, fun w' => by simp [Builtin.lenOf]⟩, .inr rfl, fun k h => by cases h⟩
  · rename_i u l
    obtain ⟨h1, h⟩ := cond_sem.1 h
    have h1 := Nat.eq_of_beq_eq_true h1
    subst h1
    obtain ⟨rfl, hX, _⟩ := hy
    rcases C.xok _ _ hX with ⟨rfl, rfl⟩ | ⟨A, cap, rfl, _, hA⟩
    · exact ⟨0, _, [], none, _, h, ⟨by simp, fun w' _ => run_firstCells_none w' 1 0 0 0, fun j h => by omega, fun w' => by simp [Builtin.lenOf]⟩, .inr rfl, fun k h => by cases h⟩
    · rcases hA with rfl | ⟨b, o, arr, t, fr, rfl, hI, hb, hcell⟩
      · exact ⟨0, _, [], none, _, h, ⟨by simp, fun w' _ => run_firstCells_some (P := P) w' 1 0 A 0 cap [] (by simp) (fun j v h => by simp at h), fun j h => by omega, fun w' => by simp [Builtin.lenOf]⟩, .inl ⟨A, 0, cap, rfl⟩, fun k h => by cases h⟩
      · have hbw : w.heap[b]? = some (.cells arr t fr) := (H.out b hI).1.trans hb
        refine ⟨l.length, _, l.map (Value.int .i64), some b, _, h, ⟨by simp, ?_, ?_, fun w' => by simp [Builtin.lenOf]⟩, .inl ⟨_, _, cap, rfl⟩, fun k h => .inr (by cases h; exact hI)⟩
        · intro w' hw'
          refine run_firstCells_some (P := P) w' 1 l.length _ l.length cap _ (by simp) ?_
          intro j v hv
          rw [Addr.add_mid]
          unfold World.cell?
          rw [hw' b rfl, hbw]
          rw [List.getElem?_map] at hv
          cases hx : l[j]? with
          | none => rw [hx] at hv; cases hv
          | some x =>
            rw [hx] at hv
            cases hv
            simpa using hcell j x hx
        · intro j hj
          have e1 : (List.drop (j * 1) (l.map (Value.int .i64))).take 1 = [.int .i64 (l.getD j 0)] := by
            rw [Nat.mul_one, List.drop_eq_getElem_cons (by simpa using hj)]
            simp [List.getD, List.getElem?_eq_getElem hj]
          rw [e1]
          exact ⟨⟨rfl, trivial⟩, rfl⟩
  · cases fail_sem.1 h

theorem run_app_fits {t ty e : TypeId} {i : TypeInfo} (ht : P.underlying t = some (.slice e)) (hi : P.info? e = some i) {base : Option Addr} {sLen sCap m : Nat} {u : Value} {news : List Value} {w' : World}
    (hl : (Builtin.lenOf u).run P w = .ok m w) (hf : (Builtin.firstCells i.size m u).run P w = .ok news.toArray w) (hroom : sLen + m ≤ sCap)
    (hs : ∀ a, base = some a → (storeCells (a.add (sLen * i.size)) news).run P w = .ok () w') (hn : base = none → w' = w) :
    (Builtin.append_ #[t, t] ty #[.slice base sLen sCap, u]).run P w = .ok (.slice base (sLen + m) sCap) w' := by
  cases base with
  | none =>
    rw [hn rfl]
    simp [Builtin.append_, run_underlying ht, sizeOf, typeInfo, hi, hl, hroom, hf]
  | some a =>
    have := hs a rfl
    simp [Builtin.append_, run_underlying ht, sizeOf, typeInfo, hi, hl, hroom, hf, this]

theorem run_app_grow {t ty e : TypeId} {i : TypeInfo} {z : Value} (ht : P.underlying t = some (.slice e)) (hi : P.info? e = some i) (hz : i.zero = some z) {base : Option Addr} {sLen sCap m : Nat} {u : Value} {olds news : List Value}
    (hl : (Builtin.lenOf u).run P w = .ok m w) (ho : (Builtin.firstCells i.size sLen (.slice base sLen sCap)).run P w.drew = .ok olds.toArray w.drew) (hf : (Builtin.firstCells i.size m u).run P w.drew = .ok news.toArray w.drew)
    (hg : sCap < sLen + m) (h63 : ((sLen + m : Nat) : Int) ≤ 9223372036854775807) (hfit : Builtin.nextslicecap (sLen + m) sCap * i.bytes ≤ 281474976710656) :
    (Builtin.append_ #[t, t] ty #[.slice base sLen sCap, u]).run P w =
      .ok (.slice (some ⟨w.heap.size, 0, none⟩) (sLen + m) (grownCap w (sLen + m) sCap e))
        (w.drew.alloc (.cells (olds.toArray ++ news.toArray ++ Builtin.zeroCells z.cells (grownCap w (sLen + m) sCap e - (sLen + m))) e)) := by
  have hn : ¬ (sLen + m ≤ sCap) := by omega
  have h63' : ¬ (9223372036854775807 < ((sLen : Int) + (m : Int))) := by omega
  have h48' : ¬ (281474976710656 < Builtin.nextslicecap (sLen + m) sCap * i.bytes) := by omega
  simp [Builtin.append_, run_underlying ht, sizeOf, typeInfo, zeroValue, hi, hz, hl, hn, h63', h48', Question.forced, hf, ho, newRow, grownCap]
  congr 2
  apply Array.ext'
  simp [List.append_assoc]

theorem rows_one {X : Outs} {g : Nat → List CV} {news : List Value} {m sz : Nat} (hpos : 0 < sz) (hl : news.length = m * sz) (h : ∀ j, j < m → RL (CV.R X noRho) (g j) ((news.drop (j * sz)).take sz)) : ∀ v ∈ news, v.oneCell' = true := by
  intro v hv
  obtain ⟨k, hk, rfl⟩ := List.getElem_of_mem hv
  have h1 : k / sz < m := by rw [Nat.div_lt_iff_lt_mul hpos]; omega
  have h2 := h (k / sz) h1
  have h3 : k % sz < sz := Nat.mod_lt _ hpos
  have h4 : k / sz * sz + k % sz = k := by rw [Nat.mul_comm]; exact Nat.div_add_mod k sz
  refine RL.one' h2 _ (List.mem_of_getElem? (i := k % sz) ?_)
  rw [List.getElem?_take_of_lt h3, List.getElem?_drop, h4, List.getElem?_eq_getElem hk]

/-- The row behind an append. -/
theorem row_cat {X : Outs} {f g : Nat → List CV} {olds news rest : List Value} {n m sz : Nat} (ho : olds.length = n * sz) (hn : news.length = m * sz)
    (hf : ∀ j, j < n → RL (CV.R X noRho) (f j) ((olds.drop (j * sz)).take sz) ∧ (f j).length = sz) (hg : ∀ j, j < m → RL (CV.R X noRho) (g j) ((news.drop (j * sz)).take sz) ∧ (g j).length = sz) :
    RowR (CV.R X noRho) (olds ++ news ++ rest) 0 sz (.gen (n + m) (catG f g n)) := by
  intro j hj
  simp only [Content.size] at hj
  simp only [Content.get, Nat.zero_add]
  by_cases hjn : j < n
  · rw [catG_lt hjn]
    have h1 := hf j hjn
    refine ⟨?_, h1.2⟩
    have h2 : j * sz + sz ≤ n * sz := by
      have := Nat.mul_le_mul_right sz (show j + 1 ≤ n by omega)
      rw [Nat.add_mul, Nat.one_mul] at this; exact this
    rw [List.append_assoc, List.drop_append_of_le_length (by omega), List.take_append_of_le_length (by simp; omega)]
    exact h1.1
  · rw [catG_ge (by omega)]
    have h1 := hg (j - n) (by omega)
    refine ⟨?_, h1.2⟩
    have h2 : (j - n) * sz + sz ≤ m * sz := by
      have := Nat.mul_le_mul_right sz (show (j - n) + 1 ≤ m by omega)
      rw [Nat.add_mul, Nat.one_mul] at this; exact this
    have h3 : j * sz = olds.length + (j - n) * sz := by
      rw [ho, ← Nat.add_mul]; congr 1; omega
    rw [h3, List.append_assoc, List.drop_append, List.drop_of_length_le (by omega), List.nil_append, show olds.length + (j - n) * sz - olds.length = (j - n) * sz by omega, List.drop_append_of_le_length (by omega), List.take_append_of_le_length (by simp; omega)]
    exact h1.1

theorem OpOk.app {sv : TV} {v : Value} {sb : SB} {l : Loc} {wr : List (Nat × Option SB)} {w' : World} (hr : (execOp a.eval o).run P w = .ok (.value v) w') (hn : ρ nx = none)
    (hv : sv.R C.X (ρ.put nx l) v) (HH : HRep C w1 S (ρ.put nx l) (upd look ⟨sv, wr, [sb]⟩ nx) w') : OpOk P C w1 S ρ look nx o a w ⟨sv, wr, [sb]⟩ := fun K Q hK => by
  unfold Oper.wp
  rw [hr]
  refine hK (ρ.put nx l) v _ (Rho.le_put hn) (fun b m h => ?_) hv HH
  unfold Rho.put at h
  split at h
  · rename_i e; exact .inr (by subst e; simp)
  · exact .inl h
theorem upd_app {sv : TV} {sb : SB} {b : Nat} : upd look ⟨sv, [(b, none)], [sb]⟩ nx = fun c => if c = nx then some sb else if c = b then none else look c := by
  funext c
  unfold upd updW updW
  simp only [List.length_cons, List.length_nil, Nat.zero_add]
  by_cases h : c = nx
  · subst h; simp
  · rw [if_neg h]
    split
    · rw [if_neg (by omega)]
    · rfl

/-- An append that makes a new row. -/
theorem app_grown {c : Call} {t e : TypeId} {i : TypeInfo} {z : Value} {sz m sLen sCap : Nat} {base : Option Addr} {u : Value} {f g : Nat → List CV} {bx bu : Option Nat} {olds news : List Value} {x y : Operand}
    (ho : o.op = .call c) (hc : c.callee = .builtin .append) (hargs : c.args = #[x, y]) (hts : c.argTypes = #[t, t]) (ht : P.underlying t = some (.slice e)) (hi : P.info? e = some i) (hz : i.zero = some z) (hsz : i.size = sz) (hzs : z.cells.size = sz) (hpos : 0 < sz) (hby : i.bytes ≤ 16384)
    (hx : a.eval x = .slice base sLen sCap) (hy : a.eval y = u) (HO : Held P C w sz (.slice base sLen sCap) sLen f bx olds) (HN : Held P C w sz u m g bu news)
    (hg : sCap < sLen + m) (hsm : sLen + m ≤ 4294967296) (H : HRep C w1 S ρ look w) (hn : ρ nx = none) :
    ∃ v w' l, (execOp a.eval o).run P w = .ok (.value v) w' ∧ (CV.slc nx 0 (sLen + m)).R C.X (ρ.put nx l) v ∧ HRep C w1 S (ρ.put nx l) (fun b => if b = nx then some (.vec sz [] (.gen (sLen + m) (catG f g sLen))) else look b) w' := by
  subst hsz
  have hcap := grownCap_ge w (sLen + m) sCap e
  have hr := fun ty => run_app_grow (P := P) (w := w) (ty := ty) ht hi hz (HN.lenOf w) (HO.first w.drew fun k _ => rfl) (HN.first w.drew fun k _ => rfl) hg (by omega) (growslice_fits hg (by
    have := Nat.mul_le_mul hsm hby
    omega))
  refine ⟨.slice (some ⟨w.heap.size, 0, none⟩) (sLen + m) (grownCap w (sLen + m) sCap e), w.drew.alloc (.cells (olds.toArray ++ news.toArray ++ Builtin.zeroCells z.cells (grownCap w (sLen + m) sCap e - (sLen + m))) e), ⟨w.heap.size, 0, i.size, grownCap w (sLen + m) sCap e, false⟩, ?_, ⟨_, Rho.put_same .., .inr ⟨rfl, ⟨w.heap.size, 0, none⟩, grownCap w (sLen + m) sCap e, rfl, hcap, by simp, fun _ => by simp⟩⟩, HRep.new H.drew hn _ _ rfl _ ?_⟩
  · simp only [execOp, ho, resolve, hc]
    simp [invoke, builtin, hargs, hts, hx, hy, hr]
  · refine .inr ⟨⟨rfl, rfl⟩, _, e, heap_alloc_at .., by simp [RL], by simp, ?_, ?_, ?_⟩
    · simp only [Array.size_append, List.size_toArray, HO.len, HN.len, size_zeroCells, hzs, Nat.zero_add]
      rw [← Nat.add_mul, ← Nat.add_mul]
      congr 1
      omega
    · exact hcap
    · have := row_cat (rest := (Builtin.zeroCells z.cells (grownCap w (sLen + m) sCap e - (sLen + m))).toList) HO.len HN.len HO.row HN.row
      simpa using this

/-- An append that finds room. -/
theorem app_fits {c : Call} {t e : TypeId} {i : TypeInfo} {sz m sLen sCap b i0 : Nat} {A : Addr} {u : Value} {g : Nat → List CV} {bu : Option Nat} {news : List Value} {x y : Operand} {l : Loc} {arr : Array Value} {ty : TypeId} {cc : Content}
    (ho : o.op = .call c) (hc : c.callee = .builtin .append) (hargs : c.args = #[x, y]) (hts : c.argTypes = #[t, t]) (ht : P.underlying t = some (.slice e)) (hi : P.info? e = some i) (hsz : i.size = sz) (hpos : 0 < sz)
    (hx : a.eval x = .slice (some A) sLen sCap) (hy : a.eval y = u) (HN : Held P C w sz u m g bu news) (hroom : sLen + m ≤ sCap) (hsl : sLen ≤ sCap)
    (hb : look b = some (.vec sz [] cc)) (hl : ρ b = some l) (hnil : l.nil = false) (hes : l.es = sz) (harr : w.heap[l.blk]? = some (.cells arr ty (0, 0))) (hasz : arr.size = l.off + l.cap * l.es) (hrow : RowR (CV.R C.X noRho) arr.toList l.off l.es cc)
    (hcap : i0 + sCap = l.cap) (hA : 0 < sCap → A = ⟨l.blk, l.off + i0 * l.es, none⟩) (hcs : cc.size = i0 + sLen) (H : HRep C w1 S ρ look w) (hn : ρ nx = none) :
    ∃ v w' l', (execOp a.eval o).run P w = .ok (.value v) w' ∧ (CV.slc nx 0 (sLen + m)).R C.X (ρ.put nx l') v ∧ HRep C w1 S (ρ.put nx l') (fun c => if c = nx then some (.vec sz [] (.gen (sLen + m) (catG (fun j => cc.get (i0 + j)) g sLen))) else if c = b then none else look c) w' := by
  subst hsz
  have hone := rows_one hpos HN.len fun j hj => (HN.row j hj).1
  let o1 := l.off + (i0 + sLen) * i.size
  have hfit : o1 + news.length ≤ arr.size := by
    rw [HN.len, hasz, hes, ← hcap]
    have := Nat.mul_le_mul_right i.size (show i0 + sLen + m ≤ i0 + sCap by omega)
    rw [Nat.add_mul] at this
    omega
  have ho1 : o1 = l.off + i0 * i.size + sLen * i.size := by show l.off + (i0 + sLen) * i.size = _; rw [Nat.add_mul]; omega
  let arr2 : Array Value := (arr.toList.take o1 ++ news ++ arr.toList.drop (o1 + news.length)).toArray
  have h2 : arr2.toList = arr.toList.take o1 ++ news ++ arr.toList.drop (o1 + news.length) := rfl
  have hrow2 : RowR (CV.R C.X noRho) arr2.toList (l.off + i0 * i.size) i.size (.gen (sLen + m) (catG (fun j => cc.get (i0 + j)) g sLen)) := by
    intro j hj
    simp only [Content.size] at hj
    simp only [Content.get]
    rw [h2, List.append_assoc]
    by_cases hjn : j < sLen
    · rw [catG_lt hjn]
      have h1 := hrow (i0 + j) (by omega)
      rw [hes] at h1
      refine ⟨?_, h1.2⟩
      have h3 := Nat.mul_le_mul_right i.size (show j + 1 ≤ sLen by omega)
      rw [Nat.add_mul, Nat.one_mul] at h3
      have h4 : l.off + (i0 + j) * i.size = l.off + i0 * i.size + j * i.size := by rw [Nat.add_mul]; omega
      rw [h4] at h1
      rw [List.drop_append_of_le_length (by simp; omega), List.take_append_of_le_length (by simp; omega), List.drop_take, List.take_take, Nat.min_eq_left (by omega)]
      exact h1.1
    · rw [catG_ge (by omega)]
      have h1 := HN.row (j - sLen) (by omega)
      refine ⟨?_, h1.2⟩
      have h3 := Nat.mul_le_mul_right i.size (show (j - sLen) + 1 ≤ m by omega)
      rw [Nat.add_mul, Nat.one_mul] at h3
      have h4 : l.off + i0 * i.size + j * i.size = o1 + (j - sLen) * i.size := by
        have : j * i.size = sLen * i.size + (j - sLen) * i.size := by rw [← Nat.add_mul]; congr 1; omega
        omega
      have hl1 : (arr.toList.take o1).length = o1 := by simp; omega
      rw [h4, List.drop_append, List.drop_of_length_le (by omega), List.nil_append, hl1, show o1 + (j - sLen) * i.size - o1 = (j - sLen) * i.size by omega, List.drop_append_of_le_length (by rw [HN.len]; omega), List.take_append_of_le_length (by simp [HN.len]; omega)]
      exact h1.1
  have hsz2 : arr2.size = arr.size := by
    have : arr2.size = arr2.toList.length := by simp
    rw [this, h2]; simp; omega
  have hblk : ∀ w' : World, w'.heap[l.blk]? = some (.cells arr2 ty (0, 0)) → ∀ ρ', BlkR C ρ' ⟨l.blk, l.off + i0 * i.size, i.size, sCap, false⟩ (.vec i.size [] (.gen (sLen + m) (catG (fun j => cc.get (i0 + j)) g sLen))) w' := by
    intro w' hw' ρ'
    refine .inr ⟨⟨rfl, rfl⟩, arr2, ty, hw', by simp [RL], by simp, ?_, hroom, hrow2⟩
    simp only
    rw [hsz2, hasz, hes, ← hcap, Nat.add_mul]
    omega
  have hv : (CV.slc nx 0 (sLen + m)).R C.X (ρ.put nx ⟨l.blk, l.off + i0 * i.size, i.size, sCap, false⟩) (.slice (some A) (sLen + m) sCap) :=
    ⟨_, Rho.put_same .., .inr ⟨rfl, A, sCap, rfl, hroom, by simp, fun h => by rw [hA h, hes]; simp⟩⟩
  by_cases h0 : m = 0
  · have hnil' : news = [] := List.eq_nil_of_length_eq_zero (by rw [HN.len, h0]; simp)
    have harr2 : arr2 = arr := by
      apply Array.ext'
      rw [h2, hnil']
      simp
    have hr := fun tt => run_app_fits (P := P) (w := w) (w' := w) (ty := tt) ht hi (base := some A) (HN.lenOf w) (HN.first w fun k _ => rfl) hroom (fun a ha => by rw [hnil']; simp [storeCells]) (fun h => by cases h)
    refine ⟨_, w, _, ?_, hv, H.move hb rfl hl hnil rfl hn (hblk w (by rw [harr2]; exact harr) _)⟩
    simp only [execOp, ho, resolve, hc]
    simp [invoke, builtin, hargs, hts, hx, hy, hr]
  · have hA := hA (by omega)
    have hst := run_storeCells_at P l.blk o1 ty news 0 arr w harr (by omega) hone
    simp only [Nat.add_zero] at hst
    have hr := fun tt => run_app_fits (P := P) (w := w) (w' := w.setRow l.blk arr2) (ty := tt) ht hi (base := some A) (HN.lenOf w) (HN.first w fun k _ => rfl) hroom (fun a ha => by
      cases ha
      rw [hA, Addr.add_mid, hes, ← ho1]
      exact hst) (fun h => by cases h)
    have H1 := H.set hb rfl hl hnil (w.setRow l.blk arr2) (setRow_size _ _ _) (fun n hne => setRow_other w _ _ _ hne) ⟨rfl, rfl, rfl⟩ (sb' := .vec i.size [] (.gen 0 fun _ => [])) (by
      refine .inr ⟨⟨hnil, hes⟩, arr2, ty, setRow_heap w _ _ _ _ _ harr, by simp [RL], by simp, by rw [hsz2, hasz], by simp [Content.size], fun j hj => by simp [Content.size] at hj⟩)
    have H2 := H1.move (b := b) (nx := nx) (sb := .vec i.size [] (.gen 0 fun _ => [])) (l' := ⟨l.blk, l.off + i0 * i.size, i.size, sCap, false⟩) (by simp) rfl hl hnil rfl hn (hblk _ (setRow_heap w _ _ _ _ _ harr) _)
    refine ⟨_, w.setRow l.blk arr2, _, ?_, hv, ?_⟩
    · simp only [execOp, ho, resolve, hc]
      simp [invoke, builtin, hargs, hts, hx, hy, hr]
    · refine H2.drop fun c s hs => ?_
      by_cases h1 : c = nx
      · simpa [h1] using hs
      · by_cases h2 : c = b
        · rw [if_neg h1, if_pos h2] at hs
          cases hs
        · simpa [h1, h2] using hs

theorem ok_append {c : Call} {e : Eff} {rds : List Nat} (ho : o.op = .call c) (hc : c.callee = .builtin .append) (hev : ∀ x tv, ev x = some tv → tv.R C.X ρ (a.eval x)) (H : HRep C w1 S ρ look w)
    (hnew : ∀ j, j < e.nw.length → ρ (nx + j) = none) (h : (appE P c.argTypes.toList (getVs ev c.args.toList) nx).sem look = some (e, rds)) : OpOk P C w1 S ρ look nx o a w e := by
  unfold appE at h
  split at h
  · rename_i t t' x y hts hxy
    have hr := getVs_R hev hxy
    obtain ⟨xo, yo, hargs⟩ : ∃ xo yo, c.args = #[xo, yo] := by
      have := hr.length
      simp only [List.length_map, List.length_cons, List.length_nil] at this
      match hh : c.args.toList with
      | [xo, yo] => exact ⟨xo, yo, Array.toList_inj.1 hh⟩
      | [] => simp [hh] at this
      | [_] => simp [hh] at this
      | _ :: _ :: _ :: _ => simp [hh] at this
    rw [hargs] at hr
    obtain ⟨hx, hy, _⟩ := hr
    have hts' : c.argTypes = #[t, t'] := Array.toList_inj.1 hts
    split at h
    · rename_i el hu
      have hh := opt_sem.1 h
      clear h
      obtain ⟨sz, hz, h⟩ := hh
      have hh := opt_sem.1 h
      clear h
      obtain ⟨zc, hzz, h⟩ := hh
      have hh := opt_sem.1 h
      clear h
      obtain ⟨by_, hby, h⟩ := hh
      have hh := cond_sem.1 h
      clear h
      obtain ⟨h1, h⟩ := hh
      simp only [Bool.and_eq_true, decide_eq_true_eq] at h1
      obtain ⟨⟨⟨rfl, hpos⟩, hzl⟩, hb16⟩ := h1
      obtain ⟨i, hi, hisz⟩ := szT_info hz
      have hib : i.bytes ≤ 16384 := by
        simp only [bytesT, hi, Option.map_some, Option.some.injEq] at hby
        omega
      obtain ⟨z, hiz, hzR⟩ : ∃ z, i.zero = some z ∧ z.cells.size = sz := by
        unfold zeroT at hzz
        simp only [hi, Option.map_some] at hzz
        split at hzz
        · rename_i z hz'
          refine ⟨z, by simpa using hz', ?_⟩
          have := (cvsOf_R (X := C.X) (ρ := ρ) hzz).length
          rw [hzl] at this
          simpa using this.symm
        · cases hzz
      split at h
      · rename_i b i0 len
        have hh := cond_sem.1 h
        clear h
        obtain ⟨hyb, h⟩ := hh
        have hh := rd_sem.1 h
        clear h
        obtain ⟨s, rds', hs, h, _⟩ := hh
        split at h
        · rename_i es cc
          have hh := cond_sem.1 h
          clear h
          obtain ⟨hes, h⟩ := hh
          have hes := of_decide_eq_true hes
          subst hes
          have hh := br_sem.1 h
          clear h
          obtain ⟨hcs, h⟩ := hh
          have hcs := of_decide_eq_true hcs
          rw [addI_eq] at hcs
          have hh := srcE_held (P := P) hpos hy H h
          clear h
          obtain ⟨m, g, news, blk, rds2, h, HN, hvu, _⟩ := hh
          have hh := br_sem.1 h
          clear h
          obtain ⟨hsm, h⟩ := hh
          have hsm := of_decide_eq_true hsm
          rw [ret_sem] at h
          cases h
          have hn : ρ nx = none := by simpa using hnew 0 (by simp)
          rw [addI_eq] at hsm ⊢
          have hsub : subG cc.get i0 = fun j => cc.get (i0 + j) := by funext j; exact subG_eq ..
          rw [hsub]
          obtain ⟨l, q1, q2⟩ := hx
          obtain ⟨l', hl', hb⟩ := H.blk b _ hs
          rw [q1] at hl'
          cases hl'
          rcases q2 with ⟨hnl, hxv, rfl⟩ | ⟨hnl, A, cap, hxv, hlc, hcap, hA⟩
          · by_cases h0 : m = 0
            · subst h0
              have hr := fun tt => run_app_fits (P := P) (w := w) (w' := w) (ty := tt) hu hi (base := none) (sLen := 0) (sCap := 0) (HN.lenOf w) (hisz ▸ HN.first w fun k _ => rfl) (by omega) (fun a ha => by cases ha) (fun _ => rfl)
              refine OpOk.app (v := .slice none 0 0) (w' := w) (l := ⟨0, 0, es, 0, true⟩) ?_ hn ⟨_, Rho.put_same .., .inl ⟨rfl, rfl, rfl⟩⟩ ?_
              · simp only [execOp, ho, resolve, hc]
                simp [invoke, builtin, hargs, hts', hxv, hr]
              · rw [upd_app]
                refine (H.newNil hn (l := ⟨0, 0, es, 0, true⟩) rfl (sb := .vec es [] (.gen (0 + 0) (catG (fun j => cc.get (i0 + j)) g 0))) (.inl ⟨rfl, rfl, rfl⟩)).drop fun c s hcs => ?_
                by_cases g1 : c = nx
                · simpa [g1] using hcs
                · by_cases g2 : c = b
                  · rw [if_neg g1, if_pos g2] at hcs; cases hcs
                  · simpa [g1, g2] using hcs
            · obtain ⟨v, w', l', r1, r2, r3⟩ := app_grown (base := none) (sLen := 0) (sCap := 0) (f := fun j => cc.get (i0 + j)) (bx := none) (olds := []) ho hc hargs hts' hu hi hiz hisz hzR hpos hib hxv rfl
                ⟨by simp, fun w' _ => run_firstCells_none w' es 0 0 0, fun j h => by omega, fun w' => by simp [Builtin.lenOf]⟩ HN (by omega) hsm H hn
              refine OpOk.app r1 hn r2 ?_
              rw [upd_app]
              refine r3.drop fun c s hcs => ?_
              by_cases g1 : c = nx
              · simpa [g1] using hcs
              · by_cases g2 : c = b
                · rw [if_neg g1, if_pos g2] at hcs; cases hcs
                · simpa [g1, g2] using hcs
          · rcases hb with ⟨hn', _⟩ | ⟨⟨_, hle⟩, arr, ty, harr, _, _, hasz, hccap, hrow⟩
            · rw [hnl] at hn'; cases hn'
            · by_cases hroom : len + m ≤ cap
              · obtain ⟨v, w', l', r1, r2, r3⟩ := app_fits (i0 := i0) ho hc hargs hts' hu hi hisz hpos hxv rfl HN hroom hlc hs q1 hnl hle harr hasz hrow hcap hA hcs H hn
                refine OpOk.app r1 hn r2 ?_
                rw [upd_app]
                exact r3
              · rw [hle] at hrow hA
                by_cases hl0 : len = 0
                · subst hl0
                  obtain ⟨v, w', l', r1, r2, r3⟩ := app_grown (f := fun j => cc.get (i0 + j)) (bx := none) (olds := []) ho hc hargs hts' hu hi hiz hisz hzR hpos hib hxv rfl
                    ⟨by simp, fun w' _ => run_firstCells_some (P := P) w' es 0 A 0 cap [] (by simp) (fun j v h => by simp at h), fun j h => by omega, fun w' => by simp [Builtin.lenOf]⟩ HN (by omega) hsm H hn
                  refine OpOk.app r1 hn r2 ?_
                  rw [upd_app]
                  refine r3.drop fun c s hcs => ?_
                  by_cases g1 : c = nx
                  · simpa [g1] using hcs
                  · by_cases g2 : c = b
                    · rw [if_neg g1, if_pos g2] at hcs; cases hcs
                    · simpa [g1, g2] using hcs
                · obtain ⟨olds, HO⟩ := held_row (P := P) (cap := cap) hpos harr hrow (by omega) (i0 := i0) (m := len) (A := A) (fun _ => hA (by omega))
                  obtain ⟨v, w', l', r1, r2, r3⟩ := app_grown ho hc hargs hts' hu hi hiz hisz hzR hpos hib hxv rfl HO HN (by omega) hsm H hn
                  refine OpOk.app r1 hn r2 ?_
                  rw [upd_app]
                  refine r3.drop fun c s hcs => ?_
                  by_cases g1 : c = nx
                  · simpa [g1] using hcs
                  · by_cases g2 : c = b
                    · rw [if_neg g1, if_pos g2] at hcs; cases hcs
                    · simpa [g1, g2] using hcs
        · cases fail_sem.1 h
      · obtain ⟨m, g, news, blk, rds2, h, HN, hvu, _⟩ := srcE_held (P := P) hpos hy H h
        have hh := br_sem.1 h
        clear h
        obtain ⟨hsm, h⟩ := hh
        have hsm := of_decide_eq_true hsm
        rw [ret_sem] at h
        cases h
        have hn : ρ nx = none := by simpa using hnew 0 (by simp)
        have hxv : a.eval xo = .slice none 0 0 := hx
        by_cases h0 : m = 0
        · subst h0
          have hr := fun tt => run_app_fits (P := P) (w := w) (w' := w) (ty := tt) hu hi (base := none) (sLen := 0) (sCap := 0) (HN.lenOf w) (hisz ▸ HN.first w fun k _ => rfl) (by omega) (fun a ha => by cases ha) (fun _ => rfl)
          refine OpOk.app (v := .slice none 0 0) (w' := w) (l := ⟨0, 0, sz, 0, true⟩) ?_ hn ⟨_, Rho.put_same .., .inl ⟨rfl, rfl, rfl⟩⟩ ?_
          · simp only [execOp, ho, resolve, hc]
            simp [invoke, builtin, hargs, hts', hxv, hr]
          · rw [upd_new]
            exact H.newNil hn (l := ⟨0, 0, sz, 0, true⟩) rfl (.inl ⟨rfl, rfl, rfl⟩)
        · obtain ⟨v, w', l', r1, r2, r3⟩ := app_grown (base := none) (sLen := 0) (sCap := 0) (f := g) (bx := none) (olds := []) ho hc hargs hts' hu hi hiz hisz hzR hpos hib hxv rfl
            ⟨by simp, fun w' _ => run_firstCells_none w' sz 0 0 0, fun j h => by omega, fun w' => by simp [Builtin.lenOf]⟩ HN (by omega) (by omega) H hn
          simp only [Nat.zero_add] at r2 r3
          refine OpOk.app r1 hn r2 ?_
          rw [upd_new]
          exact r3
      · cases fail_sem.1 h
    · cases fail_sem.1 h
  · cases fail_sem.1 h

end
end Go.Proofs.YtkkacjmjjhjpeaaDoor.Sx

namespace Go.Proofs.YtkkacjmjjhjpeaaDoor.Sx
open Go

section
variable {P : Program} {C : Ctx} {w1 : World} {S : Nat → Prop} {ρ : Rho} {look : Look} {nx : Nat} {o : Oper} {a : Act} {w : World} {ev : Operand → Option TV}

theorem evalOp0_sound {Su : Sums} (hS : SumsOk P Su) (hev : ∀ x tv, ev x = some tv → tv.R C.X ρ (a.eval x)) (H : HRep C w1 S ρ look w) {e : Eff} {rds : List Nat}
    (hnew : ∀ j, j < e.nw.length → ρ (nx + j) = none) (hs : (evalOp0 P Su o ev nx).sem look = some (e, rds)) : OpOk P C w1 S ρ look nx o a w e := by
  unfold evalOp0 at hs
  split at hs
  · rename_i x ho; exact ok_move (.inl ho) hev H hs
  · rename_i x ho; exact ok_move (.inr ho) hev H hs
  · rename_i c x y ho
    split at hs
    · rename_i t hc; exact ok_pick ho hev H hc hs
    · cases fail_sem.1 hs
  · rename_i t ho
    obtain ⟨cs, h1, h2⟩ := opt_sem.1 hs
    rw [ret_sem] at h2; cases h2
    exact ok_alloc ho H (by simpa using hnew 0 (by simp)) h1
  · rename_i t x ho
    obtain ⟨v, h1, h2⟩ := opt_sem.1 hs
    obtain ⟨h3, h4⟩ := cond_sem.1 h2
    rw [ret_sem] at h4; cases h4
    exact ok_box ho hev H (by simpa using hnew 0 (by simp)) h1 h3
  · rename_i t parts ho
    obtain ⟨z, h1, h2⟩ := opt_sem.1 hs
    obtain ⟨g, h3, h4⟩ := opt_sem.1 h2
    obtain ⟨h5, h6⟩ := cond_sem.1 h4
    obtain ⟨cs, h7, h8⟩ := opt_sem.1 h6
    rw [pure_sem] at h8; cases h8
    simp only [Bool.and_eq_true] at h5
    exact ok_build ho hev H h1 h7 h5.2
  · rename_i t n parts ho
    refine ok_buildSlice ho hev H ?_ hs
    unfold buildSliceE at hs
    split at hs
    · obtain ⟨sz, hz, h⟩ := opt_sem.1 hs
      obtain ⟨z, hzz, h⟩ := opt_sem.1 h
      obtain ⟨h1, h⟩ := cond_sem.1 h
      obtain ⟨cs, hp, h⟩ := opt_sem.1 h
      obtain ⟨h2, h⟩ := cond_sem.1 h
      rw [ret_sem] at h
      cases h
      simpa using hnew 0 (by simp)
    · cases fail_sem.1 hs
  · rename_i t x lo hi ho
    exact ok_slice ho hev H hs
  · rename_i t x ho
    obtain ⟨v, h1, h2⟩ := opt_sem.1 hs
    obtain ⟨sz, h3, h4⟩ := opt_sem.1 h2
    obtain ⟨g, h5, h6⟩ := opt_sem.1 h4
    obtain ⟨h7, h8⟩ := cond_sem.1 h6
    exact ok_load ho hev H h1 h5 h3 h7 h8
  · rename_i t x y ho
    obtain ⟨v, h1, h2⟩ := opt_sem.1 hs
    obtain ⟨u, h3, h4⟩ := opt_sem.1 h2
    obtain ⟨sz, h5, h6⟩ := opt_sem.1 h4
    exact ok_store ho hev H h1 h3 h5 h6
  · rename_i x ho
    obtain ⟨v, h1, h2⟩ := opt_sem.1 hs
    split at h2
    · rw [cv_sem] at h2; cases h2; exact ok_nilCheck ho hev H h1 (.inl ⟨_, _, rfl⟩)
    · rw [cv_sem] at h2; cases h2; exact ok_nilCheck ho hev H h1 (.inr (.inl ⟨_, _, _, rfl⟩))
    · rw [cv_sem] at h2; cases h2; exact ok_nilCheck ho hev H h1 (.inr (.inr ⟨_, rfl⟩))
    · cases fail_sem.1 h2
  · rename_i op t x y yt ho
    obtain ⟨u, h1, h2⟩ := opt_sem.1 hs
    obtain ⟨v, h3, h4⟩ := opt_sem.1 h2
    split at h4
    · split at h4
      · rename_i hb; rw [cv_sem] at h4; cases h4; exact ok_binBool ho hev H h1 h3 hb (.inl ⟨rfl, rfl⟩)
      · rename_i hb; rw [cv_sem] at h4; cases h4; exact ok_binBool ho hev H h1 h3 hb (.inr ⟨rfl, rfl⟩)
      · cases fail_sem.1 h4
    · split at h4
      · rename_i hb; rw [cv_sem] at h4; cases h4; exact ok_ptrNil ho hev H h1 h3 hb (.inl ⟨rfl, rfl⟩)
      · rename_i hb; rw [cv_sem] at h4; cases h4; exact ok_ptrNil ho hev H h1 h3 hb (.inr ⟨rfl, rfl⟩)
      · cases fail_sem.1 h4
    · split at h4
      · rename_i hb; rw [cv_sem] at h4; cases h4; exact ok_nilNil ho hev H h1 h3 hb (.inl ⟨rfl, rfl⟩)
      · rename_i hb; rw [cv_sem] at h4; cases h4; exact ok_nilNil ho hev H h1 h3 hb (.inr ⟨rfl, rfl⟩)
      · cases fail_sem.1 h4
    · obtain ⟨r, h5, h6⟩ := opt_sem.1 h4
      rw [cv_sem] at h6; cases h6
      exact ok_bin ho hev H h1 h3 h5
    · split at h4
      · obtain ⟨ks, h5, h6⟩ := opt_sem.1 h4
        obtain ⟨h7, h8⟩ := cond_sem.1 h6
        obtain ⟨r, h9, h10⟩ := opt_sem.1 h8
        rw [cv_sem] at h10; cases h10
        simp only [Bool.and_eq_true, Bool.not_eq_true', decide_eq_true_eq] at h7
        exact (ok_eqAgg ho hev H h1 h3 h5 h7.2 h9 h7.1).1 rfl
      · obtain ⟨ks, h5, h6⟩ := opt_sem.1 h4
        obtain ⟨h7, h8⟩ := cond_sem.1 h6
        obtain ⟨r, h9, h10⟩ := opt_sem.1 h8
        rw [cv_sem] at h10; cases h10
        simp only [Bool.and_eq_true, Bool.not_eq_true', decide_eq_true_eq] at h7
        exact (ok_eqAgg ho hev H h1 h3 h5 h7.2 h9 h7.1).2 rfl
      · cases fail_sem.1 h4
    · cases fail_sem.1 h4
  · rename_i t x ho
    split at hs
    · rename_i b hb; rw [cv_sem] at hs; cases hs; exact ok_not ho hev H hb
    · cases fail_sem.1 hs
  · rename_i t x ho
    split at hs
    · rename_i k n hb; rw [cv_sem] at hs; cases hs; exact ok_neg ho hev H hb
    · cases fail_sem.1 hs
  · rename_i src dst x ho
    split at hs
    · rename_i k n k1 k' h1 h2 h3; rw [cv_sem] at hs; cases hs; exact ok_conv ho hev H h1 h2 h3
    · cases fail_sem.1 hs
  · rename_i t x f ho
    split at hs
    · rename_i b k off ft h1 h2
      split at hs
      · rename_i n hz; rw [cv_sem] at hs; cases hs; exact ok_fieldAddr ho hev H h1 h2 hz
      · cases fail_sem.1 hs
    · rename_i b i k off ft h1 h2
      split at hs
      · rename_i n hz; rw [cv_sem] at hs; cases hs; exact ok_fieldAddrE ho hev H h1 h2 hz
      · cases fail_sem.1 hs
    · cases fail_sem.1 hs
  · rename_i t x i ho
    split at hs
    · rename_i b k kd n len el h1 h2 h3
      split at hs
      · rename_i sz hz
        obtain ⟨h4, h5⟩ := cond_sem.1 hs
        cases hsz : decide (sz = 1) with
        | true =>
          simp only [hsz, cond_true] at h5
          obtain ⟨h6, h7⟩ := br_sem.1 h5
          rw [cv_sem] at h7; cases h7
          have := of_decide_eq_true hsz
          subst this
          simp only [Bool.and_eq_true, decide_eq_true_eq] at h6
          exact ok_indexAddrI ho hev H h1 h2 (arrT_run h3) hz h6.1 h6.2
        | false =>
          simp only [hsz, cond_false] at h5
          obtain ⟨j, _, hj, rfl, h6⟩ := idxTree_sem h5
          rw [cv_sem] at h6; cases h6
          exact ok_indexAddr ho hev H h1 h2 h3 hz (by omega)
      · cases fail_sem.1 hs
    · rename_i b i0 len kd n h1 h2
      split at hs
      · rename_i el ht
        obtain ⟨sz, hz, h4⟩ := opt_sem.1 hs
        obtain ⟨h5, h6⟩ := br_sem.1 h4
        simp only [Bool.and_eq_true, decide_eq_true_eq] at h5
        obtain ⟨s, m, hl, h7, _⟩ := rd_sem.1 h6
        split at h7
        · rename_i es pre c
          obtain ⟨h10, h11⟩ := cond_sem.1 h7
          rw [cv_sem] at h11; cases h11
          have := of_decide_eq_true h10
          subst this
          exact ok_indexAddrS ho hev H h1 h2 ht hz h5.1 h5.2 hl (.inr ⟨pre, rfl⟩)
        · rename_i es c
          obtain ⟨h10, h11⟩ := cond_sem.1 h7
          rw [cv_sem] at h11; cases h11
          have := of_decide_eq_true h10
          subst this
          exact ok_indexAddrS ho hev H h1 h2 ht hz h5.1 h5.2 hl (.inl rfl)
        · cases fail_sem.1 h7
      · cases fail_sem.1 hs
    · cases fail_sem.1 hs
  · rename_i t x i ho
    split at hs
    · rename_i cs kd n len el h1 h2 h3
      split at hs
      · rename_i sz g hz hg
        obtain ⟨h4, h5⟩ := cond_sem.1 hs
        simp only [Bool.and_eq_true, decide_eq_true_eq] at h4
        cases hsz : (!g && decide (sz = 1)) with
        | true =>
          simp only [hsz, cond_true] at h5
          obtain ⟨h6, h7⟩ := br_sem.1 h5
          simp only [Bool.and_eq_true, Bool.not_eq_true', decide_eq_true_eq] at hsz h6
          obtain ⟨rfl, rfl⟩ := hsz
          have hn : n = ((n.toNat : Nat) : Int) := by omega
          obtain ⟨y, hy, rfl, rfl⟩ := selE_sem (i := n.toNat) hn (by simp; omega) h7
          rw [hn] at h2
          refine ok_index ho hev H h1 h2 h3 hz hg rfl (by omega) h4.2 ?_
          rw [List.getElem?_take_of_lt (by omega)] at hy
          rw [Nat.mul_one, List.take_one, List.head?_drop, hy]
          rfl
        | false =>
          simp only [hsz, cond_false] at h5
          obtain ⟨j, _, hj, rfl, h6⟩ := idxTree_sem h5
          obtain ⟨h7, h8⟩ := cond_sem.1 h6
          obtain ⟨v, hv, rfl, rfl⟩ := mkSV_sem h8
          exact ok_index ho hev H h1 h2 h3 hz hg h7 (by omega) h4.2 hv
      · cases fail_sem.1 hs
    · cases fail_sem.1 hs
  · rename_i t x f ho
    split at hs
    · rename_i cs off ft h1 h2
      split at hs
      · rename_i sz g hz hg
        obtain ⟨h4, h5⟩ := cond_sem.1 hs
        obtain ⟨v, hv, rfl, rfl⟩ := mkSV_sem h5
        simp only [Bool.and_eq_true, decide_eq_true_eq] at h4
        exact ok_field ho hev H h1 h2 hz hg h4.1 h4.2 hv
      · cases fail_sem.1 hs
    · cases fail_sem.1 hs
  · rename_i x i ho
    split at hs
    · rename_i l h1
      split at hs
      · rename_i v h2; rw [pure_sem] at hs; cases hs; exact ok_extract ho hev H h1 h2
      · cases fail_sem.1 hs
    · cases fail_sem.1 hs
  · rename_i t ho
    rw [ret_sem] at hs; cases hs
    exact ok_makeMap ho H (by simpa using hnew 0 (by simp))
  · rename_i t m k v ho
    split at hs
    · rename_i b n x kt et h1 h2 h3 h4
      split at hs
      · rename_i h5
        obtain ⟨sb, l, h6, h7, rfl⟩ := rd_sem.1 hs
        split at h7
        · rw [ret_sem] at h7; cases h7
          exact ok_insert0 ho hev H h1 h2 h3 h4 h5 h6
        · obtain ⟨h8, h9⟩ := cond_sem.1 h7
          rw [ret_sem] at h9; cases h9
          exact ok_insert ho hev H h1 h2 h3 h4 h5 h6 h8
        · cases fail_sem.1 h7
      · cases fail_sem.1 hs
    · cases fail_sem.1 hs
  · rename_i t m k v ho
    split at hs
    · rename_i b n x kt et h1 h2 h3 h4
      split at hs
      · rename_i h5
        obtain ⟨sb, l, h6, h7, rfl⟩ := rd_sem.1 hs
        split at h7
        · rw [ret_sem] at h7; cases h7
          exact ok_mapUpdate ho hev H h1 h2 h3 h4 h5 h6
        · cases fail_sem.1 h7
      · cases fail_sem.1 hs
    · cases fail_sem.1 hs
  · rename_i t m ho
    split at hs
    · rename_i b kt et h1 h4
      obtain ⟨sb, l, h6, h7, rfl⟩ := rd_sem.1 hs
      split at h7
      · rw [ret_sem] at h7; cases h7
        exact ok_range ho hev H (by simpa using hnew 0 (by simp)) h1 h4 h6
      · cases fail_sem.1 h7
    · cases fail_sem.1 hs
  · rename_i t m k ok ho
    split at hs
    · rename_i b n kt et h1 h2 h4
      split at hs
      · rename_i z h5 h8
        split at hs
        · rename_i h9
          obtain ⟨sb, l, h6, h7, rfl⟩ := rd_sem.1 hs
          split at h7
          · have key := ok_lookup (nx := nx) (w1 := w1) (S := S) (ok := ok) ho hev H h1 h2 h4 h5 h8 h9 h6
            cases ok with
            | true => rw [cond_true, pure_sem] at h7; cases h7; exact key
            | false => rw [cond_false, cv_sem] at h7; cases h7; exact key
          · exact ok_lookupB ho hev H h1 h2 h4 h5 h8 h9 h6 h7
          · cases fail_sem.1 h7
        · rename_i zc h9
          obtain ⟨sb, l, h6, h7, rfl⟩ := rd_sem.1 hs
          split at h7
          · exact ok_lookupB ho hev H h1 h2 h4 h5 h8 h9 h6 h7
          · cases fail_sem.1 h7
        · cases fail_sem.1 hs
      · cases fail_sem.1 hs
    · cases fail_sem.1 hs
  · rename_i c ho
    split at hs
    · rename_i f hc
      split at hs
      · rename_i g args h1 h2
        split at hs
        · rename_i s h3
          exact ok_call ho hc hev H h1 h2 (hS.find h3) hnew hs
        · cases fail_sem.1 hs
      · cases fail_sem.1 hs
    · rename_i hc
      exact ok_len ho hc hev H hs
    · rename_i hc
      exact ok_append ho hc hev H hnew hs
    · rename_i hc
      split at hs
      · rename_i x r h1; rw [cv_sem] at hs; cases hs; exact ok_max ho hc hev H h1
      · cases fail_sem.1 hs
    · rename_i hc
      split at hs
      · rename_i x r h1; rw [cv_sem] at hs; cases hs; exact ok_min ho hc hev H h1
      · cases fail_sem.1 hs
    · cases fail_sem.1 hs
  · cases fail_sem.1 hs

/-! ### Strings, shifts, made rows -/
theorem strBin_run {op : BinOp} {t yt : TypeId} {x y : Operand} {c d : CV} {tr : Tr Eff} {e : Eff} {rds : List Nat} (ho : o.op = .binOp op t x y yt) (hev : ∀ x tv, ev x = some tv → tv.R C.X ρ (a.eval x)) (H : HRep C w1 S ρ look w)
    (hx : getC ev x = some c) (hy : getC ev y = some d) (h : strBin op c d = some tr) (hs : tr.sem look = some (e, rds)) : OpOk P C w1 S ρ look nx o a w e := by
  have h1 := getC_R hev hx
  have h2 := getC_R hev hy
  unfold strBin at h
  split at h
  · rename_i s u
    have h1 : a.eval x = .string s := h1
    have h2 : a.eval y = .string u := h2
    split at h
    · cases h
      obtain ⟨hb, hs⟩ := br_sem.1 hs
      rw [cv_sem] at hs; cases hs
      have hb := of_decide_eq_true hb
      refine OpOk.value (v := .string (s ++ u)) ?_ rfl H
      simp only [execOp, ho]
      refine ok_value1 ?_
      rw [h1, h2]
      have : ¬ (((s.size + u.size : Nat) : Int) > IntKind.i64.max) := by
        show ¬ (((s.size + u.size : Nat) : Int) > 9223372036854775807)
        omega
      simp only [eqGuard, binOp, Op.stringOp, this, if_false]
      simp
    · cases h
  · rename_i k n k' m
    have h1 : a.eval x = .int k n := h1
    have h2 : a.eval y = .int k' m := h2
    split at h
    · cases h
      obtain ⟨hk, hs2⟩ := cond_sem.1 hs
      clear hs
      have hk := of_decide_eq_true hk
      subst hk
      obtain ⟨hb, hs⟩ := br_sem.1 hs2
      rw [cv_sem] at hs; cases hs
      have hb : m ≠ 0 := by simpa using hb
      refine OpOk.value (v := .int k (k.wrap (n.tdiv m))) ?_ rfl H
      simp only [execOp, ho]
      refine ok_value1 ?_
      rw [h1, h2]
      simp [eqGuard, binOp, Op.intDiv, hb]
    · cases h
      obtain ⟨hk, hs2⟩ := cond_sem.1 hs
      clear hs
      have hk := of_decide_eq_true hk
      subst hk
      obtain ⟨hb, hs⟩ := br_sem.1 hs2
      rw [cv_sem] at hs; cases hs
      have hb : m ≠ 0 := by simpa using hb
      refine OpOk.value (v := .int k (n.tmod m)) ?_ rfl H
      simp only [execOp, ho]
      refine ok_value1 ?_
      rw [h1, h2]
      simp [eqGuard, binOp, Op.intDiv, hb]
    · cases h
      obtain ⟨hb, hs⟩ := br_sem.1 hs
      rw [cv_sem] at hs; cases hs
      have hb := of_decide_eq_true hb
      refine OpOk.value (v := .int k (n.fdiv (2 ^ min m.toNat k.bits))) ?_ rfl H
      simp only [execOp, ho]
      refine ok_value1 ?_
      rw [h1, h2]
      have : ¬ m < 0 := by omega
      simp [eqGuard, binOp, Op.shift, this]
    · cases h
      obtain ⟨hk, hs2⟩ := cond_sem.1 hs
      clear hs
      have hk := of_decide_eq_true hk
      subst hk
      rw [cv_sem] at hs2; cases hs2
      refine OpOk.value (v := .int k (k.wrap ((BitVec.ofInt k.bits n &&& BitVec.ofInt k.bits m).toNat))) ?_ rfl H
      simp only [execOp, ho]
      refine ok_value1 ?_
      rw [h1, h2]
      simp [eqGuard, binOp, Op.intBits]
    · cases h
  · cases h
theorem bytesOk_spec {g : Nat → List CV} : ∀ {n i : Nat}, bytesOk g i n = true → ∀ j, j < n → g (i + j) = [.int .u8 (byteOf (g (i + j)))]
  | 0, _, _, j, hj => by omega
  | n + 1, i, h, j, hj => by
    simp only [bytesOk, Bool.and_eq_true] at h
    cases j with
    | zero =>
      have h0 := h.1
      rw [Nat.add_zero]
      unfold isByte at h0
      split at h0
      · rename_i hb; rw [hb]; rfl
      · cases h0
    | succ j =>
      have := bytesOk_spec h.2 j (by omega)
      rwa [show i + 1 + j = i + (j + 1) by omega] at this
theorem strOp_sound {tr : Tr Eff} (hev : ∀ x tv, ev x = some tv → tv.R C.X ρ (a.eval x)) (H : HRep C w1 S ρ look w) {e : Eff} {rds : List Nat}
    (hnew : ∀ j, j < e.nw.length → ρ (nx + j) = none) (h : strOp P o ev nx = some tr) (hs : tr.sem look = some (e, rds)) : OpOk P C w1 S ρ look nx o a w e := by
  unfold strOp at h
  split at h
  · rename_i op t x y yt ho
    split at h
    · rename_i c d h1 h2; exact strBin_run ho hev H h1 h2 h hs
    · cases h
  · rename_i t x lo hi ho
    split at h
    · rename_i s h1 ht
      cases h
      obtain ⟨l, hlo, hs⟩ := opt_sem.1 hs
      obtain ⟨r, hhi, hs⟩ := opt_sem.1 hs
      obtain ⟨hb, hs⟩ := br_sem.1 hs
      rw [cv_sem] at hs; cases hs
      simp only [Bool.and_eq_true, decide_eq_true_eq] at hb
      obtain ⟨⟨b1, b2⟩, b3⟩ := hb
      have hx : a.eval x = .string s := getC_R hev h1
      refine OpOk.value (v := .string (s.extract l.toNat r.toNat)) ?_ rfl H
      simp only [execOp, ho]
      refine ok_value1 ?_
      rw [hx]
      have gl : ∀ q : Nat, r.toNat = q → (match lo.map a.eval with
          | some v => Instr.sliceBound v q .sliceB
          | none => (pure 0 : Sem Nat)).run P w = .ok l.toNat w := by
        intro q hq
        rcases optI_R hev hlo with ⟨rfl, rfl⟩ | ⟨y, k, rfl, hy⟩
        · simp
        · exact sliceBound_run hy b1 (by omega)
      have hbnd : (Instr.sliceBounds false s.size s.size (lo.map a.eval) (hi.map a.eval) none).run P w = .ok (l.toNat, r.toNat, s.size) w := by
        unfold Instr.sliceBounds
        simp only [Sem.run_bind, Sem.run_pure, Result.andThen_ok]
        cases hi with
        | none =>
          simp only [optI, Option.some.injEq] at hhi
          have := gl s.size (by omega)
          cases lo with
          | none => simp only [Option.map_none, Sem.run_pure, Result.ok.injEq, and_true] at this ⊢; simp [this]; omega
          | some y => simp only [Option.map_some, Option.map_none] at this ⊢; simp [this]; omega
        | some y =>
          rcases optI_R hev hhi with ⟨h, _⟩ | ⟨y', k, hy', hy⟩
          · cases h
          · cases hy'
            have gh : (Instr.sliceBound (a.eval y) s.size .sliceAlen).run P w = .ok r.toNat w := sliceBound_run hy (by omega) (by omega)
            have := gl r.toNat rfl
            cases lo with
            | none => simp only [Option.map_none, Sem.run_pure, Result.ok.injEq, and_true] at this; simp [gh, this]
            | some y => simp only [Option.map_some] at this; simp [gh, this]
      simp [Instr.sliceAt, Instr.slice, run_underlying ht, hbnd]
    · rename_i b k n e' h1 ht
      cases h
      obtain ⟨hc, hs⟩ := cond_sem.1 hs
      rw [cv_sem] at hs; cases hs
      simp only [Bool.and_eq_true, Option.isNone_iff_eq_none, decide_eq_true_eq] at hc
      obtain ⟨⟨⟨rfl, rfl⟩, hn⟩, hz⟩ := hc
      obtain ⟨l, q1, q2⟩ := getC_R hev h1
      refine OpOk.value (v := .slice (some ⟨l.blk, k, none⟩) n n) ?_ ⟨l, q1, rfl⟩ H
      simp only [execOp, ho]
      refine ok_value1 ?_
      rw [q2]
      simp [Instr.sliceAt, run_underlying ht, Instr.sureAddr, Instr.sliceBounds, run_sizeOf hz, Addr.add_mid]
    · cases h
  · rename_i t x i ho
    split at h
    · rename_i s k n h1 h2 ht
      cases h
      obtain ⟨hb, hs⟩ := br_sem.1 hs
      rw [cv_sem] at hs; cases hs
      simp only [Bool.and_eq_true, decide_eq_true_eq] at hb
      have hx : a.eval x = .string s := getC_R hev h1
      have hi : a.eval i = .int k n := getC_R hev h2
      refine OpOk.value (v := .int .u8 ((s.data.toList.getD n.toNat 0).toNat : Int)) ?_ rfl H
      simp only [execOp, ho]
      refine ok_value1 ?_
      rw [hx, hi, run_index_string _ _ _ _ _ ht, dif_pos hb]
      have hlt : n.toNat < s.size := by omega
      have : s[n.toNat] = s.data.toList.getD n.toNat 0 := by
        have h2 : n.toNat < s.data.size := hlt
        rw [List.getD_eq_getElem?_getD, List.getElem?_eq_getElem (by simpa using h2)]
        rfl
      rw [this]
    · cases h
  · rename_i t l c ho
    split at h
    · rename_i k n k' m el h1 h2 ht
      cases h
      obtain ⟨sz, hz, hs⟩ := opt_sem.1 hs
      obtain ⟨z, hzz, hs⟩ := opt_sem.1 hs
      obtain ⟨by_, hby, hs⟩ := opt_sem.1 hs
      obtain ⟨hc, hs⟩ := cond_sem.1 hs
      obtain ⟨hb, hs⟩ := br_sem.1 hs
      rw [ret_sem] at hs; cases hs
      simp only [Bool.and_eq_true, decide_eq_true_eq] at hc hb
      obtain ⟨⟨⟨c1, c2⟩, c3⟩, c4⟩ := hc
      obtain ⟨⟨rfl, b2⟩, b3⟩ := hb
      have hl : a.eval l = .int k n := getC_R hev h1
      have hcp : a.eval c = .int k' n := getC_R hev h2
      obtain ⟨i, hi, hsz⟩ := szT_info hz
      have hbytes : i.bytes = by_ := by
        unfold bytesT at hby
        rw [hi] at hby
        simpa using hby
      obtain ⟨zv, hzi, g2⟩ : ∃ zv, i.zero = some zv ∧ RL (CV.R C.X ρ) z zv.cells.toList := by
        unfold zeroT at hzz
        rw [hi] at hzz
        cases hzi : i.zero with
        | none => simp [hzi] at hzz
        | some zv =>
          simp only [Option.map_some, hzi] at hzz
          exact ⟨zv, rfl, cvsOf_R hzz⟩
      have hzs : zv.cells.size = sz := by have := g2.length; simp at this; omega
      have hmul : (i.bytes : Int) * n ≤ 281474976710656 := by
        rw [hbytes]
        have h1 : (by_ : Int) * n ≤ (16384 : Int) * n := Int.mul_le_mul_of_nonneg_right (by omega) b2
        omega
      have hrun := run_make (P := P) w t el i zv ht hi hzi k k' n n b2 (Int.le_refl _) hmul (by omega)
      rw [hsz] at hrun
      have hnx : ρ nx = none := by simpa using hnew 0 (by simp)
      have hrow : RL (CV.R C.X ρ) (repN n.toNat sz z) (madeCells zv.cells (n.toNat * sz)).toList := by
        unfold repN madeCells
        rw [Array.toList_map, Array.toList_range]
        refine RL.map_same fun i _ => ?_
        have hlt : i % sz < z.length := by rw [c2]; exact Nat.mod_lt _ c1
        obtain ⟨u, q1, q2⟩ := g2.get (i % sz) z[i % sz] (List.getElem?_eq_getElem hlt)
        rw [List.getD_eq_getElem?_getD, List.getElem?_eq_getElem hlt, hzs]
        rw [Array.getElem?_toList] at q1
        simp only [Option.getD_some, Array.getElem!_eq_getD, Array.getD_eq_getD_getElem?, q1]
        exact q2
      have hrep : ∀ j, j < n.toNat → rowGet sz (repN n.toNat sz z) j = z := by
        intro j hj
        have hjb : j * sz + sz ≤ n.toNat * sz := by
          have := Nat.mul_le_mul_right sz (show j + 1 ≤ n.toNat by omega)
          rw [Nat.add_mul, Nat.one_mul] at this; exact this
        unfold rowGet repN
        refine List.ext_getElem (by simp [c2]; omega) fun q h1 h2 => ?_
        simp only [List.getElem_take, List.getElem_drop, List.getElem_map, List.getElem_range]
        have hq : (j * sz + q) % sz = q := by rw [Nat.mul_comm, Nat.mul_add_mod]; exact Nat.mod_eq_of_lt (by omega)
        rw [hq, List.getD_eq_getElem?_getD, List.getElem?_eq_getElem h2]; rfl
      have hplain : (repN n.toNat sz z).all CV.plain = true := by
        rw [List.all_eq_true]
        intro x hx
        unfold repN at hx
        obtain ⟨q, hq, rfl⟩ := List.mem_map.1 hx
        have hlt : q % sz < z.length := by rw [c2]; exact Nat.mod_lt _ c1
        rw [List.getD_eq_getElem?_getD, List.getElem?_eq_getElem hlt]
        exact (List.all_eq_true.1 c4) _ (List.getElem_mem hlt)
      refine OpOk.new (l := ⟨w.heap.size, 0, sz, n.toNat, false⟩) (v := .slice (some ⟨w.heap.size, 0, none⟩) n.toNat n.toNat) (ob := .cells (madeCells zv.cells (n.toNat * sz)) el) ?_ hnx rfl ⟨_, Rho.put_same .., .inr ⟨rfl, _, n.toNat, rfl, Nat.le_refl _, by simp, fun _ => by simp⟩⟩ ?_ H
      · simp only [execOp, ho]
        rw [Sem.run_bind, hl, hcp, hrun]
        rfl
      · refine .inr ⟨⟨rfl, rfl⟩, _, el, heap_alloc_at .., by simp [RL], by simp, by simp [size_madeCells], Nat.le_refl _, ?_⟩
        intro j hj
        simp only [Content.size] at hj
        have hjb : j * sz + sz ≤ n.toNat * sz := by
          have := Nat.mul_le_mul_right sz (show j + 1 ≤ n.toNat by omega)
          rw [Nat.add_mul, Nat.one_mul] at this; exact this
        refine ⟨?_, by simp [Content.get, c2]⟩
        have := ((RL.plain hplain hrow).drop (j * sz)).take sz
        have e := hrep j hj
        unfold rowGet at e
        rw [e] at this
        simpa [Content.get] using this
    · cases h
  · rename_i src dst x ho
    split at h
    · rename_i b i n el h1 hsrc hdst
      split at h
      · rename_i hel
        cases h
        obtain ⟨sb, m, hl, hs, _⟩ := rd_sem.1 hs
        split at hs
        · rename_i pre c
          obtain ⟨hb, hs⟩ := br_sem.1 hs
          rw [cv_sem] at hs; cases hs
          simp only [Bool.and_eq_true, decide_eq_true_eq] at hb
          obtain ⟨b1, b2⟩ := hb
          rw [addI_eq] at b1
          have hbs := bytesOk_spec b2
          obtain ⟨l, q1, q2⟩ := getC_R hev h1
          obtain ⟨l', hl', hblk⟩ := H.blk b _ hl
          rw [q1] at hl'
          cases hl'
          refine OpOk.value (v := .string (strOfNums (bytesAt c.get i n))) ?_ rfl H
          simp only [execOp, ho]
          refine ok_value1 ?_
          have hz : n = 0 → strOfNums (bytesAt c.get i n) = ByteArray.empty := by rintro rfl; rfl
          rcases q2 with ⟨_, hxv, h0⟩ | ⟨hn, A, cap, hxv, hlc, hcap, hA⟩
          · rw [hxv, hz h0]
            exact run_convert_bytes_nil w src el hsrc hel 0 0 dst hdst
          · rw [hxv]
            by_cases h0 : n = 0
            · rw [hz h0]
              subst h0
              rw [run_convert_bytes_string w src dst el _ 0 cap hsrc hel hdst, run_bytesToString w A 0 cap [] (by simp [loadCells, loadCellsFrom])]
              rfl
            · rcases hblk with ⟨hnl, _⟩ | ⟨⟨_, hes⟩, arr, ty, hh, _, _, _, _, hrow⟩
              · rw [hn] at hnl; cases hnl
              · rw [hA (by omega)]
                have key : ∀ j, j < n → arr[l.off + i * l.es + j]? = some (Value.int .u8 (byteOf (c.get (i + j)))) := by
                  intro j hj
                  obtain ⟨r1, r2⟩ := hrow (i + j) (by omega)
                  rw [hbs j hj, hes] at r1
                  obtain ⟨v, us, e1, e2, e3⟩ := r1.cons_inv
                  have e2 : v = .int .u8 (byteOf (c.get (i + j))) := e2
                  have hd : (arr.toList.drop (l.off + (i + j) * 1))[0]? = some v := by
                    have := congrArg (fun q => q[0]?) e1
                    simpa [List.getElem?_take] using this
                  rw [List.getElem?_drop, Array.getElem?_toList] at hd
                  rw [hes, ← e2, ← hd]
                  congr 1
                  omega
                refine (run_convert_bytes_arg w src el hsrc hel l.blk (l.off + i * l.es) n cap (bytesAt c.get i n) (by simp [bytesAt]) ?_ dst hdst)
                intro j hj
                simp only [World.cell?, hh]
                have := key j hj
                simp only [bytesAt, List.getD_eq_getElem?_getD, List.getElem?_map, List.getElem?_range hj, Option.map_some, Option.getD_some, addI_eq]
                simpa using this
        · cases fail_sem.1 hs
      · cases h
    · cases h
  · rename_i c ho
    split at h
    · rename_i hc
      split at h
      · rename_i t s ht hx
        split at h
        · rename_i hu
          cases h
          rw [cv_sem] at hs; cases hs
          have hr := getVs_R hev hx
          obtain ⟨u, hl⟩ : ∃ u, c.args.toList.map a.eval = [u] := by
            match c.args.toList.map a.eval, hr with
            | [u], _ => exact ⟨u, rfl⟩
          have hu' : u = .string s := by rw [hl] at hr; exact hr.1
          subst hu'
          have ha : (c.args.map a.eval)[0]? = some (.string s) := by
            rw [← Array.getElem?_toList]; simp [Array.toList_map, hl]
          refine OpOk.value (v := .int .i64 s.size) ?_ rfl H
          simp only [execOp, ho, resolve, hc]
          simp [invoke, builtin, Builtin.len_, ht, ha, run_underlying hu, goInt]
        · cases h
      · cases h
    · cases h
  · cases h
theorem evalOp_sound {Su : Sums} (hS : SumsOk P Su) (hev : ∀ x tv, ev x = some tv → tv.R C.X ρ (a.eval x)) (H : HRep C w1 S ρ look w) {e : Eff} {rds : List Nat}
    (hnew : ∀ j, j < e.nw.length → ρ (nx + j) = none) (hs : (evalOp P Su o ev nx).sem look = some (e, rds)) : OpOk P C w1 S ρ look nx o a w e := by
  unfold evalOp at hs
  split at hs
  · rename_i t h; exact strOp_sound hev H hnew h hs
  · exact evalOp0_sound hS hev H hnew hs

end
end Go.Proofs.YtkkacjmjjhjpeaaDoor.Sx

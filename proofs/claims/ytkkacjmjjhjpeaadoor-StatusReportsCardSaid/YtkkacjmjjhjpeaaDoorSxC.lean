/- A symbolic interpreter over the wp rules, third part: summaries of functions that read a row. No condition beyond those that each theorem names. -/
import Derived.Test.YtkkacjmjjhjpeaaDoorSxB
namespace Go.Proofs.YtkkacjmjjhjpeaaDoor.Sx
open Go

section
variable {P : Program} {Su : Sums}

theorem SL.split {R : SV → Value → Prop} : ∀ {a b : List SV} {vs : List Value}, SL R (a ++ b) vs → ∃ us ws, vs = us ++ ws ∧ SL R a us ∧ SL R b ws
  | [], _, vs, h => ⟨[], vs, rfl, trivial, h⟩
  | x :: a, b, v :: vs, ⟨h1, h2⟩ => by
    obtain ⟨us, ws, rfl, g1, g2⟩ := SL.split (a := a) h2
    exact ⟨v :: us, ws, rfl, ⟨h1, g1⟩, g2⟩
theorem SL.join {R : SV → Value → Prop} : ∀ {a b : List SV} {us ws : List Value}, SL R a us → SL R b ws → SL R (a ++ b) (us ++ ws)
  | [], _, [], _, _, h => h
  | _ :: _, _, _ :: _, _, ⟨h1, h2⟩, h => ⟨h1, SL.join h2 h⟩

theorem HRep.later {C : Ctx} {w1 w w' : World} {S : Nat → Prop} {ρ : Rho} {look : Look} (H : HRep C w1 S ρ look w) (hw : ∀ n, n < w.heap.size → w'.heap[n]? = w.heap[n]?) (hs : w.heap.size ≤ w'.heap.size)
    (he : w'.os = w.os ∧ w'.tape = w.tape ∧ w'.output = w.output) : HRep C w1 S ρ look w' := by
  refine ⟨?_, H.inj, ?_, ?_, ?_, Nat.le_trans H.size hs, ?_⟩
  · intro b sb h
    obtain ⟨l, h1, h2⟩ := H.blk b sb h
    exact ⟨l, h1, h2.later hw⟩
  · intro b sb l h1 h2 h3 h4
    obtain ⟨q1, q2, q3⟩ := H.own b sb l h1 h2 h3 h4
    exact ⟨q1, Nat.lt_of_lt_of_le q2 hs, q3⟩
  · intro n hn
    obtain ⟨q1, q2⟩ := H.out n hn
    exact ⟨(hw n q2).trans q1, Nat.lt_of_lt_of_le q2 hs⟩
  · intro n hn hS
    rw [hw n (Nat.lt_of_lt_of_le hn H.size)]
    exact H.frame n hn hS
  · exact ⟨he.1.trans H.env.1, he.2.1.trans H.env.2.1, he.2.2.trans H.env.2.2⟩

/-- A function that reads one row and values, and writes nothing that was there. -/
theorem sumOk_row (hS : SumsOk P Su) (hm : P.follows .mixedOrders = true) {f : FuncId} {fn : Func} {cd : Code} (hf : P.funcs[f]? = some fn) (hb : fn.body = some cd) (hname : (fn.name == "runtime.NumGoroutine") = false) {s : Sum}
    (h : ∀ (args : List SV) (nx : Nat) (look : Look) (e : Eff) (rds : List Nat), (s args nx).sem look = some (e, rds) → ∃ (va vb : List SV) (b i0 n : Nat) (sb : SB) (es : Nat) (c c' : Content) (tv : TV) (hp' : List (Option SB)) (L : List (Nat × LoopSum)) (fuel : Nat),
      args = va ++ .c (.slc b i0 n) :: vb ∧ (∀ π, va.map (SV.ren π) = va) ∧ (∀ π, vb.map (SV.ren π) = vb) ∧ look b = some sb ∧ ((∃ pre, sb = .vec es pre c) ∨ sb = .ro es c) ∧ c'.size ≤ c.size ∧ (∀ i, i < c'.size → c'.get i = c.get i) ∧
      e = ⟨tv, [], []⟩ ∧ (∀ π, tv.ren π = tv) ∧ LoopsOk P Su L fuel 1 (resMask fn.results.toList) (loopsOf (resMask fn.results.toList) cd [] (resMask fn.results.toList)) ∧
      runFnL P Su L fuel fn cd (va ++ .c (.slc 0 i0 n) :: vb) [.ro es c'] (fun tv hp => some (tv, hp)) = some (tv, hp')) : SumOk P f s := by
  refine ⟨⟨fn, hf, by simp [hb], hname⟩, ?_⟩
  intro C w1 S ρ look w args vs nx e rds hargs H hnew hs
  obtain ⟨va, vb, b, i0, n, sb, es, c, c', tv, hp', L, fuel, rfl, hva, hvb, hlb, hsb, hsz, hget, rfl, htv, hL, hrun⟩ := h args nx look e rds hs
  obtain ⟨us, ws, rfl, ha1, ha2⟩ := hargs.split
  match ws, ha2 with
  | v :: ws, ⟨hv, ha3⟩ =>
  obtain ⟨l, q1, q2⟩ := hv
  obtain ⟨l1, hl1, hblk⟩ := H.blk b sb hlb
  rw [q1] at hl1
  cases hl1
  let C' : Ctx := ⟨fun n => n < w.heap.size, fun n => w.heap[n]?, fun p hp => by
    obtain ⟨t, fr, hh⟩ := C.tabs p hp
    exact ⟨t, fr, (H.out p.1 (C.tabI p hp)).1.trans hh⟩, fun p hp => (H.out p.1 (C.tabI p hp)).2, C.X, fun u l hx => by
    rcases C.xok u l hx with h | ⟨A, cap, h1, h0, h2 | ⟨b, o, arr, t, fr, h2, h3, h4, h5⟩⟩
    · exact .inl h
    · exact .inr ⟨A, cap, h1, h0, .inl h2⟩
    · exact .inr ⟨A, cap, h1, h0, .inr ⟨b, o, arr, t, fr, h2, (H.out b h3).2, (H.out b h3).1.trans h4, h5⟩⟩⟩
  obtain ⟨l', hsl, hro⟩ : ∃ l' : Loc, SlcR l' i0 n v ∧ BlkR C' (rho1 l') l' (.ro es c') w := by
    rcases hsb with ⟨pre, rfl⟩ | rfl
    · rcases hblk with ⟨hn, hc, _⟩ | ⟨⟨hn, hes⟩, arr, ty, harr, _, _, _, _, hrow⟩
      · refine ⟨⟨l.blk, l.off, es, l.cap, true⟩, ?_, rfl, .inl (by omega)⟩
        rcases q2 with ⟨_, q3, q4⟩ | ⟨q3, _⟩
        · exact .inl ⟨rfl, q3, q4⟩
        · rw [hn] at q3; cases q3
      · refine ⟨l, q2, hes, .inr ⟨arr, ty, (0, 0), (Array.getElem?_eq_some_iff.1 harr).1, harr, fun i hi => ?_⟩⟩
        rw [hget i hi]
        exact hrow i (by omega)
    · obtain ⟨hes, h0 | ⟨arr, ty, fr, _, harr, hrow⟩⟩ := hblk
      · exact ⟨l, q2, hes, .inl (by omega)⟩
      · refine ⟨l, q2, hes, .inr ⟨arr, ty, fr, (Array.getElem?_eq_some_iff.1 harr).1, harr, fun i hi => ?_⟩⟩
        rw [hget i hi]
        exact hrow i (by omega)
  have hlk : ∀ k sb', lookL ([SB.ro es c'].map some) k = some sb' → k = 0 ∧ sb' = .ro es c' := by
    intro k sb' hk
    cases k with
    | zero => exact ⟨rfl, by simpa [lookL] using hk.symm⟩
    | succ k => simp [lookL] at hk
  have H0 : HRep C' w (fun _ => False) (rho1 l') (lookL ([SB.ro es c'].map some)) w := by
    refine ⟨?_, ?_, ?_, fun n hn => ⟨rfl, hn⟩, fun _ _ _ => rfl, Nat.le_refl _, rfl, rfl, rfl⟩
    · intro k sb' hk
      obtain ⟨rfl, rfl⟩ := hlk k sb' hk
      exact ⟨l', rfl, hro⟩
    · intro k k' s1 s2 m m' hk hk' ho
      obtain ⟨rfl, rfl⟩ := hlk k s1 hk
      cases ho
    · intro k s1 m hk ho
      obtain ⟨rfl, rfl⟩ := hlk k s1 hk
      cases ho
  have hno : ∀ {x : List SV} {us : List Value}, (∀ π, x.map (SV.ren π) = x) → SL (SV.R C.X ρ) x us → SL (SV.R C.X (rho1 l')) x us := by
    intro x us hx hr
    have := hr.ren (π := fun _ => none) (ρ' := rho1 l') (fun b i h => by cases h)
    rw [hx] at this
    exact this
  have hargs0 : SL (SV.R C'.X (rho1 l')) (va ++ .c (.slc 0 i0 n) :: vb) (us ++ v :: ws) := SL.join (hno hva ha1) ⟨⟨l', rfl, hsl⟩, hno hvb ha3⟩
  refine (runFnL_sound hS hm hf hb hL hrun hargs0 H0 (fun b hb => rho1_out b hb)).mono ?_
  rintro x w' ⟨tv', hp'', v', ρ', hK, rfl, _, hv', H', _⟩
  simp only [Option.some.injEq, Prod.mk.injEq] at hK
  obtain ⟨rfl, rfl⟩ := hK
  have hv2 := TV.R.ren (π := fun _ => none) (ρ' := ρ) (fun b i h => by cases h) hv'
  rw [htv] at hv2
  refine ⟨v', ρ, rfl, fun _ _ h => h, fun b m h => .inl h, hv2, ?_⟩
  rw [upd_nil]
  exact H.later (fun n hn => H'.frame n hn (fun h => h)) H'.size H'.env

/-! ### Loops that may be left in their midst -/
def goA {α : Type} (brk : α → Bool) (nx : α → α) : Nat → α → Bool × α
  | 0, p => (false, p)
  | k + 1, p => cond (brk p) (true, p) (goA brk nx k (nx p))
def goSum {α : Type} (ok : α → Bool) (cnt : α → Nat) (brk : α → Bool) (nx : α → α) (e : Ex) (out : α → St) (x : Ex) (fin : α → St) (p : α) (R : Type) (K : Ex → St → Option R) : Option R :=
  cond (ok p) (cond (goA brk nx (cnt p) p).1 (K e (out (goA brk nx (cnt p) p).2)) (K x (fin (goA brk nx (cnt p) p).2))) none
theorem LoopOk.go {L : List (Nat × LoopSum)} {fuel keepN rt : Nat} {lp : Lp} {β α : Type} {enc : α → St} {dec : St → Option β} {chk : β → Bool} {norm : β → α} (hdec : ∀ st p, dec st = some p → chk p = true → st = enc (norm p))
    {ok : α → Bool} {cnt : α → Nat} {brk : α → Bool} {nx : α → α} {e x : Ex} {out fin : α → St} (he : e ≠ .normal) (hx : x ≠ .normal)
    (h1 : ∀ (R : Type) p (K : Ex → St → Option R), ok p = true → cnt p ≠ 0 → brk p = true → roundK P Su L fuel keepN rt lp (enc p) K = K e (out p))
    (h2 : ∀ (R : Type) p k (K : Ex → St → Option R), ok p = true → cnt p = k + 1 → brk p = false → roundK P Su L fuel keepN rt lp (enc p) K = K .normal (enc (nx p)) ∧ ok (nx p) = true ∧ cnt (nx p) = k)
    (h3 : ∀ (R : Type) p (K : Ex → St → Option R), ok p = true → cnt p = 0 → roundK P Su L fuel keepN rt lp (enc p) K = K x (fin p)) :
    LoopOk P Su L fuel keepN rt lp (formSumC dec chk norm (goSum ok cnt brk nx e out x fin)) := by
  refine LoopOk.ofC hdec cnt ?_
  intro p R K r h
  unfold goSum at h
  cases hok : ok p with
  | false => rw [hok] at h; cases h
  | true =>
    rw [hok, cond_true] at h
    cases hc : cnt p with
    | zero =>
      right
      rw [hc] at h
      exact ⟨x, fin p, hx, fun K' => h3 R p K' hok hc, h⟩
    | succ k =>
      rw [hc] at h
      simp only [goA] at h
      cases hb : brk p with
      | true =>
        right
        rw [hb] at h
        exact ⟨e, out p, he, fun K' => h1 R p K' hok (by omega) hb, h⟩
      | false =>
        left
        rw [hb] at h
        simp only [cond_false] at h
        obtain ⟨_, g1, g2⟩ := h2 R p k K hok hc hb
        refine ⟨nx p, by omega, fun K' => (h2 R p k K' hok hc hb).1, ?_⟩
        unfold goSum
        rw [g1, cond_true, g2]
        exact h
end
end Go.Proofs.YtkkacjmjjhjpeaaDoor.Sx

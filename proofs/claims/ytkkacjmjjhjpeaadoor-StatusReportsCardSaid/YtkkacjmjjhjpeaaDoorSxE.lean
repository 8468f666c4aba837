/- A symbolic interpreter over the wp rules, fifth part: arguments with slices of whole numbers inside. No condition beyond those that each theorem names. -/
import Derived.Test.YtkkacjmjjhjpeaaDoorSxD
import Derived.Below
namespace Go.Proofs.YtkkacjmjjhjpeaaDoor.Sx
open Go
section
variable {P : Program}

/-- A summary that says what another one says of the same call. -/
theorem SumOk.imp {f : FuncId} {s s' : Sum} (h : SumOk P f s) (hi : ∀ args nx look e rds, (s' args nx).sem look = some (e, rds) → ∃ rds', (s args nx).sem look = some (e, rds')) : SumOk P f s' :=
  ⟨h.1, fun C w1 S ρ look w args vs nx e rds ha H hn hs => by
    obtain ⟨rds', hs'⟩ := hi args nx look e rds hs
    exact h.2 C w1 S ρ look w args vs nx e rds' ha H hn hs'⟩

/-- What comes of a call, by cases. -/
inductive Cs where
  | out (x : Out)
  | br (b : Bool) (t e : Cs)
  | no
def Cs.pick : Cs → Option Out
  | .out x => some x
  | .br b t e => cond b t.pick e.pick
  | .no => none
def Cs.run {R : Type} (c : Cs) (K : TV → List (Option SB) → Option R) : Option R := match c with
  | .out x => K x.tv (x.hp ++ x.nw.map some)
  | .br b t e => cond b (t.run K) (e.run K)
  | .no => none
theorem Cs.run_pick {R : Type} {K : TV → List (Option SB) → Option R} {x : Out} : ∀ {c : Cs}, c.pick = some x → c.run K = K x.tv (x.hp ++ x.nw.map some)
  | .out y, h => by cases h; rfl
  | .br b t e, h => by
    cases b
    · exact Cs.run_pick (c := e) h
    · exact Cs.run_pick (c := t) h
  | .no, h => by cases h
def Cs.tr (f : Out → Tr Eff) : Cs → Tr Eff
  | .out x => f x
  | .br b t e => .br b (t.tr f) (e.tr f)
  | .no => .fail
theorem Cs.tr_pick {f : Out → Tr Eff} {look : Look} {r : Eff × List Nat} : ∀ {c : Cs}, (c.tr f).sem look = some r → ∃ x, c.pick = some x ∧ (f x).sem look = some r
  | .out x, h => ⟨x, rfl, h⟩
  | .br b t e, h => by
    cases b
    · exact Cs.tr_pick (c := e) h
    · exact Cs.tr_pick (c := t) h
  | .no, h => by cases h
def genOut (ks : List Nat) (nx : Nat) (x : Out) : Tr Eff := cond (Nat.beq x.hp.length ks.length && ks.all fun b => Nat.blt b nx) (.br x.pre
    (.ret ⟨x.tv.ren (backOf ks nx (ks.length + x.nw.length)), ks.zip (x.hp.map fun s => s.map (SB.ren (backOf ks nx (ks.length + x.nw.length)))), x.nw.map (SB.ren (backOf ks nx (ks.length + x.nw.length)))⟩) .fail) .fail
def genSumT (g : List SV → List SB → Cs) : Sum := fun args nx => clo 60 (args.flatMap SV.ids) [] [] fun ks sbs =>
  (g (args.map (SV.ren fun b => posOf b ks 0)) (sbs.map (SB.ren fun b => posOf b ks 0))).tr (genOut ks nx)
theorem clo_imp {β : Type} {look : Look} {K K' : List Nat → List SB → Tr β} (hK : ∀ ks sbs r rds, (K' ks sbs).sem look = some (r, rds) → ∃ rds', (K ks sbs).sem look = some (r, rds')) {r : β} :
    ∀ {k : Nat} {todo ks : List Nat} {sbs : List SB} {rds : List Nat}, (clo k todo ks sbs K').sem look = some (r, rds) → ∃ rds', (clo k todo ks sbs K).sem look = some (r, rds')
  | 0, _, _, _, _, h => by cases fail_sem.1 h
  | k + 1, [], ks, sbs, rds, h => hK ks sbs r rds h
  | k + 1, b :: todo, ks, sbs, rds, h => by
    unfold clo at h ⊢
    cases hm : memN b ks with
    | true => rw [hm] at h; exact clo_imp hK h
    | false =>
      rw [hm] at h
      obtain ⟨s, rds', hs, h', _⟩ := rd_sem.1 h
      obtain ⟨rds2, h2⟩ := clo_imp hK h'
      exact ⟨b :: rds2, rd_sem.2 ⟨s, rds2, hs, h2, rfl⟩⟩
theorem sumOk_genT {f : FuncId} {g : List SV → List SB → Cs} (h : SumOk P f (genSum fun a hp => (g a hp).pick)) : SumOk P f (genSumT g) := by
  refine h.imp fun args nx look e rds hs => ?_
  unfold genSumT at hs
  unfold genSum
  refine clo_imp (fun ks sbs r rds hr => ?_) hs
  obtain ⟨x, h1, h2⟩ := Cs.tr_pick hr
  refine ⟨rds, ?_⟩
  rw [opt_sem]
  exact ⟨x, h1, h2⟩

/-- A summary by cases: what its function's body comes to is just these cases. -/
theorem sumOk_cs {Su : Sums} (hS : SumsOk P Su) (hm : P.follows .mixedOrders = true) {f : FuncId} {fn : Func} {c : Code} (hf : P.funcs[f]? = some fn) (hb : fn.body = some c) (hname : (fn.name == "runtime.NumGoroutine") = false) {g : List SV → List SB → Cs}
    (h : ∀ args hp x, (g args hp).pick = some x → ∃ L fuel, LoopsOk P Su L fuel hp.length (resMask fn.results.toList) (loopsOf (resMask fn.results.toList) c [] (resMask fn.results.toList)) ∧ runFnL P Su L fuel fn c args hp (fun tv hp => some (tv, hp)) = (g args hp).run fun tv hp => some (tv, hp)) : SumOk P f (genSumT g) :=
  sumOk_genT (sumOk_genL hS hm hf hb hname fun args hp x h1 _ _ => by
    obtain ⟨L, fuel, h2, h3⟩ := h args hp x h1
    exact ⟨L, fuel, h2, by rw [h3, Cs.run_pick h1]⟩)

/-- The same, its nil slices in structs being rows. -/
def denilE (nx : Nat) (e : Eff) : Eff := match denilH (nx + e.nw.length) (e.nw.map some) with
  | some l => match l.mapM id with
    | some nw => ⟨e.sv, e.wr, nw ++ [nilRow (e.nw.map some)]⟩
    | none => e
  | none => e
def denilS (s : Sum) : Sum := fun args nx => (s args nx).bind fun e => .ret (denilE nx e)
theorem mapM_id : ∀ {l : List (Option SB)} {r : List SB}, l.mapM id = some r → l = r.map some
  | [], r, h => by simp at h; subst h; rfl
  | none :: l, r, h => by simp at h
  | some x :: l, r, h => by
    simp only [List.mapM_cons, id_eq, Option.bind_eq_bind, Option.bind_some, Option.pure_def, Option.bind_eq_some_iff, Option.some.injEq] at h
    obtain ⟨r', h1, h2⟩ := h
    subst h2
    rw [mapM_id h1]
    rfl
theorem sumOk_denil {f : FuncId} {s : Sum} (h : SumOk P f s) : SumOk P f (denilS s) := by
  refine ⟨h.1, fun C w1 S ρ look w args vs nx e rds ha H hn hs => ?_⟩
  unfold denilS at hs
  obtain ⟨e0, r1, r2, h1, h2, _⟩ := Tr.sem_bind hs
  rw [ret_sem] at h2
  cases h2
  by_cases hc : ∃ l nw, denilH (nx + e0.nw.length) (e0.nw.map some) = some l ∧ l.mapM id = some nw
  · obtain ⟨l, nw, g1, g2⟩ := hc
    have he : denilE nx e0 = ⟨e0.sv, e0.wr, nw ++ [nilRow (e0.nw.map some)]⟩ := by
      unfold denilE
      rw [g1]
      simp only
      rw [g2]
    rw [he] at hn ⊢
    obtain ⟨b, cs, cs', k1, k2, k3⟩ := denilH_spec g1
    have k4 := mapM_id g2
    have hlen : nw.length = e0.nw.length := by
      have e1 : l.length = nw.length := by rw [k4]; simp
      have e2 : l.length = e0.nw.length := by rw [k3]; simp
      omega
    have hnw : ∀ j, j < e0.nw.length → ρ (nx + j) = none := fun j hj => hn j (by simp [hlen]; omega)
    refine (h.2 C w1 S ρ look w args vs nx e0 r1 ha H hnw h1).mono ?_
    rintro x w' ⟨v, ρ', q1, q2, q3, q4, q5⟩
    let l0 : Loc := ⟨0, 0, 1, 0, true⟩
    have hno : ρ' (nx + e0.nw.length) = none := by
      cases hh : ρ' (nx + e0.nw.length) with
      | none => rfl
      | some m =>
        rcases q3 _ _ hh with p | p
        · rw [hn e0.nw.length (by simp [hlen])] at p; cases p
        · omega
    have hle : ρ'.le (ρ'.put (nx + e0.nw.length) l0) := Rho.le_put hno
    have hb : b < e0.nw.length := by have := (List.getElem?_eq_some_iff.1 k1).1; simpa using this
    have hlb : upd look e0 nx (nx + b) = some (.cells cs) := by
      unfold upd
      rw [if_pos (by omega), if_pos (by omega), show nx + b - nx = b by omega]
      simpa using k1
    have H1 := q5.newNil (l := l0) (sb := nilRow (e0.nw.map some)) hno rfl (nilRow_blk rfl _)
    have H2 := H1.alt (b := nx + b) (sb := .cells cs) (sb' := .cells cs') (by rw [if_neg (by omega)]; exact hlb) rfl (fun l hl hb => by
      obtain ⟨p1, arr, t, p2, p3⟩ := hb
      exact ⟨p1, arr, t, p2, denilC_R ⟨l0, Rho.put_same .., rfl⟩ k2 p3⟩)
    have hlook : (fun c => if c = nx + b then some (SB.cells cs') else if c = nx + e0.nw.length then some (nilRow (e0.nw.map some)) else upd look e0 nx c) = upd look ⟨e0.sv, e0.wr, nw ++ [nilRow (e0.nw.map some)]⟩ nx := by
      funext c
      unfold upd
      simp only [List.length_append, List.length_singleton, hlen]
      by_cases c1 : nx ≤ c
      · rw [if_pos c1, if_pos c1]
        have hget : ∀ j, nw[j]? = if j = b then (if b < e0.nw.length then some (SB.cells cs') else none) else e0.nw[j]? := by
          intro j
          have e1 : (nw.map some)[j]? = ((e0.nw.map some).set b (some (SB.cells cs')))[j]? := by rw [← k4, k3]
          rw [List.getElem?_set] at e1
          by_cases hj : j = b
          · subst hj
            rw [if_pos rfl, if_pos (by simpa using hb)] at e1
            rw [if_pos rfl, if_pos hb]
            simpa using e1
          · rw [if_neg (by omega)] at e1
            rw [if_neg hj]
            rw [List.getElem?_map, List.getElem?_map] at e1
            cases hx : nw[j]? <;> cases hy : e0.nw[j]? <;> rw [hx, hy] at e1 <;> simp_all
        by_cases c2 : c = nx + b
        · rw [if_pos c2, if_pos (by omega), List.getElem?_append_left (by omega), hget, if_pos (by omega), if_pos hb]
        · rw [if_neg c2]
          by_cases c3 : c = nx + e0.nw.length
          · rw [if_pos c3, if_pos (by omega), List.getElem?_append_right (by omega)]
            simp [c3, hlen]
          · rw [if_neg c3]
            by_cases c4 : c < nx + e0.nw.length
            · rw [if_pos c4, if_pos (by omega), List.getElem?_append_left (by omega), hget, if_neg (by omega)]
            · rw [if_neg c4, if_neg (by omega)]
      · rw [if_neg (by omega), if_neg (by omega), if_neg c1, if_neg c1]
    rw [hlook] at H2
    refine ⟨v, ρ'.put (nx + e0.nw.length) l0, q1, q2.trans hle, ?_, q4.mono hle, H2⟩
    intro c m hm
    unfold Rho.put at hm
    split at hm
    · rename_i hc
      subst hc
      exact .inr ⟨by omega, by simp [hlen]⟩
    · rcases q3 c m hm with p | ⟨p1, p2⟩
      · exact .inl p
      · exact .inr ⟨p1, by simp [hlen]; omega⟩
  · have he : denilE nx e0 = e0 := by
      unfold denilE
      split
      · rename_i l hl
        split
        · rename_i nw hnw
          exact absurd ⟨l, nw, hl, hnw⟩ hc
        · rfl
      · rfl
    rw [he] at hn ⊢
    exact h.2 C w1 S ρ look w args vs nx e0 r1 ha H hn h1
end
end Go.Proofs.YtkkacjmjjhjpeaaDoor.Sx

namespace Go.Proofs.YtkkacjmjjhjpeaaDoor.Sx
open Go

/-- Contents that read alike as far as they go. -/
def Content.near (c c' : Content) : Prop := c'.size = c.size ∧ ∀ i, i < c.size → c'.get i = c.get i
def SB.near : SB → SB → Prop
  | .vec es [] c, .vec es' [] c' => es' = es ∧ c.near c'
  | a, b => b = a
theorem SB.near.refl (s : SB) : s.near s := by
  cases s with
  | vec es pre c =>
    cases pre with
    | nil => exact ⟨rfl, rfl, fun _ _ => rfl⟩
    | cons p q => rfl
  | _ => rfl
theorem SB.near.symm {a b : SB} (h : a.near b) : b.near a := by
  unfold SB.near at h
  split at h
  · rename_i es c es' c'
    obtain ⟨rfl, h1, h2⟩ := h
    exact ⟨rfl, h1.symm, fun i hi => (h2 i (by omega)).symm⟩
  · subst h; exact SB.near.refl _
theorem SB.near.own {a b : SB} (h : a.near b) : b.own = a.own ∧ b.ids = a.ids := by
  unfold SB.near at h
  split at h
  · exact ⟨rfl, rfl⟩
  · subst h; exact ⟨rfl, rfl⟩
theorem SB.near.ren {a b : SB} (π : Nat → Option Nat) (h : a.near b) : (a.ren π).near (b.ren π) := by
  unfold SB.near at h
  split at h
  · exact h
  · subst h; exact SB.near.refl _
theorem BlkR.near {C : Ctx} {ρ : Rho} {l : Loc} {a b : SB} {w : World} (h : a.near b) (hr : BlkR C ρ l a w) : BlkR C ρ l b w := by
  unfold SB.near at h
  split at h
  · rename_i es c es' c'
    obtain ⟨rfl, h1, h2⟩ := h
    rcases hr with ⟨q1, q2, q3⟩ | ⟨q0, arr, t, q1, q2, q3, q4, q5, q6⟩
    · exact .inl ⟨q1, by omega, rfl⟩
    · refine .inr ⟨q0, arr, t, q1, q2, q3, q4, by omega, fun i hi => ?_⟩
      rw [h2 i (by omega)]
      exact q6 i (by omega)
  · subst h; exact hr
def NearL (look look' : Look) : Prop := ∀ b, match look b, look' b with
  | some s, some s' => s.near s'
  | none, none => True
  | _, _ => False
theorem NearL.some {look look' : Look} (h : NearL look look') {b : Nat} {s : SB} (hb : look b = some s) : ∃ s', look' b = some s' ∧ s.near s' := by
  have := h b
  rw [hb] at this
  cases hc : look' b with
  | none => rw [hc] at this; exact this.elim
  | some s' => rw [hc] at this; exact ⟨s', rfl, this⟩
theorem NearL.back {look look' : Look} (h : NearL look look') {b : Nat} {s' : SB} (hb : look' b = Option.some s') : ∃ s, look b = Option.some s ∧ s.near s' := by
  have := h b
  rw [hb] at this
  cases hc : look b with
  | none => rw [hc] at this; exact this.elim
  | some s => rw [hc] at this; exact ⟨s, rfl, this⟩
theorem NearL.symm {look look' : Look} (h : NearL look look') : NearL look' look := by
  intro b
  have := h b
  cases hb : look b with
  | none =>
    rw [hb] at this
    cases hc : look' b with
    | none => trivial
    | some s' => rw [hc] at this; exact this
  | some s =>
    rw [hb] at this
    cases hc : look' b with
    | none => rw [hc] at this; exact this
    | some s' => rw [hc] at this; exact SB.near.symm this
theorem NearL.refl (look : Look) : NearL look look := by
  intro b
  cases look b with
  | none => trivial
  | some s => exact SB.near.refl s
theorem HRep.near {C : Ctx} {w1 w : World} {S : Nat → Prop} {ρ : Rho} {look look' : Look} (H : HRep C w1 S ρ look w) (h : NearL look look') : HRep C w1 S ρ look' w := by
  refine ⟨?_, ?_, ?_, H.out, H.frame, H.size, H.env⟩
  · intro b sb hb
    obtain ⟨s, h1, h2⟩ := h.back hb
    obtain ⟨l, h3, h4⟩ := H.blk b s h1
    exact ⟨l, h3, h4.near h2⟩
  · intro b b' sb sb' l l' hb hb' ho ho'
    obtain ⟨s, h1, h2⟩ := h.back hb
    obtain ⟨s', h1', h2'⟩ := h.back hb'
    exact H.inj b b' s s' l l' h1 h1' (by rw [← h2.own.1]; exact ho) (by rw [← h2'.own.1]; exact ho')
  · intro b sb l hb ho
    obtain ⟨s, h1, h2⟩ := h.back hb
    exact H.own b s l h1 (by rw [← h2.own.1]; exact ho)

section
variable {P : Program}
/-- A summary that says what another one says of rows that read alike. -/
theorem SumOk.near {f : FuncId} {s s' : Sum} (h : SumOk P f s) (hi : ∀ args nx look e rds, (s' args nx).sem look = some (e, rds) → ∃ look' rds', NearL look look' ∧ (s args nx).sem look' = some (e, rds') ∧ NearL (upd look' e nx) (upd look e nx)) : SumOk P f s' :=
  ⟨h.1, fun C w1 S ρ look w args vs nx e rds ha H hn hs => by
    obtain ⟨look', rds', h1, h2, h3⟩ := hi args nx look e rds hs
    refine (h.2 C w1 S ρ look' w args vs nx e rds' ha (H.near h1) hn h2).mono ?_
    rintro y w' ⟨v, ρ', q1, q2, q3, q4, q5⟩
    exact ⟨v, ρ', q1, q2, q3, q4, q5.near h3⟩⟩

theorem Cs.tr_pick' {f : Out → Tr Eff} {look : Look} {r : Eff × List Nat} {x : Out} : ∀ {c : Cs}, c.pick = some x → (f x).sem look = some r → (c.tr f).sem look = some r
  | .out y, h, h' => by cases h; exact h'
  | .br b t e, h, h' => by
    cases b
    · exact Cs.tr_pick' (c := e) h h'
    · exact Cs.tr_pick' (c := t) h h'
  | .no, h, _ => by cases h

/-- Lists of blocks that read alike. -/
def nearH : List SB → List SB → Prop
  | [], [] => True
  | a :: r, b :: r' => a.near b ∧ nearH r r'
  | _, _ => False
theorem nearH.get : ∀ {a b : List SB}, nearH a b → ∀ (i : Nat) (s : SB), a[i]? = some s → ∃ s', b[i]? = some s' ∧ s.near s'
  | _ :: _, _ :: _, h, 0, s, hs => by
    simp only [List.getElem?_cons_zero, Option.some.injEq] at hs
    subst hs
    exact ⟨_, rfl, h.1⟩
  | _ :: _, _ :: _, h, i + 1, s, hs => by simpa using nearH.get h.2 i s (by simpa using hs)
theorem nearH.length : ∀ {a b : List SB}, nearH a b → a.length = b.length
  | [], [], _ => rfl
  | _ :: _, _ :: _, h => by simp [nearH.length h.2]

theorem posOf_of_get {b : Nat} : ∀ {l : List Nat} {i j : Nat}, l.Nodup → l[j]? = some b → posOf b l i = some (i + j)
  | [], _, _, _, h => by simp at h
  | c :: r, i, 0, _, h => by
    simp only [List.getElem?_cons_zero, Option.some.injEq] at h
    subst h
    simp [posOf]
  | c :: r, i, j + 1, hn, h => by
    rw [List.nodup_cons] at hn
    have h' : r[j]? = some b := by simpa using h
    have hne : Nat.beq b c = false := by
      cases hb : Nat.beq b c with
      | false => rfl
      | true =>
        have := Nat.eq_of_beq_eq_true hb
        subst this
        exact absurd (List.mem_of_getElem? h') hn.1
    unfold posOf
    rw [hne, cond_false, posOf_of_get hn.2 h']
    congr 1
    omega
theorem posOf_none {b : Nat} : ∀ {l : List Nat} {i : Nat}, posOf b l i = none → b ∉ l
  | [], _, _ => by simp
  | c :: r, i, h => by
    unfold posOf at h
    cases hc : Nat.beq b c with
    | true => rw [hc] at h; cases h
    | false =>
      rw [hc] at h
      intro hm
      rcases List.mem_cons.1 hm with rfl | hm
      · simp at hc
      · exact posOf_none h hm

/-- What is found. -/
def cloR (look : Look) : Nat → List Nat → List Nat → List SB → Option (List Nat × List SB)
  | 0, _, _, _ => none
  | _ + 1, [], ks, sbs => some (ks, sbs)
  | k + 1, b :: todo, ks, sbs => cond (memN b ks) (cloR look k todo ks sbs) (match look b with
    | some s => cloR look k (todo ++ s.ids) (ks ++ [b]) (sbs ++ [s])
    | none => none)
theorem clo_cloR {β : Type} {look : Look} {K : List Nat → List SB → Tr β} {r : β} : ∀ {k : Nat} {todo ks : List Nat} {sbs : List SB} {rds : List Nat}, (clo k todo ks sbs K).sem look = some (r, rds) →
    ∃ ks' sbs' rds', cloR look k todo ks sbs = some (ks', sbs') ∧ (K ks' sbs').sem look = some (r, rds')
  | 0, _, _, _, _, h => by cases fail_sem.1 h
  | k + 1, [], ks, sbs, rds, h => ⟨ks, sbs, rds, rfl, h⟩
  | k + 1, b :: todo, ks, sbs, rds, h => by
    unfold clo at h
    unfold cloR
    cases hm : memN b ks with
    | true => rw [hm] at h; exact clo_cloR h
    | false =>
      rw [hm] at h
      obtain ⟨s, rds', hs, h', _⟩ := rd_sem.1 h
      simp only [cond_false, hs]
      exact clo_cloR h'
theorem cloR_clo {β : Type} {look : Look} {K : List Nat → List SB → Tr β} {r : β} {ks' : List Nat} {sbs' : List SB} {rds' : List Nat} (hK : (K ks' sbs').sem look = some (r, rds')) : ∀ {k : Nat} {todo ks : List Nat} {sbs : List SB}, cloR look k todo ks sbs = some (ks', sbs') →
    ∃ rds, (clo k todo ks sbs K).sem look = some (r, rds)
  | 0, _, _, _, h => by cases h
  | k + 1, [], ks, sbs, h => by cases h; exact ⟨_, hK⟩
  | k + 1, b :: todo, ks, sbs, h => by
    unfold cloR at h
    unfold clo
    cases hm : memN b ks with
    | true => rw [hm] at h; exact cloR_clo hK h
    | false =>
      rw [hm] at h
      simp only [cond_false] at h ⊢
      cases hs : look b with
      | none => rw [hs] at h; cases h
      | some s =>
        rw [hs] at h
        obtain ⟨rds, h2⟩ := cloR_clo hK h
        exact ⟨b :: rds, rd_sem.2 ⟨s, rds, hs, h2, rfl⟩⟩
theorem cloR_found {look : Look} {ks' : List Nat} {sbs' : List SB} : ∀ {k : Nat} {todo ks : List Nat} {sbs : List SB}, Found look ks sbs → cloR look k todo ks sbs = some (ks', sbs') → Found look ks' sbs'
  | 0, _, _, _, _, h => by cases h
  | k + 1, [], ks, sbs, hF, h => by cases h; exact hF
  | k + 1, b :: todo, ks, sbs, hF, h => by
    unfold cloR at h
    cases hm : memN b ks with
    | true => rw [hm] at h; exact cloR_found hF h
    | false =>
      rw [hm] at h
      simp only [cond_false] at h
      cases hs : look b with
      | none => rw [hs] at h; cases h
      | some s =>
        rw [hs] at h
        refine cloR_found ⟨?_, by simp [hF.len], ?_⟩ h
        · refine nodupN_of ?_
          rw [List.nodup_append]
          refine ⟨nodupN_spec hF.nodup, by simp, ?_⟩
          intro x hx y hy
          have : y = b := by simpa using hy
          subst this
          rintro rfl
          rw [memN_iff.2 hx] at hm
          cases hm
        · intro i c hi
          by_cases hlt : i < ks.length
          · rw [List.getElem?_append_left hlt] at hi
            rw [List.getElem?_append_left (by rw [hF.len]; exact hlt)]
            exact hF.look i c hi
          · rw [List.getElem?_append_right (by omega)] at hi
            rw [List.getElem?_append_right (by rw [hF.len]; omega), hF.len]
            have hz : i - ks.length = 0 := by
              cases hh : i - ks.length with
              | zero => rfl
              | succ n => rw [hh] at hi; simp at hi
            rw [hz] at hi ⊢
            simp only [List.getElem?_cons_zero, Option.some.injEq] at hi ⊢
            subst hi
            exact hs
theorem cloR_near {look look' : Look} (hl : ∀ b s, look b = some s → ∃ s', look' b = some s' ∧ s'.ids = s.ids) {ks' : List Nat} {sbs' : List SB} : ∀ {k : Nat} {todo ks : List Nat} {sbs sbs1 : List SB}, cloR look k todo ks sbs = some (ks', sbs') → ∃ sbs2, cloR look' k todo ks sbs1 = some (ks', sbs2)
  | 0, _, _, _, _, h => by cases h
  | k + 1, [], ks, sbs, sbs1, h => by cases h; exact ⟨_, rfl⟩
  | k + 1, b :: todo, ks, sbs, sbs1, h => by
    unfold cloR at h
    unfold cloR
    cases hm : memN b ks with
    | true => rw [hm] at h; exact cloR_near hl h
    | false =>
      rw [hm] at h
      simp only [cond_false] at h ⊢
      cases hs : look b with
      | none => rw [hs] at h; cases h
      | some s =>
        rw [hs] at h
        obtain ⟨s', h1, h2⟩ := hl b s hs
        rw [h1]
        simp only
        rw [h2]
        exact cloR_near hl h

theorem near_find {cv : List SB → List SB} (hcv : ∀ hp, nearH hp (cv hp)) {look : Look} {todo ks0 : List Nat} {sbs0 : List SB} {k : Nat} (hR : cloR look k todo [] [] = some (ks0, sbs0)) :
    ∃ look' sbs2, NearL look look' ∧ cloR look' k todo [] [] = some (ks0, sbs2) ∧ sbs2.map (SB.ren fun b => posOf b ks0 0) = cv (sbs0.map (SB.ren fun b => posOf b ks0 0)) ∧ (∀ b, posOf b ks0 0 = none → look' b = look b) ∧ ks0.Nodup := by
  have hF0 := cloR_found (⟨rfl, rfl, fun i b h => by simp at h⟩ : Found look [] []) hR
  let π : Nat → Option Nat := fun b => posOf b ks0 0
  have hn := hcv (sbs0.map (SB.ren π))
  let look' : Look := fun b => match look b, posOf b ks0 0 with
    | some s, some i => match s, (cv (sbs0.map (SB.ren π)))[i]? with
      | .vec es [] c, some (.vec _ [] c') => some (.vec es [] c')
      | s, _ => some s
    | o, _ => o
  have key : ∀ b s i, look b = some s → posOf b ks0 0 = some i → ∃ s2, look' b = some s2 ∧ s.near s2 ∧ (cv (sbs0.map (SB.ren π)))[i]? = some (s2.ren π) := by
    intro b s i hb hp
    obtain ⟨_, hi⟩ := posOf_get hp
    have hi : ks0[i]? = some b := by simpa using hi
    have hsb : sbs0[i]? = some s := by rw [← hF0.look i b hi]; exact hb
    obtain ⟨s', h1, h2⟩ := hn.get i (s.ren π) (by simp [List.getElem?_map, hsb])
    simp only [look', hb, hp]
    rw [h1]
    cases s with
    | vec es pre c =>
      cases pre with
      | nil =>
        have h2' : (SB.vec es [] c).near s' := h2
        unfold SB.near at h2'
        split at h2'
        · rename_i heq; cases heq
          obtain ⟨rfl, h3⟩ := h2'
          exact ⟨_, rfl, ⟨rfl, h3⟩, rfl⟩
        · rename_i hno
          subst h2'
          exact absurd rfl (hno es c es c rfl)
      | cons p q =>
        have h2' : s' = (SB.vec es (p :: q) c).ren π := h2
        subst h2'
        exact ⟨_, rfl, SB.near.refl _, rfl⟩
    | cells cs =>
      have h2' : s' = (SB.cells cs).ren π := h2
      subst h2'
      exact ⟨_, rfl, SB.near.refl _, rfl⟩
    | ro es c =>
      have h2' : s' = (SB.ro es c).ren π := h2
      subst h2'
      exact ⟨_, rfl, SB.near.refl _, rfl⟩
    | mapi es =>
      have h2' : s' = (SB.mapi es).ren π := h2
      subst h2'
      exact ⟨_, rfl, SB.near.refl _, rfl⟩
    | mapb es =>
      have h2' : s' = (SB.mapb es).ren π := h2
      subst h2'
      exact ⟨_, rfl, SB.near.refl _, rfl⟩
    | iter b n =>
      have h2' : s' = (SB.iter b n).ren π := h2
      subst h2'
      exact ⟨_, rfl, SB.near.refl _, rfl⟩
  have hnear : NearL look look' := by
    intro b
    cases hb : look b with
    | none =>
      have : look' b = none := by simp only [look', hb]
      rw [this]; trivial
    | some s =>
      cases hp : posOf b ks0 0 with
      | none =>
        have : look' b = some s := by simp only [look', hb, hp]
        rw [this]; exact SB.near.refl _
      | some i =>
        obtain ⟨s2, e1, e2, _⟩ := key b s i hb hp
        rw [e1]; exact e2
  obtain ⟨sbs2, hR2⟩ := cloR_near (look' := look') (sbs1 := []) (fun b s hb => by
    obtain ⟨s', q1, q2⟩ := hnear.some hb
    exact ⟨s', q1, q2.own.2⟩) hR
  have hF2 := cloR_found (⟨rfl, rfl, fun i b h => by simp at h⟩ : Found look' [] []) hR2
  have hsb2 : sbs2.map (SB.ren π) = cv (sbs0.map (SB.ren π)) := by
    apply List.ext_getElem?
    intro i
    have hl := hn.length
    simp only [List.length_map] at hl
    by_cases hi : i < ks0.length
    · have hk : ks0[i]? = some ks0[i] := List.getElem?_eq_getElem hi
      have hpos : posOf ks0[i] ks0 0 = some i := by
        have := posOf_of_get (i := 0) (nodupN_spec hF0.nodup) hk
        simpa using this
      have h0 : sbs0[i]? = some (sbs0[i]'(by rw [hF0.len]; exact hi)) := List.getElem?_eq_getElem _
      obtain ⟨s2, e1, _, e3⟩ := key ks0[i] _ i (by rw [hF0.look i _ hk]; exact h0) hpos
      rw [e3, List.getElem?_map, ← hF2.look i _ hk, e1]
      rfl
    · rw [List.getElem?_eq_none (by simp [hF2.len]; omega), List.getElem?_eq_none (by rw [← hl, hF0.len]; omega)]
  refine ⟨look', sbs2, hnear, hR2, hsb2, fun b hp => ?_, nodupN_spec hF0.nodup⟩
  simp only [look', hp]
  cases look b <;> rfl

/-- The same summary, of rows that are first written in another way. -/
theorem sumOk_near {f : FuncId} {g : List SV → List SB → Cs} {cv : List SB → List SB} (hcv : ∀ hp, nearH hp (cv hp)) (h : SumOk P f (genSumT g)) : SumOk P f (genSumT fun args hp => g args (cv hp)) := by
  refine h.near fun args nx look e rds hs => ?_
  unfold genSumT at hs
  obtain ⟨ks0, sbs0, rds0, hR, hs0⟩ := clo_cloR hs
  obtain ⟨look', sbs2, hnear, hR2, hsb2, hout, hnd⟩ := near_find hcv hR
  obtain ⟨x, hx, hsx⟩ := Cs.tr_pick hs0
  have hx' : (g (args.map (SV.ren fun b => posOf b ks0 0)) (sbs2.map (SB.ren fun b => posOf b ks0 0))).pick = some x := by
    rw [hsb2]; exact hx
  -- the effect
  unfold genOut at hsx
  obtain ⟨h1, hsx⟩ := cond_sem.1 hsx
  obtain ⟨h2, hsx⟩ := br_sem.1 hsx
  rw [ret_sem] at hsx
  have hgo : (genOut ks0 nx x).sem look' = some (e, []) := by
    unfold genOut
    refine cond_sem.2 ⟨h1, br_sem.2 ⟨h2, ?_⟩⟩
    rw [ret_sem]
    cases hsx
    rfl
  obtain ⟨rds', hfin⟩ := cloR_clo (K := fun ks sbs => (g (args.map (SV.ren fun b => posOf b ks 0)) (sbs.map (SB.ren fun b => posOf b ks 0))).tr (genOut ks nx)) (Cs.tr_pick' hx' hgo) hR2
  refine ⟨look', rds', hnear, hfin, ?_⟩
  cases hsx
  suffices hh : ∀ b, upd look' ⟨x.tv.ren (backOf ks0 nx (ks0.length + x.nw.length)), ks0.zip (x.hp.map fun s => s.map (SB.ren (backOf ks0 nx (ks0.length + x.nw.length)))), x.nw.map (SB.ren (backOf ks0 nx (ks0.length + x.nw.length)))⟩ nx b = upd look ⟨x.tv.ren (backOf ks0 nx (ks0.length + x.nw.length)), ks0.zip (x.hp.map fun s => s.map (SB.ren (backOf ks0 nx (ks0.length + x.nw.length)))), x.nw.map (SB.ren (backOf ks0 nx (ks0.length + x.nw.length)))⟩ nx b by
    rw [funext hh]
    exact NearL.refl _
  simp only [Bool.and_eq_true, List.all_eq_true, Nat.blt_eq] at h1
  obtain ⟨h1, h3⟩ := h1
  have h1 := Nat.eq_of_beq_eq_true h1
  intro b
  unfold upd
  have hw : updW look' (ks0.zip (x.hp.map fun s => s.map (SB.ren (backOf ks0 nx (ks0.length + x.nw.length))))) b = updW look (ks0.zip (x.hp.map fun s => s.map (SB.ren (backOf ks0 nx (ks0.length + x.nw.length))))) b := by
    cases hp : posOf b ks0 0 with
    | none =>
      have hb := posOf_none hp
      rw [updW_not hb, updW_not hb]
      exact hout b hp
    | some i =>
      obtain ⟨_, hi⟩ := posOf_get hp
      have hi : ks0[i]? = some b := by simpa using hi
      have hlt : i < x.hp.length := by rw [h1]; exact (List.getElem?_eq_some_iff.1 hi).1
      have hz : (x.hp.map fun s => s.map (SB.ren (backOf ks0 nx (ks0.length + x.nw.length))))[i]? = some ((x.hp[i]).map (SB.ren (backOf ks0 nx (ks0.length + x.nw.length)))) := by simp [List.getElem?_map, List.getElem?_eq_getElem hlt]
      rw [updW_at hnd hi hz, updW_at hnd hi hz]
  rw [hw]
/-! ### A call that only reads -/
def roOut (ks : List Nat) (nx : Nat) (x : Out) : Tr Eff := cond (Nat.beq x.hp.length ks.length && ks.all fun b => Nat.blt b nx) (.br x.pre (.ret ⟨x.tv.ren (backOf ks nx (ks.length + x.nw.length)), [], []⟩) .fail) .fail
/-- A summary by cases that leaves all as it was. -/
def roSumT (g : List SV → List SB → Cs) : Sum := fun args nx => clo 60 (args.flatMap SV.ids) [] [] fun ks sbs =>
  (g (args.map (SV.ren fun b => posOf b ks 0)) (sbs.map (SB.ren fun b => posOf b ks 0))).tr (roOut ks nx)
theorem cloR_closed {look : Look} {ks' : List Nat} {sbs' : List SB} : ∀ {k : Nat} {todo ks : List Nat} {sbs : List SB}, (∀ s ∈ sbs, ∀ b ∈ s.ids, b ∈ ks ∨ b ∈ todo) → cloR look k todo ks sbs = some (ks', sbs') → ∀ s ∈ sbs', ∀ b ∈ s.ids, b ∈ ks'
  | 0, _, _, _, _, h => by cases h
  | k + 1, [], ks, sbs, hc, h => by
    cases h
    intro s hs b hb
    rcases hc s hs b hb with h | h
    · exact h
    · simp at h
  | k + 1, b :: todo, ks, sbs, hc, h => by
    unfold cloR at h
    cases hm : memN b ks with
    | true =>
      rw [hm] at h
      refine cloR_closed (fun s hs c hb => ?_) h
      rcases hc s hs c hb with h | h
      · exact .inl h
      · rcases List.mem_cons.1 h with rfl | h
        · exact .inl (memN_iff.1 hm)
        · exact .inr h
    | false =>
      rw [hm] at h
      simp only [cond_false] at h
      cases hs : look b with
      | none => rw [hs] at h; cases h
      | some s0 =>
        rw [hs] at h
        refine cloR_closed (fun s hs c hb => ?_) h
        rcases List.mem_append.1 hs with hs | hs
        · rcases hc s hs c hb with h | h
          · exact .inl (List.mem_append_left _ h)
          · rcases List.mem_cons.1 h with rfl | h
            · exact .inl (List.mem_append_right _ (by simp))
            · exact .inr (List.mem_append_left _ h)
        · have : s = s0 := by simpa using hs
          subst this
          exact .inr (List.mem_append_right _ hb)
theorem back_pos {ks : List Nat} {nx n b : Nat} (h : b ∈ ks) (hn : ks.Nodup) : ∃ i, posOf b ks 0 = some i ∧ backOf ks nx n i = some b := by
  obtain ⟨i, hi⟩ := List.getElem?_of_mem h
  refine ⟨i, by simpa using posOf_of_get (i := 0) hn hi, ?_⟩
  unfold backOf
  rw [if_pos (List.getElem?_eq_some_iff.1 hi).1, hi]
theorem CV.ren_back {ks : List Nat} {nx n : Nat} (hn : ks.Nodup) {x : CV} (h : ∀ b ∈ x.ids, b ∈ ks) : (x.ren fun b => posOf b ks 0).ren (backOf ks nx n) = x := by
  cases x with
  | ptr b o =>
    obtain ⟨i, h1, h2⟩ := back_pos (nx := nx) (n := n) (h b (by simp [CV.ids])) hn
    simp [CV.ren, h1, h2]
  | eptr b j o =>
    obtain ⟨i, h1, h2⟩ := back_pos (nx := nx) (n := n) (h b (by simp [CV.ids])) hn
    simp [CV.ren, h1, h2]
  | iptr b j o m =>
    obtain ⟨i, h1, h2⟩ := back_pos (nx := nx) (n := n) (h b (by simp [CV.ids])) hn
    simp [CV.ren, h1, h2]
  | slc b j o =>
    obtain ⟨i, h1, h2⟩ := back_pos (nx := nx) (n := n) (h b (by simp [CV.ids])) hn
    simp [CV.ren, h1, h2]
  | asl b j o =>
    obtain ⟨i, h1, h2⟩ := back_pos (nx := nx) (n := n) (h b (by simp [CV.ids])) hn
    simp [CV.ren, h1, h2]
  | mp b =>
    obtain ⟨i, h1, h2⟩ := back_pos (nx := nx) (n := n) (h b (by simp [CV.ids])) hn
    simp [CV.ren, h1, h2]
  | _ => rfl
theorem CVs.ren_back {ks : List Nat} {nx n : Nat} (hn : ks.Nodup) : ∀ {l : List CV}, (∀ b ∈ l.flatMap CV.ids, b ∈ ks) → (l.map (CV.ren fun b => posOf b ks 0)).map (CV.ren (backOf ks nx n)) = l
  | [], _ => rfl
  | x :: r, h => by
    simp only [List.map_cons]
    rw [CV.ren_back hn fun b hb => h b (by simp [hb]), CVs.ren_back hn fun b hb => h b (by simp only [List.flatMap_cons, List.mem_append]; exact .inr hb)]
theorem SB.ren_back {ks : List Nat} {nx n : Nat} (hn : ks.Nodup) {s : SB} (h : ∀ b ∈ s.ids, b ∈ ks) : (s.ren fun b => posOf b ks 0).ren (backOf ks nx n) = s := by
  cases s with
  | cells cs => simp only [SB.ren]; rw [CVs.ren_back hn h]
  | vec es pre c => simp only [SB.ren]; rw [CVs.ren_back hn h]
  | ro es c => rfl
  | mapi es => rfl
  | mapb es =>
    simp only [SB.ren, List.map_map]
    congr 1
    have : ∀ p ∈ es, ((fun x : Int × CV => (x.1, x.2.ren (backOf ks nx n))) ∘ fun x : Int × CV => (x.1, x.2.ren fun b => posOf b ks 0)) p = p := by
      intro p hp
      have := CVs.ren_back (nx := nx) (n := n) hn (l := [p.2]) (fun b hb => h b (by simp only [SB.ids, List.mem_flatMap]; exact ⟨p, hp, by simpa using hb⟩))
      simp only [List.map_cons, List.map_nil, List.cons.injEq, and_true] at this
      simp [this]
    rw [List.map_congr_left this]
    simp
  | iter b m =>
    cases b with
    | none => rfl
    | some b =>
      obtain ⟨i, h1, h2⟩ := back_pos (nx := nx) (n := n) (h b (by simp [SB.ids])) hn
      simp [SB.ren, h1, h2]
/-- It leaves all as it was. -/
def Cs.same (hp : List SB) : Cs → Prop
  | .out x => x.hp = hp.map some ∧ x.nw = []
  | .br _ t e => t.same hp ∧ e.same hp
  | .no => True
theorem Cs.same_pick {hp : List SB} {x : Out} : ∀ {c : Cs}, c.same hp → c.pick = some x → x.hp = hp.map some ∧ x.nw = []
  | .out y, h, h' => by cases h'; exact h
  | .br b t e, h, h' => by
    cases b
    · exact Cs.same_pick (c := e) h.2 h'
    · exact Cs.same_pick (c := t) h.1 h'
  | .no, _, h => by cases h
theorem sumOk_ro {f : FuncId} {g : List SV → List SB → Cs} (hs : ∀ args hp, (g args hp).same hp) (h : SumOk P f (genSumT g)) : SumOk P f (roSumT g) := by
  refine ⟨h.1, fun C w1 S ρ look w args vs nx e rds ha H hn hsem => ?_⟩
  unfold roSumT at hsem
  obtain ⟨ks, sbs, rds0, hR, hs0⟩ := clo_cloR hsem
  have hF := cloR_found (⟨rfl, rfl, fun i b h => by simp at h⟩ : Found look [] []) hR
  have hcl := cloR_closed (fun s hs => by simp at hs) hR
  obtain ⟨x, hx, hsx⟩ := Cs.tr_pick hs0
  obtain ⟨e1, e2⟩ := Cs.same_pick (hs _ _) hx
  unfold roOut at hsx
  obtain ⟨h1, hsx⟩ := cond_sem.1 hsx
  obtain ⟨h2, hsx⟩ := br_sem.1 hsx
  rw [ret_sem] at hsx
  cases hsx
  have hgo : (genOut ks nx x).sem look = some (⟨x.tv.ren (backOf ks nx (ks.length + x.nw.length)), ks.zip (x.hp.map fun s => s.map (SB.ren (backOf ks nx (ks.length + x.nw.length)))), x.nw.map (SB.ren (backOf ks nx (ks.length + x.nw.length)))⟩, []) := by
    unfold genOut
    refine cond_sem.2 ⟨h1, br_sem.2 ⟨h2, ?_⟩⟩
    rw [ret_sem]
  obtain ⟨rds', hfin⟩ := cloR_clo (K := fun ks sbs => (g (args.map (SV.ren fun b => posOf b ks 0)) (sbs.map (SB.ren fun b => posOf b ks 0))).tr (genOut ks nx)) (Cs.tr_pick' hx hgo) hR
  have hup : upd look ⟨x.tv.ren (backOf ks nx (ks.length + x.nw.length)), ks.zip (x.hp.map fun s => s.map (SB.ren (backOf ks nx (ks.length + x.nw.length)))), x.nw.map (SB.ren (backOf ks nx (ks.length + x.nw.length)))⟩ nx = look := by
    funext b
    unfold upd
    rw [e2]
    simp only [List.map_nil, List.length_nil, Nat.add_zero]
    have hw : updW look (ks.zip (x.hp.map fun s => s.map (SB.ren (backOf ks nx ks.length)))) b = look b := by
      cases hp : posOf b ks 0 with
      | none => rw [updW_not (posOf_none hp)]
      | some i =>
        obtain ⟨_, hi⟩ := posOf_get hp
        have hi : ks[i]? = some b := by simpa using hi
        have hlt : i < sbs.length := by rw [hF.len]; exact (List.getElem?_eq_some_iff.1 hi).1
        have hsb : sbs[i]? = some sbs[i] := List.getElem?_eq_getElem hlt
        have hz : (x.hp.map fun s => s.map (SB.ren (backOf ks nx ks.length)))[i]? = some (some sbs[i]) := by
          rw [e1]
          simp only [List.map_map, List.getElem?_map, hsb, Option.map_some, Function.comp]
          rw [SB.ren_back (nodupN_spec hF.nodup) (hcl _ (List.getElem_mem hlt))]
        rw [updW_at (nodupN_spec hF.nodup) hi hz, hF.look i b hi, hsb]
    split
    · rw [if_neg (by omega)]; exact hw
    · exact hw
  refine (h.2 C w1 S ρ look w args vs nx _ rds' ha H (fun j hj => ?_) hfin).mono ?_
  · rw [e2] at hj; simp at hj
  · rintro y w' ⟨v, ρ', q1, q2, q3, q4, q5⟩
    refine ⟨v, ρ', q1, q2, ?_, q4, ?_⟩
    · rw [e2] at q3; exact q3
    · rw [hup] at q5
      rw [upd_nil]
      exact q5
theorem sumOk_nearRo {f : FuncId} {g : List SV → List SB → Cs} {cv : List SB → List SB} (hcv : ∀ hp, nearH hp (cv hp)) (h : SumOk P f (roSumT g)) : SumOk P f (roSumT fun args hp => g args (cv hp)) := by
  refine h.near fun args nx look e rds hs => ?_
  unfold roSumT at hs
  obtain ⟨ks0, sbs0, rds0, hR, hs0⟩ := clo_cloR hs
  obtain ⟨look', sbs2, hnear, hR2, hsb2, hout, hnd⟩ := near_find hcv hR
  obtain ⟨x, hx, hsx⟩ := Cs.tr_pick hs0
  have hx' : (g (args.map (SV.ren fun b => posOf b ks0 0)) (sbs2.map (SB.ren fun b => posOf b ks0 0))).pick = some x := by
    rw [hsb2]; exact hx
  unfold roOut at hsx
  obtain ⟨h1, hsx⟩ := cond_sem.1 hsx
  obtain ⟨h2, hsx⟩ := br_sem.1 hsx
  rw [ret_sem] at hsx
  have hgo : (roOut ks0 nx x).sem look' = some (e, []) := by
    unfold roOut
    refine cond_sem.2 ⟨h1, br_sem.2 ⟨h2, ?_⟩⟩
    rw [ret_sem]
    cases hsx
    rfl
  obtain ⟨rds', hfin⟩ := cloR_clo (K := fun ks sbs => (g (args.map (SV.ren fun b => posOf b ks 0)) (sbs.map (SB.ren fun b => posOf b ks 0))).tr (roOut ks nx)) (Cs.tr_pick' hx' hgo) hR2
  refine ⟨look', rds', hnear, hfin, ?_⟩
  cases hsx
  rw [upd_nil, upd_nil]
  exact hnear.symm
end
end Go.Proofs.YtkkacjmjjhjpeaaDoor.Sx

namespace Go.Proofs.YtkkacjmjjhjpeaaDoor.Sx
open Go
/-- The same, of which just the first kN blocks are kept in their places. -/
def runFnN {R : Type} (P : Program) (Su : Sums) (L : List (Nat × LoopSum)) (fuel kN : Nat) (fn : Func) (c : Code) (args : List SV) (hp0 : List SB) (K : TV → List (Option SB) → Option R) : Option R :=
  forceStD ⟨argsT 0 args, hp0.map some, hp0.length, args.length + (fn.ntmps - args.length)⟩ fun st =>
    run P Su L fuel kN (resMask fn.results.toList) c [] (resMask fn.results.toList) st fun e st' => match e with
      | .exit _ => none
      | _ => match resEs P st'.tm st'.hp fn.results.toList with
        | some l => finK kN st'.hp (TV.list l) K
        | none => none
section
variable {P : Program} {Su : Sums} {C : Ctx} {w1 : World} {S : Nat → Prop} {ρ : Rho}
theorem runFnN_sound {R : Type} (hS : SumsOk P Su) (hm : P.follows .mixedOrders = true) {L : List (Nat × LoopSum)} {fuel kN : Nat} {f : FuncId} {fn : Func} {c : Code} (hf : P.funcs[f]? = some fn) (hb : fn.body = some c) {args : List SV} {hp0 : List SB} {K : TV → List (Option SB) → Option R} {r : R}
    (hL : LoopsOk P Su L fuel kN (resMask fn.results.toList) (loopsOf (resMask fn.results.toList) c [] (resMask fn.results.toList)))
    (h : runFnN P Su L fuel kN fn c args hp0 K = some r) {w : World} {vs : List Value} (hargs : SL (SV.R C.X ρ) args vs) (H : HRep C w1 S ρ (lookL (hp0.map some)) w) (hdom : ∀ b, hp0.length ≤ b → ρ b = none) :
    Calls P f vs.toArray w fun x w' => ∃ tv hp' v ρ', K tv hp' = some r ∧ x = .returned v ∧ ρ.agree kN ρ' ∧ tv.R C.X ρ' v ∧ HRep C w1 S ρ' (lookL hp') w' ∧ (∀ b, hp'.length ≤ b → ρ' b = none) := by
  unfold runFnN at h
  rw [forceStD_eq] at h
  refine calls_of_wp hf hb ?_
  have hlen := hargs.length
  have hT : ∀ (l : List SV) (i t : Nat) (tv : TV), getT (argsT i l) t = some tv → ∃ x, i ≤ t ∧ l[t - i]? = some x ∧ tv = .s x := by
    intro l
    induction l with
    | nil => intro i t tv h; cases h
    | cons v r ih =>
      intro i t tv h
      simp only [argsT, getT] at h
      cases hb : Nat.beq i t with
      | true =>
        have := Nat.eq_of_beq_eq_true hb
        subst this
        simp only [hb, cond_true, Option.some.injEq] at h
        exact ⟨v, Nat.le_refl _, by simp, h.symm⟩
      | false =>
        simp only [hb, cond_false] at h
        obtain ⟨x, h1, h2, h3⟩ := ih (i + 1) t tv h
        refine ⟨x, by omega, ?_, h3⟩
        rw [show t - i = (t - (i + 1)) + 1 by omega, List.getElem?_cons_succ]
        exact h2
  have R0 : StRep C w1 S ρ ⟨argsT 0 args, hp0.map some, hp0.length, args.length + (fn.ntmps - args.length)⟩ { tmps := vs.toArray ++ Array.replicate (fn.ntmps - vs.toArray.size) undef, defers := [] } w := by
    refine ⟨?_, ?_, rfl, H, by simp, hdom⟩
    · simp [hlen]
    · intro t tv ht
      obtain ⟨x, _, hx, rfl⟩ := hT args 0 t tv ht
      rw [Nat.sub_zero] at hx
      obtain ⟨u, h1, h2⟩ := hargs.get t x hx
      refine ⟨u, ?_, h2⟩
      have hlt := (List.getElem?_eq_some_iff.1 h1).1
      rw [Array.getElem?_append_left (by simpa using hlt)]
      simpa using h1
  have main : ∀ (e : Ex) st' ρ' a' w', (match e with
      | .exit _ => none
      | _ => match resEs P st'.tm st'.hp fn.results.toList with
        | some l => finK kN st'.hp (TV.list l) K
        | none => none) = some r → ρ.agree kN ρ' → StRep C w1 S ρ' st' a' w' → (e = .normal ∨ e = .ret) → a'.defers = [] ∧ ∃ v, (results fn a'.tmps).run P w' = .ok v w' ∧
        ∃ tv hp' u ρ'', K tv hp' = some r ∧ Ending.returned v = .returned u ∧ ρ.agree kN ρ'' ∧ tv.R C.X ρ'' u ∧ HRep C w1 S ρ'' (lookL hp') w' ∧ (∀ b, hp'.length ≤ b → ρ'' b = none) := by
    intro e st' ρ' a' w' hk hag R' he
    refine ⟨R'.defers, ?_⟩
    have hk' : (match resEs P st'.tm st'.hp fn.results.toList with
        | some l => finK kN st'.hp (TV.list l) K
        | none => none) = some r := by
      rcases he with rfl | rfl <;> exact hk
    split at hk'
    · rename_i l hl
      obtain ⟨us, h1, h2⟩ := resEs_run R' hl
      have hv := TV.list_R h2
      obtain ⟨tv', hp', ρ'', g1, g2, g3, g4, g5⟩ := finK_sound hk' R' hv
      refine ⟨_, ?_, tv', hp', _, ρ'', g1, rfl, hag.trans g2, g3, g4, g5⟩
      unfold results
      rw [Sem.run_bind, Array.mapM_eq_mapM_toList, Sem.run_map]
      erw [h1]
      rfl
    · cases hk'
  refine run_sound hS hm hL h R0 ?_
  intro e st' ρ' a' w' hk hag R'
  cases e with
  | normal => exact main .normal st' ρ' a' w' hk hag R' (.inl rfl)
  | ret => exact main .ret st' ρ' a' w' hk hag R' (.inr rfl)
  | exit id => cases hk

end
section
variable {P : Program} {Su : Sums}
/-- What is to be shown of a summary. -/
structure FitsN (look : Look) (args : List SV) (nx : Nat) (e : Eff) (kN : Nat) (ks : List Nat) (args0 : List SV) (hp0 : List SB) (tv : TV) (hp' : List (Option SB)) : Prop where
  nodup : nodupN ks = true
  le : kN ≤ ks.length
  args : args.map (SV.ren fun b => posOf b ks 0) = args0
  len : hp0.length = ks.length
  blks : ∀ (i b : Nat), ks[i]? = some b → ∃ sb, look b = some sb ∧ hp0[i]? = some (sb.ren fun b => posOf b ks 0)
  len' : hp'.length = (ks.take kN).length + e.nw.length
  sv : tv.ren (backOf (ks.take kN) nx hp'.length) = e.sv
  old : ∀ (i b : Nat), (ks.take kN)[i]? = some b → upd look e nx b = (lookL hp' i).map (SB.ren (backOf (ks.take kN) nx hp'.length))
  gone : ∀ (i b : Nat), ks[i]? = some b → kN ≤ i → upd look e nx b = none
  new : ∀ (j : Nat), j < e.nw.length → upd look e nx (nx + j) = (lookL hp' ((ks.take kN).length + j)).map (SB.ren (backOf (ks.take kN) nx hp'.length))
  oth : ∀ (b : Nat), b ∉ ks → ¬ (nx ≤ b ∧ b < nx + e.nw.length) → upd look e nx b = look b
theorem sumOk_ofN (hS : SumsOk P Su) (hm : P.follows .mixedOrders = true) {f : FuncId} {fn : Func} {c : Code} (hf : P.funcs[f]? = some fn) (hb : fn.body = some c) (hname : (fn.name == "runtime.NumGoroutine") = false) {s : Sum}
    (h : ∀ (args : List SV) (nx : Nat) (look : Look) (e : Eff) (rds : List Nat), (s args nx).sem look = some (e, rds) → ∃ (ks : List Nat) (args0 : List SV) (hp0 : List SB) (tv : TV) (hp' : List (Option SB)) (L : List (Nat × LoopSum)) (fuel kN : Nat), FitsN look args nx e kN ks args0 hp0 tv hp' ∧ LoopsOk P Su L fuel kN (resMask fn.results.toList) (loopsOf (resMask fn.results.toList) c [] (resMask fn.results.toList)) ∧ runFnN P Su L fuel kN fn c args0 hp0 (fun tv hp => some (tv, hp)) = some (tv, hp')) : SumOk P f s := by
  refine ⟨⟨fn, hf, by simp [hb], hname⟩, ?_⟩
  intro C w1 S ρ look w args vs nx e rds hargs H hnew hs
  obtain ⟨ks, args0, hp0, tv, hp', L, fuel, kN, F, hL, hrun⟩ := h args nx look e rds hs
  have hnd := nodupN_spec F.nodup
  have hπ : ∀ b i, posOf b ks 0 = some i → rhoOf ρ ks i = ρ b := by
    intro b i h
    have := (posOf_get h).2
    simp only [Nat.sub_zero] at this
    simp [rhoOf, this]
  let Sc : Nat → Prop := fun n => ∃ b sb l, b ∈ ks ∧ look b = some sb ∧ sb.own = true ∧ ρ b = some l ∧ l.nil = false ∧ l.blk = n
  have hlook0 : ∀ i s, lookL (hp0.map some) i = some s → ∃ b sb, ks[i]? = some b ∧ look b = some sb ∧ s = sb.ren (fun b => posOf b ks 0) := by
    intro i s hi
    simp only [lookL, List.getElem?_map] at hi
    cases hx : hp0[i]? with
    | none => simp [hx] at hi
    | some x =>
      have hlt : i < ks.length := by rw [← F.len]; exact (List.getElem?_eq_some_iff.1 hx).1
      obtain ⟨sb, h1, h2⟩ := F.blks i ks[i] (List.getElem?_eq_getElem hlt)
      rw [hx] at h2
      simp only [hx, Option.map_some, Option.some.injEq] at hi
      exact ⟨ks[i], sb, List.getElem?_eq_getElem hlt, h1, by rw [← hi]; exact Option.some.inj h2⟩
  have H0 : HRep C w Sc (rhoOf ρ ks) (lookL (hp0.map some)) w := by
    refine ⟨?_, ?_, ?_, H.out, fun _ _ _ => rfl, Nat.le_refl _, rfl, rfl, rfl⟩
    · intro i s hi
      obtain ⟨b, sb, h1, h2, rfl⟩ := hlook0 i s hi
      obtain ⟨l, h3, h4⟩ := H.blk b sb h2
      exact ⟨l, by simp [rhoOf, h1, h3], h4.ren hπ⟩
    · intro i j s s' l l' hi hj ho ho' hl hl' hn hn' hne
      obtain ⟨b, sb, h1, h2, rfl⟩ := hlook0 i s hi
      obtain ⟨b', sb', h1', h2', rfl⟩ := hlook0 j s' hj
      rw [SB.own_ren] at ho ho'
      simp only [rhoOf, h1] at hl
      simp only [rhoOf, h1'] at hl'
      refine H.inj b b' sb sb' l l' h2 h2' ho ho' hl hl' hn hn' ?_
      rintro rfl
      obtain ⟨hi, e1⟩ := List.getElem?_eq_some_iff.1 h1
      obtain ⟨hj, e2⟩ := List.getElem?_eq_some_iff.1 h1'
      exact hne ((List.getElem_inj hnd).1 (e1.trans e2.symm))
    · intro i s l hi ho hl hn
      obtain ⟨b, sb, h1, h2, rfl⟩ := hlook0 i s hi
      rw [SB.own_ren] at ho
      simp only [rhoOf, h1] at hl
      obtain ⟨g1, g2, _⟩ := H.own b sb l h2 ho hl hn
      exact ⟨g1, g2, .inl ⟨b, sb, l, List.mem_of_getElem? h1, h2, ho, hl, hn, rfl⟩⟩
  have hargs0 : SL (SV.R C.X (rhoOf ρ ks)) args0 vs := by rw [← F.args]; exact hargs.ren hπ
  have hdom0 : ∀ b, hp0.length ≤ b → rhoOf ρ ks b = none := by
    intro b hb
    rw [F.len] at hb
    simp [rhoOf, List.getElem?_eq_none hb]
  refine (runFnN_sound hS hm hf hb hL hrun hargs0 H0 hdom0).mono ?_
  rintro x w' ⟨tv', hp'', v, ρ', hK, rfl, hag, hv, H', hdom'⟩
  simp only [Option.some.injEq, Prod.mk.injEq] at hK
  obtain ⟨rfl, rfl⟩ := hK
  have hkl : (ks.take kN).length = kN := by simp [F.le]
  have htk : ∀ i b, (ks.take kN)[i]? = some b → ks[i]? = some b ∧ i < kN := by
    intro i b hi
    have hlt := (List.getElem?_eq_some_iff.1 hi).1
    rw [hkl] at hlt
    rw [List.getElem?_take_of_lt hlt] at hi
    exact ⟨hi, hlt⟩
  have hksρ : ∀ i b, (ks.take kN)[i]? = some b → ∃ l, ρ b = some l ∧ ρ' i = some l := by
    intro i b hi
    obtain ⟨hi, hlt⟩ := htk i b hi
    obtain ⟨sb, h1, _⟩ := F.blks i b hi
    obtain ⟨l, h3, _⟩ := H.blk b sb h1
    exact ⟨l, h3, hag i hlt l (by simp [rhoOf, hi, h3])⟩
  have hnotnew : ∀ b l, ρ b = some l → ¬ (nx ≤ b ∧ b < nx + e.nw.length) := by
    intro b l hb ⟨h1, h2⟩
    have := hnew (b - nx) (by omega)
    rw [show nx + (b - nx) = b by omega, hb] at this
    cases this
  let ρ2 : Rho := fun b => if nx ≤ b ∧ b < nx + e.nw.length then ρ' ((ks.take kN).length + (b - nx)) else ρ b
  have hle : ρ.le ρ2 := by
    intro b l hb
    show (if nx ≤ b ∧ b < nx + e.nw.length then ρ' ((ks.take kN).length + (b - nx)) else ρ b) = some l
    rw [if_neg (hnotnew b l hb)]
    exact hb
  have hbk : ∀ i j, backOf (ks.take kN) nx hp''.length i = some j → ρ2 j = ρ' i := by
    intro i j h
    unfold backOf at h
    split at h
    · rename_i hlt
      obtain ⟨l, h1, h2⟩ := hksρ i j h
      rw [hle j l h1, h2]
    · split at h
      · rename_i hge hlt
        cases h
        show (if nx ≤ nx + (i - (ks.take kN).length) ∧ nx + (i - (ks.take kN).length) < nx + e.nw.length then ρ' ((ks.take kN).length + (nx + (i - (ks.take kN).length) - nx)) else ρ (nx + (i - (ks.take kN).length))) = ρ' i
        have := F.len'
        rw [if_pos (by omega)]
        congr 1
        omega
      · cases h
  -- where a live block comes from
  have orig : ∀ b sb, upd look e nx b = some sb → (∃ i s, lookL hp'' i = some s ∧ sb = s.ren (backOf (ks.take kN) nx hp''.length) ∧ ρ2 b = ρ' i ∧ backOf (ks.take kN) nx hp''.length i = some b) ∨ (look b = some sb ∧ b ∉ ks ∧ ρ2 b = ρ b) := by
    intro b sb hb
    by_cases hk : b ∈ ks
    · obtain ⟨i, hi, rfl⟩ := List.getElem_of_mem hk
      have hi' : ks[i]? = some ks[i] := List.getElem?_eq_getElem hi
      by_cases hlt : i < kN
      · have hi2 : (ks.take kN)[i]? = some ks[i] := by rw [List.getElem?_take_of_lt hlt]; exact hi'
        rw [F.old i _ hi2, Option.map_eq_some_iff] at hb
        obtain ⟨s, h1, rfl⟩ := hb
        have hbi : backOf (ks.take kN) nx hp''.length i = some ks[i] := by
          unfold backOf
          rw [if_pos (by rw [hkl]; exact hlt), hi2]
        exact .inl ⟨i, s, h1, rfl, hbk _ _ hbi, hbi⟩
      · rw [F.gone i _ hi' (by omega)] at hb
        cases hb
    · by_cases hn : nx ≤ b ∧ b < nx + e.nw.length
      · have hj := F.new (b - nx) (by omega)
        rw [show nx + (b - nx) = b by omega] at hj
        rw [hj, Option.map_eq_some_iff] at hb
        obtain ⟨s, h1, rfl⟩ := hb
        have hbi : backOf (ks.take kN) nx hp''.length ((ks.take kN).length + (b - nx)) = some b := by
          unfold backOf
          have := F.len'
          rw [if_neg (by omega), if_pos (by omega)]
          congr 1
          omega
        exact .inl ⟨_, s, h1, rfl, hbk _ _ hbi, hbi⟩
      · rw [F.oth b hk hn] at hb
        refine .inr ⟨hb, hk, ?_⟩
        show (if nx ≤ b ∧ b < nx + e.nw.length then ρ' ((ks.take kN).length + (b - nx)) else ρ b) = ρ b
        rw [if_neg hn]
  have notSc : ∀ b sb l, look b = some sb → b ∉ ks → sb.own = true → ρ b = some l → l.nil = false → ¬ Sc l.blk ∧ l.blk < w.heap.size := by
    intro b sb l h1 h2 h3 h4 h5
    refine ⟨?_, (H.own b sb l h1 h3 h4 h5).2.1⟩
    rintro ⟨b', sb', l', g1, g2, g3, g4, g5, g6⟩
    exact H.inj b b' sb sb' l l' h1 g2 h3 g3 h4 g4 h5 g5 (fun e => h2 (e ▸ g1)) g6.symm
  refine ⟨v, ρ2, rfl, hle, ?_, ?_, ?_⟩
  · intro b l hb
    by_cases hn : nx ≤ b ∧ b < nx + e.nw.length
    · exact .inr hn
    · left
      have : ρ2 b = ρ b := by
        show (if nx ≤ b ∧ b < nx + e.nw.length then ρ' ((ks.take kN).length + (b - nx)) else ρ b) = ρ b
        rw [if_neg hn]
      rw [← this]; exact hb
  · rw [← F.sv]
    exact hv.ren hbk
  · refine ⟨?_, ?_, ?_, H'.out, ?_, Nat.le_trans H.size H'.size, ?_⟩
    · intro b sb hb
      rcases orig b sb hb with ⟨i, s, h1, rfl, h2, _⟩ | ⟨h1, h2, h3⟩
      · obtain ⟨l, h3, h4⟩ := H'.blk i s h1
        exact ⟨l, by rw [h2]; exact h3, h4.ren hbk⟩
      · obtain ⟨l, h4, h5⟩ := H.blk b sb h1
        refine ⟨l, by rw [h3]; exact h4, BlkR.mono hle ?_⟩
        cases hso : sb.own with
        | true =>
          cases hmn : l.nil with
          | true =>
            cases sb with
            | cells cs => exact absurd h5.1 (by simp [hmn])
            | vec es pre cc =>
              rcases h5 with h5 | h5
              · exact .inl h5
              · exact absurd h5.1 (by simp [hmn])
            | ro es cc => simp [SB.own] at hso
            | mapi es => exact absurd h5.1 (by simp [hmn])
            | mapb es => exact absurd h5.1 (by simp [hmn])
            | iter b n => exact absurd h5.1 (by simp [hmn])
          | false =>
            obtain ⟨g1, g2⟩ := notSc b sb l h1 h2 hso h4 hmn
            exact h5.heap (H'.frame _ g2 g1)
        | false =>
          cases sb with
          | ro es cc =>
            rcases h5 with ⟨he, h5 | ⟨arr, t, fr, hIm, e1, h6⟩⟩
            · exact ⟨he, .inl h5⟩
            · exact ⟨he, .inr ⟨arr, t, fr, hIm, ((H'.out _ hIm).1.trans (H.out _ hIm).1.symm).trans e1, h6⟩⟩
          | _ => simp [SB.own] at hso
    · intro b b' sb sb' l l' hb hb' ho ho' hl hl' hn hn' hne
      rcases orig b sb hb with ⟨i, s, h1, rfl, h2, h2'⟩ | ⟨h1, h2, h3⟩
      · rw [SB.own_ren] at ho
        rw [h2] at hl
        rcases orig b' sb' hb' with ⟨i', s', g1, rfl, g2, g2'⟩ | ⟨g1, g2, g3⟩
        · rw [SB.own_ren] at ho'
          rw [g2] at hl'
          refine H'.inj i i' s s' l l' h1 g1 ho ho' hl hl' hn hn' ?_
          rintro rfl
          rw [h2'] at g2'
          exact hne (Option.some.inj g2')
        · rw [g3] at hl'
          obtain ⟨q1, q2⟩ := notSc b' sb' l' g1 g2 ho' hl' hn'
          obtain ⟨_, _, q3⟩ := H'.own i s l h1 ho hl hn
          intro he
          rw [he] at q3
          rcases q3 with q3 | q3
          · exact q1 q3
          · omega
      · rw [h3] at hl
        obtain ⟨q1, q2⟩ := notSc b sb l h1 h2 ho hl hn
        rcases orig b' sb' hb' with ⟨i', s', g1, rfl, g2, g2'⟩ | ⟨g1, g2, g3⟩
        · rw [SB.own_ren] at ho'
          rw [g2] at hl'
          obtain ⟨_, _, q3⟩ := H'.own i' s' l' g1 ho' hl' hn'
          intro he
          rw [← he] at q3
          rcases q3 with q3 | q3
          · exact q1 q3
          · omega
        · rw [g3] at hl'
          exact H.inj b b' sb sb' l l' h1 g1 ho ho' hl hl' hn hn' hne
    · intro b sb l hb ho hl hn
      rcases orig b sb hb with ⟨i, s, h1, rfl, h2, _⟩ | ⟨h1, h2, h3⟩
      · rw [SB.own_ren] at ho
        rw [h2] at hl
        obtain ⟨q1, q2, q3⟩ := H'.own i s l h1 ho hl hn
        refine ⟨q1, q2, ?_⟩
        rcases q3 with ⟨b2, sb2, l2, g1, g2, g3, g4, g5, g6⟩ | q3
        · have := (H.own b2 sb2 l2 g2 g3 g4 g5).2.2
          rw [g6] at this
          exact this
        · exact .inr (Nat.le_trans H.size q3)
      · rw [h3] at hl
        obtain ⟨q1, q2, q3⟩ := H.own b sb l h1 ho hl hn
        exact ⟨q1, Nat.lt_of_lt_of_le q2 H'.size, q3⟩
    · intro n hn hSn
      rw [H'.frame n (Nat.lt_of_lt_of_le hn H.size) ?_]
      · exact H.frame n hn hSn
      · rintro ⟨b2, sb2, l2, g1, g2, g3, g4, g5, g6⟩
        have := (H.own b2 sb2 l2 g2 g3 g4 g5).2.2
        rw [g6] at this
        rcases this with this | this
        · exact hSn this
        · omega
    · exact ⟨H'.env.1.trans H.env.1, H'.env.2.1.trans H.env.2.1, H'.env.2.2.trans H.env.2.2⟩


/-! ### Rows are used up -/
def isVec : SB → Bool
  | .vec _ _ _ => true
  | _ => false
def partC (p : List (Nat × SB)) : List (Nat × SB) := p.filter fun x => !isVec x.2
def partV (p : List (Nat × SB)) : List (Nat × SB) := p.filter fun x => isVec x.2
def orderV (p : List (Nat × SB)) : List (Nat × SB) := partC p ++ partV p
def nOut (kN : Nat) (ks : List Nat) (nx : Nat) (x : Out) : Tr Eff := cond (Nat.beq x.hp.length kN && (Nat.ble kN ks.length && ks.all fun b => Nat.blt b nx)) (.br x.pre
    (.ret ⟨x.tv.ren (backOf (ks.take kN) nx (kN + x.nw.length)), (ks.take kN).zip (x.hp.map fun s => s.map (SB.ren (backOf (ks.take kN) nx (kN + x.nw.length)))) ++ (ks.drop kN).map fun b => (b, none), x.nw.map (SB.ren (backOf (ks.take kN) nx (kN + x.nw.length)))⟩) .fail) .fail
/-- A summary by cases over what the arguments reach, rows behind all others: these are used up. -/
def genSumN (g : List SV → List SB → Cs) : Sum := fun args nx => clo 60 (args.flatMap SV.ids) [] [] fun ks0 sbs0 =>
  let p := orderV (ks0.zip sbs0)
  let ks := p.map (·.1)
  (g (args.map (SV.ren fun b => posOf b ks 0)) (p.map fun x => x.2.ren fun b => posOf b ks 0)).tr (nOut (partC (ks0.zip sbs0)).length ks nx)
theorem orderV_found {look : Look} {ks0 : List Nat} {sbs0 : List SB} (hF : Found look ks0 sbs0) : nodupN ((orderV (ks0.zip sbs0)).map (·.1)) = true ∧ (∀ (i b : Nat), ((orderV (ks0.zip sbs0)).map (·.1))[i]? = some b → ∃ s, look b = some s ∧ (orderV (ks0.zip sbs0))[i]? = some (b, s)) ∧ ∀ b, b ∈ (orderV (ks0.zip sbs0)).map (·.1) ↔ b ∈ ks0 := by
  have hperm : (orderV (ks0.zip sbs0)).Perm (ks0.zip sbs0) := by
    unfold orderV partC partV
    have := List.filter_append_perm (fun x : Nat × SB => !isVec x.2) (ks0.zip sbs0)
    simpa using this
  have hfst : (ks0.zip sbs0).map (·.1) = ks0 := by
    have := List.map_fst_zip (l₁ := ks0) (l₂ := sbs0) (by rw [hF.len]; exact Nat.le_refl _)
    simpa using this
  have hp2 : ((orderV (ks0.zip sbs0)).map (·.1)).Perm ks0 := by
    have := hperm.map (·.1)
    rwa [hfst] at this
  refine ⟨nodupN_of (hp2.nodup_iff.2 (nodupN_spec hF.nodup)), ?_, fun b => hp2.mem_iff⟩
  intro i b hi
  simp only [List.getElem?_map, Option.map_eq_some_iff] at hi
  obtain ⟨⟨b', s⟩, h1, rfl⟩ := hi
  have hm : (b', s) ∈ ks0.zip sbs0 := hperm.mem_iff.1 (List.mem_of_getElem? h1)
  obtain ⟨j, hj⟩ := List.getElem?_of_mem hm
  rw [List.getElem?_zip_eq_some] at hj
  exact ⟨s, by rw [hF.look j b' hj.1]; exact hj.2, h1⟩
theorem updW_append : ∀ {a b : List (Nat × Option SB)} {look : Look}, updW look (a ++ b) = updW (updW look a) b
  | [], _, _ => rfl
  | (k, s) :: a, b, look => by
    rw [List.cons_append]
    show updW _ (a ++ b) = _
    rw [updW_append]
    rfl
theorem updW_none {l : List Nat} {b : Nat} : ∀ {look : Look}, updW look (l.map fun c => (c, none)) b = if b ∈ l then none else look b := by
  induction l with
  | nil => intro look; simp [updW]
  | cons c r ih =>
    intro look
    simp only [List.map_cons, updW]
    rw [ih]
    by_cases h1 : b ∈ r
    · simp [h1]
    · by_cases h2 : b = c
      · simp [h2]
      · simp [h2]
theorem sumOk_genN (hS : SumsOk P Su) (hm : P.follows .mixedOrders = true) {f : FuncId} {fn : Func} {c : Code} (hf : P.funcs[f]? = some fn) (hb : fn.body = some c) (hname : (fn.name == "runtime.NumGoroutine") = false) {g : List SV → List SB → Cs}
    (h : ∀ args hp x, (g args hp).pick = some x → ∃ L fuel, LoopsOk P Su L fuel x.hp.length (resMask fn.results.toList) (loopsOf (resMask fn.results.toList) c [] (resMask fn.results.toList)) ∧ runFnN P Su L fuel x.hp.length fn c args hp (fun tv hp => some (tv, hp)) = (g args hp).run fun tv hp => some (tv, hp)) : SumOk P f (genSumN g) := by
  refine sumOk_ofN hS hm hf hb hname ?_
  intro args nx look e rds hs
  unfold genSumN at hs
  obtain ⟨ks0, sbs0, rds', hF, hs⟩ := clo_sem ⟨rfl, rfl, fun i b h => by simp at h⟩ hs
  obtain ⟨q1, q2, q3⟩ := orderV_found hF
  simp only at hs
  generalize hp : orderV (ks0.zip sbs0) = p at hs q1 q2 q3
  obtain ⟨x, hx, hs⟩ := Cs.tr_pick hs
  unfold nOut at hs
  obtain ⟨h1, hs⟩ := cond_sem.1 hs
  obtain ⟨h2, hs⟩ := br_sem.1 hs
  rw [ret_sem] at hs
  cases hs
  simp only [Bool.and_eq_true, List.all_eq_true, Nat.blt_eq, Nat.ble_eq] at h1
  obtain ⟨h1, h4, h3⟩ := h1
  have h1 := Nat.eq_of_beq_eq_true h1
  rw [← h1] at h4 ⊢
  clear h1
  obtain ⟨L, fuel, hL, hrun⟩ := h _ _ x hx
  rw [Cs.run_pick hx] at hrun
  have hkl : ((p.map (·.1)).take x.hp.length).length = x.hp.length := by rw [List.length_take]; omega
  have hnd := nodupN_spec q1
  have hnd2 : ((p.map (·.1)).take x.hp.length).Nodup := (List.take_sublist _ _).nodup hnd
  have hdis : ∀ b, b ∈ (p.map (·.1)).take x.hp.length → b ∉ (p.map (·.1)).drop x.hp.length := by
    intro b hb1 hb2
    have := List.take_append_drop x.hp.length (p.map (·.1))
    rw [← this, List.nodup_append] at hnd
    exact hnd.2.2 b hb1 b hb2 rfl
  have hold : ∀ b, b < nx → upd look ⟨x.tv.ren (backOf ((p.map (·.1)).take x.hp.length) nx (x.hp.length + x.nw.length)), ((p.map (·.1)).take x.hp.length).zip (x.hp.map fun s => s.map (SB.ren (backOf ((p.map (·.1)).take x.hp.length) nx (x.hp.length + x.nw.length)))) ++ ((p.map (·.1)).drop x.hp.length).map fun b => (b, none), x.nw.map (SB.ren (backOf ((p.map (·.1)).take x.hp.length) nx (x.hp.length + x.nw.length)))⟩ nx b =
      if b ∈ (p.map (·.1)).drop x.hp.length then none else updW look (((p.map (·.1)).take x.hp.length).zip (x.hp.map fun s => s.map (SB.ren (backOf ((p.map (·.1)).take x.hp.length) nx (x.hp.length + x.nw.length))))) b := by
    intro b hb
    unfold upd
    rw [if_neg (by omega), updW_append, updW_none]
  refine ⟨p.map (·.1), _, _, x.tv, _, L, fuel, x.hp.length, ⟨q1, h4, rfl, by simp, ?_, by simp only [List.length_append, List.length_map, hkl], ?_, ?_, ?_, ?_, ?_⟩, hL, hrun⟩
  · intro i b hi
    obtain ⟨s, k1, k2⟩ := q2 i b hi
    exact ⟨s, k1, by simp [List.getElem?_map, k2]⟩
  · simp
  · intro i b hi
    have hlt : i < x.hp.length := by have := (List.getElem?_eq_some_iff.1 hi).1; omega
    have hbm : b ∈ (p.map (·.1)).take x.hp.length := List.mem_of_getElem? hi
    have hb' := h3 b (List.mem_of_mem_take hbm)
    rw [hold b hb', if_neg (hdis b hbm)]
    rw [updW_at (i := i) (s := (x.hp[i]).map (SB.ren (backOf ((p.map (·.1)).take x.hp.length) nx (x.hp.length + x.nw.length)))) hnd2 hi (by simp [List.getElem?_map, List.getElem?_eq_getElem hlt])]
    simp only [lookL, List.length_append, List.length_map]
    rw [List.getElem?_append_left hlt, List.getElem?_eq_getElem hlt]
  · intro i b hi hge
    have hbm : b ∈ (p.map (·.1)).drop x.hp.length := by
      refine List.mem_of_getElem? (i := i - x.hp.length) ?_
      rw [List.getElem?_drop, show x.hp.length + (i - x.hp.length) = i by omega]
      exact hi
    rw [hold b (h3 b (List.mem_of_getElem? hi)), if_pos hbm]
  · intro j hj
    simp only [List.length_map] at hj
    simp only [upd, List.length_map, hkl]
    rw [if_pos (by omega), if_pos (by omega)]
    simp only [lookL, List.length_append, List.length_map]
    rw [List.getElem?_append_right (by omega), show x.hp.length + j - x.hp.length = j by omega, show nx + j - nx = j by omega]
    simp only [List.getElem?_map, List.getElem?_eq_getElem hj]
    rfl
  · intro b hb1 hb2
    simp only [List.length_map] at hb2
    simp only [upd, List.length_map]
    have hw : updW look (((p.map (·.1)).take x.hp.length).zip (x.hp.map fun s => s.map (SB.ren (backOf ((p.map (·.1)).take x.hp.length) nx (x.hp.length + x.nw.length)))) ++ ((p.map (·.1)).drop x.hp.length).map fun b => (b, none)) b = look b := by
      rw [updW_append, updW_none, if_neg (fun h => hb1 (List.mem_of_mem_drop h))]
      exact updW_not fun h => hb1 (List.mem_of_mem_take h)
    split
    · rw [if_neg (by omega)]; exact hw
    · exact hw

theorem filter_fst {φ : Nat × SB → Bool} : ∀ {ks : List Nat} {a b : List SB}, a.length = ks.length → b.length = ks.length → (∀ (i : Nat) (k : Nat) (s s' : SB), a[i]? = some s → b[i]? = some s' → φ (k, s) = φ (k, s')) → ((ks.zip a).filter φ).map (·.1) = ((ks.zip b).filter φ).map (·.1)
  | [], _, _, _, _, _ => by simp
  | k :: ks, s :: a, s' :: b, h1, h2, h => by
    have ih := filter_fst (φ := φ) (ks := ks) (a := a) (b := b) (by simpa using h1) (by simpa using h2) fun i k u u' e e' => h (i + 1) k u u' (by simpa using e) (by simpa using e')
    have h0 := h 0 k s s' (by simp) (by simp)
    simp only [List.zip_cons_cons, List.filter_cons, ← h0]
    cases φ (k, s) <;> simp [ih]
theorem SB.near.isVec {a b : SB} (h : a.near b) : isVec b = isVec a := by
  unfold SB.near at h
  split at h
  · rfl
  · subst h; rfl
theorem isVec_ren (π : Nat → Option Nat) (s : SB) : isVec (s.ren π) = isVec s := by cases s <;> rfl
/-- The same summary, of rows that are first written in another way. -/
theorem sumOk_nearN {f : FuncId} {g : List SV → List SB → Cs} {cv : List SB → List SB} (hcv : ∀ hp, nearH hp (cv hp)) (h : SumOk P f (genSumN g)) : SumOk P f (genSumN fun args hp => g args (cv hp)) := by
  refine h.near fun args nx look e rds hs => ?_
  unfold genSumN at hs
  obtain ⟨ks0, sbs0, rds0, hR, hs0⟩ := clo_cloR hs
  have hF0 := cloR_found (⟨rfl, rfl, fun i b h => by simp at h⟩ : Found look [] []) hR
  obtain ⟨q1, q2, q3⟩ := orderV_found hF0
  simp only at hs0
  generalize hp : orderV (ks0.zip sbs0) = p at hs0 q1 q2 q3
  have hnd := nodupN_spec q1
  let π : Nat → Option Nat := fun b => posOf b (p.map (·.1)) 0
  have hn := hcv (p.map fun x => x.2.ren π)
  let look' : Look := fun b => match look b, posOf b (p.map (·.1)) 0 with
    | some s, some i => match s, (cv (p.map fun x => x.2.ren π))[i]? with
      | .vec es [] c, some (.vec _ [] c') => some (.vec es [] c')
      | s, _ => some s
    | o, _ => o
  have key : ∀ b s i, look b = some s → posOf b (p.map (·.1)) 0 = some i → ∃ s2, look' b = some s2 ∧ s.near s2 ∧ (cv (p.map fun x => x.2.ren π))[i]? = some (s2.ren π) := by
    intro b s i hb hpb
    obtain ⟨_, hi⟩ := posOf_get hpb
    have hi : (p.map (·.1))[i]? = some b := by simpa using hi
    obtain ⟨s0, k1, k2⟩ := q2 i b hi
    rw [hb] at k1
    cases k1
    obtain ⟨s', h1, h2⟩ := hn.get i (s.ren π) (by simp [List.getElem?_map, k2])
    simp only [look', hb, hpb]
    rw [h1]
    cases s with
    | vec es pre c =>
      cases pre with
      | nil =>
        have h2' : (SB.vec es [] c).near s' := h2
        unfold SB.near at h2'
        split at h2'
        · rename_i heq; cases heq
          obtain ⟨rfl, h3⟩ := h2'
          exact ⟨_, rfl, ⟨rfl, h3⟩, rfl⟩
        · rename_i hno
          subst h2'
          exact absurd rfl (hno es c es c rfl)
      | cons p q =>
        have h2' : s' = (SB.vec es (p :: q) c).ren π := h2
        subst h2'
        exact ⟨_, rfl, SB.near.refl _, rfl⟩
    | cells cs =>
      have h2' : s' = (SB.cells cs).ren π := h2
      subst h2'
      exact ⟨_, rfl, SB.near.refl _, rfl⟩
    | ro es c =>
      have h2' : s' = (SB.ro es c).ren π := h2
      subst h2'
      exact ⟨_, rfl, SB.near.refl _, rfl⟩
    | mapi es =>
      have h2' : s' = (SB.mapi es).ren π := h2
      subst h2'
      exact ⟨_, rfl, SB.near.refl _, rfl⟩
    | mapb es =>
      have h2' : s' = (SB.mapb es).ren π := h2
      subst h2'
      exact ⟨_, rfl, SB.near.refl _, rfl⟩
    | iter b n =>
      have h2' : s' = (SB.iter b n).ren π := h2
      subst h2'
      exact ⟨_, rfl, SB.near.refl _, rfl⟩
  have hnear : NearL look look' := by
    intro b
    cases hb : look b with
    | none =>
      have : look' b = none := by simp only [look', hb]
      rw [this]; trivial
    | some s =>
      cases hpb : posOf b (p.map (·.1)) 0 with
      | none =>
        have : look' b = some s := by simp only [look', hb, hpb]
        rw [this]; exact SB.near.refl _
      | some i =>
        obtain ⟨s2, e1, e2, _⟩ := key b s i hb hpb
        rw [e1]; exact e2
  obtain ⟨sbs2, hR2⟩ := cloR_near (look' := look') (sbs1 := []) (fun b s hb => by
    obtain ⟨s', q1, q2⟩ := hnear.some hb
    exact ⟨s', q1, q2.own.2⟩) hR
  have hF2 := cloR_found (⟨rfl, rfl, fun i b h => by simp at h⟩ : Found look' [] []) hR2
  have hiv : ∀ (i : Nat) (s s' : SB), sbs0[i]? = some s → sbs2[i]? = some s' → isVec s = isVec s' := by
    intro i s s' h1 h2
    have hlt : i < ks0.length := by rw [← hF0.len]; exact (List.getElem?_eq_some_iff.1 h1).1
    have hk : ks0[i]? = some ks0[i] := List.getElem?_eq_getElem hlt
    have e1 := hF0.look i _ hk
    have e2 := hF2.look i _ hk
    rw [h1] at e1
    rw [h2] at e2
    obtain ⟨s3, g1, g2⟩ := hnear.some e1
    rw [e2] at g1
    cases g1
    exact g2.isVec.symm
  have hC : (partC (ks0.zip sbs2)).map (·.1) = (partC (ks0.zip sbs0)).map (·.1) := filter_fst hF2.len hF0.len fun i k s s' a b => by simp only [hiv i s' s b a]
  have hV : (partV (ks0.zip sbs2)).map (·.1) = (partV (ks0.zip sbs0)).map (·.1) := filter_fst hF2.len hF0.len fun i k s s' a b => by simp only [hiv i s' s b a]
  have hfst : (orderV (ks0.zip sbs2)).map (·.1) = p.map (·.1) := by
    rw [← hp]
    unfold orderV
    rw [List.map_append, List.map_append, hC, hV]
  have hlen : (partC (ks0.zip sbs2)).length = (partC (ks0.zip sbs0)).length := by
    have := congrArg List.length hC
    simpa using this
  obtain ⟨r1, r2, r3⟩ := orderV_found hF2
  have hsnd : ((orderV (ks0.zip sbs2)).map fun x => x.2.ren π) = cv (p.map fun x => x.2.ren π) := by
    apply List.ext_getElem?
    intro i
    have hl := hn.length
    simp only [List.length_map] at hl
    have hl2 : (orderV (ks0.zip sbs2)).length = p.length := by
      have := congrArg List.length hfst
      simpa using this
    by_cases hi : i < p.length
    · obtain ⟨kk, hk⟩ : ∃ kk, (p.map (·.1))[i]? = some kk := ⟨_, List.getElem?_eq_getElem (by simpa using hi)⟩
      obtain ⟨s, k1, k2⟩ := q2 i _ hk
      have hpos : posOf kk (p.map (·.1)) 0 = some i := by simpa using posOf_of_get (i := 0) hnd hk
      obtain ⟨s2, e1, _, e3⟩ := key _ s i k1 hpos
      obtain ⟨s3, k3, k4⟩ := r2 i _ (by rw [hfst]; exact hk)
      rw [e1] at k3
      cases k3
      rw [e3, List.getElem?_map, k4]
      rfl
    · rw [List.getElem?_eq_none (by simp; omega), List.getElem?_eq_none (by omega)]
  obtain ⟨x, hx, hsx⟩ := Cs.tr_pick hs0
  have hx' : (g (args.map (SV.ren fun b => posOf b ((orderV (ks0.zip sbs2)).map (·.1)) 0)) ((orderV (ks0.zip sbs2)).map fun x => x.2.ren fun b => posOf b ((orderV (ks0.zip sbs2)).map (·.1)) 0)).pick = some x := by
    rw [hfst]
    rw [show ((orderV (ks0.zip sbs2)).map fun x => x.2.ren fun b => posOf b (p.map (·.1)) 0) = cv (p.map fun x => x.2.ren π) from hsnd]
    exact hx
  unfold nOut at hsx
  obtain ⟨h1, hsx⟩ := cond_sem.1 hsx
  obtain ⟨h2, hsx⟩ := br_sem.1 hsx
  rw [ret_sem] at hsx
  have hgo : (nOut (partC (ks0.zip sbs2)).length ((orderV (ks0.zip sbs2)).map (·.1)) nx x).sem look' = some (e, []) := by
    unfold nOut
    rw [hfst, hlen]
    refine cond_sem.2 ⟨h1, br_sem.2 ⟨h2, ?_⟩⟩
    rw [ret_sem]
    cases hsx
    rfl
  obtain ⟨rds', hfin⟩ := cloR_clo (K := fun ks sbs => (g (args.map (SV.ren fun b => posOf b ((orderV (ks.zip sbs)).map (·.1)) 0)) ((orderV (ks.zip sbs)).map fun x => x.2.ren fun b => posOf b ((orderV (ks.zip sbs)).map (·.1)) 0)).tr (nOut (partC (ks.zip sbs)).length ((orderV (ks.zip sbs)).map (·.1)) nx)) (Cs.tr_pick' hx' hgo) hR2
  refine ⟨look', rds', hnear, hfin, ?_⟩
  cases hsx
  simp only [Bool.and_eq_true, List.all_eq_true, Nat.blt_eq, Nat.ble_eq] at h1
  obtain ⟨h1, h4, h3⟩ := h1
  have h1 := Nat.eq_of_beq_eq_true h1
  generalize (partC (ks0.zip sbs0)).length = kN at h1 h4
  subst h1
  suffices hh : ∀ b, updW look' (((p.map (·.1)).take x.hp.length).zip (x.hp.map fun s => s.map (SB.ren (backOf ((p.map (·.1)).take x.hp.length) nx (x.hp.length + x.nw.length)))) ++ ((p.map (·.1)).drop x.hp.length).map fun b => (b, none)) b =
      updW look (((p.map (·.1)).take x.hp.length).zip (x.hp.map fun s => s.map (SB.ren (backOf ((p.map (·.1)).take x.hp.length) nx (x.hp.length + x.nw.length)))) ++ ((p.map (·.1)).drop x.hp.length).map fun b => (b, none)) b by
    have : ∀ {e : Eff}, e.wr = (((p.map (·.1)).take x.hp.length).zip (x.hp.map fun s => s.map (SB.ren (backOf ((p.map (·.1)).take x.hp.length) nx (x.hp.length + x.nw.length)))) ++ ((p.map (·.1)).drop x.hp.length).map fun b => (b, none)) → upd look' e nx = upd look e nx := by
      intro e he
      funext b
      unfold upd
      rw [he, hh b]
    rw [this rfl]
    exact NearL.refl _
  intro b
  rw [updW_append, updW_append, updW_none, updW_none]
  by_cases hb : b ∈ (p.map (·.1)).drop x.hp.length
  · rw [if_pos hb, if_pos hb]
  · rw [if_neg hb, if_neg hb]
    by_cases hb2 : b ∈ (p.map (·.1)).take x.hp.length
    · obtain ⟨i, hi⟩ := List.getElem?_of_mem hb2
      have hnd2 : ((p.map (·.1)).take x.hp.length).Nodup := (List.take_sublist _ _).nodup hnd
      have hlt : i < x.hp.length := by
        have := (List.getElem?_eq_some_iff.1 hi).1
        rw [List.length_take] at this
        omega
      have hz : (x.hp.map fun s => s.map (SB.ren (backOf ((p.map (·.1)).take x.hp.length) nx (x.hp.length + x.nw.length))))[i]? = some ((x.hp[i]).map (SB.ren (backOf ((p.map (·.1)).take x.hp.length) nx (x.hp.length + x.nw.length)))) := by simp [List.getElem?_map, List.getElem?_eq_getElem hlt]
      rw [updW_at hnd2 hi hz, updW_at hnd2 hi hz]
    · rw [updW_not hb2, updW_not hb2]
      cases hpb : posOf b (p.map (·.1)) 0 with
      | none =>
        simp only [look', hpb]
        cases look b <;> rfl
      | some i =>
        obtain ⟨_, hi⟩ := posOf_get hpb
        have hm : b ∈ p.map (·.1) := List.mem_of_getElem? hi
        rw [← List.take_append_drop x.hp.length (p.map (·.1)), List.mem_append] at hm
        rcases hm with hm | hm
        · exact absurd hm hb2
        · exact absurd hm hb
end
end Go.Proofs.YtkkacjmjjhjpeaaDoor.Sx

namespace Go.Proofs.YtkkacjmjjhjpeaaDoor.Sx
open Go

/-- A value, where it may be. -/
def libSum (g : List SV → Option (Bool × TV)) : Sum := fun args _ => opt (g args) fun x => .br x.1 (pureE x.2) .fail
theorem HRep.below {C : Ctx} {w1 : World} {S : Nat → Prop} {ρ : Rho} {look : Look} {w w' : World} (H : HRep C w1 S ρ look w) (h : RowKit.Below w.heap.size w w') : HRep C w1 S ρ look w' := by
  refine ⟨fun b sb hb => ?_, H.inj, fun b sb l h1 h2 h3 h4 => ?_, fun n hn => ?_, fun n hn hS => ?_, Nat.le_trans H.size h.size, ?_⟩
  · obtain ⟨l, q1, q2⟩ := H.blk b sb hb
    exact ⟨l, q1, q2.later fun n hn => h.block n hn⟩
  · obtain ⟨q1, q2, q3⟩ := H.own b sb l h1 h2 h3 h4
    exact ⟨q1, Nat.lt_of_lt_of_le q2 h.size, q3⟩
  · obtain ⟨q1, q2⟩ := H.out n hn
    exact ⟨(h.block n q2).trans q1, Nat.lt_of_lt_of_le q2 h.size⟩
  · rw [h.block n (Nat.lt_of_lt_of_le hn H.size)]
    exact H.frame n hn hS
  · exact ⟨h.os.trans H.env.1, h.tape.trans H.env.2.1, h.output.trans H.env.2.2⟩
theorem sumOk_lib {P : Program} {f : FuncId} {fn : Func} (hf : P.funcs[f]? = some fn) (hb : fn.body.isNone = false) (hname : (fn.name == "runtime.NumGoroutine") = false) {g : List SV → Option (Bool × TV)}
    (h : ∀ (X : Outs) (ρ : Rho) (args : List SV) (vs : List Value) (tv : TV) (w : World), g args = some (true, tv) → SL (SV.R X ρ) args vs → Calls P f vs.toArray w fun e w' => (∃ v, e = .returned v ∧ tv.R X ρ v) ∧ RowKit.Below w.heap.size w w') : SumOk P f (libSum g) := by
  refine ⟨⟨fn, hf, hb, hname⟩, ?_⟩
  intro C w1 S ρ look w args vs nx e rds hargs H _ hs
  obtain ⟨⟨b, tv⟩, h1, h2⟩ := opt_sem.1 hs
  obtain ⟨h3, h4⟩ := br_sem.1 h2
  simp only at h3
  subst h3
  rw [pure_sem] at h4
  cases h4
  refine (h C.X ρ args vs tv w h1 hargs).mono ?_
  rintro x w' ⟨⟨v, rfl, hv⟩, hbel⟩
  exact ⟨v, ρ, rfl, Rho.le.refl _, fun b l hh => .inl hh, hv, by rw [upd_nil]; exact H.below hbel⟩
/-- The same, where the seat's tables are what they are. -/
theorem sumOk_libT {P : Program} {f : FuncId} {fn : Func} (hf : P.funcs[f]? = some fn) (hb : fn.body.isNone = false) (hname : (fn.name == "runtime.NumGoroutine") = false) {g : List SV → Option (Bool × TV)}
    (h : ∀ (X : Outs) (ρ : Rho) (args : List SV) (vs : List Value) (tv : TV) (w : World), TabsAt (fun n => w.heap[n]?) → g args = some (true, tv) → SL (SV.R X ρ) args vs → Calls P f vs.toArray w fun e w' => (∃ v, e = .returned v ∧ tv.R X ρ v) ∧ RowKit.Below w.heap.size w w') : SumOk P f (libSum g) := by
  refine ⟨⟨fn, hf, hb, hname⟩, ?_⟩
  intro C w1 S ρ look w args vs nx e rds hargs H _ hs
  obtain ⟨⟨b, tv⟩, h1, h2⟩ := opt_sem.1 hs
  obtain ⟨h3, h4⟩ := br_sem.1 h2
  simp only at h3
  subst h3
  rw [pure_sem] at h4
  cases h4
  have ht : TabsAt (fun n => w.heap[n]?) := fun p hp => by
    obtain ⟨t, fr, hh⟩ := C.tabs p hp
    exact ⟨t, fr, (H.out p.1 (C.tabI p hp)).1.trans hh⟩
  refine (h C.X ρ args vs tv w ht h1 hargs).mono ?_
  rintro x w' ⟨⟨v, rfl, hv⟩, hbel⟩
  exact ⟨v, ρ, rfl, Rho.le.refl _, fun b l hh => .inl hh, hv, by rw [upd_nil]; exact H.below hbel⟩
end Go.Proofs.YtkkacjmjjhjpeaaDoor.Sx

namespace Go.Proofs.YtkkacjmjjhjpeaaDoor.Sx
open Go

def denilWr (e : Eff) (nx : Nat) : List (Nat × Option SB) → Option (Nat × List CV)
  | [] => none
  | (b, _) :: r => match wrFind e.wr b with
    | some (some (.cells cs)) => cond (hasNils cs && Nat.blt b nx) (some (b, cs)) (denilWr e nx r)
    | _ => denilWr e nx r
theorem denilWr_spec {e : Eff} {nx : Nat} : ∀ {l : List (Nat × Option SB)} {b : Nat} {cs : List CV}, denilWr e nx l = some (b, cs) → wrFind e.wr b = some (some (.cells cs)) ∧ b < nx
  | [], _, _, h => by cases h
  | (a, x) :: r, b, cs, h => by
    unfold denilWr at h
    split at h
    · rename_i cs0 hg
      cases hb : hasNils cs0 && Nat.blt a nx with
      | true =>
        rw [hb] at h; cases h
        simp only [Bool.and_eq_true, Nat.blt_eq] at hb
        exact ⟨hg, hb.2⟩
      | false => rw [hb] at h; exact denilWr_spec h
    · exact denilWr_spec h
def denilWE (nx : Nat) (e : Eff) : Eff := match denilWr e nx e.wr with
  | some (b, cs) => match denilC (nx + e.nw.length) cs with
    | some cs' => ⟨e.sv, e.wr ++ [(b, some (.cells cs'))], e.nw ++ [nilOf cs]⟩
    | none => e
  | none => e
def denilWS (s : Sum) : Sum := fun args nx => (s args nx).bind fun e => .ret (denilWE nx e)
theorem sumOk_denilW {P : Program} {f : FuncId} {s : Sum} (h : SumOk P f s) : SumOk P f (denilWS s) := by
  refine ⟨h.1, fun C w1 S ρ look w args vs nx e rds ha H hn hs => ?_⟩
  unfold denilWS at hs
  obtain ⟨e0, r1, r2, h1, h2, _⟩ := Tr.sem_bind hs
  rw [ret_sem] at h2
  cases h2
  have hsame : denilWE nx e0 = e0 ∨ ∃ b cs cs', denilWr e0 nx e0.wr = some (b, cs) ∧ denilC (nx + e0.nw.length) cs = some cs' ∧ denilWE nx e0 = ⟨e0.sv, e0.wr ++ [(b, some (.cells cs'))], e0.nw ++ [nilOf cs]⟩ := by
    unfold denilWE
    split
    · rename_i b cs hb
      split
      · rename_i cs' hc
        exact .inr ⟨b, cs, cs', hb, hc, rfl⟩
      · exact .inl rfl
    · exact .inl rfl
  rcases hsame with he | ⟨b, cs, cs', g1, g2, he⟩
  · rw [he] at hn ⊢
    exact h.2 C w1 S ρ look w args vs nx e0 r1 ha H hn h1
  · rw [he] at hn ⊢
    obtain ⟨k1, k2⟩ := denilWr_spec g1
    have hnw : ∀ j, j < e0.nw.length → ρ (nx + j) = none := fun j hj => hn j (by simp; omega)
    refine (h.2 C w1 S ρ look w args vs nx e0 r1 ha H hnw h1).mono ?_
    rintro x w' ⟨v, ρ', q1, q2, q3, q4, q5⟩
    let l0 : Loc := ⟨0, 0, 1, 0, true⟩
    have hno : ρ' (nx + e0.nw.length) = none := by
      cases hh : ρ' (nx + e0.nw.length) with
      | none => rfl
      | some m =>
        rcases q3 _ _ hh with p | p
        · rw [hn e0.nw.length (by simp)] at p; cases p
        · omega
    have hle : ρ'.le (ρ'.put (nx + e0.nw.length) l0) := Rho.le_put hno
    have hlb : upd look e0 nx b = some (.cells cs) := by
      unfold upd
      rw [if_neg (by omega), updW_find, k1]
      rfl
    have H1 := q5.newNil (l := l0) (sb := nilOf cs) hno rfl (by
      obtain ⟨es, g, hg⟩ := nilOf_gen cs
      rw [hg]
      exact .inl ⟨rfl, rfl, rfl⟩)
    have H2 := H1.alt (b := b) (sb := .cells cs) (sb' := .cells cs') (by rw [if_neg (by omega)]; exact hlb) rfl (fun l hl hb => by
      obtain ⟨p1, arr, t, p2, p3⟩ := hb
      exact ⟨p1, arr, t, p2, denilC_R ⟨l0, Rho.put_same .., rfl⟩ g2 p3⟩)
    have hlook : (fun c => if c = b then some (SB.cells cs') else if c = nx + e0.nw.length then some (nilOf cs) else upd look e0 nx c) = upd look ⟨e0.sv, e0.wr ++ [(b, some (.cells cs'))], e0.nw ++ [nilOf cs]⟩ nx := by
      funext c
      unfold upd
      simp only [List.length_append, List.length_singleton, updW_append, updW]
      by_cases c1 : nx ≤ c
      · rw [if_pos c1, if_pos c1, if_neg (by omega)]
        by_cases c3 : c = nx + e0.nw.length
        · rw [if_pos c3, if_pos (by omega), List.getElem?_append_right (by omega)]
          simp [c3]
        · rw [if_neg c3]
          by_cases c4 : c < nx + e0.nw.length
          · rw [if_pos c4, if_pos (by omega), List.getElem?_append_left (by omega)]
          · rw [if_neg c4, if_neg (by omega), if_neg (by omega)]
      · rw [if_neg c1, if_neg c1]
        by_cases c5 : c = b
        · rw [if_pos c5, if_pos c5]
        · rw [if_neg c5, if_neg c5, if_neg (by omega)]
    rw [hlook] at H2
    refine ⟨v, ρ'.put (nx + e0.nw.length) l0, q1, q2.trans hle, ?_, q4.mono hle, H2⟩
    intro c m hm
    unfold Rho.put at hm
    split at hm
    · rename_i hc
      subst hc
      exact .inr ⟨by omega, by simp⟩
    · rcases q3 c m hm with p | ⟨p1, p2⟩
      · exact .inl p
      · exact .inr ⟨p1, by simp; omega⟩
end Go.Proofs.YtkkacjmjjhjpeaaDoor.Sx

namespace Go.Proofs.YtkkacjmjjhjpeaaDoor.Sx
open Go

/-- The slice x, over block sb, has these n elements of one cell each. -/
def RowOf (x : CV) (sb : SB) (b n : Nat) (g : Nat → List CV) : Prop :=
  (∃ i c, x = .slc b i n ∧ ((∃ pre, sb = .vec 1 pre c) ∨ sb = .ro 1 c) ∧ i + n ≤ c.size ∧ ∀ j, j < n → g j = c.get (i + j)) ∨
  (∃ o cs, x = .asl b o n ∧ sb = .cells cs ∧ 0 < n ∧ ∀ j, j < n → ∃ y, cs[o + j]? = some y ∧ y.plain = true ∧ g j = [y])

section
variable {P : Program} {Su : Sums}
theorem sumOk_rowA (hS : SumsOk P Su) (hm : P.follows .mixedOrders = true) {f : FuncId} {fn : Func} {cd : Code} (hf : P.funcs[f]? = some fn) (hb : fn.body = some cd) (hname : (fn.name == "runtime.NumGoroutine") = false) {s : Sum}
    (h : ∀ (args : List SV) (nx : Nat) (look : Look) (e : Eff) (rds : List Nat), (s args nx).sem look = some (e, rds) → ∃ (va : List SV) (x : CV) (b n : Nat) (sb : SB) (g : Nat → List CV) (tv : TV) (hp' : List (Option SB)) (L : List (Nat × LoopSum)) (fuel : Nat),
      args = va ++ [.c x] ∧ (∀ π, va.map (SV.ren π) = va) ∧ look b = some sb ∧ RowOf x sb b n g ∧
      e = ⟨tv, [], []⟩ ∧ (∀ π, tv.ren π = tv) ∧ LoopsOk P Su L fuel 1 (resMask fn.results.toList) (loopsOf (resMask fn.results.toList) cd [] (resMask fn.results.toList)) ∧
      runFnL P Su L fuel fn cd (va ++ [.c (.slc 0 0 n)]) [.ro 1 (.gen n g)] (fun tv hp => some (tv, hp)) = some (tv, hp')) : SumOk P f s := by
  refine ⟨⟨fn, hf, by simp [hb], hname⟩, ?_⟩
  intro C w1 S ρ look w args vs nx e rds hargs H hnew hs
  obtain ⟨va, x, b, n, sb, g, tv, hp', L, fuel, rfl, hva, hlb, hrow, rfl, htv, hL, hrun⟩ := h args nx look e rds hs
  obtain ⟨us, ws, rfl, ha1, ha2⟩ := hargs.split
  match ws, ha2 with
  | [v], ⟨hv, _⟩ =>
  let C' : Ctx := ⟨fun n => n < w.heap.size, fun n => w.heap[n]?, fun p hp => by
    obtain ⟨t, fr, hh⟩ := C.tabs p hp
    exact ⟨t, fr, (H.out p.1 (C.tabI p hp)).1.trans hh⟩, fun p hp => (H.out p.1 (C.tabI p hp)).2, C.X, fun u l hx => by
    rcases C.xok u l hx with h | ⟨A, cap, h1, h0, h2 | ⟨b, o, arr, t, fr, h2, h3, h4, h5⟩⟩
    · exact .inl h
    · exact .inr ⟨A, cap, h1, h0, .inl h2⟩
    · exact .inr ⟨A, cap, h1, h0, .inr ⟨b, o, arr, t, fr, h2, (H.out b h3).2, (H.out b h3).1.trans h4, h5⟩⟩⟩
  obtain ⟨l', hsl, hro⟩ : ∃ l' : Loc, SlcR l' 0 n v ∧ BlkR C' (rho1 l') l' (.ro 1 (.gen n g)) w := by
    rcases hrow with ⟨i, c, rfl, hsb, hsz, hget⟩ | ⟨o, cs, rfl, rfl, hpos, hget⟩
    · obtain ⟨l, q1, q2⟩ := hv
      obtain ⟨l1, hl1, hblk⟩ := H.blk b sb hlb
      rw [q1] at hl1
      cases hl1
      rcases q2 with ⟨_, q3, q4⟩ | ⟨q3, A, cap, q4, q5, q6, q7⟩
      · exact ⟨⟨0, 0, 1, 0, true⟩, .inl ⟨rfl, q3, q4⟩, rfl, .inl q4⟩
      · refine ⟨⟨l.blk, l.off + i, 1, cap, false⟩, .inr ⟨rfl, A, cap, q4, q5, by simp, fun hp => ?_⟩, rfl, ?_⟩
        · have hes : l.es = 1 := by
            rcases hsb with ⟨pre, rfl⟩ | rfl
            · rcases hblk with ⟨hn, _⟩ | ⟨⟨_, h1⟩, _⟩
              · rw [q3] at hn; cases hn
              · exact h1
            · exact hblk.1
          have := q7 hp
          rw [hes] at this
          simpa using this
        · by_cases hz : n = 0
          · exact .inl hz
          right
          rcases hsb with ⟨pre, rfl⟩ | rfl
          · rcases hblk with ⟨hn, _⟩ | ⟨⟨_, hes⟩, arr, ty, harr, _, _, _, _, hrow⟩
            · rw [q3] at hn; cases hn
            · refine ⟨arr, ty, (0, 0), (Array.getElem?_eq_some_iff.1 harr).1, harr, fun j hj => ?_⟩
              simp only [Content.size] at hj
              have := hrow (i + j) (by omega)
              rw [hes] at this
              show RL _ (g j) _ ∧ (g j).length = _
              rw [hget j hj]
              simpa [Nat.add_assoc] using this
          · obtain ⟨hes, h0 | ⟨arr, ty, fr, _, harr, hrow⟩⟩ := hblk
            · omega
            · refine ⟨arr, ty, fr, (Array.getElem?_eq_some_iff.1 harr).1, harr, fun j hj => ?_⟩
              simp only [Content.size] at hj
              have := hrow (i + j) (by omega)
              rw [hes] at this
              show RL _ (g j) _ ∧ (g j).length = _
              rw [hget j hj]
              simpa [Nat.add_assoc] using this
    · obtain ⟨l, q1, q2⟩ := hv
      obtain ⟨l1, hl1, hblk⟩ := H.blk b _ hlb
      rw [q1] at hl1
      cases hl1
      obtain ⟨hn, arr, ty, harr, hcs⟩ := hblk
      refine ⟨⟨l.blk, o, 1, n, false⟩, .inr ⟨rfl, _, n, q2, Nat.le_refl _, by simp, fun _ => by simp⟩, rfl, .inr ⟨arr, ty, (0, 0), (Array.getElem?_eq_some_iff.1 harr).1, harr, fun j hj => ?_⟩⟩
      simp only [Content.size] at hj
      obtain ⟨y, y1, y2, y3⟩ := hget j hj
      obtain ⟨u, u1, u2⟩ := hcs.get (o + j) y y1
      show RL _ (g j) _ ∧ (g j).length = _
      rw [y3]
      have hu : (arr.toList.drop (o + j * 1)).take 1 = [u] := by
        rw [Nat.mul_one]
        have := List.getElem?_eq_some_iff.1 u1
        obtain ⟨hlt, he⟩ := this
        rw [List.drop_eq_getElem_cons hlt, he]
        simp
      rw [hu]
      have hp : RL (CV.R C.X noRho) [y] [u] := RL.plain (ρ := ρ) (by simp [y2]) ⟨u2, trivial⟩
      exact ⟨hp, rfl⟩
  have hlk : ∀ k sb', lookL ([SB.ro 1 (.gen n g)].map some) k = some sb' → k = 0 ∧ sb' = .ro 1 (.gen n g) := by
    intro k sb' hk
    cases k with
    | zero => exact ⟨rfl, by simpa [lookL] using hk.symm⟩
    | succ k => simp [lookL] at hk
  have H0 : HRep C' w (fun _ => False) (rho1 l') (lookL ([SB.ro 1 (.gen n g)].map some)) w := by
    refine ⟨?_, ?_, ?_, fun n hn => ⟨rfl, hn⟩, fun _ _ _ => rfl, Nat.le_refl _, rfl, rfl, rfl⟩
    · intro k sb' hk
      obtain ⟨rfl, rfl⟩ := hlk k sb' hk
      exact ⟨l', rfl, hro⟩
    · intro k k' s1 s2 m m' hk hk' ho
      obtain ⟨rfl, rfl⟩ := hlk k s1 hk
      cases ho
    · intro k s1 m hk ho
      obtain ⟨rfl, rfl⟩ := hlk k s1 hk
      cases ho
  have hno : ∀ {x : List SV} {us : List Value}, (∀ π, x.map (SV.ren π) = x) → SL (SV.R C.X ρ) x us → SL (SV.R C.X (rho1 l')) x us := by
    intro x us hx hr
    have := hr.ren (π := fun _ => none) (ρ' := rho1 l') (fun b i h => by cases h)
    rw [hx] at this
    exact this
  have hargs0 : SL (SV.R C'.X (rho1 l')) (va ++ [.c (.slc 0 0 n)]) (us ++ [v]) := SL.join (hno hva ha1) ⟨⟨l', rfl, hsl⟩, trivial⟩
  refine (runFnL_sound hS hm hf hb hL hrun hargs0 H0 (fun b hb => rho1_out b hb)).mono ?_
  rintro x w' ⟨tv', hp'', v', ρ', hK, rfl, _, hv', H', _⟩
  simp only [Option.some.injEq, Prod.mk.injEq] at hK
  obtain ⟨rfl, rfl⟩ := hK
  have hv2 := TV.R.ren (π := fun _ => none) (ρ' := ρ) (fun b i h => by cases h) hv'
  rw [htv] at hv2
  refine ⟨v', ρ, rfl, fun _ _ h => h, fun b m h => .inl h, hv2, ?_⟩
  rw [upd_nil]
  exact H.later (fun n hn => H'.frame n hn (fun h => h)) H'.size H'.env
end
end Go.Proofs.YtkkacjmjjhjpeaaDoor.Sx

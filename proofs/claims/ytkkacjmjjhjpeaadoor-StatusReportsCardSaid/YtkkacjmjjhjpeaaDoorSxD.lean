/- A symbolic interpreter over the wp rules, fourth part: summaries over whatever blocks the arguments reach. No condition beyond those that each theorem names. -/
import Derived.Test.YtkkacjmjjhjpeaaDoorSxC
namespace Go.Proofs.YtkkacjmjjhjpeaaDoor.Sx
open Go

/-- The blocks that the arguments reach, in the order in which they are found. -/
def clo {β : Type} : Nat → List Nat → List Nat → List SB → (List Nat → List SB → Tr β) → Tr β
  | 0, _, _, _, _ => .fail
  | _ + 1, [], ks, sbs, K => K ks sbs
  | k + 1, b :: todo, ks, sbs, K => cond (memN b ks) (clo k todo ks sbs K) (.rd b fun s => clo k (todo ++ s.ids) (ks ++ [b]) (sbs ++ [s]) K)

structure Found (look : Look) (ks : List Nat) (sbs : List SB) : Prop where
  nodup : nodupN ks = true
  len : sbs.length = ks.length
  look : ∀ (i b : Nat), ks[i]? = some b → look b = sbs[i]?

theorem nodupN_of : ∀ {l : List Nat}, l.Nodup → nodupN l = true
  | [], _ => rfl
  | x :: r, h => by
    rw [List.nodup_cons] at h
    simp only [nodupN, Bool.and_eq_true, Bool.not_eq_true']
    refine ⟨?_, nodupN_of h.2⟩
    cases hm : memN x r with
    | false => rfl
    | true => exact absurd (memN_iff.1 hm) h.1

theorem clo_sem {β : Type} {look : Look} {K : List Nat → List SB → Tr β} {r : β} : ∀ {k : Nat} {todo ks : List Nat} {sbs : List SB} {rds : List Nat}, Found look ks sbs → (clo k todo ks sbs K).sem look = some (r, rds) →
    ∃ ks' sbs' rds', Found look ks' sbs' ∧ (K ks' sbs').sem look = some (r, rds')
  | 0, _, _, _, _, _, h => by cases fail_sem.1 h
  | k + 1, [], ks, sbs, rds, hF, h => ⟨ks, sbs, rds, hF, h⟩
  | k + 1, b :: todo, ks, sbs, rds, hF, h => by
    unfold clo at h
    cases hm : memN b ks with
    | true => rw [hm] at h; exact clo_sem hF h
    | false =>
      rw [hm] at h
      obtain ⟨s, rds', hs, h', _⟩ := rd_sem.1 h
      refine clo_sem ⟨?_, by simp [hF.len], ?_⟩ h'
      · refine nodupN_of ?_
        rw [List.nodup_append]
        refine ⟨nodupN_spec hF.nodup, by simp, ?_⟩
        intro x hx y hy
        have : y = b := by simpa using hy
        subst this
        rintro rfl
        rw [memN_iff.2 hx] at hm
        cases hm
      · intro i c hi
        by_cases hlt : i < ks.length
        · rw [List.getElem?_append_left hlt] at hi
          rw [List.getElem?_append_left (by rw [hF.len]; exact hlt)]
          exact hF.look i c hi
        · rw [List.getElem?_append_right (by omega)] at hi
          rw [List.getElem?_append_right (by rw [hF.len]; omega), hF.len]
          have hz : i - ks.length = 0 := by
            cases hh : i - ks.length with
            | zero => rfl
            | succ n => rw [hh] at hi; simp at hi
          rw [hz] at hi ⊢
          simp only [List.getElem?_cons_zero, Option.some.injEq] at hi ⊢
          subst hi
          exact hs

/-- What comes of a call: may it be; its value; the blocks that were there; new ones. -/
structure Out where
  pre : Bool
  tv : TV
  hp : List (Option SB)
  nw : List SB

def genSum (g : List SV → List SB → Option Out) : Sum := fun args nx => clo 60 (args.flatMap SV.ids) [] [] fun ks sbs =>
  opt (g (args.map (SV.ren fun b => posOf b ks 0)) (sbs.map (SB.ren fun b => posOf b ks 0))) fun x => cond (Nat.beq x.hp.length ks.length && ks.all fun b => Nat.blt b nx) (.br x.pre
    (.ret ⟨x.tv.ren (backOf ks nx (ks.length + x.nw.length)), ks.zip (x.hp.map fun s => s.map (SB.ren (backOf ks nx (ks.length + x.nw.length)))), x.nw.map (SB.ren (backOf ks nx (ks.length + x.nw.length)))⟩) .fail) .fail

theorem updW_not {b : Nat} : ∀ {ks : List Nat} {xs : List (Option SB)} {look : Look}, b ∉ ks → updW look (ks.zip xs) b = look b
  | [], _, _, _ => rfl
  | k :: ks, [], _, _ => rfl
  | k :: ks, x :: xs, look, h => by
    rw [List.zip_cons_cons]
    unfold updW
    rw [updW_not (fun hb => h (List.mem_cons_of_mem _ hb))]
    have : b ≠ k := fun e => h (by simp [e])
    simp [this]
theorem updW_at : ∀ {ks : List Nat} {xs : List (Option SB)} {look : Look} {i b : Nat} {s : Option SB}, ks.Nodup → ks[i]? = some b → xs[i]? = some s → updW look (ks.zip xs) b = s
  | [], _, _, i, b, _, _, h, _ => by simp at h
  | k :: ks, [], _, i, b, _, _, _, h => by simp at h
  | k :: ks, x :: xs, look, 0, b, s, hn, h, h' => by
    simp only [List.getElem?_cons_zero, Option.some.injEq] at h h'
    subst h h'
    rw [List.nodup_cons] at hn
    rw [List.zip_cons_cons]
    unfold updW
    rw [updW_not hn.1]
    simp
  | k :: ks, x :: xs, look, i + 1, b, s, hn, h, h' => by
    rw [List.getElem?_cons_succ] at h h'
    rw [List.nodup_cons] at hn
    rw [List.zip_cons_cons]
    unfold updW
    exact updW_at hn.2 h h'

section
variable {P : Program} {Su : Sums}
theorem sumOk_genL (hS : SumsOk P Su) (hm : P.follows .mixedOrders = true) {f : FuncId} {fn : Func} {c : Code} (hf : P.funcs[f]? = some fn) (hb : fn.body = some c) (hname : (fn.name == "runtime.NumGoroutine") = false) {g : List SV → List SB → Option Out}
    (h : ∀ args hp x, g args hp = some x → x.pre = true → x.hp.length = hp.length → ∃ L fuel, LoopsOk P Su L fuel hp.length (resMask fn.results.toList) (loopsOf (resMask fn.results.toList) c [] (resMask fn.results.toList)) ∧ runFnL P Su L fuel fn c args hp (fun tv hp => some (tv, hp)) = some (x.tv, x.hp ++ x.nw.map some)) : SumOk P f (genSum g) := by
  refine sumOk_ofL hS hm hf hb hname ?_
  intro args nx look e rds hs
  unfold genSum at hs
  obtain ⟨ks, sbs, rds', hF, hs⟩ := clo_sem ⟨rfl, rfl, fun i b h => by simp at h⟩ hs
  obtain ⟨x, hx, hs⟩ := opt_sem.1 hs
  obtain ⟨h1, hs⟩ := cond_sem.1 hs
  obtain ⟨h2, hs⟩ := br_sem.1 hs
  rw [ret_sem] at hs
  cases hs
  simp only [Bool.and_eq_true, List.all_eq_true, Nat.blt_eq] at h1
  obtain ⟨h1, h3⟩ := h1
  have h1 := Nat.eq_of_beq_eq_true h1
  have hl : (sbs.map (SB.ren fun b => posOf b ks 0)).length = ks.length := by simp [hF.len]
  obtain ⟨L, fuel, hL, hrun⟩ := h _ _ x hx h2 (by rw [hl]; exact h1)
  refine ⟨ks, _, _, x.tv, _, L, fuel, ⟨hF.nodup, rfl, hl, ?_, by simp [h1], ?_, ?_, ?_, ?_⟩, hL, hrun⟩
  · intro i b hi
    have := hF.look i b hi
    have hlt : i < sbs.length := by rw [hF.len]; exact (List.getElem?_eq_some_iff.1 hi).1
    rw [List.getElem?_eq_getElem hlt] at this
    exact ⟨sbs[i], this, by simp [List.getElem?_map, List.getElem?_eq_getElem hlt]⟩
  · simp [h1]
  · intro i b hi
    have hlt : i < ks.length := (List.getElem?_eq_some_iff.1 hi).1
    have hb' := h3 b (List.mem_of_getElem? hi)
    have e1 : upd look ⟨x.tv.ren (backOf ks nx (ks.length + x.nw.length)), ks.zip (x.hp.map fun s => s.map (SB.ren (backOf ks nx (ks.length + x.nw.length)))), x.nw.map (SB.ren (backOf ks nx (ks.length + x.nw.length)))⟩ nx b = updW look (ks.zip (x.hp.map fun s => s.map (SB.ren (backOf ks nx (ks.length + x.nw.length))))) b := by
      unfold upd
      rw [if_neg (by omega)]
    rw [e1]
    have hlt' : i < x.hp.length := by omega
    rw [updW_at (i := i) (s := (x.hp[i]).map (SB.ren (backOf ks nx (ks.length + x.nw.length)))) (nodupN_spec hF.nodup) hi (by simp [List.getElem?_map, List.getElem?_eq_getElem hlt'])]
    simp only [lookL, List.length_append, List.length_map, h1]
    rw [List.getElem?_append_left hlt', List.getElem?_eq_getElem hlt']
  · intro j hj
    simp only [List.length_map] at hj
    have hn : ∀ b ∈ ks, b < nx := h3
    simp only [upd, List.length_map]
    rw [if_pos (by omega), if_pos (by omega)]
    simp only [lookL, List.length_append, List.length_map, h1]
    rw [List.getElem?_append_right (by omega), h1, show ks.length + j - ks.length = j by omega, show nx + j - nx = j by omega]
    simp only [List.getElem?_map, List.getElem?_eq_getElem hj]
    rfl
  · intro b hb1 hb2
    simp only [List.length_map] at hb2
    simp only [upd, List.length_map]
    split
    · rw [if_neg (by omega)]
      exact updW_not hb1
    · exact updW_not hb1
theorem sumOk_gen (hS : SumsOk P Su) (hm : P.follows .mixedOrders = true) {f : FuncId} {fn : Func} {c : Code} (hf : P.funcs[f]? = some fn) (hb : fn.body = some c) (hname : (fn.name == "runtime.NumGoroutine") = false) {g : List SV → List SB → Option Out}
    (h : ∀ args hp x, g args hp = some x → x.pre = true → x.hp.length = hp.length → ∃ fuel, runFn P Su fuel fn c args hp (fun tv hp => some (tv, hp)) = some (x.tv, x.hp ++ x.nw.map some)) : SumOk P f (genSum g) :=
  sumOk_genL hS hm hf hb hname fun args hp x h1 h2 h3 => let ⟨fuel, h4⟩ := h args hp x h1 h2 h3; ⟨[], fuel, LoopsOk.nil, h4⟩
theorem sumOk_ptrL (hS : SumsOk P Su) (hm : P.follows .mixedOrders = true) {f : FuncId} {fn : Func} {c : Code} (hf : P.funcs[f]? = some fn) (hb : fn.body = some c) (hname : (fn.name == "runtime.NumGoroutine") = false) {α : Type} {enc : α → List CV} {dec : List CV → Option α}
    (hdec : ∀ l s, dec l = some s → l = enc s) (henc : ∀ s π, (enc s).map (CV.ren π) = enc s) {g : α → List SV → Tr (TV × Option α)}
    (h : ∀ s rest tv s' rds look, (g s rest).sem look = some ((tv, s'), rds) → (∀ π, rest.map (SV.ren π) = rest) ∧ (∀ π, tv.ren π = tv) ∧ ∃ L fuel, LoopsOk P Su L fuel 1 (resMask fn.results.toList) (loopsOf (resMask fn.results.toList) c [] (resMask fn.results.toList)) ∧ runFnL P Su L fuel fn c (.c (.ptr 0 0) :: rest) [.cells (enc s)] (fun tv hp => some (tv, hp)) = some (tv, [some (.cells (enc (s'.getD s)))])) : SumOk P f (ptrSum enc dec g) := by
  refine sumOk_ofL hS hm hf hb hname ?_
  intro args nx look e rds hs
  unfold ptrSum at hs
  split at hs
  · rename_i b rest
    obtain ⟨sb, m, hl, h1, rfl⟩ := rd_sem.1 hs
    split at h1
    · rename_i l
      obtain ⟨s, h2, h3⟩ := opt_sem.1 h1
      obtain ⟨⟨tv, s'⟩, r1, r2, h4, h5, rfl⟩ := Tr.sem_bind h3
      have hle := hdec _ _ h2
      subst hle
      obtain ⟨h6, h7, L, fuel, hLo, h8⟩ := h s rest tv s' r1 look h4
      have hsb : ∀ x π, (SB.cells (enc x)).ren π = .cells (enc x) := fun x π => by simp [SB.ren, henc]
      have hk : ∀ i c, [b][i]? = some c → i = 0 ∧ c = b := by
        intro i c hi
        cases i with
        | zero => exact ⟨rfl, by simpa using hi.symm⟩
        | succ i => simp at hi
      refine ⟨[b], _, [.cells (enc s)], tv, _, L, fuel, ?_, hLo, h8⟩
      cases s' with
      | none =>
        rw [ret_sem] at h5
        cases h5
        refine ⟨rfl, ?_, rfl, ?_, rfl, h7 _, ?_, ?_, ?_⟩
        · simp [SV.ren, CV.ren, posOf, h6]
        · intro i c hi
          obtain ⟨rfl, rfl⟩ := hk i c hi
          exact ⟨_, hl, by simp [hsb]⟩
        · intro i c hi
          obtain ⟨rfl, rfl⟩ := hk i c hi
          rw [upd_nil, hl]
          simp [lookL, hsb]
        · intro j hj; simp at hj
        · intro c _ _; rw [upd_nil]
      | some s1 =>
        rw [ret_sem] at h5
        cases h5
        refine ⟨rfl, ?_, rfl, ?_, rfl, h7 _, ?_, ?_, ?_⟩
        · simp [SV.ren, CV.ren, posOf, h6]
        · intro i c hi
          obtain ⟨rfl, rfl⟩ := hk i c hi
          exact ⟨_, hl, by simp [hsb]⟩
        · intro i c hi
          obtain ⟨rfl, rfl⟩ := hk i c hi
          rw [upd_one]
          simp [lookL, hsb]
        · intro j hj; simp at hj
        · intro c hc _
          rw [upd_one]
          have : c ≠ b := by simpa using hc
          simp [this]
    · cases fail_sem.1 h1
  · cases fail_sem.1 hs


/-- A function of one pointer to a struct, with a condition; with loops. -/
def ptrValC {α : Type} (enc : α → List CV) (dec : List CV → Option α) (g : α → List SV → Option (Bool × TV × Option α)) : Sum := ptrSum enc dec fun s rest => opt (g s rest) fun x => .br x.1 (.ret x.2) .fail
theorem sumOk_ptrC (hS : SumsOk P Su) (hm : P.follows .mixedOrders = true) {f : FuncId} {fn : Func} {c : Code} (hf : P.funcs[f]? = some fn) (hb : fn.body = some c) (hname : (fn.name == "runtime.NumGoroutine") = false) {α : Type} {enc : α → List CV} {dec : List CV → Option α}
    (hdec : ∀ l s, dec l = some s → l = enc s) (henc : ∀ s π, (enc s).map (CV.ren π) = enc s) {g : α → List SV → Option (Bool × TV × Option α)}
    (h : ∀ s rest tv s', g s rest = some (true, tv, s') → (∀ π, rest.map (SV.ren π) = rest) ∧ (∀ π, tv.ren π = tv) ∧ ∃ L fuel, LoopsOk P Su L fuel 1 (resMask fn.results.toList) (loopsOf (resMask fn.results.toList) c [] (resMask fn.results.toList)) ∧ runFnL P Su L fuel fn c (.c (.ptr 0 0) :: rest) [.cells (enc s)] (fun tv hp => some (tv, hp)) = some (tv, [some (.cells (enc (s'.getD s)))])) : SumOk P f (ptrValC enc dec g) := by
  refine sumOk_ptrL hS hm hf hb hname hdec henc ?_
  intro s rest tv s' rds look hs
  obtain ⟨⟨b, x⟩, h1, h2⟩ := opt_sem.1 hs
  have h6 := br_sem.1 h2
  clear h2
  obtain ⟨hb', h2⟩ := h6
  simp only at hb' h2
  subst hb'
  rw [ret_sem] at h2
  cases h2
  exact h s rest _ _ h1
end
end Go.Proofs.YtkkacjmjjhjpeaaDoor.Sx

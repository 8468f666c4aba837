/- What the methods of a fleet come to. No condition. -/
import Derived.Test.YtpebebhjmnmcbaaRep2
set_option maxRecDepth 100000
set_option linter.unusedSimpArgs false
set_option linter.unusedVariables false
namespace Go.Proofs.Ytpebebhjmnmcbaa.Rep
open Go Go.Proofs.Ytpebebhjmnmcbaa.Sx
structure N2 where
  a : Int
  b : Int
  deriving Inhabited
def encN2 (s : N2) : List CV := [.int .i64 s.a, .int .i64 s.b]
def decN2 : List CV → Option N2
  | [.int .i64 a0, .int .i64 a1] => some ⟨a0, a1⟩
  | _ => none
def decN2D : List CV → N2
  | [.int .i64 a0, .int .i64 a1] => ⟨a0, a1⟩
  | _ => default
theorem decN2_spec (l : List CV) (s : N2) (h : decN2 l = some s) : l = encN2 s := by
  unfold decN2 at h; split at h <;> cases h; rfl
theorem encN2_ren (s : N2) (π) : (encN2 s).map (CV.ren π) = encN2 s := rfl
theorem backN2 (s : N2) : decN2D (encN2 s) = s := rfl
structure wfN2 (s : N2) : Prop where
  a : (Lit.int .i64 s.a).wf = true
  b : (Lit.int .i64 s.b).wf = true
theorem opN2 (cvs : List CV) (vs : List Value) (h : LeafRs [.int .i64, .int .i64] cvs vs) : ∃ x, cvs = encN2 x ∧ wfN2 x := by
  obtain ⟨_, _, _, _, rfl, rfl, ⟨a0, rfl, rfl, w0⟩, h0⟩ := h.cons_inv
  obtain ⟨_, _, _, _, rfl, rfl, ⟨a1, rfl, rfl, w1⟩, h1⟩ := h0.cons_inv
  obtain ⟨rfl, rfl⟩ := h1.nil_inv
  exact ⟨⟨a0, a1⟩, rfl, ⟨w0, w1⟩⟩
structure Vw where
  want0 : Int
  want1 : Int
  ready0 : Int
  ready1 : Int
  deriving Inhabited
def encVw (s : Vw) : List CV := [.int .i64 s.want0, .int .i64 s.want1, .int .i64 s.ready0, .int .i64 s.ready1]
def decVw : List CV → Option Vw
  | [.int .i64 a0, .int .i64 a1, .int .i64 a2, .int .i64 a3] => some ⟨a0, a1, a2, a3⟩
  | _ => none
def decVwD : List CV → Vw
  | [.int .i64 a0, .int .i64 a1, .int .i64 a2, .int .i64 a3] => ⟨a0, a1, a2, a3⟩
  | _ => default
theorem decVw_spec (l : List CV) (s : Vw) (h : decVw l = some s) : l = encVw s := by
  unfold decVw at h; split at h <;> cases h; rfl
theorem encVw_ren (s : Vw) (π) : (encVw s).map (CV.ren π) = encVw s := rfl
theorem backVw (s : Vw) : decVwD (encVw s) = s := rfl
structure wfVw (s : Vw) : Prop where
  want0 : (Lit.int .i64 s.want0).wf = true
  want1 : (Lit.int .i64 s.want1).wf = true
  ready0 : (Lit.int .i64 s.ready0).wf = true
  ready1 : (Lit.int .i64 s.ready1).wf = true
theorem opVw (cvs : List CV) (vs : List Value) (h : LeafRs [.int .i64, .int .i64, .int .i64, .int .i64] cvs vs) : ∃ x, cvs = encVw x ∧ wfVw x := by
  obtain ⟨_, _, _, _, rfl, rfl, ⟨a0, rfl, rfl, w0⟩, h0⟩ := h.cons_inv
  obtain ⟨_, _, _, _, rfl, rfl, ⟨a1, rfl, rfl, w1⟩, h1⟩ := h0.cons_inv
  obtain ⟨_, _, _, _, rfl, rfl, ⟨a2, rfl, rfl, w2⟩, h2⟩ := h1.cons_inv
  obtain ⟨_, _, _, _, rfl, rfl, ⟨a3, rfl, rfl, w3⟩, h3⟩ := h2.cons_inv
  obtain ⟨rfl, rfl⟩ := h3.nil_inv
  exact ⟨⟨a0, a1, a2, a3⟩, rfl, ⟨w0, w1, w2, w3⟩⟩
@[reducible] def hpF (a b : Sl) : List SB := [.cells [.ptr 1 0, .ptr 2 0], .cells (encSl a), .cells (encSl b)]
def decF : List SB → Option (Sl × Sl)
  | [.cells [.ptr 1 0, .ptr 2 0], .cells x, .cells y] => (decSl x).bind fun a => (decSl y).map fun b => (a, b)
  | _ => none
theorem decF_spec {hp : List SB} {a b : Sl} (h : decF hp = some (a, b)) : hp = hpF a b := by
  unfold decF at h
  split at h
  · obtain ⟨a', ha, h⟩ := Option.bind_eq_some_iff.1 h
    obtain ⟨b', hb, h⟩ := Option.map_eq_some_iff.1 h
    cases h
    obtain rfl := decSl_spec _ _ ha
    obtain rfl := decSl_spec _ _ hb
    rfl
  · cases h
@[reducible] noncomputable def FS0 : Sums := (58, (genSum g_snew)) :: S0
theorem okFS0 : SumsOk Try.prog FS0 := (okS0.cons ok_snew)
noncomputable def g_fnew : List SV → List SB → Option Out
  | [], [] => some ⟨true, .s (.c (.ptr 0 0)), [], hpF z0 z0⟩
  | _, _ => none
theorem ok_fnew : SumOk Try.prog 31 (genSum g_fnew) := by
  refine sumOk_gen okFS0 mixed Try.func31 (c := bodyOf Try.f31) (by kernel_rfl) (by kernel_rfl) ?_
  intro args hp x h _ _
  unfold g_fnew at h
  split at h
  · cases h; exact ⟨10, by kernel_rfl⟩
  · cases h
def isB (n : Int) : Bool := n == 0 || n == 1
def g_is : List SV → Option TV
  | [.c (.int .i64 n)] => some (.s (bl (isB n)))
  | _ => none
theorem t_is {R : Type} (n : Int) (K : TV → List (Option SB) → Option R) : runFn Try.prog S0 10 Try.f78 (bodyOf Try.f78) [.c (.int .i64 n)] [] K = bif n == 0 then K (.s (bl true)) [] else K (.s (bl (n == 1))) [] := by kernel_rfl
theorem ok_is : SumOk Try.prog 78 (valSum g_is) := by
  refine sumOk_val okS0 mixed Try.func78 (c := bodyOf Try.f78) (by kernel_rfl) (by kernel_rfl) ?_
  intro args tv h
  unfold g_is at h
  split at h
  · rename_i n
    cases h
    refine ⟨fun _ => rfl, fun _ => rfl, 10, (t_is n _).trans ?_⟩
    unfold isB
    cases n == 0 <;> rfl
  · cases h
@[reducible] noncomputable def FS1 : Sums := (78, (valSum g_is)) :: (61, (ptrValC encSl decSl g_sready)) :: (59, (ptrValC encSl decSl g_sscale)) :: (60, (ptrValC encSl decSl g_swant)) :: (62, (ptrValC encSl decSl g_scount)) :: S0
theorem okFS1 : SumsOk Try.prog FS1 := (((((okS0.cons ok_scount).cons ok_swant).cons ok_sscale).cons ok_sready).cons ok_is)
/-! ### Apply -/
theorem t_fapply {R : Type} (a b : Sl) (w : N2) (K : TV → List (Option SB) → Option R) : runFn Try.prog FS1 10 Try.f34 (bodyOf Try.f34) [.c (.ptr 0 0), .agg (encN2 w)] (hpF a b) K =
    K (.tup []) ((hpF (sscale a w.a) (sscale b w.b)).map some) := by kernel_rfl
noncomputable def g_fapply : List SV → List SB → Option Out
  | [.c (.ptr 0 0), .agg l], hp => (decN2 l).bind fun w => (decF hp).map fun x => ⟨true, .tup [], (hpF (sscale x.1 w.a) (sscale x.2 w.b)).map some, []⟩
  | _, _ => none
theorem ok_fapply : SumOk Try.prog 34 (genSum g_fapply) := by
  refine sumOk_gen okFS1 mixed Try.func34 (c := bodyOf Try.f34) (by kernel_rfl) (by kernel_rfl) ?_
  intro args hp x h _ _
  unfold g_fapply at h
  split at h
  · obtain ⟨w, hw, h⟩ := Option.bind_eq_some_iff.1 h
    obtain ⟨⟨a, b⟩, ha, h⟩ := Option.map_eq_some_iff.1 h
    cases h
    obtain rfl := decN2_spec _ _ hw
    obtain rfl := decF_spec ha
    refine ⟨10, ?_⟩
    simp only [List.map_nil, List.append_nil]
    exact t_fapply a b w _
  · cases h
/-! ### Ready -/
@[reducible] noncomputable def sel2 {R : Type} (slot : Int) (x y : Option R) : Option R := bif decide (0 ≤ slot) && decide (slot < 2) then bif slot == 0 then x else bif slot == 1 then y else none else none
theorem t_fready {R : Type} (a b : Sl) (slot i : Int) (on : Bool) (K : TV → List (Option SB) → Option R) : runFn Try.prog FS1 10 Try.f56 (bodyOf Try.f56) [.c (.ptr 0 0), .c (.int .i64 slot), .c (.int .i64 i), .c (.bool on)] (hpF a b) K =
    bif isB slot then sel2 slot (bif decide (a.want ≤ 32) then K (.s (bl (sreadyB a i))) ((hpF (sreadyS a i on) b).map some) else none) (bif decide (b.want ≤ 32) then K (.s (bl (sreadyB b i))) ((hpF a (sreadyS b i on)).map some) else none)
    else K (.s (bl false)) ((hpF a b).map some) := by kernel_rfl
/-- A slot's, or no one's. -/
def fready (x : Sl × Sl) (slot i : Int) (on : Bool) : Bool × Sl × Sl := if slot = 0 then (sreadyB x.1 i, sreadyS x.1 i on, x.2) else if slot = 1 then (sreadyB x.2 i, x.1, sreadyS x.2 i on) else (false, x.1, x.2)
noncomputable def g_fready : List SV → List SB → Option Out
  | [.c (.ptr 0 0), .c (.int .i64 slot), .c (.int .i64 i), .c (.bool on)], hp => (decF hp).map fun x => ⟨decide (x.1.want ≤ 32) && decide (x.2.want ≤ 32), .s (bl (fready x slot i on).1), (hpF (fready x slot i on).2.1 (fready x slot i on).2.2).map some, []⟩
  | _, _ => none
theorem ok_fready : SumOk Try.prog 56 (genSum g_fready) := by
  refine sumOk_gen okFS1 mixed Try.func56 (c := bodyOf Try.f56) (by kernel_rfl) (by kernel_rfl) ?_
  intro args hp x h hp1 hlen
  clear hlen
  unfold g_fready at h
  split at h
  · rename_i slot i on
    obtain ⟨⟨a, b⟩, ha, h⟩ := Option.map_eq_some_iff.1 h
    cases h
    obtain rfl := decF_spec ha
    have hp1 : (decide (a.want ≤ 32) && decide (b.want ≤ 32)) = true := hp1
    simp only [Bool.and_eq_true] at hp1
    refine ⟨10, ?_⟩
    simp only [List.map_nil, List.append_nil]
    refine (t_fready a b slot i on _).trans ?_
    rw [hp1.1, hp1.2]
    unfold isB fready
    by_cases h0 : slot = 0
    · subst h0; rfl
    · by_cases h1 : slot = 1
      · subst h1; rfl
      · have e0 : (slot == 0) = false := by simp [h0]
        have e1 : (slot == 1) = false := by simp [h1]
        rw [e0, e1, if_neg h0, if_neg h1]
        rfl
  · cases h
/-! ### Full, View -/
@[reducible] def fview (x : Sl × Sl) : Vw := ⟨x.1.want, x.2.want, scount x.1, scount x.2⟩
theorem t_fview {R : Type} (a b : Sl) (K : TV → List (Option SB) → Option R) : runFn Try.prog FS1 10 Try.f37 (bodyOf Try.f37) [.c (.ptr 0 0)] (hpF a b) K =
    K (.s (.agg (encVw (fview (a, b))))) ((hpF a b).map some) := by kernel_rfl
noncomputable def g_fview : List SV → List SB → Option Out
  | [.c (.ptr 0 0)], hp => (decF hp).map fun x => ⟨true, .s (.agg (encVw (fview x))), (hpF x.1 x.2).map some, []⟩
  | _, _ => none
theorem ok_fview : SumOk Try.prog 37 (genSum g_fview) := by
  refine sumOk_gen okFS1 mixed Try.func37 (c := bodyOf Try.f37) (by kernel_rfl) (by kernel_rfl) ?_
  intro args hp x h hp1 hlen
  clear hlen hp1
  unfold g_fview at h
  split at h
  · obtain ⟨⟨a, b⟩, ha, h⟩ := Option.map_eq_some_iff.1 h
    cases h
    obtain rfl := decF_spec ha
    refine ⟨10, ?_⟩
    simp only [List.map_nil, List.append_nil]
    exact t_fview a b _
  · cases h
end Go.Proofs.Ytpebebhjmnmcbaa.Rep

/- The law ModelPlays: true, and no memory that was there is written. -/
import Derived.Test.YtpebebhjmnmcbaaMrel
set_option maxRecDepth 100000
set_option linter.unusedSimpArgs false
set_option linter.unusedVariables false
namespace Go.Proofs.Ytpebebhjmnmcbaa.Md
open Go Go.Proofs.Ytpebebhjmnmcbaa.Sx
@[reducible] def rowY (N : Nat) (f : Nat → Ac) : List (Option SB) := [some (.ro 10 (.gen N fun i => encAc (f i)))]
@[reducible] def hpY (m : Mr) (N : Nat) (ge : Nat → List CV) : List (Option SB) := [some (.cells [.int .i64 m.st.phase, .int .i64 m.st.active, .int .i64 m.st.rev0, .int .i64 m.st.rev1, .int .i64 m.st.want0, .int .i64 m.st.want1, .bool m.st.passed0, .bool m.st.passed1, .int .i64 m.st.delay, .int .i64 m.st.gen, .int .i64 m.st.switch, .int .i64 m.st.flip, .ptr 9 0, .ptr 14 0, .int .i64 m.tries, .int .i64 m.tick]), some (.cells [.ptr 10 0, .ptr 12 0]), some (.cells [.slc 11 0 m.na]), some (.vec 1 [] (.gen m.na m.ga)), some (.cells [.slc 13 0 m.nb]), some (.vec 1 [] (.gen m.nb m.gb)), some (.cells [.int .i64 m.r.slot, .int .i64 m.r.gen, .slc 15 m.r.i0 m.r.n, .int .i64 m.r.writes, .ptr 16 0]), some (.vec 1 [] (.gen N ge)), some (.cells [.bool m.r.armed, .int .i64 m.r.left, .bool m.r.blown, .int .i64 m.r.count])]
def decY : List (Option SB) → Option (Nat × Nat × Mr × Nat × (Nat → List CV))
  | [some (.cells [.int .i64 s0, .int .i64 s1, .int .i64 s2, .int .i64 s3, .int .i64 s4, .int .i64 s5, .bool s6, .bool s7, .int .i64 s8, .int .i64 s9, .int .i64 s10, .int .i64 s11, .ptr 9 0, .ptr 14 0, .int .i64 t, .int .i64 k]), some (.cells [.ptr 10 0, .ptr 12 0]), some (.cells [.slc 11 0 na']), some (.vec 1 [] (.gen na ga)), some (.cells [.slc 13 0 nb']), some (.vec 1 [] (.gen nb gb)), some (.cells [.int .i64 x, .int .i64 g, .slc 15 i n, .int .i64 w, .ptr 16 0]), some (.vec 1 [] (.gen N ge)), some (.cells [.bool l, .int .i64 e, .bool c, .int .i64 d])] =>
    some (na', nb', ⟨⟨s0, s1, s2, s3, s4, s5, s6, s7, s8, s9, s10, s11⟩, na, ga, nb, gb, ⟨x, g, w, i, n, l, e, c, d⟩, t, k⟩, N, ge)
  | _ => none
theorem decY_spec {hp : List (Option SB)} {na' nb' : Nat} {m : Mr} {N : Nat} {ge : Nat → List CV} (h : decY hp = some (na', nb', m, N, ge)) (h1 : na' = m.na) (h2 : nb' = m.nb) : hp = hpY m N ge := by
  unfold decY at h
  split at h
  · cases h
    simp only at h1 h2
    subst h1 h2
    rfl
  · cases h
@[reducible] def encYg (i : Int) (N : Nat) (f : Nat → Ac) (m : Md) (N1 : Nat) (ge : Nat → List CV) (x : Mr) (N2 : Nat) (ge2 : Nat → List CV) : Sx.St := ⟨[(5, .s (.c (.ptr 1 0))), (8, .s (.c (.ptr 8 0))), (53, .s (.c (.slc 0 0 N))), (54, .s (.c (.int .i64 (N : Int)))), (55, .s (.c (.int .i64 i)))], rowY N f ++ (hpL m N1 ge ++ hpY x N2 ge2), 17, 106⟩
@[reducible] def YA := LA × MO
def encY : YA → Sx.St
  | ((i, N, f, m, N1, o), x) => encYg i N f m N1 (fun j => Rt.encI (o j)) x.m x.N (fun j => Rt.encI (x.o j))
@[reducible] def YB := LB × Nat × Nat × Mr × Nat × (Nat → List CV)
def decYY : Sx.St → Option YB
  | ⟨[(5, .s (.c (.ptr 1 0))), (8, .s (.c (.ptr 8 0))), (53, .s (.c (.slc 0 0 N'))), (54, .s (.c (.int .i64 m'))), (55, .s (.c (.int .i64 i)))], some (.ro 10 (.gen N f)) :: b1 :: b2 :: b3 :: b4 :: b5 :: b6 :: b7 :: hp, 17, 106⟩ => (decL [b1, b2, b3, b4, b5, b6, b7]).bind fun p => (decY hp).map fun q => ((i, m', N, N', f, p.1, p.2.1, p.2.2), q)
  | _ => none
noncomputable def chkY : YB → Bool
  | (b, na', nb', m, _, ge) => chkL b && (Nat.beq na' m.na && (Nat.beq nb' m.nb && chkRo Rt.encI Rt.decID ge))
def normY : YB → YA
  | (b, _, _, m, N, ge) => (normL b, ⟨m, N, fun j => Rt.decID (ge j)⟩)
theorem decYY_spec (st : Sx.St) (p : YB) (h : decYY st = some p) (hc : chkY p = true) : st = encY (normY p) := by
  unfold decYY at h
  split at h
  · obtain ⟨⟨m, N1, ge⟩, hm, h⟩ := Option.bind_eq_some_iff.1 h
    obtain ⟨⟨na', nb', x, N2, ge2⟩, hx, h⟩ := Option.map_eq_some_iff.1 h
    cases h
    simp only [chkY, chkL, Bool.and_eq_true, decide_eq_true_eq] at hc
    obtain ⟨⟨h1, h2, h3, h4⟩, h5, h6, h7⟩ := hc
    have h1 := Nat.eq_of_beq_eq_true h1
    subst h1 h2
    have hv := decL_spec hm
    obtain rfl := decY_spec hx (Nat.eq_of_beq_eq_true h5) (Nat.eq_of_beq_eq_true h6)
    have g := chkRo_spec h3
    have g' := chkRo_spec h4
    have g'' := chkRo_spec h7
    simp only [List.cons.injEq, and_true] at hv
    obtain ⟨rfl, rfl, rfl, rfl, rfl, rfl, rfl⟩ := hv
    unfold normY normL encY
    simp only
    unfold encYg rowY
    rw [← g, ← g', ← g'']
    rfl
  · cases h
def noY (N : Nat) (f : Nat → Ac) : Sx.St := ⟨[(4, .s (.c (.bool false)))], rowY N f, 1, 106⟩
def finY (N : Nat) (f : Nat → Ac) : Sx.St := ⟨[], rowY N f, 1, 106⟩
structure YI (p : YA) : Prop where
  li : LI p.1
  rel : RelY p.1.2.2.2.1 p.1.2.2.2.2.2 p.2.m p.2.N p.2.o
noncomputable def goodY (p : YA) : Bool := @decide (YI p) (Classical.propDecidable _)
theorem goodY_iff {p : YA} : goodY p = true ↔ YI p := Iff.of_eq (@decide_eq_true_eq _ (Classical.propDecidable _))
noncomputable def tY (p : YA) (R : Type) (K : Ex → Sx.St → Option R) : Option R := bif goodY p then K (.exit 0) (finY p.1.2.1 p.1.2.2.1) else none
@[reducible] noncomputable def LY : List (Nat × LoopSum) := [(0, formSumC decYY chkY normY tY)]
/-- Do both replies stand alike? -/
noncomputable def eqY (d : Md) (x : Mr) : Bool := true && (d.st.phase == x.st.phase && (d.st.active == x.st.active && (d.st.rev0 == x.st.rev0 && (d.st.rev1 == x.st.rev1 && (d.st.want0 == x.st.want0 && (d.st.want1 == x.st.want1 && (d.st.passed0 == x.st.passed0 && (d.st.passed1 == x.st.passed1 && (d.st.delay == x.st.delay && (d.st.gen == x.st.gen && (d.st.switch == x.st.switch && (d.st.flip == x.st.flip && (d.r.slot == x.r.slot && (d.r.gen == x.r.gen && (d.a.want == (x.na : Int) && (d.b.want == (x.nb : Int) && (Rep.scount d.a == Rep.rcnt x.na (Rep.fixB x.na x.ga) && (Rep.scount d.b == Rep.rcnt x.nb (Rep.fixB x.nb x.gb) && (true && (d.tick == x.tick && true))))))))))))))))))))
theorem eqY_rel {d : Md} {o : Nat → Int} {x : Mr} {N2 : Nat} {o2 : Nat → Int} (h : RelY d o x N2 o2) : eqY d x = true := by
  unfold eqY
  rw [h.a.cnt, h.b.cnt, h.st, h.tick, h.a.want, h.b.want, h.r.slot, h.r.gen]
  simp
@[reducible] noncomputable def tlY {R : Type} (i : Int) (N : Nat) (f : Nat → Ac) (m : Md) (N1 : Nat) (o : Nat → Int) (a : Ac) (k : Int) (x : Mr) (N2 : Nat) (o2 : Nat → Int) (K : Ex → Sx.St → Option R) : Option R :=
  bif chkRo Rt.encI Rt.decID (fun j => Rt.encI (o j)) && okDo m N1 a then bif (doV m N1 o a).k != k then K .ret (noY N f) else
    bif Rt.chkB (doV m N1 o a).m.r (doV m N1 o a).N (fun j => Rt.encI ((doV m N1 o a).o j)) then bif okD x.na x.nb x then bif !eqY (doV m N1 o a).m x then K .ret (noY N f) else
      K .normal (encYg (IntKind.i64.wrap (i + 1)) N f (doV m N1 o a).m (doV m N1 o a).N (fun j => Rt.encI ((doV m N1 o a).o j)) x N2 (fun j => Rt.encI (o2 j))) else none else none else none
@[reducible] noncomputable def rdyY {R : Type} (n : Nat) (g : Nat → List CV) (k : Int) (b : Bool) (F : Int → (Nat → List CV) → Option R) : Option R := bif Rep.chkL n n (Rep.fixB n g) then bif decide (k < 0) then F 0 (Rep.fixB n g) else bif decide (k ≥ (n : Int)) then F 0 (Rep.fixB n g) else F 1 (fun j => Rep.encB1 (bif Nat.beq j k.toNat then b else Rep.decB1 (Rep.fixB n g j))) else none
theorem roundY {R : Type} (L : List (Nat × LoopSum)) (i : Int) (N : Nat) (f : Nat → Ac) (m : Md) (N1 : Nat) (o : Nat → Int) (x : Mr) (N2 : Nat) (o2 : Nat → Int) (K : Ex → Sx.St → Option R) : roundK Try.prog PY L 20 1 (resMask Try.f5.results.toList) (lpAt Try.f5 0) (encY ((i, N, f, m, N1, o), ⟨x, N2, o2⟩)) K =
    bif decide (i < (N : Int)) then bif decide (0 ≤ i) && decide (i < (N : Int)) then bif decide (i.toNat < N) then
      bif (f i.toNat).kind == 1 then bif okD x.na x.nb x && Fold.act x.st then bif Fold.rcheckV x.st (askA (f i.toNat)) x.tick == 0 then tlY i N f m N1 o (f i.toNat) (Fold.rcheckV x.st (askA (f i.toNat)) x.tick) (rputM x (Fold.rrecordV (askA (f i.toNat)))) N2 o2 K
        else tlY i N f m N1 o (f i.toNat) (Fold.rcheckV x.st (askA (f i.toNat)) x.tick) x N2 o2 K else none
      else bif (f i.toNat).kind == 2 then bif okD x.na x.nb x && (chkRo Rt.encI Rt.decID (fun j => Rt.encI (o2 j)) && rokS x N2 o2 (f i.toNat).outL) then
        tlY i N f m N1 o (f i.toNat) (rstepG 4 (stepX x o2 (f i.toNat).outL)).1 (rstepG 4 (stepX x o2 (f i.toNat).outL)).2.m (rstepG 4 (stepX x o2 (f i.toNat).outL)).2.N (rstepG 4 (stepX x o2 (f i.toNat).outL)).2.o K else none
      else bif (f i.toNat).kind == 3 then bif (f i.toNat).slot == 0 then rdyY x.na x.ga (f i.toNat).n (f i.toNat).on (fun k g => tlY i N f m N1 o (f i.toNat) k (wa x g) N2 o2 K)
        else bif (f i.toNat).slot == 1 then rdyY x.nb x.gb (f i.toNat).n (f i.toNat).on (fun k g => tlY i N f m N1 o (f i.toNat) k (wb x g) N2 o2 K) else tlY i N f m N1 o (f i.toNat) 0 x N2 o2 K
      else bif (f i.toNat).kind == 4 then bif okD x.na x.nb x then tlY i N f m N1 o (f i.toNat) 0 (rtickM x (f i.toNat).n) N2 o2 K else none
      else tlY i N f m N1 o (f i.toNat) 0 x N2 o2 K
    else none else none else K (.exit 0) (finY N f) := by kernel_rfl
end Go.Proofs.Ytpebebhjmnmcbaa.Md

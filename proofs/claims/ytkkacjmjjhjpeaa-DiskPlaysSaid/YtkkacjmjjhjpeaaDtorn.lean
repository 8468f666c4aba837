/- DiskTorn: the walk and the law. No condition. -/
import Derived.Test.YtkkacjmjjhjpeaaDk8
set_option maxRecDepth 100000
set_option linter.unusedSimpArgs false
set_option linter.unusedVariables false
namespace Go.Proofs.Ytkkacjmjjhjpeaa.Dk
open Go Go.Proofs.Ytkkacjmjjhjpeaa.Sx
theorem fill_list (b : Int) (c : Nat) : (repB (oneB b) c).data.toList = List.replicate c (oneB b).data[0]! := by
  show (Lib.repeatL (oneB b).data.toList c).toArray.toList = _
  have : (oneB b).data.toList = List.replicate 1 (oneB b).data[0]! := rfl
  rw [this, Lib.repeatL_replicate]
  simp
theorem ba_ext {a b : ByteArray} (h : a.data.toList = b.data.toList) : a = b := by
  cases a; cases b
  congr 1
  exact Array.toList_inj.1 h
theorem fill_extract (b : Int) (c i j : Nat) : (repB (oneB b) c).extract i j = repB (oneB b) (min j c - i) := by
  apply ba_ext
  rw [ByteArray.data_extract, Array.toList_extract, fill_list, fill_list, List.extract_eq_take_drop]
  rw [List.drop_replicate, List.take_replicate]
  congr 1
  omega
theorem fillV_eq {b n : Int} (h : 0 ≤ n ∧ n ≤ 2000) : fillV b n = repB (oneB b) n.toNat := by
  unfold fillV
  rw [(capN_spec n).2.2 h.1 h.2]
theorem fillV_size (b n : Int) : ((fillV b n).size : Int) = capN n := by
  have := capN_spec n
  unfold fillV
  rw [repB_size, oneB_size]
  omega
/-! ### What a bearing fuse lets pass -/
theorem spend_free (c : Int) : spendV ⟨-1, false, c⟩ = (true, ⟨-1, false, IntKind.i64.wrap (c + 1)⟩) := rfl
theorem write_ok {d : D} {i : Int} {b : ByteArray} (hi : 0 ≤ i ∧ i < d.n) (hb : (b.size : Int) = d.size) (hs : (spendV d.fu).1 = true) : writeV d i b = (0, addW (wF d (spendV d.fu).2) (i, b)) := by
  rcases writeV_cases d i b with ⟨_, e⟩ | ⟨_, _, ⟨e, _⟩ | ⟨_, e⟩⟩
  · exact absurd ⟨hi, hb⟩ e
  · rw [hs] at e; cases e
  · exact e
theorem flush_ok {d : D} (hs : (spendV d.fu).1 = true) : flushV d = (0, nilW (wF d (spendV d.fu).2) (lastF d.W d.k 0 d.S)) := by
  unfold flushV; rw [hs]; rfl
@[reducible] noncomputable def SL : Sums := (9, valSum g_awake) :: (13, genSumN (gD V_flush)) :: (12, valSum g_fill) :: SA
theorem okSL : SumsOk Try.prog SL := ((okSA.cons ok_fill).cons ok_flush).cons ok_awake
@[reducible] noncomputable def f0 : F := ⟨-1, false, 0⟩
@[reducible] noncomputable def tb1 (a : Int) : D := (writeV a0 2 (fillV a 128)).2
@[reducible] noncomputable def tb2 (a : Int) : D := (flushV (tb1 a)).2
@[reducible] noncomputable def tb3 (a b : Int) : D := (writeV (tb2 a) 2 (fillV b 128)).2
@[reducible] noncomputable def tb4 (a b torn : Int) : D := crashV (tb3 a b) 1 torn
@[reducible] noncomputable def tn (torn : Int) : Int := foldMin (foldMax torn [0]) [128]
theorem t_DiskTorn (a b torn : Int) : runFn Try.prog SL 10 Try.f5 (bodyOf Try.f5) [.c (.int .u8 a), .c (.int .u8 b), i64 torn] [] lawK =
    chain [okDs a0, decide (a0.k + 1 ≤ 4294967296), okDs (tb1 a), preD (tb1 a), okDs (tb2 a), decide ((tb2 a).k + 1 ≤ 4294967296), okDs (tb3 a b), gB (tb3 a b), okDs (tb4 a b torn), preD (tb4 a b torn), (readV (tb4 a b torn) 2).2 == 0, decide ((fillV b (tn torn)).size + (fillV a (IntKind.i64.wrap (128 - tn torn))).size ≤ 9223372036854775807), (readV (tb4 a b torn) 2).1.toList == (fillV b (tn torn) ++ fillV a (IntKind.i64.wrap (128 - tn torn))).toList] (some ()) := by kernel_rfl
theorem tb1_eq (a : Int) : writeV a0 2 (fillV a 128) = (0, addW (wF a0 ⟨-1, false, 1⟩) (2, fillV a 128)) := by
  refine write_ok ⟨by omega, ?_⟩ ?_ rfl
  · show (2 : Int) < ((nc 4).toNat : Int)
    have := nc_spec 4
    omega
  · rw [fillV_size]; rfl
theorem tb2_eq (a : Int) : flushV (tb1 a) = (0, nilW (wF (tb1 a) ⟨-1, false, 2⟩) (setS a0.S 2 (fillV a 128))) := by
  have e : tb1 a = addW (wF a0 ⟨-1, false, 1⟩) (2, fillV a 128) := by unfold tb1; rw [tb1_eq]
  rw [flush_ok (by rw [e]; rfl), e]
  rfl
theorem tb2_eq' (a : Int) : tb2 a = nilW (wF (tb1 a) ⟨-1, false, 2⟩) (setS a0.S 2 (fillV a 128)) := by unfold tb2; rw [tb2_eq]
theorem tb1_eq' (a : Int) : tb1 a = addW (wF a0 ⟨-1, false, 1⟩) (2, fillV a 128) := by unfold tb1; rw [tb1_eq]
theorem tb3_eq (a b : Int) : tb3 a b = addW (wF (tb2 a) ⟨-1, false, 3⟩) (2, fillV b 128) := by
  unfold tb3
  rw [write_ok ⟨by omega, ?_⟩ ?_ (by rw [tb2_eq']; rfl)]
  · rw [tb2_eq', tb1_eq']; rfl
  · rw [tb2_eq', tb1_eq']
    show (2 : Int) < ((nc 4).toNat : Int)
    have := nc_spec 4
    omega
  · rw [fillV_size, tb2_eq', tb1_eq']; rfl
theorem crash_S (d : D) (keep torn : Int) : (crashV d keep torn).S = tornS d torn (kept d.W keep d.k).1 (kept d.W keep d.k).2 := rfl
theorem crash_k (d : D) (keep torn : Int) : (crashV d keep torn).k = 0 := rfl
theorem torn_1 (d : D) (torn : Int) (L : Nat → Int × ByteArray) : tornS d torn 1 L = setS d.S (L 0).1.toNat ((L 0).2.extract 0 (cutV d torn).toNat ++ (d.S (L 0).1.toNat).extract (cutV d torn).toNat (d.S (L 0).1.toNat).size) := rfl
theorem read_k {d : D} {i : Int} (hi : isV d i = true) (hk : d.k = 0) : readV d i = (d.S i.toNat, 0) := by
  unfold readV; rw [hi, hk]; rfl
theorem kept_1 (W : Nat → Int × ByteArray) : kept W 1 1 = (1, pushW (fun _ => (0, ByteArray.empty)) 0 (W 0)) := rfl
theorem push_0 (W : Nat → Int × ByteArray) (w : Int × ByteArray) : pushW W 0 w 0 = w := rfl
theorem tb4_S (a b torn : Int) : (tb4 a b torn).S 2 = (fillV b 128).extract 0 (tn torn).toNat ++ (fillV a 128).extract (tn torn).toNat (fillV a 128).size := by
  have h3 := tb3_eq a b
  have h2 := tb2_eq' a
  have h1 := tb1_eq' a
  have e3k : (tb3 a b).k = 1 := by rw [h3, h2]
  have e3W : (tb3 a b).W 0 = (2, fillV b 128) := by rw [h3, h2]; rfl
  have hc : cutV (tb3 a b) torn = tn torn := by
    unfold cutV
    rw [h3, h2, h1]
    rfl
  have hS : (tb3 a b).S 2 = fillV a 128 := by rw [h3, h2]; exact setS_at a0.S 2 (fillV a 128)
  unfold tb4
  rw [crash_S, e3k, kept_1]
  dsimp only
  rw [torn_1, push_0, e3W, hc]
  show setS (tb3 a b).S 2 ((fillV b 128).extract 0 (tn torn).toNat ++ ((tb3 a b).S 2).extract (tn torn).toNat ((tb3 a b).S 2).size) 2 = _
  rw [setS_at, hS]
theorem chain_step {R : Type} {c : Bool} {r : List Bool} {x y : Option R} (h : c = true) (h2 : chain r x = y) : chain (c :: r) x = y := by subst h; exact h2
theorem tn_spec (torn : Int) : 0 ≤ tn torn ∧ tn torn ≤ 128 := by
  unfold tn foldMin foldMax foldMax foldMin
  split <;> split <;> omega
theorem DiskTorn (a b torn : Int) (_ : (Lit.int .u8 a).wf = true) (_ : (Lit.int .u8 b).wf = true) (_ : (Lit.int .i64 torn).wf = true) (w : World) :
    Calls Try.prog 5 #[.int .u8 a, .int .u8 b, .int .i64 torn] w fun e w' => e = .returned (.bool true) ∧ RowKit.Below w.heap.size w w' := by
  refine law_calls okSL mixed Try.func5 (c := bodyOf Try.f5) (by kernel_rfl) lawK_spec (fuel := 10) (args := [.c (.int .u8 a), .c (.int .u8 b), i64 torn]) (hp0 := []) (X := fun _ _ => False) (ρ := fun _ => none) (vs := [.int .u8 a, .int .u8 b, .int .i64 torn]) ?_ ⟨rfl, rfl, rfl, trivial⟩ (by intro b sb h; simp at h) (fun _ _ => rfl)
  rw [t_DiskTorn]
  have g0 : Good a0 := Good.new 128 4 _
  have k0 : a0.k = 0 := rfl
  have g1 : Good (tb1 a) := g0.write _ _ (by rw [k0]; omega)
  have g2 : Good (tb2 a) := g1.flush
  have k2 : (tb2 a).k = 0 := by rw [tb2_eq']
  have g3 : Good (tb3 a b) := g2.write _ _ (by rw [k2]; omega)
  have g4 : Good (tb4 a b torn) := g3.crash 1 torn
  have hn := tn_spec torn
  have hw : IntKind.i64.wrap (128 - tn torn) = 128 - tn torn := wi (by omega)
  have hr : readV (tb4 a b torn) 2 = (fillV b (tn torn) ++ fillV a (128 - tn torn), 0) := by
    have hi : isV (tb4 a b torn) 2 = true := isV_spec.2 ⟨by omega, by have := g4.n; omega⟩
    rw [read_k hi (crash_k ..)]
    show ((tb4 a b torn).S 2, (0 : Int)) = _
    rw [tb4_S, fillV_eq (b := b) (n := 128) (by omega), fillV_eq (b := a) (n := 128) (by omega), fillV_eq (b := b) (n := tn torn) (by omega), fillV_eq (b := a) (n := 128 - tn torn) (by omega), fill_extract, fill_extract, repB_size, oneB_size]
    rw [show min (tn torn).toNat (128 : Int).toNat - 0 = (tn torn).toNat by omega, show min ((128 : Int).toNat * 1) (128 : Int).toNat - (tn torn).toNat = (128 - tn torn).toNat by omega]
  have s1 := fillV_size b (tn torn)
  have s2 := fillV_size a (128 - tn torn)
  have c1 := capN_spec (tn torn)
  have c2 := capN_spec (128 - tn torn)
  refine chain_step (okD_self _) ?_
  refine chain_step (decide_eq_true (by rw [k0]; omega)) ?_
  refine chain_step (okD_self _) ?_
  refine chain_step g1.preW ?_
  refine chain_step (okD_self _) ?_
  refine chain_step (decide_eq_true (by rw [k2]; omega)) ?_
  refine chain_step (okD_self _) ?_
  refine chain_step (gB_spec.2 g3) ?_
  refine chain_step (okD_self _) ?_
  refine chain_step g4.preW ?_
  rw [hr, hw]
  refine chain_step rfl ?_
  refine chain_step (decide_eq_true (by omega)) ?_
  exact chain_step (beq_self_eq_true _) rfl
end Go.Proofs.Ytkkacjmjjhjpeaa.Dk

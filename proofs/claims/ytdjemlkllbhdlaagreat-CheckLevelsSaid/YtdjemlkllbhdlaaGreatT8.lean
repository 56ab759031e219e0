/- The walks of trees. -/
import Derived.Test.YtdjemlkllbhdlaaGreatT7
import Derived.Test.YtdjemlkllbhdlaaGreatSpec7
set_option linter.unusedVariables false
set_option linter.unusedSimpArgs false
namespace Go.Proofs.YtdjemlkllbhdlaaGreat
open Go Go.RowKit
theorem meet_calls {H : Hp} {A A' : Option Addr} {c c' : Nat} {tr at_ ord : List Int} (ht : RdS H A tr) (ha : RdS H A' at_) {T : Nat → Nat} {i n : Nat} (hI : TA tr at_ ord T i n) (ja jb k : Nat) (hja : ja < i) (hjb : jb < i) (hk : ∀ y, Dt T k y ↔ Dt T ja y ∧ Dt T jb y) : CallG Tryz.prog 87 [.slice A tr.length c, .slice A' at_.length c', .int .i64 (nth ord (ja : Int)), .int .i64 (nth ord (jb : Int))] H [] (fun v _ L' => v = .int .i64 (nth ord (k : Int)) ∧ L' = []) := by
  have hl1 := hI.ltr; have hl2 := hI.lat; have hn := hI.n64
  refine CallG.of Tryz.func87 rfl rfl rfl fun w0 => ?_
  change WpG _ _ _ _ _ _ [(0, .slice A tr.length c), (1, .slice A' at_.length c'), (2, .int .i64 (nth ord (ja : Int))), (3, .int .i64 (nth ord (jb : Int)))] _ _ _
  refine WpG.go tabOK 7 [(0, .slice A tr.length c), (1, .slice A' at_.length c'), (2, .int .i64 (nth ord (ja : Int))), (3, .int .i64 (nth ord (jb : Int)))] rfl ⟨rfl, rfl, rfl, rfl, trivial⟩ ?_
  refine WpG.ind (σ := Nat × Nat) (fun z_ => z_.1 + z_.2) (fun z_ => [(0, .slice A tr.length c), (1, .slice A' at_.length c'), (2, .int .i64 (nth ord (z_.1 : Int))), (3, .int .i64 (nth ord (z_.2 : Int)))]) (fun z_ => H) (fun z_ => []) (fun z_ => z_.1 < i ∧ z_.2 < i ∧ ∀ y, Dt T k y ↔ Dt T z_.1 y ∧ Dt T z_.2 y) ?_ (ja, jb) ⟨hja, hjb, hk⟩
  rintro ⟨a, b⟩ inv ih1
  change WpG _ _ _ _ _ _ [(0, .slice A tr.length c), (1, .slice A' at_.length c'), (2, .int .i64 (nth ord (a : Int))), (3, .int .i64 (nth ord (b : Int)))] H [] _
  replace inv : a < i ∧ b < i ∧ ∀ y, Dt T k y ↔ Dt T a y ∧ Dt T b y := inv
  obtain ⟨i0, i1, i2⟩ := inv
  refine WpG.go tabOK 7 [(0, .slice A tr.length c), (1, .slice A' at_.length c'), (2, .int .i64 (nth ord (a : Int))), (3, .int .i64 (nth ord (b : Int))), (11, .bool ((nth ord (a : Int)) != (nth ord (b : Int))))] rfl ⟨rfl, rfl, rfl, rfl, rfl, trivial⟩ ?_
  refine WpG.caseN (t := 11) rfl (fun q11 => ?_) (fun q11 => ?_)
  · refine WpG.go tabOK 6 [(0, .slice A tr.length c), (1, .slice A' at_.length c'), (2, .int .i64 (nth ord (a : Int))), (3, .int .i64 (nth ord (b : Int)))] rfl ⟨rfl, rfl, rfl, rfl, trivial⟩ ?_
    refine WpG.ind (σ := Nat) (fun z_ => z_) (fun z_ => [(0, .slice A tr.length c), (1, .slice A' at_.length c'), (2, .int .i64 (nth ord (z_ : Int))), (3, .int .i64 (nth ord (b : Int)))]) (fun z_ => H) (fun z_ => []) (fun z_ => z_ < i ∧ z_ ≤ a ∧ ∀ y, Dt T k y ↔ Dt T z_ y ∧ Dt T b y) ?_ (a) ⟨i0, Nat.le_refl _, i2⟩
    intro p inv ih2
    change WpG _ _ _ _ _ _ [(0, .slice A tr.length c), (1, .slice A' at_.length c'), (2, .int .i64 (nth ord (p : Int))), (3, .int .i64 (nth ord (b : Int)))] H [] _
    replace inv : p < i ∧ p ≤ a ∧ ∀ y, Dt T k y ↔ Dt T p y ∧ Dt T b y := inv
    obtain ⟨j0, j1, j2⟩ := inv
    have hrp := hI.rng p j0; have hrb := hI.rng b i1
    refine WpG.go tabOK 2 [(0, .slice A tr.length c), (1, .slice A' at_.length c'), (2, .int .i64 (nth ord (p : Int))), (3, .int .i64 (nth ord (b : Int)))] rfl ⟨rfl, rfl, rfl, rfl, trivial⟩ ?_
    refine WpG.draw 9 [] mixed (by kernel_rfl) ?_
    refine WpD.go (listed' := lst 9 51) tabOK [0, 1, 4, 5] [(0, .slice A tr.length c), (1, .slice A' at_.length c'), (2, .int .i64 (nth ord (p : Int))), (3, .int .i64 (nth ord (b : Int))), (12, .slice A' at_.length c'), (13, .int .i64 (nth ord (p : Int))), (16, .slice A' at_.length c'), (17, .int .i64 (nth ord (b : Int)))] (by kernel_rfl) rfl ⟨rfl, rfl, rfl, rfl, rfl, rfl, rfl, rfl, trivial⟩ (Hp.le.refl _) (Hp.le.refl _) .slnil ?_
    refine WpD.indexR (i := 2) (fuel := 4) (listed' := lst 9 55) tabOK (by kernel_rfl) rfl rfl rfl rfl rfl rfl rfl rfl rfl (Hp.le.refl _) (Hp.le.refl _) .slnil ha (by omega) (by omega) ?_
    rintro x1 hx1 b1 o1 _ ⟨rfl, k1⟩ hc1
    obtain rfl : x1 = ((p : Nat) : Int) := by rw [hx1]; exact hI.place p j0
    refine WpD.y (i := 3) (fuel := 3) (listed' := lst 9 63) (by kernel_rfl) rfl rfl rfl rfl (Hp.le.refl _) (Hp.le.refl _) .slnil (RunY.loadH tabOK hc1 (Hp.le.refl _) rfl rfl rfl rfl) ?_
    refine WpD.indexR (i := 6) (fuel := 2) (listed' := lst 9 127) tabOK (by kernel_rfl) rfl rfl rfl rfl rfl rfl rfl rfl rfl (Hp.le.refl _) (Hp.le.refl _) .slnil ha (by omega) (by omega) ?_
    rintro x2 hx2 b2 o2 _ ⟨rfl, k2⟩ hc2
    obtain rfl : x2 = ((b : Nat) : Int) := by rw [hx2]; exact hI.place b i1
    refine WpD.y (i := 7) (fuel := 1) (listed' := lst 9 255) (by kernel_rfl) rfl rfl rfl rfl (Hp.le.refl _) (Hp.le.refl _) .slnil (RunY.loadH tabOK hc2 (Hp.le.refl _) rfl rfl rfl rfl) ?_
    refine WpD.go (listed' := lst 9 511) tabOK [8] [(0, .slice A tr.length c), (1, .slice A' at_.length c'), (2, .int .i64 (nth ord (p : Int))), (3, .int .i64 (nth ord (b : Int))), (20, .bool (decide (((p : Nat) : Int) > ((b : Nat) : Int))))] (by kernel_rfl) rfl ⟨rfl, rfl, rfl, rfl, rfl, trivial⟩ (Hp.le.refl _) (Hp.le.refl _) .slnil ?_
    refine WpD.done (by kernel_rfl) ?_
    refine WpG.caseD (t := 20) rfl (fun q20 => ?_) (fun q20 => ?_)
    · refine WpG.go tabOK 6 [(0, .slice A tr.length c), (1, .slice A' at_.length c'), (3, .int .i64 (nth ord (b : Int))), (21, .slice A tr.length c), (22, .int .i64 (nth ord (p : Int)))] rfl ⟨rfl, rfl, rfl, rfl, rfl, trivial⟩ ?_
      refine WpG.indexR tabOK rfl rfl rfl rfl rfl rfl rfl rfl rfl ht (by omega) (by omega) ?_
      rintro x3 hx3 b3 o3 _ ⟨rfl, k3⟩ hc3
      obtain rfl : x3 = nth ord (T p : Int) := by rw [hx3]; exact hI.tree p j0
      refine WpG.y rfl rfl rfl rfl (RunY.loadH tabOK hc3 (Hp.le.refl _) rfl rfl rfl rfl) ?_
      refine WpG.go tabOK 4 [(0, .slice A tr.length c), (1, .slice A' at_.length c'), (2, .int .i64 (nth ord (T p : Int))), (3, .int .i64 (nth ord (b : Int)))] rfl ⟨rfl, rfl, rfl, rfl, trivial⟩ ?_
      refine WpG.weaken (G := [(0, .slice A tr.length c), (1, .slice A' at_.length c'), (2, .int .i64 (nth ord (T p : Int))), (3, .int .i64 (nth ord (b : Int)))]) (Known.all ⟨rfl, rfl, rfl, rfl, trivial⟩) (ih2 (T p) ?_ ?_)
      · show (T p) < p
        exact hI.par.lt p (by omega)
      · show (T p) < i ∧ (T p) ≤ a ∧ ∀ y, Dt T k y ↔ Dt T (T p) y ∧ Dt T b y
        -- back 0 of loop 2, path L1TL2T
        clear ih1 ih2
        have hlt := hI.par.lt p (by omega)
        exact ⟨hI.up j0, by omega, nca_left hI.par j2 (by omega)⟩
    · refine WpG.go tabOK 4 [(0, .slice A tr.length c), (1, .slice A' at_.length c'), (2, .int .i64 (nth ord (p : Int))), (3, .int .i64 (nth ord (b : Int)))] rfl ⟨rfl, rfl, rfl, rfl, trivial⟩ ?_
      refine WpG.ind (σ := Nat) (fun z_ => z_) (fun z_ => [(0, .slice A tr.length c), (1, .slice A' at_.length c'), (2, .int .i64 (nth ord (p : Int))), (3, .int .i64 (nth ord (z_ : Int)))]) (fun z_ => H) (fun z_ => []) (fun z_ => z_ < i ∧ z_ ≤ b ∧ ∀ y, Dt T k y ↔ Dt T p y ∧ Dt T z_ y) ?_ (b) ⟨i1, Nat.le_refl _, j2⟩
      intro q inv ih3
      change WpG _ _ _ _ _ _ [(0, .slice A tr.length c), (1, .slice A' at_.length c'), (2, .int .i64 (nth ord (p : Int))), (3, .int .i64 (nth ord (q : Int)))] H [] _
      replace inv : q < i ∧ q ≤ b ∧ ∀ y, Dt T k y ↔ Dt T p y ∧ Dt T q y := inv
      obtain ⟨l0, l1, l2⟩ := inv
      have hrq := hI.rng q l0
      refine WpG.go tabOK 2 [(0, .slice A tr.length c), (1, .slice A' at_.length c'), (2, .int .i64 (nth ord (p : Int))), (3, .int .i64 (nth ord (q : Int)))] rfl ⟨rfl, rfl, rfl, rfl, trivial⟩ ?_
      refine WpG.draw 9 [] mixed (by kernel_rfl) ?_
      refine WpD.go (listed' := lst 9 51) tabOK [0, 1, 4, 5] [(0, .slice A tr.length c), (1, .slice A' at_.length c'), (2, .int .i64 (nth ord (p : Int))), (3, .int .i64 (nth ord (q : Int))), (25, .slice A' at_.length c'), (26, .int .i64 (nth ord (q : Int))), (29, .slice A' at_.length c'), (30, .int .i64 (nth ord (p : Int)))] (by kernel_rfl) rfl ⟨rfl, rfl, rfl, rfl, rfl, rfl, rfl, rfl, trivial⟩ (Hp.le.refl _) (Hp.le.refl _) .slnil ?_
      refine WpD.indexR (i := 2) (fuel := 4) (listed' := lst 9 55) tabOK (by kernel_rfl) rfl rfl rfl rfl rfl rfl rfl rfl rfl (Hp.le.refl _) (Hp.le.refl _) .slnil ha (by omega) (by omega) ?_
      rintro x4 hx4 b4 o4 _ ⟨rfl, k4⟩ hc4
      obtain rfl : x4 = ((q : Nat) : Int) := by rw [hx4]; exact hI.place q l0
      refine WpD.y (i := 3) (fuel := 3) (listed' := lst 9 63) (by kernel_rfl) rfl rfl rfl rfl (Hp.le.refl _) (Hp.le.refl _) .slnil (RunY.loadH tabOK hc4 (Hp.le.refl _) rfl rfl rfl rfl) ?_
      refine WpD.indexR (i := 6) (fuel := 2) (listed' := lst 9 127) tabOK (by kernel_rfl) rfl rfl rfl rfl rfl rfl rfl rfl rfl (Hp.le.refl _) (Hp.le.refl _) .slnil ha (by omega) (by omega) ?_
      rintro x5 hx5 b5 o5 _ ⟨rfl, k5⟩ hc5
      obtain rfl : x5 = ((p : Nat) : Int) := by rw [hx5]; exact hI.place p j0
      refine WpD.y (i := 7) (fuel := 1) (listed' := lst 9 255) (by kernel_rfl) rfl rfl rfl rfl (Hp.le.refl _) (Hp.le.refl _) .slnil (RunY.loadH tabOK hc5 (Hp.le.refl _) rfl rfl rfl rfl) ?_
      refine WpD.go (listed' := lst 9 511) tabOK [8] [(0, .slice A tr.length c), (1, .slice A' at_.length c'), (2, .int .i64 (nth ord (p : Int))), (3, .int .i64 (nth ord (q : Int))), (33, .bool (decide (((q : Nat) : Int) > ((p : Nat) : Int))))] (by kernel_rfl) rfl ⟨rfl, rfl, rfl, rfl, rfl, trivial⟩ (Hp.le.refl _) (Hp.le.refl _) .slnil ?_
      refine WpD.done (by kernel_rfl) ?_
      refine WpG.caseD (t := 33) rfl (fun q33 => ?_) (fun q33 => ?_)
      · refine WpG.go tabOK 6 [(0, .slice A tr.length c), (1, .slice A' at_.length c'), (2, .int .i64 (nth ord (p : Int))), (34, .slice A tr.length c), (35, .int .i64 (nth ord (q : Int)))] rfl ⟨rfl, rfl, rfl, rfl, rfl, trivial⟩ ?_
        refine WpG.indexR tabOK rfl rfl rfl rfl rfl rfl rfl rfl rfl ht (by omega) (by omega) ?_
        rintro x6 hx6 b6 o6 _ ⟨rfl, k6⟩ hc6
        obtain rfl : x6 = nth ord (T q : Int) := by rw [hx6]; exact hI.tree q l0
        refine WpG.y rfl rfl rfl rfl (RunY.loadH tabOK hc6 (Hp.le.refl _) rfl rfl rfl rfl) ?_
        refine WpG.go tabOK 4 [(0, .slice A tr.length c), (1, .slice A' at_.length c'), (2, .int .i64 (nth ord (p : Int))), (3, .int .i64 (nth ord (T q : Int)))] rfl ⟨rfl, rfl, rfl, rfl, trivial⟩ ?_
        refine WpG.weaken (G := [(0, .slice A tr.length c), (1, .slice A' at_.length c'), (2, .int .i64 (nth ord (p : Int))), (3, .int .i64 (nth ord (T q : Int)))]) (Known.all ⟨rfl, rfl, rfl, rfl, trivial⟩) (ih3 (T q) ?_ ?_)
        · show (T q) < q
          exact hI.par.lt q (by omega)
        · show (T q) < i ∧ (T q) ≤ b ∧ ∀ y, Dt T k y ↔ Dt T p y ∧ Dt T (T q) y
          -- back 0 of loop 3, path L1TL2FL3T
          clear ih1 ih2 ih3
          have hlt := hI.par.lt q (by omega)
          exact ⟨hI.up l0, by omega, nca_right hI.par l2 (by omega)⟩
      · refine WpG.go tabOK 4 [(0, .slice A tr.length c), (1, .slice A' at_.length c'), (2, .int .i64 (nth ord (p : Int))), (3, .int .i64 (nth ord (q : Int)))] rfl ⟨rfl, rfl, rfl, rfl, trivial⟩ ?_
        refine WpG.weaken (G := [(0, .slice A tr.length c), (1, .slice A' at_.length c'), (2, .int .i64 (nth ord (p : Int))), (3, .int .i64 (nth ord (q : Int)))]) (Known.all ⟨rfl, rfl, rfl, rfl, trivial⟩) (ih1 (p, q) ?_ ?_)
        · show p + q < a + b
          have hne : a ≠ b := fun e => q11 (by rw [e])
          omega
        · show p < i ∧ q < i ∧ ∀ y, Dt T k y ↔ Dt T p y ∧ Dt T q y
          -- back 0 of loop 1, path L1TL2FL3F
          clear ih1 ih2 ih3
          exact ⟨j0, l0, l2⟩
  · refine WpG.go tabOK 7 [(8, .int .i64 (nth ord (a : Int)))] rfl ⟨rfl, trivial⟩ ?_
    -- return 0, path L1F
    exact WpG.ret tabOK (L' := []) (.tmp rfl .nil) .slnil ⟨congrArg (Value.int .i64) (by clear ih1; obtain rfl := hI.inj i0 i1 q11; rw [nca_same hI.par i2]), rfl⟩

theorem repC_int (x : Int) : ∀ n, repC [.int .i64 x] n = (List.replicate n x).map iv
  | 0 => rfl
  | n + 1 => by
    have := repC_int x n
    unfold repC at *
    rw [List.replicate_succ, List.replicate_succ, List.flatten_cons, List.map_cons, this]; rfl
theorem Repeat_int_of {H : Hp} {A : Option Addr} {c : Nat} {x : Int} (hr : RdS H A [x]) (n : Nat) (hn : n ≤ 64) : CallG Tryz.prog 86 [.slice A 1 c, .int .i64 (n : Int)] H []
    fun v H' L' => H' = H ∧ ∃ b', v = .slice (some ⟨b', 0, none⟩) n n ∧ L' = [Chunk.own 3 1 (some ⟨b', 0, none⟩) n n ((List.replicate n x).map iv)] := by
  obtain ⟨b, o, rfl, vs, rx, hv⟩ := hr.at_ (i := 0) (by omega) (by simp)
  have rx' : Rdc.rd H vs x := rx
  have hv' : HCells H b o vs := by simpa using hv
  refine (Repeat_int (c := c) rx' hv' n (by omega)).mono fun v H' L' hH ⟨e, b', e1, e2⟩ => ⟨e, b', e1, ?_⟩
  rw [e2, rx'.1, repC_int]

theorem Tree_calls {H : Hp} {gr : GraphD} {cs_gr : List Value} (rd_gr : Rdc.rd H cs_gr gr) (root : Int) (hm : mayG gr = true) (h0 : 0 ≤ root) (h1 : root < gr.succ.length) : CallG Tryz.prog 54 [.agg cs_gr.toArray, .int .i64 root] H [] (fun v H' L' => ∃ b c tl', v = .slice (some ⟨b, 0, none⟩) tl'.length c ∧ TreeP gr.succ root tl' ∧ AllI tl' ∧ L' = [Chunk.own 3 1 (some ⟨b, 0, none⟩) c tl'.length (tl'.map iv)]) := by
  have rd_gr' := rd_gr; obtain ⟨A_gr_0, c_gr_0, A_gr_1, c_gr_1, rfl, u_gr_0, r_gr_0, u_gr_1, r_gr_1⟩ := rd_gr
  have hR := (may_rows hm).2
  have hn64 := hR.1
  have hpl := may_plen hm
  refine CallG.of Tryz.func54 rfl rfl rfl fun w0 => ?_
  change WpG _ _ _ _ _ _ [(0, .agg #[.slice A_gr_0 gr.succ.length c_gr_0, .slice A_gr_1 gr.pred.length c_gr_1]), (1, .int .i64 root)] _ _ _
  refine WpG.go tabOK 2 [(0, .agg #[.slice A_gr_0 gr.succ.length c_gr_0, .slice A_gr_1 gr.pred.length c_gr_1]), (1, .int .i64 root)] rfl ⟨rfl, rfl, trivial⟩ ?_
  refine WpG.box rfl rfl rfl rfl rfl (fun b1 => ?_)
  refine WpG.go tabOK 5 [(1, .int .i64 root), (2, .pointer (some ⟨b1, 0, none⟩))] rfl ⟨rfl, rfl, trivial⟩ ?_
  refine WpG.y rfl rfl rfl rfl (RunY.loadBox (ci := 0) tabOK rfl rfl rfl rfl) ?_
  refine WpG.go tabOK 1 [(1, .int .i64 root), (2, .pointer (some ⟨b1, 0, none⟩)), (16, .agg #[.slice A_gr_0 gr.succ.length c_gr_0, .slice A_gr_1 gr.pred.length c_gr_1]), (17, .int .i64 root)] rfl ⟨rfl, rfl, rfl, rfl, trivial⟩ ?_
  refine WpG.call0 rfl rfl rfl rfl rfl rfl (Order_calls rd_gr' root hm h0 h1) ?_
  rintro _ H1 _ - ⟨eH, bo, co, ord, rfl, hO, rfl⟩
  rw [eH]; clear eH H1
  refine WpG.setL (L' := [Chunk.own 3 1 (some ⟨bo, 0, none⟩) co ord.length (ord.map iv), Chunk.box b1 [.slice A_gr_0 gr.succ.length c_gr_0, .slice A_gr_1 gr.pred.length c_gr_1] 65]) rfl ?_
  refine WpG.ownCap (ci := 0) rfl (fun uz2 => ?_)
  refine WpG.freezeOwn (ci := 0) rfl (fun H2 hH2 fz2 => ?_)
  have rz2 : RdS H2 (some ⟨bo, 0, none⟩) ord := RdS.of_own (H := H) (show RdL H (ord.map iv) ord from RdL_ints _ (ord_all hO hn64)) (rfl) (by have := ord_len hO; omega) hH2 fz2
  refine WpG.setL (L' := [Chunk.box b1 [.slice A_gr_0 gr.succ.length c_gr_0, .slice A_gr_1 gr.pred.length c_gr_1] 65]) rfl ?_
  have hol := ord_len hO
  refine WpG.go tabOK 9 [(1, .int .i64 root), (2, .pointer (some ⟨b1, 0, none⟩)), (5, .slice (some ⟨bo, 0, none⟩) ord.length co), (21, .bool ((ord.length : Int) == 0))] rfl ⟨rfl, rfl, rfl, rfl, trivial⟩ ?_
  refine WpG.caseE (t := 21) rfl (fun q21 => ?_) (fun q21 => ?_)
  · exfalso; obtain ⟨tl, e⟩ := hO.head; rw [e] at q21; simp at q21; omega
  · refine WpG.go tabOK 5 [(1, .int .i64 root), (2, .pointer (some ⟨b1, 0, none⟩)), (5, .slice (some ⟨bo, 0, none⟩) ord.length co), (22, .pointer (some ⟨b1, 0, none⟩))] rfl ⟨rfl, rfl, rfl, rfl, trivial⟩ ?_
    refine WpG.y rfl rfl rfl rfl (RunY.loadBox (ci := 0) tabOK rfl rfl rfl rfl) ?_
    refine WpG.go tabOK 4 [(1, .int .i64 root), (2, .pointer (some ⟨b1, 0, none⟩)), (5, .slice (some ⟨bo, 0, none⟩) ord.length co), (6, .int .i64 (gr.succ.length : Int))] rfl ⟨rfl, rfl, rfl, rfl, trivial⟩ ?_
    refine WpG.draw 7 [Chunk.box b1 [.slice A_gr_0 gr.succ.length c_gr_0, .slice A_gr_1 gr.pred.length c_gr_1] 65] mixed (by kernel_rfl) ?_
    refine WpD.go (listed' := lst 7 10) tabOK [1, 3] [(1, .int .i64 root), (2, .pointer (some ⟨b1, 0, none⟩)), (5, .slice (some ⟨bo, 0, none⟩) ord.length co), (6, .int .i64 (gr.succ.length : Int)), (26, .int .i64 (gr.succ.length : Int)), (28, .int .i64 (gr.succ.length : Int))] (by kernel_rfl) rfl ⟨rfl, rfl, rfl, rfl, rfl, rfl, trivial⟩ hH2 (Hp.le.refl _) (List.Sublist.refl _) ?_
    refine WpD.join (H := H2) (σ := Nat × Nat) (fuel' := 1) (lst 7 63) (fun z_ => [(1, .int .i64 root), (2, .pointer (some ⟨b1, 0, none⟩)), (5, .slice (some ⟨bo, 0, none⟩) ord.length co), (7, .slice (some ⟨z_.1, 0, none⟩) gr.succ.length gr.succ.length), (29, .slice (some ⟨z_.2, 0, none⟩) gr.succ.length gr.succ.length)]) (fun z_ => [Chunk.own 3 1 (some ⟨z_.1, 0, none⟩) gr.succ.length gr.succ.length ((List.replicate gr.succ.length (-2)).map iv), Chunk.own 3 1 (some ⟨z_.2, 0, none⟩) gr.succ.length gr.succ.length (List.replicate gr.succ.length (.int .i64 0)), Chunk.box b1 [.slice A_gr_0 gr.succ.length c_gr_0, .slice A_gr_1 gr.pred.length c_gr_1] 65]) (fun hK => ?_) ?_
    · refine WpD.any2 (i := 0) (j := 4) (by kernel_rfl) hH2 (OpG.buildSlice (xs := [.int .i64 (-2)]) tabOK rfl rfl rfl rfl rfl rfl rfl rfl rfl rfl) (OpG.makeSlice (n := gr.succ.length) tabOK rfl rfl rfl rfl rfl rfl rfl rfl rfl (by omega)) ?_ ?_
      · rintro F1 H1 L1 ⟨b3, eF, eH, eL⟩
        subst eF; subst eL; rw [eH]; clear eH H1
        refine ⟨Hp.le.refl _, (.cons _ (List.Sublist.refl _)), ?_⟩
        change WpD _ _ _ _ _ _ _ _ _ _ _ _ _ _ [Chunk.own 3 1 (some ⟨b3, 0, none⟩) 1 1 [.int .i64 (-2)], Chunk.box b1 [.slice A_gr_0 gr.succ.length c_gr_0, .slice A_gr_1 gr.pred.length c_gr_1] 65]
        refine WpD.freezeOwn (ci := 0) rfl (fun Hz hHz fz => ?_)
        have rz : RdS Hz (some ⟨b3, 0, none⟩) [(-2 : Int)] := RdS.of_own (H := H2) (show RdL H2 [.int .i64 (-2)] [(-2 : Int)] from RdL_ints [(-2)] ⟨⟨by decide, by decide⟩, trivial⟩) rfl (by simp) hHz fz
        refine WpD.setL (L' := [Chunk.box b1 [.slice A_gr_0 gr.succ.length c_gr_0, .slice A_gr_1 gr.pred.length c_gr_1] 65]) rfl ?_
        refine WpD.any2 (i := 2) (j := 4) (by kernel_rfl) hH2 (OpG.call (Lc := []) rfl rfl rfl rfl rfl rfl (.refl _) (Repeat_int_of rz gr.succ.length hn64)) (OpG.makeSlice (n := gr.succ.length) tabOK rfl rfl rfl rfl rfl rfl rfl rfl rfl (by omega)) ?_ ?_
        · rintro F1 H1 L1 ⟨_, _, eF, -, ⟨eH, bt, rfl, rfl⟩, eL⟩
          subst eF; subst eL; rw [eH]; clear eH H1
          refine ⟨hHz, (.cons _ (List.Sublist.refl _)), ?_⟩
          change WpD _ _ _ _ _ _ _ _ _ _ _ _ _ _ [Chunk.own 3 1 (some ⟨bt, 0, none⟩) gr.succ.length gr.succ.length ((List.replicate gr.succ.length (-2)).map iv), Chunk.box b1 [.slice A_gr_0 gr.succ.length c_gr_0, .slice A_gr_1 gr.pred.length c_gr_1] 65]
          refine WpD.go (listed' := lst 7 47) tabOK [5] [(1, .int .i64 root), (2, .pointer (some ⟨b1, 0, none⟩)), (5, .slice (some ⟨bo, 0, none⟩) ord.length co), (7, .slice (some ⟨bt, 0, none⟩) gr.succ.length gr.succ.length), (28, .int .i64 (gr.succ.length : Int))] (by kernel_rfl) rfl ⟨rfl, rfl, rfl, rfl, rfl, trivial⟩ hH2 hHz (.cons _ (List.Sublist.refl _)) ?_
          refine WpD.f (i := 4) (fuel := 1) (listed' := lst 7 63) (by kernel_rfl) hH2 (OpG.makeSlice (n := gr.succ.length) tabOK rfl rfl rfl rfl rfl rfl rfl rfl rfl (by omega)) ?_
          rintro F1 H1 L1 ⟨bm, eF, eH, eL⟩
          subst eF; subst eL; rw [eH]; clear eH H1
          refine ⟨hHz, (.cons _ (.cons _ (List.Sublist.refl _))), ?_⟩
          change WpD _ _ _ _ _ _ _ _ _ _ _ _ _ _ [Chunk.own 3 1 (some ⟨bm, 0, none⟩) gr.succ.length gr.succ.length (List.replicate gr.succ.length (.int .i64 0)), Chunk.own 3 1 (some ⟨bt, 0, none⟩) gr.succ.length gr.succ.length ((List.replicate gr.succ.length (-2)).map iv), Chunk.box b1 [.slice A_gr_0 gr.succ.length c_gr_0, .slice A_gr_1 gr.pred.length c_gr_1] 65]
          refine WpD.lessH hH2 hHz ?_
          refine WpD.permL (L' := [Chunk.own 3 1 (some ⟨bt, 0, none⟩) gr.succ.length gr.succ.length ((List.replicate gr.succ.length (-2)).map iv), Chunk.own 3 1 (some ⟨bm, 0, none⟩) gr.succ.length gr.succ.length (List.replicate gr.succ.length (.int .i64 0)), Chunk.box b1 [.slice A_gr_0 gr.succ.length c_gr_0, .slice A_gr_1 gr.pred.length c_gr_1] 65]) (.swap _ _ _) ?_
          exact WpD.weaken (G := [(1, .int .i64 root), (2, .pointer (some ⟨b1, 0, none⟩)), (5, .slice (some ⟨bo, 0, none⟩) ord.length co), (7, .slice (some ⟨bt, 0, none⟩) gr.succ.length gr.succ.length), (29, .slice (some ⟨bm, 0, none⟩) gr.succ.length gr.succ.length)]) ⟨rfl, rfl, rfl, rfl, rfl, trivial⟩ (hK (bt, bm))
        · rintro F1 H1 L1 ⟨bm, eF, eH, eL⟩
          subst eF; subst eL; rw [eH]; clear eH H1
          refine ⟨hHz, (.cons _ (List.Sublist.refl _)), ?_⟩
          change WpD _ _ _ _ _ _ _ _ _ _ _ _ _ _ [Chunk.own 3 1 (some ⟨bm, 0, none⟩) gr.succ.length gr.succ.length (List.replicate gr.succ.length (.int .i64 0)), Chunk.box b1 [.slice A_gr_0 gr.succ.length c_gr_0, .slice A_gr_1 gr.pred.length c_gr_1] 65]
          refine WpD.f (i := 2) (fuel := 2) (listed' := lst 7 31) (by kernel_rfl) hH2 (OpG.call (Lc := []) rfl rfl rfl rfl rfl rfl (.refl _) (Repeat_int_of rz gr.succ.length hn64)) ?_
          rintro F1 H1 L1 ⟨_, _, eF, -, ⟨eH, bt, rfl, rfl⟩, eL⟩
          subst eF; subst eL; rw [eH]; clear eH H1
          refine ⟨hHz, (.cons _ (.cons _ (List.Sublist.refl _))), ?_⟩
          change WpD _ _ _ _ _ _ _ _ _ _ _ _ _ _ [Chunk.own 3 1 (some ⟨bt, 0, none⟩) gr.succ.length gr.succ.length ((List.replicate gr.succ.length (-2)).map iv), Chunk.own 3 1 (some ⟨bm, 0, none⟩) gr.succ.length gr.succ.length (List.replicate gr.succ.length (.int .i64 0)), Chunk.box b1 [.slice A_gr_0 gr.succ.length c_gr_0, .slice A_gr_1 gr.pred.length c_gr_1] 65]
          refine WpD.go (listed' := lst 7 63) tabOK [5] [(1, .int .i64 root), (2, .pointer (some ⟨b1, 0, none⟩)), (5, .slice (some ⟨bo, 0, none⟩) ord.length co), (7, .slice (some ⟨bt, 0, none⟩) gr.succ.length gr.succ.length), (29, .slice (some ⟨bm, 0, none⟩) gr.succ.length gr.succ.length)] (by kernel_rfl) rfl ⟨rfl, rfl, rfl, rfl, rfl, trivial⟩ hH2 hHz (.cons _ (.cons _ (List.Sublist.refl _))) ?_
          refine WpD.lessH hH2 hHz ?_
          exact WpD.weaken (G := [(1, .int .i64 root), (2, .pointer (some ⟨b1, 0, none⟩)), (5, .slice (some ⟨bo, 0, none⟩) ord.length co), (7, .slice (some ⟨bt, 0, none⟩) gr.succ.length gr.succ.length), (29, .slice (some ⟨bm, 0, none⟩) gr.succ.length gr.succ.length)]) ⟨rfl, rfl, rfl, rfl, rfl, trivial⟩ (hK (bt, bm))
      · rintro F1 H1 L1 ⟨bm, eF, eH, eL⟩
        subst eF; subst eL; rw [eH]; clear eH H1
        refine ⟨Hp.le.refl _, (.cons _ (List.Sublist.refl _)), ?_⟩
        change WpD _ _ _ _ _ _ _ _ _ _ _ _ _ _ [Chunk.own 3 1 (some ⟨bm, 0, none⟩) gr.succ.length gr.succ.length (List.replicate gr.succ.length (.int .i64 0)), Chunk.box b1 [.slice A_gr_0 gr.succ.length c_gr_0, .slice A_gr_1 gr.pred.length c_gr_1] 65]
        refine WpD.f (i := 0) (fuel := 3) (listed' := lst 7 27) (by kernel_rfl) hH2 (OpG.buildSlice (xs := [.int .i64 (-2)]) tabOK rfl rfl rfl rfl rfl rfl rfl rfl rfl rfl) ?_
        rintro F1 H1 L1 ⟨b3, eF, eH, eL⟩
        subst eF; subst eL; rw [eH]; clear eH H1
        refine ⟨Hp.le.refl _, (.cons _ (.cons _ (List.Sublist.refl _))), ?_⟩
        change WpD _ _ _ _ _ _ _ _ _ _ _ _ _ _ [Chunk.own 3 1 (some ⟨b3, 0, none⟩) 1 1 [.int .i64 (-2)], Chunk.own 3 1 (some ⟨bm, 0, none⟩) gr.succ.length gr.succ.length (List.replicate gr.succ.length (.int .i64 0)), Chunk.box b1 [.slice A_gr_0 gr.succ.length c_gr_0, .slice A_gr_1 gr.pred.length c_gr_1] 65]
        refine WpD.freezeOwn (ci := 0) rfl (fun Hz hHz fz => ?_)
        have rz : RdS Hz (some ⟨b3, 0, none⟩) [(-2 : Int)] := RdS.of_own (H := H2) (show RdL H2 [.int .i64 (-2)] [(-2 : Int)] from RdL_ints [(-2)] ⟨⟨by decide, by decide⟩, trivial⟩) rfl (by simp) hHz fz
        refine WpD.setL (L' := [Chunk.own 3 1 (some ⟨bm, 0, none⟩) gr.succ.length gr.succ.length (List.replicate gr.succ.length (.int .i64 0)), Chunk.box b1 [.slice A_gr_0 gr.succ.length c_gr_0, .slice A_gr_1 gr.pred.length c_gr_1] 65]) rfl ?_
        refine WpD.f (i := 2) (fuel := 2) (listed' := lst 7 31) (by kernel_rfl) hH2 (OpG.call (Lc := []) rfl rfl rfl rfl rfl rfl (.refl _) (Repeat_int_of rz gr.succ.length hn64)) ?_
        rintro F1 H1 L1 ⟨_, _, eF, -, ⟨eH, bt, rfl, rfl⟩, eL⟩
        subst eF; subst eL; rw [eH]; clear eH H1
        refine ⟨hHz, (.cons _ (.cons _ (List.Sublist.refl _))), ?_⟩
        change WpD _ _ _ _ _ _ _ _ _ _ _ _ _ _ [Chunk.own 3 1 (some ⟨bt, 0, none⟩) gr.succ.length gr.succ.length ((List.replicate gr.succ.length (-2)).map iv), Chunk.own 3 1 (some ⟨bm, 0, none⟩) gr.succ.length gr.succ.length (List.replicate gr.succ.length (.int .i64 0)), Chunk.box b1 [.slice A_gr_0 gr.succ.length c_gr_0, .slice A_gr_1 gr.pred.length c_gr_1] 65]
        refine WpD.go (listed' := lst 7 63) tabOK [5] [(1, .int .i64 root), (2, .pointer (some ⟨b1, 0, none⟩)), (5, .slice (some ⟨bo, 0, none⟩) ord.length co), (7, .slice (some ⟨bt, 0, none⟩) gr.succ.length gr.succ.length), (29, .slice (some ⟨bm, 0, none⟩) gr.succ.length gr.succ.length)] (by kernel_rfl) rfl ⟨rfl, rfl, rfl, rfl, rfl, trivial⟩ hH2 hHz (.cons _ (.cons _ (List.Sublist.refl _))) ?_
        refine WpD.lessH hH2 hHz ?_
        exact WpD.weaken (G := [(1, .int .i64 root), (2, .pointer (some ⟨b1, 0, none⟩)), (5, .slice (some ⟨bo, 0, none⟩) ord.length co), (7, .slice (some ⟨bt, 0, none⟩) gr.succ.length gr.succ.length), (29, .slice (some ⟨bm, 0, none⟩) gr.succ.length gr.succ.length)]) ⟨rfl, rfl, rfl, rfl, rfl, trivial⟩ (hK (bt, bm))
    rintro ⟨bt, bm⟩
    change WpD _ _ _ _ _ _ _ _ _ _ _ _ [(1, .int .i64 root), (2, .pointer (some ⟨b1, 0, none⟩)), (5, .slice (some ⟨bo, 0, none⟩) ord.length co), (7, .slice (some ⟨bt, 0, none⟩) gr.succ.length gr.succ.length), (29, .slice (some ⟨bm, 0, none⟩) gr.succ.length gr.succ.length)] _ [Chunk.own 3 1 (some ⟨bt, 0, none⟩) gr.succ.length gr.succ.length ((List.replicate gr.succ.length (-2)).map iv), Chunk.own 3 1 (some ⟨bm, 0, none⟩) gr.succ.length gr.succ.length (List.replicate gr.succ.length (.int .i64 0)), Chunk.box b1 [.slice A_gr_0 gr.succ.length c_gr_0, .slice A_gr_1 gr.pred.length c_gr_1] 65]
    refine WpD.setL (L' := [Chunk.own 3 1 (some ⟨bt, 0, none⟩) gr.succ.length gr.succ.length ((List.replicate gr.succ.length (-2)).map iv), Chunk.own 3 1 (some ⟨bm, 0, none⟩) gr.succ.length gr.succ.length ((List.replicate gr.succ.length 0).map iv), Chunk.box b1 [.slice A_gr_0 gr.succ.length c_gr_0, .slice A_gr_1 gr.pred.length c_gr_1] 65]) (by rw [List.map_replicate (n := gr.succ.length) (a := (0 : Int))]; rfl) ?_
    refine WpD.go (listed' := lst 7 127) tabOK [6] [(1, .int .i64 root), (2, .pointer (some ⟨b1, 0, none⟩)), (5, .slice (some ⟨bo, 0, none⟩) ord.length co), (7, .slice (some ⟨bt, 0, none⟩) gr.succ.length gr.succ.length), (8, .slice (some ⟨bm, 0, none⟩) gr.succ.length gr.succ.length)] (by kernel_rfl) rfl ⟨rfl, rfl, rfl, rfl, rfl, trivial⟩ hH2 (Hp.le.refl _) (.cons _ (.cons _ (.cons_cons _ .slnil))) ?_
    refine WpD.done (by kernel_rfl) ?_
    refine WpG.go tabOK 9 [(1, .int .i64 root), (2, .pointer (some ⟨b1, 0, none⟩)), (5, .slice (some ⟨bo, 0, none⟩) ord.length co), (7, .slice (some ⟨bt, 0, none⟩) gr.succ.length gr.succ.length), (8, .slice (some ⟨bm, 0, none⟩) gr.succ.length gr.succ.length), (30, .slice (some ⟨bo, 0, none⟩) ord.length co), (31, .int .i64 (ord.length : Int)), (32, .int .i64 0)] rfl ⟨rfl, rfl, rfl, rfl, rfl, rfl, rfl, rfl, trivial⟩ ?_
    refine WpG.ind (σ := Int × List Int) (fun z_ => (ord.length - z_.1).toNat) (fun z_ => [(1, .int .i64 root), (2, .pointer (some ⟨b1, 0, none⟩)), (5, .slice (some ⟨bo, 0, none⟩) ord.length co), (7, .slice (some ⟨bt, 0, none⟩) gr.succ.length gr.succ.length), (8, .slice (some ⟨bm, 0, none⟩) gr.succ.length gr.succ.length), (30, .slice (some ⟨bo, 0, none⟩) ord.length co), (31, .int .i64 (ord.length : Int)), (32, .int .i64 z_.1)]) (fun z_ => H2) (fun z_ => [Chunk.own 3 1 (some ⟨bt, 0, none⟩) gr.succ.length gr.succ.length ((List.replicate gr.succ.length (-2)).map iv), Chunk.own 3 1 (some ⟨bm, 0, none⟩) gr.succ.length gr.succ.length (z_.2.map iv), Chunk.box b1 [.slice A_gr_0 gr.succ.length c_gr_0, .slice A_gr_1 gr.pred.length c_gr_1] 65]) (fun z_ => 0 ≤ z_.1 ∧ z_.1 ≤ ord.length ∧ AllI z_.2 ∧ z_.2.length = gr.succ.length ∧ ∀ k : Nat, (k : Int) < z_.1 → nth z_.2 (nth ord (k : Int)) = k) ?_ (0, List.replicate gr.succ.length 0) (places_start ord gr.succ.length)
    rintro ⟨i, al⟩ inv ih1
    change WpG _ _ _ _ _ _ [(1, .int .i64 root), (2, .pointer (some ⟨b1, 0, none⟩)), (5, .slice (some ⟨bo, 0, none⟩) ord.length co), (7, .slice (some ⟨bt, 0, none⟩) gr.succ.length gr.succ.length), (8, .slice (some ⟨bm, 0, none⟩) gr.succ.length gr.succ.length), (30, .slice (some ⟨bo, 0, none⟩) ord.length co), (31, .int .i64 (ord.length : Int)), (32, .int .i64 i)] H2 [Chunk.own 3 1 (some ⟨bt, 0, none⟩) gr.succ.length gr.succ.length ((List.replicate gr.succ.length (-2)).map iv), Chunk.own 3 1 (some ⟨bm, 0, none⟩) gr.succ.length gr.succ.length (al.map iv), Chunk.box b1 [.slice A_gr_0 gr.succ.length c_gr_0, .slice A_gr_1 gr.pred.length c_gr_1] 65] _
    replace inv : 0 ≤ i ∧ i ≤ ord.length ∧ AllI al ∧ al.length = gr.succ.length ∧ ∀ k : Nat, (k : Int) < i → nth al (nth ord (k : Int)) = k := inv
    obtain ⟨i0, i1, hAl, i3, i4⟩ := inv
    refine WpG.go tabOK 5 [(1, .int .i64 root), (2, .pointer (some ⟨b1, 0, none⟩)), (5, .slice (some ⟨bo, 0, none⟩) ord.length co), (7, .slice (some ⟨bt, 0, none⟩) gr.succ.length gr.succ.length), (8, .slice (some ⟨bm, 0, none⟩) gr.succ.length gr.succ.length), (30, .slice (some ⟨bo, 0, none⟩) ord.length co), (31, .int .i64 (ord.length : Int)), (32, .int .i64 i), (33, .bool (decide (i < (ord.length : Int))))] rfl ⟨rfl, rfl, rfl, rfl, rfl, rfl, rfl, rfl, rfl, trivial⟩ ?_
    refine WpG.caseD (t := 33) rfl (fun q33 => ?_) (fun q33 => ?_)
    · refine WpG.go tabOK 7 [(1, .int .i64 root), (2, .pointer (some ⟨b1, 0, none⟩)), (5, .slice (some ⟨bo, 0, none⟩) ord.length co), (7, .slice (some ⟨bt, 0, none⟩) gr.succ.length gr.succ.length), (8, .slice (some ⟨bm, 0, none⟩) gr.succ.length gr.succ.length), (30, .slice (some ⟨bo, 0, none⟩) ord.length co), (31, .int .i64 (ord.length : Int)), (32, .int .i64 i), (34, .int .i64 i)] rfl ⟨rfl, rfl, rfl, rfl, rfl, rfl, rfl, rfl, rfl, trivial⟩ ?_
      refine WpG.indexR tabOK rfl rfl rfl rfl rfl rfl rfl rfl rfl rz2 (by omega) (by omega) ?_
      rintro x3 hx3 b3 o3 _ ⟨rfl, k3⟩ hc3
      have hr3 := hO.at_ i0 q33
      rw [← hx3] at hr3
      refine WpG.y rfl rfl rfl rfl (RunY.loadH tabOK hc3 (Hp.le.refl _) rfl rfl rfl rfl) ?_
      refine WpG.go tabOK 7 [(1, .int .i64 root), (2, .pointer (some ⟨b1, 0, none⟩)), (5, .slice (some ⟨bo, 0, none⟩) ord.length co), (7, .slice (some ⟨bt, 0, none⟩) gr.succ.length gr.succ.length), (8, .slice (some ⟨bm, 0, none⟩) gr.succ.length gr.succ.length), (30, .slice (some ⟨bo, 0, none⟩) ord.length co), (31, .int .i64 (ord.length : Int)), (32, .int .i64 i), (37, .slice (some ⟨bm, 0, none⟩) gr.succ.length gr.succ.length), (38, .int .i64 x3), (39, .int .i64 i)] rfl ⟨rfl, rfl, rfl, rfl, rfl, rfl, rfl, rfl, rfl, rfl, rfl, trivial⟩ ?_
      refine WpG.y rfl rfl rfl rfl (RunY.indexAddr tabOK rfl rfl rfl rfl rfl (by omega) (by omega)) ?_
      refine WpG.storeOwn (ci := 1) tabOK rfl rfl rfl rfl rfl rfl rfl rfl (putAt_one (own_lt (by omega) (by omega))) ?_
      refine WpG.setL (L' := [Chunk.own 3 1 (some ⟨bt, 0, none⟩) gr.succ.length gr.succ.length ((List.replicate gr.succ.length (-2)).map iv), Chunk.own 3 1 (some ⟨bm, 0, none⟩) gr.succ.length gr.succ.length ((al.set x3.toNat i).map iv), Chunk.box b1 [.slice A_gr_0 gr.succ.length c_gr_0, .slice A_gr_1 gr.pred.length c_gr_1] 65]) (by rw [← arr_set (f := iv) (xs := al) (j := x3) i]; rfl) ?_
      refine WpG.go tabOK 4 [(1, .int .i64 root), (2, .pointer (some ⟨b1, 0, none⟩)), (5, .slice (some ⟨bo, 0, none⟩) ord.length co), (7, .slice (some ⟨bt, 0, none⟩) gr.succ.length gr.succ.length), (8, .slice (some ⟨bm, 0, none⟩) gr.succ.length gr.succ.length), (30, .slice (some ⟨bo, 0, none⟩) ord.length co), (31, .int .i64 (ord.length : Int)), (41, .int .i64 (i + 1))] rfl ⟨rfl, rfl, rfl, rfl, rfl, rfl, rfl, (wrk (x := i + 1) (by omega) (by omega)), trivial⟩ ?_
      refine WpG.go tabOK 3 [(1, .int .i64 root), (2, .pointer (some ⟨b1, 0, none⟩)), (5, .slice (some ⟨bo, 0, none⟩) ord.length co), (7, .slice (some ⟨bt, 0, none⟩) gr.succ.length gr.succ.length), (8, .slice (some ⟨bm, 0, none⟩) gr.succ.length gr.succ.length), (30, .slice (some ⟨bo, 0, none⟩) ord.length co), (31, .int .i64 (ord.length : Int)), (32, .int .i64 (i + 1))] rfl ⟨rfl, rfl, rfl, rfl, rfl, rfl, rfl, rfl, trivial⟩ ?_
      refine WpG.weaken (G := [(1, .int .i64 root), (2, .pointer (some ⟨b1, 0, none⟩)), (5, .slice (some ⟨bo, 0, none⟩) ord.length co), (7, .slice (some ⟨bt, 0, none⟩) gr.succ.length gr.succ.length), (8, .slice (some ⟨bm, 0, none⟩) gr.succ.length gr.succ.length), (30, .slice (some ⟨bo, 0, none⟩) ord.length co), (31, .int .i64 (ord.length : Int)), (32, .int .i64 (i + 1))]) (Known.all ⟨rfl, rfl, rfl, rfl, rfl, rfl, rfl, rfl, trivial⟩) (ih1 (i + 1, al.set x3.toNat i) ?_ ?_)
      · show (ord.length - (i + 1)).toNat < (ord.length - i).toNat
        omega
      · show 0 ≤ (i + 1) ∧ (i + 1) ≤ ord.length ∧ AllI (al.set x3.toNat i) ∧ (al.set x3.toNat i).length = gr.succ.length ∧ ∀ k : Nat, (k : Int) < (i + 1) → nth (al.set x3.toNat i) (nth ord (k : Int)) = k
        -- back 0 of loop 1, path FL1T
        clear ih1
        exact places_step hO hn64 i0 q33 hAl i3 i4 hx3
    · have hat : ∀ k : Nat, k < ord.length → nth al (nth ord (k : Int)) = k := fun k hk => i4 k (by omega)
      refine WpG.go tabOK 7 [(1, .int .i64 root), (2, .pointer (some ⟨b1, 0, none⟩)), (5, .slice (some ⟨bo, 0, none⟩) ord.length co), (7, .slice (some ⟨bt, 0, none⟩) gr.succ.length gr.succ.length), (8, .slice (some ⟨bm, 0, none⟩) gr.succ.length gr.succ.length), (42, .slice (some ⟨bt, 0, none⟩) gr.succ.length gr.succ.length), (43, .int .i64 root), (44, .int .i64 root)] rfl ⟨rfl, rfl, rfl, rfl, rfl, rfl, rfl, rfl, trivial⟩ ?_
      refine WpG.y rfl rfl rfl rfl (RunY.indexAddr tabOK rfl rfl rfl rfl rfl (by omega) (by omega)) ?_
      refine WpG.storeOwn (ci := 0) tabOK rfl rfl rfl rfl rfl rfl rfl rfl (putAt_one (own_lt (by omega) (by simp; omega))) ?_
      refine WpG.setL (L' := [Chunk.own 3 1 (some ⟨bt, 0, none⟩) gr.succ.length gr.succ.length (((List.replicate gr.succ.length (-2)).set root.toNat root).map iv), Chunk.own 3 1 (some ⟨bm, 0, none⟩) gr.succ.length gr.succ.length (al.map iv), Chunk.box b1 [.slice A_gr_0 gr.succ.length c_gr_0, .slice A_gr_1 gr.pred.length c_gr_1] 65]) (by rw [← arr_set (f := iv) (xs := List.replicate gr.succ.length (-2)) (j := root) root]; rfl) ?_
      refine WpG.go tabOK 3 [(1, .int .i64 root), (2, .pointer (some ⟨b1, 0, none⟩)), (5, .slice (some ⟨bo, 0, none⟩) ord.length co), (7, .slice (some ⟨bt, 0, none⟩) gr.succ.length gr.succ.length), (8, .slice (some ⟨bm, 0, none⟩) gr.succ.length gr.succ.length)] rfl ⟨rfl, rfl, rfl, rfl, rfl, trivial⟩ ?_
      refine WpG.ind (σ := List Int × (Nat → Nat) × Nat × (Nat → Nat → Prop)) (fun z_ => (ord.length - z_.2.2.1) * 65 + msum z_.2.1 z_.2.2.1) (fun z_ => [(1, .int .i64 root), (2, .pointer (some ⟨b1, 0, none⟩)), (5, .slice (some ⟨bo, 0, none⟩) ord.length co), (7, .slice (some ⟨bt, 0, none⟩) gr.succ.length gr.succ.length), (8, .slice (some ⟨bm, 0, none⟩) gr.succ.length gr.succ.length)]) (fun z_ => H2) (fun z_ => [Chunk.own 3 1 (some ⟨bt, 0, none⟩) gr.succ.length gr.succ.length (z_.1.map iv), Chunk.own 3 1 (some ⟨bm, 0, none⟩) gr.succ.length gr.succ.length (al.map iv), Chunk.box b1 [.slice A_gr_0 gr.succ.length c_gr_0, .slice A_gr_1 gr.pred.length c_gr_1] 65]) (fun z_ => TInv gr.succ ord z_.1 al z_.2.1 z_.2.2.1 z_.2.2.2 ∧ AllI z_.1) ?_ ((List.replicate gr.succ.length (-2)).set root.toNat root, fun _ => 0, 1, Dt fun _ => 0) ⟨TInv.start hO hn64 i3 (fun k hk => hat k (by omega)) h0 h1, AllI_set (AllI_rep ⟨by decide, by decide⟩) ⟨by omega, by omega⟩⟩
      rintro ⟨tl, T, v, D0⟩ inv ihG0
      change WpG _ _ _ _ _ _ [(1, .int .i64 root), (2, .pointer (some ⟨b1, 0, none⟩)), (5, .slice (some ⟨bo, 0, none⟩) ord.length co), (7, .slice (some ⟨bt, 0, none⟩) gr.succ.length gr.succ.length), (8, .slice (some ⟨bm, 0, none⟩) gr.succ.length gr.succ.length)] H2 [Chunk.own 3 1 (some ⟨bt, 0, none⟩) gr.succ.length gr.succ.length (tl.map iv), Chunk.own 3 1 (some ⟨bm, 0, none⟩) gr.succ.length gr.succ.length (al.map iv), Chunk.box b1 [.slice A_gr_0 gr.succ.length c_gr_0, .slice A_gr_1 gr.pred.length c_gr_1] 65] _
      replace inv : TInv gr.succ ord tl al T v D0 ∧ AllI tl := inv
      obtain ⟨hI, hTl⟩ := inv
      have hlt := hI.ta.ltr
      have hinj := fun (j k : Nat) hj hk e => hI.ta.inj (j := j) (k := k) hj hk e
      refine WpG.go tabOK 4 [(1, .int .i64 root), (2, .pointer (some ⟨b1, 0, none⟩)), (5, .slice (some ⟨bo, 0, none⟩) ord.length co), (7, .slice (some ⟨bt, 0, none⟩) gr.succ.length gr.succ.length), (8, .slice (some ⟨bm, 0, none⟩) gr.succ.length gr.succ.length), (46, .slice (some ⟨bo, 0, none⟩) ord.length co)] rfl ⟨rfl, rfl, rfl, rfl, rfl, rfl, trivial⟩ ?_
      refine WpG.sliceR tabOK rfl rfl rfl rfl rfl rfl rfl rfl rfl rz2 (by omega) (by omega) uz2 (fun A4 r4 => ?_)
      replace r4 : RdS H2 A4 (ord.drop 1) := r4
      refine WpG.go tabOK 5 [(1, .int .i64 root), (2, .pointer (some ⟨b1, 0, none⟩)), (5, .slice (some ⟨bo, 0, none⟩) ord.length co), (7, .slice (some ⟨bt, 0, none⟩) gr.succ.length gr.succ.length), (8, .slice (some ⟨bm, 0, none⟩) gr.succ.length gr.succ.length), (47, .slice A4 ((ord.drop 1).length) (co - 1)), (48, .int .i64 ((ord.drop 1).length : Int)), (49, .int .i64 0)] rfl ⟨rfl, rfl, rfl, rfl, rfl, rfl, rfl, rfl, trivial⟩ ?_
      refine WpG.ind (σ := Int) (fun z_ => (ord.length - z_).toNat) (fun z_ => [(1, .int .i64 root), (2, .pointer (some ⟨b1, 0, none⟩)), (5, .slice (some ⟨bo, 0, none⟩) ord.length co), (7, .slice (some ⟨bt, 0, none⟩) gr.succ.length gr.succ.length), (8, .slice (some ⟨bm, 0, none⟩) gr.succ.length gr.succ.length), (47, .slice A4 ((ord.drop 1).length) (co - 1)), (48, .int .i64 ((ord.drop 1).length : Int)), (49, .int .i64 z_)]) (fun z_ => H2) (fun z_ => [Chunk.own 3 1 (some ⟨bt, 0, none⟩) gr.succ.length gr.succ.length (tl.map iv), Chunk.own 3 1 (some ⟨bm, 0, none⟩) gr.succ.length gr.succ.length (al.map iv), Chunk.box b1 [.slice A_gr_0 gr.succ.length c_gr_0, .slice A_gr_1 gr.pred.length c_gr_1] 65]) (fun z_ => 0 ≤ z_ ∧ z_ + 1 ≤ ord.length ∧ ∀ z : Nat, 0 < z → (z : Int) ≤ z_ → Stable gr.succ ord T v z) ?_ (0) ⟨by omega, by omega, fun z z0 z1 => by omega⟩
      intro j inv ih2
      change WpG _ _ _ _ _ _ [(1, .int .i64 root), (2, .pointer (some ⟨b1, 0, none⟩)), (5, .slice (some ⟨bo, 0, none⟩) ord.length co), (7, .slice (some ⟨bt, 0, none⟩) gr.succ.length gr.succ.length), (8, .slice (some ⟨bm, 0, none⟩) gr.succ.length gr.succ.length), (47, .slice A4 ((ord.drop 1).length) (co - 1)), (48, .int .i64 ((ord.drop 1).length : Int)), (49, .int .i64 j)] H2 [Chunk.own 3 1 (some ⟨bt, 0, none⟩) gr.succ.length gr.succ.length (tl.map iv), Chunk.own 3 1 (some ⟨bm, 0, none⟩) gr.succ.length gr.succ.length (al.map iv), Chunk.box b1 [.slice A_gr_0 gr.succ.length c_gr_0, .slice A_gr_1 gr.pred.length c_gr_1] 65] _
      replace inv : 0 ≤ j ∧ j + 1 ≤ ord.length ∧ ∀ z : Nat, 0 < z → (z : Int) ≤ j → Stable gr.succ ord T v z := inv
      obtain ⟨j0, j1, j2⟩ := inv
      obtain ⟨w, hw⟩ : ∃ w : Nat, (w : Int) = j + 1 := ⟨(j + 1).toNat, by omega⟩
      refine WpG.go tabOK 5 [(1, .int .i64 root), (2, .pointer (some ⟨b1, 0, none⟩)), (5, .slice (some ⟨bo, 0, none⟩) ord.length co), (7, .slice (some ⟨bt, 0, none⟩) gr.succ.length gr.succ.length), (8, .slice (some ⟨bm, 0, none⟩) gr.succ.length gr.succ.length), (47, .slice A4 ((ord.drop 1).length) (co - 1)), (48, .int .i64 ((ord.drop 1).length : Int)), (49, .int .i64 j), (50, .bool (decide (j < ((ord.drop 1).length : Int))))] rfl ⟨rfl, rfl, rfl, rfl, rfl, rfl, rfl, rfl, rfl, trivial⟩ ?_
      refine WpG.caseD (t := 50) rfl (fun q50 => ?_) (fun q50 => ?_)
      · have q50' := q50
        rw [List.length_drop] at q50'
        have hwl : w < ord.length := by omega
        have hwr := hO.at_ (k := (w : Int)) (by omega) (by omega)
        have hwv : w ≤ v := by
          by_cases hj : 0 < j
          · have := (j2 j.toNat (by omega) (by omega)).1; omega
          · have := hI.dom.pos; omega
        refine WpG.go tabOK 6 [(1, .int .i64 root), (2, .pointer (some ⟨b1, 0, none⟩)), (5, .slice (some ⟨bo, 0, none⟩) ord.length co), (7, .slice (some ⟨bt, 0, none⟩) gr.succ.length gr.succ.length), (8, .slice (some ⟨bm, 0, none⟩) gr.succ.length gr.succ.length), (47, .slice A4 ((ord.drop 1).length) (co - 1)), (48, .int .i64 ((ord.drop 1).length : Int)), (49, .int .i64 j)] rfl ⟨rfl, rfl, rfl, rfl, rfl, rfl, rfl, rfl, trivial⟩ ?_
        refine WpG.indexR tabOK rfl rfl rfl rfl rfl rfl rfl rfl rfl r4 (by omega) (by omega) ?_
        rintro x5 hx5 b5 o5 _ ⟨rfl, k5⟩ hc5
        obtain rfl : x5 = nth ord (w : Int) := by rw [hx5]; exact nth_drop1 j0 hw
        refine WpG.y rfl rfl rfl rfl (RunY.loadH tabOK hc5 (Hp.le.refl _) rfl rfl rfl rfl) ?_
        refine WpG.go tabOK 10 [(1, .int .i64 root), (2, .pointer (some ⟨b1, 0, none⟩)), (5, .slice (some ⟨bo, 0, none⟩) ord.length co), (7, .slice (some ⟨bt, 0, none⟩) gr.succ.length gr.succ.length), (8, .slice (some ⟨bm, 0, none⟩) gr.succ.length gr.succ.length), (12, .int .i64 (nth ord (w : Int))), (13, .int .i64 (-2)), (47, .slice A4 ((ord.drop 1).length) (co - 1)), (48, .int .i64 ((ord.drop 1).length : Int)), (49, .int .i64 j), (53, .pointer (some ⟨b1, 1, none⟩))] rfl ⟨rfl, rfl, rfl, rfl, rfl, rfl, rfl, rfl, rfl, rfl, rfl, trivial⟩ ?_
        refine WpG.y rfl rfl rfl rfl (RunY.loadBox (ci := 2) tabOK rfl rfl rfl rfl) ?_
        refine WpG.go tabOK 1 [(1, .int .i64 root), (2, .pointer (some ⟨b1, 0, none⟩)), (5, .slice (some ⟨bo, 0, none⟩) ord.length co), (7, .slice (some ⟨bt, 0, none⟩) gr.succ.length gr.succ.length), (8, .slice (some ⟨bm, 0, none⟩) gr.succ.length gr.succ.length), (12, .int .i64 (nth ord (w : Int))), (13, .int .i64 (-2)), (47, .slice A4 ((ord.drop 1).length) (co - 1)), (48, .int .i64 ((ord.drop 1).length : Int)), (49, .int .i64 j), (54, .slice A_gr_1 gr.pred.length c_gr_1), (55, .int .i64 (nth ord (w : Int)))] rfl ⟨rfl, rfl, rfl, rfl, rfl, rfl, rfl, rfl, rfl, rfl, rfl, rfl, trivial⟩ ?_
        refine WpG.indexR tabOK rfl rfl rfl rfl rfl rfl rfl rfl rfl r_gr_1 (by omega) (by omega) ?_
        rintro x6 hx6 b6 o6 _ ⟨A6, c6, rfl, u6, r6⟩ hc6
        have hx6l := r6.1
        have hmem : ∀ p : Int, p ∈ x6 ↔ 0 ≤ p ∧ p < gr.succ.length ∧ nth ord (w : Int) ∈ nth gr.succ p := fun p => by rw [hx6]; exact mem_preds hm hwr.1 hwr.2 p
        refine WpG.y rfl rfl rfl rfl (RunY.loadH tabOK hc6 hH2 rfl rfl rfl rfl) ?_
        refine WpG.go tabOK 5 [(1, .int .i64 root), (2, .pointer (some ⟨b1, 0, none⟩)), (5, .slice (some ⟨bo, 0, none⟩) ord.length co), (7, .slice (some ⟨bt, 0, none⟩) gr.succ.length gr.succ.length), (8, .slice (some ⟨bm, 0, none⟩) gr.succ.length gr.succ.length), (12, .int .i64 (nth ord (w : Int))), (13, .int .i64 (-2)), (47, .slice A4 ((ord.drop 1).length) (co - 1)), (48, .int .i64 ((ord.drop 1).length : Int)), (49, .int .i64 j), (57, .slice A6 x6.length c6), (58, .int .i64 (x6.length : Int)), (59, .int .i64 0)] rfl ⟨rfl, rfl, rfl, rfl, rfl, rfl, rfl, rfl, rfl, rfl, rfl, rfl, rfl, trivial⟩ ?_
        refine WpG.ind (σ := Int × Int) (fun z_ => (x6.length - z_.1).toNat) (fun z_ => [(1, .int .i64 root), (2, .pointer (some ⟨b1, 0, none⟩)), (5, .slice (some ⟨bo, 0, none⟩) ord.length co), (7, .slice (some ⟨bt, 0, none⟩) gr.succ.length gr.succ.length), (8, .slice (some ⟨bm, 0, none⟩) gr.succ.length gr.succ.length), (12, .int .i64 (nth ord (w : Int))), (13, .int .i64 z_.2), (47, .slice A4 ((ord.drop 1).length) (co - 1)), (48, .int .i64 ((ord.drop 1).length : Int)), (49, .int .i64 j), (57, .slice A6 x6.length c6), (58, .int .i64 (x6.length : Int)), (59, .int .i64 z_.1)]) (fun z_ => H2) (fun z_ => [Chunk.own 3 1 (some ⟨bt, 0, none⟩) gr.succ.length gr.succ.length (tl.map iv), Chunk.own 3 1 (some ⟨bm, 0, none⟩) gr.succ.length gr.succ.length (al.map iv), Chunk.box b1 [.slice A_gr_0 gr.succ.length c_gr_0, .slice A_gr_1 gr.pred.length c_gr_1] 65]) (fun z_ => 0 ≤ z_.1 ∧ z_.1 ≤ x6.length ∧ BestOf ord tl T v (x6.take z_.1.toNat) z_.2) ?_ (0, -2) ⟨by omega, by omega, BestOf.start ord tl T v x6⟩
        rintro ⟨q, best⟩ inv ih3
        change WpG _ _ _ _ _ _ [(1, .int .i64 root), (2, .pointer (some ⟨b1, 0, none⟩)), (5, .slice (some ⟨bo, 0, none⟩) ord.length co), (7, .slice (some ⟨bt, 0, none⟩) gr.succ.length gr.succ.length), (8, .slice (some ⟨bm, 0, none⟩) gr.succ.length gr.succ.length), (12, .int .i64 (nth ord (w : Int))), (13, .int .i64 best), (47, .slice A4 ((ord.drop 1).length) (co - 1)), (48, .int .i64 ((ord.drop 1).length : Int)), (49, .int .i64 j), (57, .slice A6 x6.length c6), (58, .int .i64 (x6.length : Int)), (59, .int .i64 q)] H2 [Chunk.own 3 1 (some ⟨bt, 0, none⟩) gr.succ.length gr.succ.length (tl.map iv), Chunk.own 3 1 (some ⟨bm, 0, none⟩) gr.succ.length gr.succ.length (al.map iv), Chunk.box b1 [.slice A_gr_0 gr.succ.length c_gr_0, .slice A_gr_1 gr.pred.length c_gr_1] 65] _
        replace inv : 0 ≤ q ∧ q ≤ x6.length ∧ BestOf ord tl T v (x6.take q.toNat) best := inv
        obtain ⟨l0, l1, l2⟩ := inv
        refine WpG.go tabOK 5 [(1, .int .i64 root), (2, .pointer (some ⟨b1, 0, none⟩)), (5, .slice (some ⟨bo, 0, none⟩) ord.length co), (7, .slice (some ⟨bt, 0, none⟩) gr.succ.length gr.succ.length), (8, .slice (some ⟨bm, 0, none⟩) gr.succ.length gr.succ.length), (12, .int .i64 (nth ord (w : Int))), (13, .int .i64 best), (47, .slice A4 ((ord.drop 1).length) (co - 1)), (48, .int .i64 ((ord.drop 1).length : Int)), (49, .int .i64 j), (57, .slice A6 x6.length c6), (58, .int .i64 (x6.length : Int)), (59, .int .i64 q), (60, .bool (decide (q < (x6.length : Int))))] rfl ⟨rfl, rfl, rfl, rfl, rfl, rfl, rfl, rfl, rfl, rfl, rfl, rfl, rfl, rfl, trivial⟩ ?_
        refine WpG.caseD (t := 60) rfl (fun q60 => ?_) (fun q60 => ?_)
        · refine WpG.go tabOK 6 [(1, .int .i64 root), (2, .pointer (some ⟨b1, 0, none⟩)), (5, .slice (some ⟨bo, 0, none⟩) ord.length co), (7, .slice (some ⟨bt, 0, none⟩) gr.succ.length gr.succ.length), (8, .slice (some ⟨bm, 0, none⟩) gr.succ.length gr.succ.length), (12, .int .i64 (nth ord (w : Int))), (13, .int .i64 best), (47, .slice A4 ((ord.drop 1).length) (co - 1)), (48, .int .i64 ((ord.drop 1).length : Int)), (49, .int .i64 j), (57, .slice A6 x6.length c6), (58, .int .i64 (x6.length : Int)), (59, .int .i64 q)] rfl ⟨rfl, rfl, rfl, rfl, rfl, rfl, rfl, rfl, rfl, rfl, rfl, rfl, rfl, trivial⟩ ?_
          refine WpG.indexR tabOK rfl rfl rfl rfl rfl rfl rfl rfl rfl r6 (by omega) (by omega) ?_
          rintro x7 hx7 b7 o7 _ ⟨rfl, k7⟩ hc7
          have hx7m := (hmem x7).1 (hx7 ▸ nth_mem l0 q60)
          have htk := take_snoc_nth l0 q60
          rw [← hx7] at htk
          refine WpG.y rfl rfl rfl rfl (RunY.loadH tabOK hc7 hH2 rfl rfl rfl rfl) ?_
          refine WpG.go tabOK 7 [(1, .int .i64 root), (2, .pointer (some ⟨b1, 0, none⟩)), (5, .slice (some ⟨bo, 0, none⟩) ord.length co), (7, .slice (some ⟨bt, 0, none⟩) gr.succ.length gr.succ.length), (8, .slice (some ⟨bm, 0, none⟩) gr.succ.length gr.succ.length), (12, .int .i64 (nth ord (w : Int))), (13, .int .i64 best), (15, .int .i64 x7), (47, .slice A4 ((ord.drop 1).length) (co - 1)), (48, .int .i64 ((ord.drop 1).length : Int)), (49, .int .i64 j), (57, .slice A6 x6.length c6), (58, .int .i64 (x6.length : Int)), (59, .int .i64 q), (69, .slice (some ⟨bt, 0, none⟩) gr.succ.length gr.succ.length), (70, .int .i64 x7)] rfl ⟨rfl, rfl, rfl, rfl, rfl, rfl, rfl, rfl, rfl, rfl, rfl, rfl, rfl, rfl, rfl, rfl, trivial⟩ ?_
          refine WpG.y rfl rfl rfl rfl (RunY.indexAddr tabOK rfl rfl rfl rfl rfl (by omega) (by omega)) ?_
          refine WpG.y rfl rfl rfl rfl (RunY.loadOwn (ci := 0) (cs := [iv (nth tl x7)]) tabOK rfl rfl rfl rfl rfl (own_int (by omega) (by omega))) ?_
          refine WpG.go tabOK 3 [(1, .int .i64 root), (2, .pointer (some ⟨b1, 0, none⟩)), (5, .slice (some ⟨bo, 0, none⟩) ord.length co), (7, .slice (some ⟨bt, 0, none⟩) gr.succ.length gr.succ.length), (8, .slice (some ⟨bm, 0, none⟩) gr.succ.length gr.succ.length), (12, .int .i64 (nth ord (w : Int))), (13, .int .i64 best), (15, .int .i64 x7), (47, .slice A4 ((ord.drop 1).length) (co - 1)), (48, .int .i64 ((ord.drop 1).length : Int)), (49, .int .i64 j), (57, .slice A6 x6.length c6), (58, .int .i64 (x6.length : Int)), (59, .int .i64 q), (68, .bool ((nth tl x7) == (-2)))] rfl ⟨rfl, rfl, rfl, rfl, rfl, rfl, rfl, rfl, rfl, rfl, rfl, rfl, rfl, rfl, rfl, trivial⟩ ?_
          refine WpG.caseE (t := 68) rfl (fun q68 => ?_) (fun q68 => ?_)
          · refine WpG.go tabOK 6 [(1, .int .i64 root), (2, .pointer (some ⟨b1, 0, none⟩)), (5, .slice (some ⟨bo, 0, none⟩) ord.length co), (7, .slice (some ⟨bt, 0, none⟩) gr.succ.length gr.succ.length), (8, .slice (some ⟨bm, 0, none⟩) gr.succ.length gr.succ.length), (12, .int .i64 (nth ord (w : Int))), (13, .int .i64 best), (47, .slice A4 ((ord.drop 1).length) (co - 1)), (48, .int .i64 ((ord.drop 1).length : Int)), (49, .int .i64 j), (57, .slice A6 x6.length c6), (58, .int .i64 (x6.length : Int)), (78, .int .i64 (q + 1))] rfl ⟨rfl, rfl, rfl, rfl, rfl, rfl, rfl, rfl, rfl, rfl, rfl, rfl, (wrk (x := q + 1) (by omega) (by omega)), trivial⟩ ?_
            refine WpG.go tabOK 3 [(1, .int .i64 root), (2, .pointer (some ⟨b1, 0, none⟩)), (5, .slice (some ⟨bo, 0, none⟩) ord.length co), (7, .slice (some ⟨bt, 0, none⟩) gr.succ.length gr.succ.length), (8, .slice (some ⟨bm, 0, none⟩) gr.succ.length gr.succ.length), (12, .int .i64 (nth ord (w : Int))), (13, .int .i64 best), (47, .slice A4 ((ord.drop 1).length) (co - 1)), (48, .int .i64 ((ord.drop 1).length : Int)), (49, .int .i64 j), (57, .slice A6 x6.length c6), (58, .int .i64 (x6.length : Int)), (59, .int .i64 (q + 1))] rfl ⟨rfl, rfl, rfl, rfl, rfl, rfl, rfl, rfl, rfl, rfl, rfl, rfl, rfl, trivial⟩ ?_
            refine WpG.weaken (G := [(1, .int .i64 root), (2, .pointer (some ⟨b1, 0, none⟩)), (5, .slice (some ⟨bo, 0, none⟩) ord.length co), (7, .slice (some ⟨bt, 0, none⟩) gr.succ.length gr.succ.length), (8, .slice (some ⟨bm, 0, none⟩) gr.succ.length gr.succ.length), (12, .int .i64 (nth ord (w : Int))), (13, .int .i64 best), (47, .slice A4 ((ord.drop 1).length) (co - 1)), (48, .int .i64 ((ord.drop 1).length : Int)), (49, .int .i64 j), (57, .slice A6 x6.length c6), (58, .int .i64 (x6.length : Int)), (59, .int .i64 (q + 1))]) (Known.all ⟨rfl, rfl, rfl, rfl, rfl, rfl, rfl, rfl, rfl, rfl, rfl, rfl, rfl, trivial⟩) (ih3 (q + 1, best) ?_ ?_)
            · show (x6.length - (q + 1)).toNat < (x6.length - q).toNat
              omega
            · show 0 ≤ (q + 1) ∧ (q + 1) ≤ x6.length ∧ BestOf ord tl T v (x6.take (q + 1).toNat) best
              -- back 0 of loop 3, path FL1FLG0L2TL3TT
              clear ih1 ihG0 ih2 ih3
              exact ⟨by omega, by omega, by rw [htk]; exact l2.skip (hI.not_taken q68)⟩
          · refine WpG.go tabOK 7 [(1, .int .i64 root), (2, .pointer (some ⟨b1, 0, none⟩)), (5, .slice (some ⟨bo, 0, none⟩) ord.length co), (7, .slice (some ⟨bt, 0, none⟩) gr.succ.length gr.succ.length), (8, .slice (some ⟨bm, 0, none⟩) gr.succ.length gr.succ.length), (12, .int .i64 (nth ord (w : Int))), (13, .int .i64 best), (15, .int .i64 x7), (47, .slice A4 ((ord.drop 1).length) (co - 1)), (48, .int .i64 ((ord.drop 1).length : Int)), (49, .int .i64 j), (57, .slice A6 x6.length c6), (58, .int .i64 (x6.length : Int)), (59, .int .i64 q), (74, .bool (best == (-2)))] rfl ⟨rfl, rfl, rfl, rfl, rfl, rfl, rfl, rfl, rfl, rfl, rfl, rfl, rfl, rfl, rfl, trivial⟩ ?_
            refine WpG.caseE (t := 74) rfl (fun q74 => ?_) (fun q74 => ?_)
            · refine WpG.go tabOK 9 [(1, .int .i64 root), (2, .pointer (some ⟨b1, 0, none⟩)), (5, .slice (some ⟨bo, 0, none⟩) ord.length co), (7, .slice (some ⟨bt, 0, none⟩) gr.succ.length gr.succ.length), (8, .slice (some ⟨bm, 0, none⟩) gr.succ.length gr.succ.length), (12, .int .i64 (nth ord (w : Int))), (13, .int .i64 x7), (47, .slice A4 ((ord.drop 1).length) (co - 1)), (48, .int .i64 ((ord.drop 1).length : Int)), (49, .int .i64 j), (57, .slice A6 x6.length c6), (58, .int .i64 (x6.length : Int)), (78, .int .i64 (q + 1))] rfl ⟨rfl, rfl, rfl, rfl, rfl, rfl, rfl, rfl, rfl, rfl, rfl, rfl, (wrk (x := q + 1) (by omega) (by omega)), trivial⟩ ?_
              refine WpG.go tabOK 3 [(1, .int .i64 root), (2, .pointer (some ⟨b1, 0, none⟩)), (5, .slice (some ⟨bo, 0, none⟩) ord.length co), (7, .slice (some ⟨bt, 0, none⟩) gr.succ.length gr.succ.length), (8, .slice (some ⟨bm, 0, none⟩) gr.succ.length gr.succ.length), (12, .int .i64 (nth ord (w : Int))), (13, .int .i64 x7), (47, .slice A4 ((ord.drop 1).length) (co - 1)), (48, .int .i64 ((ord.drop 1).length : Int)), (49, .int .i64 j), (57, .slice A6 x6.length c6), (58, .int .i64 (x6.length : Int)), (59, .int .i64 (q + 1))] rfl ⟨rfl, rfl, rfl, rfl, rfl, rfl, rfl, rfl, rfl, rfl, rfl, rfl, rfl, trivial⟩ ?_
              refine WpG.weaken (G := [(1, .int .i64 root), (2, .pointer (some ⟨b1, 0, none⟩)), (5, .slice (some ⟨bo, 0, none⟩) ord.length co), (7, .slice (some ⟨bt, 0, none⟩) gr.succ.length gr.succ.length), (8, .slice (some ⟨bm, 0, none⟩) gr.succ.length gr.succ.length), (12, .int .i64 (nth ord (w : Int))), (13, .int .i64 x7), (47, .slice A4 ((ord.drop 1).length) (co - 1)), (48, .int .i64 ((ord.drop 1).length : Int)), (49, .int .i64 j), (57, .slice A6 x6.length c6), (58, .int .i64 (x6.length : Int)), (59, .int .i64 (q + 1))]) (Known.all ⟨rfl, rfl, rfl, rfl, rfl, rfl, rfl, rfl, rfl, rfl, rfl, rfl, rfl, trivial⟩) (ih3 (q + 1, x7) ?_ ?_)
              · show (x6.length - (q + 1)).toNat < (x6.length - q).toNat
                omega
              · show 0 ≤ (q + 1) ∧ (q + 1) ≤ x6.length ∧ BestOf ord tl T v (x6.take (q + 1).toNat) x7
                -- back 1 of loop 3, path FL1FLG0L2TL3TFT
                clear ih1 ihG0 ih2 ih3
                obtain ⟨kp, hkp, hpe⟩ := hI.taken hx7m.1 hx7m.2.1 q68
                exact ⟨by omega, by omega, by rw [htk]; exact l2.put hinj hkp hpe q74 (fun j hj => (hI.ta.rng j hj).1)⟩
            · refine WpG.go tabOK 6 [(1, .int .i64 root), (2, .pointer (some ⟨b1, 0, none⟩)), (5, .slice (some ⟨bo, 0, none⟩) ord.length co), (7, .slice (some ⟨bt, 0, none⟩) gr.succ.length gr.succ.length), (8, .slice (some ⟨bm, 0, none⟩) gr.succ.length gr.succ.length), (12, .int .i64 (nth ord (w : Int))), (47, .slice A4 ((ord.drop 1).length) (co - 1)), (48, .int .i64 ((ord.drop 1).length : Int)), (49, .int .i64 j), (57, .slice A6 x6.length c6), (58, .int .i64 (x6.length : Int)), (59, .int .i64 q), (63, .slice (some ⟨bt, 0, none⟩) gr.succ.length gr.succ.length), (64, .slice (some ⟨bm, 0, none⟩) gr.succ.length gr.succ.length), (65, .int .i64 best), (66, .int .i64 x7)] rfl ⟨rfl, rfl, rfl, rfl, rfl, rfl, rfl, rfl, rfl, rfl, rfl, rfl, rfl, rfl, rfl, rfl, trivial⟩ ?_
              obtain ⟨kp, hkp, hpe⟩ := hI.taken hx7m.1 hx7m.2.1 q68
              obtain ⟨cb, hcb, hbe, hbD⟩ := l2.resolve_left (fun h => q74 h.1)
              obtain ⟨cm, hcm⟩ := nca_ex hI.ta.par (cb + kp) cb kp rfl
              have hcmv : cm < v := by have := ((hcm cm).1 (Dt.refl T cm)).1.le hI.ta.par; omega
              refine WpG.callF (v := .int .i64 (nth ord (cm : Int))) rfl rfl rfl rfl rfl rfl ⟨_, Tryz.func87, rfl, rfl⟩ (fun H1 hz => ?_) ?_
              · have zz := meet_calls (c := gr.succ.length) (c' := gr.succ.length) (RdS.of_own (H := H2) (RdL_ints _ hTl) hlt.symm (by omega) hz.1 (hz.own (ci := 0) rfl)) (RdS.of_own (H := H2) (RdL_ints _ hAl) i3.symm (by omega) hz.1 (hz.own (ci := 1) rfl)) hI.ta cb kp cm hcb hkp hcm
                rw [hlt, i3] at zz; rw [hbe, hpe]; exact zz
              refine WpG.go tabOK 6 [(1, .int .i64 root), (2, .pointer (some ⟨b1, 0, none⟩)), (5, .slice (some ⟨bo, 0, none⟩) ord.length co), (7, .slice (some ⟨bt, 0, none⟩) gr.succ.length gr.succ.length), (8, .slice (some ⟨bm, 0, none⟩) gr.succ.length gr.succ.length), (12, .int .i64 (nth ord (w : Int))), (13, .int .i64 (nth ord (cm : Int))), (47, .slice A4 ((ord.drop 1).length) (co - 1)), (48, .int .i64 ((ord.drop 1).length : Int)), (49, .int .i64 j), (57, .slice A6 x6.length c6), (58, .int .i64 (x6.length : Int)), (78, .int .i64 (q + 1))] rfl ⟨rfl, rfl, rfl, rfl, rfl, rfl, rfl, rfl, rfl, rfl, rfl, rfl, (wrk (x := q + 1) (by omega) (by omega)), trivial⟩ ?_
              refine WpG.go tabOK 3 [(1, .int .i64 root), (2, .pointer (some ⟨b1, 0, none⟩)), (5, .slice (some ⟨bo, 0, none⟩) ord.length co), (7, .slice (some ⟨bt, 0, none⟩) gr.succ.length gr.succ.length), (8, .slice (some ⟨bm, 0, none⟩) gr.succ.length gr.succ.length), (12, .int .i64 (nth ord (w : Int))), (13, .int .i64 (nth ord (cm : Int))), (47, .slice A4 ((ord.drop 1).length) (co - 1)), (48, .int .i64 ((ord.drop 1).length : Int)), (49, .int .i64 j), (57, .slice A6 x6.length c6), (58, .int .i64 (x6.length : Int)), (59, .int .i64 (q + 1))] rfl ⟨rfl, rfl, rfl, rfl, rfl, rfl, rfl, rfl, rfl, rfl, rfl, rfl, rfl, trivial⟩ ?_
              refine WpG.weaken (G := [(1, .int .i64 root), (2, .pointer (some ⟨b1, 0, none⟩)), (5, .slice (some ⟨bo, 0, none⟩) ord.length co), (7, .slice (some ⟨bt, 0, none⟩) gr.succ.length gr.succ.length), (8, .slice (some ⟨bm, 0, none⟩) gr.succ.length gr.succ.length), (12, .int .i64 (nth ord (w : Int))), (13, .int .i64 (nth ord (cm : Int))), (47, .slice A4 ((ord.drop 1).length) (co - 1)), (48, .int .i64 ((ord.drop 1).length : Int)), (49, .int .i64 j), (57, .slice A6 x6.length c6), (58, .int .i64 (x6.length : Int)), (59, .int .i64 (q + 1))]) (Known.all ⟨rfl, rfl, rfl, rfl, rfl, rfl, rfl, rfl, rfl, rfl, rfl, rfl, rfl, trivial⟩) (ih3 (q + 1, nth ord (cm : Int)) ?_ ?_)
              · show (x6.length - (q + 1)).toNat < (x6.length - q).toNat
                omega
              · show 0 ≤ (q + 1) ∧ (q + 1) ≤ x6.length ∧ BestOf ord tl T v (x6.take (q + 1).toNat) (nth ord (cm : Int))
                -- back 2 of loop 3, path FL1FLG0L2TL3TFF
                clear ih1 ihG0 ih2 ih3
                exact ⟨by omega, by omega, by rw [htk]; exact BestOf.meet hinj hbD hkp hpe hcm hcmv⟩
        · rw [List.take_of_length_le (by omega)] at l2
          obtain ⟨cc, hcc, hbe, hcD⟩ := l2.all hO hI (by omega) hwl hwv hmem
          have hcr := hI.ta.rng cc hcc
          refine WpG.go tabOK 6 [(1, .int .i64 root), (2, .pointer (some ⟨b1, 0, none⟩)), (5, .slice (some ⟨bo, 0, none⟩) ord.length co), (7, .slice (some ⟨bt, 0, none⟩) gr.succ.length gr.succ.length), (8, .slice (some ⟨bm, 0, none⟩) gr.succ.length gr.succ.length), (12, .int .i64 (nth ord (w : Int))), (13, .int .i64 best), (47, .slice A4 ((ord.drop 1).length) (co - 1)), (48, .int .i64 ((ord.drop 1).length : Int)), (49, .int .i64 j), (79, .slice (some ⟨bt, 0, none⟩) gr.succ.length gr.succ.length), (80, .int .i64 (nth ord (w : Int)))] rfl ⟨rfl, rfl, rfl, rfl, rfl, rfl, rfl, rfl, rfl, rfl, rfl, rfl, trivial⟩ ?_
          refine WpG.y rfl rfl rfl rfl (RunY.indexAddr tabOK rfl rfl rfl rfl rfl (by omega) (by omega)) ?_
          refine WpG.y rfl rfl rfl rfl (RunY.loadOwn (ci := 0) (cs := [iv (nth tl (nth ord (w : Int)))]) tabOK rfl rfl rfl rfl rfl (own_int (by omega) (by omega))) ?_
          refine WpG.go tabOK 3 [(1, .int .i64 root), (2, .pointer (some ⟨b1, 0, none⟩)), (5, .slice (some ⟨bo, 0, none⟩) ord.length co), (7, .slice (some ⟨bt, 0, none⟩) gr.succ.length gr.succ.length), (8, .slice (some ⟨bm, 0, none⟩) gr.succ.length gr.succ.length), (12, .int .i64 (nth ord (w : Int))), (13, .int .i64 best), (47, .slice A4 ((ord.drop 1).length) (co - 1)), (48, .int .i64 ((ord.drop 1).length : Int)), (49, .int .i64 j), (84, .bool ((nth tl (nth ord (w : Int))) != best))] rfl ⟨rfl, rfl, rfl, rfl, rfl, rfl, rfl, rfl, rfl, rfl, rfl, trivial⟩ ?_
          refine WpG.caseN (t := 84) rfl (fun q84 => ?_) (fun q84 => ?_)
          · obtain ⟨T', v', D0', hI', hms⟩ := TInv.step hO hat hI (by omega) hwl hwv (fun z z0 z1 => j2 z z0 (by omega)) hcc hcD (hbe ▸ q84)
            refine WpG.go tabOK 6 [(1, .int .i64 root), (2, .pointer (some ⟨b1, 0, none⟩)), (5, .slice (some ⟨bo, 0, none⟩) ord.length co), (7, .slice (some ⟨bt, 0, none⟩) gr.succ.length gr.succ.length), (8, .slice (some ⟨bm, 0, none⟩) gr.succ.length gr.succ.length), (85, .slice (some ⟨bt, 0, none⟩) gr.succ.length gr.succ.length), (86, .int .i64 (nth ord (w : Int))), (87, .int .i64 best)] rfl ⟨rfl, rfl, rfl, rfl, rfl, rfl, rfl, rfl, trivial⟩ ?_
            refine WpG.y rfl rfl rfl rfl (RunY.indexAddr tabOK rfl rfl rfl rfl rfl (by omega) (by omega)) ?_
            refine WpG.storeOwn (ci := 0) tabOK rfl rfl rfl rfl rfl rfl rfl rfl (putAt_one (own_lt (by omega) (by omega))) ?_
            refine WpG.setL (L' := [Chunk.own 3 1 (some ⟨bt, 0, none⟩) gr.succ.length gr.succ.length ((tl.set (nth ord (w : Int)).toNat best).map iv), Chunk.own 3 1 (some ⟨bm, 0, none⟩) gr.succ.length gr.succ.length (al.map iv), Chunk.box b1 [.slice A_gr_0 gr.succ.length c_gr_0, .slice A_gr_1 gr.pred.length c_gr_1] 65]) (by rw [← arr_set (f := iv) (xs := tl) (j := nth ord (w : Int)) best]; rfl) ?_
            refine WpG.go tabOK 2 [(1, .int .i64 root), (2, .pointer (some ⟨b1, 0, none⟩)), (5, .slice (some ⟨bo, 0, none⟩) ord.length co), (7, .slice (some ⟨bt, 0, none⟩) gr.succ.length gr.succ.length), (8, .slice (some ⟨bm, 0, none⟩) gr.succ.length gr.succ.length)] rfl ⟨rfl, rfl, rfl, rfl, rfl, trivial⟩ ?_
            refine WpG.go tabOK 2 [(1, .int .i64 root), (2, .pointer (some ⟨b1, 0, none⟩)), (5, .slice (some ⟨bo, 0, none⟩) ord.length co), (7, .slice (some ⟨bt, 0, none⟩) gr.succ.length gr.succ.length), (8, .slice (some ⟨bm, 0, none⟩) gr.succ.length gr.succ.length)] rfl ⟨rfl, rfl, rfl, rfl, rfl, trivial⟩ ?_
            refine WpG.weaken (G := [(1, .int .i64 root), (2, .pointer (some ⟨b1, 0, none⟩)), (5, .slice (some ⟨bo, 0, none⟩) ord.length co), (7, .slice (some ⟨bt, 0, none⟩) gr.succ.length gr.succ.length), (8, .slice (some ⟨bm, 0, none⟩) gr.succ.length gr.succ.length)]) (Known.all ⟨rfl, rfl, rfl, rfl, rfl, trivial⟩) (ihG0 (tl.set (nth ord (w : Int)).toNat best, T', v', D0') ?_ ?_)
            · show (ord.length - v') * 65 + msum T' v' < (ord.length - v) * 65 + msum T v
              exact hms
            · show TInv gr.succ ord (tl.set (nth ord (w : Int)).toNat best) al T' v' D0' ∧ AllI (tl.set (nth ord (w : Int)).toNat best)
              -- back 0 of loop G0, path FL1FLG0L2TL3FT
              clear ih1 ihG0 ih2 ih3
              rw [hbe]; exact ⟨hI', AllI_set hTl ⟨by omega, by omega⟩⟩
          · refine WpG.go tabOK 5 [(1, .int .i64 root), (2, .pointer (some ⟨b1, 0, none⟩)), (5, .slice (some ⟨bo, 0, none⟩) ord.length co), (7, .slice (some ⟨bt, 0, none⟩) gr.succ.length gr.succ.length), (8, .slice (some ⟨bm, 0, none⟩) gr.succ.length gr.succ.length), (47, .slice A4 ((ord.drop 1).length) (co - 1)), (48, .int .i64 ((ord.drop 1).length : Int)), (89, .int .i64 (j + 1))] rfl ⟨rfl, rfl, rfl, rfl, rfl, rfl, rfl, (wrk (x := j + 1) (by omega) (by omega)), trivial⟩ ?_
            refine WpG.go tabOK 3 [(1, .int .i64 root), (2, .pointer (some ⟨b1, 0, none⟩)), (5, .slice (some ⟨bo, 0, none⟩) ord.length co), (7, .slice (some ⟨bt, 0, none⟩) gr.succ.length gr.succ.length), (8, .slice (some ⟨bm, 0, none⟩) gr.succ.length gr.succ.length), (47, .slice A4 ((ord.drop 1).length) (co - 1)), (48, .int .i64 ((ord.drop 1).length : Int)), (49, .int .i64 (j + 1))] rfl ⟨rfl, rfl, rfl, rfl, rfl, rfl, rfl, rfl, trivial⟩ ?_
            refine WpG.weaken (G := [(1, .int .i64 root), (2, .pointer (some ⟨b1, 0, none⟩)), (5, .slice (some ⟨bo, 0, none⟩) ord.length co), (7, .slice (some ⟨bt, 0, none⟩) gr.succ.length gr.succ.length), (8, .slice (some ⟨bm, 0, none⟩) gr.succ.length gr.succ.length), (47, .slice A4 ((ord.drop 1).length) (co - 1)), (48, .int .i64 ((ord.drop 1).length : Int)), (49, .int .i64 (j + 1))]) (Known.all ⟨rfl, rfl, rfl, rfl, rfl, rfl, rfl, rfl, trivial⟩) (ih2 (j + 1) ?_ ?_)
            · show (ord.length - (j + 1)).toNat < (ord.length - j).toNat
              omega
            · show 0 ≤ (j + 1) ∧ (j + 1) + 1 ≤ ord.length ∧ ∀ z : Nat, 0 < z → (z : Int) ≤ (j + 1) → Stable gr.succ ord T v z
              -- back 0 of loop 2, path FL1FLG0L2TL3FF
              clear ih1 ihG0 ih2 ih3
              refine ⟨by omega, by omega, fun z z0 z1 => ?_⟩
              by_cases e : z = w
              · subst e; exact TInv.same hO hI hwl hcc hcD (q84.trans hbe)
              · exact j2 z z0 (by omega)
      · have q50' := q50
        rw [List.length_drop] at q50'
        have hT := hI.tree hO h0 h1 (fun z z0 z1 => j2 z z0 (by omega))
        have htl : gr.succ.length = (tl.set root.toNat (-1)).length := by simp; omega
        refine WpG.go tabOK 6 [(7, .slice (some ⟨bt, 0, none⟩) gr.succ.length gr.succ.length), (90, .slice (some ⟨bt, 0, none⟩) gr.succ.length gr.succ.length), (91, .int .i64 root)] rfl ⟨rfl, rfl, rfl, trivial⟩ ?_
        refine WpG.y rfl rfl rfl rfl (RunY.indexAddr tabOK rfl rfl rfl rfl rfl (by omega) (by omega)) ?_
        refine WpG.storeOwn (ci := 0) tabOK rfl rfl rfl rfl rfl rfl rfl rfl (putAt_one (own_lt (by omega) (by omega))) ?_
        refine WpG.setL (L' := [Chunk.own 3 1 (some ⟨bt, 0, none⟩) gr.succ.length gr.succ.length ((tl.set root.toNat (-1)).map iv), Chunk.own 3 1 (some ⟨bm, 0, none⟩) gr.succ.length gr.succ.length (al.map iv), Chunk.box b1 [.slice A_gr_0 gr.succ.length c_gr_0, .slice A_gr_1 gr.pred.length c_gr_1] 65]) (by rw [← arr_set (f := iv) (xs := tl) (j := root) (-1)]; rfl) ?_
        refine WpG.go tabOK 6 [(4, .slice (some ⟨bt, 0, none⟩) gr.succ.length gr.succ.length)] rfl ⟨rfl, trivial⟩ ?_
        -- return 0, path FL1FLG0L2F
        exact WpG.ret tabOK (L' := [Chunk.own 3 1 (some ⟨bt, 0, none⟩) gr.succ.length gr.succ.length ((tl.set root.toNat (-1)).map iv)]) (.tmp rfl .nil) (.cons_cons _ (.cons _ (.cons _ .slnil))) ⟨bt, gr.succ.length, tl.set root.toNat (-1), by rw [← htl]; rfl, hT, AllI_set hTl ⟨by decide, by decide⟩, by rw [← htl]⟩
end Go.Proofs.YtdjemlkllbhdlaaGreat

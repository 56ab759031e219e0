/- The walk of a function's graph. -/
import Derived.Test.YtdjemlkllbhdlaaGreatT10
import Derived.Test.YtdjemlkllbhdlaaGreatSpec9
set_option linter.unusedVariables false
set_option linter.unusedSimpArgs false
namespace Go.Proofs.YtdjemlkllbhdlaaGreat
open Go Go.RowKit
theorem Of1_calls {H : Hp} {b : Nat} {n : Int} (k : Int) (hb : HCells H b 0 [.int .i64 n]) : CallG Tryz.prog 80 [.int .i64 k, .pointer (some ⟨b, 0, none⟩)] H [] (fun v _ L' => v = .bool (decide (k < 1) || decide (k ≥ n)) ∧ L' = []) := by
  refine CallG.of Tryz.func80 rfl rfl rfl fun w0 => ?_
  change WpG _ _ _ _ _ _ [(0, .int .i64 k), (1, .pointer (some ⟨b, 0, none⟩))] _ _ _
  refine WpG.go tabOK 9 [(0, .int .i64 k), (1, .pointer (some ⟨b, 0, none⟩)), (6, .bool (decide (k < 1)))] rfl ⟨rfl, rfl, rfl, trivial⟩ ?_
  refine WpG.caseD (t := 6) rfl (fun q6 => ?_) (fun q6 => ?_)
  · refine WpG.go tabOK 6 [(3, .bool true)] rfl ⟨rfl, trivial⟩ ?_
    -- return 0, path T
    exact WpG.ret tabOK (L' := []) (.tmp rfl .nil) .slnil ⟨congrArg Value.bool (by simp [*]), rfl⟩
  · refine WpG.go tabOK 1 [(1, .pointer (some ⟨b, 0, none⟩)), (6, .bool false), (7, .int .i64 k)] rfl ⟨rfl, rfl, rfl, trivial⟩ ?_
    refine WpG.y rfl rfl rfl rfl (RunY.loadH tabOK hb (Hp.le.refl _) rfl rfl rfl rfl) ?_
    refine WpG.go tabOK 4 [(3, .bool (decide (k ≥ n)))] rfl ⟨rfl, trivial⟩ ?_
    -- return 1, path F
    exact WpG.ret tabOK (L' := []) (.tmp rfl .nil) .slnil ⟨congrArg Value.bool (by simp [*]), rfl⟩

theorem Make_n {H : Hp} {A : Option Addr} {n c : Nat} {s : List (List Int)} (hs : RdS H A s) (hn : n = s.length) : CallG Tryz.prog 84 [.slice A n c] H [] (fun v H' L' => ∃ A c A' c', v = .tuple #[.agg #[.slice A (makeD s).1.succ.length c, .slice A' (makeD s).1.pred.length c'], .int .i64 (makeD s).2] ∧ (makeD s).1.succ.length ≤ c ∧ RdS H' A (makeD s).1.succ ∧ (makeD s).1.pred.length ≤ c' ∧ RdS H' A' (makeD s).1.pred ∧ L' = []) := by
  subst hn
  exact Make_calls hs

theorem Of_calls {H : Hp} {f : FuncD} {cs_f : List Value} (rd_f : Rdc.rd H cs_f f) : CallG Tryz.prog 53 [.agg cs_f.toArray] H [] (fun v H' L' => ∃ A c A' c', v = .tuple #[.agg #[.slice A (ofD f).1.succ.length c, .slice A' (ofD f).1.pred.length c'], .int .i64 (ofD f).2] ∧ (ofD f).1.succ.length ≤ c ∧ RdS H' A (ofD f).1.succ ∧ (ofD f).1.pred.length ≤ c' ∧ RdS H' A' (ofD f).1.pred ∧ L' = []) := by
  have rd_f' := rd_f; obtain ⟨A_f_0, c_f_0, A_f_2, c_f_2, rfl, u_f_0, r_f_0, u_f_2, r_f_2, k_f_0⟩ := rd_f
  have bs := r_f_2.1
  refine CallG.of Tryz.func53 rfl rfl rfl fun w0 => ?_
  change WpG _ _ _ _ _ _ [(0, .agg #[.slice A_f_0 f.params.length c_f_0, .int .i64 f.ret, .slice A_f_2 f.blocks.length c_f_2])] _ _ _
  refine WpG.go tabOK 2 [(0, .agg #[.slice A_f_0 f.params.length c_f_0, .int .i64 f.ret, .slice A_f_2 f.blocks.length c_f_2])] rfl ⟨rfl, trivial⟩ ?_
  refine WpG.box rfl rfl rfl rfl rfl (fun b1 => ?_)
  refine WpG.alloc tabOK rfl rfl rfl rfl rfl (fun b2 => ?_)
  refine WpG.go tabOK 5 [(1, .pointer (some ⟨b1, 0, none⟩)), (2, .pointer (some ⟨b2, 0, none⟩)), (8, .pointer (some ⟨b1, 2, none⟩))] rfl ⟨rfl, rfl, rfl, trivial⟩ ?_
  refine WpG.y rfl rfl rfl rfl (RunY.loadBox (ci := 1) tabOK rfl rfl rfl rfl) ?_
  refine WpG.go tabOK 1 [(1, .pointer (some ⟨b1, 0, none⟩)), (2, .pointer (some ⟨b2, 0, none⟩)), (10, .int .i64 (f.blocks.length : Int))] rfl ⟨rfl, rfl, rfl, trivial⟩ ?_
  refine WpG.alloc tabOK rfl rfl rfl rfl rfl (fun b3 => ?_)
  refine WpG.storeBox (ci := 0) (cs' := [.int .i64 (f.blocks.length : Int)]) tabOK rfl rfl rfl rfl rfl rfl rfl rfl rfl ?_
  refine WpG.setL (L' := [Chunk.box b3 [.int .i64 (f.blocks.length : Int)] 3, Chunk.box b2 [.slice none 0 0, .slice none 0 0] 65, Chunk.box b1 [.slice A_f_0 f.params.length c_f_0, .int .i64 f.ret, .slice A_f_2 f.blocks.length c_f_2] 25]) rfl ?_
  refine WpG.freezeBox (ci := 0) rfl (fun H4 hH4 hc4 => ?_)
  refine WpG.setL (L' := [Chunk.box b2 [.slice none 0 0, .slice none 0 0] 65, Chunk.box b1 [.slice A_f_0 f.params.length c_f_0, .int .i64 f.ret, .slice A_f_2 f.blocks.length c_f_2] 25]) rfl ?_
  refine WpG.go tabOK 4 [(1, .pointer (some ⟨b1, 0, none⟩)), (2, .pointer (some ⟨b2, 0, none⟩)), (4, .pointer (some ⟨b3, 0, none⟩))] rfl ⟨rfl, rfl, rfl, trivial⟩ ?_
  refine WpG.y rfl rfl rfl rfl (RunY.loadH tabOK hc4 (Hp.le.refl _) rfl rfl rfl rfl) ?_
  refine WpG.go tabOK 2 [(1, .pointer (some ⟨b1, 0, none⟩)), (2, .pointer (some ⟨b2, 0, none⟩)), (4, .pointer (some ⟨b3, 0, none⟩)), (12, .bool (decide ((f.blocks.length : Int) > 64)))] rfl ⟨rfl, rfl, rfl, rfl, trivial⟩ ?_
  refine WpG.caseD (t := 12) rfl (fun q12 => ?_) (fun q12 => ?_)
  · refine WpG.go tabOK 4 [(2, .pointer (some ⟨b2, 0, none⟩)), (13, .agg #[.slice none 0 0, .slice none 0 0])] rfl ⟨rfl, rfl, trivial⟩ ?_
    refine WpG.storeBox (ci := 0) (cs' := [.slice none 0 0, .slice none 0 0]) tabOK rfl rfl rfl rfl rfl rfl rfl rfl rfl ?_
    refine WpG.setL (L' := [Chunk.box b2 [.slice none 0 0, .slice none 0 0] 65, Chunk.box b1 [.slice A_f_0 f.params.length c_f_0, .int .i64 f.ret, .slice A_f_2 f.blocks.length c_f_2] 25]) rfl ?_
    refine WpG.go tabOK 2 [(2, .pointer (some ⟨b2, 0, none⟩)), (3, .int .i64 5)] rfl ⟨rfl, rfl, trivial⟩ ?_
    -- return 0, path T
    exact WpG.ret tabOK (L' := []) (.cell (ci := 0) rfl rfl rfl rfl (.tmp rfl .nil)) (.cons _ (.cons _ .slnil)) (Of_no (of_no1 q12))
  · refine WpG.go tabOK 10 [(2, .pointer (some ⟨b2, 0, none⟩)), (4, .pointer (some ⟨b3, 0, none⟩)), (5, .slice none 0 0), (14, .pointer (some ⟨b1, 2, none⟩))] rfl ⟨rfl, rfl, rfl, rfl, trivial⟩ ?_
    refine WpG.y rfl rfl rfl rfl (RunY.loadBox (ci := 1) tabOK rfl rfl rfl rfl) ?_
    refine WpG.go tabOK 5 [(2, .pointer (some ⟨b2, 0, none⟩)), (4, .pointer (some ⟨b3, 0, none⟩)), (5, .slice none 0 0), (15, .slice A_f_2 f.blocks.length c_f_2), (16, .int .i64 (f.blocks.length : Int)), (17, .int .i64 0)] rfl ⟨rfl, rfl, rfl, rfl, rfl, rfl, trivial⟩ ?_
    refine WpG.ownNil 22 1 ?_
    refine WpG.ind (σ := Int × Option Addr × Nat × Nat × List Value × Hp) (fun z_ => (f.blocks.length - z_.1).toNat) (fun z_ => [(2, .pointer (some ⟨b2, 0, none⟩)), (4, .pointer (some ⟨b3, 0, none⟩)), (5, .slice z_.2.1 z_.2.2.1 z_.2.2.2.1), (15, .slice A_f_2 f.blocks.length c_f_2), (16, .int .i64 (f.blocks.length : Int)), (17, .int .i64 z_.1)]) (fun z_ => z_.2.2.2.2.2) (fun z_ => [Chunk.own 22 1 z_.2.1 z_.2.2.2.1 z_.2.2.1 z_.2.2.2.2.1, Chunk.box b2 [.slice none 0 0, .slice none 0 0] 65, Chunk.box b1 [.slice A_f_0 f.params.length c_f_0, .int .i64 f.ret, .slice A_f_2 f.blocks.length c_f_2] 25]) (fun z_ => 0 ≤ z_.1 ∧ z_.1 ≤ f.blocks.length ∧ z_.2.2.1 = z_.1 ∧ H4.le z_.2.2.2.2.2 ∧ RdL z_.2.2.2.2.2 z_.2.2.2.2.1 ((f.blocks.take z_.1.toNat).map succOf) ∧ (f.blocks.take z_.1.toNat).all (ofOK f.blocks.length) = true) ?_ (0, none, 0, 0, [], H4) ⟨by omega, by omega, by simp, Hp.le.refl _, rfl, rfl⟩
    rintro ⟨i, A5, n5, c5, cs, G⟩ inv ih1
    change WpG _ _ _ _ _ _ [(2, .pointer (some ⟨b2, 0, none⟩)), (4, .pointer (some ⟨b3, 0, none⟩)), (5, .slice A5 n5 c5), (15, .slice A_f_2 f.blocks.length c_f_2), (16, .int .i64 (f.blocks.length : Int)), (17, .int .i64 i)] G [Chunk.own 22 1 A5 c5 n5 cs, Chunk.box b2 [.slice none 0 0, .slice none 0 0] 65, Chunk.box b1 [.slice A_f_0 f.params.length c_f_0, .int .i64 f.ret, .slice A_f_2 f.blocks.length c_f_2] 25] _
    replace inv : 0 ≤ i ∧ i ≤ f.blocks.length ∧ n5 = i ∧ H4.le G ∧ RdL G cs ((f.blocks.take i.toNat).map succOf) ∧ (f.blocks.take i.toNat).all (ofOK f.blocks.length) = true := inv
    obtain ⟨i0, i1, i2, i3, i4, i5⟩ := inv
    refine WpG.go tabOK 5 [(2, .pointer (some ⟨b2, 0, none⟩)), (4, .pointer (some ⟨b3, 0, none⟩)), (5, .slice A5 n5 c5), (15, .slice A_f_2 f.blocks.length c_f_2), (16, .int .i64 (f.blocks.length : Int)), (17, .int .i64 i), (18, .bool (decide (i < (f.blocks.length : Int))))] rfl ⟨rfl, rfl, rfl, rfl, rfl, rfl, rfl, trivial⟩ ?_
    refine WpG.caseD (t := 18) rfl (fun q18 => ?_) (fun q18 => ?_)
    · refine WpG.go tabOK 6 [(2, .pointer (some ⟨b2, 0, none⟩)), (4, .pointer (some ⟨b3, 0, none⟩)), (5, .slice A5 n5 c5), (15, .slice A_f_2 f.blocks.length c_f_2), (16, .int .i64 (f.blocks.length : Int)), (17, .int .i64 i)] rfl ⟨rfl, rfl, rfl, rfl, rfl, rfl, trivial⟩ ?_
      refine WpG.indexR tabOK rfl rfl rfl rfl rfl rfl rfl rfl rfl r_f_2 (by omega) (by omega) ?_
      rintro x5 hx5 b5 o5 cs5 rd5 hc5
      have rd5' := rd5; obtain ⟨A5_0, c5_0, A5_1, c5_1, A5_4, c5_4, rfl, u5_0, r5_0, u5_1, r5_1, u5_4, r5_4, k5_0, k5_1⟩ := rd5
      refine WpG.y rfl rfl rfl rfl (RunY.loadH tabOK hc5 (hH4.trans i3) rfl rfl rfl rfl) ?_
      refine WpG.alloc tabOK rfl rfl rfl rfl rfl (fun b6 => ?_)
      refine WpG.storeBox (ci := 0) (cs' := [.slice A5_0 x5.phis.length c5_0, .slice A5_1 x5.ops.length c5_1, .int .i64 x5.en.kind, .int .i64 x5.en.arg, .slice A5_4 x5.en.to.length c5_4]) tabOK rfl rfl rfl rfl rfl rfl rfl rfl rfl ?_
      refine WpG.setL (L' := [Chunk.box b6 [.slice A5_0 x5.phis.length c5_0, .slice A5_1 x5.ops.length c5_1, .int .i64 x5.en.kind, .int .i64 x5.en.arg, .slice A5_4 x5.en.to.length c5_4] 44, Chunk.own 22 1 A5 c5 n5 cs, Chunk.box b2 [.slice none 0 0, .slice none 0 0] 65, Chunk.box b1 [.slice A_f_0 f.params.length c_f_0, .int .i64 f.ret, .slice A_f_2 f.blocks.length c_f_2] 25]) rfl ?_
      refine WpG.go tabOK 3 [(2, .pointer (some ⟨b2, 0, none⟩)), (4, .pointer (some ⟨b3, 0, none⟩)), (5, .slice A5 n5 c5), (7, .pointer (some ⟨b6, 0, none⟩)), (15, .slice A_f_2 f.blocks.length c_f_2), (16, .int .i64 (f.blocks.length : Int)), (17, .int .i64 i)] rfl ⟨rfl, rfl, rfl, rfl, rfl, rfl, rfl, trivial⟩ ?_
      refine WpG.draw 16 [Chunk.box b6 [.slice A5_0 x5.phis.length c5_0, .slice A5_1 x5.ops.length c5_1, .int .i64 x5.en.kind, .int .i64 x5.en.arg, .slice A5_4 x5.en.to.length c5_4] 44, Chunk.own 22 1 A5 c5 n5 cs, Chunk.box b2 [.slice none 0 0, .slice none 0 0] 65, Chunk.box b1 [.slice A_f_0 f.params.length c_f_0, .int .i64 f.ret, .slice A_f_2 f.blocks.length c_f_2] 25] mixed (by kernel_rfl) ?_
      refine WpD.go (listed' := lst 16 51) tabOK [0, 1, 4, 5] [(2, .pointer (some ⟨b2, 0, none⟩)), (4, .pointer (some ⟨b3, 0, none⟩)), (5, .slice A5 n5 c5), (7, .pointer (some ⟨b6, 0, none⟩)), (15, .slice A_f_2 f.blocks.length c_f_2), (16, .int .i64 (f.blocks.length : Int)), (17, .int .i64 i), (22, .pointer (some ⟨b6, 2, none⟩)), (26, .pointer (some ⟨b6, 4, none⟩))] (by kernel_rfl) rfl ⟨rfl, rfl, rfl, rfl, rfl, rfl, rfl, rfl, rfl, trivial⟩ (hH4.trans i3) (Hp.le.refl _) (.cons_cons _ (.cons_cons _ (.cons_cons _ (.cons_cons _ .slnil)))) ?_
      refine WpD.y (i := 2) (fuel := 11) (listed' := lst 16 55) (by kernel_rfl) rfl rfl rfl rfl (hH4.trans i3) (Hp.le.refl _) (.cons_cons _ (.cons_cons _ (.cons_cons _ (.cons_cons _ .slnil)))) (RunY.loadBox (ci := 0) tabOK rfl rfl rfl rfl) ?_
      refine WpD.y (i := 6) (fuel := 10) (listed' := lst 16 119) (by kernel_rfl) rfl rfl rfl rfl (hH4.trans i3) (Hp.le.refl _) (.cons_cons _ (.cons_cons _ (.cons_cons _ (.cons_cons _ .slnil)))) (RunY.loadBox (ci := 0) tabOK rfl rfl rfl rfl) ?_
      refine WpD.go (listed' := lst 16 247) tabOK [7] [(2, .pointer (some ⟨b2, 0, none⟩)), (4, .pointer (some ⟨b3, 0, none⟩)), (5, .slice A5 n5 c5), (7, .pointer (some ⟨b6, 0, none⟩)), (15, .slice A_f_2 f.blocks.length c_f_2), (16, .int .i64 (f.blocks.length : Int)), (17, .int .i64 i), (23, .int .i64 x5.en.kind), (28, .int .i64 (x5.en.to.length : Int))] (by kernel_rfl) rfl ⟨rfl, rfl, rfl, rfl, rfl, rfl, rfl, rfl, rfl, trivial⟩ (hH4.trans i3) (Hp.le.refl _) (.cons_cons _ (.cons_cons _ (.cons_cons _ (.cons_cons _ .slnil)))) ?_
      refine WpD.callS (i := 3) (fuel := 8) (listed' := lst 16 255) (by kernel_rfl) rfl rfl rfl rfl rfl rfl (Hp.le.refl _) (goes_calls x5.en.kind) (hH4.trans i3) (Hp.le.refl _) (.cons_cons _ (.cons_cons _ (.cons_cons _ (.cons_cons _ .slnil)))) ?_
      refine WpD.go (listed' := lst 16 1023) tabOK [8, 9] [(2, .pointer (some ⟨b2, 0, none⟩)), (4, .pointer (some ⟨b3, 0, none⟩)), (5, .slice A5 n5 c5), (7, .pointer (some ⟨b6, 0, none⟩)), (15, .slice A_f_2 f.blocks.length c_f_2), (16, .int .i64 (f.blocks.length : Int)), (17, .int .i64 i), (30, .bool ((goesD x5.en.kind) != (x5.en.to.length : Int)))] (by kernel_rfl) rfl ⟨rfl, rfl, rfl, rfl, rfl, rfl, rfl, rfl, trivial⟩ (hH4.trans i3) (Hp.le.refl _) (.cons_cons _ (.cons_cons _ (.cons_cons _ (.cons_cons _ .slnil)))) ?_
      refine WpD.caseN (t := 30) rfl (fun q30 => ?_) (fun q30 => ?_)
      · refine WpD.go (listed' := lst 16 65535) tabOK [10, 11, 12, 13, 14, 15] [(2, .pointer (some ⟨b2, 0, none⟩)), (4, .pointer (some ⟨b3, 0, none⟩)), (5, .slice A5 n5 c5), (7, .pointer (some ⟨b6, 0, none⟩)), (15, .slice A_f_2 f.blocks.length c_f_2), (16, .int .i64 (f.blocks.length : Int)), (17, .int .i64 i), (36, .bool true)] (by kernel_rfl) rfl ⟨rfl, rfl, rfl, rfl, rfl, rfl, rfl, rfl, trivial⟩ (hH4.trans i3) (Hp.le.refl _) (.cons_cons _ (.cons_cons _ (.cons_cons _ (.cons_cons _ .slnil)))) ?_
        refine WpD.done (by kernel_rfl) ?_
        refine WpG.go tabOK 4 [(2, .pointer (some ⟨b2, 0, none⟩)), (37, .agg #[.slice none 0 0, .slice none 0 0])] rfl ⟨rfl, rfl, trivial⟩ ?_
        refine WpG.storeBox (ci := 2) (cs' := [.slice none 0 0, .slice none 0 0]) tabOK rfl rfl rfl rfl rfl rfl rfl rfl rfl ?_
        refine WpG.setL (L' := [Chunk.box b6 [.slice A5_0 x5.phis.length c5_0, .slice A5_1 x5.ops.length c5_1, .int .i64 x5.en.kind, .int .i64 x5.en.arg, .slice A5_4 x5.en.to.length c5_4] 44, Chunk.own 22 1 A5 c5 n5 cs, Chunk.box b2 [.slice none 0 0, .slice none 0 0] 65, Chunk.box b1 [.slice A_f_0 f.params.length c_f_0, .int .i64 f.ret, .slice A_f_2 f.blocks.length c_f_2] 25]) rfl ?_
        refine WpG.go tabOK 2 [(2, .pointer (some ⟨b2, 0, none⟩)), (3, .int .i64 5)] rfl ⟨rfl, rfl, trivial⟩ ?_
        -- return 1, path FL1TT
        exact WpG.ret tabOK (L' := []) (.cell (ci := 2) rfl rfl rfl rfl (.tmp rfl .nil)) (.cons _ (.cons _ (.cons _ (.cons _ .slnil)))) (Of_no (of_no2 q12 (of_bad i0 q18 hx5 (ofOK_a q30))))
      · refine WpD.go (listed' := lst 16 12287) tabOK [10, 11, 13] [(2, .pointer (some ⟨b2, 0, none⟩)), (4, .pointer (some ⟨b3, 0, none⟩)), (5, .slice A5 n5 c5), (7, .pointer (some ⟨b6, 0, none⟩)), (15, .slice A_f_2 f.blocks.length c_f_2), (16, .int .i64 (f.blocks.length : Int)), (17, .int .i64 i), (30, .bool false), (32, .pointer (some ⟨b6, 4, none⟩)), (34, .func (.func 80) #[] #[.pointer (some ⟨b3, 0, none⟩)])] (by kernel_rfl) rfl ⟨rfl, rfl, rfl, rfl, rfl, rfl, rfl, rfl, rfl, rfl, trivial⟩ (hH4.trans i3) (Hp.le.refl _) (.cons_cons _ (.cons_cons _ (.cons_cons _ (.cons_cons _ .slnil)))) ?_
        refine WpD.y (i := 12) (fuel := 2) (listed' := lst 16 16383) (by kernel_rfl) rfl rfl rfl rfl (hH4.trans i3) (Hp.le.refl _) (.cons_cons _ (.cons_cons _ (.cons_cons _ (.cons_cons _ .slnil)))) (RunY.loadBox (ci := 0) tabOK rfl rfl rfl rfl) ?_
        refine WpD.callS (i := 14) (fuel := 1) (listed' := lst 16 32767) (by kernel_rfl) rfl rfl rfl rfl rfl rfl (Hp.le.refl _) (ContainsFunc_int (r5_4.mono (hH4.trans i3)) (p := fun k => decide (k < 1) || decide (k ≥ (f.blocks.length : Int))) (fun x _ => Of1_calls x (hc4.mono i3))) (hH4.trans i3) (Hp.le.refl _) (.cons_cons _ (.cons_cons _ (.cons_cons _ (.cons_cons _ .slnil)))) ?_
        refine WpD.go (listed' := lst 16 65535) tabOK [15] [(2, .pointer (some ⟨b2, 0, none⟩)), (4, .pointer (some ⟨b3, 0, none⟩)), (5, .slice A5 n5 c5), (7, .pointer (some ⟨b6, 0, none⟩)), (15, .slice A_f_2 f.blocks.length c_f_2), (16, .int .i64 (f.blocks.length : Int)), (17, .int .i64 i), (36, .bool (x5.en.to.any fun k => decide (k < 1) || decide (k ≥ (f.blocks.length : Int))))] (by kernel_rfl) rfl ⟨rfl, rfl, rfl, rfl, rfl, rfl, rfl, rfl, trivial⟩ (hH4.trans i3) (Hp.le.refl _) (.cons_cons _ (.cons_cons _ (.cons_cons _ (.cons_cons _ .slnil)))) ?_
        refine WpD.done (by kernel_rfl) ?_
        refine WpG.caseB (t := 36) rfl (fun q36 => ?_) (fun q36 => ?_)
        · refine WpG.go tabOK 4 [(2, .pointer (some ⟨b2, 0, none⟩)), (37, .agg #[.slice none 0 0, .slice none 0 0])] rfl ⟨rfl, rfl, trivial⟩ ?_
          refine WpG.storeBox (ci := 2) (cs' := [.slice none 0 0, .slice none 0 0]) tabOK rfl rfl rfl rfl rfl rfl rfl rfl rfl ?_
          refine WpG.setL (L' := [Chunk.box b6 [.slice A5_0 x5.phis.length c5_0, .slice A5_1 x5.ops.length c5_1, .int .i64 x5.en.kind, .int .i64 x5.en.arg, .slice A5_4 x5.en.to.length c5_4] 44, Chunk.own 22 1 A5 c5 n5 cs, Chunk.box b2 [.slice none 0 0, .slice none 0 0] 65, Chunk.box b1 [.slice A_f_0 f.params.length c_f_0, .int .i64 f.ret, .slice A_f_2 f.blocks.length c_f_2] 25]) rfl ?_
          refine WpG.go tabOK 2 [(2, .pointer (some ⟨b2, 0, none⟩)), (3, .int .i64 5)] rfl ⟨rfl, rfl, trivial⟩ ?_
          -- return 2, path FL1TFT
          exact WpG.ret tabOK (L' := []) (.cell (ci := 2) rfl rfl rfl rfl (.tmp rfl .nil)) (.cons _ (.cons _ (.cons _ (.cons _ .slnil)))) (Of_no (of_no2 q12 (of_bad i0 q18 hx5 (ofOK_b q30 _ q36))))
        · have hle := goesD_le x5.en.kind
          have hlt : x5.en.to.length ≤ 2 := by omega
          refine WpG.go tabOK 6 [(2, .pointer (some ⟨b2, 0, none⟩)), (4, .pointer (some ⟨b3, 0, none⟩)), (15, .slice A_f_2 f.blocks.length c_f_2), (16, .int .i64 (f.blocks.length : Int)), (17, .int .i64 i), (38, .slice A5 n5 c5), (40, .pointer (some ⟨b6, 4, none⟩))] rfl ⟨rfl, rfl, rfl, rfl, rfl, rfl, rfl, trivial⟩ ?_
          refine WpG.y rfl rfl rfl rfl (RunY.loadBox (ci := 0) tabOK rfl rfl rfl rfl) ?_
          refine WpG.call0 rfl rfl rfl rfl rfl rfl (Values_calls A5_4 x5.en.to.length c5_4) ?_
          rintro _ H7 _ hH7 ⟨bs7, rfl, hB7, rfl⟩
          refine WpG.setL (L' := [Chunk.box b6 [.slice A5_0 x5.phis.length c5_0, .slice A5_1 x5.ops.length c5_1, .int .i64 x5.en.kind, .int .i64 x5.en.arg, .slice A5_4 x5.en.to.length c5_4] 44, Chunk.own 22 1 A5 c5 n5 cs, Chunk.box b2 [.slice none 0 0, .slice none 0 0] 65, Chunk.box b1 [.slice A_f_0 f.params.length c_f_0, .int .i64 f.ret, .slice A_f_2 f.blocks.length c_f_2] 25]) rfl ?_
          refine WpG.call0 rfl rfl rfl rfl rfl rfl (Sorted_calls (r5_4.mono ((hH4.trans i3).trans hH7)) (by omega) hB7) ?_
          rintro _ H1 _ - ⟨eH, A8, c8, rfl, rfl⟩
          rw [eH]; clear eH H1
          refine WpG.setL (L' := [Chunk.own 3 1 A8 c8 x5.en.to.length ((sortD x5.en.to).map iv), Chunk.box b6 [.slice A5_0 x5.phis.length c5_0, .slice A5_1 x5.ops.length c5_1, .int .i64 x5.en.kind, .int .i64 x5.en.arg, .slice A5_4 x5.en.to.length c5_4] 44, Chunk.own 22 1 A5 c5 n5 cs, Chunk.box b2 [.slice none 0 0, .slice none 0 0] 65, Chunk.box b1 [.slice A_f_0 f.params.length c_f_0, .int .i64 f.ret, .slice A_f_2 f.blocks.length c_f_2] 25]) rfl ?_
          refine WpG.call1 (ci := 0) rfl rfl rfl rfl rfl rfl rfl (Compact_calls (l := (sortD x5.en.to)) (by rw [sortD_len]; omega) (by rw [sortD_len])) ?_
          rintro _ H1 _ - ⟨eH, rfl, rfl⟩
          rw [eH]; clear eH H1
          refine WpG.setL (L' := [Chunk.own 3 1 A8 c8 ((compact2 (sortD x5.en.to)).length) ((compact2 (sortD x5.en.to)).map iv), Chunk.box b6 [.slice A5_0 x5.phis.length c5_0, .slice A5_1 x5.ops.length c5_1, .int .i64 x5.en.kind, .int .i64 x5.en.arg, .slice A5_4 x5.en.to.length c5_4] 44, Chunk.own 22 1 A5 c5 n5 cs, Chunk.box b2 [.slice none 0 0, .slice none 0 0] 65, Chunk.box b1 [.slice A_f_0 f.params.length c_f_0, .int .i64 f.ret, .slice A_f_2 f.blocks.length c_f_2] 25]) rfl ?_
          refine WpG.ownCap (ci := 0) rfl (fun uz9 => ?_)
          refine WpG.freezeOwn (ci := 0) rfl (fun H9 hH9 fz9 => ?_)
          have rz9 : RdS H9 A8 (compact2 (sortD x5.en.to)) := RdS.of_own (H := H7) (show RdL H7 ((compact2 (sortD x5.en.to)).map iv) (compact2 (sortD x5.en.to)) from RdL_ints _ (succOf_all (AllI_of r5_4))) (rfl) (by have h1 := compact2_len (sortD x5.en.to); rw [sortD_len] at h1; omega) hH9 fz9
          refine WpG.setL (L' := [Chunk.box b6 [.slice A5_0 x5.phis.length c5_0, .slice A5_1 x5.ops.length c5_1, .int .i64 x5.en.kind, .int .i64 x5.en.arg, .slice A5_4 x5.en.to.length c5_4] 44, Chunk.own 22 1 A5 c5 n5 cs, Chunk.box b2 [.slice none 0 0, .slice none 0 0] 65, Chunk.box b1 [.slice A_f_0 f.params.length c_f_0, .int .i64 f.ret, .slice A_f_2 f.blocks.length c_f_2] 25]) rfl ?_
          refine WpG.buildSlice (xs := [.slice A8 ((compact2 (sortD x5.en.to)).length) c8]) tabOK rfl rfl rfl rfl rfl rfl rfl rfl rfl rfl (fun b10 => ?_)
          refine WpG.append (ci := 2) tabOK rfl rfl rfl rfl rfl rfl rfl rfl rfl rfl rfl rfl (Src.own (ci := 0) rfl) (by omega) (fun A12 c13 => ?_)
          refine WpG.dropL (L' := [Chunk.box b6 [.slice A5_0 x5.phis.length c5_0, .slice A5_1 x5.ops.length c5_1, .int .i64 x5.en.kind, .int .i64 x5.en.arg, .slice A5_4 x5.en.to.length c5_4] 44, Chunk.own 22 1 A12 c13 (n5 + 1) (cs ++ [.slice A8 ((compact2 (sortD x5.en.to)).length) c8]), Chunk.box b2 [.slice none 0 0, .slice none 0 0] 65, Chunk.box b1 [.slice A_f_0 f.params.length c_f_0, .int .i64 f.ret, .slice A_f_2 f.blocks.length c_f_2] 25]) (.cons _ (.cons_cons _ (.cons_cons _ (.cons_cons _ (.cons_cons _ .slnil))))) ?_
          refine WpG.go tabOK 5 [(2, .pointer (some ⟨b2, 0, none⟩)), (4, .pointer (some ⟨b3, 0, none⟩)), (5, .slice A12 (n5 + 1) c13), (15, .slice A_f_2 f.blocks.length c_f_2), (16, .int .i64 (f.blocks.length : Int)), (47, .int .i64 (i + 1))] rfl ⟨rfl, rfl, rfl, rfl, rfl, (wrk (x := i + 1) (by omega) (by omega)), trivial⟩ ?_
          refine WpG.go tabOK 3 [(2, .pointer (some ⟨b2, 0, none⟩)), (4, .pointer (some ⟨b3, 0, none⟩)), (5, .slice A12 (n5 + 1) c13), (15, .slice A_f_2 f.blocks.length c_f_2), (16, .int .i64 (f.blocks.length : Int)), (17, .int .i64 (i + 1))] rfl ⟨rfl, rfl, rfl, rfl, rfl, rfl, trivial⟩ ?_
          refine WpG.dropL (L' := [Chunk.own 22 1 A12 c13 (n5 + 1) (cs ++ [.slice A8 ((compact2 (sortD x5.en.to)).length) c8]), Chunk.box b2 [.slice none 0 0, .slice none 0 0] 65, Chunk.box b1 [.slice A_f_0 f.params.length c_f_0, .int .i64 f.ret, .slice A_f_2 f.blocks.length c_f_2] 25]) (.cons _ (.cons_cons _ (.cons_cons _ (.cons_cons _ .slnil)))) ?_
          refine WpG.weaken (G := [(2, .pointer (some ⟨b2, 0, none⟩)), (4, .pointer (some ⟨b3, 0, none⟩)), (5, .slice A12 (n5 + 1) c13), (15, .slice A_f_2 f.blocks.length c_f_2), (16, .int .i64 (f.blocks.length : Int)), (17, .int .i64 (i + 1))]) (Known.all ⟨rfl, rfl, rfl, rfl, rfl, rfl, trivial⟩) (ih1 (i + 1, A12, n5 + 1, c13, cs ++ [.slice A8 ((compact2 (sortD x5.en.to)).length) c8], H9) ?_ ?_)
          · show (f.blocks.length - (i + 1)).toNat < (f.blocks.length - i).toNat
            omega
          · show 0 ≤ (i + 1) ∧ (i + 1) ≤ f.blocks.length ∧ (n5 + 1) = (i + 1) ∧ H4.le H9 ∧ RdL H9 (cs ++ [.slice A8 ((compact2 (sortD x5.en.to)).length) c8]) ((f.blocks.take (i + 1).toNat).map succOf) ∧ (f.blocks.take (i + 1).toNat).all (ofOK f.blocks.length) = true
            -- back 0 of loop 1, path FL1TFF
            clear ih1
            exact ⟨by omega, by omega, by omega, i3.trans (hH7.trans hH9), by rw [map_snoc succOf i0 q18 hx5]; exact (i4.mono (hH7.trans hH9)).snoc ⟨_, _, rfl, uz9, rz9⟩, by rw [take_snoc_nth i0 q18, List.all_append, i5, ← hx5]; simp [ofOK_b q30 _ q36]⟩
    · obtain rfl : n5 = f.blocks.length := by omega
      refine WpG.go tabOK 5 [(2, .pointer (some ⟨b2, 0, none⟩)), (48, .slice A5 f.blocks.length c5)] rfl ⟨rfl, rfl, trivial⟩ ?_
      refine WpG.ownCap (ci := 0) rfl (fun uz14 => ?_)
      refine WpG.freezeOwn (ci := 0) rfl (fun H14 hH14 fz14 => ?_)
      have rz14 : RdS H14 A5 (f.blocks.map succOf) := RdS.of_own (H := G) (show RdL G cs (f.blocks.map succOf) from by have h := i4; rw [List.take_of_length_le (by omega)] at h; exact h) ((by rw [List.length_map])) (by rw [List.length_map]; omega) hH14 fz14
      refine WpG.setL (L' := [Chunk.box b2 [.slice none 0 0, .slice none 0 0] 65, Chunk.box b1 [.slice A_f_0 f.params.length c_f_0, .int .i64 f.ret, .slice A_f_2 f.blocks.length c_f_2] 25]) rfl ?_
      refine WpG.call0 rfl rfl rfl rfl rfl rfl (Make_n rz14 (by rw [List.length_map])) ?_
      rintro _ H15 _ hH15 ⟨A15, c15, B15, d15, rfl, ua15, ra15, ub15, rb15, rfl⟩
      refine WpG.setL (L' := [Chunk.box b2 [.slice none 0 0, .slice none 0 0] 65, Chunk.box b1 [.slice A_f_0 f.params.length c_f_0, .int .i64 f.ret, .slice A_f_2 f.blocks.length c_f_2] 25]) rfl ?_
      refine WpG.go tabOK 2 [(2, .pointer (some ⟨b2, 0, none⟩)), (50, .agg #[.slice A15 ((makeD (f.blocks.map succOf)).1.succ.length) c15, .slice B15 ((makeD (f.blocks.map succOf)).1.pred.length) d15]), (51, .int .i64 ((makeD (f.blocks.map succOf)).2))] rfl ⟨rfl, rfl, rfl, trivial⟩ ?_
      refine WpG.storeBox (ci := 0) (cs' := [.slice A15 ((makeD (f.blocks.map succOf)).1.succ.length) c15, .slice B15 ((makeD (f.blocks.map succOf)).1.pred.length) d15]) tabOK rfl rfl rfl rfl rfl rfl rfl rfl rfl ?_
      refine WpG.setL (L' := [Chunk.box b2 [.slice A15 ((makeD (f.blocks.map succOf)).1.succ.length) c15, .slice B15 ((makeD (f.blocks.map succOf)).1.pred.length) d15] 65, Chunk.box b1 [.slice A_f_0 f.params.length c_f_0, .int .i64 f.ret, .slice A_f_2 f.blocks.length c_f_2] 25]) rfl ?_
      refine WpG.go tabOK 2 [(2, .pointer (some ⟨b2, 0, none⟩)), (3, .int .i64 ((makeD (f.blocks.map succOf)).2))] rfl ⟨rfl, rfl, trivial⟩ ?_
      -- return 3, path FL1F
      exact WpG.ret tabOK (L' := []) (.cell (ci := 0) rfl rfl rfl rfl (.tmp rfl .nil)) (.cons _ (.cons _ .slnil)) (by rw [of_yes q12 (by have h := i5; rw [List.take_of_length_le (by omega)] at h; exact h)]; exact ⟨_, _, _, _, rfl, ua15, ra15, ub15, rb15, rfl⟩)
end Go.Proofs.YtdjemlkllbhdlaaGreat

/- The walks of what operations take and give. -/
import Derived.Test.YtdjemlkllbhdlaaGreatT4
set_option linter.unusedVariables false
set_option linter.unusedSimpArgs false
namespace Go.Proofs.YtdjemlkllbhdlaaGreat
open Go Go.RowKit
theorem kMay1_calls {H : Hp} (x : Int) : CallG Tryz.prog 114 [.int .i64 x] H [] (fun v _ L' => v = .bool (!valueOK x) ∧ L' = []) := by
  refine CallG.of Tryz.func114 rfl rfl rfl fun w0 => ?_
  change WpG _ _ _ _ _ _ [(0, .int .i64 x)] _ _ _
  refine WpG.go tabOK 7 [(3, .int .i64 x)] rfl ⟨rfl, trivial⟩ ?_
  refine WpG.callS rfl rfl rfl rfl rfl rfl (Hp.le.refl _) (value_calls x) ?_
  refine WpG.go tabOK 3 [(2, .bool (!(valueOK x)))] rfl ⟨rfl, trivial⟩ ?_
  -- return 0, path 
  exact WpG.ret tabOK (L' := []) (.tmp rfl .nil) .slnil ⟨congrArg Value.bool (by rfl), rfl⟩

theorem kMay_calls {H : Hp} {o : OpD} {cs_o : List Value} (rd_o : Rdc.rd H cs_o o) : CallG Tryz.prog 93 [.agg cs_o.toArray] H [] (fun v _ L' => v = .bool (mayO o) ∧ L' = []) := by
  have rd_o' := rd_o; obtain ⟨A_o_4, c_o_4, rfl, u_o_4, r_o_4, k_o_0, k_o_1, k_o_2, k_o_3, k_o_4⟩ := rd_o
  refine CallG.of Tryz.func93 rfl rfl rfl fun w0 => ?_
  change WpG _ _ _ _ _ _ [(0, .agg #[.int .i64 o.kind, .int .i64 o.bits, .int .i64 o.lanes, .int .i64 o.dst, .slice A_o_4 o.args.length c_o_4, .int .u64 o.imm])] _ _ _
  refine WpG.go tabOK 2 [(0, .agg #[.int .i64 o.kind, .int .i64 o.bits, .int .i64 o.lanes, .int .i64 o.dst, .slice A_o_4 o.args.length c_o_4, .int .u64 o.imm])] rfl ⟨rfl, trivial⟩ ?_
  refine WpG.box rfl rfl rfl rfl rfl (fun b1 => ?_)
  refine WpG.go tabOK 6 [(1, .pointer (some ⟨b1, 0, none⟩)), (6, .pointer (some ⟨b1, 1, none⟩))] rfl ⟨rfl, rfl, trivial⟩ ?_
  refine WpG.y rfl rfl rfl rfl (RunY.loadBox (ci := 0) tabOK rfl rfl rfl rfl) ?_
  refine WpG.go tabOK 1 [(1, .pointer (some ⟨b1, 0, none⟩)), (7, .int .i64 o.bits), (8, .pointer (some ⟨b1, 2, none⟩))] rfl ⟨rfl, rfl, rfl, trivial⟩ ?_
  refine WpG.y rfl rfl rfl rfl (RunY.loadBox (ci := 0) tabOK rfl rfl rfl rfl) ?_
  refine WpG.callS rfl rfl rfl rfl rfl rfl (Hp.le.refl _) (Shape_calls o.bits o.lanes k_o_1) ?_
  refine WpG.go tabOK 2 [(1, .pointer (some ⟨b1, 0, none⟩)), (11, .bool (!(shapeD o.bits o.lanes)))] rfl ⟨rfl, rfl, trivial⟩ ?_
  refine WpG.caseBn (t := 11) rfl (fun q11 => ?_) (fun q11 => ?_)
  · refine WpG.go tabOK 5 [(2, .bool false)] rfl ⟨rfl, trivial⟩ ?_
    -- return 0, path T
    exact WpG.ret tabOK (L' := []) (.tmp rfl .nil) (.cons _ .slnil) ⟨congrArg Value.bool (by simp [mayO, any_neg, *]), rfl⟩
  · refine WpG.go tabOK 4 [(1, .pointer (some ⟨b1, 0, none⟩))] rfl ⟨rfl, trivial⟩ ?_
    refine WpG.y rfl rfl rfl rfl (RunY.loadBox (ci := 0) tabOK rfl rfl rfl rfl) ?_
    refine WpG.call0 rfl rfl rfl rfl rfl rfl (takes_calls rd_o' (by simpa using q11)) ?_
    rintro _ H2 _ hH2 ⟨A2, c2, rfl, r2, rfl⟩
    refine WpG.setL (L' := [Chunk.box b1 [.int .i64 o.kind, .int .i64 o.bits, .int .i64 o.lanes, .int .i64 o.dst, .slice A_o_4 o.args.length c_o_4, .int .u64 o.imm] 47]) rfl ?_
    refine WpG.go tabOK 9 [(1, .pointer (some ⟨b1, 0, none⟩)), (3, .slice A2 ((takesD o).length) c2), (4, .bool (takesOK o)), (17, .pointer (some ⟨b1, 3, none⟩))] rfl ⟨rfl, rfl, rfl, rfl, trivial⟩ ?_
    refine WpG.y rfl rfl rfl rfl (RunY.loadBox (ci := 0) tabOK rfl rfl rfl rfl) ?_
    refine WpG.callS rfl rfl rfl rfl rfl rfl (Hp.le.refl _) (value_calls o.dst) ?_
    refine WpG.go tabOK 6 [(1, .pointer (some ⟨b1, 0, none⟩)), (3, .slice A2 ((takesD o).length) c2), (4, .bool (takesOK o)), (5, .bool (valueOK o.dst)), (20, .pointer (some ⟨b1, 0, none⟩))] rfl ⟨rfl, rfl, rfl, rfl, rfl, trivial⟩ ?_
    refine WpG.y rfl rfl rfl rfl (RunY.loadBox (ci := 0) tabOK rfl rfl rfl rfl) ?_
    refine WpG.callS rfl rfl rfl rfl rfl rfl (Hp.le.refl _) (stores_calls o.kind) ?_
    refine WpG.go tabOK 1 [(1, .pointer (some ⟨b1, 0, none⟩)), (3, .slice A2 ((takesD o).length) c2), (4, .bool (takesOK o)), (5, .bool (valueOK o.dst)), (22, .bool (storesK o.kind))] rfl ⟨rfl, rfl, rfl, rfl, rfl, trivial⟩ ?_
    refine WpG.caseB (t := 22) rfl (fun q22 => ?_) (fun q22 => ?_)
    · refine WpG.go tabOK 3 [(1, .pointer (some ⟨b1, 0, none⟩)), (3, .slice A2 ((takesD o).length) c2), (4, .bool (takesOK o)), (23, .pointer (some ⟨b1, 3, none⟩))] rfl ⟨rfl, rfl, rfl, rfl, trivial⟩ ?_
      refine WpG.y rfl rfl rfl rfl (RunY.loadBox (ci := 0) tabOK rfl rfl rfl rfl) ?_
      refine WpG.go tabOK 7 [(1, .pointer (some ⟨b1, 0, none⟩)), (3, .slice A2 ((takesD o).length) c2), (5, .bool (o.dst == 0)), (27, .bool (takesOK o))] rfl ⟨rfl, rfl, rfl, rfl, trivial⟩ ?_
      refine WpG.caseB (t := 27) rfl (fun q27 => ?_) (fun q27 => ?_)
      · refine WpG.go tabOK 3 [(1, .pointer (some ⟨b1, 0, none⟩)), (3, .slice A2 ((takesD o).length) c2), (30, .bool (o.dst == 0))] rfl ⟨rfl, rfl, rfl, trivial⟩ ?_
        refine WpG.caseE (t := 30) rfl (fun q30 => ?_) (fun q30 => ?_)
        · refine WpG.go tabOK 3 [(1, .pointer (some ⟨b1, 0, none⟩)), (30, .bool true), (32, .int .i64 ((takesD o).length : Int)), (33, .pointer (some ⟨b1, 4, none⟩))] rfl ⟨rfl, rfl, rfl, rfl, trivial⟩ ?_
          refine WpG.y rfl rfl rfl rfl (RunY.loadBox (ci := 0) tabOK rfl rfl rfl rfl) ?_
          refine WpG.go tabOK 4 [(1, .pointer (some ⟨b1, 0, none⟩)), (38, .bool (((takesD o).length : Int) == (o.args.length : Int)))] rfl ⟨rfl, rfl, trivial⟩ ?_
          refine WpG.caseE (t := 38) rfl (fun q38 => ?_) (fun q38 => ?_)
          · refine WpG.go tabOK 1 [(38, .bool true), (39, .pointer (some ⟨b1, 4, none⟩))] rfl ⟨rfl, rfl, trivial⟩ ?_
            refine WpG.y rfl rfl rfl rfl (RunY.loadBox (ci := 0) tabOK rfl rfl rfl rfl) ?_
            refine WpG.callS rfl rfl rfl rfl rfl rfl (Hp.le.refl _) (ContainsFunc_int (r_o_4.mono hH2) (p := fun n => !valueOK n) (fun x _ => kMay1_calls x)) ?_
            refine WpG.go tabOK 4 [(2, .bool (!(o.args.any fun n => !valueOK n)))] rfl ⟨rfl, trivial⟩ ?_
            -- return 1, path FTTTT
            exact WpG.ret tabOK (L' := []) (.tmp rfl .nil) (.cons _ .slnil) ⟨congrArg Value.bool (by simp [mayO, any_neg, *]), rfl⟩
          · refine WpG.go tabOK 7 [(2, .bool false)] rfl ⟨rfl, trivial⟩ ?_
            -- return 2, path FTTTF
            exact WpG.ret tabOK (L' := []) (.tmp rfl .nil) (.cons _ .slnil) ⟨congrArg Value.bool (by simp [mayO, any_neg, *]), rfl⟩
        · refine WpG.go tabOK 15 [(2, .bool false)] rfl ⟨rfl, trivial⟩ ?_
          -- return 3, path FTTF
          exact WpG.ret tabOK (L' := []) (.tmp rfl .nil) (.cons _ .slnil) ⟨congrArg Value.bool (by simp [mayO, any_neg, *]), rfl⟩
      · refine WpG.go tabOK 18 [(2, .bool false)] rfl ⟨rfl, trivial⟩ ?_
        -- return 4, path FTF
        exact WpG.ret tabOK (L' := []) (.tmp rfl .nil) (.cons _ .slnil) ⟨congrArg Value.bool (by simp [mayO, any_neg, *]), rfl⟩
    · refine WpG.go tabOK 6 [(1, .pointer (some ⟨b1, 0, none⟩)), (3, .slice A2 ((takesD o).length) c2), (5, .bool (valueOK o.dst)), (27, .bool (takesOK o))] rfl ⟨rfl, rfl, rfl, rfl, trivial⟩ ?_
      refine WpG.caseB (t := 27) rfl (fun q27 => ?_) (fun q27 => ?_)
      · refine WpG.go tabOK 3 [(1, .pointer (some ⟨b1, 0, none⟩)), (3, .slice A2 ((takesD o).length) c2), (30, .bool (valueOK o.dst))] rfl ⟨rfl, rfl, rfl, trivial⟩ ?_
        refine WpG.caseB (t := 30) rfl (fun q30 => ?_) (fun q30 => ?_)
        · refine WpG.go tabOK 3 [(1, .pointer (some ⟨b1, 0, none⟩)), (30, .bool true), (32, .int .i64 ((takesD o).length : Int)), (33, .pointer (some ⟨b1, 4, none⟩))] rfl ⟨rfl, rfl, rfl, rfl, trivial⟩ ?_
          refine WpG.y rfl rfl rfl rfl (RunY.loadBox (ci := 0) tabOK rfl rfl rfl rfl) ?_
          refine WpG.go tabOK 4 [(1, .pointer (some ⟨b1, 0, none⟩)), (38, .bool (((takesD o).length : Int) == (o.args.length : Int)))] rfl ⟨rfl, rfl, trivial⟩ ?_
          refine WpG.caseE (t := 38) rfl (fun q38 => ?_) (fun q38 => ?_)
          · refine WpG.go tabOK 1 [(38, .bool true), (39, .pointer (some ⟨b1, 4, none⟩))] rfl ⟨rfl, rfl, trivial⟩ ?_
            refine WpG.y rfl rfl rfl rfl (RunY.loadBox (ci := 0) tabOK rfl rfl rfl rfl) ?_
            refine WpG.callS rfl rfl rfl rfl rfl rfl (Hp.le.refl _) (ContainsFunc_int (r_o_4.mono hH2) (p := fun n => !valueOK n) (fun x _ => kMay1_calls x)) ?_
            refine WpG.go tabOK 4 [(2, .bool (!(o.args.any fun n => !valueOK n)))] rfl ⟨rfl, trivial⟩ ?_
            -- return 5, path FFTTT
            exact WpG.ret tabOK (L' := []) (.tmp rfl .nil) (.cons _ .slnil) ⟨congrArg Value.bool (by simp [mayO, any_neg, *]), rfl⟩
          · refine WpG.go tabOK 7 [(2, .bool false)] rfl ⟨rfl, trivial⟩ ?_
            -- return 6, path FFTTF
            exact WpG.ret tabOK (L' := []) (.tmp rfl .nil) (.cons _ .slnil) ⟨congrArg Value.bool (by simp [mayO, any_neg, *]), rfl⟩
        · refine WpG.go tabOK 15 [(2, .bool false)] rfl ⟨rfl, trivial⟩ ?_
          -- return 7, path FFTF
          exact WpG.ret tabOK (L' := []) (.tmp rfl .nil) (.cons _ .slnil) ⟨congrArg Value.bool (by simp [mayO, any_neg, *]), rfl⟩
      · refine WpG.go tabOK 18 [(2, .bool false)] rfl ⟨rfl, trivial⟩ ?_
        -- return 8, path FFF
        exact WpG.ret tabOK (L' := []) (.tmp rfl .nil) (.cons _ .slnil) ⟨congrArg Value.bool (by simp [mayO, any_neg, *]), rfl⟩

theorem kTakes_calls {H : Hp} {o : OpD} {cs_o : List Value} (rd_o : Rdc.rd H cs_o o) : CallG Tryz.prog 95 [.agg cs_o.toArray] H [] (fun v H' L' => ∃ A c, v = .slice A (takesF o).length c ∧ RdS H' A (takesF o) ∧ L' = []) := by
  have rd_o' := rd_o; obtain ⟨A_o_4, c_o_4, rfl, u_o_4, r_o_4, k_o_0, k_o_1, k_o_2, k_o_3, k_o_4⟩ := rd_o
  refine CallG.of Tryz.func95 rfl rfl rfl fun w0 => ?_
  change WpG _ _ _ _ _ _ [(0, .agg #[.int .i64 o.kind, .int .i64 o.bits, .int .i64 o.lanes, .int .i64 o.dst, .slice A_o_4 o.args.length c_o_4, .int .u64 o.imm])] _ _ _
  refine WpG.go tabOK 2 [(0, .agg #[.int .i64 o.kind, .int .i64 o.bits, .int .i64 o.lanes, .int .i64 o.dst, .slice A_o_4 o.args.length c_o_4, .int .u64 o.imm])] rfl ⟨rfl, trivial⟩ ?_
  refine WpG.box rfl rfl rfl rfl rfl (fun b1 => ?_)
  refine WpG.go tabOK 5 [(1, .pointer (some ⟨b1, 0, none⟩))] rfl ⟨rfl, trivial⟩ ?_
  refine WpG.y rfl rfl rfl rfl (RunY.loadBox (ci := 0) tabOK rfl rfl rfl rfl) ?_
  refine WpG.callS rfl rfl rfl rfl rfl rfl (Hp.le.refl _) (kMay_calls rd_o') ?_
  refine WpG.go tabOK 2 [(1, .pointer (some ⟨b1, 0, none⟩)), (7, .bool (!(mayO o)))] rfl ⟨rfl, rfl, trivial⟩ ?_
  refine WpG.caseBn (t := 7) rfl (fun q7 => ?_) (fun q7 => ?_)
  · refine WpG.go tabOK 5 [(2, .slice none 0 0)] rfl ⟨rfl, trivial⟩ ?_
    -- return 0, path T
    exact WpG.ret tabOK (L' := []) (.tmp rfl .nil) (.cons _ .slnil) (Takes_ret (by simp [takesF, *]) rfl (RdS.nil _ _))
  · refine WpG.go tabOK 4 [(1, .pointer (some ⟨b1, 0, none⟩))] rfl ⟨rfl, trivial⟩ ?_
    refine WpG.y rfl rfl rfl rfl (RunY.loadBox (ci := 0) tabOK rfl rfl rfl rfl) ?_
    refine WpG.call0 rfl rfl rfl rfl rfl rfl (takes_calls rd_o' (may_shape (by simpa using q7))) ?_
    rintro _ H2 _ hH2 ⟨A2, c2, rfl, r2, rfl⟩
    refine WpG.setL (L' := [Chunk.box b1 [.int .i64 o.kind, .int .i64 o.bits, .int .i64 o.lanes, .int .i64 o.dst, .slice A_o_4 o.args.length c_o_4, .int .u64 o.imm] 47]) rfl ?_
    refine WpG.go tabOK 11 [(2, .slice A2 ((takesD o).length) c2)] rfl ⟨rfl, trivial⟩ ?_
    -- return 1, path F
    exact WpG.ret tabOK (L' := []) (.tmp rfl .nil) (.cons _ .slnil) (Takes_ret (by simp [takesF, *]) rfl r2)

theorem kGives_calls {H : Hp} {o : OpD} {cs_o : List Value} (rd_o : Rdc.rd H cs_o o) : CallG Tryz.prog 67 [.agg cs_o.toArray] H [] (fun v _ L' => v = .tuple #[.int .i64 (givesF o).1, .int .i64 (givesF o).2] ∧ L' = []) := by
  have rd_o' := rd_o; obtain ⟨A_o_4, c_o_4, rfl, u_o_4, r_o_4, k_o_0, k_o_1, k_o_2, k_o_3, k_o_4⟩ := rd_o
  refine CallG.of Tryz.func67 rfl rfl rfl fun w0 => ?_
  change WpG _ _ _ _ _ _ [(0, .agg #[.int .i64 o.kind, .int .i64 o.bits, .int .i64 o.lanes, .int .i64 o.dst, .slice A_o_4 o.args.length c_o_4, .int .u64 o.imm])] _ _ _
  refine WpG.go tabOK 2 [(0, .agg #[.int .i64 o.kind, .int .i64 o.bits, .int .i64 o.lanes, .int .i64 o.dst, .slice A_o_4 o.args.length c_o_4, .int .u64 o.imm])] rfl ⟨rfl, trivial⟩ ?_
  refine WpG.box rfl rfl rfl rfl rfl (fun b1 => ?_)
  refine WpG.go tabOK 7 [(1, .pointer (some ⟨b1, 0, none⟩))] rfl ⟨rfl, trivial⟩ ?_
  refine WpG.y rfl rfl rfl rfl (RunY.loadBox (ci := 0) tabOK rfl rfl rfl rfl) ?_
  refine WpG.callS rfl rfl rfl rfl rfl rfl (Hp.le.refl _) (kMay_calls rd_o') ?_
  refine WpG.go tabOK 2 [(1, .pointer (some ⟨b1, 0, none⟩)), (8, .bool (!(mayO o)))] rfl ⟨rfl, rfl, trivial⟩ ?_
  refine WpG.caseBn (t := 8) rfl (fun q8 => ?_) (fun q8 => ?_)
  · refine WpG.go tabOK 12 [(2, .int .i64 0), (3, .int .i64 0)] rfl ⟨rfl, rfl, trivial⟩ ?_
    -- return 0, path T
    exact WpG.ret tabOK (L' := []) (.tmp rfl (.tmp rfl .nil)) (.cons _ .slnil) (Gives_ret (by first | (simp [givesF, *]; done) | (simp [givesF, *]; decide)) rfl)
  · refine WpG.go tabOK 1 [(1, .pointer (some ⟨b1, 0, none⟩)), (8, .bool false), (9, .pointer (some ⟨b1, 0, none⟩))] rfl ⟨rfl, rfl, rfl, trivial⟩ ?_
    refine WpG.y rfl rfl rfl rfl (RunY.loadBox (ci := 0) tabOK rfl rfl rfl rfl) ?_
    refine WpG.callS rfl rfl rfl rfl rfl rfl (Hp.le.refl _) (stores_calls o.kind) ?_
    refine WpG.go tabOK 3 [(1, .pointer (some ⟨b1, 0, none⟩)), (4, .bool (storesK o.kind))] rfl ⟨rfl, rfl, trivial⟩ ?_
    refine WpG.caseB (t := 4) rfl (fun q4 => ?_) (fun q4 => ?_)
    · refine WpG.go tabOK 6 [(2, .int .i64 0), (3, .int .i64 0)] rfl ⟨rfl, rfl, trivial⟩ ?_
      -- return 1, path FT
      exact WpG.ret tabOK (L' := []) (.tmp rfl (.tmp rfl .nil)) (.cons _ .slnil) (Gives_ret (by first | (simp [givesF, *]; done) | (simp [givesF, *]; decide)) rfl)
    · refine WpG.go tabOK 4 [(1, .pointer (some ⟨b1, 0, none⟩)), (14, .pointer (some ⟨b1, 0, none⟩))] rfl ⟨rfl, rfl, trivial⟩ ?_
      refine WpG.y rfl rfl rfl rfl (RunY.loadBox (ci := 0) tabOK rfl rfl rfl rfl) ?_
      refine WpG.go tabOK 2 [(1, .pointer (some ⟨b1, 0, none⟩)), (17, .bool (decide (o.kind ≥ 10)))] rfl ⟨rfl, rfl, trivial⟩ ?_
      refine WpG.caseD (t := 17) rfl (fun q17 => ?_) (fun q17 => ?_)
      · refine WpG.go tabOK 1 [(1, .pointer (some ⟨b1, 0, none⟩)), (17, .bool true), (18, .pointer (some ⟨b1, 0, none⟩))] rfl ⟨rfl, rfl, rfl, trivial⟩ ?_
        refine WpG.y rfl rfl rfl rfl (RunY.loadBox (ci := 0) tabOK rfl rfl rfl rfl) ?_
        refine WpG.go tabOK 4 [(1, .pointer (some ⟨b1, 0, none⟩)), (13, .bool (decide (o.kind ≤ 12)))] rfl ⟨rfl, rfl, trivial⟩ ?_
        refine WpG.caseD (t := 13) rfl (fun q13 => ?_) (fun q13 => ?_)
        · refine WpG.go tabOK 6 [(2, .int .i64 1), (3, .int .i64 1)] rfl ⟨rfl, rfl, trivial⟩ ?_
          -- return 2, path FFTT
          exact WpG.ret tabOK (L' := []) (.tmp rfl (.tmp rfl .nil)) (.cons _ .slnil) (Gives_ret (by first | (simp [givesF, *]; done) | (simp [givesF, *]; decide)) rfl)
        · refine WpG.go tabOK 4 [(1, .pointer (some ⟨b1, 0, none⟩)), (23, .pointer (some ⟨b1, 0, none⟩))] rfl ⟨rfl, rfl, trivial⟩ ?_
          refine WpG.y rfl rfl rfl rfl (RunY.loadBox (ci := 0) tabOK rfl rfl rfl rfl) ?_
          refine WpG.go tabOK 3 [(1, .pointer (some ⟨b1, 0, none⟩)), (22, .bool (o.kind == 22))] rfl ⟨rfl, rfl, trivial⟩ ?_
          refine WpG.caseE (t := 22) rfl (fun q22 => ?_) (fun q22 => ?_)
          · refine WpG.go tabOK 4 [(26, .pointer (some ⟨b1, 1, none⟩))] rfl ⟨rfl, trivial⟩ ?_
            refine WpG.y rfl rfl rfl rfl (RunY.loadBox (ci := 0) tabOK rfl rfl rfl rfl) ?_
            refine WpG.go tabOK 3 [(2, .int .i64 o.bits), (3, .int .i64 1)] rfl ⟨rfl, rfl, trivial⟩ ?_
            -- return 3, path FFTFT
            exact WpG.ret tabOK (L' := []) (.tmp rfl (.tmp rfl .nil)) (.cons _ .slnil) (Gives_ret (by first | (simp [givesF, *]; done) | (simp [givesF, *]; decide)) rfl)
          · refine WpG.go tabOK 4 [(1, .pointer (some ⟨b1, 0, none⟩))] rfl ⟨rfl, trivial⟩ ?_
            refine WpG.draw 6 [Chunk.box b1 [.int .i64 o.kind, .int .i64 o.bits, .int .i64 o.lanes, .int .i64 o.dst, .slice A_o_4 o.args.length c_o_4, .int .u64 o.imm] 47] mixed (by kernel_rfl) ?_
            refine WpD.go (listed' := lst 6 5) tabOK [0, 2] [(28, .pointer (some ⟨b1, 1, none⟩)), (30, .pointer (some ⟨b1, 2, none⟩))] (by kernel_rfl) rfl ⟨rfl, rfl, trivial⟩ (Hp.le.refl _) (Hp.le.refl _) (.cons_cons _ .slnil) ?_
            refine WpD.y (i := 1) (fuel := 3) (listed' := lst 6 7) (by kernel_rfl) rfl rfl rfl rfl (Hp.le.refl _) (Hp.le.refl _) (.cons_cons _ .slnil) (RunY.loadBox (ci := 0) tabOK rfl rfl rfl rfl) ?_
            refine WpD.go (listed' := lst 6 23) tabOK [4] [(2, .int .i64 o.bits), (30, .pointer (some ⟨b1, 2, none⟩))] (by kernel_rfl) rfl ⟨rfl, rfl, trivial⟩ (Hp.le.refl _) (Hp.le.refl _) (.cons_cons _ .slnil) ?_
            refine WpD.y (i := 3) (fuel := 1) (listed' := lst 6 31) (by kernel_rfl) rfl rfl rfl rfl (Hp.le.refl _) (Hp.le.refl _) (.cons_cons _ .slnil) (RunY.loadBox (ci := 0) tabOK rfl rfl rfl rfl) ?_
            refine WpD.go (listed' := lst 6 63) tabOK [5] [(2, .int .i64 o.bits), (3, .int .i64 o.lanes)] (by kernel_rfl) rfl ⟨rfl, rfl, trivial⟩ (Hp.le.refl _) (Hp.le.refl _) (.cons_cons _ .slnil) ?_
            refine WpD.done (by kernel_rfl) ?_
            -- return 4, path FFTFF
            exact WpG.ret tabOK (L' := []) (.tmp rfl (.tmp rfl .nil)) (.cons _ .slnil) (Gives_ret (by first | (simp [givesF, *]; done) | (simp [givesF, *]; decide)) rfl)
      · refine WpG.go tabOK 10 [(1, .pointer (some ⟨b1, 0, none⟩)), (23, .pointer (some ⟨b1, 0, none⟩))] rfl ⟨rfl, rfl, trivial⟩ ?_
        refine WpG.y rfl rfl rfl rfl (RunY.loadBox (ci := 0) tabOK rfl rfl rfl rfl) ?_
        refine WpG.go tabOK 3 [(1, .pointer (some ⟨b1, 0, none⟩)), (22, .bool (o.kind == 22))] rfl ⟨rfl, rfl, trivial⟩ ?_
        refine WpG.caseE (t := 22) rfl (fun q22 => ?_) (fun q22 => ?_)
        · refine WpG.go tabOK 4 [(26, .pointer (some ⟨b1, 1, none⟩))] rfl ⟨rfl, trivial⟩ ?_
          refine WpG.y rfl rfl rfl rfl (RunY.loadBox (ci := 0) tabOK rfl rfl rfl rfl) ?_
          refine WpG.go tabOK 3 [(2, .int .i64 o.bits), (3, .int .i64 1)] rfl ⟨rfl, rfl, trivial⟩ ?_
          -- return 5, path FFFT
          exact WpG.ret tabOK (L' := []) (.tmp rfl (.tmp rfl .nil)) (.cons _ .slnil) (Gives_ret (by first | (simp [givesF, *]; done) | (simp [givesF, *]; decide)) rfl)
        · refine WpG.go tabOK 4 [(1, .pointer (some ⟨b1, 0, none⟩))] rfl ⟨rfl, trivial⟩ ?_
          refine WpG.draw 6 [Chunk.box b1 [.int .i64 o.kind, .int .i64 o.bits, .int .i64 o.lanes, .int .i64 o.dst, .slice A_o_4 o.args.length c_o_4, .int .u64 o.imm] 47] mixed (by kernel_rfl) ?_
          refine WpD.go (listed' := lst 6 5) tabOK [0, 2] [(28, .pointer (some ⟨b1, 1, none⟩)), (30, .pointer (some ⟨b1, 2, none⟩))] (by kernel_rfl) rfl ⟨rfl, rfl, trivial⟩ (Hp.le.refl _) (Hp.le.refl _) (.cons_cons _ .slnil) ?_
          refine WpD.y (i := 1) (fuel := 3) (listed' := lst 6 7) (by kernel_rfl) rfl rfl rfl rfl (Hp.le.refl _) (Hp.le.refl _) (.cons_cons _ .slnil) (RunY.loadBox (ci := 0) tabOK rfl rfl rfl rfl) ?_
          refine WpD.go (listed' := lst 6 23) tabOK [4] [(2, .int .i64 o.bits), (30, .pointer (some ⟨b1, 2, none⟩))] (by kernel_rfl) rfl ⟨rfl, rfl, trivial⟩ (Hp.le.refl _) (Hp.le.refl _) (.cons_cons _ .slnil) ?_
          refine WpD.y (i := 3) (fuel := 1) (listed' := lst 6 31) (by kernel_rfl) rfl rfl rfl rfl (Hp.le.refl _) (Hp.le.refl _) (.cons_cons _ .slnil) (RunY.loadBox (ci := 0) tabOK rfl rfl rfl rfl) ?_
          refine WpD.go (listed' := lst 6 63) tabOK [5] [(2, .int .i64 o.bits), (3, .int .i64 o.lanes)] (by kernel_rfl) rfl ⟨rfl, rfl, trivial⟩ (Hp.le.refl _) (Hp.le.refl _) (.cons_cons _ .slnil) ?_
          refine WpD.done (by kernel_rfl) ?_
          -- return 6, path FFFF
          exact WpG.ret tabOK (L' := []) (.tmp rfl (.tmp rfl .nil)) (.cons _ .slnil) (Gives_ret (by first | (simp [givesF, *]; done) | (simp [givesF, *]; decide)) rfl)
end Go.Proofs.YtdjemlkllbhdlaaGreat

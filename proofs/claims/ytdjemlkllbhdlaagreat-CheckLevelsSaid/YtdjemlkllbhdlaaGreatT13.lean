/- The walks of checks: what looks right by itself. -/
import Derived.Test.YtdjemlkllbhdlaaGreatT12
set_option linter.unusedVariables false
set_option linter.unusedSimpArgs false
namespace Go.Proofs.YtdjemlkllbhdlaaGreat
open Go Go.RowKit
theorem Typed1_calls {H : Hp} (x : Int) : CallG Tryz.prog 59 [.int .i64 x] H [] (fun v _ L' => v = .bool (!mayW x) ∧ L' = []) := by
  refine CallG.of Tryz.func59 rfl rfl rfl fun w0 => ?_
  change WpG _ _ _ _ _ _ [(0, .int .i64 x)] _ _ _
  refine WpG.go tabOK 7 [(3, .int .i64 x)] rfl ⟨rfl, trivial⟩ ?_
  refine WpG.callS rfl rfl rfl rfl rfl rfl (Hp.le.refl _) (May_calls x) ?_
  refine WpG.go tabOK 3 [(2, .bool (!(mayW x)))] rfl ⟨rfl, trivial⟩ ?_
  -- return 0, path 
  exact WpG.ret tabOK (L' := []) (.tmp rfl .nil) .slnil ⟨congrArg Value.bool (by rfl), rfl⟩

theorem Typed2_calls {H : Hp} {p : PhiD} {cs_p : List Value} (rd_p : Rdc.rd H cs_p p) : CallG Tryz.prog 61 [.agg cs_p.toArray] H [] (fun v _ L' => v = .bool (!mayW p.bits) ∧ L' = []) := by
  have rd_p' := rd_p; obtain ⟨A_p_2, c_p_2, A_p_3, c_p_3, rfl, u_p_2, r_p_2, u_p_3, r_p_3, k_p_0, k_p_1⟩ := rd_p
  refine CallG.of Tryz.func61 rfl rfl rfl fun w0 => ?_
  change WpG _ _ _ _ _ _ [(0, .agg #[.int .i64 p.bits, .int .i64 p.dst, .slice A_p_2 p.frm.length c_p_2, .slice A_p_3 p.args.length c_p_3])] _ _ _
  refine WpG.go tabOK 2 [(0, .agg #[.int .i64 p.bits, .int .i64 p.dst, .slice A_p_2 p.frm.length c_p_2, .slice A_p_3 p.args.length c_p_3])] rfl ⟨rfl, trivial⟩ ?_
  refine WpG.box rfl rfl rfl rfl rfl (fun b1 => ?_)
  refine WpG.go tabOK 5 [(3, .pointer (some ⟨b1, 0, none⟩))] rfl ⟨rfl, trivial⟩ ?_
  refine WpG.y rfl rfl rfl rfl (RunY.loadBox (ci := 0) tabOK rfl rfl rfl rfl) ?_
  refine WpG.callS rfl rfl rfl rfl rfl rfl (Hp.le.refl _) (May_calls p.bits) ?_
  refine WpG.go tabOK 3 [(2, .bool (!(mayW p.bits)))] rfl ⟨rfl, trivial⟩ ?_
  -- return 0, path 
  exact WpG.ret tabOK (L' := []) (.tmp rfl .nil) (.cons _ .slnil) ⟨congrArg Value.bool (by rfl), rfl⟩

theorem CheckOf_calls {H : Hp} {o : OpD} {cs_o : List Value} (rd_o : Rdc.rd H cs_o o) {b : Nat} {lv : Int} {v0 v1 v2 s1 s2 t1 dm : Value} (hb : HCells H b 0 [v0, v1, v2, .int .i64 lv, s1, s2, t1, dm]) : CallG Tryz.prog 64 [.pointer (some ⟨b, 0, none⟩), .agg cs_o.toArray] H [] (fun v _ L' => v = .bool (ofOpD lv o) ∧ L' = []) := by
  have rd_o' := rd_o; obtain ⟨A_o_4, c_o_4, rfl, u_o_4, r_o_4, k_o_0, k_o_1, k_o_2, k_o_3, k_o_4⟩ := rd_o
  refine CallG.of Tryz.func64 rfl rfl rfl fun w0 => ?_
  change WpG _ _ _ _ _ _ [(0, .pointer (some ⟨b, 0, none⟩)), (1, .agg #[.int .i64 o.kind, .int .i64 o.bits, .int .i64 o.lanes, .int .i64 o.dst, .slice A_o_4 o.args.length c_o_4, .int .u64 o.imm])] _ _ _
  refine WpG.go tabOK 2 [(0, .pointer (some ⟨b, 0, none⟩)), (1, .agg #[.int .i64 o.kind, .int .i64 o.bits, .int .i64 o.lanes, .int .i64 o.dst, .slice A_o_4 o.args.length c_o_4, .int .u64 o.imm])] rfl ⟨rfl, rfl, trivial⟩ ?_
  refine WpG.box rfl rfl rfl rfl rfl (fun b1 => ?_)
  refine WpG.go tabOK 9 [(0, .pointer (some ⟨b, 0, none⟩)), (3, .pointer (some ⟨b1, 0, none⟩)), (8, .pointer (some ⟨b, 3, none⟩))] rfl ⟨rfl, rfl, rfl, trivial⟩ ?_
  refine WpG.y rfl rfl rfl rfl (RunY.loadH tabOK (hb.sub 3 1) (Hp.le.refl _) rfl rfl rfl rfl) ?_
  refine WpG.go tabOK 2 [(0, .pointer (some ⟨b, 0, none⟩)), (3, .pointer (some ⟨b1, 0, none⟩)), (11, .bool (decide (lv < 2)))] rfl ⟨rfl, rfl, rfl, trivial⟩ ?_
  refine WpG.caseD (t := 11) rfl (fun q11 => ?_) (fun q11 => ?_)
  · refine WpG.go tabOK 1 [(0, .pointer (some ⟨b, 0, none⟩)), (3, .pointer (some ⟨b1, 0, none⟩)), (11, .bool true), (12, .pointer (some ⟨b1, 2, none⟩))] rfl ⟨rfl, rfl, rfl, rfl, trivial⟩ ?_
    refine WpG.y rfl rfl rfl rfl (RunY.loadBox (ci := 0) tabOK rfl rfl rfl rfl) ?_
    refine WpG.go tabOK 2 [(0, .pointer (some ⟨b, 0, none⟩)), (3, .pointer (some ⟨b1, 0, none⟩)), (11, .bool true), (15, .bool (decide (o.lanes > 1)))] rfl ⟨rfl, rfl, rfl, rfl, trivial⟩ ?_
    refine WpG.caseD (t := 15) rfl (fun q15 => ?_) (fun q15 => ?_)
    · refine WpG.go tabOK 12 [(4, .bool false)] rfl ⟨rfl, trivial⟩ ?_
      -- return 0, path TT
      exact WpG.ret tabOK (L' := []) (.tmp rfl .nil) (.cons _ .slnil) ⟨congrArg Value.bool (by unfold ofOpD; first | (rw [if_pos (by omega)]; done) | (rw [if_neg (by omega), if_pos (by omega)]; done) | rw [if_neg (by omega), if_neg (by omega)]), rfl⟩
    · refine WpG.go tabOK 1 [(0, .pointer (some ⟨b, 0, none⟩)), (3, .pointer (some ⟨b1, 0, none⟩)), (11, .bool true), (15, .bool false), (16, .pointer (some ⟨b1, 0, none⟩))] rfl ⟨rfl, rfl, rfl, rfl, rfl, trivial⟩ ?_
      refine WpG.y rfl rfl rfl rfl (RunY.loadBox (ci := 0) tabOK rfl rfl rfl rfl) ?_
      refine WpG.go tabOK 5 [(0, .pointer (some ⟨b, 0, none⟩)), (3, .pointer (some ⟨b1, 0, none⟩)), (5, .bool (decide (o.kind > 20)))] rfl ⟨rfl, rfl, rfl, trivial⟩ ?_
      refine WpG.caseD (t := 5) rfl (fun q5 => ?_) (fun q5 => ?_)
      · refine WpG.go tabOK 5 [(4, .bool false)] rfl ⟨rfl, trivial⟩ ?_
        -- return 1, path TFT
        exact WpG.ret tabOK (L' := []) (.tmp rfl .nil) (.cons _ .slnil) ⟨congrArg Value.bool (by unfold ofOpD; first | (rw [if_pos (by omega)]; done) | (rw [if_neg (by omega), if_pos (by omega)]; done) | rw [if_neg (by omega), if_neg (by omega)]), rfl⟩
      · refine WpG.go tabOK 6 [(3, .pointer (some ⟨b1, 0, none⟩)), (24, .pointer (some ⟨b, 3, none⟩))] rfl ⟨rfl, rfl, trivial⟩ ?_
        refine WpG.y rfl rfl rfl rfl (RunY.loadH tabOK (hb.sub 3 1) (Hp.le.refl _) rfl rfl rfl rfl) ?_
        refine WpG.go tabOK 2 [(3, .pointer (some ⟨b1, 0, none⟩)), (27, .bool (decide (lv < 1)))] rfl ⟨rfl, rfl, trivial⟩ ?_
        refine WpG.caseD (t := 27) rfl (fun q27 => ?_) (fun q27 => ?_)
        · refine WpG.go tabOK 1 [(3, .pointer (some ⟨b1, 0, none⟩)), (27, .bool true), (28, .pointer (some ⟨b1, 0, none⟩))] rfl ⟨rfl, rfl, rfl, trivial⟩ ?_
          refine WpG.y rfl rfl rfl rfl (RunY.loadBox (ci := 0) tabOK rfl rfl rfl rfl) ?_
          refine WpG.go tabOK 4 [(3, .pointer (some ⟨b1, 0, none⟩)), (21, .bool (decide (o.kind > 17)))] rfl ⟨rfl, rfl, trivial⟩ ?_
          refine WpG.caseD (t := 21) rfl (fun q21 => ?_) (fun q21 => ?_)
          · refine WpG.go tabOK 5 [(4, .bool false)] rfl ⟨rfl, trivial⟩ ?_
            -- return 2, path TFFTT
            exact WpG.ret tabOK (L' := []) (.tmp rfl .nil) (.cons _ .slnil) ⟨congrArg Value.bool (by unfold ofOpD; first | (rw [if_pos (by omega)]; done) | (rw [if_neg (by omega), if_pos (by omega)]; done) | rw [if_neg (by omega), if_neg (by omega)]), rfl⟩
          · refine WpG.go tabOK 5 [(3, .pointer (some ⟨b1, 0, none⟩))] rfl ⟨rfl, trivial⟩ ?_
            refine WpG.y rfl rfl rfl rfl (RunY.loadBox (ci := 0) tabOK rfl rfl rfl rfl) ?_
            refine WpG.callS rfl rfl rfl rfl rfl rfl (Hp.le.refl _) (kMay_calls rd_o') ?_
            refine WpG.go tabOK 2 [(4, .bool (mayO o))] rfl ⟨rfl, trivial⟩ ?_
            -- return 3, path TFFTF
            exact WpG.ret tabOK (L' := []) (.tmp rfl .nil) (.cons _ .slnil) ⟨congrArg Value.bool (by unfold ofOpD; first | (rw [if_pos (by omega)]; done) | (rw [if_neg (by omega), if_pos (by omega)]; done) | rw [if_neg (by omega), if_neg (by omega)]), rfl⟩
        · refine WpG.go tabOK 11 [(3, .pointer (some ⟨b1, 0, none⟩))] rfl ⟨rfl, trivial⟩ ?_
          refine WpG.y rfl rfl rfl rfl (RunY.loadBox (ci := 0) tabOK rfl rfl rfl rfl) ?_
          refine WpG.callS rfl rfl rfl rfl rfl rfl (Hp.le.refl _) (kMay_calls rd_o') ?_
          refine WpG.go tabOK 2 [(4, .bool (mayO o))] rfl ⟨rfl, trivial⟩ ?_
          -- return 4, path TFFF
          exact WpG.ret tabOK (L' := []) (.tmp rfl .nil) (.cons _ .slnil) ⟨congrArg Value.bool (by unfold ofOpD; first | (rw [if_pos (by omega)]; done) | (rw [if_neg (by omega), if_pos (by omega)]; done) | rw [if_neg (by omega), if_neg (by omega)]), rfl⟩
  · refine WpG.go tabOK 17 [(3, .pointer (some ⟨b1, 0, none⟩)), (24, .pointer (some ⟨b, 3, none⟩))] rfl ⟨rfl, rfl, trivial⟩ ?_
    refine WpG.y rfl rfl rfl rfl (RunY.loadH tabOK (hb.sub 3 1) (Hp.le.refl _) rfl rfl rfl rfl) ?_
    refine WpG.go tabOK 2 [(3, .pointer (some ⟨b1, 0, none⟩)), (27, .bool (decide (lv < 1)))] rfl ⟨rfl, rfl, trivial⟩ ?_
    refine WpG.caseD (t := 27) rfl (fun q27 => ?_) (fun q27 => ?_)
    · refine WpG.go tabOK 1 [(3, .pointer (some ⟨b1, 0, none⟩)), (27, .bool true), (28, .pointer (some ⟨b1, 0, none⟩))] rfl ⟨rfl, rfl, rfl, trivial⟩ ?_
      refine WpG.y rfl rfl rfl rfl (RunY.loadBox (ci := 0) tabOK rfl rfl rfl rfl) ?_
      refine WpG.go tabOK 4 [(3, .pointer (some ⟨b1, 0, none⟩)), (21, .bool (decide (o.kind > 17)))] rfl ⟨rfl, rfl, trivial⟩ ?_
      refine WpG.caseD (t := 21) rfl (fun q21 => ?_) (fun q21 => ?_)
      · refine WpG.go tabOK 5 [(4, .bool false)] rfl ⟨rfl, trivial⟩ ?_
        -- return 5, path FTT
        exact WpG.ret tabOK (L' := []) (.tmp rfl .nil) (.cons _ .slnil) ⟨congrArg Value.bool (by unfold ofOpD; first | (rw [if_pos (by omega)]; done) | (rw [if_neg (by omega), if_pos (by omega)]; done) | rw [if_neg (by omega), if_neg (by omega)]), rfl⟩
      · refine WpG.go tabOK 5 [(3, .pointer (some ⟨b1, 0, none⟩))] rfl ⟨rfl, trivial⟩ ?_
        refine WpG.y rfl rfl rfl rfl (RunY.loadBox (ci := 0) tabOK rfl rfl rfl rfl) ?_
        refine WpG.callS rfl rfl rfl rfl rfl rfl (Hp.le.refl _) (kMay_calls rd_o') ?_
        refine WpG.go tabOK 2 [(4, .bool (mayO o))] rfl ⟨rfl, trivial⟩ ?_
        -- return 6, path FTF
        exact WpG.ret tabOK (L' := []) (.tmp rfl .nil) (.cons _ .slnil) ⟨congrArg Value.bool (by unfold ofOpD; first | (rw [if_pos (by omega)]; done) | (rw [if_neg (by omega), if_pos (by omega)]; done) | rw [if_neg (by omega), if_neg (by omega)]), rfl⟩
    · refine WpG.go tabOK 11 [(3, .pointer (some ⟨b1, 0, none⟩))] rfl ⟨rfl, trivial⟩ ?_
      refine WpG.y rfl rfl rfl rfl (RunY.loadBox (ci := 0) tabOK rfl rfl rfl rfl) ?_
      refine WpG.callS rfl rfl rfl rfl rfl rfl (Hp.le.refl _) (kMay_calls rd_o') ?_
      refine WpG.go tabOK 2 [(4, .bool (mayO o))] rfl ⟨rfl, trivial⟩ ?_
      -- return 7, path FF
      exact WpG.ret tabOK (L' := []) (.tmp rfl .nil) (.cons _ .slnil) ⟨congrArg Value.bool (by unfold ofOpD; first | (rw [if_pos (by omega)]; done) | (rw [if_neg (by omega), if_pos (by omega)]; done) | rw [if_neg (by omega), if_neg (by omega)]), rfl⟩

theorem Typed3_calls {H : Hp} {o : OpD} {cs_o : List Value} (rd_o : Rdc.rd H cs_o o) {b : Nat} {lv : Int} {v0 v1 v2 s1 s2 t1 dm : Value} (hb : HCells H b 0 [v0, v1, v2, .int .i64 lv, s1, s2, t1, dm]) {bx : Nat} (hx : HCells H bx 0 [.pointer (some ⟨b, 0, none⟩)]) : CallG Tryz.prog 63 [.agg cs_o.toArray, .pointer (some ⟨bx, 0, none⟩)] H [] (fun v _ L' => v = .bool (!ofOpD lv o) ∧ L' = []) := by
  have rd_o' := rd_o; obtain ⟨A_o_4, c_o_4, rfl, u_o_4, r_o_4, k_o_0, k_o_1, k_o_2, k_o_3, k_o_4⟩ := rd_o
  refine CallG.of Tryz.func63 rfl rfl rfl fun w0 => ?_
  change WpG _ _ _ _ _ _ [(0, .agg #[.int .i64 o.kind, .int .i64 o.bits, .int .i64 o.lanes, .int .i64 o.dst, .slice A_o_4 o.args.length c_o_4, .int .u64 o.imm]), (1, .pointer (some ⟨bx, 0, none⟩))] _ _ _
  refine WpG.go tabOK 2 [(0, .agg #[.int .i64 o.kind, .int .i64 o.bits, .int .i64 o.lanes, .int .i64 o.dst, .slice A_o_4 o.args.length c_o_4, .int .u64 o.imm]), (1, .pointer (some ⟨bx, 0, none⟩))] rfl ⟨rfl, rfl, trivial⟩ ?_
  refine WpG.box rfl rfl rfl rfl rfl (fun b1 => ?_)
  refine WpG.go tabOK 4 [(1, .pointer (some ⟨bx, 0, none⟩)), (2, .pointer (some ⟨b1, 0, none⟩))] rfl ⟨rfl, rfl, trivial⟩ ?_
  refine WpG.y rfl rfl rfl rfl (RunY.loadH tabOK hx (Hp.le.refl _) rfl rfl rfl rfl) ?_
  refine WpG.y rfl rfl rfl rfl (RunY.loadBox (ci := 0) tabOK rfl rfl rfl rfl) ?_
  refine WpG.callS rfl rfl rfl rfl rfl rfl (Hp.le.refl _) (CheckOf_calls rd_o' hb) ?_
  refine WpG.go tabOK 3 [(3, .bool (!(ofOpD lv o)))] rfl ⟨rfl, trivial⟩ ?_
  -- return 0, path 
  exact WpG.ret tabOK (L' := []) (.tmp rfl .nil) (.cons _ .slnil) ⟨congrArg Value.bool (by rfl), rfl⟩

theorem Typed_calls {H : Hp} {f : FuncD} {A_f_0 A_f_2 : Option Addr} {c_f_0 c_f_2 : Nat} (u_f_0 : f.params.length ≤ c_f_0) (r_f_0 : RdS H A_f_0 f.params) (u_f_2 : f.blocks.length ≤ c_f_2) (r_f_2 : RdS H A_f_2 f.blocks) (k_f_0 : I64 f.ret) {b : Nat} {lv : Int} {s1 s2 t1 dm : Value} (hb : HCells H b 0 [.slice A_f_0 f.params.length c_f_0, .int .i64 f.ret, .slice A_f_2 f.blocks.length c_f_2, .int .i64 lv, s1, s2, t1, dm]) : CallG Tryz.prog 32 [.pointer (some ⟨b, 0, none⟩)] H [] (fun v _ L' => v = .int .i64 (if typedD f lv then 0 else 6) ∧ L' = []) := by
  have rd_f' : Rdc.rd H [.slice A_f_0 f.params.length c_f_0, .int .i64 f.ret, .slice A_f_2 f.blocks.length c_f_2] f := ⟨_, _, _, _, rfl, u_f_0, r_f_0, u_f_2, r_f_2, k_f_0⟩
  have bs := r_f_2.1; have bsp := r_f_0.1
  refine CallG.of Tryz.func32 rfl rfl rfl fun w0 => ?_
  change WpG _ _ _ _ _ _ [(0, .pointer (some ⟨b, 0, none⟩))] _ _ _
  refine WpG.go tabOK 2 [(0, .pointer (some ⟨b, 0, none⟩))] rfl ⟨rfl, trivial⟩ ?_
  refine WpG.box rfl rfl rfl rfl rfl (fun b1 => ?_)
  refine WpG.freezeBox (ci := 0) rfl (fun H2 hH2 hc2 => ?_)
  refine WpG.setL (L' := []) rfl ?_
  refine WpG.go tabOK 5 [(1, .pointer (some ⟨b1, 0, none⟩))] rfl ⟨rfl, trivial⟩ ?_
  refine WpG.y rfl rfl rfl rfl (RunY.loadH tabOK hc2 (Hp.le.refl _) rfl rfl rfl rfl) ?_
  refine WpG.go tabOK 3 [(1, .pointer (some ⟨b1, 0, none⟩)), (9, .pointer (some ⟨b, 1, none⟩))] rfl ⟨rfl, rfl, trivial⟩ ?_
  refine WpG.y rfl rfl rfl rfl (RunY.loadH tabOK (hb.sub 1 1) hH2 rfl rfl rfl rfl) ?_
  refine WpG.callS rfl rfl rfl rfl rfl rfl (Hp.le.refl _) (May_calls f.ret) ?_
  refine WpG.go tabOK 2 [(1, .pointer (some ⟨b1, 0, none⟩)), (13, .bool (!(mayW f.ret)))] rfl ⟨rfl, rfl, trivial⟩ ?_
  refine WpG.caseBn (t := 13) rfl (fun q13 => ?_) (fun q13 => ?_)
  · refine WpG.go tabOK 13 [(2, .int .i64 6)] rfl ⟨rfl, trivial⟩ ?_
    -- return 0, path T
    exact WpG.ret tabOK (L' := []) (.tmp rfl .nil) .slnil ⟨congrArg (Value.int .i64) (by exact typed_no (by unfold typedD; rw [q13]; rfl)), rfl⟩
  · refine WpG.y rfl rfl rfl rfl (RunY.loadH tabOK hc2 (Hp.le.refl _) rfl rfl rfl rfl) ?_
    refine WpG.go tabOK 3 [(1, .pointer (some ⟨b1, 0, none⟩)), (13, .bool false), (17, .pointer (some ⟨b, 0, none⟩))] rfl ⟨rfl, rfl, rfl, trivial⟩ ?_
    refine WpG.y rfl rfl rfl rfl (RunY.loadH tabOK (hb.sub 0 1) hH2 rfl rfl rfl rfl) ?_
    refine WpG.callS rfl rfl rfl rfl rfl rfl (Hp.le.refl _) (ContainsFunc_int (r_f_0.mono hH2) (p := fun x => !mayW x) (fun x _ => Typed1_calls x)) ?_
    refine WpG.go tabOK 2 [(1, .pointer (some ⟨b1, 0, none⟩)), (20, .bool (f.params.any fun x => !mayW x))] rfl ⟨rfl, rfl, trivial⟩ ?_
    refine WpG.caseB (t := 20) rfl (fun q20 => ?_) (fun q20 => ?_)
    · refine WpG.go tabOK 5 [(2, .int .i64 6)] rfl ⟨rfl, trivial⟩ ?_
      -- return 1, path FT
      exact WpG.ret tabOK (L' := []) (.tmp rfl .nil) .slnil ⟨congrArg (Value.int .i64) (by exact typed_no (by unfold typedD; rw [q13, q20]; rfl)), rfl⟩
    · refine WpG.go tabOK 5 [(1, .pointer (some ⟨b1, 0, none⟩))] rfl ⟨rfl, trivial⟩ ?_
      refine WpG.y rfl rfl rfl rfl (RunY.loadH tabOK hc2 (Hp.le.refl _) rfl rfl rfl rfl) ?_
      refine WpG.go tabOK 3 [(1, .pointer (some ⟨b1, 0, none⟩)), (24, .pointer (some ⟨b, 2, none⟩))] rfl ⟨rfl, rfl, trivial⟩ ?_
      refine WpG.y rfl rfl rfl rfl (RunY.loadH tabOK (hb.sub 2 1) hH2 rfl rfl rfl rfl) ?_
      refine WpG.go tabOK 5 [(1, .pointer (some ⟨b1, 0, none⟩)), (25, .slice A_f_2 f.blocks.length c_f_2), (26, .int .i64 (f.blocks.length : Int)), (27, .int .i64 0)] rfl ⟨rfl, rfl, rfl, rfl, trivial⟩ ?_
      refine WpG.ind (σ := Int) (fun z_ => (f.blocks.length - z_).toNat) (fun z_ => [(1, .pointer (some ⟨b1, 0, none⟩)), (25, .slice A_f_2 f.blocks.length c_f_2), (26, .int .i64 (f.blocks.length : Int)), (27, .int .i64 z_)]) (fun z_ => H2) (fun z_ => []) (fun z_ => 0 ≤ z_ ∧ z_ ≤ f.blocks.length ∧ f.blocks.all (typedB lv) = (f.blocks.drop z_.toNat).all (typedB lv)) ?_ (0) ⟨by omega, by omega, rfl⟩
      intro i inv ih1
      change WpG _ _ _ _ _ _ [(1, .pointer (some ⟨b1, 0, none⟩)), (25, .slice A_f_2 f.blocks.length c_f_2), (26, .int .i64 (f.blocks.length : Int)), (27, .int .i64 i)] H2 [] _
      replace inv : 0 ≤ i ∧ i ≤ f.blocks.length ∧ f.blocks.all (typedB lv) = (f.blocks.drop i.toNat).all (typedB lv) := inv
      obtain ⟨i0, i1, i2⟩ := inv
      refine WpG.go tabOK 5 [(1, .pointer (some ⟨b1, 0, none⟩)), (25, .slice A_f_2 f.blocks.length c_f_2), (26, .int .i64 (f.blocks.length : Int)), (27, .int .i64 i), (28, .bool (decide (i < (f.blocks.length : Int))))] rfl ⟨rfl, rfl, rfl, rfl, rfl, trivial⟩ ?_
      refine WpG.caseD (t := 28) rfl (fun q28 => ?_) (fun q28 => ?_)
      · refine WpG.go tabOK 6 [(1, .pointer (some ⟨b1, 0, none⟩)), (25, .slice A_f_2 f.blocks.length c_f_2), (26, .int .i64 (f.blocks.length : Int)), (27, .int .i64 i)] rfl ⟨rfl, rfl, rfl, rfl, trivial⟩ ?_
        refine WpG.indexR tabOK rfl rfl rfl rfl rfl rfl rfl rfl rfl r_f_2 (by omega) (by omega) ?_
        rintro x3 hx3 b3 o3 cs3 rd3 hc3
        have rd3' := rd3; obtain ⟨A3_0, c3_0, A3_1, c3_1, A3_4, c3_4, rfl, u3_0, r3_0, u3_1, r3_1, u3_4, r3_4, k3_0, k3_1⟩ := rd3
        refine WpG.y rfl rfl rfl rfl (RunY.loadH tabOK hc3 hH2 rfl rfl rfl rfl) ?_
        refine WpG.alloc tabOK rfl rfl rfl rfl rfl (fun b4 => ?_)
        refine WpG.storeBox (ci := 0) (cs' := [.slice A3_0 x3.phis.length c3_0, .slice A3_1 x3.ops.length c3_1, .int .i64 x3.en.kind, .int .i64 x3.en.arg, .slice A3_4 x3.en.to.length c3_4]) tabOK rfl rfl rfl rfl rfl rfl rfl rfl rfl ?_
        refine WpG.setL (L' := [Chunk.box b4 [.slice A3_0 x3.phis.length c3_0, .slice A3_1 x3.ops.length c3_1, .int .i64 x3.en.kind, .int .i64 x3.en.arg, .slice A3_4 x3.en.to.length c3_4] 44]) rfl ?_
        refine WpG.go tabOK 4 [(1, .pointer (some ⟨b1, 0, none⟩)), (4, .pointer (some ⟨b4, 0, none⟩)), (25, .slice A_f_2 f.blocks.length c_f_2), (26, .int .i64 (f.blocks.length : Int)), (27, .int .i64 i), (31, .pointer (some ⟨b4, 0, none⟩))] rfl ⟨rfl, rfl, rfl, rfl, rfl, rfl, trivial⟩ ?_
        refine WpG.y rfl rfl rfl rfl (RunY.loadBox (ci := 0) tabOK rfl rfl rfl rfl) ?_
        refine WpG.callS rfl rfl rfl rfl rfl rfl (Hp.le.refl _) (ContainsFunc_phi (r3_0.mono hH2) (p := fun p => !mayW p.bits) (fun x _ cs hx => Typed2_calls hx)) ?_
        refine WpG.go tabOK 6 [(1, .pointer (some ⟨b1, 0, none⟩)), (4, .pointer (some ⟨b4, 0, none⟩)), (25, .slice A_f_2 f.blocks.length c_f_2), (26, .int .i64 (f.blocks.length : Int)), (27, .int .i64 i), (35, .bool (x3.phis.any fun p => !mayW p.bits))] rfl ⟨rfl, rfl, rfl, rfl, rfl, rfl, trivial⟩ ?_
        refine WpG.caseB (t := 35) rfl (fun q35 => ?_) (fun q35 => ?_)
        · refine WpG.go tabOK 11 [(2, .int .i64 6)] rfl ⟨rfl, trivial⟩ ?_
          -- return 2, path FFL1TT
          exact WpG.ret tabOK (L' := []) (.tmp rfl .nil) (.cons _ .slnil) ⟨congrArg (Value.int .i64) (by clear ih1; exact typed_no (by unfold typedD; rw [q13, q20, all_no i2 i0 q28 hx3 (by unfold typedB; rw [q35]; rfl)]; rfl)), rfl⟩
        · refine WpG.go tabOK 1 [(1, .pointer (some ⟨b1, 0, none⟩)), (25, .slice A_f_2 f.blocks.length c_f_2), (26, .int .i64 (f.blocks.length : Int)), (27, .int .i64 i), (35, .bool false), (36, .pointer (some ⟨b4, 1, none⟩))] rfl ⟨rfl, rfl, rfl, rfl, rfl, rfl, trivial⟩ ?_
          refine WpG.y rfl rfl rfl rfl (RunY.loadBox (ci := 0) tabOK rfl rfl rfl rfl) ?_
          refine WpG.go tabOK 1 [(1, .pointer (some ⟨b1, 0, none⟩)), (25, .slice A_f_2 f.blocks.length c_f_2), (26, .int .i64 (f.blocks.length : Int)), (27, .int .i64 i), (35, .bool false), (37, .slice A3_1 x3.ops.length c3_1), (38, .func (.func 63) #[] #[.pointer (some ⟨b1, 0, none⟩)])] rfl ⟨rfl, rfl, rfl, rfl, rfl, rfl, rfl, trivial⟩ ?_
          refine WpG.callS rfl rfl rfl rfl rfl rfl (Hp.le.refl _) (ContainsFunc_op (r3_1.mono hH2) (p := fun o => !ofOpD lv o) (fun x _ cs hx => Typed3_calls hx (hb.mono hH2) (hc2.mono (Hp.le.refl _)))) ?_
          refine WpG.go tabOK 2 [(1, .pointer (some ⟨b1, 0, none⟩)), (25, .slice A_f_2 f.blocks.length c_f_2), (26, .int .i64 (f.blocks.length : Int)), (27, .int .i64 i), (40, .bool (x3.ops.any fun o => !ofOpD lv o))] rfl ⟨rfl, rfl, rfl, rfl, rfl, trivial⟩ ?_
          refine WpG.caseB (t := 40) rfl (fun q40 => ?_) (fun q40 => ?_)
          · refine WpG.go tabOK 5 [(2, .int .i64 6)] rfl ⟨rfl, trivial⟩ ?_
            -- return 3, path FFL1TFT
            exact WpG.ret tabOK (L' := []) (.tmp rfl .nil) (.cons _ .slnil) ⟨congrArg (Value.int .i64) (by clear ih1; exact typed_no (by unfold typedD; rw [q13, q20, all_no i2 i0 q28 hx3 (by unfold typedB; rw [q35, q40]; rfl)]; rfl)), rfl⟩
          · refine WpG.go tabOK 5 [(1, .pointer (some ⟨b1, 0, none⟩)), (25, .slice A_f_2 f.blocks.length c_f_2), (26, .int .i64 (f.blocks.length : Int)), (41, .int .i64 (i + 1))] rfl ⟨rfl, rfl, rfl, (wrk (x := i + 1) (by omega) (by omega)), trivial⟩ ?_
            refine WpG.go tabOK 3 [(1, .pointer (some ⟨b1, 0, none⟩)), (25, .slice A_f_2 f.blocks.length c_f_2), (26, .int .i64 (f.blocks.length : Int)), (27, .int .i64 (i + 1))] rfl ⟨rfl, rfl, rfl, rfl, trivial⟩ ?_
            refine WpG.dropL (L' := []) (.cons _ .slnil) ?_
            refine WpG.weaken (G := [(1, .pointer (some ⟨b1, 0, none⟩)), (25, .slice A_f_2 f.blocks.length c_f_2), (26, .int .i64 (f.blocks.length : Int)), (27, .int .i64 (i + 1))]) (Known.all ⟨rfl, rfl, rfl, rfl, trivial⟩) (ih1 (i + 1) ?_ ?_)
            · show (f.blocks.length - (i + 1)).toNat < (f.blocks.length - i).toNat
              omega
            · show 0 ≤ (i + 1) ∧ (i + 1) ≤ f.blocks.length ∧ f.blocks.all (typedB lv) = (f.blocks.drop (i + 1).toNat).all (typedB lv)
              -- back 0 of loop 1, path FFL1TFF
              clear ih1
              exact ⟨by omega, by omega, all_step i2 i0 q28 hx3 (by unfold typedB; rw [q35, q40]; rfl)⟩
      · refine WpG.go tabOK 6 [(2, .int .i64 0)] rfl ⟨rfl, trivial⟩ ?_
        -- return 4, path FFL1F
        exact WpG.ret tabOK (L' := []) (.tmp rfl .nil) .slnil ⟨congrArg (Value.int .i64) (by clear ih1; exact typed_yes (by unfold typedD; rw [q13, q20, all_end i2 i0 q28]; rfl)), rfl⟩
end Go.Proofs.YtdjemlkllbhdlaaGreat

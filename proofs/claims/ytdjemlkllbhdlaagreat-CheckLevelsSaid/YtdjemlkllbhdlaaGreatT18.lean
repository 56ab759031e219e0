/- The walks of what is asked of a check. -/
import Derived.Test.YtdjemlkllbhdlaaGreatSpec13
set_option linter.unusedVariables false
set_option linter.unusedSimpArgs false
namespace Go.Proofs.YtdjemlkllbhdlaaGreat
open Go Go.RowKit
theorem Check_calls {H : Hp} {f : FuncD} {A_f_0 A_f_2 : Option Addr} {c_f_0 c_f_2 : Nat} (u_f_0 : f.params.length ≤ c_f_0) (r_f_0 : RdS H A_f_0 f.params) (u_f_2 : f.blocks.length ≤ c_f_2) (r_f_2 : RdS H A_f_2 f.blocks) (k_f_0 : I64 f.ret) (lv : Int) : CallG Tryz.prog 10 [.agg #[.slice A_f_0 f.params.length c_f_0, .int .i64 f.ret, .slice A_f_2 f.blocks.length c_f_2], .int .i64 lv] H [] (fun v H' L' => ∃ e, v = .int .i64 e ∧ CheckIs f lv e ∧ L' = []) := by
  have rd_f' : Rdc.rd H [.slice A_f_0 f.params.length c_f_0, .int .i64 f.ret, .slice A_f_2 f.blocks.length c_f_2] f := ⟨_, _, _, _, rfl, u_f_0, r_f_0, u_f_2, r_f_2, k_f_0⟩
  have bs := r_f_2.1; have bsp := r_f_0.1
  refine CallG.of Tryz.func10 rfl rfl rfl fun w0 => ?_
  change WpG _ _ _ _ _ _ [(0, .agg #[.slice A_f_0 f.params.length c_f_0, .int .i64 f.ret, .slice A_f_2 f.blocks.length c_f_2]), (1, .int .i64 lv)] _ _ _
  refine WpG.go tabOK 2 [(0, .agg #[.slice A_f_0 f.params.length c_f_0, .int .i64 f.ret, .slice A_f_2 f.blocks.length c_f_2]), (1, .int .i64 lv)] rfl ⟨rfl, rfl, trivial⟩ ?_
  refine WpG.box rfl rfl rfl rfl rfl (fun b1 => ?_)
  refine WpG.go tabOK 8 [(1, .int .i64 lv), (2, .pointer (some ⟨b1, 0, none⟩)), (9, .bool (decide (lv < 0)))] rfl ⟨rfl, rfl, rfl, trivial⟩ ?_
  refine WpG.caseD (t := 9) rfl (fun q9 => ?_) (fun q9 => ?_)
  · refine WpG.go tabOK 9 [(4, .int .i64 1)] rfl ⟨rfl, trivial⟩ ?_
    -- return 0, path T
    exact WpG.ret tabOK (L' := []) (.tmp rfl .nil) (.cons _ .slnil) ⟨_, rfl, check_out (.inl q9), rfl⟩
  · refine WpG.go tabOK 4 [(1, .int .i64 lv), (2, .pointer (some ⟨b1, 0, none⟩)), (12, .bool (decide (lv > 2)))] rfl ⟨rfl, rfl, rfl, trivial⟩ ?_
    refine WpG.caseD (t := 12) rfl (fun q12 => ?_) (fun q12 => ?_)
    · refine WpG.go tabOK 5 [(4, .int .i64 1)] rfl ⟨rfl, trivial⟩ ?_
      -- return 1, path FT
      exact WpG.ret tabOK (L' := []) (.tmp rfl .nil) (.cons _ .slnil) ⟨_, rfl, check_out (.inr q12), rfl⟩
    · refine WpG.go tabOK 4 [(1, .int .i64 lv), (2, .pointer (some ⟨b1, 0, none⟩))] rfl ⟨rfl, rfl, trivial⟩ ?_
      refine WpG.y rfl rfl rfl rfl (RunY.loadBox (ci := 0) tabOK rfl rfl rfl rfl) ?_
      refine WpG.go tabOK 1 [(14, .agg #[.slice A_f_0 f.params.length c_f_0, .int .i64 f.ret, .slice A_f_2 f.blocks.length c_f_2]), (15, .int .i64 lv)] rfl ⟨rfl, rfl, trivial⟩ ?_
      refine WpG.call0 rfl rfl rfl rfl rfl rfl (Look_calls u_f_0 r_f_0 u_f_2 r_f_2 k_f_0 lv) ?_
      rintro _ H2 L1 hH2 ⟨e2, p2, rfl, hce, hL⟩
      refine WpG.dropL (L' := [Chunk.box b1 [.slice A_f_0 f.params.length c_f_0, .int .i64 f.ret, .slice A_f_2 f.blocks.length c_f_2] 25]) (List.sublist_append_right ..) ?_
      refine WpG.go tabOK 11 [(4, .int .i64 e2)] rfl ⟨rfl, trivial⟩ ?_
      -- return 2, path FF
      exact WpG.ret tabOK (L' := []) (.tmp rfl .nil) (.cons _ .slnil) ⟨_, rfl, check_in q9 q12 hce, rfl⟩

theorem Last_calls {H : Hp} {f : FuncD} {A_f_0 A_f_2 : Option Addr} {c_f_0 c_f_2 : Nat} (u_f_0 : f.params.length ≤ c_f_0) (r_f_0 : RdS H A_f_0 f.params) (u_f_2 : f.blocks.length ≤ c_f_2) (r_f_2 : RdS H A_f_2 f.blocks) (k_f_0 : I64 f.ret) : CallG Tryz.prog 12 [.agg #[.slice A_f_0 f.params.length c_f_0, .int .i64 f.ret, .slice A_f_2 f.blocks.length c_f_2]] H [] (fun v _ L' => v = .int .i64 (lastD f) ∧ L' = []) := by
  have rd_f' : Rdc.rd H [.slice A_f_0 f.params.length c_f_0, .int .i64 f.ret, .slice A_f_2 f.blocks.length c_f_2] f := ⟨_, _, _, _, rfl, u_f_0, r_f_0, u_f_2, r_f_2, k_f_0⟩
  have bs := r_f_2.1; have bsp := r_f_0.1
  refine CallG.of Tryz.func12 rfl rfl rfl fun w0 => ?_
  change WpG _ _ _ _ _ _ [(0, .agg #[.slice A_f_0 f.params.length c_f_0, .int .i64 f.ret, .slice A_f_2 f.blocks.length c_f_2])] _ _ _
  refine WpG.go tabOK 2 [(0, .agg #[.slice A_f_0 f.params.length c_f_0, .int .i64 f.ret, .slice A_f_2 f.blocks.length c_f_2])] rfl ⟨rfl, trivial⟩ ?_
  refine WpG.box rfl rfl rfl rfl rfl (fun b1 => ?_)
  refine WpG.go tabOK 5 [(1, .pointer (some ⟨b1, 0, none⟩)), (10, .pointer (some ⟨b1, 0, none⟩))] rfl ⟨rfl, rfl, trivial⟩ ?_
  refine WpG.y rfl rfl rfl rfl (RunY.loadBox (ci := 0) tabOK rfl rfl rfl rfl) ?_
  refine WpG.go tabOK 7 [(3, .int .i64 (f.params.length : Int)), (13, .pointer (some ⟨b1, 2, none⟩))] rfl ⟨rfl, rfl, trivial⟩ ?_
  refine WpG.y rfl rfl rfl rfl (RunY.loadBox (ci := 0) tabOK rfl rfl rfl rfl) ?_
  refine WpG.go tabOK 5 [(3, .int .i64 (f.params.length : Int)), (14, .slice A_f_2 f.blocks.length c_f_2), (15, .int .i64 (f.blocks.length : Int)), (16, .int .i64 0)] rfl ⟨rfl, rfl, rfl, rfl, trivial⟩ ?_
  refine WpG.ind (σ := Int × Int) (fun z_ => (f.blocks.length - z_.1).toNat) (fun z_ => [(3, .int .i64 z_.2), (14, .slice A_f_2 f.blocks.length c_f_2), (15, .int .i64 (f.blocks.length : Int)), (16, .int .i64 z_.1)]) (fun z_ => H) (fun z_ => [Chunk.box b1 [.slice A_f_0 f.params.length c_f_0, .int .i64 f.ret, .slice A_f_2 f.blocks.length c_f_2] 25]) (fun z_ => 0 ≤ z_.1 ∧ z_.1 ≤ f.blocks.length ∧ lastD f = (f.blocks.drop z_.1.toNat).foldl lastB z_.2) ?_ (0, (f.params.length : Int)) ⟨by omega, by omega, rfl⟩
  rintro ⟨i, n⟩ inv ih1
  change WpG _ _ _ _ _ _ [(3, .int .i64 n), (14, .slice A_f_2 f.blocks.length c_f_2), (15, .int .i64 (f.blocks.length : Int)), (16, .int .i64 i)] H [Chunk.box b1 [.slice A_f_0 f.params.length c_f_0, .int .i64 f.ret, .slice A_f_2 f.blocks.length c_f_2] 25] _
  replace inv : 0 ≤ i ∧ i ≤ f.blocks.length ∧ lastD f = (f.blocks.drop i.toNat).foldl lastB n := inv
  obtain ⟨i0, i1, i2⟩ := inv
  refine WpG.go tabOK 5 [(3, .int .i64 n), (14, .slice A_f_2 f.blocks.length c_f_2), (15, .int .i64 (f.blocks.length : Int)), (16, .int .i64 i), (17, .bool (decide (i < (f.blocks.length : Int))))] rfl ⟨rfl, rfl, rfl, rfl, rfl, trivial⟩ ?_
  refine WpG.caseD (t := 17) rfl (fun q17 => ?_) (fun q17 => ?_)
  · refine WpG.go tabOK 6 [(3, .int .i64 n), (14, .slice A_f_2 f.blocks.length c_f_2), (15, .int .i64 (f.blocks.length : Int)), (16, .int .i64 i)] rfl ⟨rfl, rfl, rfl, rfl, trivial⟩ ?_
    refine WpG.indexR tabOK rfl rfl rfl rfl rfl rfl rfl rfl rfl r_f_2 (by omega) (by omega) ?_
    rintro x2 hx2 b2 o2 cs2 rd2 hc2
    have rd2' := rd2; obtain ⟨A2_0, c2_0, A2_1, c2_1, A2_4, c2_4, rfl, u2_0, r2_0, u2_1, r2_1, u2_4, r2_4, k2_0, k2_1⟩ := rd2
    have bp2 := r2_0.1; have bo2 := r2_1.1
    refine WpG.y rfl rfl rfl rfl (RunY.loadH tabOK hc2 (Hp.le.refl _) rfl rfl rfl rfl) ?_
    refine WpG.alloc tabOK rfl rfl rfl rfl rfl (fun b3 => ?_)
    refine WpG.storeBox (ci := 0) (cs' := [.slice A2_0 x2.phis.length c2_0, .slice A2_1 x2.ops.length c2_1, .int .i64 x2.en.kind, .int .i64 x2.en.arg, .slice A2_4 x2.en.to.length c2_4]) tabOK rfl rfl rfl rfl rfl rfl rfl rfl rfl ?_
    refine WpG.setL (L' := [Chunk.box b3 [.slice A2_0 x2.phis.length c2_0, .slice A2_1 x2.ops.length c2_1, .int .i64 x2.en.kind, .int .i64 x2.en.arg, .slice A2_4 x2.en.to.length c2_4] 44, Chunk.box b1 [.slice A_f_0 f.params.length c_f_0, .int .i64 f.ret, .slice A_f_2 f.blocks.length c_f_2] 25]) rfl ?_
    refine WpG.go tabOK 5 [(3, .int .i64 n), (5, .pointer (some ⟨b3, 0, none⟩)), (14, .slice A_f_2 f.blocks.length c_f_2), (15, .int .i64 (f.blocks.length : Int)), (16, .int .i64 i), (20, .pointer (some ⟨b3, 0, none⟩))] rfl ⟨rfl, rfl, rfl, rfl, rfl, rfl, trivial⟩ ?_
    refine WpG.y rfl rfl rfl rfl (RunY.loadBox (ci := 0) tabOK rfl rfl rfl rfl) ?_
    refine WpG.go tabOK 5 [(3, .int .i64 n), (5, .pointer (some ⟨b3, 0, none⟩)), (14, .slice A_f_2 f.blocks.length c_f_2), (15, .int .i64 (f.blocks.length : Int)), (16, .int .i64 i), (21, .slice A2_0 x2.phis.length c2_0), (22, .int .i64 (x2.phis.length : Int)), (23, .int .i64 0)] rfl ⟨rfl, rfl, rfl, rfl, rfl, rfl, rfl, rfl, trivial⟩ ?_
    refine WpG.ind (σ := Int × Int) (fun z_ => (x2.phis.length - z_.1).toNat) (fun z_ => [(3, .int .i64 z_.2), (5, .pointer (some ⟨b3, 0, none⟩)), (14, .slice A_f_2 f.blocks.length c_f_2), (15, .int .i64 (f.blocks.length : Int)), (16, .int .i64 i), (21, .slice A2_0 x2.phis.length c2_0), (22, .int .i64 (x2.phis.length : Int)), (23, .int .i64 z_.1)]) (fun z_ => H) (fun z_ => [Chunk.box b3 [.slice A2_0 x2.phis.length c2_0, .slice A2_1 x2.ops.length c2_1, .int .i64 x2.en.kind, .int .i64 x2.en.arg, .slice A2_4 x2.en.to.length c2_4] 44, Chunk.box b1 [.slice A_f_0 f.params.length c_f_0, .int .i64 f.ret, .slice A_f_2 f.blocks.length c_f_2] 25]) (fun z_ => 0 ≤ z_.1 ∧ z_.1 ≤ x2.phis.length ∧ lastD f = (f.blocks.drop (i + 1).toNat).foldl lastB ((x2.ops.map (·.dst)).foldl mx (((x2.phis.drop z_.1.toNat).map (·.dst)).foldl mx z_.2))) ?_ (0, n) ⟨by omega, by omega, by rw [i2, foldl_step i0 q17 hx2]; rfl⟩
    rintro ⟨j, n2⟩ inv ih2
    change WpG _ _ _ _ _ _ [(3, .int .i64 n2), (5, .pointer (some ⟨b3, 0, none⟩)), (14, .slice A_f_2 f.blocks.length c_f_2), (15, .int .i64 (f.blocks.length : Int)), (16, .int .i64 i), (21, .slice A2_0 x2.phis.length c2_0), (22, .int .i64 (x2.phis.length : Int)), (23, .int .i64 j)] H [Chunk.box b3 [.slice A2_0 x2.phis.length c2_0, .slice A2_1 x2.ops.length c2_1, .int .i64 x2.en.kind, .int .i64 x2.en.arg, .slice A2_4 x2.en.to.length c2_4] 44, Chunk.box b1 [.slice A_f_0 f.params.length c_f_0, .int .i64 f.ret, .slice A_f_2 f.blocks.length c_f_2] 25] _
    replace inv : 0 ≤ j ∧ j ≤ x2.phis.length ∧ lastD f = (f.blocks.drop (i + 1).toNat).foldl lastB ((x2.ops.map (·.dst)).foldl mx (((x2.phis.drop j.toNat).map (·.dst)).foldl mx n2)) := inv
    obtain ⟨j0, j1, j2⟩ := inv
    refine WpG.go tabOK 5 [(3, .int .i64 n2), (5, .pointer (some ⟨b3, 0, none⟩)), (14, .slice A_f_2 f.blocks.length c_f_2), (15, .int .i64 (f.blocks.length : Int)), (16, .int .i64 i), (21, .slice A2_0 x2.phis.length c2_0), (22, .int .i64 (x2.phis.length : Int)), (23, .int .i64 j), (24, .bool (decide (j < (x2.phis.length : Int))))] rfl ⟨rfl, rfl, rfl, rfl, rfl, rfl, rfl, rfl, rfl, trivial⟩ ?_
    refine WpG.caseD (t := 24) rfl (fun q24 => ?_) (fun q24 => ?_)
    · refine WpG.go tabOK 6 [(3, .int .i64 n2), (5, .pointer (some ⟨b3, 0, none⟩)), (14, .slice A_f_2 f.blocks.length c_f_2), (15, .int .i64 (f.blocks.length : Int)), (16, .int .i64 i), (21, .slice A2_0 x2.phis.length c2_0), (22, .int .i64 (x2.phis.length : Int)), (23, .int .i64 j)] rfl ⟨rfl, rfl, rfl, rfl, rfl, rfl, rfl, rfl, trivial⟩ ?_
      refine WpG.indexR tabOK rfl rfl rfl rfl rfl rfl rfl rfl rfl r2_0 (by omega) (by omega) ?_
      rintro x4 hx4 b4 o4 cs4 rd4 hc4
      have rd4' := rd4; obtain ⟨A4_2, c4_2, A4_3, c4_3, rfl, u4_2, r4_2, u4_3, r4_3, k4_0, k4_1⟩ := rd4
      refine WpG.y rfl rfl rfl rfl (RunY.loadH tabOK hc4 (Hp.le.refl _) rfl rfl rfl rfl) ?_
      refine WpG.alloc tabOK rfl rfl rfl rfl rfl (fun b5 => ?_)
      refine WpG.storeBox (ci := 0) (cs' := [.int .i64 x4.bits, .int .i64 x4.dst, .slice A4_2 x4.frm.length c4_2, .slice A4_3 x4.args.length c4_3]) tabOK rfl rfl rfl rfl rfl rfl rfl rfl rfl ?_
      refine WpG.setL (L' := [Chunk.box b5 [.int .i64 x4.bits, .int .i64 x4.dst, .slice A4_2 x4.frm.length c4_2, .slice A4_3 x4.args.length c4_3] 51, Chunk.box b3 [.slice A2_0 x2.phis.length c2_0, .slice A2_1 x2.ops.length c2_1, .int .i64 x2.en.kind, .int .i64 x2.en.arg, .slice A2_4 x2.en.to.length c2_4] 44, Chunk.box b1 [.slice A_f_0 f.params.length c_f_0, .int .i64 f.ret, .slice A_f_2 f.blocks.length c_f_2] 25]) rfl ?_
      refine WpG.go tabOK 4 [(5, .pointer (some ⟨b3, 0, none⟩)), (14, .slice A_f_2 f.blocks.length c_f_2), (15, .int .i64 (f.blocks.length : Int)), (16, .int .i64 i), (21, .slice A2_0 x2.phis.length c2_0), (22, .int .i64 (x2.phis.length : Int)), (23, .int .i64 j), (27, .int .i64 n2), (28, .pointer (some ⟨b5, 1, none⟩))] rfl ⟨rfl, rfl, rfl, rfl, rfl, rfl, rfl, rfl, rfl, trivial⟩ ?_
      refine WpG.y rfl rfl rfl rfl (RunY.loadBox (ci := 0) tabOK rfl rfl rfl rfl) ?_
      refine WpG.go tabOK 6 [(3, .int .i64 (if x4.dst > n2 then x4.dst else n2)), (5, .pointer (some ⟨b3, 0, none⟩)), (14, .slice A_f_2 f.blocks.length c_f_2), (15, .int .i64 (f.blocks.length : Int)), (16, .int .i64 i), (21, .slice A2_0 x2.phis.length c2_0), (22, .int .i64 (x2.phis.length : Int)), (31, .int .i64 (j + 1))] rfl ⟨rfl, rfl, rfl, rfl, rfl, rfl, rfl, (wrk (x := j + 1) (by omega) (by omega)), trivial⟩ ?_
      refine WpG.go tabOK 3 [(3, .int .i64 (if x4.dst > n2 then x4.dst else n2)), (5, .pointer (some ⟨b3, 0, none⟩)), (14, .slice A_f_2 f.blocks.length c_f_2), (15, .int .i64 (f.blocks.length : Int)), (16, .int .i64 i), (21, .slice A2_0 x2.phis.length c2_0), (22, .int .i64 (x2.phis.length : Int)), (23, .int .i64 (j + 1))] rfl ⟨rfl, rfl, rfl, rfl, rfl, rfl, rfl, rfl, trivial⟩ ?_
      refine WpG.dropL (L' := [Chunk.box b3 [.slice A2_0 x2.phis.length c2_0, .slice A2_1 x2.ops.length c2_1, .int .i64 x2.en.kind, .int .i64 x2.en.arg, .slice A2_4 x2.en.to.length c2_4] 44, Chunk.box b1 [.slice A_f_0 f.params.length c_f_0, .int .i64 f.ret, .slice A_f_2 f.blocks.length c_f_2] 25]) (.cons _ (.cons_cons _ (.cons_cons _ .slnil))) ?_
      refine WpG.weaken (G := [(3, .int .i64 (if x4.dst > n2 then x4.dst else n2)), (5, .pointer (some ⟨b3, 0, none⟩)), (14, .slice A_f_2 f.blocks.length c_f_2), (15, .int .i64 (f.blocks.length : Int)), (16, .int .i64 i), (21, .slice A2_0 x2.phis.length c2_0), (22, .int .i64 (x2.phis.length : Int)), (23, .int .i64 (j + 1))]) (Known.all ⟨rfl, rfl, rfl, rfl, rfl, rfl, rfl, rfl, trivial⟩) (ih2 (j + 1, (if x4.dst > n2 then x4.dst else n2)) ?_ ?_)
      · show (x2.phis.length - (j + 1)).toNat < (x2.phis.length - j).toNat
        omega
      · show 0 ≤ (j + 1) ∧ (j + 1) ≤ x2.phis.length ∧ lastD f = (f.blocks.drop (i + 1).toNat).foldl lastB ((x2.ops.map (·.dst)).foldl mx (((x2.phis.drop (j + 1).toNat).map (·.dst)).foldl mx (if x4.dst > n2 then x4.dst else n2)))
        -- back 0 of loop 2, path L1TL2T
        clear ih1 ih2
        exact ⟨by omega, by omega, by rw [j2, foldm_step j0 q24 hx4]; rfl⟩
    · refine WpG.go tabOK 5 [(3, .int .i64 n2), (14, .slice A_f_2 f.blocks.length c_f_2), (15, .int .i64 (f.blocks.length : Int)), (16, .int .i64 i), (32, .pointer (some ⟨b3, 1, none⟩))] rfl ⟨rfl, rfl, rfl, rfl, rfl, trivial⟩ ?_
      refine WpG.y rfl rfl rfl rfl (RunY.loadBox (ci := 0) tabOK rfl rfl rfl rfl) ?_
      refine WpG.go tabOK 5 [(3, .int .i64 n2), (14, .slice A_f_2 f.blocks.length c_f_2), (15, .int .i64 (f.blocks.length : Int)), (16, .int .i64 i), (33, .slice A2_1 x2.ops.length c2_1), (34, .int .i64 (x2.ops.length : Int)), (35, .int .i64 0)] rfl ⟨rfl, rfl, rfl, rfl, rfl, rfl, rfl, trivial⟩ ?_
      refine WpG.ind (σ := Int × Int) (fun z_ => (x2.ops.length - z_.1).toNat) (fun z_ => [(3, .int .i64 z_.2), (14, .slice A_f_2 f.blocks.length c_f_2), (15, .int .i64 (f.blocks.length : Int)), (16, .int .i64 i), (33, .slice A2_1 x2.ops.length c2_1), (34, .int .i64 (x2.ops.length : Int)), (35, .int .i64 z_.1)]) (fun z_ => H) (fun z_ => [Chunk.box b3 [.slice A2_0 x2.phis.length c2_0, .slice A2_1 x2.ops.length c2_1, .int .i64 x2.en.kind, .int .i64 x2.en.arg, .slice A2_4 x2.en.to.length c2_4] 44, Chunk.box b1 [.slice A_f_0 f.params.length c_f_0, .int .i64 f.ret, .slice A_f_2 f.blocks.length c_f_2] 25]) (fun z_ => 0 ≤ z_.1 ∧ z_.1 ≤ x2.ops.length ∧ lastD f = (f.blocks.drop (i + 1).toNat).foldl lastB (((x2.ops.drop z_.1.toNat).map (·.dst)).foldl mx z_.2)) ?_ (0, n2) ⟨by omega, by omega, by rw [j2, drop_end j0 q24]; rfl⟩
      rintro ⟨k, n3⟩ inv ih3
      change WpG _ _ _ _ _ _ [(3, .int .i64 n3), (14, .slice A_f_2 f.blocks.length c_f_2), (15, .int .i64 (f.blocks.length : Int)), (16, .int .i64 i), (33, .slice A2_1 x2.ops.length c2_1), (34, .int .i64 (x2.ops.length : Int)), (35, .int .i64 k)] H [Chunk.box b3 [.slice A2_0 x2.phis.length c2_0, .slice A2_1 x2.ops.length c2_1, .int .i64 x2.en.kind, .int .i64 x2.en.arg, .slice A2_4 x2.en.to.length c2_4] 44, Chunk.box b1 [.slice A_f_0 f.params.length c_f_0, .int .i64 f.ret, .slice A_f_2 f.blocks.length c_f_2] 25] _
      replace inv : 0 ≤ k ∧ k ≤ x2.ops.length ∧ lastD f = (f.blocks.drop (i + 1).toNat).foldl lastB (((x2.ops.drop k.toNat).map (·.dst)).foldl mx n3) := inv
      obtain ⟨k0, k1, k2⟩ := inv
      refine WpG.go tabOK 5 [(3, .int .i64 n3), (14, .slice A_f_2 f.blocks.length c_f_2), (15, .int .i64 (f.blocks.length : Int)), (16, .int .i64 i), (33, .slice A2_1 x2.ops.length c2_1), (34, .int .i64 (x2.ops.length : Int)), (35, .int .i64 k), (36, .bool (decide (k < (x2.ops.length : Int))))] rfl ⟨rfl, rfl, rfl, rfl, rfl, rfl, rfl, rfl, trivial⟩ ?_
      refine WpG.caseD (t := 36) rfl (fun q36 => ?_) (fun q36 => ?_)
      · refine WpG.go tabOK 6 [(3, .int .i64 n3), (14, .slice A_f_2 f.blocks.length c_f_2), (15, .int .i64 (f.blocks.length : Int)), (16, .int .i64 i), (33, .slice A2_1 x2.ops.length c2_1), (34, .int .i64 (x2.ops.length : Int)), (35, .int .i64 k)] rfl ⟨rfl, rfl, rfl, rfl, rfl, rfl, rfl, trivial⟩ ?_
        refine WpG.indexR tabOK rfl rfl rfl rfl rfl rfl rfl rfl rfl r2_1 (by omega) (by omega) ?_
        rintro x6 hx6 b6 o6 cs6 rd6 hc6
        have rd6' := rd6; obtain ⟨A6_4, c6_4, rfl, u6_4, r6_4, k6_0, k6_1, k6_2, k6_3, k6_4⟩ := rd6
        refine WpG.y rfl rfl rfl rfl (RunY.loadH tabOK hc6 (Hp.le.refl _) rfl rfl rfl rfl) ?_
        refine WpG.alloc tabOK rfl rfl rfl rfl rfl (fun b7 => ?_)
        refine WpG.storeBox (ci := 0) (cs' := [.int .i64 x6.kind, .int .i64 x6.bits, .int .i64 x6.lanes, .int .i64 x6.dst, .slice A6_4 x6.args.length c6_4, .int .u64 x6.imm]) tabOK rfl rfl rfl rfl rfl rfl rfl rfl rfl ?_
        refine WpG.setL (L' := [Chunk.box b7 [.int .i64 x6.kind, .int .i64 x6.bits, .int .i64 x6.lanes, .int .i64 x6.dst, .slice A6_4 x6.args.length c6_4, .int .u64 x6.imm] 47, Chunk.box b3 [.slice A2_0 x2.phis.length c2_0, .slice A2_1 x2.ops.length c2_1, .int .i64 x2.en.kind, .int .i64 x2.en.arg, .slice A2_4 x2.en.to.length c2_4] 44, Chunk.box b1 [.slice A_f_0 f.params.length c_f_0, .int .i64 f.ret, .slice A_f_2 f.blocks.length c_f_2] 25]) rfl ?_
        refine WpG.go tabOK 4 [(14, .slice A_f_2 f.blocks.length c_f_2), (15, .int .i64 (f.blocks.length : Int)), (16, .int .i64 i), (33, .slice A2_1 x2.ops.length c2_1), (34, .int .i64 (x2.ops.length : Int)), (35, .int .i64 k), (39, .int .i64 n3), (40, .pointer (some ⟨b7, 3, none⟩))] rfl ⟨rfl, rfl, rfl, rfl, rfl, rfl, rfl, rfl, trivial⟩ ?_
        refine WpG.y rfl rfl rfl rfl (RunY.loadBox (ci := 0) tabOK rfl rfl rfl rfl) ?_
        refine WpG.go tabOK 6 [(3, .int .i64 (if x6.dst > n3 then x6.dst else n3)), (14, .slice A_f_2 f.blocks.length c_f_2), (15, .int .i64 (f.blocks.length : Int)), (16, .int .i64 i), (33, .slice A2_1 x2.ops.length c2_1), (34, .int .i64 (x2.ops.length : Int)), (43, .int .i64 (k + 1))] rfl ⟨rfl, rfl, rfl, rfl, rfl, rfl, (wrk (x := k + 1) (by omega) (by omega)), trivial⟩ ?_
        refine WpG.go tabOK 3 [(3, .int .i64 (if x6.dst > n3 then x6.dst else n3)), (14, .slice A_f_2 f.blocks.length c_f_2), (15, .int .i64 (f.blocks.length : Int)), (16, .int .i64 i), (33, .slice A2_1 x2.ops.length c2_1), (34, .int .i64 (x2.ops.length : Int)), (35, .int .i64 (k + 1))] rfl ⟨rfl, rfl, rfl, rfl, rfl, rfl, rfl, trivial⟩ ?_
        refine WpG.dropL (L' := [Chunk.box b3 [.slice A2_0 x2.phis.length c2_0, .slice A2_1 x2.ops.length c2_1, .int .i64 x2.en.kind, .int .i64 x2.en.arg, .slice A2_4 x2.en.to.length c2_4] 44, Chunk.box b1 [.slice A_f_0 f.params.length c_f_0, .int .i64 f.ret, .slice A_f_2 f.blocks.length c_f_2] 25]) (.cons _ (.cons_cons _ (.cons_cons _ .slnil))) ?_
        refine WpG.weaken (G := [(3, .int .i64 (if x6.dst > n3 then x6.dst else n3)), (14, .slice A_f_2 f.blocks.length c_f_2), (15, .int .i64 (f.blocks.length : Int)), (16, .int .i64 i), (33, .slice A2_1 x2.ops.length c2_1), (34, .int .i64 (x2.ops.length : Int)), (35, .int .i64 (k + 1))]) (Known.all ⟨rfl, rfl, rfl, rfl, rfl, rfl, rfl, trivial⟩) (ih3 (k + 1, (if x6.dst > n3 then x6.dst else n3)) ?_ ?_)
        · show (x2.ops.length - (k + 1)).toNat < (x2.ops.length - k).toNat
          omega
        · show 0 ≤ (k + 1) ∧ (k + 1) ≤ x2.ops.length ∧ lastD f = (f.blocks.drop (i + 1).toNat).foldl lastB (((x2.ops.drop (k + 1).toNat).map (·.dst)).foldl mx (if x6.dst > n3 then x6.dst else n3))
          -- back 0 of loop 3, path L1TL2FL3T
          clear ih1 ih2 ih3
          exact ⟨by omega, by omega, by rw [k2, foldm_step k0 q36 hx6]; rfl⟩
      · refine WpG.go tabOK 5 [(3, .int .i64 n3), (14, .slice A_f_2 f.blocks.length c_f_2), (15, .int .i64 (f.blocks.length : Int)), (44, .int .i64 (i + 1))] rfl ⟨rfl, rfl, rfl, (wrk (x := i + 1) (by omega) (by omega)), trivial⟩ ?_
        refine WpG.go tabOK 3 [(3, .int .i64 n3), (14, .slice A_f_2 f.blocks.length c_f_2), (15, .int .i64 (f.blocks.length : Int)), (16, .int .i64 (i + 1))] rfl ⟨rfl, rfl, rfl, rfl, trivial⟩ ?_
        refine WpG.dropL (L' := [Chunk.box b1 [.slice A_f_0 f.params.length c_f_0, .int .i64 f.ret, .slice A_f_2 f.blocks.length c_f_2] 25]) (.cons _ (.cons_cons _ .slnil)) ?_
        refine WpG.weaken (G := [(3, .int .i64 n3), (14, .slice A_f_2 f.blocks.length c_f_2), (15, .int .i64 (f.blocks.length : Int)), (16, .int .i64 (i + 1))]) (Known.all ⟨rfl, rfl, rfl, rfl, trivial⟩) (ih1 (i + 1, n3) ?_ ?_)
        · show (f.blocks.length - (i + 1)).toNat < (f.blocks.length - i).toNat
          omega
        · show 0 ≤ (i + 1) ∧ (i + 1) ≤ f.blocks.length ∧ lastD f = (f.blocks.drop (i + 1).toNat).foldl lastB n3
          -- back 0 of loop 1, path L1TL2FL3F
          clear ih1 ih2 ih3
          exact ⟨by omega, by omega, by rw [k2, drop_end k0 q36]; rfl⟩
  · refine WpG.go tabOK 7 [(2, .int .i64 n)] rfl ⟨rfl, trivial⟩ ?_
    -- return 0, path L1F
    exact WpG.ret tabOK (L' := []) (.tmp rfl .nil) (.cons _ .slnil) ⟨congrArg (Value.int .i64) (by clear ih1; rw [i2, drop_end i0 q17]; rfl), rfl⟩

theorem Shapes_calls {H : Hp} {f : FuncD} {A_f_0 A_f_2 : Option Addr} {c_f_0 c_f_2 : Nat} (u_f_0 : f.params.length ≤ c_f_0) (r_f_0 : RdS H A_f_0 f.params) (u_f_2 : f.blocks.length ≤ c_f_2) (r_f_2 : RdS H A_f_2 f.blocks) (k_f_0 : I64 f.ret) : CallG Tryz.prog 14 [.agg #[.slice A_f_0 f.params.length c_f_0, .int .i64 f.ret, .slice A_f_2 f.blocks.length c_f_2]] H [] (fun v H' L' => ∃ e, CodeIs f 2 e ∧ ((e ≠ 0 ∧ v = .map none ∧ L' = []) ∨ (e = 0 ∧ ∃ ms mb ss, defsD f = some ms ∧ v = .map (some mb) ∧ ShapeMap ms ss ∧ L' = [Chunk.imap mb (encm prv ss)]))) := by
  have rd_f' : Rdc.rd H [.slice A_f_0 f.params.length c_f_0, .int .i64 f.ret, .slice A_f_2 f.blocks.length c_f_2] f := ⟨_, _, _, _, rfl, u_f_0, r_f_0, u_f_2, r_f_2, k_f_0⟩
  have bs := r_f_2.1; have bsp := r_f_0.1
  refine CallG.of Tryz.func14 rfl rfl rfl fun w0 => ?_
  change WpG _ _ _ _ _ _ [(0, .agg #[.slice A_f_0 f.params.length c_f_0, .int .i64 f.ret, .slice A_f_2 f.blocks.length c_f_2])] _ _ _
  refine WpG.go tabOK 2 [(0, .agg #[.slice A_f_0 f.params.length c_f_0, .int .i64 f.ret, .slice A_f_2 f.blocks.length c_f_2])] rfl ⟨rfl, trivial⟩ ?_
  refine WpG.box rfl rfl rfl rfl rfl (fun b1 => ?_)
  refine WpG.go tabOK 4 [(1, .pointer (some ⟨b1, 0, none⟩))] rfl ⟨rfl, trivial⟩ ?_
  refine WpG.y rfl rfl rfl rfl (RunY.loadBox (ci := 0) tabOK rfl rfl rfl rfl) ?_
  refine WpG.call0 rfl rfl rfl rfl rfl rfl (Look_calls u_f_0 r_f_0 u_f_2 r_f_2 k_f_0 2) ?_
  rintro _ H2 L1 hH2 ⟨e2, p2, rfl, hce, hL⟩
  by_cases he : e2 = 0
  · obtain ⟨b, mb, ms, v0, v1, v2, v3, v4, v5, v6, rfl, hdf, rfl⟩ := hL he
    subst he
    refine WpG.setL (L' := [Chunk.imap mb (encm dv ms), Chunk.box b [v0, v1, v2, v3, v4, v5, v6, .map (some mb)] 72, Chunk.box b1 [.slice A_f_0 f.params.length c_f_0, .int .i64 f.ret, .slice A_f_2 f.blocks.length c_f_2] 25]) rfl ?_
    have hkeys := defs_keys hdf
    refine WpG.go tabOK 16 [(3, .pointer (some ⟨b, 0, none⟩))] rfl ⟨rfl, trivial⟩ ?_
    refine WpG.makeMap rfl rfl rfl (fun b3 => ?_)
    refine WpG.setL (L' := [Chunk.imap b3 (encm prv []), Chunk.imap mb (encm dv ms), Chunk.box b [v0, v1, v2, v3, v4, v5, v6, .map (some mb)] 72, Chunk.box b1 [.slice A_f_0 f.params.length c_f_0, .int .i64 f.ret, .slice A_f_2 f.blocks.length c_f_2] 25]) rfl ?_
    refine WpG.go tabOK 8 [(5, .map (some b3)), (18, .pointer (some ⟨b, 7, none⟩))] rfl ⟨rfl, rfl, trivial⟩ ?_
    refine WpG.y rfl rfl rfl rfl (RunY.loadBox (ci := 2) tabOK rfl rfl rfl rfl) ?_
    refine WpG.range (ci := 1) tabOK rfl rfl rfl rfl rfl rfl rfl (fun s4 => ?_)
    refine WpG.setL (L' := [Chunk.iter s4 mb (encm dv ms).length [], Chunk.imap b3 (encm prv []), Chunk.imap mb (encm dv ms), Chunk.box b [v0, v1, v2, v3, v4, v5, v6, .map (some mb)] 72, Chunk.box b1 [.slice A_f_0 f.params.length c_f_0, .int .i64 f.ret, .slice A_f_2 f.blocks.length c_f_2] 25]) rfl ?_
    refine WpG.go tabOK 3 [(5, .map (some b3)), (20, .pointer (some ⟨s4, 0, none⟩))] rfl ⟨rfl, rfl, trivial⟩ ?_
    refine WpG.ind (σ := List Nat × (List (Int × (Int × Int)))) (fun z_ => ms.length - z_.1.length) (fun z_ => [(5, .map (some b3)), (20, .pointer (some ⟨s4, 0, none⟩))]) (fun z_ => H2) (fun z_ => [Chunk.iter s4 mb (encm dv ms).length z_.1, Chunk.imap b3 (encm prv z_.2), Chunk.imap mb (encm dv ms), Chunk.box b [v0, v1, v2, v3, v4, v5, v6, .map (some mb)] 72, Chunk.box b1 [.slice A_f_0 f.params.length c_f_0, .int .i64 f.ret, .slice A_f_2 f.blocks.length c_f_2] 25]) (fun z_ => Seen ms z_.1 z_.2) ?_ ([], []) (Seen.start ms)
    rintro ⟨seen, ss⟩ inv ih1
    change WpG _ _ _ _ _ _ [(5, .map (some b3)), (20, .pointer (some ⟨s4, 0, none⟩))] H2 [Chunk.iter s4 mb (encm dv ms).length seen, Chunk.imap b3 (encm prv ss), Chunk.imap mb (encm dv ms), Chunk.box b [v0, v1, v2, v3, v4, v5, v6, .map (some mb)] 72, Chunk.box b1 [.slice A_f_0 f.params.length c_f_0, .int .i64 f.ret, .slice A_f_2 f.blocks.length c_f_2] 25] _
    replace inv : Seen ms seen ss := inv
    have hsn : Seen ms seen ss := inv
    refine WpG.go tabOK 2 [(5, .map (some b3)), (20, .pointer (some ⟨s4, 0, none⟩))] rfl ⟨rfl, rfl, trivial⟩ ?_
    refine WpG.step (OpG.next (ci := 0) (cj := 2) rfl rfl rfl rfl rfl rfl) ?_
    rintro F1 H1 L1 ⟨eH, (⟨eF, eL, hall⟩ | ⟨jx, kx, vx, hjx, hns, eF, eL⟩)⟩
    · subst eF; subst eL; rw [eH]; clear eH H1
      refine WpG.go tabOK 10 [(2, .map (some b3))] rfl ⟨rfl, trivial⟩ ?_
      -- return 0, path zL1e
      exact WpG.ret tabOK (L' := [Chunk.imap b3 (encm prv ss)]) (.tmp rfl .nil) (.cons _ (.cons_cons _ (.cons _ (.cons _ (.cons _ .slnil))))) ⟨0, hce, .inr ⟨rfl, ms, b3, ss, hdf, rfl, hsn.all hkeys hall, rfl⟩⟩
    · subst eF; subst eL; rw [eH]; clear eH H1
      obtain ⟨dx, hdx, rfl⟩ := encm_at hjx
      refine WpG.setL (L' := [Chunk.iter s4 mb (encm dv ms).length (seen ++ [jx]), Chunk.imap b3 (encm prv ss), Chunk.imap mb (encm dv ms), Chunk.box b [v0, v1, v2, v3, v4, v5, v6, .map (some mb)] 72, Chunk.box b1 [.slice A_f_0 f.params.length c_f_0, .int .i64 f.ret, .slice A_f_2 f.blocks.length c_f_2] 25]) rfl ?_
      refine WpG.go tabOK 8 [(5, .map (some b3)), (20, .pointer (some ⟨s4, 0, none⟩))] rfl ⟨rfl, rfl, trivial⟩ ?_
      refine WpG.y rfl rfl rfl rfl (RunY.entry (ci := 0) (cj := 2) rfl rfl rfl hjx) ?_
      refine WpG.go tabOK 2 [(5, .map (some b3)), (20, .pointer (some ⟨s4, 0, none⟩)), (24, .int .i64 kx), (25, .agg #[.int .i64 dx.blk, .int .i64 dx.pos, .int .i64 dx.bits, .int .i64 dx.lanes])] rfl ⟨rfl, rfl, rfl, rfl, trivial⟩ ?_
      refine WpG.alloc tabOK rfl rfl rfl rfl rfl (fun b5 => ?_)
      refine WpG.go tabOK 1 [(5, .map (some b3)), (6, .int .i64 kx), (7, .pointer (some ⟨b5, 0, none⟩)), (20, .pointer (some ⟨s4, 0, none⟩)), (25, .agg #[.int .i64 dx.blk, .int .i64 dx.pos, .int .i64 dx.bits, .int .i64 dx.lanes])] rfl ⟨rfl, rfl, rfl, rfl, rfl, trivial⟩ ?_
      refine WpG.storeBox (ci := 0) (cs' := [.int .i64 dx.blk, .int .i64 dx.pos, .int .i64 dx.bits, .int .i64 dx.lanes]) tabOK rfl rfl rfl rfl rfl rfl rfl rfl rfl ?_
      refine WpG.setL (L' := [Chunk.box b5 [.int .i64 dx.blk, .int .i64 dx.pos, .int .i64 dx.bits, .int .i64 dx.lanes] 74, Chunk.iter s4 mb (encm dv ms).length (seen ++ [jx]), Chunk.imap b3 (encm prv ss), Chunk.imap mb (encm dv ms), Chunk.box b [v0, v1, v2, v3, v4, v5, v6, .map (some mb)] 72, Chunk.box b1 [.slice A_f_0 f.params.length c_f_0, .int .i64 f.ret, .slice A_f_2 f.blocks.length c_f_2] 25]) rfl ?_
      refine WpG.go tabOK 5 [(5, .map (some b3)), (20, .pointer (some ⟨s4, 0, none⟩)), (26, .map (some b3)), (27, .int .i64 kx), (28, .pointer (some ⟨b5, 2, none⟩))] rfl ⟨rfl, rfl, rfl, rfl, rfl, trivial⟩ ?_
      refine WpG.y rfl rfl rfl rfl (RunY.loadBox (ci := 0) tabOK rfl rfl rfl rfl) ?_
      refine WpG.mapUpdate (ci := 2) tabOK rfl (.inl rfl) rfl rfl rfl rfl rfl rfl rfl rfl rfl rfl ?_
      refine WpG.setL (L' := [Chunk.box b5 [.int .i64 dx.blk, .int .i64 dx.pos, .int .i64 dx.bits, .int .i64 dx.lanes] 74, Chunk.iter s4 mb (encm dv ms).length (seen ++ [jx]), Chunk.imap b3 (encm prv (mput ss kx (dx.bits, dx.lanes))), Chunk.imap mb (encm dv ms), Chunk.box b [v0, v1, v2, v3, v4, v5, v6, .map (some mb)] 72, Chunk.box b1 [.slice A_f_0 f.params.length c_f_0, .int .i64 f.ret, .slice A_f_2 f.blocks.length c_f_2] 25]) (by rw [encm_put prv ss kx (dx.bits, dx.lanes)]; rfl) ?_
      refine WpG.go tabOK 3 [(5, .map (some b3)), (20, .pointer (some ⟨s4, 0, none⟩))] rfl ⟨rfl, rfl, trivial⟩ ?_
      refine WpG.dropL (L' := [Chunk.iter s4 mb (encm dv ms).length (seen ++ [jx]), Chunk.imap b3 (encm prv (mput ss kx (dx.bits, dx.lanes))), Chunk.imap mb (encm dv ms), Chunk.box b [v0, v1, v2, v3, v4, v5, v6, .map (some mb)] 72, Chunk.box b1 [.slice A_f_0 f.params.length c_f_0, .int .i64 f.ret, .slice A_f_2 f.blocks.length c_f_2] 25]) (.cons _ (.cons_cons _ (.cons_cons _ (.cons_cons _ (.cons_cons _ (.cons_cons _ .slnil)))))) ?_
      refine WpG.weaken (G := [(5, .map (some b3)), (20, .pointer (some ⟨s4, 0, none⟩))]) (Known.all ⟨rfl, rfl, trivial⟩) (ih1 (seen ++ [jx], mput ss kx (dx.bits, dx.lanes)) ?_ ?_)
      · show ms.length - (seen ++ [jx]).length < ms.length - seen.length
        have h1 := (hsn.step hkeys hdx hns).lt
        simp only [List.length_append, List.length_cons, List.length_nil] at h1 ⊢
        omega
      · show Seen ms (seen ++ [jx]) (mput ss kx (dx.bits, dx.lanes))
        -- back 0 of loop 1, path zL1m
        clear ih1
        exact hsn.step hkeys hdx hns
  · refine WpG.dropL (L' := [Chunk.box b1 [.slice A_f_0 f.params.length c_f_0, .int .i64 f.ret, .slice A_f_2 f.blocks.length c_f_2] 25]) (List.sublist_append_right ..) ?_
    refine WpG.go tabOK 12 [(3, .pointer p2), (14, .bool (e2 != 0))] rfl ⟨rfl, rfl, trivial⟩ ?_
    refine WpG.caseN (t := 14) rfl (fun q14 => ?_) (fun q14 => ?_)
    · refine WpG.go tabOK 5 [(2, .map none)] rfl ⟨rfl, trivial⟩ ?_
      -- return 1, path nT
      exact WpG.ret tabOK (L' := []) (.tmp rfl .nil) (.cons _ .slnil) ⟨_, hce, .inl ⟨q14, rfl, rfl⟩⟩
    · exact absurd q14 he
end Go.Proofs.YtdjemlkllbhdlaaGreat

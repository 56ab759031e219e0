/- The walks of laws: levels. -/
import Derived.Test.YtdjemlkllbhdlaaGreatT20
set_option linter.unusedVariables false
set_option linter.unusedSimpArgs false
namespace Go.Proofs.YtdjemlkllbhdlaaGreat
open Go Go.RowKit
theorem CheckLevels_calls {H : Hp} {f : FuncD} {A_f_0 A_f_2 : Option Addr} {c_f_0 c_f_2 : Nat} (u_f_0 : f.params.length ≤ c_f_0) (r_f_0 : RdS H A_f_0 f.params) (u_f_2 : f.blocks.length ≤ c_f_2) (r_f_2 : RdS H A_f_2 f.blocks) (k_f_0 : I64 f.ret) : CallG Tryz.prog 4 [.agg #[.slice A_f_0 f.params.length c_f_0, .int .i64 f.ret, .slice A_f_2 f.blocks.length c_f_2]] H [] (fun v _ L' => v = .bool (true) ∧ L' = []) := by
  have rd_f' : Rdc.rd H [.slice A_f_0 f.params.length c_f_0, .int .i64 f.ret, .slice A_f_2 f.blocks.length c_f_2] f := ⟨_, _, _, _, rfl, u_f_0, r_f_0, u_f_2, r_f_2, k_f_0⟩
  have bs := r_f_2.1; have bsp := r_f_0.1
  refine CallG.of Tryz.func4 rfl rfl rfl fun w0 => ?_
  change WpG _ _ _ _ _ _ [(0, .agg #[.slice A_f_0 f.params.length c_f_0, .int .i64 f.ret, .slice A_f_2 f.blocks.length c_f_2])] _ _ _
  refine WpG.go tabOK 2 [(0, .agg #[.slice A_f_0 f.params.length c_f_0, .int .i64 f.ret, .slice A_f_2 f.blocks.length c_f_2])] rfl ⟨rfl, trivial⟩ ?_
  refine WpG.box rfl rfl rfl rfl rfl (fun b1 => ?_)
  refine WpG.go tabOK 5 [(1, .pointer (some ⟨b1, 0, none⟩))] rfl ⟨rfl, trivial⟩ ?_
  refine WpG.callS rfl rfl rfl rfl rfl rfl (Hp.le.refl _) (awake_calls) ?_
  refine WpG.go tabOK 7 [(1, .pointer (some ⟨b1, 0, none⟩))] rfl ⟨rfl, trivial⟩ ?_
  refine WpG.y rfl rfl rfl rfl (RunY.loadBox (ci := 0) tabOK rfl rfl rfl rfl) ?_
  refine WpG.call0 rfl rfl rfl rfl rfl rfl (Small_calls u_f_0 (r_f_0.mono (Hp.le.refl _)) u_f_2 (r_f_2.mono (Hp.le.refl _)) k_f_0) ?_
  rintro _ H2 _ hH2 ⟨bs2, rfl, hs2, rfl⟩
  refine WpG.setL (L' := [Chunk.box b1 [.slice A_f_0 f.params.length c_f_0, .int .i64 f.ret, .slice A_f_2 f.blocks.length c_f_2] 25]) rfl ?_
  refine WpG.go tabOK 2 [(1, .pointer (some ⟨b1, 0, none⟩)), (14, .bool (!bs2))] rfl ⟨rfl, rfl, trivial⟩ ?_
  refine WpG.caseBn (t := 14) rfl (fun q14 => ?_) (fun q14 => ?_)
  · refine WpG.go tabOK 5 [(2, .bool true)] rfl ⟨rfl, trivial⟩ ?_
    -- return 0, path T
    exact WpG.ret tabOK (L' := []) (.tmp rfl .nil) (.cons _ .slnil) ⟨rfl, rfl⟩
  · refine WpG.go tabOK 4 [(1, .pointer (some ⟨b1, 0, none⟩))] rfl ⟨rfl, trivial⟩ ?_
    refine WpG.y rfl rfl rfl rfl (RunY.loadBox (ci := 0) tabOK rfl rfl rfl rfl) ?_
    refine WpG.call0 rfl rfl rfl rfl rfl rfl (Check_calls u_f_0 (r_f_0.mono hH2) u_f_2 (r_f_2.mono hH2) k_f_0 0) ?_
    rintro _ H3 _ hH3 ⟨e3, rfl, hc3, rfl⟩
    refine WpG.setL (L' := [Chunk.box b1 [.slice A_f_0 f.params.length c_f_0, .int .i64 f.ret, .slice A_f_2 f.blocks.length c_f_2] 25]) rfl ?_
    replace hc3 := check_at hc3 (by decide) (by decide)
    refine WpG.go tabOK 4 [(1, .pointer (some ⟨b1, 0, none⟩)), (3, .int .i64 e3)] rfl ⟨rfl, rfl, trivial⟩ ?_
    refine WpG.y rfl rfl rfl rfl (RunY.loadBox (ci := 0) tabOK rfl rfl rfl rfl) ?_
    refine WpG.call0 rfl rfl rfl rfl rfl rfl (Check_calls u_f_0 (r_f_0.mono (hH2.trans hH3)) u_f_2 (r_f_2.mono (hH2.trans hH3)) k_f_0 1) ?_
    rintro _ H4 _ hH4 ⟨e4, rfl, hc4, rfl⟩
    refine WpG.setL (L' := [Chunk.box b1 [.slice A_f_0 f.params.length c_f_0, .int .i64 f.ret, .slice A_f_2 f.blocks.length c_f_2] 25]) rfl ?_
    replace hc4 := check_at hc4 (by decide) (by decide)
    refine WpG.go tabOK 4 [(1, .pointer (some ⟨b1, 0, none⟩)), (3, .int .i64 e3), (4, .int .i64 e4)] rfl ⟨rfl, rfl, rfl, trivial⟩ ?_
    refine WpG.y rfl rfl rfl rfl (RunY.loadBox (ci := 0) tabOK rfl rfl rfl rfl) ?_
    refine WpG.call0 rfl rfl rfl rfl rfl rfl (Check_calls u_f_0 (r_f_0.mono ((hH2.trans hH3).trans hH4)) u_f_2 (r_f_2.mono ((hH2.trans hH3).trans hH4)) k_f_0 2) ?_
    rintro _ H5 _ hH5 ⟨e5, rfl, hc5, rfl⟩
    refine WpG.setL (L' := [Chunk.box b1 [.slice A_f_0 f.params.length c_f_0, .int .i64 f.ret, .slice A_f_2 f.blocks.length c_f_2] 25]) rfl ?_
    replace hc5 := check_at hc5 (by decide) (by decide)
    have h01 := levels_up hc3 hc4 (by decide)
    have h12 := levels_up hc4 hc5 (by decide)
    have hpl := levels_plain hc3 hc5
    refine WpG.go tabOK 8 [(1, .pointer (some ⟨b1, 0, none⟩)), (3, .int .i64 e3), (4, .int .i64 e4), (5, .int .i64 e5), (23, .bool (e3 == 0))] rfl ⟨rfl, rfl, rfl, rfl, rfl, trivial⟩ ?_
    refine WpG.caseE (t := 23) rfl (fun q23 => ?_) (fun q23 => ?_)
    · refine WpG.go tabOK 4 [(1, .pointer (some ⟨b1, 0, none⟩)), (3, .int .i64 e3), (4, .int .i64 e4), (5, .int .i64 e5), (27, .bool (e4 != 0))] rfl ⟨rfl, rfl, rfl, rfl, rfl, trivial⟩ ?_
      refine WpG.caseN (t := 27) rfl (fun q27 => ?_) (fun q27 => ?_)
      · refine WpG.go tabOK 13 [(2, .bool false)] rfl ⟨rfl, trivial⟩ ?_
        -- return 1, path FTT
        exact WpG.ret tabOK (L' := []) (.tmp rfl .nil) (.cons _ .slnil) (absurd (h01 q23) q27)
      · refine WpG.go tabOK 3 [(1, .pointer (some ⟨b1, 0, none⟩)), (3, .int .i64 e3), (5, .int .i64 e5), (27, .bool false), (30, .bool (e4 == 0))] rfl ⟨rfl, rfl, rfl, rfl, rfl, trivial⟩ ?_
        refine WpG.caseE (t := 30) rfl (fun q30 => ?_) (fun q30 => ?_)
        · refine WpG.go tabOK 5 [(1, .pointer (some ⟨b1, 0, none⟩)), (3, .int .i64 e3), (5, .int .i64 e5), (34, .bool (e5 != 0))] rfl ⟨rfl, rfl, rfl, rfl, trivial⟩ ?_
          refine WpG.caseN (t := 34) rfl (fun q34 => ?_) (fun q34 => ?_)
          · refine WpG.go tabOK 5 [(2, .bool false)] rfl ⟨rfl, trivial⟩ ?_
            -- return 2, path FTFTT
            exact WpG.ret tabOK (L' := []) (.tmp rfl .nil) (.cons _ .slnil) (absurd (h12 q30) q34)
          · refine WpG.go tabOK 13 [(1, .pointer (some ⟨b1, 0, none⟩)), (3, .int .i64 e3), (5, .int .i64 e5), (6, .bool true), (7, .int .i64 0)] rfl ⟨rfl, rfl, rfl, rfl, rfl, trivial⟩ ?_
            refine WpG.ind (σ := Int × Bool) (fun z_ => (f.blocks.length - z_.1).toNat) (fun z_ => [(1, .pointer (some ⟨b1, 0, none⟩)), (3, .int .i64 e3), (5, .int .i64 e5), (6, .bool z_.2), (7, .int .i64 z_.1)]) (fun z_ => H5) (fun z_ => [Chunk.box b1 [.slice A_f_0 f.params.length c_f_0, .int .i64 f.ret, .slice A_f_2 f.blocks.length c_f_2] 25]) (fun z_ => 0 ≤ z_.1 ∧ z_.1 ≤ f.blocks.length ∧ plainD f = (z_.2 && (f.blocks.drop z_.1.toNat).all fun b => b.ops.all plainO)) ?_ (0, true) ⟨by omega, by omega, rfl⟩
            rintro ⟨i, p⟩ inv ih1
            change WpG _ _ _ _ _ _ [(1, .pointer (some ⟨b1, 0, none⟩)), (3, .int .i64 e3), (5, .int .i64 e5), (6, .bool p), (7, .int .i64 i)] H5 [Chunk.box b1 [.slice A_f_0 f.params.length c_f_0, .int .i64 f.ret, .slice A_f_2 f.blocks.length c_f_2] 25] _
            replace inv : 0 ≤ i ∧ i ≤ f.blocks.length ∧ plainD f = (p && (f.blocks.drop i.toNat).all fun b => b.ops.all plainO) := inv
            obtain ⟨i0, i1, i2⟩ := inv
            refine WpG.go tabOK 5 [(1, .pointer (some ⟨b1, 0, none⟩)), (3, .int .i64 e3), (5, .int .i64 e5), (6, .bool p), (7, .int .i64 i), (35, .int .i64 i), (36, .pointer (some ⟨b1, 2, none⟩))] rfl ⟨rfl, rfl, rfl, rfl, rfl, rfl, rfl, trivial⟩ ?_
            refine WpG.y rfl rfl rfl rfl (RunY.loadBox (ci := 0) tabOK rfl rfl rfl rfl) ?_
            refine WpG.go tabOK 3 [(1, .pointer (some ⟨b1, 0, none⟩)), (3, .int .i64 e3), (5, .int .i64 e5), (6, .bool p), (7, .int .i64 i), (39, .bool (decide (i < (f.blocks.length : Int))))] rfl ⟨rfl, rfl, rfl, rfl, rfl, rfl, trivial⟩ ?_
            refine WpG.caseD (t := 39) rfl (fun q39 => ?_) (fun q39 => ?_)
            · refine WpG.go tabOK 10 [(1, .pointer (some ⟨b1, 0, none⟩)), (3, .int .i64 e3), (5, .int .i64 e5), (6, .bool p), (7, .int .i64 i), (8, .int .i64 0)] rfl ⟨rfl, rfl, rfl, rfl, rfl, rfl, trivial⟩ ?_
              refine WpG.ind (σ := Int × Bool) (fun z_ => ((nth f.blocks i).ops.length - z_.1).toNat) (fun z_ => [(1, .pointer (some ⟨b1, 0, none⟩)), (3, .int .i64 e3), (5, .int .i64 e5), (6, .bool z_.2), (7, .int .i64 i), (8, .int .i64 z_.1)]) (fun z_ => H5) (fun z_ => [Chunk.box b1 [.slice A_f_0 f.params.length c_f_0, .int .i64 f.ret, .slice A_f_2 f.blocks.length c_f_2] 25]) (fun z_ => 0 ≤ z_.1 ∧ z_.1 ≤ (nth f.blocks i).ops.length ∧ plainD f = (z_.2 && (((nth f.blocks i).ops.drop z_.1.toNat).all plainO && (f.blocks.drop (i + 1).toNat).all fun b => b.ops.all plainO))) ?_ (0, p) ⟨by omega, by omega, by rw [i2, drop_nth i0 q39, toNat_succ i0]; rfl⟩
              rintro ⟨k, p2⟩ inv ih2
              change WpG _ _ _ _ _ _ [(1, .pointer (some ⟨b1, 0, none⟩)), (3, .int .i64 e3), (5, .int .i64 e5), (6, .bool p2), (7, .int .i64 i), (8, .int .i64 k)] H5 [Chunk.box b1 [.slice A_f_0 f.params.length c_f_0, .int .i64 f.ret, .slice A_f_2 f.blocks.length c_f_2] 25] _
              replace inv : 0 ≤ k ∧ k ≤ (nth f.blocks i).ops.length ∧ plainD f = (p2 && (((nth f.blocks i).ops.drop k.toNat).all plainO && (f.blocks.drop (i + 1).toNat).all fun b => b.ops.all plainO)) := inv
              obtain ⟨k0, k1, k2⟩ := inv
              refine WpG.go tabOK 5 [(1, .pointer (some ⟨b1, 0, none⟩)), (3, .int .i64 e3), (5, .int .i64 e5), (6, .bool p2), (7, .int .i64 i), (8, .int .i64 k), (42, .int .i64 k), (43, .pointer (some ⟨b1, 2, none⟩))] rfl ⟨rfl, rfl, rfl, rfl, rfl, rfl, rfl, rfl, trivial⟩ ?_
              refine WpG.y rfl rfl rfl rfl (RunY.loadBox (ci := 0) tabOK rfl rfl rfl rfl) ?_
              refine WpG.go tabOK 1 [(1, .pointer (some ⟨b1, 0, none⟩)), (3, .int .i64 e3), (5, .int .i64 e5), (6, .bool p2), (7, .int .i64 i), (8, .int .i64 k), (42, .int .i64 k), (44, .slice A_f_2 f.blocks.length c_f_2), (45, .int .i64 i)] rfl ⟨rfl, rfl, rfl, rfl, rfl, rfl, rfl, rfl, rfl, trivial⟩ ?_
              refine WpG.indexR tabOK rfl rfl rfl rfl rfl rfl rfl rfl rfl r_f_2 (by omega) (by omega) ?_
              rintro x6 hx6 b6 o6 cs6 rd6 hc6
              have rd6' := rd6; obtain ⟨A6_0, c6_0, A6_1, c6_1, A6_4, c6_4, rfl, u6_0, r6_0, u6_1, r6_1, u6_4, r6_4, k6_0, k6_1⟩ := rd6
              have bz6_0 := r6_0.1
              have bz6_1 := r6_1.1
              have bz6_4 := r6_4.1
              obtain rfl : x6 = (nth f.blocks i) := hx6
              refine WpG.go tabOK 1 [(1, .pointer (some ⟨b1, 0, none⟩)), (3, .int .i64 e3), (5, .int .i64 e5), (6, .bool p2), (7, .int .i64 i), (8, .int .i64 k), (42, .int .i64 k), (47, .pointer (some ⟨b6, (o6 + 1), none⟩))] rfl ⟨rfl, rfl, rfl, rfl, rfl, rfl, rfl, rfl, trivial⟩ ?_
              refine WpG.y rfl rfl rfl rfl (RunY.loadH tabOK (hc6.sub 1 1) (((hH2.trans hH3).trans hH4).trans hH5) rfl rfl rfl rfl) ?_
              refine WpG.go tabOK 3 [(1, .pointer (some ⟨b1, 0, none⟩)), (3, .int .i64 e3), (5, .int .i64 e5), (6, .bool p2), (7, .int .i64 i), (8, .int .i64 k), (50, .bool (decide (k < ((nth f.blocks i).ops.length : Int))))] rfl ⟨rfl, rfl, rfl, rfl, rfl, rfl, rfl, trivial⟩ ?_
              refine WpG.caseD (t := 50) rfl (fun q50 => ?_) (fun q50 => ?_)
              · refine WpG.go tabOK 7 [(1, .pointer (some ⟨b1, 0, none⟩)), (3, .int .i64 e3), (5, .int .i64 e5), (6, .bool p2), (7, .int .i64 i), (8, .int .i64 k), (53, .pointer (some ⟨b1, 2, none⟩))] rfl ⟨rfl, rfl, rfl, rfl, rfl, rfl, rfl, trivial⟩ ?_
                refine WpG.y rfl rfl rfl rfl (RunY.loadBox (ci := 0) tabOK rfl rfl rfl rfl) ?_
                refine WpG.go tabOK 1 [(1, .pointer (some ⟨b1, 0, none⟩)), (3, .int .i64 e3), (5, .int .i64 e5), (6, .bool p2), (7, .int .i64 i), (8, .int .i64 k), (54, .slice A_f_2 f.blocks.length c_f_2), (55, .int .i64 i)] rfl ⟨rfl, rfl, rfl, rfl, rfl, rfl, rfl, rfl, trivial⟩ ?_
                refine WpG.indexR tabOK rfl rfl rfl rfl rfl rfl rfl rfl rfl r_f_2 (by omega) (by omega) ?_
                rintro x7 hx7 b7 o7 cs7 rd7 hc7
                have rd7' := rd7; obtain ⟨A7_0, c7_0, A7_1, c7_1, A7_4, c7_4, rfl, u7_0, r7_0, u7_1, r7_1, u7_4, r7_4, k7_0, k7_1⟩ := rd7
                have bz7_0 := r7_0.1
                have bz7_1 := r7_1.1
                have bz7_4 := r7_4.1
                obtain rfl : x7 = (nth f.blocks i) := hx7
                refine WpG.go tabOK 1 [(1, .pointer (some ⟨b1, 0, none⟩)), (3, .int .i64 e3), (5, .int .i64 e5), (6, .bool p2), (7, .int .i64 i), (8, .int .i64 k), (57, .pointer (some ⟨b7, (o7 + 1), none⟩))] rfl ⟨rfl, rfl, rfl, rfl, rfl, rfl, rfl, trivial⟩ ?_
                refine WpG.y rfl rfl rfl rfl (RunY.loadH tabOK (hc7.sub 1 1) (((hH2.trans hH3).trans hH4).trans hH5) rfl rfl rfl rfl) ?_
                refine WpG.go tabOK 1 [(1, .pointer (some ⟨b1, 0, none⟩)), (3, .int .i64 e3), (5, .int .i64 e5), (6, .bool p2), (7, .int .i64 i), (8, .int .i64 k), (58, .slice A7_1 ((nth f.blocks i).ops.length) c7_1), (59, .int .i64 k)] rfl ⟨rfl, rfl, rfl, rfl, rfl, rfl, rfl, rfl, trivial⟩ ?_
                refine WpG.indexR tabOK rfl rfl rfl rfl rfl rfl rfl rfl rfl r7_1 (by omega) (by omega) ?_
                rintro x8 hx8 b8 o8 cs8 rd8 hc8
                have rd8' := rd8; obtain ⟨A8_4, c8_4, rfl, u8_4, r8_4, k8_0, k8_1, k8_2, k8_3, k8_4⟩ := rd8
                have bz8_4 := r8_4.1
                obtain rfl : x8 = (nth ((nth f.blocks i).ops) k) := hx8
                refine WpG.y rfl rfl rfl rfl (RunY.loadH tabOK hc8 (((hH2.trans hH3).trans hH4).trans hH5) rfl rfl rfl rfl) ?_
                refine WpG.alloc tabOK rfl rfl rfl rfl rfl (fun b9 => ?_)
                refine WpG.storeBox (ci := 0) (cs' := [.int .i64 ((nth ((nth f.blocks i).ops) k).kind), .int .i64 ((nth ((nth f.blocks i).ops) k).bits), .int .i64 ((nth ((nth f.blocks i).ops) k).lanes), .int .i64 ((nth ((nth f.blocks i).ops) k).dst), .slice A8_4 ((nth ((nth f.blocks i).ops) k).args.length) c8_4, .int .u64 ((nth ((nth f.blocks i).ops) k).imm)]) tabOK rfl rfl rfl rfl rfl rfl rfl rfl rfl ?_
                refine WpG.setL (L' := [Chunk.box b9 [.int .i64 ((nth ((nth f.blocks i).ops) k).kind), .int .i64 ((nth ((nth f.blocks i).ops) k).bits), .int .i64 ((nth ((nth f.blocks i).ops) k).lanes), .int .i64 ((nth ((nth f.blocks i).ops) k).dst), .slice A8_4 ((nth ((nth f.blocks i).ops) k).args.length) c8_4, .int .u64 ((nth ((nth f.blocks i).ops) k).imm)] 47, Chunk.box b1 [.slice A_f_0 f.params.length c_f_0, .int .i64 f.ret, .slice A_f_2 f.blocks.length c_f_2] 25]) rfl ?_
                refine WpG.go tabOK 4 [(1, .pointer (some ⟨b1, 0, none⟩)), (3, .int .i64 e3), (5, .int .i64 e5), (7, .int .i64 i), (8, .int .i64 k), (9, .pointer (some ⟨b9, 0, none⟩)), (63, .bool p2)] rfl ⟨rfl, rfl, rfl, rfl, rfl, rfl, rfl, trivial⟩ ?_
                refine WpG.caseB (t := 63) rfl (fun q63 => ?_) (fun q63 => ?_)
                · refine WpG.go tabOK 1 [(1, .pointer (some ⟨b1, 0, none⟩)), (3, .int .i64 e3), (5, .int .i64 e5), (7, .int .i64 i), (8, .int .i64 k), (9, .pointer (some ⟨b9, 0, none⟩)), (63, .bool true), (64, .pointer (some ⟨b9, 2, none⟩))] rfl ⟨rfl, rfl, rfl, rfl, rfl, rfl, rfl, rfl, trivial⟩ ?_
                  refine WpG.y rfl rfl rfl rfl (RunY.loadBox (ci := 0) tabOK rfl rfl rfl rfl) ?_
                  refine WpG.go tabOK 3 [(1, .pointer (some ⟨b1, 0, none⟩)), (3, .int .i64 e3), (5, .int .i64 e5), (7, .int .i64 i), (8, .int .i64 k), (9, .pointer (some ⟨b9, 0, none⟩)), (68, .bool (((nth ((nth f.blocks i).ops) k).lanes) == 1))] rfl ⟨rfl, rfl, rfl, rfl, rfl, rfl, rfl, trivial⟩ ?_
                  refine WpG.caseE (t := 68) rfl (fun q68 => ?_) (fun q68 => ?_)
                  · refine WpG.go tabOK 1 [(1, .pointer (some ⟨b1, 0, none⟩)), (3, .int .i64 e3), (5, .int .i64 e5), (7, .int .i64 i), (8, .int .i64 k), (68, .bool true), (69, .pointer (some ⟨b9, 0, none⟩))] rfl ⟨rfl, rfl, rfl, rfl, rfl, rfl, rfl, trivial⟩ ?_
                    refine WpG.y rfl rfl rfl rfl (RunY.loadBox (ci := 0) tabOK rfl rfl rfl rfl) ?_
                    refine WpG.go tabOK 8 [(1, .pointer (some ⟨b1, 0, none⟩)), (3, .int .i64 e3), (5, .int .i64 e5), (6, .bool (decide (((nth ((nth f.blocks i).ops) k).kind) ≤ 17))), (7, .int .i64 i), (52, .int .i64 (k + 1))] rfl ⟨rfl, rfl, rfl, rfl, rfl, (wrk (x := k + 1) (by omega) (by omega)), trivial⟩ ?_
                    refine WpG.go tabOK 3 [(1, .pointer (some ⟨b1, 0, none⟩)), (3, .int .i64 e3), (5, .int .i64 e5), (6, .bool (decide (((nth ((nth f.blocks i).ops) k).kind) ≤ 17))), (7, .int .i64 i), (8, .int .i64 (k + 1))] rfl ⟨rfl, rfl, rfl, rfl, rfl, rfl, trivial⟩ ?_
                    refine WpG.dropL (L' := [Chunk.box b1 [.slice A_f_0 f.params.length c_f_0, .int .i64 f.ret, .slice A_f_2 f.blocks.length c_f_2] 25]) (.cons _ (.cons_cons _ .slnil)) ?_
                    refine WpG.weaken (G := [(1, .pointer (some ⟨b1, 0, none⟩)), (3, .int .i64 e3), (5, .int .i64 e5), (6, .bool (decide (((nth ((nth f.blocks i).ops) k).kind) ≤ 17))), (7, .int .i64 i), (8, .int .i64 (k + 1))]) (Known.all ⟨rfl, rfl, rfl, rfl, rfl, rfl, trivial⟩) (ih2 (k + 1, (decide (((nth ((nth f.blocks i).ops) k).kind) ≤ 17))) ?_ ?_)
                    · show ((nth f.blocks i).ops.length - (k + 1)).toNat < ((nth f.blocks i).ops.length - k).toNat
                      omega
                    · show 0 ≤ (k + 1) ∧ (k + 1) ≤ (nth f.blocks i).ops.length ∧ plainD f = ((decide (((nth ((nth f.blocks i).ops) k).kind) ≤ 17)) && (((nth f.blocks i).ops.drop (k + 1).toNat).all plainO && (f.blocks.drop (i + 1).toNat).all fun b => b.ops.all plainO))
                      -- back 0 of loop 2, path FTFTFL1TL2TTT
                      clear ih1 ih2
                      exact ⟨by omega, by omega, by rw [pl_step k2 k0 q50, q63, pl_a q68]; rfl⟩
                  · refine WpG.go tabOK 10 [(1, .pointer (some ⟨b1, 0, none⟩)), (3, .int .i64 e3), (5, .int .i64 e5), (6, .bool false), (7, .int .i64 i), (52, .int .i64 (k + 1))] rfl ⟨rfl, rfl, rfl, rfl, rfl, (wrk (x := k + 1) (by omega) (by omega)), trivial⟩ ?_
                    refine WpG.go tabOK 3 [(1, .pointer (some ⟨b1, 0, none⟩)), (3, .int .i64 e3), (5, .int .i64 e5), (6, .bool false), (7, .int .i64 i), (8, .int .i64 (k + 1))] rfl ⟨rfl, rfl, rfl, rfl, rfl, rfl, trivial⟩ ?_
                    refine WpG.dropL (L' := [Chunk.box b1 [.slice A_f_0 f.params.length c_f_0, .int .i64 f.ret, .slice A_f_2 f.blocks.length c_f_2] 25]) (.cons _ (.cons_cons _ .slnil)) ?_
                    refine WpG.weaken (G := [(1, .pointer (some ⟨b1, 0, none⟩)), (3, .int .i64 e3), (5, .int .i64 e5), (6, .bool false), (7, .int .i64 i), (8, .int .i64 (k + 1))]) (Known.all ⟨rfl, rfl, rfl, rfl, rfl, rfl, trivial⟩) (ih2 (k + 1, false) ?_ ?_)
                    · show ((nth f.blocks i).ops.length - (k + 1)).toNat < ((nth f.blocks i).ops.length - k).toNat
                      omega
                    · show 0 ≤ (k + 1) ∧ (k + 1) ≤ (nth f.blocks i).ops.length ∧ plainD f = (false && (((nth f.blocks i).ops.drop (k + 1).toNat).all plainO && (f.blocks.drop (i + 1).toNat).all fun b => b.ops.all plainO))
                      -- back 1 of loop 2, path FTFTFL1TL2TTF
                      clear ih1 ih2
                      exact ⟨by omega, by omega, by rw [pl_step k2 k0 q50, q63, pl_b q68]; rfl⟩
                · refine WpG.go tabOK 15 [(1, .pointer (some ⟨b1, 0, none⟩)), (3, .int .i64 e3), (5, .int .i64 e5), (6, .bool false), (7, .int .i64 i), (52, .int .i64 (k + 1))] rfl ⟨rfl, rfl, rfl, rfl, rfl, (wrk (x := k + 1) (by omega) (by omega)), trivial⟩ ?_
                  refine WpG.go tabOK 3 [(1, .pointer (some ⟨b1, 0, none⟩)), (3, .int .i64 e3), (5, .int .i64 e5), (6, .bool false), (7, .int .i64 i), (8, .int .i64 (k + 1))] rfl ⟨rfl, rfl, rfl, rfl, rfl, rfl, trivial⟩ ?_
                  refine WpG.dropL (L' := [Chunk.box b1 [.slice A_f_0 f.params.length c_f_0, .int .i64 f.ret, .slice A_f_2 f.blocks.length c_f_2] 25]) (.cons _ (.cons_cons _ .slnil)) ?_
                  refine WpG.weaken (G := [(1, .pointer (some ⟨b1, 0, none⟩)), (3, .int .i64 e3), (5, .int .i64 e5), (6, .bool false), (7, .int .i64 i), (8, .int .i64 (k + 1))]) (Known.all ⟨rfl, rfl, rfl, rfl, rfl, rfl, trivial⟩) (ih2 (k + 1, false) ?_ ?_)
                  · show ((nth f.blocks i).ops.length - (k + 1)).toNat < ((nth f.blocks i).ops.length - k).toNat
                    omega
                  · show 0 ≤ (k + 1) ∧ (k + 1) ≤ (nth f.blocks i).ops.length ∧ plainD f = (false && (((nth f.blocks i).ops.drop (k + 1).toNat).all plainO && (f.blocks.drop (i + 1).toNat).all fun b => b.ops.all plainO))
                    -- back 2 of loop 2, path FTFTFL1TL2TF
                    clear ih1 ih2
                    exact ⟨by omega, by omega, by rw [pl_step k2 k0 q50, q63]; rfl⟩
              · refine WpG.go tabOK 6 [(1, .pointer (some ⟨b1, 0, none⟩)), (3, .int .i64 e3), (5, .int .i64 e5), (6, .bool p2), (41, .int .i64 (i + 1))] rfl ⟨rfl, rfl, rfl, rfl, (wrk (x := i + 1) (by omega) (by omega)), trivial⟩ ?_
                refine WpG.go tabOK 3 [(1, .pointer (some ⟨b1, 0, none⟩)), (3, .int .i64 e3), (5, .int .i64 e5), (6, .bool p2), (7, .int .i64 (i + 1))] rfl ⟨rfl, rfl, rfl, rfl, rfl, trivial⟩ ?_
                refine WpG.weaken (G := [(1, .pointer (some ⟨b1, 0, none⟩)), (3, .int .i64 e3), (5, .int .i64 e5), (6, .bool p2), (7, .int .i64 (i + 1))]) (Known.all ⟨rfl, rfl, rfl, rfl, rfl, trivial⟩) (ih1 (i + 1, p2) ?_ ?_)
                · show (f.blocks.length - (i + 1)).toNat < (f.blocks.length - i).toNat
                  omega
                · show 0 ≤ (i + 1) ∧ (i + 1) ≤ f.blocks.length ∧ plainD f = (p2 && (f.blocks.drop (i + 1).toNat).all fun b => b.ops.all plainO)
                  -- back 0 of loop 1, path FTFTFL1TL2F
                  clear ih1 ih2
                  exact ⟨by omega, by omega, by rw [k2, drop_end k0 q50]; rfl⟩
            · refine WpG.go tabOK 7 [(3, .int .i64 e3), (6, .bool p), (75, .bool (e5 != 0))] rfl ⟨rfl, rfl, rfl, trivial⟩ ?_
              refine WpG.caseN (t := 75) rfl (fun q75 => ?_) (fun q75 => ?_)
              · refine WpG.go tabOK 7 [(2, .bool true)] rfl ⟨rfl, trivial⟩ ?_
                -- return 3, path FTFTFL1FT
                exact WpG.ret tabOK (L' := []) (.tmp rfl .nil) (.cons _ .slnil) ⟨rfl, rfl⟩
              · refine WpG.go tabOK 3 [(75, .bool false), (77, .bool (e3 == 0)), (78, .bool p)] rfl ⟨rfl, rfl, rfl, trivial⟩ ?_
                refine WpG.y rfl rfl rfl rfl (RunY.eqBool tabOK rfl rfl rfl rfl) ?_
                refine WpG.go tabOK 3 [(2, .bool ((e3 == 0) == p))] rfl ⟨rfl, trivial⟩ ?_
                -- return 4, path FTFTFL1FF
                exact WpG.ret tabOK (L' := []) (.tmp rfl .nil) (.cons _ .slnil) ⟨congrArg Value.bool (by have z := hpl q75; rw [z, i2, drop_end i0 q39]; simp), rfl⟩
        · refine WpG.go tabOK 18 [(1, .pointer (some ⟨b1, 0, none⟩)), (3, .int .i64 e3), (5, .int .i64 e5), (6, .bool true), (7, .int .i64 0)] rfl ⟨rfl, rfl, rfl, rfl, rfl, trivial⟩ ?_
          refine WpG.ind (σ := Int × Bool) (fun z_ => (f.blocks.length - z_.1).toNat) (fun z_ => [(1, .pointer (some ⟨b1, 0, none⟩)), (3, .int .i64 e3), (5, .int .i64 e5), (6, .bool z_.2), (7, .int .i64 z_.1)]) (fun z_ => H5) (fun z_ => [Chunk.box b1 [.slice A_f_0 f.params.length c_f_0, .int .i64 f.ret, .slice A_f_2 f.blocks.length c_f_2] 25]) (fun z_ => 0 ≤ z_.1 ∧ z_.1 ≤ f.blocks.length ∧ plainD f = (z_.2 && (f.blocks.drop z_.1.toNat).all fun b => b.ops.all plainO)) ?_ (0, true) ⟨by omega, by omega, rfl⟩
          rintro ⟨i, p⟩ inv ih1
          change WpG _ _ _ _ _ _ [(1, .pointer (some ⟨b1, 0, none⟩)), (3, .int .i64 e3), (5, .int .i64 e5), (6, .bool p), (7, .int .i64 i)] H5 [Chunk.box b1 [.slice A_f_0 f.params.length c_f_0, .int .i64 f.ret, .slice A_f_2 f.blocks.length c_f_2] 25] _
          replace inv : 0 ≤ i ∧ i ≤ f.blocks.length ∧ plainD f = (p && (f.blocks.drop i.toNat).all fun b => b.ops.all plainO) := inv
          obtain ⟨i0, i1, i2⟩ := inv
          refine WpG.go tabOK 5 [(1, .pointer (some ⟨b1, 0, none⟩)), (3, .int .i64 e3), (5, .int .i64 e5), (6, .bool p), (7, .int .i64 i), (35, .int .i64 i), (36, .pointer (some ⟨b1, 2, none⟩))] rfl ⟨rfl, rfl, rfl, rfl, rfl, rfl, rfl, trivial⟩ ?_
          refine WpG.y rfl rfl rfl rfl (RunY.loadBox (ci := 0) tabOK rfl rfl rfl rfl) ?_
          refine WpG.go tabOK 3 [(1, .pointer (some ⟨b1, 0, none⟩)), (3, .int .i64 e3), (5, .int .i64 e5), (6, .bool p), (7, .int .i64 i), (39, .bool (decide (i < (f.blocks.length : Int))))] rfl ⟨rfl, rfl, rfl, rfl, rfl, rfl, trivial⟩ ?_
          refine WpG.caseD (t := 39) rfl (fun q39 => ?_) (fun q39 => ?_)
          · refine WpG.go tabOK 10 [(1, .pointer (some ⟨b1, 0, none⟩)), (3, .int .i64 e3), (5, .int .i64 e5), (6, .bool p), (7, .int .i64 i), (8, .int .i64 0)] rfl ⟨rfl, rfl, rfl, rfl, rfl, rfl, trivial⟩ ?_
            refine WpG.ind (σ := Int × Bool) (fun z_ => ((nth f.blocks i).ops.length - z_.1).toNat) (fun z_ => [(1, .pointer (some ⟨b1, 0, none⟩)), (3, .int .i64 e3), (5, .int .i64 e5), (6, .bool z_.2), (7, .int .i64 i), (8, .int .i64 z_.1)]) (fun z_ => H5) (fun z_ => [Chunk.box b1 [.slice A_f_0 f.params.length c_f_0, .int .i64 f.ret, .slice A_f_2 f.blocks.length c_f_2] 25]) (fun z_ => 0 ≤ z_.1 ∧ z_.1 ≤ (nth f.blocks i).ops.length ∧ plainD f = (z_.2 && (((nth f.blocks i).ops.drop z_.1.toNat).all plainO && (f.blocks.drop (i + 1).toNat).all fun b => b.ops.all plainO))) ?_ (0, p) ⟨by omega, by omega, by rw [i2, drop_nth i0 q39, toNat_succ i0]; rfl⟩
            rintro ⟨k, p2⟩ inv ih2
            change WpG _ _ _ _ _ _ [(1, .pointer (some ⟨b1, 0, none⟩)), (3, .int .i64 e3), (5, .int .i64 e5), (6, .bool p2), (7, .int .i64 i), (8, .int .i64 k)] H5 [Chunk.box b1 [.slice A_f_0 f.params.length c_f_0, .int .i64 f.ret, .slice A_f_2 f.blocks.length c_f_2] 25] _
            replace inv : 0 ≤ k ∧ k ≤ (nth f.blocks i).ops.length ∧ plainD f = (p2 && (((nth f.blocks i).ops.drop k.toNat).all plainO && (f.blocks.drop (i + 1).toNat).all fun b => b.ops.all plainO)) := inv
            obtain ⟨k0, k1, k2⟩ := inv
            refine WpG.go tabOK 5 [(1, .pointer (some ⟨b1, 0, none⟩)), (3, .int .i64 e3), (5, .int .i64 e5), (6, .bool p2), (7, .int .i64 i), (8, .int .i64 k), (42, .int .i64 k), (43, .pointer (some ⟨b1, 2, none⟩))] rfl ⟨rfl, rfl, rfl, rfl, rfl, rfl, rfl, rfl, trivial⟩ ?_
            refine WpG.y rfl rfl rfl rfl (RunY.loadBox (ci := 0) tabOK rfl rfl rfl rfl) ?_
            refine WpG.go tabOK 1 [(1, .pointer (some ⟨b1, 0, none⟩)), (3, .int .i64 e3), (5, .int .i64 e5), (6, .bool p2), (7, .int .i64 i), (8, .int .i64 k), (42, .int .i64 k), (44, .slice A_f_2 f.blocks.length c_f_2), (45, .int .i64 i)] rfl ⟨rfl, rfl, rfl, rfl, rfl, rfl, rfl, rfl, rfl, trivial⟩ ?_
            refine WpG.indexR tabOK rfl rfl rfl rfl rfl rfl rfl rfl rfl r_f_2 (by omega) (by omega) ?_
            rintro x10 hx10 b10 o10 cs10 rd10 hc10
            have rd10' := rd10; obtain ⟨A10_0, c10_0, A10_1, c10_1, A10_4, c10_4, rfl, u10_0, r10_0, u10_1, r10_1, u10_4, r10_4, k10_0, k10_1⟩ := rd10
            have bz10_0 := r10_0.1
            have bz10_1 := r10_1.1
            have bz10_4 := r10_4.1
            obtain rfl : x10 = (nth f.blocks i) := hx10
            refine WpG.go tabOK 1 [(1, .pointer (some ⟨b1, 0, none⟩)), (3, .int .i64 e3), (5, .int .i64 e5), (6, .bool p2), (7, .int .i64 i), (8, .int .i64 k), (42, .int .i64 k), (47, .pointer (some ⟨b10, (o10 + 1), none⟩))] rfl ⟨rfl, rfl, rfl, rfl, rfl, rfl, rfl, rfl, trivial⟩ ?_
            refine WpG.y rfl rfl rfl rfl (RunY.loadH tabOK (hc10.sub 1 1) (((hH2.trans hH3).trans hH4).trans hH5) rfl rfl rfl rfl) ?_
            refine WpG.go tabOK 3 [(1, .pointer (some ⟨b1, 0, none⟩)), (3, .int .i64 e3), (5, .int .i64 e5), (6, .bool p2), (7, .int .i64 i), (8, .int .i64 k), (50, .bool (decide (k < ((nth f.blocks i).ops.length : Int))))] rfl ⟨rfl, rfl, rfl, rfl, rfl, rfl, rfl, trivial⟩ ?_
            refine WpG.caseD (t := 50) rfl (fun q50 => ?_) (fun q50 => ?_)
            · refine WpG.go tabOK 7 [(1, .pointer (some ⟨b1, 0, none⟩)), (3, .int .i64 e3), (5, .int .i64 e5), (6, .bool p2), (7, .int .i64 i), (8, .int .i64 k), (53, .pointer (some ⟨b1, 2, none⟩))] rfl ⟨rfl, rfl, rfl, rfl, rfl, rfl, rfl, trivial⟩ ?_
              refine WpG.y rfl rfl rfl rfl (RunY.loadBox (ci := 0) tabOK rfl rfl rfl rfl) ?_
              refine WpG.go tabOK 1 [(1, .pointer (some ⟨b1, 0, none⟩)), (3, .int .i64 e3), (5, .int .i64 e5), (6, .bool p2), (7, .int .i64 i), (8, .int .i64 k), (54, .slice A_f_2 f.blocks.length c_f_2), (55, .int .i64 i)] rfl ⟨rfl, rfl, rfl, rfl, rfl, rfl, rfl, rfl, trivial⟩ ?_
              refine WpG.indexR tabOK rfl rfl rfl rfl rfl rfl rfl rfl rfl r_f_2 (by omega) (by omega) ?_
              rintro x11 hx11 b11 o11 cs11 rd11 hc11
              have rd11' := rd11; obtain ⟨A11_0, c11_0, A11_1, c11_1, A11_4, c11_4, rfl, u11_0, r11_0, u11_1, r11_1, u11_4, r11_4, k11_0, k11_1⟩ := rd11
              have bz11_0 := r11_0.1
              have bz11_1 := r11_1.1
              have bz11_4 := r11_4.1
              obtain rfl : x11 = (nth f.blocks i) := hx11
              refine WpG.go tabOK 1 [(1, .pointer (some ⟨b1, 0, none⟩)), (3, .int .i64 e3), (5, .int .i64 e5), (6, .bool p2), (7, .int .i64 i), (8, .int .i64 k), (57, .pointer (some ⟨b11, (o11 + 1), none⟩))] rfl ⟨rfl, rfl, rfl, rfl, rfl, rfl, rfl, trivial⟩ ?_
              refine WpG.y rfl rfl rfl rfl (RunY.loadH tabOK (hc11.sub 1 1) (((hH2.trans hH3).trans hH4).trans hH5) rfl rfl rfl rfl) ?_
              refine WpG.go tabOK 1 [(1, .pointer (some ⟨b1, 0, none⟩)), (3, .int .i64 e3), (5, .int .i64 e5), (6, .bool p2), (7, .int .i64 i), (8, .int .i64 k), (58, .slice A11_1 ((nth f.blocks i).ops.length) c11_1), (59, .int .i64 k)] rfl ⟨rfl, rfl, rfl, rfl, rfl, rfl, rfl, rfl, trivial⟩ ?_
              refine WpG.indexR tabOK rfl rfl rfl rfl rfl rfl rfl rfl rfl r11_1 (by omega) (by omega) ?_
              rintro x12 hx12 b12 o12 cs12 rd12 hc12
              have rd12' := rd12; obtain ⟨A12_4, c12_4, rfl, u12_4, r12_4, k12_0, k12_1, k12_2, k12_3, k12_4⟩ := rd12
              have bz12_4 := r12_4.1
              obtain rfl : x12 = (nth ((nth f.blocks i).ops) k) := hx12
              refine WpG.y rfl rfl rfl rfl (RunY.loadH tabOK hc12 (((hH2.trans hH3).trans hH4).trans hH5) rfl rfl rfl rfl) ?_
              refine WpG.alloc tabOK rfl rfl rfl rfl rfl (fun b13 => ?_)
              refine WpG.storeBox (ci := 0) (cs' := [.int .i64 ((nth ((nth f.blocks i).ops) k).kind), .int .i64 ((nth ((nth f.blocks i).ops) k).bits), .int .i64 ((nth ((nth f.blocks i).ops) k).lanes), .int .i64 ((nth ((nth f.blocks i).ops) k).dst), .slice A12_4 ((nth ((nth f.blocks i).ops) k).args.length) c12_4, .int .u64 ((nth ((nth f.blocks i).ops) k).imm)]) tabOK rfl rfl rfl rfl rfl rfl rfl rfl rfl ?_
              refine WpG.setL (L' := [Chunk.box b13 [.int .i64 ((nth ((nth f.blocks i).ops) k).kind), .int .i64 ((nth ((nth f.blocks i).ops) k).bits), .int .i64 ((nth ((nth f.blocks i).ops) k).lanes), .int .i64 ((nth ((nth f.blocks i).ops) k).dst), .slice A12_4 ((nth ((nth f.blocks i).ops) k).args.length) c12_4, .int .u64 ((nth ((nth f.blocks i).ops) k).imm)] 47, Chunk.box b1 [.slice A_f_0 f.params.length c_f_0, .int .i64 f.ret, .slice A_f_2 f.blocks.length c_f_2] 25]) rfl ?_
              refine WpG.go tabOK 4 [(1, .pointer (some ⟨b1, 0, none⟩)), (3, .int .i64 e3), (5, .int .i64 e5), (7, .int .i64 i), (8, .int .i64 k), (9, .pointer (some ⟨b13, 0, none⟩)), (63, .bool p2)] rfl ⟨rfl, rfl, rfl, rfl, rfl, rfl, rfl, trivial⟩ ?_
              refine WpG.caseB (t := 63) rfl (fun q63 => ?_) (fun q63 => ?_)
              · refine WpG.go tabOK 1 [(1, .pointer (some ⟨b1, 0, none⟩)), (3, .int .i64 e3), (5, .int .i64 e5), (7, .int .i64 i), (8, .int .i64 k), (9, .pointer (some ⟨b13, 0, none⟩)), (63, .bool true), (64, .pointer (some ⟨b13, 2, none⟩))] rfl ⟨rfl, rfl, rfl, rfl, rfl, rfl, rfl, rfl, trivial⟩ ?_
                refine WpG.y rfl rfl rfl rfl (RunY.loadBox (ci := 0) tabOK rfl rfl rfl rfl) ?_
                refine WpG.go tabOK 3 [(1, .pointer (some ⟨b1, 0, none⟩)), (3, .int .i64 e3), (5, .int .i64 e5), (7, .int .i64 i), (8, .int .i64 k), (9, .pointer (some ⟨b13, 0, none⟩)), (68, .bool (((nth ((nth f.blocks i).ops) k).lanes) == 1))] rfl ⟨rfl, rfl, rfl, rfl, rfl, rfl, rfl, trivial⟩ ?_
                refine WpG.caseE (t := 68) rfl (fun q68 => ?_) (fun q68 => ?_)
                · refine WpG.go tabOK 1 [(1, .pointer (some ⟨b1, 0, none⟩)), (3, .int .i64 e3), (5, .int .i64 e5), (7, .int .i64 i), (8, .int .i64 k), (68, .bool true), (69, .pointer (some ⟨b13, 0, none⟩))] rfl ⟨rfl, rfl, rfl, rfl, rfl, rfl, rfl, trivial⟩ ?_
                  refine WpG.y rfl rfl rfl rfl (RunY.loadBox (ci := 0) tabOK rfl rfl rfl rfl) ?_
                  refine WpG.go tabOK 8 [(1, .pointer (some ⟨b1, 0, none⟩)), (3, .int .i64 e3), (5, .int .i64 e5), (6, .bool (decide (((nth ((nth f.blocks i).ops) k).kind) ≤ 17))), (7, .int .i64 i), (52, .int .i64 (k + 1))] rfl ⟨rfl, rfl, rfl, rfl, rfl, (wrk (x := k + 1) (by omega) (by omega)), trivial⟩ ?_
                  refine WpG.go tabOK 3 [(1, .pointer (some ⟨b1, 0, none⟩)), (3, .int .i64 e3), (5, .int .i64 e5), (6, .bool (decide (((nth ((nth f.blocks i).ops) k).kind) ≤ 17))), (7, .int .i64 i), (8, .int .i64 (k + 1))] rfl ⟨rfl, rfl, rfl, rfl, rfl, rfl, trivial⟩ ?_
                  refine WpG.dropL (L' := [Chunk.box b1 [.slice A_f_0 f.params.length c_f_0, .int .i64 f.ret, .slice A_f_2 f.blocks.length c_f_2] 25]) (.cons _ (.cons_cons _ .slnil)) ?_
                  refine WpG.weaken (G := [(1, .pointer (some ⟨b1, 0, none⟩)), (3, .int .i64 e3), (5, .int .i64 e5), (6, .bool (decide (((nth ((nth f.blocks i).ops) k).kind) ≤ 17))), (7, .int .i64 i), (8, .int .i64 (k + 1))]) (Known.all ⟨rfl, rfl, rfl, rfl, rfl, rfl, trivial⟩) (ih2 (k + 1, (decide (((nth ((nth f.blocks i).ops) k).kind) ≤ 17))) ?_ ?_)
                  · show ((nth f.blocks i).ops.length - (k + 1)).toNat < ((nth f.blocks i).ops.length - k).toNat
                    omega
                  · show 0 ≤ (k + 1) ∧ (k + 1) ≤ (nth f.blocks i).ops.length ∧ plainD f = ((decide (((nth ((nth f.blocks i).ops) k).kind) ≤ 17)) && (((nth f.blocks i).ops.drop (k + 1).toNat).all plainO && (f.blocks.drop (i + 1).toNat).all fun b => b.ops.all plainO))
                    -- back 3 of loop 2, path FTFFL1TL2TTT
                    clear ih1 ih2
                    exact ⟨by omega, by omega, by rw [pl_step k2 k0 q50, q63, pl_a q68]; rfl⟩
                · refine WpG.go tabOK 10 [(1, .pointer (some ⟨b1, 0, none⟩)), (3, .int .i64 e3), (5, .int .i64 e5), (6, .bool false), (7, .int .i64 i), (52, .int .i64 (k + 1))] rfl ⟨rfl, rfl, rfl, rfl, rfl, (wrk (x := k + 1) (by omega) (by omega)), trivial⟩ ?_
                  refine WpG.go tabOK 3 [(1, .pointer (some ⟨b1, 0, none⟩)), (3, .int .i64 e3), (5, .int .i64 e5), (6, .bool false), (7, .int .i64 i), (8, .int .i64 (k + 1))] rfl ⟨rfl, rfl, rfl, rfl, rfl, rfl, trivial⟩ ?_
                  refine WpG.dropL (L' := [Chunk.box b1 [.slice A_f_0 f.params.length c_f_0, .int .i64 f.ret, .slice A_f_2 f.blocks.length c_f_2] 25]) (.cons _ (.cons_cons _ .slnil)) ?_
                  refine WpG.weaken (G := [(1, .pointer (some ⟨b1, 0, none⟩)), (3, .int .i64 e3), (5, .int .i64 e5), (6, .bool false), (7, .int .i64 i), (8, .int .i64 (k + 1))]) (Known.all ⟨rfl, rfl, rfl, rfl, rfl, rfl, trivial⟩) (ih2 (k + 1, false) ?_ ?_)
                  · show ((nth f.blocks i).ops.length - (k + 1)).toNat < ((nth f.blocks i).ops.length - k).toNat
                    omega
                  · show 0 ≤ (k + 1) ∧ (k + 1) ≤ (nth f.blocks i).ops.length ∧ plainD f = (false && (((nth f.blocks i).ops.drop (k + 1).toNat).all plainO && (f.blocks.drop (i + 1).toNat).all fun b => b.ops.all plainO))
                    -- back 4 of loop 2, path FTFFL1TL2TTF
                    clear ih1 ih2
                    exact ⟨by omega, by omega, by rw [pl_step k2 k0 q50, q63, pl_b q68]; rfl⟩
              · refine WpG.go tabOK 15 [(1, .pointer (some ⟨b1, 0, none⟩)), (3, .int .i64 e3), (5, .int .i64 e5), (6, .bool false), (7, .int .i64 i), (52, .int .i64 (k + 1))] rfl ⟨rfl, rfl, rfl, rfl, rfl, (wrk (x := k + 1) (by omega) (by omega)), trivial⟩ ?_
                refine WpG.go tabOK 3 [(1, .pointer (some ⟨b1, 0, none⟩)), (3, .int .i64 e3), (5, .int .i64 e5), (6, .bool false), (7, .int .i64 i), (8, .int .i64 (k + 1))] rfl ⟨rfl, rfl, rfl, rfl, rfl, rfl, trivial⟩ ?_
                refine WpG.dropL (L' := [Chunk.box b1 [.slice A_f_0 f.params.length c_f_0, .int .i64 f.ret, .slice A_f_2 f.blocks.length c_f_2] 25]) (.cons _ (.cons_cons _ .slnil)) ?_
                refine WpG.weaken (G := [(1, .pointer (some ⟨b1, 0, none⟩)), (3, .int .i64 e3), (5, .int .i64 e5), (6, .bool false), (7, .int .i64 i), (8, .int .i64 (k + 1))]) (Known.all ⟨rfl, rfl, rfl, rfl, rfl, rfl, trivial⟩) (ih2 (k + 1, false) ?_ ?_)
                · show ((nth f.blocks i).ops.length - (k + 1)).toNat < ((nth f.blocks i).ops.length - k).toNat
                  omega
                · show 0 ≤ (k + 1) ∧ (k + 1) ≤ (nth f.blocks i).ops.length ∧ plainD f = (false && (((nth f.blocks i).ops.drop (k + 1).toNat).all plainO && (f.blocks.drop (i + 1).toNat).all fun b => b.ops.all plainO))
                  -- back 5 of loop 2, path FTFFL1TL2TF
                  clear ih1 ih2
                  exact ⟨by omega, by omega, by rw [pl_step k2 k0 q50, q63]; rfl⟩
            · refine WpG.go tabOK 6 [(1, .pointer (some ⟨b1, 0, none⟩)), (3, .int .i64 e3), (5, .int .i64 e5), (6, .bool p2), (41, .int .i64 (i + 1))] rfl ⟨rfl, rfl, rfl, rfl, (wrk (x := i + 1) (by omega) (by omega)), trivial⟩ ?_
              refine WpG.go tabOK 3 [(1, .pointer (some ⟨b1, 0, none⟩)), (3, .int .i64 e3), (5, .int .i64 e5), (6, .bool p2), (7, .int .i64 (i + 1))] rfl ⟨rfl, rfl, rfl, rfl, rfl, trivial⟩ ?_
              refine WpG.weaken (G := [(1, .pointer (some ⟨b1, 0, none⟩)), (3, .int .i64 e3), (5, .int .i64 e5), (6, .bool p2), (7, .int .i64 (i + 1))]) (Known.all ⟨rfl, rfl, rfl, rfl, rfl, trivial⟩) (ih1 (i + 1, p2) ?_ ?_)
              · show (f.blocks.length - (i + 1)).toNat < (f.blocks.length - i).toNat
                omega
              · show 0 ≤ (i + 1) ∧ (i + 1) ≤ f.blocks.length ∧ plainD f = (p2 && (f.blocks.drop (i + 1).toNat).all fun b => b.ops.all plainO)
                -- back 1 of loop 1, path FTFFL1TL2F
                clear ih1 ih2
                exact ⟨by omega, by omega, by rw [k2, drop_end k0 q50]; rfl⟩
          · refine WpG.go tabOK 7 [(3, .int .i64 e3), (6, .bool p), (75, .bool (e5 != 0))] rfl ⟨rfl, rfl, rfl, trivial⟩ ?_
            refine WpG.caseN (t := 75) rfl (fun q75 => ?_) (fun q75 => ?_)
            · refine WpG.go tabOK 7 [(2, .bool true)] rfl ⟨rfl, trivial⟩ ?_
              -- return 5, path FTFFL1FT
              exact WpG.ret tabOK (L' := []) (.tmp rfl .nil) (.cons _ .slnil) ⟨rfl, rfl⟩
            · refine WpG.go tabOK 3 [(75, .bool false), (77, .bool (e3 == 0)), (78, .bool p)] rfl ⟨rfl, rfl, rfl, trivial⟩ ?_
              refine WpG.y rfl rfl rfl rfl (RunY.eqBool tabOK rfl rfl rfl rfl) ?_
              refine WpG.go tabOK 3 [(2, .bool ((e3 == 0) == p))] rfl ⟨rfl, trivial⟩ ?_
              -- return 6, path FTFFL1FF
              exact WpG.ret tabOK (L' := []) (.tmp rfl .nil) (.cons _ .slnil) ⟨congrArg Value.bool (by have z := hpl q75; rw [z, i2, drop_end i0 q39]; simp), rfl⟩
    · refine WpG.go tabOK 7 [(1, .pointer (some ⟨b1, 0, none⟩)), (3, .int .i64 e3), (5, .int .i64 e5), (27, .bool false), (30, .bool (e4 == 0))] rfl ⟨rfl, rfl, rfl, rfl, rfl, trivial⟩ ?_
      refine WpG.caseE (t := 30) rfl (fun q30 => ?_) (fun q30 => ?_)
      · refine WpG.go tabOK 5 [(1, .pointer (some ⟨b1, 0, none⟩)), (3, .int .i64 e3), (5, .int .i64 e5), (34, .bool (e5 != 0))] rfl ⟨rfl, rfl, rfl, rfl, trivial⟩ ?_
        refine WpG.caseN (t := 34) rfl (fun q34 => ?_) (fun q34 => ?_)
        · refine WpG.go tabOK 5 [(2, .bool false)] rfl ⟨rfl, trivial⟩ ?_
          -- return 7, path FFTT
          exact WpG.ret tabOK (L' := []) (.tmp rfl .nil) (.cons _ .slnil) (absurd (h12 q30) q34)
        · refine WpG.go tabOK 13 [(1, .pointer (some ⟨b1, 0, none⟩)), (3, .int .i64 e3), (5, .int .i64 e5), (6, .bool true), (7, .int .i64 0)] rfl ⟨rfl, rfl, rfl, rfl, rfl, trivial⟩ ?_
          refine WpG.ind (σ := Int × Bool) (fun z_ => (f.blocks.length - z_.1).toNat) (fun z_ => [(1, .pointer (some ⟨b1, 0, none⟩)), (3, .int .i64 e3), (5, .int .i64 e5), (6, .bool z_.2), (7, .int .i64 z_.1)]) (fun z_ => H5) (fun z_ => [Chunk.box b1 [.slice A_f_0 f.params.length c_f_0, .int .i64 f.ret, .slice A_f_2 f.blocks.length c_f_2] 25]) (fun z_ => 0 ≤ z_.1 ∧ z_.1 ≤ f.blocks.length ∧ plainD f = (z_.2 && (f.blocks.drop z_.1.toNat).all fun b => b.ops.all plainO)) ?_ (0, true) ⟨by omega, by omega, rfl⟩
          rintro ⟨i, p⟩ inv ih1
          change WpG _ _ _ _ _ _ [(1, .pointer (some ⟨b1, 0, none⟩)), (3, .int .i64 e3), (5, .int .i64 e5), (6, .bool p), (7, .int .i64 i)] H5 [Chunk.box b1 [.slice A_f_0 f.params.length c_f_0, .int .i64 f.ret, .slice A_f_2 f.blocks.length c_f_2] 25] _
          replace inv : 0 ≤ i ∧ i ≤ f.blocks.length ∧ plainD f = (p && (f.blocks.drop i.toNat).all fun b => b.ops.all plainO) := inv
          obtain ⟨i0, i1, i2⟩ := inv
          refine WpG.go tabOK 5 [(1, .pointer (some ⟨b1, 0, none⟩)), (3, .int .i64 e3), (5, .int .i64 e5), (6, .bool p), (7, .int .i64 i), (35, .int .i64 i), (36, .pointer (some ⟨b1, 2, none⟩))] rfl ⟨rfl, rfl, rfl, rfl, rfl, rfl, rfl, trivial⟩ ?_
          refine WpG.y rfl rfl rfl rfl (RunY.loadBox (ci := 0) tabOK rfl rfl rfl rfl) ?_
          refine WpG.go tabOK 3 [(1, .pointer (some ⟨b1, 0, none⟩)), (3, .int .i64 e3), (5, .int .i64 e5), (6, .bool p), (7, .int .i64 i), (39, .bool (decide (i < (f.blocks.length : Int))))] rfl ⟨rfl, rfl, rfl, rfl, rfl, rfl, trivial⟩ ?_
          refine WpG.caseD (t := 39) rfl (fun q39 => ?_) (fun q39 => ?_)
          · refine WpG.go tabOK 10 [(1, .pointer (some ⟨b1, 0, none⟩)), (3, .int .i64 e3), (5, .int .i64 e5), (6, .bool p), (7, .int .i64 i), (8, .int .i64 0)] rfl ⟨rfl, rfl, rfl, rfl, rfl, rfl, trivial⟩ ?_
            refine WpG.ind (σ := Int × Bool) (fun z_ => ((nth f.blocks i).ops.length - z_.1).toNat) (fun z_ => [(1, .pointer (some ⟨b1, 0, none⟩)), (3, .int .i64 e3), (5, .int .i64 e5), (6, .bool z_.2), (7, .int .i64 i), (8, .int .i64 z_.1)]) (fun z_ => H5) (fun z_ => [Chunk.box b1 [.slice A_f_0 f.params.length c_f_0, .int .i64 f.ret, .slice A_f_2 f.blocks.length c_f_2] 25]) (fun z_ => 0 ≤ z_.1 ∧ z_.1 ≤ (nth f.blocks i).ops.length ∧ plainD f = (z_.2 && (((nth f.blocks i).ops.drop z_.1.toNat).all plainO && (f.blocks.drop (i + 1).toNat).all fun b => b.ops.all plainO))) ?_ (0, p) ⟨by omega, by omega, by rw [i2, drop_nth i0 q39, toNat_succ i0]; rfl⟩
            rintro ⟨k, p2⟩ inv ih2
            change WpG _ _ _ _ _ _ [(1, .pointer (some ⟨b1, 0, none⟩)), (3, .int .i64 e3), (5, .int .i64 e5), (6, .bool p2), (7, .int .i64 i), (8, .int .i64 k)] H5 [Chunk.box b1 [.slice A_f_0 f.params.length c_f_0, .int .i64 f.ret, .slice A_f_2 f.blocks.length c_f_2] 25] _
            replace inv : 0 ≤ k ∧ k ≤ (nth f.blocks i).ops.length ∧ plainD f = (p2 && (((nth f.blocks i).ops.drop k.toNat).all plainO && (f.blocks.drop (i + 1).toNat).all fun b => b.ops.all plainO)) := inv
            obtain ⟨k0, k1, k2⟩ := inv
            refine WpG.go tabOK 5 [(1, .pointer (some ⟨b1, 0, none⟩)), (3, .int .i64 e3), (5, .int .i64 e5), (6, .bool p2), (7, .int .i64 i), (8, .int .i64 k), (42, .int .i64 k), (43, .pointer (some ⟨b1, 2, none⟩))] rfl ⟨rfl, rfl, rfl, rfl, rfl, rfl, rfl, rfl, trivial⟩ ?_
            refine WpG.y rfl rfl rfl rfl (RunY.loadBox (ci := 0) tabOK rfl rfl rfl rfl) ?_
            refine WpG.go tabOK 1 [(1, .pointer (some ⟨b1, 0, none⟩)), (3, .int .i64 e3), (5, .int .i64 e5), (6, .bool p2), (7, .int .i64 i), (8, .int .i64 k), (42, .int .i64 k), (44, .slice A_f_2 f.blocks.length c_f_2), (45, .int .i64 i)] rfl ⟨rfl, rfl, rfl, rfl, rfl, rfl, rfl, rfl, rfl, trivial⟩ ?_
            refine WpG.indexR tabOK rfl rfl rfl rfl rfl rfl rfl rfl rfl r_f_2 (by omega) (by omega) ?_
            rintro x14 hx14 b14 o14 cs14 rd14 hc14
            have rd14' := rd14; obtain ⟨A14_0, c14_0, A14_1, c14_1, A14_4, c14_4, rfl, u14_0, r14_0, u14_1, r14_1, u14_4, r14_4, k14_0, k14_1⟩ := rd14
            have bz14_0 := r14_0.1
            have bz14_1 := r14_1.1
            have bz14_4 := r14_4.1
            obtain rfl : x14 = (nth f.blocks i) := hx14
            refine WpG.go tabOK 1 [(1, .pointer (some ⟨b1, 0, none⟩)), (3, .int .i64 e3), (5, .int .i64 e5), (6, .bool p2), (7, .int .i64 i), (8, .int .i64 k), (42, .int .i64 k), (47, .pointer (some ⟨b14, (o14 + 1), none⟩))] rfl ⟨rfl, rfl, rfl, rfl, rfl, rfl, rfl, rfl, trivial⟩ ?_
            refine WpG.y rfl rfl rfl rfl (RunY.loadH tabOK (hc14.sub 1 1) (((hH2.trans hH3).trans hH4).trans hH5) rfl rfl rfl rfl) ?_
            refine WpG.go tabOK 3 [(1, .pointer (some ⟨b1, 0, none⟩)), (3, .int .i64 e3), (5, .int .i64 e5), (6, .bool p2), (7, .int .i64 i), (8, .int .i64 k), (50, .bool (decide (k < ((nth f.blocks i).ops.length : Int))))] rfl ⟨rfl, rfl, rfl, rfl, rfl, rfl, rfl, trivial⟩ ?_
            refine WpG.caseD (t := 50) rfl (fun q50 => ?_) (fun q50 => ?_)
            · refine WpG.go tabOK 7 [(1, .pointer (some ⟨b1, 0, none⟩)), (3, .int .i64 e3), (5, .int .i64 e5), (6, .bool p2), (7, .int .i64 i), (8, .int .i64 k), (53, .pointer (some ⟨b1, 2, none⟩))] rfl ⟨rfl, rfl, rfl, rfl, rfl, rfl, rfl, trivial⟩ ?_
              refine WpG.y rfl rfl rfl rfl (RunY.loadBox (ci := 0) tabOK rfl rfl rfl rfl) ?_
              refine WpG.go tabOK 1 [(1, .pointer (some ⟨b1, 0, none⟩)), (3, .int .i64 e3), (5, .int .i64 e5), (6, .bool p2), (7, .int .i64 i), (8, .int .i64 k), (54, .slice A_f_2 f.blocks.length c_f_2), (55, .int .i64 i)] rfl ⟨rfl, rfl, rfl, rfl, rfl, rfl, rfl, rfl, trivial⟩ ?_
              refine WpG.indexR tabOK rfl rfl rfl rfl rfl rfl rfl rfl rfl r_f_2 (by omega) (by omega) ?_
              rintro x15 hx15 b15 o15 cs15 rd15 hc15
              have rd15' := rd15; obtain ⟨A15_0, c15_0, A15_1, c15_1, A15_4, c15_4, rfl, u15_0, r15_0, u15_1, r15_1, u15_4, r15_4, k15_0, k15_1⟩ := rd15
              have bz15_0 := r15_0.1
              have bz15_1 := r15_1.1
              have bz15_4 := r15_4.1
              obtain rfl : x15 = (nth f.blocks i) := hx15
              refine WpG.go tabOK 1 [(1, .pointer (some ⟨b1, 0, none⟩)), (3, .int .i64 e3), (5, .int .i64 e5), (6, .bool p2), (7, .int .i64 i), (8, .int .i64 k), (57, .pointer (some ⟨b15, (o15 + 1), none⟩))] rfl ⟨rfl, rfl, rfl, rfl, rfl, rfl, rfl, trivial⟩ ?_
              refine WpG.y rfl rfl rfl rfl (RunY.loadH tabOK (hc15.sub 1 1) (((hH2.trans hH3).trans hH4).trans hH5) rfl rfl rfl rfl) ?_
              refine WpG.go tabOK 1 [(1, .pointer (some ⟨b1, 0, none⟩)), (3, .int .i64 e3), (5, .int .i64 e5), (6, .bool p2), (7, .int .i64 i), (8, .int .i64 k), (58, .slice A15_1 ((nth f.blocks i).ops.length) c15_1), (59, .int .i64 k)] rfl ⟨rfl, rfl, rfl, rfl, rfl, rfl, rfl, rfl, trivial⟩ ?_
              refine WpG.indexR tabOK rfl rfl rfl rfl rfl rfl rfl rfl rfl r15_1 (by omega) (by omega) ?_
              rintro x16 hx16 b16 o16 cs16 rd16 hc16
              have rd16' := rd16; obtain ⟨A16_4, c16_4, rfl, u16_4, r16_4, k16_0, k16_1, k16_2, k16_3, k16_4⟩ := rd16
              have bz16_4 := r16_4.1
              obtain rfl : x16 = (nth ((nth f.blocks i).ops) k) := hx16
              refine WpG.y rfl rfl rfl rfl (RunY.loadH tabOK hc16 (((hH2.trans hH3).trans hH4).trans hH5) rfl rfl rfl rfl) ?_
              refine WpG.alloc tabOK rfl rfl rfl rfl rfl (fun b17 => ?_)
              refine WpG.storeBox (ci := 0) (cs' := [.int .i64 ((nth ((nth f.blocks i).ops) k).kind), .int .i64 ((nth ((nth f.blocks i).ops) k).bits), .int .i64 ((nth ((nth f.blocks i).ops) k).lanes), .int .i64 ((nth ((nth f.blocks i).ops) k).dst), .slice A16_4 ((nth ((nth f.blocks i).ops) k).args.length) c16_4, .int .u64 ((nth ((nth f.blocks i).ops) k).imm)]) tabOK rfl rfl rfl rfl rfl rfl rfl rfl rfl ?_
              refine WpG.setL (L' := [Chunk.box b17 [.int .i64 ((nth ((nth f.blocks i).ops) k).kind), .int .i64 ((nth ((nth f.blocks i).ops) k).bits), .int .i64 ((nth ((nth f.blocks i).ops) k).lanes), .int .i64 ((nth ((nth f.blocks i).ops) k).dst), .slice A16_4 ((nth ((nth f.blocks i).ops) k).args.length) c16_4, .int .u64 ((nth ((nth f.blocks i).ops) k).imm)] 47, Chunk.box b1 [.slice A_f_0 f.params.length c_f_0, .int .i64 f.ret, .slice A_f_2 f.blocks.length c_f_2] 25]) rfl ?_
              refine WpG.go tabOK 4 [(1, .pointer (some ⟨b1, 0, none⟩)), (3, .int .i64 e3), (5, .int .i64 e5), (7, .int .i64 i), (8, .int .i64 k), (9, .pointer (some ⟨b17, 0, none⟩)), (63, .bool p2)] rfl ⟨rfl, rfl, rfl, rfl, rfl, rfl, rfl, trivial⟩ ?_
              refine WpG.caseB (t := 63) rfl (fun q63 => ?_) (fun q63 => ?_)
              · refine WpG.go tabOK 1 [(1, .pointer (some ⟨b1, 0, none⟩)), (3, .int .i64 e3), (5, .int .i64 e5), (7, .int .i64 i), (8, .int .i64 k), (9, .pointer (some ⟨b17, 0, none⟩)), (63, .bool true), (64, .pointer (some ⟨b17, 2, none⟩))] rfl ⟨rfl, rfl, rfl, rfl, rfl, rfl, rfl, rfl, trivial⟩ ?_
                refine WpG.y rfl rfl rfl rfl (RunY.loadBox (ci := 0) tabOK rfl rfl rfl rfl) ?_
                refine WpG.go tabOK 3 [(1, .pointer (some ⟨b1, 0, none⟩)), (3, .int .i64 e3), (5, .int .i64 e5), (7, .int .i64 i), (8, .int .i64 k), (9, .pointer (some ⟨b17, 0, none⟩)), (68, .bool (((nth ((nth f.blocks i).ops) k).lanes) == 1))] rfl ⟨rfl, rfl, rfl, rfl, rfl, rfl, rfl, trivial⟩ ?_
                refine WpG.caseE (t := 68) rfl (fun q68 => ?_) (fun q68 => ?_)
                · refine WpG.go tabOK 1 [(1, .pointer (some ⟨b1, 0, none⟩)), (3, .int .i64 e3), (5, .int .i64 e5), (7, .int .i64 i), (8, .int .i64 k), (68, .bool true), (69, .pointer (some ⟨b17, 0, none⟩))] rfl ⟨rfl, rfl, rfl, rfl, rfl, rfl, rfl, trivial⟩ ?_
                  refine WpG.y rfl rfl rfl rfl (RunY.loadBox (ci := 0) tabOK rfl rfl rfl rfl) ?_
                  refine WpG.go tabOK 8 [(1, .pointer (some ⟨b1, 0, none⟩)), (3, .int .i64 e3), (5, .int .i64 e5), (6, .bool (decide (((nth ((nth f.blocks i).ops) k).kind) ≤ 17))), (7, .int .i64 i), (52, .int .i64 (k + 1))] rfl ⟨rfl, rfl, rfl, rfl, rfl, (wrk (x := k + 1) (by omega) (by omega)), trivial⟩ ?_
                  refine WpG.go tabOK 3 [(1, .pointer (some ⟨b1, 0, none⟩)), (3, .int .i64 e3), (5, .int .i64 e5), (6, .bool (decide (((nth ((nth f.blocks i).ops) k).kind) ≤ 17))), (7, .int .i64 i), (8, .int .i64 (k + 1))] rfl ⟨rfl, rfl, rfl, rfl, rfl, rfl, trivial⟩ ?_
                  refine WpG.dropL (L' := [Chunk.box b1 [.slice A_f_0 f.params.length c_f_0, .int .i64 f.ret, .slice A_f_2 f.blocks.length c_f_2] 25]) (.cons _ (.cons_cons _ .slnil)) ?_
                  refine WpG.weaken (G := [(1, .pointer (some ⟨b1, 0, none⟩)), (3, .int .i64 e3), (5, .int .i64 e5), (6, .bool (decide (((nth ((nth f.blocks i).ops) k).kind) ≤ 17))), (7, .int .i64 i), (8, .int .i64 (k + 1))]) (Known.all ⟨rfl, rfl, rfl, rfl, rfl, rfl, trivial⟩) (ih2 (k + 1, (decide (((nth ((nth f.blocks i).ops) k).kind) ≤ 17))) ?_ ?_)
                  · show ((nth f.blocks i).ops.length - (k + 1)).toNat < ((nth f.blocks i).ops.length - k).toNat
                    omega
                  · show 0 ≤ (k + 1) ∧ (k + 1) ≤ (nth f.blocks i).ops.length ∧ plainD f = ((decide (((nth ((nth f.blocks i).ops) k).kind) ≤ 17)) && (((nth f.blocks i).ops.drop (k + 1).toNat).all plainO && (f.blocks.drop (i + 1).toNat).all fun b => b.ops.all plainO))
                    -- back 6 of loop 2, path FFTFL1TL2TTT
                    clear ih1 ih2
                    exact ⟨by omega, by omega, by rw [pl_step k2 k0 q50, q63, pl_a q68]; rfl⟩
                · refine WpG.go tabOK 10 [(1, .pointer (some ⟨b1, 0, none⟩)), (3, .int .i64 e3), (5, .int .i64 e5), (6, .bool false), (7, .int .i64 i), (52, .int .i64 (k + 1))] rfl ⟨rfl, rfl, rfl, rfl, rfl, (wrk (x := k + 1) (by omega) (by omega)), trivial⟩ ?_
                  refine WpG.go tabOK 3 [(1, .pointer (some ⟨b1, 0, none⟩)), (3, .int .i64 e3), (5, .int .i64 e5), (6, .bool false), (7, .int .i64 i), (8, .int .i64 (k + 1))] rfl ⟨rfl, rfl, rfl, rfl, rfl, rfl, trivial⟩ ?_
                  refine WpG.dropL (L' := [Chunk.box b1 [.slice A_f_0 f.params.length c_f_0, .int .i64 f.ret, .slice A_f_2 f.blocks.length c_f_2] 25]) (.cons _ (.cons_cons _ .slnil)) ?_
                  refine WpG.weaken (G := [(1, .pointer (some ⟨b1, 0, none⟩)), (3, .int .i64 e3), (5, .int .i64 e5), (6, .bool false), (7, .int .i64 i), (8, .int .i64 (k + 1))]) (Known.all ⟨rfl, rfl, rfl, rfl, rfl, rfl, trivial⟩) (ih2 (k + 1, false) ?_ ?_)
                  · show ((nth f.blocks i).ops.length - (k + 1)).toNat < ((nth f.blocks i).ops.length - k).toNat
                    omega
                  · show 0 ≤ (k + 1) ∧ (k + 1) ≤ (nth f.blocks i).ops.length ∧ plainD f = (false && (((nth f.blocks i).ops.drop (k + 1).toNat).all plainO && (f.blocks.drop (i + 1).toNat).all fun b => b.ops.all plainO))
                    -- back 7 of loop 2, path FFTFL1TL2TTF
                    clear ih1 ih2
                    exact ⟨by omega, by omega, by rw [pl_step k2 k0 q50, q63, pl_b q68]; rfl⟩
              · refine WpG.go tabOK 15 [(1, .pointer (some ⟨b1, 0, none⟩)), (3, .int .i64 e3), (5, .int .i64 e5), (6, .bool false), (7, .int .i64 i), (52, .int .i64 (k + 1))] rfl ⟨rfl, rfl, rfl, rfl, rfl, (wrk (x := k + 1) (by omega) (by omega)), trivial⟩ ?_
                refine WpG.go tabOK 3 [(1, .pointer (some ⟨b1, 0, none⟩)), (3, .int .i64 e3), (5, .int .i64 e5), (6, .bool false), (7, .int .i64 i), (8, .int .i64 (k + 1))] rfl ⟨rfl, rfl, rfl, rfl, rfl, rfl, trivial⟩ ?_
                refine WpG.dropL (L' := [Chunk.box b1 [.slice A_f_0 f.params.length c_f_0, .int .i64 f.ret, .slice A_f_2 f.blocks.length c_f_2] 25]) (.cons _ (.cons_cons _ .slnil)) ?_
                refine WpG.weaken (G := [(1, .pointer (some ⟨b1, 0, none⟩)), (3, .int .i64 e3), (5, .int .i64 e5), (6, .bool false), (7, .int .i64 i), (8, .int .i64 (k + 1))]) (Known.all ⟨rfl, rfl, rfl, rfl, rfl, rfl, trivial⟩) (ih2 (k + 1, false) ?_ ?_)
                · show ((nth f.blocks i).ops.length - (k + 1)).toNat < ((nth f.blocks i).ops.length - k).toNat
                  omega
                · show 0 ≤ (k + 1) ∧ (k + 1) ≤ (nth f.blocks i).ops.length ∧ plainD f = (false && (((nth f.blocks i).ops.drop (k + 1).toNat).all plainO && (f.blocks.drop (i + 1).toNat).all fun b => b.ops.all plainO))
                  -- back 8 of loop 2, path FFTFL1TL2TF
                  clear ih1 ih2
                  exact ⟨by omega, by omega, by rw [pl_step k2 k0 q50, q63]; rfl⟩
            · refine WpG.go tabOK 6 [(1, .pointer (some ⟨b1, 0, none⟩)), (3, .int .i64 e3), (5, .int .i64 e5), (6, .bool p2), (41, .int .i64 (i + 1))] rfl ⟨rfl, rfl, rfl, rfl, (wrk (x := i + 1) (by omega) (by omega)), trivial⟩ ?_
              refine WpG.go tabOK 3 [(1, .pointer (some ⟨b1, 0, none⟩)), (3, .int .i64 e3), (5, .int .i64 e5), (6, .bool p2), (7, .int .i64 (i + 1))] rfl ⟨rfl, rfl, rfl, rfl, rfl, trivial⟩ ?_
              refine WpG.weaken (G := [(1, .pointer (some ⟨b1, 0, none⟩)), (3, .int .i64 e3), (5, .int .i64 e5), (6, .bool p2), (7, .int .i64 (i + 1))]) (Known.all ⟨rfl, rfl, rfl, rfl, rfl, trivial⟩) (ih1 (i + 1, p2) ?_ ?_)
              · show (f.blocks.length - (i + 1)).toNat < (f.blocks.length - i).toNat
                omega
              · show 0 ≤ (i + 1) ∧ (i + 1) ≤ f.blocks.length ∧ plainD f = (p2 && (f.blocks.drop (i + 1).toNat).all fun b => b.ops.all plainO)
                -- back 2 of loop 1, path FFTFL1TL2F
                clear ih1 ih2
                exact ⟨by omega, by omega, by rw [k2, drop_end k0 q50]; rfl⟩
          · refine WpG.go tabOK 7 [(3, .int .i64 e3), (6, .bool p), (75, .bool (e5 != 0))] rfl ⟨rfl, rfl, rfl, trivial⟩ ?_
            refine WpG.caseN (t := 75) rfl (fun q75 => ?_) (fun q75 => ?_)
            · refine WpG.go tabOK 7 [(2, .bool true)] rfl ⟨rfl, trivial⟩ ?_
              -- return 8, path FFTFL1FT
              exact WpG.ret tabOK (L' := []) (.tmp rfl .nil) (.cons _ .slnil) ⟨rfl, rfl⟩
            · refine WpG.go tabOK 3 [(75, .bool false), (77, .bool (e3 == 0)), (78, .bool p)] rfl ⟨rfl, rfl, rfl, trivial⟩ ?_
              refine WpG.y rfl rfl rfl rfl (RunY.eqBool tabOK rfl rfl rfl rfl) ?_
              refine WpG.go tabOK 3 [(2, .bool ((e3 == 0) == p))] rfl ⟨rfl, trivial⟩ ?_
              -- return 9, path FFTFL1FF
              exact WpG.ret tabOK (L' := []) (.tmp rfl .nil) (.cons _ .slnil) ⟨congrArg Value.bool (by have z := hpl q75; rw [z, i2, drop_end i0 q39]; simp), rfl⟩
      · refine WpG.go tabOK 18 [(1, .pointer (some ⟨b1, 0, none⟩)), (3, .int .i64 e3), (5, .int .i64 e5), (6, .bool true), (7, .int .i64 0)] rfl ⟨rfl, rfl, rfl, rfl, rfl, trivial⟩ ?_
        refine WpG.ind (σ := Int × Bool) (fun z_ => (f.blocks.length - z_.1).toNat) (fun z_ => [(1, .pointer (some ⟨b1, 0, none⟩)), (3, .int .i64 e3), (5, .int .i64 e5), (6, .bool z_.2), (7, .int .i64 z_.1)]) (fun z_ => H5) (fun z_ => [Chunk.box b1 [.slice A_f_0 f.params.length c_f_0, .int .i64 f.ret, .slice A_f_2 f.blocks.length c_f_2] 25]) (fun z_ => 0 ≤ z_.1 ∧ z_.1 ≤ f.blocks.length ∧ plainD f = (z_.2 && (f.blocks.drop z_.1.toNat).all fun b => b.ops.all plainO)) ?_ (0, true) ⟨by omega, by omega, rfl⟩
        rintro ⟨i, p⟩ inv ih1
        change WpG _ _ _ _ _ _ [(1, .pointer (some ⟨b1, 0, none⟩)), (3, .int .i64 e3), (5, .int .i64 e5), (6, .bool p), (7, .int .i64 i)] H5 [Chunk.box b1 [.slice A_f_0 f.params.length c_f_0, .int .i64 f.ret, .slice A_f_2 f.blocks.length c_f_2] 25] _
        replace inv : 0 ≤ i ∧ i ≤ f.blocks.length ∧ plainD f = (p && (f.blocks.drop i.toNat).all fun b => b.ops.all plainO) := inv
        obtain ⟨i0, i1, i2⟩ := inv
        refine WpG.go tabOK 5 [(1, .pointer (some ⟨b1, 0, none⟩)), (3, .int .i64 e3), (5, .int .i64 e5), (6, .bool p), (7, .int .i64 i), (35, .int .i64 i), (36, .pointer (some ⟨b1, 2, none⟩))] rfl ⟨rfl, rfl, rfl, rfl, rfl, rfl, rfl, trivial⟩ ?_
        refine WpG.y rfl rfl rfl rfl (RunY.loadBox (ci := 0) tabOK rfl rfl rfl rfl) ?_
        refine WpG.go tabOK 3 [(1, .pointer (some ⟨b1, 0, none⟩)), (3, .int .i64 e3), (5, .int .i64 e5), (6, .bool p), (7, .int .i64 i), (39, .bool (decide (i < (f.blocks.length : Int))))] rfl ⟨rfl, rfl, rfl, rfl, rfl, rfl, trivial⟩ ?_
        refine WpG.caseD (t := 39) rfl (fun q39 => ?_) (fun q39 => ?_)
        · refine WpG.go tabOK 10 [(1, .pointer (some ⟨b1, 0, none⟩)), (3, .int .i64 e3), (5, .int .i64 e5), (6, .bool p), (7, .int .i64 i), (8, .int .i64 0)] rfl ⟨rfl, rfl, rfl, rfl, rfl, rfl, trivial⟩ ?_
          refine WpG.ind (σ := Int × Bool) (fun z_ => ((nth f.blocks i).ops.length - z_.1).toNat) (fun z_ => [(1, .pointer (some ⟨b1, 0, none⟩)), (3, .int .i64 e3), (5, .int .i64 e5), (6, .bool z_.2), (7, .int .i64 i), (8, .int .i64 z_.1)]) (fun z_ => H5) (fun z_ => [Chunk.box b1 [.slice A_f_0 f.params.length c_f_0, .int .i64 f.ret, .slice A_f_2 f.blocks.length c_f_2] 25]) (fun z_ => 0 ≤ z_.1 ∧ z_.1 ≤ (nth f.blocks i).ops.length ∧ plainD f = (z_.2 && (((nth f.blocks i).ops.drop z_.1.toNat).all plainO && (f.blocks.drop (i + 1).toNat).all fun b => b.ops.all plainO))) ?_ (0, p) ⟨by omega, by omega, by rw [i2, drop_nth i0 q39, toNat_succ i0]; rfl⟩
          rintro ⟨k, p2⟩ inv ih2
          change WpG _ _ _ _ _ _ [(1, .pointer (some ⟨b1, 0, none⟩)), (3, .int .i64 e3), (5, .int .i64 e5), (6, .bool p2), (7, .int .i64 i), (8, .int .i64 k)] H5 [Chunk.box b1 [.slice A_f_0 f.params.length c_f_0, .int .i64 f.ret, .slice A_f_2 f.blocks.length c_f_2] 25] _
          replace inv : 0 ≤ k ∧ k ≤ (nth f.blocks i).ops.length ∧ plainD f = (p2 && (((nth f.blocks i).ops.drop k.toNat).all plainO && (f.blocks.drop (i + 1).toNat).all fun b => b.ops.all plainO)) := inv
          obtain ⟨k0, k1, k2⟩ := inv
          refine WpG.go tabOK 5 [(1, .pointer (some ⟨b1, 0, none⟩)), (3, .int .i64 e3), (5, .int .i64 e5), (6, .bool p2), (7, .int .i64 i), (8, .int .i64 k), (42, .int .i64 k), (43, .pointer (some ⟨b1, 2, none⟩))] rfl ⟨rfl, rfl, rfl, rfl, rfl, rfl, rfl, rfl, trivial⟩ ?_
          refine WpG.y rfl rfl rfl rfl (RunY.loadBox (ci := 0) tabOK rfl rfl rfl rfl) ?_
          refine WpG.go tabOK 1 [(1, .pointer (some ⟨b1, 0, none⟩)), (3, .int .i64 e3), (5, .int .i64 e5), (6, .bool p2), (7, .int .i64 i), (8, .int .i64 k), (42, .int .i64 k), (44, .slice A_f_2 f.blocks.length c_f_2), (45, .int .i64 i)] rfl ⟨rfl, rfl, rfl, rfl, rfl, rfl, rfl, rfl, rfl, trivial⟩ ?_
          refine WpG.indexR tabOK rfl rfl rfl rfl rfl rfl rfl rfl rfl r_f_2 (by omega) (by omega) ?_
          rintro x18 hx18 b18 o18 cs18 rd18 hc18
          have rd18' := rd18; obtain ⟨A18_0, c18_0, A18_1, c18_1, A18_4, c18_4, rfl, u18_0, r18_0, u18_1, r18_1, u18_4, r18_4, k18_0, k18_1⟩ := rd18
          have bz18_0 := r18_0.1
          have bz18_1 := r18_1.1
          have bz18_4 := r18_4.1
          obtain rfl : x18 = (nth f.blocks i) := hx18
          refine WpG.go tabOK 1 [(1, .pointer (some ⟨b1, 0, none⟩)), (3, .int .i64 e3), (5, .int .i64 e5), (6, .bool p2), (7, .int .i64 i), (8, .int .i64 k), (42, .int .i64 k), (47, .pointer (some ⟨b18, (o18 + 1), none⟩))] rfl ⟨rfl, rfl, rfl, rfl, rfl, rfl, rfl, rfl, trivial⟩ ?_
          refine WpG.y rfl rfl rfl rfl (RunY.loadH tabOK (hc18.sub 1 1) (((hH2.trans hH3).trans hH4).trans hH5) rfl rfl rfl rfl) ?_
          refine WpG.go tabOK 3 [(1, .pointer (some ⟨b1, 0, none⟩)), (3, .int .i64 e3), (5, .int .i64 e5), (6, .bool p2), (7, .int .i64 i), (8, .int .i64 k), (50, .bool (decide (k < ((nth f.blocks i).ops.length : Int))))] rfl ⟨rfl, rfl, rfl, rfl, rfl, rfl, rfl, trivial⟩ ?_
          refine WpG.caseD (t := 50) rfl (fun q50 => ?_) (fun q50 => ?_)
          · refine WpG.go tabOK 7 [(1, .pointer (some ⟨b1, 0, none⟩)), (3, .int .i64 e3), (5, .int .i64 e5), (6, .bool p2), (7, .int .i64 i), (8, .int .i64 k), (53, .pointer (some ⟨b1, 2, none⟩))] rfl ⟨rfl, rfl, rfl, rfl, rfl, rfl, rfl, trivial⟩ ?_
            refine WpG.y rfl rfl rfl rfl (RunY.loadBox (ci := 0) tabOK rfl rfl rfl rfl) ?_
            refine WpG.go tabOK 1 [(1, .pointer (some ⟨b1, 0, none⟩)), (3, .int .i64 e3), (5, .int .i64 e5), (6, .bool p2), (7, .int .i64 i), (8, .int .i64 k), (54, .slice A_f_2 f.blocks.length c_f_2), (55, .int .i64 i)] rfl ⟨rfl, rfl, rfl, rfl, rfl, rfl, rfl, rfl, trivial⟩ ?_
            refine WpG.indexR tabOK rfl rfl rfl rfl rfl rfl rfl rfl rfl r_f_2 (by omega) (by omega) ?_
            rintro x19 hx19 b19 o19 cs19 rd19 hc19
            have rd19' := rd19; obtain ⟨A19_0, c19_0, A19_1, c19_1, A19_4, c19_4, rfl, u19_0, r19_0, u19_1, r19_1, u19_4, r19_4, k19_0, k19_1⟩ := rd19
            have bz19_0 := r19_0.1
            have bz19_1 := r19_1.1
            have bz19_4 := r19_4.1
            obtain rfl : x19 = (nth f.blocks i) := hx19
            refine WpG.go tabOK 1 [(1, .pointer (some ⟨b1, 0, none⟩)), (3, .int .i64 e3), (5, .int .i64 e5), (6, .bool p2), (7, .int .i64 i), (8, .int .i64 k), (57, .pointer (some ⟨b19, (o19 + 1), none⟩))] rfl ⟨rfl, rfl, rfl, rfl, rfl, rfl, rfl, trivial⟩ ?_
            refine WpG.y rfl rfl rfl rfl (RunY.loadH tabOK (hc19.sub 1 1) (((hH2.trans hH3).trans hH4).trans hH5) rfl rfl rfl rfl) ?_
            refine WpG.go tabOK 1 [(1, .pointer (some ⟨b1, 0, none⟩)), (3, .int .i64 e3), (5, .int .i64 e5), (6, .bool p2), (7, .int .i64 i), (8, .int .i64 k), (58, .slice A19_1 ((nth f.blocks i).ops.length) c19_1), (59, .int .i64 k)] rfl ⟨rfl, rfl, rfl, rfl, rfl, rfl, rfl, rfl, trivial⟩ ?_
            refine WpG.indexR tabOK rfl rfl rfl rfl rfl rfl rfl rfl rfl r19_1 (by omega) (by omega) ?_
            rintro x20 hx20 b20 o20 cs20 rd20 hc20
            have rd20' := rd20; obtain ⟨A20_4, c20_4, rfl, u20_4, r20_4, k20_0, k20_1, k20_2, k20_3, k20_4⟩ := rd20
            have bz20_4 := r20_4.1
            obtain rfl : x20 = (nth ((nth f.blocks i).ops) k) := hx20
            refine WpG.y rfl rfl rfl rfl (RunY.loadH tabOK hc20 (((hH2.trans hH3).trans hH4).trans hH5) rfl rfl rfl rfl) ?_
            refine WpG.alloc tabOK rfl rfl rfl rfl rfl (fun b21 => ?_)
            refine WpG.storeBox (ci := 0) (cs' := [.int .i64 ((nth ((nth f.blocks i).ops) k).kind), .int .i64 ((nth ((nth f.blocks i).ops) k).bits), .int .i64 ((nth ((nth f.blocks i).ops) k).lanes), .int .i64 ((nth ((nth f.blocks i).ops) k).dst), .slice A20_4 ((nth ((nth f.blocks i).ops) k).args.length) c20_4, .int .u64 ((nth ((nth f.blocks i).ops) k).imm)]) tabOK rfl rfl rfl rfl rfl rfl rfl rfl rfl ?_
            refine WpG.setL (L' := [Chunk.box b21 [.int .i64 ((nth ((nth f.blocks i).ops) k).kind), .int .i64 ((nth ((nth f.blocks i).ops) k).bits), .int .i64 ((nth ((nth f.blocks i).ops) k).lanes), .int .i64 ((nth ((nth f.blocks i).ops) k).dst), .slice A20_4 ((nth ((nth f.blocks i).ops) k).args.length) c20_4, .int .u64 ((nth ((nth f.blocks i).ops) k).imm)] 47, Chunk.box b1 [.slice A_f_0 f.params.length c_f_0, .int .i64 f.ret, .slice A_f_2 f.blocks.length c_f_2] 25]) rfl ?_
            refine WpG.go tabOK 4 [(1, .pointer (some ⟨b1, 0, none⟩)), (3, .int .i64 e3), (5, .int .i64 e5), (7, .int .i64 i), (8, .int .i64 k), (9, .pointer (some ⟨b21, 0, none⟩)), (63, .bool p2)] rfl ⟨rfl, rfl, rfl, rfl, rfl, rfl, rfl, trivial⟩ ?_
            refine WpG.caseB (t := 63) rfl (fun q63 => ?_) (fun q63 => ?_)
            · refine WpG.go tabOK 1 [(1, .pointer (some ⟨b1, 0, none⟩)), (3, .int .i64 e3), (5, .int .i64 e5), (7, .int .i64 i), (8, .int .i64 k), (9, .pointer (some ⟨b21, 0, none⟩)), (63, .bool true), (64, .pointer (some ⟨b21, 2, none⟩))] rfl ⟨rfl, rfl, rfl, rfl, rfl, rfl, rfl, rfl, trivial⟩ ?_
              refine WpG.y rfl rfl rfl rfl (RunY.loadBox (ci := 0) tabOK rfl rfl rfl rfl) ?_
              refine WpG.go tabOK 3 [(1, .pointer (some ⟨b1, 0, none⟩)), (3, .int .i64 e3), (5, .int .i64 e5), (7, .int .i64 i), (8, .int .i64 k), (9, .pointer (some ⟨b21, 0, none⟩)), (68, .bool (((nth ((nth f.blocks i).ops) k).lanes) == 1))] rfl ⟨rfl, rfl, rfl, rfl, rfl, rfl, rfl, trivial⟩ ?_
              refine WpG.caseE (t := 68) rfl (fun q68 => ?_) (fun q68 => ?_)
              · refine WpG.go tabOK 1 [(1, .pointer (some ⟨b1, 0, none⟩)), (3, .int .i64 e3), (5, .int .i64 e5), (7, .int .i64 i), (8, .int .i64 k), (68, .bool true), (69, .pointer (some ⟨b21, 0, none⟩))] rfl ⟨rfl, rfl, rfl, rfl, rfl, rfl, rfl, trivial⟩ ?_
                refine WpG.y rfl rfl rfl rfl (RunY.loadBox (ci := 0) tabOK rfl rfl rfl rfl) ?_
                refine WpG.go tabOK 8 [(1, .pointer (some ⟨b1, 0, none⟩)), (3, .int .i64 e3), (5, .int .i64 e5), (6, .bool (decide (((nth ((nth f.blocks i).ops) k).kind) ≤ 17))), (7, .int .i64 i), (52, .int .i64 (k + 1))] rfl ⟨rfl, rfl, rfl, rfl, rfl, (wrk (x := k + 1) (by omega) (by omega)), trivial⟩ ?_
                refine WpG.go tabOK 3 [(1, .pointer (some ⟨b1, 0, none⟩)), (3, .int .i64 e3), (5, .int .i64 e5), (6, .bool (decide (((nth ((nth f.blocks i).ops) k).kind) ≤ 17))), (7, .int .i64 i), (8, .int .i64 (k + 1))] rfl ⟨rfl, rfl, rfl, rfl, rfl, rfl, trivial⟩ ?_
                refine WpG.dropL (L' := [Chunk.box b1 [.slice A_f_0 f.params.length c_f_0, .int .i64 f.ret, .slice A_f_2 f.blocks.length c_f_2] 25]) (.cons _ (.cons_cons _ .slnil)) ?_
                refine WpG.weaken (G := [(1, .pointer (some ⟨b1, 0, none⟩)), (3, .int .i64 e3), (5, .int .i64 e5), (6, .bool (decide (((nth ((nth f.blocks i).ops) k).kind) ≤ 17))), (7, .int .i64 i), (8, .int .i64 (k + 1))]) (Known.all ⟨rfl, rfl, rfl, rfl, rfl, rfl, trivial⟩) (ih2 (k + 1, (decide (((nth ((nth f.blocks i).ops) k).kind) ≤ 17))) ?_ ?_)
                · show ((nth f.blocks i).ops.length - (k + 1)).toNat < ((nth f.blocks i).ops.length - k).toNat
                  omega
                · show 0 ≤ (k + 1) ∧ (k + 1) ≤ (nth f.blocks i).ops.length ∧ plainD f = ((decide (((nth ((nth f.blocks i).ops) k).kind) ≤ 17)) && (((nth f.blocks i).ops.drop (k + 1).toNat).all plainO && (f.blocks.drop (i + 1).toNat).all fun b => b.ops.all plainO))
                  -- back 9 of loop 2, path FFFL1TL2TTT
                  clear ih1 ih2
                  exact ⟨by omega, by omega, by rw [pl_step k2 k0 q50, q63, pl_a q68]; rfl⟩
              · refine WpG.go tabOK 10 [(1, .pointer (some ⟨b1, 0, none⟩)), (3, .int .i64 e3), (5, .int .i64 e5), (6, .bool false), (7, .int .i64 i), (52, .int .i64 (k + 1))] rfl ⟨rfl, rfl, rfl, rfl, rfl, (wrk (x := k + 1) (by omega) (by omega)), trivial⟩ ?_
                refine WpG.go tabOK 3 [(1, .pointer (some ⟨b1, 0, none⟩)), (3, .int .i64 e3), (5, .int .i64 e5), (6, .bool false), (7, .int .i64 i), (8, .int .i64 (k + 1))] rfl ⟨rfl, rfl, rfl, rfl, rfl, rfl, trivial⟩ ?_
                refine WpG.dropL (L' := [Chunk.box b1 [.slice A_f_0 f.params.length c_f_0, .int .i64 f.ret, .slice A_f_2 f.blocks.length c_f_2] 25]) (.cons _ (.cons_cons _ .slnil)) ?_
                refine WpG.weaken (G := [(1, .pointer (some ⟨b1, 0, none⟩)), (3, .int .i64 e3), (5, .int .i64 e5), (6, .bool false), (7, .int .i64 i), (8, .int .i64 (k + 1))]) (Known.all ⟨rfl, rfl, rfl, rfl, rfl, rfl, trivial⟩) (ih2 (k + 1, false) ?_ ?_)
                · show ((nth f.blocks i).ops.length - (k + 1)).toNat < ((nth f.blocks i).ops.length - k).toNat
                  omega
                · show 0 ≤ (k + 1) ∧ (k + 1) ≤ (nth f.blocks i).ops.length ∧ plainD f = (false && (((nth f.blocks i).ops.drop (k + 1).toNat).all plainO && (f.blocks.drop (i + 1).toNat).all fun b => b.ops.all plainO))
                  -- back 10 of loop 2, path FFFL1TL2TTF
                  clear ih1 ih2
                  exact ⟨by omega, by omega, by rw [pl_step k2 k0 q50, q63, pl_b q68]; rfl⟩
            · refine WpG.go tabOK 15 [(1, .pointer (some ⟨b1, 0, none⟩)), (3, .int .i64 e3), (5, .int .i64 e5), (6, .bool false), (7, .int .i64 i), (52, .int .i64 (k + 1))] rfl ⟨rfl, rfl, rfl, rfl, rfl, (wrk (x := k + 1) (by omega) (by omega)), trivial⟩ ?_
              refine WpG.go tabOK 3 [(1, .pointer (some ⟨b1, 0, none⟩)), (3, .int .i64 e3), (5, .int .i64 e5), (6, .bool false), (7, .int .i64 i), (8, .int .i64 (k + 1))] rfl ⟨rfl, rfl, rfl, rfl, rfl, rfl, trivial⟩ ?_
              refine WpG.dropL (L' := [Chunk.box b1 [.slice A_f_0 f.params.length c_f_0, .int .i64 f.ret, .slice A_f_2 f.blocks.length c_f_2] 25]) (.cons _ (.cons_cons _ .slnil)) ?_
              refine WpG.weaken (G := [(1, .pointer (some ⟨b1, 0, none⟩)), (3, .int .i64 e3), (5, .int .i64 e5), (6, .bool false), (7, .int .i64 i), (8, .int .i64 (k + 1))]) (Known.all ⟨rfl, rfl, rfl, rfl, rfl, rfl, trivial⟩) (ih2 (k + 1, false) ?_ ?_)
              · show ((nth f.blocks i).ops.length - (k + 1)).toNat < ((nth f.blocks i).ops.length - k).toNat
                omega
              · show 0 ≤ (k + 1) ∧ (k + 1) ≤ (nth f.blocks i).ops.length ∧ plainD f = (false && (((nth f.blocks i).ops.drop (k + 1).toNat).all plainO && (f.blocks.drop (i + 1).toNat).all fun b => b.ops.all plainO))
                -- back 11 of loop 2, path FFFL1TL2TF
                clear ih1 ih2
                exact ⟨by omega, by omega, by rw [pl_step k2 k0 q50, q63]; rfl⟩
          · refine WpG.go tabOK 6 [(1, .pointer (some ⟨b1, 0, none⟩)), (3, .int .i64 e3), (5, .int .i64 e5), (6, .bool p2), (41, .int .i64 (i + 1))] rfl ⟨rfl, rfl, rfl, rfl, (wrk (x := i + 1) (by omega) (by omega)), trivial⟩ ?_
            refine WpG.go tabOK 3 [(1, .pointer (some ⟨b1, 0, none⟩)), (3, .int .i64 e3), (5, .int .i64 e5), (6, .bool p2), (7, .int .i64 (i + 1))] rfl ⟨rfl, rfl, rfl, rfl, rfl, trivial⟩ ?_
            refine WpG.weaken (G := [(1, .pointer (some ⟨b1, 0, none⟩)), (3, .int .i64 e3), (5, .int .i64 e5), (6, .bool p2), (7, .int .i64 (i + 1))]) (Known.all ⟨rfl, rfl, rfl, rfl, rfl, trivial⟩) (ih1 (i + 1, p2) ?_ ?_)
            · show (f.blocks.length - (i + 1)).toNat < (f.blocks.length - i).toNat
              omega
            · show 0 ≤ (i + 1) ∧ (i + 1) ≤ f.blocks.length ∧ plainD f = (p2 && (f.blocks.drop (i + 1).toNat).all fun b => b.ops.all plainO)
              -- back 3 of loop 1, path FFFL1TL2F
              clear ih1 ih2
              exact ⟨by omega, by omega, by rw [k2, drop_end k0 q50]; rfl⟩
        · refine WpG.go tabOK 7 [(3, .int .i64 e3), (6, .bool p), (75, .bool (e5 != 0))] rfl ⟨rfl, rfl, rfl, trivial⟩ ?_
          refine WpG.caseN (t := 75) rfl (fun q75 => ?_) (fun q75 => ?_)
          · refine WpG.go tabOK 7 [(2, .bool true)] rfl ⟨rfl, trivial⟩ ?_
            -- return 10, path FFFL1FT
            exact WpG.ret tabOK (L' := []) (.tmp rfl .nil) (.cons _ .slnil) ⟨rfl, rfl⟩
          · refine WpG.go tabOK 3 [(75, .bool false), (77, .bool (e3 == 0)), (78, .bool p)] rfl ⟨rfl, rfl, rfl, trivial⟩ ?_
            refine WpG.y rfl rfl rfl rfl (RunY.eqBool tabOK rfl rfl rfl rfl) ?_
            refine WpG.go tabOK 3 [(2, .bool ((e3 == 0) == p))] rfl ⟨rfl, trivial⟩ ?_
            -- return 11, path FFFL1FF
            exact WpG.ret tabOK (L' := []) (.tmp rfl .nil) (.cons _ .slnil) ⟨congrArg Value.bool (by have z := hpl q75; rw [z, i2, drop_end i0 q39]; simp), rfl⟩
end Go.Proofs.YtdjemlkllbhdlaaGreat

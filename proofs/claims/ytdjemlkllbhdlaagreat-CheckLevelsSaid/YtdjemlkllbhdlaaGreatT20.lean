/- The walks of laws. -/
import Derived.Test.YtdjemlkllbhdlaaGreatSpec15
set_option linter.unusedVariables false
set_option linter.unusedSimpArgs false
namespace Go.Proofs.YtdjemlkllbhdlaaGreat
open Go Go.RowKit
theorem Small4_calls {H : Hp} {f : FuncD} {A_f_0 A_f_2 : Option Addr} {c_f_0 c_f_2 : Nat} (u_f_0 : f.params.length ≤ c_f_0) (r_f_0 : RdS H A_f_0 f.params) (u_f_2 : f.blocks.length ≤ c_f_2) (r_f_2 : RdS H A_f_2 f.blocks) (k_f_0 : I64 f.ret) : CallG Tryz.prog 18 [.agg #[.slice A_f_0 f.params.length c_f_0, .int .i64 f.ret, .slice A_f_2 f.blocks.length c_f_2]] H [] (fun v H' L' => ∃ b, v = .bool b ∧ (b = true → totalF f ≤ 20000) ∧ L' = []) := by
  have rd_f' : Rdc.rd H [.slice A_f_0 f.params.length c_f_0, .int .i64 f.ret, .slice A_f_2 f.blocks.length c_f_2] f := ⟨_, _, _, _, rfl, u_f_0, r_f_0, u_f_2, r_f_2, k_f_0⟩
  have bs := r_f_2.1; have bsp := r_f_0.1
  refine CallG.of Tryz.func18 rfl rfl rfl fun w0 => ?_
  change WpG _ _ _ _ _ _ [(0, .agg #[.slice A_f_0 f.params.length c_f_0, .int .i64 f.ret, .slice A_f_2 f.blocks.length c_f_2])] _ _ _
  refine WpG.go tabOK 2 [(0, .agg #[.slice A_f_0 f.params.length c_f_0, .int .i64 f.ret, .slice A_f_2 f.blocks.length c_f_2])] rfl ⟨rfl, trivial⟩ ?_
  refine WpG.box rfl rfl rfl rfl rfl (fun b1 => ?_)
  refine WpG.go tabOK 5 [(1, .pointer (some ⟨b1, 0, none⟩)), (7, .pointer (some ⟨b1, 0, none⟩))] rfl ⟨rfl, rfl, trivial⟩ ?_
  refine WpG.y rfl rfl rfl rfl (RunY.loadBox (ci := 0) tabOK rfl rfl rfl rfl) ?_
  refine WpG.go tabOK 10 [(1, .pointer (some ⟨b1, 0, none⟩)), (3, .int .i64 (f.params.length : Int)), (4, .int .i64 0)] rfl ⟨rfl, rfl, rfl, trivial⟩ ?_
  refine WpG.ind (σ := Int × Int) (fun z_ => (f.blocks.length - z_.1).toNat) (fun z_ => [(1, .pointer (some ⟨b1, 0, none⟩)), (3, .int .i64 z_.2), (4, .int .i64 z_.1)]) (fun z_ => H) (fun z_ => [Chunk.box b1 [.slice A_f_0 f.params.length c_f_0, .int .i64 f.ret, .slice A_f_2 f.blocks.length c_f_2] 25]) (fun z_ => 0 ≤ z_.1 ∧ z_.1 ≤ f.blocks.length ∧ 0 ≤ z_.2 ∧ z_.2 ≤ 600000000000000 ∧ (z_.2 ≤ 20000 → totalF f = z_.2 + ((f.blocks.drop z_.1.toNat).map blkTot).sum)) ?_ (0, (f.params.length : Int)) ⟨by omega, by omega, by omega, by omega, fun _ => rfl⟩
  rintro ⟨i, n⟩ inv ih1
  change WpG _ _ _ _ _ _ [(1, .pointer (some ⟨b1, 0, none⟩)), (3, .int .i64 n), (4, .int .i64 i)] H [Chunk.box b1 [.slice A_f_0 f.params.length c_f_0, .int .i64 f.ret, .slice A_f_2 f.blocks.length c_f_2] 25] _
  replace inv : 0 ≤ i ∧ i ≤ f.blocks.length ∧ 0 ≤ n ∧ n ≤ 600000000000000 ∧ (n ≤ 20000 → totalF f = n + ((f.blocks.drop i.toNat).map blkTot).sum) := inv
  obtain ⟨i0, i1, i2, i3, i4⟩ := inv
  refine WpG.go tabOK 5 [(1, .pointer (some ⟨b1, 0, none⟩)), (3, .int .i64 n), (4, .int .i64 i), (10, .int .i64 i), (11, .pointer (some ⟨b1, 2, none⟩))] rfl ⟨rfl, rfl, rfl, rfl, rfl, trivial⟩ ?_
  refine WpG.y rfl rfl rfl rfl (RunY.loadBox (ci := 0) tabOK rfl rfl rfl rfl) ?_
  refine WpG.go tabOK 3 [(1, .pointer (some ⟨b1, 0, none⟩)), (3, .int .i64 n), (4, .int .i64 i), (15, .bool (decide (i < (f.blocks.length : Int))))] rfl ⟨rfl, rfl, rfl, rfl, trivial⟩ ?_
  refine WpG.caseD (t := 15) rfl (fun q15 => ?_) (fun q15 => ?_)
  · refine WpG.go tabOK 4 [(1, .pointer (some ⟨b1, 0, none⟩)), (3, .int .i64 n), (4, .int .i64 i), (18, .bool (decide (n ≤ 20000)))] rfl ⟨rfl, rfl, rfl, rfl, trivial⟩ ?_
    refine WpG.caseD (t := 18) rfl (fun q18 => ?_) (fun q18 => ?_)
    · refine WpG.go tabOK 8 [(1, .pointer (some ⟨b1, 0, none⟩)), (4, .int .i64 i), (22, .int .i64 (n + 1))] rfl ⟨rfl, rfl, (wrk (x := n + 1) (by omega) (by omega)), trivial⟩ ?_
      refine WpG.go tabOK 1 [(1, .pointer (some ⟨b1, 0, none⟩)), (4, .int .i64 i), (22, .int .i64 (n + 1)), (23, .pointer (some ⟨b1, 2, none⟩))] rfl ⟨rfl, rfl, rfl, rfl, trivial⟩ ?_
      refine WpG.y rfl rfl rfl rfl (RunY.loadBox (ci := 0) tabOK rfl rfl rfl rfl) ?_
      refine WpG.go tabOK 1 [(1, .pointer (some ⟨b1, 0, none⟩)), (4, .int .i64 i), (22, .int .i64 (n + 1)), (24, .slice A_f_2 f.blocks.length c_f_2), (25, .int .i64 i)] rfl ⟨rfl, rfl, rfl, rfl, rfl, trivial⟩ ?_
      refine WpG.indexR tabOK rfl rfl rfl rfl rfl rfl rfl rfl rfl r_f_2 (by omega) (by omega) ?_
      rintro x2 hx2 b2 o2 cs2 rd2 hc2
      have rd2' := rd2; obtain ⟨A2_0, c2_0, A2_1, c2_1, A2_4, c2_4, rfl, u2_0, r2_0, u2_1, r2_1, u2_4, r2_4, k2_0, k2_1⟩ := rd2
      have bz2_0 := r2_0.1
      have bz2_1 := r2_1.1
      have bz2_4 := r2_4.1
      obtain rfl : x2 = (nth f.blocks i) := hx2
      refine WpG.go tabOK 2 [(1, .pointer (some ⟨b1, 0, none⟩)), (4, .int .i64 i), (22, .int .i64 (n + 1)), (28, .pointer (some ⟨b2, ((o2 + 2) + 2), none⟩))] rfl ⟨rfl, rfl, rfl, rfl, trivial⟩ ?_
      refine WpG.y rfl rfl rfl rfl (RunY.loadH tabOK (hc2.sub 4 1) (Hp.le.refl _) rfl rfl rfl rfl) ?_
      refine WpG.go tabOK 2 [(1, .pointer (some ⟨b1, 0, none⟩)), (4, .int .i64 i), (31, .int .i64 ((n + 1) + ((nth f.blocks i).en.to.length : Int)))] rfl ⟨rfl, rfl, (wrk (x := (n + 1) + ((nth f.blocks i).en.to.length : Int)) (by omega) (by omega)), trivial⟩ ?_
      refine WpG.go tabOK 9 [(1, .pointer (some ⟨b1, 0, none⟩)), (3, .int .i64 ((n + 1) + ((nth f.blocks i).en.to.length : Int))), (4, .int .i64 i), (5, .int .i64 0)] rfl ⟨rfl, rfl, rfl, rfl, trivial⟩ ?_
      refine WpG.ind (σ := Int × Int) (fun z_ => ((nth f.blocks i).phis.length - z_.1).toNat) (fun z_ => [(1, .pointer (some ⟨b1, 0, none⟩)), (3, .int .i64 z_.2), (4, .int .i64 i), (5, .int .i64 z_.1)]) (fun z_ => H) (fun z_ => [Chunk.box b1 [.slice A_f_0 f.params.length c_f_0, .int .i64 f.ret, .slice A_f_2 f.blocks.length c_f_2] 25]) (fun z_ => 0 ≤ z_.1 ∧ z_.1 ≤ (nth f.blocks i).phis.length ∧ 0 ≤ z_.2 ∧ z_.2 ≤ 600000000000000 ∧ (z_.2 ≤ 20000 → totalF f = z_.2 + (((((nth f.blocks i).phis.drop z_.1.toNat).map phiTot).sum + ((nth f.blocks i).ops.map opTot).sum) + ((f.blocks.drop (i + 1).toNat).map blkTot).sum))) ?_ (0, (n + 1) + ((nth f.blocks i).en.to.length : Int)) ⟨by omega, by omega, by omega, by omega, fun h => by have h5 := i4 (by omega); rw [sum_step i0 q15] at h5; have eb : blkTot (nth f.blocks i) = 1 + ((nth f.blocks i).en.to.length : Int) + (((nth f.blocks i).phis.map phiTot).sum + ((nth f.blocks i).ops.map opTot).sum) := rfl; simp only [Int.toNat_zero, List.drop_zero]; omega⟩
      rintro ⟨j, n2⟩ inv ih2
      change WpG _ _ _ _ _ _ [(1, .pointer (some ⟨b1, 0, none⟩)), (3, .int .i64 n2), (4, .int .i64 i), (5, .int .i64 j)] H [Chunk.box b1 [.slice A_f_0 f.params.length c_f_0, .int .i64 f.ret, .slice A_f_2 f.blocks.length c_f_2] 25] _
      replace inv : 0 ≤ j ∧ j ≤ (nth f.blocks i).phis.length ∧ 0 ≤ n2 ∧ n2 ≤ 600000000000000 ∧ (n2 ≤ 20000 → totalF f = n2 + (((((nth f.blocks i).phis.drop j.toNat).map phiTot).sum + ((nth f.blocks i).ops.map opTot).sum) + ((f.blocks.drop (i + 1).toNat).map blkTot).sum)) := inv
      obtain ⟨j0, j1, j2, j3, j4⟩ := inv
      refine WpG.go tabOK 5 [(1, .pointer (some ⟨b1, 0, none⟩)), (3, .int .i64 n2), (4, .int .i64 i), (5, .int .i64 j), (32, .int .i64 j), (33, .pointer (some ⟨b1, 2, none⟩))] rfl ⟨rfl, rfl, rfl, rfl, rfl, rfl, trivial⟩ ?_
      refine WpG.y rfl rfl rfl rfl (RunY.loadBox (ci := 0) tabOK rfl rfl rfl rfl) ?_
      refine WpG.go tabOK 1 [(1, .pointer (some ⟨b1, 0, none⟩)), (3, .int .i64 n2), (4, .int .i64 i), (5, .int .i64 j), (32, .int .i64 j), (34, .slice A_f_2 f.blocks.length c_f_2), (35, .int .i64 i)] rfl ⟨rfl, rfl, rfl, rfl, rfl, rfl, rfl, trivial⟩ ?_
      refine WpG.indexR tabOK rfl rfl rfl rfl rfl rfl rfl rfl rfl r_f_2 (by omega) (by omega) ?_
      rintro x3 hx3 b3 o3 cs3 rd3 hc3
      have rd3' := rd3; obtain ⟨A3_0, c3_0, A3_1, c3_1, A3_4, c3_4, rfl, u3_0, r3_0, u3_1, r3_1, u3_4, r3_4, k3_0, k3_1⟩ := rd3
      have bz3_0 := r3_0.1
      have bz3_1 := r3_1.1
      have bz3_4 := r3_4.1
      obtain rfl : x3 = (nth f.blocks i) := hx3
      refine WpG.go tabOK 1 [(1, .pointer (some ⟨b1, 0, none⟩)), (3, .int .i64 n2), (4, .int .i64 i), (5, .int .i64 j), (32, .int .i64 j), (37, .pointer (some ⟨b3, o3, none⟩))] rfl ⟨rfl, rfl, rfl, rfl, rfl, rfl, trivial⟩ ?_
      refine WpG.y rfl rfl rfl rfl (RunY.loadH tabOK (hc3.sub 0 1) (Hp.le.refl _) rfl rfl rfl rfl) ?_
      refine WpG.go tabOK 3 [(1, .pointer (some ⟨b1, 0, none⟩)), (3, .int .i64 n2), (4, .int .i64 i), (5, .int .i64 j), (41, .bool (decide (j < ((nth f.blocks i).phis.length : Int))))] rfl ⟨rfl, rfl, rfl, rfl, rfl, trivial⟩ ?_
      refine WpG.caseD (t := 41) rfl (fun q41 => ?_) (fun q41 => ?_)
      · refine WpG.go tabOK 4 [(1, .pointer (some ⟨b1, 0, none⟩)), (3, .int .i64 n2), (4, .int .i64 i), (5, .int .i64 j), (44, .bool (decide (n2 ≤ 20000)))] rfl ⟨rfl, rfl, rfl, rfl, rfl, trivial⟩ ?_
        refine WpG.caseD (t := 44) rfl (fun q44 => ?_) (fun q44 => ?_)
        · refine WpG.go tabOK 4 [(1, .pointer (some ⟨b1, 0, none⟩)), (3, .int .i64 n2), (4, .int .i64 i), (5, .int .i64 j)] rfl ⟨rfl, rfl, rfl, rfl, trivial⟩ ?_
          refine WpG.draw 27 [Chunk.box b1 [.slice A_f_0 f.params.length c_f_0, .int .i64 f.ret, .slice A_f_2 f.blocks.length c_f_2] 25] mixed (by kernel_rfl) ?_
          refine WpD.go (listed' := lst 27 3) tabOK [0, 1] [(1, .pointer (some ⟨b1, 0, none⟩)), (3, .int .i64 n2), (4, .int .i64 i), (5, .int .i64 j), (48, .int .i64 (n2 + 1))] (by kernel_rfl) rfl ⟨rfl, rfl, rfl, rfl, (wrk (x := n2 + 1) (by omega) (by omega)), trivial⟩ (Hp.le.refl _) (Hp.le.refl _) (.cons_cons _ .slnil) ?_
          refine WpD.go (listed' := lst 27 1130775) tabOK [2, 4, 8, 14, 16, 20] [(1, .pointer (some ⟨b1, 0, none⟩)), (3, .int .i64 n2), (4, .int .i64 i), (5, .int .i64 j), (48, .int .i64 (n2 + 1)), (49, .pointer (some ⟨b1, 2, none⟩)), (51, .int .i64 i), (55, .int .i64 j), (61, .pointer (some ⟨b1, 2, none⟩)), (63, .int .i64 i), (67, .int .i64 j)] (by kernel_rfl) rfl ⟨rfl, rfl, rfl, rfl, rfl, rfl, rfl, rfl, rfl, rfl, rfl, trivial⟩ (Hp.le.refl _) (Hp.le.refl _) (.cons_cons _ .slnil) ?_
          refine WpD.y (i := 3) (fuel := 18) (listed' := lst 27 1130783) (by kernel_rfl) rfl rfl rfl rfl (Hp.le.refl _) (Hp.le.refl _) (.cons_cons _ .slnil) (RunY.loadBox (ci := 0) tabOK rfl rfl rfl rfl) ?_
          refine WpD.indexR (i := 5) (fuel := 17) (listed' := lst 27 1130815) tabOK (by kernel_rfl) rfl rfl rfl rfl rfl rfl rfl rfl rfl (Hp.le.refl _) (Hp.le.refl _) (.cons_cons _ .slnil) r_f_2 (by omega) (by omega) ?_
          rintro x4 hx4 b4 o4 cs4 rd4 hc4
          have rd4' := rd4; obtain ⟨A4_0, c4_0, A4_1, c4_1, A4_4, c4_4, rfl, u4_0, r4_0, u4_1, r4_1, u4_4, r4_4, k4_0, k4_1⟩ := rd4
          have bz4_0 := r4_0.1
          have bz4_1 := r4_1.1
          have bz4_4 := r4_4.1
          obtain rfl : x4 = (nth f.blocks i) := hx4
          refine WpD.go (listed' := lst 27 1130879) tabOK [6] [(1, .pointer (some ⟨b1, 0, none⟩)), (3, .int .i64 n2), (4, .int .i64 i), (5, .int .i64 j), (48, .int .i64 (n2 + 1)), (53, .pointer (some ⟨b4, o4, none⟩)), (55, .int .i64 j), (61, .pointer (some ⟨b1, 2, none⟩)), (63, .int .i64 i), (67, .int .i64 j)] (by kernel_rfl) rfl ⟨rfl, rfl, rfl, rfl, rfl, rfl, rfl, rfl, rfl, rfl, trivial⟩ (Hp.le.refl _) (Hp.le.refl _) (.cons_cons _ .slnil) ?_
          refine WpD.y (i := 7) (fuel := 15) (listed' := lst 27 1131007) (by kernel_rfl) rfl rfl rfl rfl (Hp.le.refl _) (Hp.le.refl _) (.cons_cons _ .slnil) (RunY.loadH tabOK (hc4.sub 0 1) (Hp.le.refl _) rfl rfl rfl rfl) ?_
          refine WpD.indexR (i := 9) (fuel := 14) (listed' := lst 27 1131519) tabOK (by kernel_rfl) rfl rfl rfl rfl rfl rfl rfl rfl rfl (Hp.le.refl _) (Hp.le.refl _) (.cons_cons _ .slnil) r4_0 (by omega) (by omega) ?_
          rintro x5 hx5 b5 o5 cs5 rd5 hc5
          have rd5' := rd5; obtain ⟨A5_2, c5_2, A5_3, c5_3, rfl, u5_2, r5_2, u5_3, r5_3, k5_0, k5_1⟩ := rd5
          have bz5_2 := r5_2.1
          have bz5_3 := r5_3.1
          obtain rfl : x5 = (nth ((nth f.blocks i).phis) j) := hx5
          refine WpD.go (listed' := lst 27 1132543) tabOK [10] [(1, .pointer (some ⟨b1, 0, none⟩)), (3, .int .i64 n2), (4, .int .i64 i), (5, .int .i64 j), (48, .int .i64 (n2 + 1)), (57, .pointer (some ⟨b5, (o5 + 2), none⟩)), (61, .pointer (some ⟨b1, 2, none⟩)), (63, .int .i64 i), (67, .int .i64 j)] (by kernel_rfl) rfl ⟨rfl, rfl, rfl, rfl, rfl, rfl, rfl, rfl, rfl, trivial⟩ (Hp.le.refl _) (Hp.le.refl _) (.cons_cons _ .slnil) ?_
          refine WpD.y (i := 11) (fuel := 12) (listed' := lst 27 1134591) (by kernel_rfl) rfl rfl rfl rfl (Hp.le.refl _) (Hp.le.refl _) (.cons_cons _ .slnil) (RunY.loadH tabOK (hc5.sub 2 1) (Hp.le.refl _) rfl rfl rfl rfl) ?_
          refine WpD.go (listed' := lst 27 1146879) tabOK [12, 13] [(1, .pointer (some ⟨b1, 0, none⟩)), (3, .int .i64 n2), (4, .int .i64 i), (5, .int .i64 j), (60, .int .i64 ((n2 + 1) + ((nth ((nth f.blocks i).phis) j).frm.length : Int))), (61, .pointer (some ⟨b1, 2, none⟩)), (63, .int .i64 i), (67, .int .i64 j)] (by kernel_rfl) rfl ⟨rfl, rfl, rfl, rfl, (wrk (x := (n2 + 1) + ((nth ((nth f.blocks i).phis) j).frm.length : Int)) (by omega) (by omega)), rfl, rfl, rfl, trivial⟩ (Hp.le.refl _) (Hp.le.refl _) (.cons_cons _ .slnil) ?_
          refine WpD.y (i := 15) (fuel := 9) (listed' := lst 27 1179647) (by kernel_rfl) rfl rfl rfl rfl (Hp.le.refl _) (Hp.le.refl _) (.cons_cons _ .slnil) (RunY.loadBox (ci := 0) tabOK rfl rfl rfl rfl) ?_
          refine WpD.indexR (i := 17) (fuel := 8) (listed' := lst 27 1310719) tabOK (by kernel_rfl) rfl rfl rfl rfl rfl rfl rfl rfl rfl (Hp.le.refl _) (Hp.le.refl _) (.cons_cons _ .slnil) r_f_2 (by omega) (by omega) ?_
          rintro x6 hx6 b6 o6 cs6 rd6 hc6
          have rd6' := rd6; obtain ⟨A6_0, c6_0, A6_1, c6_1, A6_4, c6_4, rfl, u6_0, r6_0, u6_1, r6_1, u6_4, r6_4, k6_0, k6_1⟩ := rd6
          have bz6_0 := r6_0.1
          have bz6_1 := r6_1.1
          have bz6_4 := r6_4.1
          obtain rfl : x6 = (nth f.blocks i) := hx6
          refine WpD.go (listed' := lst 27 1572863) tabOK [18] [(1, .pointer (some ⟨b1, 0, none⟩)), (3, .int .i64 n2), (4, .int .i64 i), (5, .int .i64 j), (60, .int .i64 ((n2 + 1) + ((nth ((nth f.blocks i).phis) j).frm.length : Int))), (65, .pointer (some ⟨b6, o6, none⟩)), (67, .int .i64 j)] (by kernel_rfl) rfl ⟨rfl, rfl, rfl, rfl, rfl, rfl, rfl, trivial⟩ (Hp.le.refl _) (Hp.le.refl _) (.cons_cons _ .slnil) ?_
          refine WpD.y (i := 19) (fuel := 6) (listed' := lst 27 2097151) (by kernel_rfl) rfl rfl rfl rfl (Hp.le.refl _) (Hp.le.refl _) (.cons_cons _ .slnil) (RunY.loadH tabOK (hc6.sub 0 1) (Hp.le.refl _) rfl rfl rfl rfl) ?_
          refine WpD.indexR (i := 21) (fuel := 5) (listed' := lst 27 4194303) tabOK (by kernel_rfl) rfl rfl rfl rfl rfl rfl rfl rfl rfl (Hp.le.refl _) (Hp.le.refl _) (.cons_cons _ .slnil) r6_0 (by omega) (by omega) ?_
          rintro x7 hx7 b7 o7 cs7 rd7 hc7
          have rd7' := rd7; obtain ⟨A7_2, c7_2, A7_3, c7_3, rfl, u7_2, r7_2, u7_3, r7_3, k7_0, k7_1⟩ := rd7
          have bz7_2 := r7_2.1
          have bz7_3 := r7_3.1
          obtain rfl : x7 = (nth ((nth f.blocks i).phis) j) := hx7
          refine WpD.go (listed' := lst 27 8388607) tabOK [22] [(1, .pointer (some ⟨b1, 0, none⟩)), (3, .int .i64 n2), (4, .int .i64 i), (5, .int .i64 j), (60, .int .i64 ((n2 + 1) + ((nth ((nth f.blocks i).phis) j).frm.length : Int))), (69, .pointer (some ⟨b7, (o7 + 3), none⟩))] (by kernel_rfl) rfl ⟨rfl, rfl, rfl, rfl, rfl, rfl, trivial⟩ (Hp.le.refl _) (Hp.le.refl _) (.cons_cons _ .slnil) ?_
          refine WpD.y (i := 23) (fuel := 3) (listed' := lst 27 16777215) (by kernel_rfl) rfl rfl rfl rfl (Hp.le.refl _) (Hp.le.refl _) (.cons_cons _ .slnil) (RunY.loadH tabOK (hc7.sub 3 1) (Hp.le.refl _) rfl rfl rfl rfl) ?_
          refine WpD.go (listed' := lst 27 67108863) tabOK [24, 25] [(1, .pointer (some ⟨b1, 0, none⟩)), (3, .int .i64 n2), (4, .int .i64 i), (5, .int .i64 j), (72, .int .i64 (((n2 + 1) + ((nth ((nth f.blocks i).phis) j).frm.length : Int)) + ((nth ((nth f.blocks i).phis) j).args.length : Int)))] (by kernel_rfl) rfl ⟨rfl, rfl, rfl, rfl, (wrk (x := ((n2 + 1) + ((nth ((nth f.blocks i).phis) j).frm.length : Int)) + ((nth ((nth f.blocks i).phis) j).args.length : Int)) (by omega) (by omega)), trivial⟩ (Hp.le.refl _) (Hp.le.refl _) (.cons_cons _ .slnil) ?_
          refine WpD.go (listed' := lst 27 134217727) tabOK [26] [(1, .pointer (some ⟨b1, 0, none⟩)), (3, .int .i64 (((n2 + 1) + ((nth ((nth f.blocks i).phis) j).frm.length : Int)) + ((nth ((nth f.blocks i).phis) j).args.length : Int))), (4, .int .i64 i), (5, .int .i64 j)] (by kernel_rfl) rfl ⟨rfl, rfl, rfl, rfl, trivial⟩ (Hp.le.refl _) (Hp.le.refl _) (.cons_cons _ .slnil) ?_
          refine WpD.done (by kernel_rfl) ?_
          refine WpG.go tabOK 4 [(1, .pointer (some ⟨b1, 0, none⟩)), (3, .int .i64 (((n2 + 1) + ((nth ((nth f.blocks i).phis) j).frm.length : Int)) + ((nth ((nth f.blocks i).phis) j).args.length : Int))), (4, .int .i64 i), (46, .int .i64 (j + 1))] rfl ⟨rfl, rfl, rfl, (wrk (x := j + 1) (by omega) (by omega)), trivial⟩ ?_
          refine WpG.go tabOK 3 [(1, .pointer (some ⟨b1, 0, none⟩)), (3, .int .i64 (((n2 + 1) + ((nth ((nth f.blocks i).phis) j).frm.length : Int)) + ((nth ((nth f.blocks i).phis) j).args.length : Int))), (4, .int .i64 i), (5, .int .i64 (j + 1))] rfl ⟨rfl, rfl, rfl, rfl, trivial⟩ ?_
          refine WpG.weaken (G := [(1, .pointer (some ⟨b1, 0, none⟩)), (3, .int .i64 (((n2 + 1) + ((nth ((nth f.blocks i).phis) j).frm.length : Int)) + ((nth ((nth f.blocks i).phis) j).args.length : Int))), (4, .int .i64 i), (5, .int .i64 (j + 1))]) (Known.all ⟨rfl, rfl, rfl, rfl, trivial⟩) (ih2 (j + 1, ((n2 + 1) + ((nth ((nth f.blocks i).phis) j).frm.length : Int)) + ((nth ((nth f.blocks i).phis) j).args.length : Int)) ?_ ?_)
          · show ((nth f.blocks i).phis.length - (j + 1)).toNat < ((nth f.blocks i).phis.length - j).toNat
            omega
          · show 0 ≤ (j + 1) ∧ (j + 1) ≤ (nth f.blocks i).phis.length ∧ 0 ≤ (((n2 + 1) + ((nth ((nth f.blocks i).phis) j).frm.length : Int)) + ((nth ((nth f.blocks i).phis) j).args.length : Int)) ∧ (((n2 + 1) + ((nth ((nth f.blocks i).phis) j).frm.length : Int)) + ((nth ((nth f.blocks i).phis) j).args.length : Int)) ≤ 600000000000000 ∧ ((((n2 + 1) + ((nth ((nth f.blocks i).phis) j).frm.length : Int)) + ((nth ((nth f.blocks i).phis) j).args.length : Int)) ≤ 20000 → totalF f = (((n2 + 1) + ((nth ((nth f.blocks i).phis) j).frm.length : Int)) + ((nth ((nth f.blocks i).phis) j).args.length : Int)) + (((((nth f.blocks i).phis.drop (j + 1).toNat).map phiTot).sum + ((nth f.blocks i).ops.map opTot).sum) + ((f.blocks.drop (i + 1).toNat).map blkTot).sum))
            -- back 0 of loop 2, path L1TTL2TT
            clear ih1 ih2
            exact ⟨by omega, by omega, by omega, by omega, fun h => by have h5 := j4 (by omega); rw [sum_step j0 q41] at h5; have eb : phiTot (nth (nth f.blocks i).phis j) = 1 + ((nth (nth f.blocks i).phis j).frm.length : Int) + (nth (nth f.blocks i).phis j).args.length := rfl; omega⟩
        · refine WpG.go tabOK 8 [(1, .pointer (some ⟨b1, 0, none⟩)), (3, .int .i64 n2), (4, .int .i64 i), (6, .int .i64 0)] rfl ⟨rfl, rfl, rfl, rfl, trivial⟩ ?_
          refine WpG.ind (σ := Int × Int) (fun z_ => ((nth f.blocks i).ops.length - z_.1).toNat) (fun z_ => [(1, .pointer (some ⟨b1, 0, none⟩)), (3, .int .i64 z_.2), (4, .int .i64 i), (6, .int .i64 z_.1)]) (fun z_ => H) (fun z_ => [Chunk.box b1 [.slice A_f_0 f.params.length c_f_0, .int .i64 f.ret, .slice A_f_2 f.blocks.length c_f_2] 25]) (fun z_ => 0 ≤ z_.1 ∧ z_.1 ≤ (nth f.blocks i).ops.length ∧ 0 ≤ z_.2 ∧ z_.2 ≤ 600000000000000 ∧ (z_.2 ≤ 20000 → totalF f = z_.2 + ((((nth f.blocks i).ops.drop z_.1.toNat).map opTot).sum + ((f.blocks.drop (i + 1).toNat).map blkTot).sum))) ?_ (0, n2) ⟨by omega, by omega, by omega, by omega, fun h => by first | (exfalso; omega) | (have h5 := j4 (by omega); rw [sum_end q41] at h5; simp only [Int.toNat_zero, List.drop_zero]; omega)⟩
          rintro ⟨k, n3⟩ inv ih3
          change WpG _ _ _ _ _ _ [(1, .pointer (some ⟨b1, 0, none⟩)), (3, .int .i64 n3), (4, .int .i64 i), (6, .int .i64 k)] H [Chunk.box b1 [.slice A_f_0 f.params.length c_f_0, .int .i64 f.ret, .slice A_f_2 f.blocks.length c_f_2] 25] _
          replace inv : 0 ≤ k ∧ k ≤ (nth f.blocks i).ops.length ∧ 0 ≤ n3 ∧ n3 ≤ 600000000000000 ∧ (n3 ≤ 20000 → totalF f = n3 + ((((nth f.blocks i).ops.drop k.toNat).map opTot).sum + ((f.blocks.drop (i + 1).toNat).map blkTot).sum)) := inv
          obtain ⟨k0, k1, k2, k3, k4⟩ := inv
          refine WpG.go tabOK 5 [(1, .pointer (some ⟨b1, 0, none⟩)), (3, .int .i64 n3), (4, .int .i64 i), (6, .int .i64 k), (73, .int .i64 k), (74, .pointer (some ⟨b1, 2, none⟩))] rfl ⟨rfl, rfl, rfl, rfl, rfl, rfl, trivial⟩ ?_
          refine WpG.y rfl rfl rfl rfl (RunY.loadBox (ci := 0) tabOK rfl rfl rfl rfl) ?_
          refine WpG.go tabOK 1 [(1, .pointer (some ⟨b1, 0, none⟩)), (3, .int .i64 n3), (4, .int .i64 i), (6, .int .i64 k), (73, .int .i64 k), (75, .slice A_f_2 f.blocks.length c_f_2), (76, .int .i64 i)] rfl ⟨rfl, rfl, rfl, rfl, rfl, rfl, rfl, trivial⟩ ?_
          refine WpG.indexR tabOK rfl rfl rfl rfl rfl rfl rfl rfl rfl r_f_2 (by omega) (by omega) ?_
          rintro x8 hx8 b8 o8 cs8 rd8 hc8
          have rd8' := rd8; obtain ⟨A8_0, c8_0, A8_1, c8_1, A8_4, c8_4, rfl, u8_0, r8_0, u8_1, r8_1, u8_4, r8_4, k8_0, k8_1⟩ := rd8
          have bz8_0 := r8_0.1
          have bz8_1 := r8_1.1
          have bz8_4 := r8_4.1
          obtain rfl : x8 = (nth f.blocks i) := hx8
          refine WpG.go tabOK 1 [(1, .pointer (some ⟨b1, 0, none⟩)), (3, .int .i64 n3), (4, .int .i64 i), (6, .int .i64 k), (73, .int .i64 k), (78, .pointer (some ⟨b8, (o8 + 1), none⟩))] rfl ⟨rfl, rfl, rfl, rfl, rfl, rfl, trivial⟩ ?_
          refine WpG.y rfl rfl rfl rfl (RunY.loadH tabOK (hc8.sub 1 1) (Hp.le.refl _) rfl rfl rfl rfl) ?_
          refine WpG.go tabOK 3 [(1, .pointer (some ⟨b1, 0, none⟩)), (3, .int .i64 n3), (4, .int .i64 i), (6, .int .i64 k), (82, .bool (decide (k < ((nth f.blocks i).ops.length : Int))))] rfl ⟨rfl, rfl, rfl, rfl, rfl, trivial⟩ ?_
          refine WpG.caseD (t := 82) rfl (fun q82 => ?_) (fun q82 => ?_)
          · refine WpG.go tabOK 4 [(1, .pointer (some ⟨b1, 0, none⟩)), (3, .int .i64 n3), (4, .int .i64 i), (6, .int .i64 k), (85, .bool (decide (n3 ≤ 20000)))] rfl ⟨rfl, rfl, rfl, rfl, rfl, trivial⟩ ?_
            refine WpG.caseD (t := 85) rfl (fun q85 => ?_) (fun q85 => ?_)
            · refine WpG.go tabOK 7 [(1, .pointer (some ⟨b1, 0, none⟩)), (4, .int .i64 i), (6, .int .i64 k), (89, .int .i64 (n3 + 1))] rfl ⟨rfl, rfl, rfl, (wrk (x := n3 + 1) (by omega) (by omega)), trivial⟩ ?_
              refine WpG.go tabOK 1 [(1, .pointer (some ⟨b1, 0, none⟩)), (4, .int .i64 i), (6, .int .i64 k), (89, .int .i64 (n3 + 1)), (90, .pointer (some ⟨b1, 2, none⟩))] rfl ⟨rfl, rfl, rfl, rfl, rfl, trivial⟩ ?_
              refine WpG.y rfl rfl rfl rfl (RunY.loadBox (ci := 0) tabOK rfl rfl rfl rfl) ?_
              refine WpG.go tabOK 1 [(1, .pointer (some ⟨b1, 0, none⟩)), (4, .int .i64 i), (6, .int .i64 k), (89, .int .i64 (n3 + 1)), (91, .slice A_f_2 f.blocks.length c_f_2), (92, .int .i64 i)] rfl ⟨rfl, rfl, rfl, rfl, rfl, rfl, trivial⟩ ?_
              refine WpG.indexR tabOK rfl rfl rfl rfl rfl rfl rfl rfl rfl r_f_2 (by omega) (by omega) ?_
              rintro x9 hx9 b9 o9 cs9 rd9 hc9
              have rd9' := rd9; obtain ⟨A9_0, c9_0, A9_1, c9_1, A9_4, c9_4, rfl, u9_0, r9_0, u9_1, r9_1, u9_4, r9_4, k9_0, k9_1⟩ := rd9
              have bz9_0 := r9_0.1
              have bz9_1 := r9_1.1
              have bz9_4 := r9_4.1
              obtain rfl : x9 = (nth f.blocks i) := hx9
              refine WpG.go tabOK 1 [(1, .pointer (some ⟨b1, 0, none⟩)), (4, .int .i64 i), (6, .int .i64 k), (89, .int .i64 (n3 + 1)), (94, .pointer (some ⟨b9, (o9 + 1), none⟩))] rfl ⟨rfl, rfl, rfl, rfl, rfl, trivial⟩ ?_
              refine WpG.y rfl rfl rfl rfl (RunY.loadH tabOK (hc9.sub 1 1) (Hp.le.refl _) rfl rfl rfl rfl) ?_
              refine WpG.go tabOK 1 [(1, .pointer (some ⟨b1, 0, none⟩)), (4, .int .i64 i), (6, .int .i64 k), (89, .int .i64 (n3 + 1)), (95, .slice A9_1 ((nth f.blocks i).ops.length) c9_1), (96, .int .i64 k)] rfl ⟨rfl, rfl, rfl, rfl, rfl, rfl, trivial⟩ ?_
              refine WpG.indexR tabOK rfl rfl rfl rfl rfl rfl rfl rfl rfl r9_1 (by omega) (by omega) ?_
              rintro x10 hx10 b10 o10 cs10 rd10 hc10
              have rd10' := rd10; obtain ⟨A10_4, c10_4, rfl, u10_4, r10_4, k10_0, k10_1, k10_2, k10_3, k10_4⟩ := rd10
              have bz10_4 := r10_4.1
              obtain rfl : x10 = (nth ((nth f.blocks i).ops) k) := hx10
              refine WpG.go tabOK 1 [(1, .pointer (some ⟨b1, 0, none⟩)), (4, .int .i64 i), (6, .int .i64 k), (89, .int .i64 (n3 + 1)), (98, .pointer (some ⟨b10, (o10 + 4), none⟩))] rfl ⟨rfl, rfl, rfl, rfl, rfl, trivial⟩ ?_
              refine WpG.y rfl rfl rfl rfl (RunY.loadH tabOK (hc10.sub 4 1) (Hp.le.refl _) rfl rfl rfl rfl) ?_
              refine WpG.go tabOK 2 [(1, .pointer (some ⟨b1, 0, none⟩)), (4, .int .i64 i), (6, .int .i64 k), (101, .int .i64 ((n3 + 1) + ((nth ((nth f.blocks i).ops) k).args.length : Int)))] rfl ⟨rfl, rfl, rfl, (wrk (x := (n3 + 1) + ((nth ((nth f.blocks i).ops) k).args.length : Int)) (by omega) (by omega)), trivial⟩ ?_
              refine WpG.go tabOK 6 [(1, .pointer (some ⟨b1, 0, none⟩)), (3, .int .i64 ((n3 + 1) + ((nth ((nth f.blocks i).ops) k).args.length : Int))), (4, .int .i64 i), (87, .int .i64 (k + 1))] rfl ⟨rfl, rfl, rfl, (wrk (x := k + 1) (by omega) (by omega)), trivial⟩ ?_
              refine WpG.go tabOK 3 [(1, .pointer (some ⟨b1, 0, none⟩)), (3, .int .i64 ((n3 + 1) + ((nth ((nth f.blocks i).ops) k).args.length : Int))), (4, .int .i64 i), (6, .int .i64 (k + 1))] rfl ⟨rfl, rfl, rfl, rfl, trivial⟩ ?_
              refine WpG.weaken (G := [(1, .pointer (some ⟨b1, 0, none⟩)), (3, .int .i64 ((n3 + 1) + ((nth ((nth f.blocks i).ops) k).args.length : Int))), (4, .int .i64 i), (6, .int .i64 (k + 1))]) (Known.all ⟨rfl, rfl, rfl, rfl, trivial⟩) (ih3 (k + 1, (n3 + 1) + ((nth ((nth f.blocks i).ops) k).args.length : Int)) ?_ ?_)
              · show ((nth f.blocks i).ops.length - (k + 1)).toNat < ((nth f.blocks i).ops.length - k).toNat
                omega
              · show 0 ≤ (k + 1) ∧ (k + 1) ≤ (nth f.blocks i).ops.length ∧ 0 ≤ ((n3 + 1) + ((nth ((nth f.blocks i).ops) k).args.length : Int)) ∧ ((n3 + 1) + ((nth ((nth f.blocks i).ops) k).args.length : Int)) ≤ 600000000000000 ∧ (((n3 + 1) + ((nth ((nth f.blocks i).ops) k).args.length : Int)) ≤ 20000 → totalF f = ((n3 + 1) + ((nth ((nth f.blocks i).ops) k).args.length : Int)) + ((((nth f.blocks i).ops.drop (k + 1).toNat).map opTot).sum + ((f.blocks.drop (i + 1).toNat).map blkTot).sum))
                -- back 0 of loop 3, path L1TTL2TFL3TT
                clear ih1 ih2 ih3
                exact ⟨by omega, by omega, by omega, by omega, fun h => by have h5 := k4 (by omega); rw [sum_step k0 q82] at h5; have eb : opTot (nth (nth f.blocks i).ops k) = 1 + ((nth (nth f.blocks i).ops k).args.length : Int) := rfl; omega⟩
            · refine WpG.go tabOK 6 [(1, .pointer (some ⟨b1, 0, none⟩)), (3, .int .i64 n3), (20, .int .i64 (i + 1))] rfl ⟨rfl, rfl, (wrk (x := i + 1) (by omega) (by omega)), trivial⟩ ?_
              refine WpG.go tabOK 3 [(1, .pointer (some ⟨b1, 0, none⟩)), (3, .int .i64 n3), (4, .int .i64 (i + 1))] rfl ⟨rfl, rfl, rfl, trivial⟩ ?_
              refine WpG.weaken (G := [(1, .pointer (some ⟨b1, 0, none⟩)), (3, .int .i64 n3), (4, .int .i64 (i + 1))]) (Known.all ⟨rfl, rfl, rfl, trivial⟩) (ih1 (i + 1, n3) ?_ ?_)
              · show (f.blocks.length - (i + 1)).toNat < (f.blocks.length - i).toNat
                omega
              · show 0 ≤ (i + 1) ∧ (i + 1) ≤ f.blocks.length ∧ 0 ≤ n3 ∧ n3 ≤ 600000000000000 ∧ (n3 ≤ 20000 → totalF f = n3 + ((f.blocks.drop (i + 1).toNat).map blkTot).sum)
                -- back 0 of loop 1, path L1TTL2TFL3TF
                clear ih1 ih2 ih3
                exact ⟨by omega, by omega, by omega, by omega, fun h => by first | (exfalso; omega) | (have h5 := k4 (by omega); rw [sum_end q82] at h5; omega)⟩
          · refine WpG.go tabOK 10 [(1, .pointer (some ⟨b1, 0, none⟩)), (3, .int .i64 n3), (20, .int .i64 (i + 1))] rfl ⟨rfl, rfl, (wrk (x := i + 1) (by omega) (by omega)), trivial⟩ ?_
            refine WpG.go tabOK 3 [(1, .pointer (some ⟨b1, 0, none⟩)), (3, .int .i64 n3), (4, .int .i64 (i + 1))] rfl ⟨rfl, rfl, rfl, trivial⟩ ?_
            refine WpG.weaken (G := [(1, .pointer (some ⟨b1, 0, none⟩)), (3, .int .i64 n3), (4, .int .i64 (i + 1))]) (Known.all ⟨rfl, rfl, rfl, trivial⟩) (ih1 (i + 1, n3) ?_ ?_)
            · show (f.blocks.length - (i + 1)).toNat < (f.blocks.length - i).toNat
              omega
            · show 0 ≤ (i + 1) ∧ (i + 1) ≤ f.blocks.length ∧ 0 ≤ n3 ∧ n3 ≤ 600000000000000 ∧ (n3 ≤ 20000 → totalF f = n3 + ((f.blocks.drop (i + 1).toNat).map blkTot).sum)
              -- back 1 of loop 1, path L1TTL2TFL3F
              clear ih1 ih2 ih3
              exact ⟨by omega, by omega, by omega, by omega, fun h => by first | (exfalso; omega) | (have h5 := k4 (by omega); rw [sum_end q82] at h5; omega)⟩
      · refine WpG.go tabOK 12 [(1, .pointer (some ⟨b1, 0, none⟩)), (3, .int .i64 n2), (4, .int .i64 i), (6, .int .i64 0)] rfl ⟨rfl, rfl, rfl, rfl, trivial⟩ ?_
        refine WpG.ind (σ := Int × Int) (fun z_ => ((nth f.blocks i).ops.length - z_.1).toNat) (fun z_ => [(1, .pointer (some ⟨b1, 0, none⟩)), (3, .int .i64 z_.2), (4, .int .i64 i), (6, .int .i64 z_.1)]) (fun z_ => H) (fun z_ => [Chunk.box b1 [.slice A_f_0 f.params.length c_f_0, .int .i64 f.ret, .slice A_f_2 f.blocks.length c_f_2] 25]) (fun z_ => 0 ≤ z_.1 ∧ z_.1 ≤ (nth f.blocks i).ops.length ∧ 0 ≤ z_.2 ∧ z_.2 ≤ 600000000000000 ∧ (z_.2 ≤ 20000 → totalF f = z_.2 + ((((nth f.blocks i).ops.drop z_.1.toNat).map opTot).sum + ((f.blocks.drop (i + 1).toNat).map blkTot).sum))) ?_ (0, n2) ⟨by omega, by omega, by omega, by omega, fun h => by first | (exfalso; omega) | (have h5 := j4 (by omega); rw [sum_end q41] at h5; simp only [Int.toNat_zero, List.drop_zero]; omega)⟩
        rintro ⟨k, n3⟩ inv ih3
        change WpG _ _ _ _ _ _ [(1, .pointer (some ⟨b1, 0, none⟩)), (3, .int .i64 n3), (4, .int .i64 i), (6, .int .i64 k)] H [Chunk.box b1 [.slice A_f_0 f.params.length c_f_0, .int .i64 f.ret, .slice A_f_2 f.blocks.length c_f_2] 25] _
        replace inv : 0 ≤ k ∧ k ≤ (nth f.blocks i).ops.length ∧ 0 ≤ n3 ∧ n3 ≤ 600000000000000 ∧ (n3 ≤ 20000 → totalF f = n3 + ((((nth f.blocks i).ops.drop k.toNat).map opTot).sum + ((f.blocks.drop (i + 1).toNat).map blkTot).sum)) := inv
        obtain ⟨k0, k1, k2, k3, k4⟩ := inv
        refine WpG.go tabOK 5 [(1, .pointer (some ⟨b1, 0, none⟩)), (3, .int .i64 n3), (4, .int .i64 i), (6, .int .i64 k), (73, .int .i64 k), (74, .pointer (some ⟨b1, 2, none⟩))] rfl ⟨rfl, rfl, rfl, rfl, rfl, rfl, trivial⟩ ?_
        refine WpG.y rfl rfl rfl rfl (RunY.loadBox (ci := 0) tabOK rfl rfl rfl rfl) ?_
        refine WpG.go tabOK 1 [(1, .pointer (some ⟨b1, 0, none⟩)), (3, .int .i64 n3), (4, .int .i64 i), (6, .int .i64 k), (73, .int .i64 k), (75, .slice A_f_2 f.blocks.length c_f_2), (76, .int .i64 i)] rfl ⟨rfl, rfl, rfl, rfl, rfl, rfl, rfl, trivial⟩ ?_
        refine WpG.indexR tabOK rfl rfl rfl rfl rfl rfl rfl rfl rfl r_f_2 (by omega) (by omega) ?_
        rintro x11 hx11 b11 o11 cs11 rd11 hc11
        have rd11' := rd11; obtain ⟨A11_0, c11_0, A11_1, c11_1, A11_4, c11_4, rfl, u11_0, r11_0, u11_1, r11_1, u11_4, r11_4, k11_0, k11_1⟩ := rd11
        have bz11_0 := r11_0.1
        have bz11_1 := r11_1.1
        have bz11_4 := r11_4.1
        obtain rfl : x11 = (nth f.blocks i) := hx11
        refine WpG.go tabOK 1 [(1, .pointer (some ⟨b1, 0, none⟩)), (3, .int .i64 n3), (4, .int .i64 i), (6, .int .i64 k), (73, .int .i64 k), (78, .pointer (some ⟨b11, (o11 + 1), none⟩))] rfl ⟨rfl, rfl, rfl, rfl, rfl, rfl, trivial⟩ ?_
        refine WpG.y rfl rfl rfl rfl (RunY.loadH tabOK (hc11.sub 1 1) (Hp.le.refl _) rfl rfl rfl rfl) ?_
        refine WpG.go tabOK 3 [(1, .pointer (some ⟨b1, 0, none⟩)), (3, .int .i64 n3), (4, .int .i64 i), (6, .int .i64 k), (82, .bool (decide (k < ((nth f.blocks i).ops.length : Int))))] rfl ⟨rfl, rfl, rfl, rfl, rfl, trivial⟩ ?_
        refine WpG.caseD (t := 82) rfl (fun q82 => ?_) (fun q82 => ?_)
        · refine WpG.go tabOK 4 [(1, .pointer (some ⟨b1, 0, none⟩)), (3, .int .i64 n3), (4, .int .i64 i), (6, .int .i64 k), (85, .bool (decide (n3 ≤ 20000)))] rfl ⟨rfl, rfl, rfl, rfl, rfl, trivial⟩ ?_
          refine WpG.caseD (t := 85) rfl (fun q85 => ?_) (fun q85 => ?_)
          · refine WpG.go tabOK 7 [(1, .pointer (some ⟨b1, 0, none⟩)), (4, .int .i64 i), (6, .int .i64 k), (89, .int .i64 (n3 + 1))] rfl ⟨rfl, rfl, rfl, (wrk (x := n3 + 1) (by omega) (by omega)), trivial⟩ ?_
            refine WpG.go tabOK 1 [(1, .pointer (some ⟨b1, 0, none⟩)), (4, .int .i64 i), (6, .int .i64 k), (89, .int .i64 (n3 + 1)), (90, .pointer (some ⟨b1, 2, none⟩))] rfl ⟨rfl, rfl, rfl, rfl, rfl, trivial⟩ ?_
            refine WpG.y rfl rfl rfl rfl (RunY.loadBox (ci := 0) tabOK rfl rfl rfl rfl) ?_
            refine WpG.go tabOK 1 [(1, .pointer (some ⟨b1, 0, none⟩)), (4, .int .i64 i), (6, .int .i64 k), (89, .int .i64 (n3 + 1)), (91, .slice A_f_2 f.blocks.length c_f_2), (92, .int .i64 i)] rfl ⟨rfl, rfl, rfl, rfl, rfl, rfl, trivial⟩ ?_
            refine WpG.indexR tabOK rfl rfl rfl rfl rfl rfl rfl rfl rfl r_f_2 (by omega) (by omega) ?_
            rintro x12 hx12 b12 o12 cs12 rd12 hc12
            have rd12' := rd12; obtain ⟨A12_0, c12_0, A12_1, c12_1, A12_4, c12_4, rfl, u12_0, r12_0, u12_1, r12_1, u12_4, r12_4, k12_0, k12_1⟩ := rd12
            have bz12_0 := r12_0.1
            have bz12_1 := r12_1.1
            have bz12_4 := r12_4.1
            obtain rfl : x12 = (nth f.blocks i) := hx12
            refine WpG.go tabOK 1 [(1, .pointer (some ⟨b1, 0, none⟩)), (4, .int .i64 i), (6, .int .i64 k), (89, .int .i64 (n3 + 1)), (94, .pointer (some ⟨b12, (o12 + 1), none⟩))] rfl ⟨rfl, rfl, rfl, rfl, rfl, trivial⟩ ?_
            refine WpG.y rfl rfl rfl rfl (RunY.loadH tabOK (hc12.sub 1 1) (Hp.le.refl _) rfl rfl rfl rfl) ?_
            refine WpG.go tabOK 1 [(1, .pointer (some ⟨b1, 0, none⟩)), (4, .int .i64 i), (6, .int .i64 k), (89, .int .i64 (n3 + 1)), (95, .slice A12_1 ((nth f.blocks i).ops.length) c12_1), (96, .int .i64 k)] rfl ⟨rfl, rfl, rfl, rfl, rfl, rfl, trivial⟩ ?_
            refine WpG.indexR tabOK rfl rfl rfl rfl rfl rfl rfl rfl rfl r12_1 (by omega) (by omega) ?_
            rintro x13 hx13 b13 o13 cs13 rd13 hc13
            have rd13' := rd13; obtain ⟨A13_4, c13_4, rfl, u13_4, r13_4, k13_0, k13_1, k13_2, k13_3, k13_4⟩ := rd13
            have bz13_4 := r13_4.1
            obtain rfl : x13 = (nth ((nth f.blocks i).ops) k) := hx13
            refine WpG.go tabOK 1 [(1, .pointer (some ⟨b1, 0, none⟩)), (4, .int .i64 i), (6, .int .i64 k), (89, .int .i64 (n3 + 1)), (98, .pointer (some ⟨b13, (o13 + 4), none⟩))] rfl ⟨rfl, rfl, rfl, rfl, rfl, trivial⟩ ?_
            refine WpG.y rfl rfl rfl rfl (RunY.loadH tabOK (hc13.sub 4 1) (Hp.le.refl _) rfl rfl rfl rfl) ?_
            refine WpG.go tabOK 2 [(1, .pointer (some ⟨b1, 0, none⟩)), (4, .int .i64 i), (6, .int .i64 k), (101, .int .i64 ((n3 + 1) + ((nth ((nth f.blocks i).ops) k).args.length : Int)))] rfl ⟨rfl, rfl, rfl, (wrk (x := (n3 + 1) + ((nth ((nth f.blocks i).ops) k).args.length : Int)) (by omega) (by omega)), trivial⟩ ?_
            refine WpG.go tabOK 6 [(1, .pointer (some ⟨b1, 0, none⟩)), (3, .int .i64 ((n3 + 1) + ((nth ((nth f.blocks i).ops) k).args.length : Int))), (4, .int .i64 i), (87, .int .i64 (k + 1))] rfl ⟨rfl, rfl, rfl, (wrk (x := k + 1) (by omega) (by omega)), trivial⟩ ?_
            refine WpG.go tabOK 3 [(1, .pointer (some ⟨b1, 0, none⟩)), (3, .int .i64 ((n3 + 1) + ((nth ((nth f.blocks i).ops) k).args.length : Int))), (4, .int .i64 i), (6, .int .i64 (k + 1))] rfl ⟨rfl, rfl, rfl, rfl, trivial⟩ ?_
            refine WpG.weaken (G := [(1, .pointer (some ⟨b1, 0, none⟩)), (3, .int .i64 ((n3 + 1) + ((nth ((nth f.blocks i).ops) k).args.length : Int))), (4, .int .i64 i), (6, .int .i64 (k + 1))]) (Known.all ⟨rfl, rfl, rfl, rfl, trivial⟩) (ih3 (k + 1, (n3 + 1) + ((nth ((nth f.blocks i).ops) k).args.length : Int)) ?_ ?_)
            · show ((nth f.blocks i).ops.length - (k + 1)).toNat < ((nth f.blocks i).ops.length - k).toNat
              omega
            · show 0 ≤ (k + 1) ∧ (k + 1) ≤ (nth f.blocks i).ops.length ∧ 0 ≤ ((n3 + 1) + ((nth ((nth f.blocks i).ops) k).args.length : Int)) ∧ ((n3 + 1) + ((nth ((nth f.blocks i).ops) k).args.length : Int)) ≤ 600000000000000 ∧ (((n3 + 1) + ((nth ((nth f.blocks i).ops) k).args.length : Int)) ≤ 20000 → totalF f = ((n3 + 1) + ((nth ((nth f.blocks i).ops) k).args.length : Int)) + ((((nth f.blocks i).ops.drop (k + 1).toNat).map opTot).sum + ((f.blocks.drop (i + 1).toNat).map blkTot).sum))
              -- back 1 of loop 3, path L1TTL2FL3TT
              clear ih1 ih2 ih3
              exact ⟨by omega, by omega, by omega, by omega, fun h => by have h5 := k4 (by omega); rw [sum_step k0 q82] at h5; have eb : opTot (nth (nth f.blocks i).ops k) = 1 + ((nth (nth f.blocks i).ops k).args.length : Int) := rfl; omega⟩
          · refine WpG.go tabOK 6 [(1, .pointer (some ⟨b1, 0, none⟩)), (3, .int .i64 n3), (20, .int .i64 (i + 1))] rfl ⟨rfl, rfl, (wrk (x := i + 1) (by omega) (by omega)), trivial⟩ ?_
            refine WpG.go tabOK 3 [(1, .pointer (some ⟨b1, 0, none⟩)), (3, .int .i64 n3), (4, .int .i64 (i + 1))] rfl ⟨rfl, rfl, rfl, trivial⟩ ?_
            refine WpG.weaken (G := [(1, .pointer (some ⟨b1, 0, none⟩)), (3, .int .i64 n3), (4, .int .i64 (i + 1))]) (Known.all ⟨rfl, rfl, rfl, trivial⟩) (ih1 (i + 1, n3) ?_ ?_)
            · show (f.blocks.length - (i + 1)).toNat < (f.blocks.length - i).toNat
              omega
            · show 0 ≤ (i + 1) ∧ (i + 1) ≤ f.blocks.length ∧ 0 ≤ n3 ∧ n3 ≤ 600000000000000 ∧ (n3 ≤ 20000 → totalF f = n3 + ((f.blocks.drop (i + 1).toNat).map blkTot).sum)
              -- back 2 of loop 1, path L1TTL2FL3TF
              clear ih1 ih2 ih3
              exact ⟨by omega, by omega, by omega, by omega, fun h => by first | (exfalso; omega) | (have h5 := k4 (by omega); rw [sum_end q82] at h5; omega)⟩
        · refine WpG.go tabOK 10 [(1, .pointer (some ⟨b1, 0, none⟩)), (3, .int .i64 n3), (20, .int .i64 (i + 1))] rfl ⟨rfl, rfl, (wrk (x := i + 1) (by omega) (by omega)), trivial⟩ ?_
          refine WpG.go tabOK 3 [(1, .pointer (some ⟨b1, 0, none⟩)), (3, .int .i64 n3), (4, .int .i64 (i + 1))] rfl ⟨rfl, rfl, rfl, trivial⟩ ?_
          refine WpG.weaken (G := [(1, .pointer (some ⟨b1, 0, none⟩)), (3, .int .i64 n3), (4, .int .i64 (i + 1))]) (Known.all ⟨rfl, rfl, rfl, trivial⟩) (ih1 (i + 1, n3) ?_ ?_)
          · show (f.blocks.length - (i + 1)).toNat < (f.blocks.length - i).toNat
            omega
          · show 0 ≤ (i + 1) ∧ (i + 1) ≤ f.blocks.length ∧ 0 ≤ n3 ∧ n3 ≤ 600000000000000 ∧ (n3 ≤ 20000 → totalF f = n3 + ((f.blocks.drop (i + 1).toNat).map blkTot).sum)
            -- back 3 of loop 1, path L1TTL2FL3F
            clear ih1 ih2 ih3
            exact ⟨by omega, by omega, by omega, by omega, fun h => by first | (exfalso; omega) | (have h5 := k4 (by omega); rw [sum_end q82] at h5; omega)⟩
    · refine WpG.go tabOK 8 [(2, .bool (decide (n ≤ 20000)))] rfl ⟨rfl, trivial⟩ ?_
      -- return 0, path L1TF
      exact WpG.ret tabOK (L' := []) (.tmp rfl .nil) (.cons _ .slnil) ⟨_, rfl, fun h => by first | (exfalso; have h6 := of_decide_eq_true h; omega) | (have h6 := of_decide_eq_true h; have h5 := i4 (by omega); rw [sum_end q15] at h5; omega), rfl⟩
  · refine WpG.go tabOK 12 [(2, .bool (decide (n ≤ 20000)))] rfl ⟨rfl, trivial⟩ ?_
    -- return 1, path L1F
    exact WpG.ret tabOK (L' := []) (.tmp rfl .nil) (.cons _ .slnil) ⟨_, rfl, fun h => by first | (exfalso; have h6 := of_decide_eq_true h; omega) | (have h6 := of_decide_eq_true h; have h5 := i4 (by omega); rw [sum_end q15] at h5; omega), rfl⟩

theorem Small_calls {H : Hp} {f : FuncD} {A_f_0 A_f_2 : Option Addr} {c_f_0 c_f_2 : Nat} (u_f_0 : f.params.length ≤ c_f_0) (r_f_0 : RdS H A_f_0 f.params) (u_f_2 : f.blocks.length ≤ c_f_2) (r_f_2 : RdS H A_f_2 f.blocks) (k_f_0 : I64 f.ret) : CallG Tryz.prog 9 [.agg #[.slice A_f_0 f.params.length c_f_0, .int .i64 f.ret, .slice A_f_2 f.blocks.length c_f_2]] H [] (fun v H' L' => ∃ b, v = .bool b ∧ (b = true → totalF f ≤ 20000) ∧ L' = []) := by
  have rd_f' : Rdc.rd H [.slice A_f_0 f.params.length c_f_0, .int .i64 f.ret, .slice A_f_2 f.blocks.length c_f_2] f := ⟨_, _, _, _, rfl, u_f_0, r_f_0, u_f_2, r_f_2, k_f_0⟩
  have bs := r_f_2.1; have bsp := r_f_0.1
  refine CallG.of Tryz.func9 rfl rfl rfl fun w0 => ?_
  change WpG _ _ _ _ _ _ [(0, .agg #[.slice A_f_0 f.params.length c_f_0, .int .i64 f.ret, .slice A_f_2 f.blocks.length c_f_2])] _ _ _
  refine WpG.go tabOK 2 [(0, .agg #[.slice A_f_0 f.params.length c_f_0, .int .i64 f.ret, .slice A_f_2 f.blocks.length c_f_2])] rfl ⟨rfl, trivial⟩ ?_
  refine WpG.box rfl rfl rfl rfl rfl (fun b1 => ?_)
  refine WpG.go tabOK 13 [(1, .pointer (some ⟨b1, 0, none⟩)), (3, .int .i64 0), (4, .int .i64 0)] rfl ⟨rfl, rfl, rfl, trivial⟩ ?_
  refine WpG.ind (σ := Int × Int) (fun z_ => (f.blocks.length - z_.1).toNat) (fun z_ => [(1, .pointer (some ⟨b1, 0, none⟩)), (3, .int .i64 z_.2), (4, .int .i64 z_.1)]) (fun z_ => H) (fun z_ => [Chunk.box b1 [.slice A_f_0 f.params.length c_f_0, .int .i64 f.ret, .slice A_f_2 f.blocks.length c_f_2] 25]) (fun z_ => 0 ≤ z_.1 ∧ z_.1 ≤ f.blocks.length) ?_ (0, 0) ⟨by omega, by omega⟩
  rintro ⟨i, n⟩ inv ih1
  change WpG _ _ _ _ _ _ [(1, .pointer (some ⟨b1, 0, none⟩)), (3, .int .i64 n), (4, .int .i64 i)] H [Chunk.box b1 [.slice A_f_0 f.params.length c_f_0, .int .i64 f.ret, .slice A_f_2 f.blocks.length c_f_2] 25] _
  replace inv : 0 ≤ i ∧ i ≤ f.blocks.length := inv
  obtain ⟨i0, i1⟩ := inv
  refine WpG.go tabOK 5 [(1, .pointer (some ⟨b1, 0, none⟩)), (3, .int .i64 n), (4, .int .i64 i), (5, .int .i64 i), (6, .pointer (some ⟨b1, 2, none⟩))] rfl ⟨rfl, rfl, rfl, rfl, rfl, trivial⟩ ?_
  refine WpG.y rfl rfl rfl rfl (RunY.loadBox (ci := 0) tabOK rfl rfl rfl rfl) ?_
  refine WpG.go tabOK 3 [(1, .pointer (some ⟨b1, 0, none⟩)), (3, .int .i64 n), (4, .int .i64 i), (9, .bool (decide (i < (f.blocks.length : Int))))] rfl ⟨rfl, rfl, rfl, rfl, trivial⟩ ?_
  refine WpG.caseD (t := 9) rfl (fun q9 => ?_) (fun q9 => ?_)
  · refine WpG.go tabOK 4 [(1, .pointer (some ⟨b1, 0, none⟩)), (3, .int .i64 n), (4, .int .i64 i)] rfl ⟨rfl, rfl, rfl, trivial⟩ ?_
    refine WpG.draw 19 [Chunk.box b1 [.slice A_f_0 f.params.length c_f_0, .int .i64 f.ret, .slice A_f_2 f.blocks.length c_f_2] 25] mixed (by kernel_rfl) ?_
    refine WpD.go (listed' := lst 19 5143) tabOK [0, 1, 2, 4, 10, 12] [(1, .pointer (some ⟨b1, 0, none⟩)), (3, .int .i64 n), (4, .int .i64 i), (13, .int .i64 (IntKind.i64.wrap (n + 1))), (14, .pointer (some ⟨b1, 2, none⟩)), (16, .int .i64 i), (22, .pointer (some ⟨b1, 2, none⟩)), (24, .int .i64 i)] (by kernel_rfl) rfl ⟨rfl, rfl, rfl, rfl, rfl, rfl, rfl, rfl, trivial⟩ (Hp.le.refl _) (Hp.le.refl _) (.cons_cons _ .slnil) ?_
    refine WpD.y (i := 3) (fuel := 12) (listed' := lst 19 5151) (by kernel_rfl) rfl rfl rfl rfl (Hp.le.refl _) (Hp.le.refl _) (.cons_cons _ .slnil) (RunY.loadBox (ci := 0) tabOK rfl rfl rfl rfl) ?_
    refine WpD.indexR (i := 5) (fuel := 11) (listed' := lst 19 5183) tabOK (by kernel_rfl) rfl rfl rfl rfl rfl rfl rfl rfl rfl (Hp.le.refl _) (Hp.le.refl _) (.cons_cons _ .slnil) r_f_2 (by omega) (by omega) ?_
    rintro x2 hx2 b2 o2 cs2 rd2 hc2
    have rd2' := rd2; obtain ⟨A2_0, c2_0, A2_1, c2_1, A2_4, c2_4, rfl, u2_0, r2_0, u2_1, r2_1, u2_4, r2_4, k2_0, k2_1⟩ := rd2
    have bz2_0 := r2_0.1
    have bz2_1 := r2_1.1
    have bz2_4 := r2_4.1
    obtain rfl : x2 = (nth f.blocks i) := hx2
    refine WpD.go (listed' := lst 19 5247) tabOK [6] [(1, .pointer (some ⟨b1, 0, none⟩)), (3, .int .i64 n), (4, .int .i64 i), (13, .int .i64 (IntKind.i64.wrap (n + 1))), (18, .pointer (some ⟨b2, (o2 + 1), none⟩)), (22, .pointer (some ⟨b1, 2, none⟩)), (24, .int .i64 i)] (by kernel_rfl) rfl ⟨rfl, rfl, rfl, rfl, rfl, rfl, rfl, trivial⟩ (Hp.le.refl _) (Hp.le.refl _) (.cons_cons _ .slnil) ?_
    refine WpD.y (i := 7) (fuel := 9) (listed' := lst 19 5375) (by kernel_rfl) rfl rfl rfl rfl (Hp.le.refl _) (Hp.le.refl _) (.cons_cons _ .slnil) (RunY.loadH tabOK (hc2.sub 1 1) (Hp.le.refl _) rfl rfl rfl rfl) ?_
    refine WpD.go (listed' := lst 19 6143) tabOK [8, 9] [(1, .pointer (some ⟨b1, 0, none⟩)), (3, .int .i64 n), (4, .int .i64 i), (21, .int .i64 (IntKind.i64.wrap ((IntKind.i64.wrap (n + 1)) + ((nth f.blocks i).ops.length : Int)))), (22, .pointer (some ⟨b1, 2, none⟩)), (24, .int .i64 i)] (by kernel_rfl) rfl ⟨rfl, rfl, rfl, rfl, rfl, rfl, trivial⟩ (Hp.le.refl _) (Hp.le.refl _) (.cons_cons _ .slnil) ?_
    refine WpD.y (i := 11) (fuel := 6) (listed' := lst 19 8191) (by kernel_rfl) rfl rfl rfl rfl (Hp.le.refl _) (Hp.le.refl _) (.cons_cons _ .slnil) (RunY.loadBox (ci := 0) tabOK rfl rfl rfl rfl) ?_
    refine WpD.indexR (i := 13) (fuel := 5) (listed' := lst 19 16383) tabOK (by kernel_rfl) rfl rfl rfl rfl rfl rfl rfl rfl rfl (Hp.le.refl _) (Hp.le.refl _) (.cons_cons _ .slnil) r_f_2 (by omega) (by omega) ?_
    rintro x3 hx3 b3 o3 cs3 rd3 hc3
    have rd3' := rd3; obtain ⟨A3_0, c3_0, A3_1, c3_1, A3_4, c3_4, rfl, u3_0, r3_0, u3_1, r3_1, u3_4, r3_4, k3_0, k3_1⟩ := rd3
    have bz3_0 := r3_0.1
    have bz3_1 := r3_1.1
    have bz3_4 := r3_4.1
    obtain rfl : x3 = (nth f.blocks i) := hx3
    refine WpD.go (listed' := lst 19 32767) tabOK [14] [(1, .pointer (some ⟨b1, 0, none⟩)), (3, .int .i64 n), (4, .int .i64 i), (21, .int .i64 (IntKind.i64.wrap ((IntKind.i64.wrap (n + 1)) + ((nth f.blocks i).ops.length : Int)))), (26, .pointer (some ⟨b3, o3, none⟩))] (by kernel_rfl) rfl ⟨rfl, rfl, rfl, rfl, rfl, trivial⟩ (Hp.le.refl _) (Hp.le.refl _) (.cons_cons _ .slnil) ?_
    refine WpD.y (i := 15) (fuel := 3) (listed' := lst 19 65535) (by kernel_rfl) rfl rfl rfl rfl (Hp.le.refl _) (Hp.le.refl _) (.cons_cons _ .slnil) (RunY.loadH tabOK (hc3.sub 0 1) (Hp.le.refl _) rfl rfl rfl rfl) ?_
    refine WpD.go (listed' := lst 19 524287) tabOK [16, 17, 18] [(1, .pointer (some ⟨b1, 0, none⟩)), (3, .int .i64 (IntKind.i64.wrap ((IntKind.i64.wrap ((IntKind.i64.wrap (n + 1)) + ((nth f.blocks i).ops.length : Int))) + ((nth f.blocks i).phis.length : Int)))), (4, .int .i64 i)] (by kernel_rfl) rfl ⟨rfl, rfl, rfl, trivial⟩ (Hp.le.refl _) (Hp.le.refl _) (.cons_cons _ .slnil) ?_
    refine WpD.done (by kernel_rfl) ?_
    refine WpG.go tabOK 4 [(1, .pointer (some ⟨b1, 0, none⟩)), (3, .int .i64 (IntKind.i64.wrap ((IntKind.i64.wrap ((IntKind.i64.wrap (n + 1)) + ((nth f.blocks i).ops.length : Int))) + ((nth f.blocks i).phis.length : Int)))), (11, .int .i64 (i + 1))] rfl ⟨rfl, rfl, (wrk (x := i + 1) (by omega) (by omega)), trivial⟩ ?_
    refine WpG.go tabOK 3 [(1, .pointer (some ⟨b1, 0, none⟩)), (3, .int .i64 (IntKind.i64.wrap ((IntKind.i64.wrap ((IntKind.i64.wrap (n + 1)) + ((nth f.blocks i).ops.length : Int))) + ((nth f.blocks i).phis.length : Int)))), (4, .int .i64 (i + 1))] rfl ⟨rfl, rfl, rfl, trivial⟩ ?_
    refine WpG.weaken (G := [(1, .pointer (some ⟨b1, 0, none⟩)), (3, .int .i64 (IntKind.i64.wrap ((IntKind.i64.wrap ((IntKind.i64.wrap (n + 1)) + ((nth f.blocks i).ops.length : Int))) + ((nth f.blocks i).phis.length : Int)))), (4, .int .i64 (i + 1))]) (Known.all ⟨rfl, rfl, rfl, trivial⟩) (ih1 (i + 1, (IntKind.i64.wrap ((IntKind.i64.wrap ((IntKind.i64.wrap (n + 1)) + ((nth f.blocks i).ops.length : Int))) + ((nth f.blocks i).phis.length : Int)))) ?_ ?_)
    · show (f.blocks.length - (i + 1)).toNat < (f.blocks.length - i).toNat
      omega
    · show 0 ≤ (i + 1) ∧ (i + 1) ≤ f.blocks.length
      -- back 0 of loop 1, path L1T
      clear ih1
      exact ⟨by omega, by omega⟩
  · refine WpG.go tabOK 4 [(1, .pointer (some ⟨b1, 0, none⟩)), (3, .int .i64 n)] rfl ⟨rfl, rfl, trivial⟩ ?_
    refine WpG.y rfl rfl rfl rfl (RunY.loadBox (ci := 0) tabOK rfl rfl rfl rfl) ?_
    refine WpG.call0 rfl rfl rfl rfl rfl rfl (Small4_calls u_f_0 (r_f_0.mono (Hp.le.refl _)) u_f_2 (r_f_2.mono (Hp.le.refl _)) k_f_0) ?_
    rintro _ H4 _ hH4 ⟨bs4, rfl, hs4, rfl⟩
    refine WpG.setL (L' := [Chunk.box b1 [.slice A_f_0 f.params.length c_f_0, .int .i64 f.ret, .slice A_f_2 f.blocks.length c_f_2] 25]) rfl ?_
    refine WpG.go tabOK 1 [(1, .pointer (some ⟨b1, 0, none⟩)), (3, .int .i64 n), (32, .bool bs4)] rfl ⟨rfl, rfl, rfl, trivial⟩ ?_
    refine WpG.caseB (t := 32) rfl (fun q32 => ?_) (fun q32 => ?_)
    · refine WpG.go tabOK 1 [(1, .pointer (some ⟨b1, 0, none⟩)), (3, .int .i64 n), (32, .bool true), (33, .pointer (some ⟨b1, 2, none⟩))] rfl ⟨rfl, rfl, rfl, rfl, trivial⟩ ?_
      refine WpG.y rfl rfl rfl rfl (RunY.loadBox (ci := 0) tabOK rfl rfl rfl rfl) ?_
      refine WpG.go tabOK 3 [(1, .pointer (some ⟨b1, 0, none⟩)), (3, .int .i64 n), (32, .bool true), (37, .bool (decide ((f.blocks.length : Int) ≤ 16)))] rfl ⟨rfl, rfl, rfl, rfl, trivial⟩ ?_
      refine WpG.caseD (t := 37) rfl (fun q37 => ?_) (fun q37 => ?_)
      · refine WpG.go tabOK 4 [(1, .pointer (some ⟨b1, 0, none⟩)), (3, .int .i64 n), (32, .bool true), (41, .bool (decide (n ≤ 100)))] rfl ⟨rfl, rfl, rfl, rfl, trivial⟩ ?_
        refine WpG.caseD (t := 41) rfl (fun q41 => ?_) (fun q41 => ?_)
        · refine WpG.go tabOK 12 [(2, .bool true)] rfl ⟨rfl, trivial⟩ ?_
          -- return 0, path L1FTTT
          exact WpG.ret tabOK (L' := []) (.tmp rfl .nil) (.cons _ .slnil) ⟨_, rfl, fun _ => hs4 q32, rfl⟩
        · refine WpG.go tabOK 1 [(3, .int .i64 n), (32, .bool true), (41, .bool false), (42, .pointer (some ⟨b1, 2, none⟩))] rfl ⟨rfl, rfl, rfl, rfl, trivial⟩ ?_
          refine WpG.y rfl rfl rfl rfl (RunY.loadBox (ci := 0) tabOK rfl rfl rfl rfl) ?_
          refine WpG.go tabOK 4 [(3, .int .i64 n), (32, .bool true), (47, .bool (decide ((f.blocks.length : Int) > 64)))] rfl ⟨rfl, rfl, rfl, trivial⟩ ?_
          refine WpG.caseD (t := 47) rfl (fun q47 => ?_) (fun q47 => ?_)
          · refine WpG.go tabOK 6 [(2, .bool true)] rfl ⟨rfl, trivial⟩ ?_
            -- return 1, path L1FTTFT
            exact WpG.ret tabOK (L' := []) (.tmp rfl .nil) (.cons _ .slnil) ⟨_, rfl, fun _ => hs4 q32, rfl⟩
          · refine WpG.go tabOK 6 [(2, .bool (decide (n > 512)))] rfl ⟨rfl, trivial⟩ ?_
            -- return 2, path L1FTTFF
            exact WpG.ret tabOK (L' := []) (.tmp rfl .nil) (.cons _ .slnil) ⟨_, rfl, fun _ => hs4 q32, rfl⟩
      · refine WpG.go tabOK 5 [(3, .int .i64 n), (32, .bool true), (41, .bool false), (42, .pointer (some ⟨b1, 2, none⟩))] rfl ⟨rfl, rfl, rfl, rfl, trivial⟩ ?_
        refine WpG.y rfl rfl rfl rfl (RunY.loadBox (ci := 0) tabOK rfl rfl rfl rfl) ?_
        refine WpG.go tabOK 4 [(3, .int .i64 n), (32, .bool true), (47, .bool (decide ((f.blocks.length : Int) > 64)))] rfl ⟨rfl, rfl, rfl, trivial⟩ ?_
        refine WpG.caseD (t := 47) rfl (fun q47 => ?_) (fun q47 => ?_)
        · refine WpG.go tabOK 6 [(2, .bool true)] rfl ⟨rfl, trivial⟩ ?_
          -- return 3, path L1FTFT
          exact WpG.ret tabOK (L' := []) (.tmp rfl .nil) (.cons _ .slnil) ⟨_, rfl, fun _ => hs4 q32, rfl⟩
        · refine WpG.go tabOK 6 [(2, .bool (decide (n > 512)))] rfl ⟨rfl, trivial⟩ ?_
          -- return 4, path L1FTFF
          exact WpG.ret tabOK (L' := []) (.tmp rfl .nil) (.cons _ .slnil) ⟨_, rfl, fun _ => hs4 q32, rfl⟩
    · refine WpG.go tabOK 21 [(2, .bool false)] rfl ⟨rfl, trivial⟩ ?_
      -- return 5, path L1FF
      exact WpG.ret tabOK (L' := []) (.tmp rfl .nil) (.cons _ .slnil) ⟨_, rfl, (fun h => by cases h), rfl⟩
end Go.Proofs.YtdjemlkllbhdlaaGreat

/- Each hammock that is found is one; two of them have no block between in common, and no At: 'HammockApart' answers true at every input. No conditions. -/
import Derived.Test.YtakameggkkjcpaaGreatPK4
import Derived.Test.YtakameggkkjcpaaGreatRows
set_option linter.unusedVariables false
set_option linter.unusedSimpArgs false
set_option maxRecDepth 4000
namespace Go.Proofs.YtakameggkkjcpaaGreat
open Go Go.RowKit
set_option maxHeartbeats 2000000 in
theorem HammockApart_calls {H : Hp} {f : FuncD} {A_f_0 A_f_2 : Option Addr} {c_f_0 c_f_2 : Nat} (u_f_0 : f.params.length ≤ c_f_0) (r_f_0 : RdS H A_f_0 f.params) (u_f_2 : f.blocks.length ≤ c_f_2) (r_f_2 : RdS H A_f_2 f.blocks) (k_f_0 : I64 f.ret) : CallG Tryz.prog 4 [.agg #[.slice A_f_0 f.params.length c_f_0, .int .i64 f.ret, .slice A_f_2 f.blocks.length c_f_2]] H [] (fun v _ L' => v = .bool (true) ∧ L' = []) := by
 have rd_f' : Rdc.rd H [.slice A_f_0 f.params.length c_f_0, .int .i64 f.ret, .slice A_f_2 f.blocks.length c_f_2] f := ⟨_, _, _, _, rfl, u_f_0, r_f_0, u_f_2, r_f_2, k_f_0⟩
 have bs := r_f_2.1; have bsp := r_f_0.1
 refine CallG.of Tryz.func4 rfl rfl rfl fun w0 => ?_
 refine WpG.g tabOK 2 rfl ?_
 refine WpG.box rfl rfl rfl rfl rfl (fun b1 => ?_)
 refine WpG.freezeBox (ci := 0) rfl (fun H2 hH2 hc2 => ?_)
 refine WpG.g tabOK 5 rfl ?_
 refine WpG.callS rfl rfl rfl rfl rfl rfl (Hp.le.refl _) (awake14_calls) ?_
 refine WpG.g tabOK 7 rfl ?_
 refine WpG.y rfl rfl rfl rfl (RunY.loadH tabOK hc2 (Hp.le.refl _) rfl rfl rfl rfl) ?_
 refine WpG.call0 rfl rfl rfl rfl rfl rfl (Small_calls u_f_0 (r_f_0.mono hH2) u_f_2 (r_f_2.mono hH2) k_f_0) ?_
 rintro _ H3 _ hH3 ⟨bs3, rfl, hs3, rfl⟩
 refine WpG.g tabOK 2 rfl ?_
 refine WpG.caseBn (t := 14) rfl (fun q14 => ?_) (fun q14 => ?_)
 ·refine WpG.g tabOK 5 rfl ?_
  exact WpG.ret tabOK (L' := []) (.tmp rfl .nil) .slnil ⟨rfl, rfl⟩
 ·refine WpG.g tabOK 4 rfl ?_
  refine WpG.y rfl rfl rfl rfl (RunY.loadH tabOK hc2 hH3 rfl rfl rfl rfl) ?_
  refine WpG.call0 rfl rfl rfl rfl rfl rfl (HAll_calls (Rdc.mono (hH2.trans hH3) rd_f')) ?_
  rintro _ H4 _ hH4 ⟨hT, A4, c4, rfl, u4, r4, rfl⟩
  refine WpG.g tabOK 9 rfl ?_
  have hal := r4.1
  refine WpG.wk (WpG.ind1 (fun (i : Int) => ⟨((allH f).length - i).toNat, [(1, .pointer (some ⟨b1, 0, none⟩)), (3, .slice A4 ((allH f).length) c4), (4, .int .i64 i)], H4, [], 0 ≤ i ∧ i ≤ (allH f).length⟩) ?_ 0 ⟨by omega, by omega⟩) rfl
  intro i inv ih1
  obtain ⟨i0, i1⟩ := inv
  refine WpG.g tabOK 8 rfl ?_
  refine WpG.caseD (t := 20) rfl (fun q20 => ?_) (fun q20 => ?_)
  ·refine WpG.g tabOK 6 rfl ?_
   refine WpG.draw 25 [] mixed (by kernel_rfl) ?_
   refine WpD.g (listed' := lst 25 6) tabOK [1, 2] (by kernel_rfl) rfl ((hH2.trans hH3).trans hH4) (Hp.le.refl _) .slnil ?_
   refine WpD.y (i := 0) (fuel := 22) (listed' := lst 25 7) (by kernel_rfl) rfl rfl rfl rfl ((hH2.trans hH3).trans hH4) (Hp.le.refl _) .slnil (RunY.loadH tabOK hc2 (hH3.trans hH4) rfl rfl rfl rfl) ?_
   refine WpD.indexR (i := 3) (fuel := 21) (listed' := lst 25 15) tabOK (by kernel_rfl) rfl rfl rfl rfl rfl rfl rfl rfl rfl ((hH2.trans hH3).trans hH4) (Hp.le.refl _) .slnil r4 (by omega) (by omega) ?_
   rintro x5 hx5 b5 o5 cs5 rd5 hc5
   have rd5' := rd5; obtain ⟨rfl, k5_0, k5_1, k5_2, k5_3⟩ := rd5
   obtain rfl : x5 = (nth (allH f) i) := hx5
   refine WpD.y (i := 4) (fuel := 20) (listed' := lst 25 31) (by kernel_rfl) rfl rfl rfl rfl ((hH2.trans hH3).trans hH4) (Hp.le.refl _) .slnil (RunY.loadH tabOK hc5 (Hp.le.refl _) rfl rfl rfl rfl) ?_
   refine WpD.f (i := 5) (fuel := 19) (listed' := lst 25 63) (by kernel_rfl) ((hH2.trans hH3).trans hH4) (OpG.call (Lc := []) rfl rfl rfl rfl rfl rfl (.refl _) ((by have z := HIs_calls (Rdc.mono ((hH2.trans hH3).trans hH4) rd_f') (nth (allH f) i) (all_IH i0 q20).1; rw [(all_is i0 q20).1] at z; exact z))) ?_
   rintro _ H6 L1 ⟨_, _, rfl, hH6, ⟨rfl, hT, rfl⟩, eL⟩
   subst eL
   refine ⟨hH6, .slnil, ?_⟩
   change WpD _ _ _ _ _ _ _ _ _ _ _ _ _ _ []
   refine WpD.g (listed' := lst 25 2047) tabOK [6, 7, 8, 9, 10] (by kernel_rfl) rfl ((hH2.trans hH3).trans hH4) hH6 .slnil ?_
   refine WpD.caseD (t := 33) rfl (fun q33 => ?_) (fun q33 => ?_)
   ·refine WpD.gw (listed' := lst 25 466943) tabOK [11, 12, 16, 17, 18] 41 (by kernel_rfl) rfl (wrk (x := i - 1) (by omega) (by omega)) ((hH2.trans hH3).trans hH4) hH6 .slnil ?_
    refine WpD.indexR (i := 13) (fuel := 8) (listed' := lst 25 475135) tabOK (by kernel_rfl) rfl rfl rfl rfl rfl rfl rfl rfl rfl ((hH2.trans hH3).trans hH4) hH6 .slnil r4 (by omega) (by omega) ?_
    rintro x7 hx7 b7 o7 cs7 rd7 hc7
    have rd7' := rd7; obtain ⟨rfl, k7_0, k7_1, k7_2, k7_3⟩ := rd7
    obtain rfl : x7 = (nth (allH f) i) := hx7
    refine WpD.g (listed' := lst 25 491519) tabOK [14] (by kernel_rfl) rfl ((hH2.trans hH3).trans hH4) hH6 .slnil ?_
    refine WpD.y (i := 15) (fuel := 6) (listed' := lst 25 524287) (by kernel_rfl) rfl rfl rfl rfl ((hH2.trans hH3).trans hH4) hH6 .slnil (RunY.loadH tabOK (hc7.sub 0 1) (Hp.le.refl _) rfl rfl rfl rfl) ?_
    refine WpD.indexR (i := 19) (fuel := 5) (listed' := lst 25 1048575) tabOK (by kernel_rfl) rfl rfl rfl rfl rfl rfl rfl rfl rfl ((hH2.trans hH3).trans hH4) hH6 .slnil r4 (by omega) (by omega) ?_
    rintro x8 hx8 b8 o8 cs8 rd8 hc8
    have rd8' := rd8; obtain ⟨rfl, k8_0, k8_1, k8_2, k8_3⟩ := rd8
    obtain rfl : x8 = (nth (allH f) (i - 1)) := hx8
    refine WpD.g (listed' := lst 25 2097151) tabOK [20] (by kernel_rfl) rfl ((hH2.trans hH3).trans hH4) hH6 .slnil ?_
    refine WpD.y (i := 21) (fuel := 3) (listed' := lst 25 4194303) (by kernel_rfl) rfl rfl rfl rfl ((hH2.trans hH3).trans hH4) hH6 .slnil (RunY.loadH tabOK (hc8.sub 0 1) (Hp.le.refl _) rfl rfl rfl rfl) ?_
    refine WpD.g (listed' := lst 25 33554431) tabOK [22, 23, 24] (by kernel_rfl) rfl ((hH2.trans hH3).trans hH4) hH6 .slnil ?_
    refine WpD.done (by kernel_rfl) ?_
    refine WpG.caseD (t := 47) rfl (fun q47 => ?_) (fun q47 => ?_)
    ·exact absurd (all_rise (i := i) (k := i - 1) (by omega) (by omega) q20) (by omega)
    ·refine WpG.g tabOK 3 rfl ?_
     refine WpG.draw 13 [] mixed (by kernel_rfl) ?_
     refine WpD.g (listed' := lst 13 6) tabOK [1, 2] (by kernel_rfl) rfl (((hH2.trans hH3).trans hH4).trans hH6) (Hp.le.refl _) .slnil ?_
     refine WpD.y (i := 0) (fuel := 10) (listed' := lst 13 7) (by kernel_rfl) rfl rfl rfl rfl (((hH2.trans hH3).trans hH4).trans hH6) (Hp.le.refl _) .slnil (RunY.loadH tabOK hc2 ((hH3.trans hH4).trans hH6) rfl rfl rfl rfl) ?_
     refine WpD.indexR (i := 3) (fuel := 9) (listed' := lst 13 15) tabOK (by kernel_rfl) rfl rfl rfl rfl rfl rfl rfl rfl rfl (((hH2.trans hH3).trans hH4).trans hH6) (Hp.le.refl _) .slnil r4 (by omega) (by omega) ?_
     rintro x9 hx9 b9 o9 cs9 rd9 hc9
     have rd9' := rd9; obtain ⟨rfl, k9_0, k9_1, k9_2, k9_3⟩ := rd9
     obtain rfl : x9 = (nth (allH f) i) := hx9
     refine WpD.g (listed' := lst 13 31) tabOK [4] (by kernel_rfl) rfl (((hH2.trans hH3).trans hH4).trans hH6) (Hp.le.refl _) .slnil ?_
     refine WpD.y (i := 5) (fuel := 7) (listed' := lst 13 63) (by kernel_rfl) rfl rfl rfl rfl (((hH2.trans hH3).trans hH4).trans hH6) (Hp.le.refl _) .slnil (RunY.loadH tabOK (hc9.sub 0 1) hH6 rfl rfl rfl rfl) ?_
     refine WpD.join (H := H6) (σ := Nat) (fuel' := 2) (lst 13 2047) (fun s_ => [(1, .pointer (some ⟨b1, 0, none⟩)), (3, .slice A4 ((allH f).length) c4), (4, .int .i64 i), (5, .pointer (some ⟨s_, 0, none⟩)), (56, .agg #[.int .i64 ((nth (allH f) i).at_), .int .i64 ((nth (allH f) i).thn), .int .i64 ((nth (allH f) i).els), .int .i64 ((nth (allH f) i).join)]), (57, .bool true)]) (fun s_ => [Chunk.box s_ [.int .i64 0, .int .i64 0, .int .i64 0, .int .i64 0] 27]) (fun hK => ?_) ?_
     ·refine WpD.any2 (i := 6) (j := 10) (by kernel_rfl) (((hH2.trans hH3).trans hH4).trans hH6) (OpG.callS (v := .tuple #[hamV (nth (allH f) i), .bool true]) rfl rfl rfl rfl rfl rfl (Hp.le.refl _) (show _ from by have z := HFind_calls (Rdc.mono (((hH2.trans hH3).trans hH4).trans hH6) rd_f') (nth (allH f) i).at_ (all_IH i0 q20).1; rw [(all_is i0 q20).2] at z; exact z.mono fun _ _ _ _ h => ⟨h.1, h.2.2⟩)) (OpG.alloc tabOK rfl rfl rfl rfl rfl) ?_ ?_
      ·rintro F1 H1 L1 ⟨eF, eH, eL⟩
       subst eF; subst eL; rw [eH]; clear eH H1
       refine ⟨(Hp.le.refl _), .slnil, ?_⟩
       refine WpD.g (fuel := 3) (listed' := lst 13 1023) tabOK [7, 8, 9] (by kernel_rfl) rfl (((hH2.trans hH3).trans hH4).trans hH6) (Hp.le.refl _) .slnil ?_
       refine WpD.f (i := 10) (fuel := 2) (listed' := lst 13 2047) (by kernel_rfl) (((hH2.trans hH3).trans hH4).trans hH6) (OpG.alloc tabOK rfl rfl rfl rfl rfl) ?_
       rintro F1 H1 L1 ⟨s_, eF, eH, eL⟩
       subst eF; subst eL; rw [eH]; clear eH H1
       refine ⟨(Hp.le.refl _), (.cons _ .slnil), ?_⟩
       exact WpD.weaken (G := [(1, .pointer (some ⟨b1, 0, none⟩)), (3, .slice A4 ((allH f).length) c4), (4, .int .i64 i), (5, .pointer (some ⟨s_, 0, none⟩)), (56, .agg #[.int .i64 ((nth (allH f) i).at_), .int .i64 ((nth (allH f) i).thn), .int .i64 ((nth (allH f) i).els), .int .i64 ((nth (allH f) i).join)]), (57, .bool true)]) ⟨rfl, rfl, rfl, rfl, rfl, rfl, trivial⟩ (hK s_)
      ·rintro F1 H1 L1 ⟨s_, eF, eH, eL⟩
       subst eF; subst eL; rw [eH]; clear eH H1
       refine ⟨(Hp.le.refl _), (.cons _ .slnil), ?_⟩
       refine WpD.f (i := 6) (fuel := 5) (listed' := lst 13 1151) (by kernel_rfl) (((hH2.trans hH3).trans hH4).trans hH6) (OpG.callS (v := .tuple #[hamV (nth (allH f) i), .bool true]) rfl rfl rfl rfl rfl rfl (Hp.le.refl _) (show _ from by have z := HFind_calls (Rdc.mono (((hH2.trans hH3).trans hH4).trans hH6) rd_f') (nth (allH f) i).at_ (all_IH i0 q20).1; rw [(all_is i0 q20).2] at z; exact z.mono fun _ _ _ _ h => ⟨h.1, h.2.2⟩)) ?_
       rintro F1 H1 L1 ⟨eF, eH, eL⟩
       subst eF; subst eL; rw [eH]; clear eH H1
       refine ⟨(Hp.le.refl _), (.cons _ .slnil), ?_⟩
       refine WpD.g (fuel := 2) (listed' := lst 13 2047) tabOK [7, 8, 9] (by kernel_rfl) rfl (((hH2.trans hH3).trans hH4).trans hH6) (Hp.le.refl _) (.cons _ .slnil) ?_
       exact WpD.weaken (G := [(1, .pointer (some ⟨b1, 0, none⟩)), (3, .slice A4 ((allH f).length) c4), (4, .int .i64 i), (5, .pointer (some ⟨s_, 0, none⟩)), (56, .agg #[.int .i64 ((nth (allH f) i).at_), .int .i64 ((nth (allH f) i).thn), .int .i64 ((nth (allH f) i).els), .int .i64 ((nth (allH f) i).join)]), (57, .bool true)]) ⟨rfl, rfl, rfl, rfl, rfl, rfl, trivial⟩ (hK s_)
     intro b10
     refine WpD.f (i := 11) (fuel := 1) (listed' := lst 13 4095) (by kernel_rfl) (((hH2.trans hH3).trans hH4).trans hH6) (OpG.storeBox (ci := 0) (cs' := [.int .i64 ((nth (allH f) i).at_), .int .i64 ((nth (allH f) i).thn), .int .i64 ((nth (allH f) i).els), .int .i64 ((nth (allH f) i).join)]) tabOK rfl rfl rfl rfl rfl rfl rfl rfl rfl) ?_
     rintro F1 H1 L1 ⟨eF, eH, eL⟩
     subst eF; subst eL; rw [eH]; clear eH H1
     refine ⟨(Hp.le.refl _), (.cons _ .slnil), ?_⟩
     change WpD _ _ _ _ _ _ _ _ _ _ _ _ _ _ [Chunk.box b10 [.int .i64 ((nth (allH f) i).at_), .int .i64 ((nth (allH f) i).thn), .int .i64 ((nth (allH f) i).els), .int .i64 ((nth (allH f) i).join)] 27]
     refine WpD.g (listed' := lst 13 8191) tabOK [12] (by kernel_rfl) rfl (((hH2.trans hH3).trans hH4).trans hH6) (Hp.le.refl _) (.cons _ .slnil) ?_
     refine WpD.done (by kernel_rfl) ?_
     refine WpG.g tabOK 2 rfl ?_
     refine WpG.draw 16 [Chunk.box b10 [.int .i64 ((nth (allH f) i).at_), .int .i64 ((nth (allH f) i).thn), .int .i64 ((nth (allH f) i).els), .int .i64 ((nth (allH f) i).join)] 27] mixed (by kernel_rfl) ?_
     refine WpD.g (listed' := lst 16 55) tabOK [0, 1, 2, 4, 5] (by kernel_rfl) rfl (((hH2.trans hH3).trans hH4).trans hH6) (Hp.le.refl _) (.cons_cons _ .slnil) ?_
     refine WpD.y (i := 3) (fuel := 10) (listed' := lst 16 63) (by kernel_rfl) rfl rfl rfl rfl (((hH2.trans hH3).trans hH4).trans hH6) (Hp.le.refl _) (.cons_cons _ .slnil) (RunY.loadBox (ci := 0) tabOK rfl rfl rfl rfl) ?_
     refine WpD.indexR (i := 6) (fuel := 9) (listed' := lst 16 127) tabOK (by kernel_rfl) rfl rfl rfl rfl rfl rfl rfl rfl rfl (((hH2.trans hH3).trans hH4).trans hH6) (Hp.le.refl _) (.cons_cons _ .slnil) r4 (by omega) (by omega) ?_
     rintro x11 hx11 b11 o11 cs11 rd11 hc11
     have rd11' := rd11; obtain ⟨rfl, k11_0, k11_1, k11_2, k11_3⟩ := rd11
     obtain rfl : x11 = (nth (allH f) i) := hx11
     refine WpD.y (i := 7) (fuel := 8) (listed' := lst 16 255) (by kernel_rfl) rfl rfl rfl rfl (((hH2.trans hH3).trans hH4).trans hH6) (Hp.le.refl _) (.cons_cons _ .slnil) (RunY.loadH tabOK hc11 hH6 rfl rfl rfl rfl) ?_
     refine WpD.y (i := 8) (fuel := 7) (listed' := lst 16 511) (by kernel_rfl) rfl rfl rfl rfl (((hH2.trans hH3).trans hH4).trans hH6) (Hp.le.refl _) (.cons_cons _ .slnil) (RunY.neQuad (e := 3) tabOK rfl rfl rfl rfl rfl Tryz.underlying26 (by kernel_rfl) (by kernel_rfl) (by kernel_rfl)) ?_
     refine WpD.g (listed' := lst 16 2047) tabOK [9, 10] (by kernel_rfl) rfl (((hH2.trans hH3).trans hH4).trans hH6) (Hp.le.refl _) (.cons_cons _ .slnil) ?_
     refine WpD.caseBn (t := 68) rfl (fun q68 => ?_) (fun q68 => ?_)
     ·exact absurd q68 (by rw [quad_refl]; decide)
     ·refine WpD.y (i := 11) (fuel := 4) (listed' := lst 16 4095) (by kernel_rfl) rfl rfl rfl rfl (((hH2.trans hH3).trans hH4).trans hH6) (Hp.le.refl _) (.cons_cons _ .slnil) (RunY.loadH tabOK hc2 ((hH3.trans hH4).trans hH6) rfl rfl rfl rfl) ?_
      refine WpD.y (i := 12) (fuel := 3) (listed' := lst 16 8191) (by kernel_rfl) rfl rfl rfl rfl (((hH2.trans hH3).trans hH4).trans hH6) (Hp.le.refl _) (.cons_cons _ .slnil) (RunY.loadBox (ci := 0) tabOK rfl rfl rfl rfl) ?_
      refine WpD.f (i := 13) (fuel := 2) (listed' := lst 16 16383) (by kernel_rfl) (((hH2.trans hH3).trans hH4).trans hH6) (OpG.call (Lc := []) rfl rfl rfl rfl rfl rfl (.refl _) (HCost_calls (Rdc.mono (((hH2.trans hH3).trans hH4).trans hH6) rd_f') (nth (allH f) i) (all_IH i0 q20))) ?_
      rintro _ H12 L1 ⟨_, _, rfl, hH12, ⟨rfl, hT, rfl⟩, eL⟩
      subst eL
      refine ⟨hH12, (.cons_cons _ .slnil), ?_⟩
      change WpD _ _ _ _ _ _ _ _ _ _ _ _ _ _ [Chunk.box b10 [.int .i64 ((nth (allH f) i).at_), .int .i64 ((nth (allH f) i).thn), .int .i64 ((nth (allH f) i).els), .int .i64 ((nth (allH f) i).join)] 27]
      refine WpD.g (listed' := lst 16 65535) tabOK [14, 15] (by kernel_rfl) rfl (((hH2.trans hH3).trans hH4).trans hH6) hH12 (.cons_cons _ .slnil) ?_
      refine WpD.done (by kernel_rfl) ?_
      refine WpG.caseD (t := 73) rfl (fun q73 => ?_) (fun q73 => ?_)
      ·exact absurd q73 (cost_nn _)
      ·refine WpG.g tabOK 8 rfl ?_
       refine WpG.wk (WpG.ind1 (fun (k : Int) => ⟨(i - k).toNat, [(1, .pointer (some ⟨b1, 0, none⟩)), (3, .slice A4 ((allH f).length) c4), (4, .int .i64 i), (7, .int .i64 k)], H12, [Chunk.box b10 [.int .i64 ((nth (allH f) i).at_), .int .i64 ((nth (allH f) i).thn), .int .i64 ((nth (allH f) i).els), .int .i64 ((nth (allH f) i).join)] 27], 0 ≤ k ∧ k ≤ i⟩) ?_ 0 ⟨by omega, by omega⟩) rfl
       intro k inv ih2
       obtain ⟨k0, k1⟩ := inv
       refine WpG.g tabOK 7 rfl ?_
       refine WpG.caseD (t := 76) rfl (fun q76 => ?_) (fun q76 => ?_)
       ·refine WpG.g tabOK 8 rfl ?_
        refine WpG.indexR tabOK rfl rfl rfl rfl rfl rfl rfl rfl rfl r4 (by omega) (by omega) ?_
        rintro x13 hx13 b13 o13 cs13 rd13 hc13
        have rd13' := rd13; obtain ⟨rfl, k13_0, k13_1, k13_2, k13_3⟩ := rd13
        obtain rfl : x13 = (nth (allH f) i) := hx13
        refine WpG.y rfl rfl rfl rfl (RunY.loadH tabOK hc13 (hH6.trans hH12) rfl rfl rfl rfl) ?_
        refine WpG.alloc tabOK rfl rfl rfl rfl rfl (fun b14 => ?_)
        refine WpG.storeBox (ci := 0) (cs' := [.int .i64 ((nth (allH f) i).at_), .int .i64 ((nth (allH f) i).thn), .int .i64 ((nth (allH f) i).els), .int .i64 ((nth (allH f) i).join)]) tabOK rfl rfl rfl rfl rfl rfl rfl rfl rfl ?_
        refine WpG.freezeBox (ci := 0) rfl (fun H15 hH15 hc15 => ?_)
        refine WpG.g tabOK 5 rfl ?_
        refine WpG.indexR tabOK rfl rfl rfl rfl rfl rfl rfl rfl rfl r4 (by omega) (by omega) ?_
        rintro x16 hx16 b16 o16 cs16 rd16 hc16
        have rd16' := rd16; obtain ⟨rfl, k16_0, k16_1, k16_2, k16_3⟩ := rd16
        obtain rfl : x16 = (nth (allH f) k) := hx16
        refine WpG.y rfl rfl rfl rfl (RunY.loadH tabOK hc16 ((hH6.trans hH12).trans hH15) rfl rfl rfl rfl) ?_
        refine WpG.alloc tabOK rfl rfl rfl rfl rfl (fun b17 => ?_)
        refine WpG.storeBox (ci := 0) (cs' := [.int .i64 ((nth (allH f) k).at_), .int .i64 ((nth (allH f) k).thn), .int .i64 ((nth (allH f) k).els), .int .i64 ((nth (allH f) k).join)]) tabOK rfl rfl rfl rfl rfl rfl rfl rfl rfl ?_
        refine WpG.freezeBox (ci := 0) rfl (fun H18 hH18 hc18 => ?_)
        refine WpG.g tabOK 2 rfl ?_
        apply WpG.join (G := [(1, .pointer (some ⟨b1, 0, none⟩)), (3, .slice A4 ((allH f).length) c4), (4, .int .i64 i), (7, .int .i64 k), (122, .bool (((decide (((nth (allH f) i).thn) ≥ 0)) && ((((nth (allH f) i).thn) == ((nth (allH f) k).thn)) || (((nth (allH f) i).thn) == ((nth (allH f) k).els)))) || ((decide (((nth (allH f) i).els) ≥ 0)) && ((((nth (allH f) i).els) == ((nth (allH f) k).thn)) || (((nth (allH f) i).els) == ((nth (allH f) k).els))))))])
        ·intro nx19
         refine WpG.g tabOK 1 rfl ?_
         refine WpG.g tabOK 1 rfl ?_
         refine WpG.y rfl rfl rfl rfl (RunY.loadH tabOK (hc15.sub 1 1) hH18 rfl rfl rfl rfl) ?_
         refine WpG.g tabOK 2 rfl ?_
         refine WpG.caseD (t := 90) rfl (fun q90 => ?_) (fun q90 => ?_)
         ·refine WpG.g tabOK 1 rfl ?_
          refine WpG.y rfl rfl rfl rfl (RunY.loadH tabOK (hc15.sub 1 1) hH18 rfl rfl rfl rfl) ?_
          refine WpG.g tabOK 1 rfl ?_
          refine WpG.y rfl rfl rfl rfl (RunY.loadH tabOK (hc18.sub 1 1) (Hp.le.refl _) rfl rfl rfl rfl) ?_
          refine WpG.g tabOK 2 rfl ?_
          refine WpG.caseE (t := 96) rfl (fun q96 => ?_) (fun q96 => ?_)
          ·refine WpG.g tabOK 27 rfl ?_
           exact nx19.weak ⟨rfl, rfl, rfl, rfl, bq (by first | (simp [q90, q96]; done) | (rw [Bool.eq_iff_iff]; simp only [Bool.or_eq_true, Bool.and_eq_true, decide_eq_true_eq, beq_iff_eq, eq_self, true_iff, Bool.false_eq_true, false_iff]; omega)), trivial⟩
          ·refine WpG.g tabOK 1 rfl ?_
           refine WpG.y rfl rfl rfl rfl (RunY.loadH tabOK (hc15.sub 1 1) hH18 rfl rfl rfl rfl) ?_
           refine WpG.g tabOK 1 rfl ?_
           refine WpG.y rfl rfl rfl rfl (RunY.loadH tabOK (hc18.sub 2 1) (Hp.le.refl _) rfl rfl rfl rfl) ?_
           refine WpG.g tabOK 4 rfl ?_
           refine WpG.caseE (t := 104) rfl (fun q104 => ?_) (fun q104 => ?_)
           ·refine WpG.g tabOK 19 rfl ?_
            exact nx19.weak ⟨rfl, rfl, rfl, rfl, bq (by first | (simp [q90, q96, nb q96, q104]; done) | (rw [Bool.eq_iff_iff]; simp only [Bool.or_eq_true, Bool.and_eq_true, decide_eq_true_eq, beq_iff_eq, eq_self, true_iff, Bool.false_eq_true, false_iff]; omega)), trivial⟩
           ·refine WpG.g tabOK 1 rfl ?_
            refine WpG.y rfl rfl rfl rfl (RunY.loadH tabOK (hc15.sub 2 1) hH18 rfl rfl rfl rfl) ?_
            refine WpG.g tabOK 2 rfl ?_
            refine WpG.caseD (t := 108) rfl (fun q108 => ?_) (fun q108 => ?_)
            ·refine WpG.g tabOK 1 rfl ?_
             refine WpG.y rfl rfl rfl rfl (RunY.loadH tabOK (hc15.sub 2 1) hH18 rfl rfl rfl rfl) ?_
             refine WpG.g tabOK 1 rfl ?_
             refine WpG.y rfl rfl rfl rfl (RunY.loadH tabOK (hc18.sub 1 1) (Hp.le.refl _) rfl rfl rfl rfl) ?_
             refine WpG.g tabOK 2 rfl ?_
             refine WpG.caseE (t := 114) rfl (fun q114 => ?_) (fun q114 => ?_)
             ·refine WpG.g tabOK 9 rfl ?_
              exact nx19.weak ⟨rfl, rfl, rfl, rfl, bq (by first | (simp [q90, q96, nb q96, q104, nb q104, q108, q114]; done) | (rw [Bool.eq_iff_iff]; simp only [Bool.or_eq_true, Bool.and_eq_true, decide_eq_true_eq, beq_iff_eq, eq_self, true_iff, Bool.false_eq_true, false_iff]; omega)), trivial⟩
             ·refine WpG.g tabOK 1 rfl ?_
              refine WpG.y rfl rfl rfl rfl (RunY.loadH tabOK (hc15.sub 2 1) hH18 rfl rfl rfl rfl) ?_
              refine WpG.g tabOK 1 rfl ?_
              refine WpG.y rfl rfl rfl rfl (RunY.loadH tabOK (hc18.sub 2 1) (Hp.le.refl _) rfl rfl rfl rfl) ?_
              refine WpG.g tabOK 5 rfl ?_
              exact nx19.weak ⟨rfl, rfl, rfl, rfl, bq (by first | (simp [q90, q96, nb q96, q104, nb q104, q108, q114, nb q114]; done) | (rw [Bool.eq_iff_iff]; simp only [Bool.or_eq_true, Bool.and_eq_true, decide_eq_true_eq, beq_iff_eq, eq_self, true_iff, Bool.false_eq_true, false_iff]; omega)), trivial⟩
            ·refine WpG.g tabOK 15 rfl ?_
             exact nx19.weak ⟨rfl, rfl, rfl, rfl, bq (by first | (simp [q90, q96, nb q96, q104, nb q104, q108]; done) | (rw [Bool.eq_iff_iff]; simp only [Bool.or_eq_true, Bool.and_eq_true, decide_eq_true_eq, beq_iff_eq, eq_self, true_iff, Bool.false_eq_true, false_iff]; omega)), trivial⟩
         ·refine WpG.g tabOK 15 rfl ?_
          refine WpG.y rfl rfl rfl rfl (RunY.loadH tabOK (hc15.sub 2 1) hH18 rfl rfl rfl rfl) ?_
          refine WpG.g tabOK 2 rfl ?_
          refine WpG.caseD (t := 108) rfl (fun q108 => ?_) (fun q108 => ?_)
          ·refine WpG.g tabOK 1 rfl ?_
           refine WpG.y rfl rfl rfl rfl (RunY.loadH tabOK (hc15.sub 2 1) hH18 rfl rfl rfl rfl) ?_
           refine WpG.g tabOK 1 rfl ?_
           refine WpG.y rfl rfl rfl rfl (RunY.loadH tabOK (hc18.sub 1 1) (Hp.le.refl _) rfl rfl rfl rfl) ?_
           refine WpG.g tabOK 2 rfl ?_
           refine WpG.caseE (t := 114) rfl (fun q114 => ?_) (fun q114 => ?_)
           ·refine WpG.g tabOK 9 rfl ?_
            exact nx19.weak ⟨rfl, rfl, rfl, rfl, bq (by first | (simp [q90, q108, q114]; done) | (rw [Bool.eq_iff_iff]; simp only [Bool.or_eq_true, Bool.and_eq_true, decide_eq_true_eq, beq_iff_eq, eq_self, true_iff, Bool.false_eq_true, false_iff]; omega)), trivial⟩
           ·refine WpG.g tabOK 1 rfl ?_
            refine WpG.y rfl rfl rfl rfl (RunY.loadH tabOK (hc15.sub 2 1) hH18 rfl rfl rfl rfl) ?_
            refine WpG.g tabOK 1 rfl ?_
            refine WpG.y rfl rfl rfl rfl (RunY.loadH tabOK (hc18.sub 2 1) (Hp.le.refl _) rfl rfl rfl rfl) ?_
            refine WpG.g tabOK 5 rfl ?_
            exact nx19.weak ⟨rfl, rfl, rfl, rfl, bq (by first | (simp [q90, q108, q114, nb q114]; done) | (rw [Bool.eq_iff_iff]; simp only [Bool.or_eq_true, Bool.and_eq_true, decide_eq_true_eq, beq_iff_eq, eq_self, true_iff, Bool.false_eq_true, false_iff]; omega)), trivial⟩
          ·refine WpG.g tabOK 15 rfl ?_
           exact nx19.weak ⟨rfl, rfl, rfl, rfl, bq (by first | (simp [q90, q108]; done) | (rw [Bool.eq_iff_iff]; simp only [Bool.or_eq_true, Bool.and_eq_true, decide_eq_true_eq, beq_iff_eq, eq_self, true_iff, Bool.false_eq_true, false_iff]; omega)), trivial⟩
        refine WpG.caseB (t := 122) rfl (fun q122 => ?_) (fun q122 => ?_)
        ·exact absurd ((apart (all_is i0 q20).1 (all_is k0 (by omega)).1 (by have := all_rise k0 q76 q20; omega)).symm.trans q122) (by decide)
        ·refine WpG.gw tabOK 6 78 rfl (wrk (x := k + 1) (by omega) (by omega)) ?_
         refine WpG.g tabOK 3 rfl ?_
         refine WpG.lessH ((((hH2.trans hH3).trans hH4).trans hH6).trans hH12) (hH15.trans hH18) ?_
         refine WpG.wk (ih2 (k + 1) ?_ ?_) rfl
         ·dsimp only
          omega
         ·
          clear ih1 ih2
          exact ⟨by omega, by omega⟩
       ·refine WpG.gw tabOK 6 22 rfl (wrk (x := i + 1) (by omega) (by omega)) ?_
        refine WpG.g tabOK 3 rfl ?_
        refine WpG.dropL (L' := []) (.cons _ .slnil) ?_
        refine WpG.lessH ((hH2.trans hH3).trans hH4) (hH6.trans hH12) ?_
        refine WpG.wk (ih1 (i + 1) ?_ ?_) rfl
        ·dsimp only
         omega
        ·
         clear ih1 ih2
         exact ⟨by omega, by omega⟩
   ·refine WpD.g (listed' := lst 25 33554431) tabOK [11, 12, 13, 14, 15, 16, 17, 18, 19, 20, 21, 22, 23, 24] (by kernel_rfl) rfl ((hH2.trans hH3).trans hH4) hH6 .slnil ?_
    refine WpD.done (by kernel_rfl) ?_
    refine WpG.g tabOK 3 rfl ?_
    refine WpG.draw 13 [] mixed (by kernel_rfl) ?_
    refine WpD.g (listed' := lst 13 6) tabOK [1, 2] (by kernel_rfl) rfl (((hH2.trans hH3).trans hH4).trans hH6) (Hp.le.refl _) .slnil ?_
    refine WpD.y (i := 0) (fuel := 10) (listed' := lst 13 7) (by kernel_rfl) rfl rfl rfl rfl (((hH2.trans hH3).trans hH4).trans hH6) (Hp.le.refl _) .slnil (RunY.loadH tabOK hc2 ((hH3.trans hH4).trans hH6) rfl rfl rfl rfl) ?_
    refine WpD.indexR (i := 3) (fuel := 9) (listed' := lst 13 15) tabOK (by kernel_rfl) rfl rfl rfl rfl rfl rfl rfl rfl rfl (((hH2.trans hH3).trans hH4).trans hH6) (Hp.le.refl _) .slnil r4 (by omega) (by omega) ?_
    rintro x20 hx20 b20 o20 cs20 rd20 hc20
    have rd20' := rd20; obtain ⟨rfl, k20_0, k20_1, k20_2, k20_3⟩ := rd20
    obtain rfl : x20 = (nth (allH f) i) := hx20
    refine WpD.g (listed' := lst 13 31) tabOK [4] (by kernel_rfl) rfl (((hH2.trans hH3).trans hH4).trans hH6) (Hp.le.refl _) .slnil ?_
    refine WpD.y (i := 5) (fuel := 7) (listed' := lst 13 63) (by kernel_rfl) rfl rfl rfl rfl (((hH2.trans hH3).trans hH4).trans hH6) (Hp.le.refl _) .slnil (RunY.loadH tabOK (hc20.sub 0 1) hH6 rfl rfl rfl rfl) ?_
    refine WpD.join (H := H6) (σ := Nat) (fuel' := 2) (lst 13 2047) (fun s_ => [(1, .pointer (some ⟨b1, 0, none⟩)), (3, .slice A4 ((allH f).length) c4), (4, .int .i64 i), (5, .pointer (some ⟨s_, 0, none⟩)), (56, .agg #[.int .i64 ((nth (allH f) i).at_), .int .i64 ((nth (allH f) i).thn), .int .i64 ((nth (allH f) i).els), .int .i64 ((nth (allH f) i).join)]), (57, .bool true)]) (fun s_ => [Chunk.box s_ [.int .i64 0, .int .i64 0, .int .i64 0, .int .i64 0] 27]) (fun hK => ?_) ?_
    ·refine WpD.any2 (i := 6) (j := 10) (by kernel_rfl) (((hH2.trans hH3).trans hH4).trans hH6) (OpG.callS (v := .tuple #[hamV (nth (allH f) i), .bool true]) rfl rfl rfl rfl rfl rfl (Hp.le.refl _) (show _ from by have z := HFind_calls (Rdc.mono (((hH2.trans hH3).trans hH4).trans hH6) rd_f') (nth (allH f) i).at_ (all_IH i0 q20).1; rw [(all_is i0 q20).2] at z; exact z.mono fun _ _ _ _ h => ⟨h.1, h.2.2⟩)) (OpG.alloc tabOK rfl rfl rfl rfl rfl) ?_ ?_
     ·rintro F1 H1 L1 ⟨eF, eH, eL⟩
      subst eF; subst eL; rw [eH]; clear eH H1
      refine ⟨(Hp.le.refl _), .slnil, ?_⟩
      refine WpD.g (fuel := 3) (listed' := lst 13 1023) tabOK [7, 8, 9] (by kernel_rfl) rfl (((hH2.trans hH3).trans hH4).trans hH6) (Hp.le.refl _) .slnil ?_
      refine WpD.f (i := 10) (fuel := 2) (listed' := lst 13 2047) (by kernel_rfl) (((hH2.trans hH3).trans hH4).trans hH6) (OpG.alloc tabOK rfl rfl rfl rfl rfl) ?_
      rintro F1 H1 L1 ⟨s_, eF, eH, eL⟩
      subst eF; subst eL; rw [eH]; clear eH H1
      refine ⟨(Hp.le.refl _), (.cons _ .slnil), ?_⟩
      exact WpD.weaken (G := [(1, .pointer (some ⟨b1, 0, none⟩)), (3, .slice A4 ((allH f).length) c4), (4, .int .i64 i), (5, .pointer (some ⟨s_, 0, none⟩)), (56, .agg #[.int .i64 ((nth (allH f) i).at_), .int .i64 ((nth (allH f) i).thn), .int .i64 ((nth (allH f) i).els), .int .i64 ((nth (allH f) i).join)]), (57, .bool true)]) ⟨rfl, rfl, rfl, rfl, rfl, rfl, trivial⟩ (hK s_)
     ·rintro F1 H1 L1 ⟨s_, eF, eH, eL⟩
      subst eF; subst eL; rw [eH]; clear eH H1
      refine ⟨(Hp.le.refl _), (.cons _ .slnil), ?_⟩
      refine WpD.f (i := 6) (fuel := 5) (listed' := lst 13 1151) (by kernel_rfl) (((hH2.trans hH3).trans hH4).trans hH6) (OpG.callS (v := .tuple #[hamV (nth (allH f) i), .bool true]) rfl rfl rfl rfl rfl rfl (Hp.le.refl _) (show _ from by have z := HFind_calls (Rdc.mono (((hH2.trans hH3).trans hH4).trans hH6) rd_f') (nth (allH f) i).at_ (all_IH i0 q20).1; rw [(all_is i0 q20).2] at z; exact z.mono fun _ _ _ _ h => ⟨h.1, h.2.2⟩)) ?_
      rintro F1 H1 L1 ⟨eF, eH, eL⟩
      subst eF; subst eL; rw [eH]; clear eH H1
      refine ⟨(Hp.le.refl _), (.cons _ .slnil), ?_⟩
      refine WpD.g (fuel := 2) (listed' := lst 13 2047) tabOK [7, 8, 9] (by kernel_rfl) rfl (((hH2.trans hH3).trans hH4).trans hH6) (Hp.le.refl _) (.cons _ .slnil) ?_
      exact WpD.weaken (G := [(1, .pointer (some ⟨b1, 0, none⟩)), (3, .slice A4 ((allH f).length) c4), (4, .int .i64 i), (5, .pointer (some ⟨s_, 0, none⟩)), (56, .agg #[.int .i64 ((nth (allH f) i).at_), .int .i64 ((nth (allH f) i).thn), .int .i64 ((nth (allH f) i).els), .int .i64 ((nth (allH f) i).join)]), (57, .bool true)]) ⟨rfl, rfl, rfl, rfl, rfl, rfl, trivial⟩ (hK s_)
    intro b21
    refine WpD.f (i := 11) (fuel := 1) (listed' := lst 13 4095) (by kernel_rfl) (((hH2.trans hH3).trans hH4).trans hH6) (OpG.storeBox (ci := 0) (cs' := [.int .i64 ((nth (allH f) i).at_), .int .i64 ((nth (allH f) i).thn), .int .i64 ((nth (allH f) i).els), .int .i64 ((nth (allH f) i).join)]) tabOK rfl rfl rfl rfl rfl rfl rfl rfl rfl) ?_
    rintro F1 H1 L1 ⟨eF, eH, eL⟩
    subst eF; subst eL; rw [eH]; clear eH H1
    refine ⟨(Hp.le.refl _), (.cons _ .slnil), ?_⟩
    change WpD _ _ _ _ _ _ _ _ _ _ _ _ _ _ [Chunk.box b21 [.int .i64 ((nth (allH f) i).at_), .int .i64 ((nth (allH f) i).thn), .int .i64 ((nth (allH f) i).els), .int .i64 ((nth (allH f) i).join)] 27]
    refine WpD.g (listed' := lst 13 8191) tabOK [12] (by kernel_rfl) rfl (((hH2.trans hH3).trans hH4).trans hH6) (Hp.le.refl _) (.cons _ .slnil) ?_
    refine WpD.done (by kernel_rfl) ?_
    refine WpG.g tabOK 2 rfl ?_
    refine WpG.draw 16 [Chunk.box b21 [.int .i64 ((nth (allH f) i).at_), .int .i64 ((nth (allH f) i).thn), .int .i64 ((nth (allH f) i).els), .int .i64 ((nth (allH f) i).join)] 27] mixed (by kernel_rfl) ?_
    refine WpD.g (listed' := lst 16 55) tabOK [0, 1, 2, 4, 5] (by kernel_rfl) rfl (((hH2.trans hH3).trans hH4).trans hH6) (Hp.le.refl _) (.cons_cons _ .slnil) ?_
    refine WpD.y (i := 3) (fuel := 10) (listed' := lst 16 63) (by kernel_rfl) rfl rfl rfl rfl (((hH2.trans hH3).trans hH4).trans hH6) (Hp.le.refl _) (.cons_cons _ .slnil) (RunY.loadBox (ci := 0) tabOK rfl rfl rfl rfl) ?_
    refine WpD.indexR (i := 6) (fuel := 9) (listed' := lst 16 127) tabOK (by kernel_rfl) rfl rfl rfl rfl rfl rfl rfl rfl rfl (((hH2.trans hH3).trans hH4).trans hH6) (Hp.le.refl _) (.cons_cons _ .slnil) r4 (by omega) (by omega) ?_
    rintro x22 hx22 b22 o22 cs22 rd22 hc22
    have rd22' := rd22; obtain ⟨rfl, k22_0, k22_1, k22_2, k22_3⟩ := rd22
    obtain rfl : x22 = (nth (allH f) i) := hx22
    refine WpD.y (i := 7) (fuel := 8) (listed' := lst 16 255) (by kernel_rfl) rfl rfl rfl rfl (((hH2.trans hH3).trans hH4).trans hH6) (Hp.le.refl _) (.cons_cons _ .slnil) (RunY.loadH tabOK hc22 hH6 rfl rfl rfl rfl) ?_
    refine WpD.y (i := 8) (fuel := 7) (listed' := lst 16 511) (by kernel_rfl) rfl rfl rfl rfl (((hH2.trans hH3).trans hH4).trans hH6) (Hp.le.refl _) (.cons_cons _ .slnil) (RunY.neQuad (e := 3) tabOK rfl rfl rfl rfl rfl Tryz.underlying26 (by kernel_rfl) (by kernel_rfl) (by kernel_rfl)) ?_
    refine WpD.g (listed' := lst 16 2047) tabOK [9, 10] (by kernel_rfl) rfl (((hH2.trans hH3).trans hH4).trans hH6) (Hp.le.refl _) (.cons_cons _ .slnil) ?_
    refine WpD.caseBn (t := 68) rfl (fun q68 => ?_) (fun q68 => ?_)
    ·exact absurd q68 (by rw [quad_refl]; decide)
    ·refine WpD.y (i := 11) (fuel := 4) (listed' := lst 16 4095) (by kernel_rfl) rfl rfl rfl rfl (((hH2.trans hH3).trans hH4).trans hH6) (Hp.le.refl _) (.cons_cons _ .slnil) (RunY.loadH tabOK hc2 ((hH3.trans hH4).trans hH6) rfl rfl rfl rfl) ?_
     refine WpD.y (i := 12) (fuel := 3) (listed' := lst 16 8191) (by kernel_rfl) rfl rfl rfl rfl (((hH2.trans hH3).trans hH4).trans hH6) (Hp.le.refl _) (.cons_cons _ .slnil) (RunY.loadBox (ci := 0) tabOK rfl rfl rfl rfl) ?_
     refine WpD.f (i := 13) (fuel := 2) (listed' := lst 16 16383) (by kernel_rfl) (((hH2.trans hH3).trans hH4).trans hH6) (OpG.call (Lc := []) rfl rfl rfl rfl rfl rfl (.refl _) (HCost_calls (Rdc.mono (((hH2.trans hH3).trans hH4).trans hH6) rd_f') (nth (allH f) i) (all_IH i0 q20))) ?_
     rintro _ H23 L1 ⟨_, _, rfl, hH23, ⟨rfl, hT, rfl⟩, eL⟩
     subst eL
     refine ⟨hH23, (.cons_cons _ .slnil), ?_⟩
     change WpD _ _ _ _ _ _ _ _ _ _ _ _ _ _ [Chunk.box b21 [.int .i64 ((nth (allH f) i).at_), .int .i64 ((nth (allH f) i).thn), .int .i64 ((nth (allH f) i).els), .int .i64 ((nth (allH f) i).join)] 27]
     refine WpD.g (listed' := lst 16 65535) tabOK [14, 15] (by kernel_rfl) rfl (((hH2.trans hH3).trans hH4).trans hH6) hH23 (.cons_cons _ .slnil) ?_
     refine WpD.done (by kernel_rfl) ?_
     refine WpG.caseD (t := 73) rfl (fun q73 => ?_) (fun q73 => ?_)
     ·exact absurd q73 (cost_nn _)
     ·refine WpG.g tabOK 8 rfl ?_
      refine WpG.wk (WpG.ind1 (fun (k : Int) => ⟨(i - k).toNat, [(1, .pointer (some ⟨b1, 0, none⟩)), (3, .slice A4 ((allH f).length) c4), (4, .int .i64 i), (7, .int .i64 k)], H23, [Chunk.box b21 [.int .i64 ((nth (allH f) i).at_), .int .i64 ((nth (allH f) i).thn), .int .i64 ((nth (allH f) i).els), .int .i64 ((nth (allH f) i).join)] 27], 0 ≤ k ∧ k ≤ i⟩) ?_ 0 ⟨by omega, by omega⟩) rfl
      intro k inv ih2
      obtain ⟨k0, k1⟩ := inv
      refine WpG.g tabOK 7 rfl ?_
      refine WpG.caseD (t := 76) rfl (fun q76 => ?_) (fun q76 => ?_)
      ·refine WpG.g tabOK 8 rfl ?_
       refine WpG.indexR tabOK rfl rfl rfl rfl rfl rfl rfl rfl rfl r4 (by omega) (by omega) ?_
       rintro x24 hx24 b24 o24 cs24 rd24 hc24
       have rd24' := rd24; obtain ⟨rfl, k24_0, k24_1, k24_2, k24_3⟩ := rd24
       obtain rfl : x24 = (nth (allH f) i) := hx24
       refine WpG.y rfl rfl rfl rfl (RunY.loadH tabOK hc24 (hH6.trans hH23) rfl rfl rfl rfl) ?_
       refine WpG.alloc tabOK rfl rfl rfl rfl rfl (fun b25 => ?_)
       refine WpG.storeBox (ci := 0) (cs' := [.int .i64 ((nth (allH f) i).at_), .int .i64 ((nth (allH f) i).thn), .int .i64 ((nth (allH f) i).els), .int .i64 ((nth (allH f) i).join)]) tabOK rfl rfl rfl rfl rfl rfl rfl rfl rfl ?_
       refine WpG.freezeBox (ci := 0) rfl (fun H26 hH26 hc26 => ?_)
       refine WpG.g tabOK 5 rfl ?_
       refine WpG.indexR tabOK rfl rfl rfl rfl rfl rfl rfl rfl rfl r4 (by omega) (by omega) ?_
       rintro x27 hx27 b27 o27 cs27 rd27 hc27
       have rd27' := rd27; obtain ⟨rfl, k27_0, k27_1, k27_2, k27_3⟩ := rd27
       obtain rfl : x27 = (nth (allH f) k) := hx27
       refine WpG.y rfl rfl rfl rfl (RunY.loadH tabOK hc27 ((hH6.trans hH23).trans hH26) rfl rfl rfl rfl) ?_
       refine WpG.alloc tabOK rfl rfl rfl rfl rfl (fun b28 => ?_)
       refine WpG.storeBox (ci := 0) (cs' := [.int .i64 ((nth (allH f) k).at_), .int .i64 ((nth (allH f) k).thn), .int .i64 ((nth (allH f) k).els), .int .i64 ((nth (allH f) k).join)]) tabOK rfl rfl rfl rfl rfl rfl rfl rfl rfl ?_
       refine WpG.freezeBox (ci := 0) rfl (fun H29 hH29 hc29 => ?_)
       refine WpG.g tabOK 2 rfl ?_
       apply WpG.join (G := [(1, .pointer (some ⟨b1, 0, none⟩)), (3, .slice A4 ((allH f).length) c4), (4, .int .i64 i), (7, .int .i64 k), (122, .bool (((decide (((nth (allH f) i).thn) ≥ 0)) && ((((nth (allH f) i).thn) == ((nth (allH f) k).thn)) || (((nth (allH f) i).thn) == ((nth (allH f) k).els)))) || ((decide (((nth (allH f) i).els) ≥ 0)) && ((((nth (allH f) i).els) == ((nth (allH f) k).thn)) || (((nth (allH f) i).els) == ((nth (allH f) k).els))))))])
       ·intro nx30
        refine WpG.g tabOK 1 rfl ?_
        refine WpG.g tabOK 1 rfl ?_
        refine WpG.y rfl rfl rfl rfl (RunY.loadH tabOK (hc26.sub 1 1) hH29 rfl rfl rfl rfl) ?_
        refine WpG.g tabOK 2 rfl ?_
        refine WpG.caseD (t := 90) rfl (fun q90 => ?_) (fun q90 => ?_)
        ·refine WpG.g tabOK 1 rfl ?_
         refine WpG.y rfl rfl rfl rfl (RunY.loadH tabOK (hc26.sub 1 1) hH29 rfl rfl rfl rfl) ?_
         refine WpG.g tabOK 1 rfl ?_
         refine WpG.y rfl rfl rfl rfl (RunY.loadH tabOK (hc29.sub 1 1) (Hp.le.refl _) rfl rfl rfl rfl) ?_
         refine WpG.g tabOK 2 rfl ?_
         refine WpG.caseE (t := 96) rfl (fun q96 => ?_) (fun q96 => ?_)
         ·refine WpG.g tabOK 27 rfl ?_
          exact nx30.weak ⟨rfl, rfl, rfl, rfl, bq (by first | (simp [q90, q96]; done) | (rw [Bool.eq_iff_iff]; simp only [Bool.or_eq_true, Bool.and_eq_true, decide_eq_true_eq, beq_iff_eq, eq_self, true_iff, Bool.false_eq_true, false_iff]; omega)), trivial⟩
         ·refine WpG.g tabOK 1 rfl ?_
          refine WpG.y rfl rfl rfl rfl (RunY.loadH tabOK (hc26.sub 1 1) hH29 rfl rfl rfl rfl) ?_
          refine WpG.g tabOK 1 rfl ?_
          refine WpG.y rfl rfl rfl rfl (RunY.loadH tabOK (hc29.sub 2 1) (Hp.le.refl _) rfl rfl rfl rfl) ?_
          refine WpG.g tabOK 4 rfl ?_
          refine WpG.caseE (t := 104) rfl (fun q104 => ?_) (fun q104 => ?_)
          ·refine WpG.g tabOK 19 rfl ?_
           exact nx30.weak ⟨rfl, rfl, rfl, rfl, bq (by first | (simp [q90, q96, nb q96, q104]; done) | (rw [Bool.eq_iff_iff]; simp only [Bool.or_eq_true, Bool.and_eq_true, decide_eq_true_eq, beq_iff_eq, eq_self, true_iff, Bool.false_eq_true, false_iff]; omega)), trivial⟩
          ·refine WpG.g tabOK 1 rfl ?_
           refine WpG.y rfl rfl rfl rfl (RunY.loadH tabOK (hc26.sub 2 1) hH29 rfl rfl rfl rfl) ?_
           refine WpG.g tabOK 2 rfl ?_
           refine WpG.caseD (t := 108) rfl (fun q108 => ?_) (fun q108 => ?_)
           ·refine WpG.g tabOK 1 rfl ?_
            refine WpG.y rfl rfl rfl rfl (RunY.loadH tabOK (hc26.sub 2 1) hH29 rfl rfl rfl rfl) ?_
            refine WpG.g tabOK 1 rfl ?_
            refine WpG.y rfl rfl rfl rfl (RunY.loadH tabOK (hc29.sub 1 1) (Hp.le.refl _) rfl rfl rfl rfl) ?_
            refine WpG.g tabOK 2 rfl ?_
            refine WpG.caseE (t := 114) rfl (fun q114 => ?_) (fun q114 => ?_)
            ·refine WpG.g tabOK 9 rfl ?_
             exact nx30.weak ⟨rfl, rfl, rfl, rfl, bq (by first | (simp [q90, q96, nb q96, q104, nb q104, q108, q114]; done) | (rw [Bool.eq_iff_iff]; simp only [Bool.or_eq_true, Bool.and_eq_true, decide_eq_true_eq, beq_iff_eq, eq_self, true_iff, Bool.false_eq_true, false_iff]; omega)), trivial⟩
            ·refine WpG.g tabOK 1 rfl ?_
             refine WpG.y rfl rfl rfl rfl (RunY.loadH tabOK (hc26.sub 2 1) hH29 rfl rfl rfl rfl) ?_
             refine WpG.g tabOK 1 rfl ?_
             refine WpG.y rfl rfl rfl rfl (RunY.loadH tabOK (hc29.sub 2 1) (Hp.le.refl _) rfl rfl rfl rfl) ?_
             refine WpG.g tabOK 5 rfl ?_
             exact nx30.weak ⟨rfl, rfl, rfl, rfl, bq (by first | (simp [q90, q96, nb q96, q104, nb q104, q108, q114, nb q114]; done) | (rw [Bool.eq_iff_iff]; simp only [Bool.or_eq_true, Bool.and_eq_true, decide_eq_true_eq, beq_iff_eq, eq_self, true_iff, Bool.false_eq_true, false_iff]; omega)), trivial⟩
           ·refine WpG.g tabOK 15 rfl ?_
            exact nx30.weak ⟨rfl, rfl, rfl, rfl, bq (by first | (simp [q90, q96, nb q96, q104, nb q104, q108]; done) | (rw [Bool.eq_iff_iff]; simp only [Bool.or_eq_true, Bool.and_eq_true, decide_eq_true_eq, beq_iff_eq, eq_self, true_iff, Bool.false_eq_true, false_iff]; omega)), trivial⟩
        ·refine WpG.g tabOK 15 rfl ?_
         refine WpG.y rfl rfl rfl rfl (RunY.loadH tabOK (hc26.sub 2 1) hH29 rfl rfl rfl rfl) ?_
         refine WpG.g tabOK 2 rfl ?_
         refine WpG.caseD (t := 108) rfl (fun q108 => ?_) (fun q108 => ?_)
         ·refine WpG.g tabOK 1 rfl ?_
          refine WpG.y rfl rfl rfl rfl (RunY.loadH tabOK (hc26.sub 2 1) hH29 rfl rfl rfl rfl) ?_
          refine WpG.g tabOK 1 rfl ?_
          refine WpG.y rfl rfl rfl rfl (RunY.loadH tabOK (hc29.sub 1 1) (Hp.le.refl _) rfl rfl rfl rfl) ?_
          refine WpG.g tabOK 2 rfl ?_
          refine WpG.caseE (t := 114) rfl (fun q114 => ?_) (fun q114 => ?_)
          ·refine WpG.g tabOK 9 rfl ?_
           exact nx30.weak ⟨rfl, rfl, rfl, rfl, bq (by first | (simp [q90, q108, q114]; done) | (rw [Bool.eq_iff_iff]; simp only [Bool.or_eq_true, Bool.and_eq_true, decide_eq_true_eq, beq_iff_eq, eq_self, true_iff, Bool.false_eq_true, false_iff]; omega)), trivial⟩
          ·refine WpG.g tabOK 1 rfl ?_
           refine WpG.y rfl rfl rfl rfl (RunY.loadH tabOK (hc26.sub 2 1) hH29 rfl rfl rfl rfl) ?_
           refine WpG.g tabOK 1 rfl ?_
           refine WpG.y rfl rfl rfl rfl (RunY.loadH tabOK (hc29.sub 2 1) (Hp.le.refl _) rfl rfl rfl rfl) ?_
           refine WpG.g tabOK 5 rfl ?_
           exact nx30.weak ⟨rfl, rfl, rfl, rfl, bq (by first | (simp [q90, q108, q114, nb q114]; done) | (rw [Bool.eq_iff_iff]; simp only [Bool.or_eq_true, Bool.and_eq_true, decide_eq_true_eq, beq_iff_eq, eq_self, true_iff, Bool.false_eq_true, false_iff]; omega)), trivial⟩
         ·refine WpG.g tabOK 15 rfl ?_
          exact nx30.weak ⟨rfl, rfl, rfl, rfl, bq (by first | (simp [q90, q108]; done) | (rw [Bool.eq_iff_iff]; simp only [Bool.or_eq_true, Bool.and_eq_true, decide_eq_true_eq, beq_iff_eq, eq_self, true_iff, Bool.false_eq_true, false_iff]; omega)), trivial⟩
       refine WpG.caseB (t := 122) rfl (fun q122 => ?_) (fun q122 => ?_)
       ·exact absurd ((apart (all_is i0 q20).1 (all_is k0 (by omega)).1 (by have := all_rise k0 q76 q20; omega)).symm.trans q122) (by decide)
       ·refine WpG.gw tabOK 6 78 rfl (wrk (x := k + 1) (by omega) (by omega)) ?_
        refine WpG.g tabOK 3 rfl ?_
        refine WpG.lessH ((((hH2.trans hH3).trans hH4).trans hH6).trans hH23) (hH26.trans hH29) ?_
        refine WpG.wk (ih2 (k + 1) ?_ ?_) rfl
        ·dsimp only
         omega
        ·
         clear ih1 ih2
         exact ⟨by omega, by omega⟩
      ·refine WpG.gw tabOK 6 22 rfl (wrk (x := i + 1) (by omega) (by omega)) ?_
       refine WpG.g tabOK 3 rfl ?_
       refine WpG.dropL (L' := []) (.cons _ .slnil) ?_
       refine WpG.lessH ((hH2.trans hH3).trans hH4) (hH6.trans hH23) ?_
       refine WpG.wk (ih1 (i + 1) ?_ ?_) rfl
       ·dsimp only
        omega
       ·
        clear ih1 ih2
        exact ⟨by omega, by omega⟩
  ·refine WpG.g tabOK 6 rfl ?_
   exact WpG.ret tabOK (L' := []) (.tmp rfl .nil) .slnil ⟨rfl, rfl⟩
end Go.Proofs.YtakameggkkjcpaaGreat
namespace Go.Proofs.YtakameggkkjcpaaGreat
open Go Go.RowKit Go.ChangeShapes Go.WideShapes Go.ChangeAt
set_option maxRecDepth 100000 in
theorem hammockApart_lifted (os : Os) (started : os.Started) (HH : Type) (enc : TypeId × Value → HH) :
    ReturnsInHanded {} Tryz.checked os 4 .any (Rows.hammockApartSpec.pre6 enc Tryz.prog Tryz.f4 Rows.hammockApartRow.domain false) (Rows.hammockApartSpec.post enc Tryz.prog Tryz.f4 false true false false) := by
  refine returnsInHanded_of_change_sized (C := Tryz.checked) own started (by kernel_rfl) Tryz.func4
    (ChangeSpec.witness6 (enc := enc) (C := Tryz.checked) false ⟨#[], #[.agg #[.slice none 0 0, .int .i64 0, .slice none 0 0]], []⟩ 8 (by kernel_rfl) (by kernel_rfl) (by kernel_rfl) (by kernel_rfl)) ?_
  intro W base args ds gs before hval0 hW _ hsz _
  have hW' := hW
  obtain ⟨p, q, hA0, hV, rfl, _, _⟩ := hW
  have hval : ∀ (j : Nat) t v, Tryz.f4.params[j]? = some t → args[j]? = some v → Value.okWide Tryz.prog W .any base t v := hval0
  have hA : DataW.TrodAll enc Tryz.prog W 0 (fun _ => true) true Tryz.f4.params.toList args.toList ds p := hA0
  rw [Tryz.params4] at hA hval
  obtain ⟨v0, d0, rfl, rfl, h0⟩ := trodAll_one hA
  obtain ⟨rfl, rfl⟩ := trodVars_none hV
  obtain ⟨cs, rfl, _⟩ := okWide_agg Tryz.underlying25 (hval 0 25 v0 rfl rfl)
  obtain ⟨fuel, hf⟩ := h0
  have hw : ∀ n ∈ DataW.weights Tryz.prog 25 d0, n ≤ reachBytes := weights_one hsz
  obtain ⟨f, A0, c0, A2, c2, hcs, u0, r0, u2, r2, k0⟩ := dFunc HH enc fuel _ _ hf hw
  have hcs' : cs = #[.slice A0 f.params.length c0, .int .i64 f.ret, .slice A2 f.blocks.length c2] := by
    have : cs.toList = _ := hcs
    exact Array.toList_inj.1 this
  subst hcs'
  refine (law_calls (HammockApart_calls u0 r0 u2 r2 k0)).mono fun e W' ⟨he, hb⟩ => ?_
  exact ⟨_, he, post_true hW' rfl laidOut (by kernel_rfl) Tryz.underlying4 rfl rfl hb⟩
theorem hammockApart : Rows.HammockApartSaid :=
  OpenClaim.holds_of_wide 4 Tryz.f4 rfl rfl rfl rfl rfl rfl rfl ⟨rfl, rfl, rfl, rfl, rfl⟩ rfl rfl rfl rfl rfl (by kernel_rfl) Tryz.func4 (by kernel_rfl)
    (of_decide_eq_true (by kernel_rfl)) (by unfold Func.isWrapper; first | (rw [if_pos (by decide +kernel)]; kernel_rfl) | (rw [if_neg (by decide +kernel)]; exact ⟨rfl, rfl⟩))
    (fun os started HH enc _ => hammockApart_lifted os started HH enc)
end Go.Proofs.YtakameggkkjcpaaGreat

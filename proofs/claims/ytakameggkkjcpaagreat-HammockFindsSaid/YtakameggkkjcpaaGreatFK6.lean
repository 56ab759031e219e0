/- Of every function its hammocks, whether anything is one, what one costs, and whether it can be merged, is what the document says: 'HammockFinds' answers true at every input. No conditions. -/
import Derived.Test.YtakameggkkjcpaaGreatFK5
import Derived.Test.YtakameggkkjcpaaGreatRows
set_option linter.unusedVariables false
set_option linter.unusedSimpArgs false
set_option maxRecDepth 4000
namespace Go.Proofs.YtakameggkkjcpaaGreat
open Go Go.RowKit
theorem rSide14_calls {H : Hp} {f : FuncD} {cs_f : List Value} (rd_f : Rdc.rd H cs_f f) {gr : GraphD} {cs_gr : List Value} (rd_gr : Rdc.rd H cs_gr gr) (hg : GG f gr) (a to_ x j : Int) (tr0 : 0 ≤ to_) (tr1 : to_ < f.blocks.length) : CallG Tryz.prog 31 [.agg cs_f.toArray, .agg cs_gr.toArray, .int .i64 a, .int .i64 to_, .int .i64 x, .int .i64 j] H [] (fun v _ L' => v = .bool (sideD f gr a to_ x j) ∧ L' = []) := by
 have rd_f' := rd_f; obtain ⟨A_f_0, c_f_0, A_f_2, c_f_2, rfl, u_f_0, r_f_0, u_f_2, r_f_2, k_f_0⟩ := rd_f
 have rd_gr' := rd_gr; obtain ⟨A_gr_0, c_gr_0, A_gr_1, c_gr_1, rfl, u_gr_0, r_gr_0, u_gr_1, r_gr_1⟩ := rd_gr
 have bf := r_f_2.1; have hgp := hg.pl
 refine CallG.of Tryz.func31 rfl rfl rfl fun w0 => ?_
 refine WpG.g tabOK 2 rfl ?_
 refine WpG.box rfl rfl rfl rfl rfl (fun b1 => ?_)
 refine WpG.freezeBox (ci := 0) rfl (fun H2 hH2 hc2 => ?_)
 refine WpG.box rfl rfl rfl rfl rfl (fun b3 => ?_)
 refine WpG.freezeBox (ci := 0) rfl (fun H4 hH4 hc4 => ?_)
 refine WpG.g tabOK 8 rfl ?_
 refine WpG.caseE (t := 15) rfl (fun q15 => ?_) (fun q15 => ?_)
 ·refine WpG.g tabOK 8 rfl ?_
  exact WpG.ret tabOK (L' := []) (.tmp rfl .nil) .slnil ⟨congrArg Value.bool (by unfold sideD; rw [if_pos q15]), rfl⟩
 refine WpG.g tabOK 9 rfl ?_
 refine WpG.caseN (t := 21) rfl (fun q21 => ?_) (fun q21 => ?_)
 ·refine WpG.g tabOK 5 rfl ?_
  exact WpG.ret tabOK (L' := []) (.tmp rfl .nil) .slnil ⟨congrArg Value.bool (by unfold sideD; rw [if_neg q15, beq_false_of_ne q21]; rfl), rfl⟩
 refine WpG.g tabOK 5 rfl ?_
 refine WpG.y rfl rfl rfl rfl (RunY.loadH tabOK (hc2.sub 2 1) hH4 rfl rfl rfl rfl) ?_
 refine WpG.g tabOK 1 rfl ?_
 refine WpG.indexR tabOK rfl rfl rfl rfl rfl rfl rfl rfl rfl r_f_2 (by omega) (by omega) ?_
 rintro x5 hx5 b5 o5 cs5 rd5 hc5
 have rd5' := rd5; obtain ⟨A5_0, c5_0, A5_1, c5_1, A5_4, c5_4, rfl, u5_0, r5_0, u5_1, r5_1, u5_4, r5_4, k5_0, k5_1⟩ := rd5
 have bz5_0 := r5_0.1
 have bz5_1 := r5_1.1
 have bz5_4 := r5_4.1
 obtain rfl : x5 = (nth f.blocks x) := hx5
 refine WpG.y rfl rfl rfl rfl (RunY.loadH tabOK hc5 (hH2.trans hH4) rfl rfl rfl rfl) ?_
 refine WpG.alloc tabOK rfl rfl rfl rfl rfl (fun b6 => ?_)
 refine WpG.storeBox (ci := 0) (cs' := [.slice A5_0 ((nth f.blocks x).phis.length) c5_0, .slice A5_1 ((nth f.blocks x).ops.length) c5_1, .int .i64 ((nth f.blocks x).en.kind), .int .i64 ((nth f.blocks x).en.arg), .slice A5_4 ((nth f.blocks x).en.to.length) c5_4]) tabOK rfl rfl rfl rfl rfl rfl rfl rfl rfl ?_
 refine WpG.freezeBox (ci := 0) rfl (fun H7 hH7 hc7 => ?_)
 refine WpG.g tabOK 4 rfl ?_
 refine WpG.y rfl rfl rfl rfl (RunY.loadH tabOK (hc4.sub 1 1) hH7 rfl rfl rfl rfl) ?_
 refine WpG.g tabOK 1 rfl ?_
 refine WpG.indexR tabOK rfl rfl rfl rfl rfl rfl rfl rfl rfl r_gr_1 (by omega) (by omega) ?_
 rintro x8 hx8 b8 o8 _ ⟨A8, c8, rfl, u8, r8⟩ hc8
 have bz8 := r8.1
 obtain rfl : x8 = (nth gr.pred x) := hx8
 refine WpG.y rfl rfl rfl rfl (RunY.loadH tabOK hc8 ((hH2.trans hH4).trans hH7) rfl rfl rfl rfl) ?_
 refine WpG.g tabOK 3 rfl ?_
 refine WpG.caseE (t := 34) rfl (fun q34 => ?_) (fun q34 => ?_)
 ·refine WpG.g tabOK 1 rfl ?_
  refine WpG.y rfl rfl rfl rfl (RunY.loadH tabOK (hc4.sub 1 1) hH7 rfl rfl rfl rfl) ?_
  refine WpG.g tabOK 1 rfl ?_
  refine WpG.indexR tabOK rfl rfl rfl rfl rfl rfl rfl rfl rfl r_gr_1 (by omega) (by omega) ?_
  rintro x9 hx9 b9 o9 _ ⟨A9, c9, rfl, u9, r9⟩ hc9
  have bz9 := r9.1
  obtain rfl : x9 = (nth gr.pred x) := hx9
  refine WpG.y rfl rfl rfl rfl (RunY.loadH tabOK hc9 ((hH2.trans hH4).trans hH7) rfl rfl rfl rfl) ?_
  refine WpG.indexR tabOK rfl rfl rfl rfl rfl rfl rfl rfl rfl r9 (by omega) (by omega) ?_
  rintro x10 hx10 b10 o10 _ ⟨rfl, k10⟩ hc10
  obtain rfl : x10 = (nth (nth gr.pred x) 0) := hx10
  refine WpG.y rfl rfl rfl rfl (RunY.loadH tabOK hc10 ((hH2.trans hH4).trans hH7) rfl rfl rfl rfl) ?_
  refine WpG.g tabOK 4 rfl ?_
  refine WpG.caseE (t := 45) rfl (fun q45 => ?_) (fun q45 => ?_)
  ·refine WpG.g tabOK 1 rfl ?_
   refine WpG.y rfl rfl rfl rfl (RunY.loadH tabOK (hc7.sub 0 1) hlr rfl rfl rfl rfl) ?_
   refine WpG.g tabOK 4 rfl ?_
   refine WpG.caseE (t := 51) rfl (fun q51 => ?_) (fun q51 => ?_)
   ·refine WpG.g tabOK 2 rfl ?_
    refine WpG.y rfl rfl rfl rfl (RunY.loadH tabOK (hc7.sub 2 1) hlr rfl rfl rfl rfl) ?_
    refine WpG.g tabOK 3 rfl ?_
    refine WpG.caseE (t := 57) rfl (fun q57 => ?_) (fun q57 => ?_)
    ·have hl1 := hg.one (by omega) (by omega) q57
     refine WpG.g tabOK 2 rfl ?_
     refine WpG.y rfl rfl rfl rfl (RunY.loadH tabOK (hc7.sub 4 1) hlr rfl rfl rfl rfl) ?_
     refine WpG.indexR tabOK rfl rfl rfl rfl rfl rfl rfl rfl rfl r5_4 (by omega) (by omega) ?_
     rintro x11 hx11 b11 o11 _ ⟨rfl, k11⟩ hc11
     obtain rfl : x11 = (nth ((nth f.blocks x).en.to) 0) := hx11
     refine WpG.y rfl rfl rfl rfl (RunY.loadH tabOK hc11 ((hH2.trans hH4).trans hH7) rfl rfl rfl rfl) ?_
     refine WpG.g tabOK 5 rfl ?_
     exact WpG.ret tabOK (L' := []) (.tmp rfl .nil) .slnil ⟨congrArg Value.bool (by rw [side_in q15 q21 tr0 tr1, q34, q45, q51, q57]; simp), rfl⟩
    refine WpG.g tabOK 10 rfl ?_
    exact WpG.ret tabOK (L' := []) (.tmp rfl .nil) .slnil ⟨congrArg Value.bool (by rw [side_in q15 q21 tr0 tr1, q34, q45, q51, beq_false_of_ne q57]; simp), rfl⟩
   refine WpG.g tabOK 16 rfl ?_
   exact WpG.ret tabOK (L' := []) (.tmp rfl .nil) .slnil ⟨congrArg Value.bool (by rw [side_in q15 q21 tr0 tr1, q34, q45, beq_false_of_ne q51]; simp), rfl⟩
  refine WpG.g tabOK 22 rfl ?_
  exact WpG.ret tabOK (L' := []) (.tmp rfl .nil) .slnil ⟨congrArg Value.bool (by rw [side_in q15 q21 tr0 tr1, q34, beq_false_of_ne q45]; simp), rfl⟩
 refine WpG.g tabOK 33 rfl ?_
 exact WpG.ret tabOK (L' := []) (.tmp rfl .nil) .slnil ⟨congrArg Value.bool (by rw [side_in q15 q21 tr0 tr1, beq_false_of_ne q34]; simp), rfl⟩
theorem rIs14_calls {H : Hp} {f : FuncD} {cs_f : List Value} (rd_f : Rdc.rd H cs_f f) (h : HamD) (hT : HasT f) : CallG Tryz.prog 13 [.agg cs_f.toArray, hamV h] H [] (fun v _ L' => v = .bool (isH f h) ∧ L' = []) := by
 have rd_f' := rd_f; obtain ⟨A_f_0, c_f_0, A_f_2, c_f_2, rfl, u_f_0, r_f_0, u_f_2, r_f_2, k_f_0⟩ := rd_f
 have bf := r_f_2.1
 refine CallG.of Tryz.func13 rfl rfl rfl fun w0 => ?_
 refine WpG.g tabOK 2 rfl ?_
 refine WpG.box rfl rfl rfl rfl rfl (fun b1 => ?_)
 refine WpG.freezeBox (ci := 0) rfl (fun H2 hH2 hc2 => ?_)
 refine WpG.box rfl rfl rfl rfl rfl (fun b3 => ?_)
 refine WpG.freezeBox (ci := 0) rfl (fun H4 hH4 hc4 => ?_)
 refine WpG.g tabOK 5 rfl ?_
 refine WpG.y rfl rfl rfl rfl (RunY.loadH tabOK hc2 hH4 rfl rfl rfl rfl) ?_
 refine WpG.call0 rfl rfl rfl rfl rfl rfl (rCheck_calls (Rdc.mono (hH2.trans hH4) rd_f') 2) ?_
 rintro _ H5 _ hH5 ⟨eR, rfl, hr, rfl⟩
 refine WpG.g tabOK 2 rfl ?_
 refine WpG.caseN (t := 11) rfl (fun q11 => ?_) (fun q11 => ?_)
 ·refine WpG.g tabOK 5 rfl ?_
  exact WpG.ret tabOK (L' := []) (.tmp rfl .nil) .slnil ⟨congrArg Value.bool (by unfold isH; rw [show okF f = false from by rw [← ok_ref hr hT]; simpa using q11]; rfl), rfl⟩
 have hok : okF f = true := by rw [← ok_ref hr hT]; simpa using q11
 have hg := (okF_gg hok).1
 refine WpG.g tabOK 5 rfl ?_
 refine WpG.y rfl rfl rfl rfl (RunY.loadH tabOK (hc2.sub 2 1) (hH4.trans hH5) rfl rfl rfl rfl) ?_
 refine WpG.g tabOK 5 rfl ?_
 apply WpG.join (G := [(2, .pointer (some ⟨b1, 0, none⟩)), (3, .pointer (some ⟨b3, 0, none⟩)), (51, .bool ((((((decide (h.at_ < 0)) || (decide (h.at_ ≥ (f.blocks.length : Int)))) || (decide (h.join < 0))) || (decide (h.join ≥ (f.blocks.length : Int)))) || (h.at_ == h.join)) || ((h.thn == (-1)) && (h.els == (-1)))))])
 ·intro nx6
  refine WpG.g tabOK 1 rfl ?_
  refine WpG.g tabOK 1 rfl ?_
  refine WpG.y rfl rfl rfl rfl (RunY.loadH tabOK (hc4.sub 0 1) hH5 rfl rfl rfl rfl) ?_
  refine WpG.g tabOK 2 rfl ?_
  refine WpG.caseD (t := 18) rfl (fun q18 => ?_) (fun q18 => ?_)
  ·refine WpG.g tabOK 34 rfl ?_
   exact nx6.weak ⟨rfl, rfl, bq (by simp [q18]), trivial⟩
  refine WpG.g tabOK 1 rfl ?_
  refine WpG.y rfl rfl rfl rfl (RunY.loadH tabOK (hc4.sub 0 1) hH5 rfl rfl rfl rfl) ?_
  refine WpG.g tabOK 4 rfl ?_
  refine WpG.caseD (t := 24) rfl (fun q24 => ?_) (fun q24 => ?_)
  ·refine WpG.g tabOK 28 rfl ?_
   exact nx6.weak ⟨rfl, rfl, bq (by simp [q18, q24]), trivial⟩
  refine WpG.g tabOK 1 rfl ?_
  refine WpG.y rfl rfl rfl rfl (RunY.loadH tabOK (hc4.sub 3 1) hH5 rfl rfl rfl rfl) ?_
  refine WpG.g tabOK 3 rfl ?_
  refine WpG.caseD (t := 29) rfl (fun q29 => ?_) (fun q29 => ?_)
  ·refine WpG.g tabOK 23 rfl ?_
   exact nx6.weak ⟨rfl, rfl, bq (by simp [q18, q24, q29]), trivial⟩
  refine WpG.g tabOK 1 rfl ?_
  refine WpG.y rfl rfl rfl rfl (RunY.loadH tabOK (hc4.sub 3 1) hH5 rfl rfl rfl rfl) ?_
  refine WpG.g tabOK 4 rfl ?_
  refine WpG.caseD (t := 35) rfl (fun q35 => ?_) (fun q35 => ?_)
  ·refine WpG.g tabOK 17 rfl ?_
   exact nx6.weak ⟨rfl, rfl, bq (by simp [q18, q24, q29, q35]), trivial⟩
  refine WpG.g tabOK 1 rfl ?_
  refine WpG.y rfl rfl rfl rfl (RunY.loadH tabOK (hc4.sub 0 1) hH5 rfl rfl rfl rfl) ?_
  refine WpG.g tabOK 1 rfl ?_
  refine WpG.y rfl rfl rfl rfl (RunY.loadH tabOK (hc4.sub 3 1) hH5 rfl rfl rfl rfl) ?_
  refine WpG.g tabOK 3 rfl ?_
  refine WpG.caseE (t := 42) rfl (fun q42 => ?_) (fun q42 => ?_)
  ·refine WpG.g tabOK 10 rfl ?_
   exact nx6.weak ⟨rfl, rfl, bq (by simp [q18, q24, q29, q35, q42]), trivial⟩
  refine WpG.g tabOK 1 rfl ?_
  refine WpG.y rfl rfl rfl rfl (RunY.loadH tabOK (hc4.sub 1 1) hH5 rfl rfl rfl rfl) ?_
  refine WpG.g tabOK 2 rfl ?_
  refine WpG.caseE (t := 46) rfl (fun q46 => ?_) (fun q46 => ?_)
  ·refine WpG.g tabOK 1 rfl ?_
   refine WpG.y rfl rfl rfl rfl (RunY.loadH tabOK (hc4.sub 2 1) hH5 rfl rfl rfl rfl) ?_
   refine WpG.g tabOK 4 rfl ?_
   exact nx6.weak ⟨rfl, rfl, bq (by simp [q18, q24, q29, q35, q42, nb q42, q46]), trivial⟩
  refine WpG.g tabOK 6 rfl ?_
  exact nx6.weak ⟨rfl, rfl, bq (by simp [q18, q24, q29, q35, q42, nb q42, q46, nb q46]), trivial⟩
 refine WpG.caseB (t := 51) rfl (fun q51 => ?_) (fun q51 => ?_)
 ·have ho : outH f h := by unfold outH; simp at q51; omega
  refine WpG.g tabOK 5 rfl ?_
  exact WpG.ret tabOK (L' := []) (.tmp rfl .nil) .slnil ⟨congrArg Value.bool (by unfold isH isD; rw [if_pos ho]; simp), rfl⟩
 have ho : ¬ outH f h := by unfold outH; simp at q51; omega
 have ho2 : 0 ≤ h.at_ ∧ h.at_ < f.blocks.length := by unfold outH at ho; omega
 refine WpG.g tabOK 5 rfl ?_
 refine WpG.y rfl rfl rfl rfl (RunY.loadH tabOK (hc2.sub 2 1) (hH4.trans hH5) rfl rfl rfl rfl) ?_
 refine WpG.g tabOK 1 rfl ?_
 refine WpG.y rfl rfl rfl rfl (RunY.loadH tabOK (hc4.sub 0 1) hH5 rfl rfl rfl rfl) ?_
 refine WpG.indexR tabOK rfl rfl rfl rfl rfl rfl rfl rfl rfl r_f_2 (by omega) (by omega) ?_
 rintro x7 hx7 b7 o7 cs7 rd7 hc7
 have rd7' := rd7; obtain ⟨A7_0, c7_0, A7_1, c7_1, A7_4, c7_4, rfl, u7_0, r7_0, u7_1, r7_1, u7_4, r7_4, k7_0, k7_1⟩ := rd7
 have bz7_0 := r7_0.1
 have bz7_1 := r7_1.1
 have bz7_4 := r7_4.1
 obtain rfl : x7 = (nth f.blocks h.at_) := hx7
 refine WpG.g tabOK 1 rfl ?_
 refine WpG.y rfl rfl rfl rfl (RunY.loadH tabOK (hc7.sub 2 3) ((hH2.trans hH4).trans hH5) rfl rfl rfl rfl) ?_
 refine WpG.alloc tabOK rfl rfl rfl rfl rfl (fun b8 => ?_)
 refine WpG.storeBox (ci := 0) (cs' := [.int .i64 ((nth f.blocks h.at_).en.kind), .int .i64 ((nth f.blocks h.at_).en.arg), .slice A7_4 ((nth f.blocks h.at_).en.to.length) c7_4]) tabOK rfl rfl rfl rfl rfl rfl rfl rfl rfl ?_
 refine WpG.freezeBox (ci := 0) rfl (fun H9 hH9 hc9 => ?_)
 refine WpG.g tabOK 3 rfl ?_
 refine WpG.draw 14 [] mixed (by kernel_rfl) ?_
 refine WpD.g (listed' := lst 14 1) tabOK [0] (by kernel_rfl) rfl (((hH2.trans hH4).trans hH5).trans hH9) hlr .slnil ?_
 refine WpD.y (i := 1) (fuel := 12) (listed' := lst 14 3) (by kernel_rfl) rfl rfl rfl rfl (((hH2.trans hH4).trans hH5).trans hH9) hlr .slnil (RunY.loadH tabOK (hc9.sub 0 1) hlr rfl rfl rfl rfl) ?_
 refine WpD.g (listed' := lst 14 15) tabOK [2, 3] (by kernel_rfl) rfl (((hH2.trans hH4).trans hH5).trans hH9) hlr .slnil ?_
 refine WpD.caseN (t := 62) rfl (fun q62 => ?_) (fun q62 => ?_)
 ·refine WpD.g (listed' := lst 14 16383) tabOK [4, 5, 6, 7, 8, 9, 10, 11, 12, 13] (by kernel_rfl) rfl (((hH2.trans hH4).trans hH5).trans hH9) hlr .slnil ?_
  refine WpD.done (by kernel_rfl) ?_
  refine WpG.g tabOK 5 rfl ?_
  exact WpG.ret tabOK (L' := []) (.tmp rfl .nil) .slnil ⟨congrArg Value.bool (by unfold isH isD; rw [hok, if_neg ho]; simp [q62]), rfl⟩
 have ht2 := hg.two ho2.1 ho2.2 q62
 refine WpD.g (listed' := lst 14 287) tabOK [4, 8] (by kernel_rfl) rfl (((hH2.trans hH4).trans hH5).trans hH9) hlr .slnil ?_
 refine WpD.y (i := 5) (fuel := 7) (listed' := lst 14 319) (by kernel_rfl) rfl rfl rfl rfl (((hH2.trans hH4).trans hH5).trans hH9) hlr .slnil (RunY.loadH tabOK (hc9.sub 2 1) hlr rfl rfl rfl rfl) ?_
 refine WpD.indexR (i := 6) (fuel := 6) (listed' := lst 14 383) tabOK (by kernel_rfl) rfl rfl rfl rfl rfl rfl rfl rfl rfl (((hH2.trans hH4).trans hH5).trans hH9) hlr .slnil r7_4 (by omega) (by omega) ?_
 rintro x10 hx10 b10 o10 _ ⟨rfl, k10⟩ hc10
 obtain rfl : x10 = (nth ((nth f.blocks h.at_).en.to) 0) := hx10
 refine WpD.y (i := 7) (fuel := 5) (listed' := lst 14 511) (by kernel_rfl) rfl rfl rfl rfl (((hH2.trans hH4).trans hH5).trans hH9) hlr .slnil (RunY.loadH tabOK hc10 (((hH2.trans hH4).trans hH5).trans hH9) rfl rfl rfl rfl) ?_
 refine WpD.y (i := 9) (fuel := 4) (listed' := lst 14 1023) (by kernel_rfl) rfl rfl rfl rfl (((hH2.trans hH4).trans hH5).trans hH9) hlr .slnil (RunY.loadH tabOK (hc9.sub 2 1) hlr rfl rfl rfl rfl) ?_
 refine WpD.indexR (i := 10) (fuel := 3) (listed' := lst 14 2047) tabOK (by kernel_rfl) rfl rfl rfl rfl rfl rfl rfl rfl rfl (((hH2.trans hH4).trans hH5).trans hH9) hlr .slnil r7_4 (by omega) (by omega) ?_
 rintro x11 hx11 b11 o11 _ ⟨rfl, k11⟩ hc11
 obtain rfl : x11 = (nth ((nth f.blocks h.at_).en.to) 1) := hx11
 refine WpD.y (i := 11) (fuel := 2) (listed' := lst 14 4095) (by kernel_rfl) rfl rfl rfl rfl (((hH2.trans hH4).trans hH5).trans hH9) hlr .slnil (RunY.loadH tabOK hc11 (((hH2.trans hH4).trans hH5).trans hH9) rfl rfl rfl rfl) ?_
 refine WpD.g (listed' := lst 14 16383) tabOK [12, 13] (by kernel_rfl) rfl (((hH2.trans hH4).trans hH5).trans hH9) hlr .slnil ?_
 refine WpD.done (by kernel_rfl) ?_
 refine WpG.caseE (t := 72) rfl (fun q72 => ?_) (fun q72 => ?_)
 ·refine WpG.g tabOK 5 rfl ?_
  exact WpG.ret tabOK (L' := []) (.tmp rfl .nil) .slnil ⟨congrArg Value.bool (by unfold isH isD; rw [hok, if_neg ho]; simp [q62, q72]), rfl⟩
 refine WpG.g tabOK 4 rfl ?_
 refine WpG.y rfl rfl rfl rfl (RunY.loadH tabOK hc2 ((hH4.trans hH5).trans hH9) rfl rfl rfl rfl) ?_
 refine WpG.call0 rfl rfl rfl rfl rfl rfl (rOf_calls (Rdc.mono (((hH2.trans hH4).trans hH5).trans hH9) rd_f')) ?_
 rintro _ H12 _ hH12 ⟨A12, c12, B12, d12, rfl, ua12, ra12, ub12, rb12, rfl⟩
 refine WpG.g tabOK 3 rfl ?_
 refine WpG.alloc tabOK rfl rfl rfl rfl rfl (fun b13 => ?_)
 refine WpG.storeBox (ci := 0) (cs' := [.slice A12 ((ofD f).1.succ.length) c12, .slice B12 ((ofD f).1.pred.length) d12]) tabOK rfl rfl rfl rfl rfl rfl rfl rfl rfl ?_
 refine WpG.freezeBox (ci := 0) rfl (fun H14 hH14 hc14 => ?_)
 refine WpG.g tabOK 3 rfl ?_
 refine WpG.draw 29 [] mixed (by kernel_rfl) ?_
 refine WpD.g (listed' := lst 29 1300) tabOK [2, 4, 8, 10] (by kernel_rfl) rfl (((((hH2.trans hH4).trans hH5).trans hH9).trans hH12).trans hH14) hlr .slnil ?_
 refine WpD.y (i := 0) (fuel := 24) (listed' := lst 29 1301) (by kernel_rfl) rfl rfl rfl rfl (((((hH2.trans hH4).trans hH5).trans hH9).trans hH12).trans hH14) hlr .slnil (RunY.loadH tabOK hc2 ((((hH4.trans hH5).trans hH9).trans hH12).trans hH14) rfl rfl rfl rfl) ?_
 refine WpD.y (i := 1) (fuel := 23) (listed' := lst 29 1303) (by kernel_rfl) rfl rfl rfl rfl (((((hH2.trans hH4).trans hH5).trans hH9).trans hH12).trans hH14) hlr .slnil (RunY.loadH tabOK hc14 hlr rfl rfl rfl rfl) ?_
 refine WpD.y (i := 3) (fuel := 22) (listed' := lst 29 1311) (by kernel_rfl) rfl rfl rfl rfl (((((hH2.trans hH4).trans hH5).trans hH9).trans hH12).trans hH14) hlr .slnil (RunY.loadH tabOK (hc4.sub 0 1) (((hH5.trans hH9).trans hH12).trans hH14) rfl rfl rfl rfl) ?_
 refine WpD.y (i := 5) (fuel := 21) (listed' := lst 29 1343) (by kernel_rfl) rfl rfl rfl rfl (((((hH2.trans hH4).trans hH5).trans hH9).trans hH12).trans hH14) hlr .slnil (RunY.loadH tabOK (hc9.sub 2 1) (hH12.trans hH14) rfl rfl rfl rfl) ?_
 refine WpD.indexR (i := 6) (fuel := 20) (listed' := lst 29 1407) tabOK (by kernel_rfl) rfl rfl rfl rfl rfl rfl rfl rfl rfl (((((hH2.trans hH4).trans hH5).trans hH9).trans hH12).trans hH14) hlr .slnil r7_4 (by omega) (by omega) ?_
 rintro x15 hx15 b15 o15 _ ⟨rfl, k15⟩ hc15
 obtain rfl : x15 = (nth ((nth f.blocks h.at_).en.to) 0) := hx15
 refine WpD.y (i := 7) (fuel := 19) (listed' := lst 29 1535) (by kernel_rfl) rfl rfl rfl rfl (((((hH2.trans hH4).trans hH5).trans hH9).trans hH12).trans hH14) hlr .slnil (RunY.loadH tabOK hc15 (((((hH2.trans hH4).trans hH5).trans hH9).trans hH12).trans hH14) rfl rfl rfl rfl) ?_
 refine WpD.y (i := 9) (fuel := 18) (listed' := lst 29 2047) (by kernel_rfl) rfl rfl rfl rfl (((((hH2.trans hH4).trans hH5).trans hH9).trans hH12).trans hH14) hlr .slnil (RunY.loadH tabOK (hc4.sub 1 1) (((hH5.trans hH9).trans hH12).trans hH14) rfl rfl rfl rfl) ?_
 refine WpD.y (i := 11) (fuel := 17) (listed' := lst 29 4095) (by kernel_rfl) rfl rfl rfl rfl (((((hH2.trans hH4).trans hH5).trans hH9).trans hH12).trans hH14) hlr .slnil (RunY.loadH tabOK (hc4.sub 3 1) (((hH5.trans hH9).trans hH12).trans hH14) rfl rfl rfl rfl) ?_
 refine WpD.callS (i := 12) (fuel := 16) (listed' := lst 29 8191) (by kernel_rfl) rfl rfl rfl rfl rfl rfl hlr (rSide14_calls (Rdc.mono (((((hH2.trans hH4).trans hH5).trans hH9).trans hH12).trans hH14) rd_f') (Rdc.mono hH14 ⟨_, _, _, _, rfl, ua12, ra12, ub12, rb12⟩) hg h.at_ (nth ((nth f.blocks h.at_).en.to) 0) h.thn h.join (by omega) (by omega)) (((((hH2.trans hH4).trans hH5).trans hH9).trans hH12).trans hH14) hlr .slnil ?_
 refine WpD.g (listed' := lst 29 16383) tabOK [13] (by kernel_rfl) rfl (((((hH2.trans hH4).trans hH5).trans hH9).trans hH12).trans hH14) hlr .slnil ?_
 refine WpD.caseB (t := 91) rfl (fun q91 => ?_) (fun q91 => ?_)
 ·refine WpD.g (listed' := lst 29 21315583) tabOK [16, 18, 22, 24] (by kernel_rfl) rfl (((((hH2.trans hH4).trans hH5).trans hH9).trans hH12).trans hH14) hlr .slnil ?_
  refine WpD.y (i := 14) (fuel := 10) (listed' := lst 29 21331967) (by kernel_rfl) rfl rfl rfl rfl (((((hH2.trans hH4).trans hH5).trans hH9).trans hH12).trans hH14) hlr .slnil (RunY.loadH tabOK hc2 ((((hH4.trans hH5).trans hH9).trans hH12).trans hH14) rfl rfl rfl rfl) ?_
  refine WpD.y (i := 15) (fuel := 9) (listed' := lst 29 21364735) (by kernel_rfl) rfl rfl rfl rfl (((((hH2.trans hH4).trans hH5).trans hH9).trans hH12).trans hH14) hlr .slnil (RunY.loadH tabOK hc14 hlr rfl rfl rfl rfl) ?_
  refine WpD.y (i := 17) (fuel := 8) (listed' := lst 29 21495807) (by kernel_rfl) rfl rfl rfl rfl (((((hH2.trans hH4).trans hH5).trans hH9).trans hH12).trans hH14) hlr .slnil (RunY.loadH tabOK (hc4.sub 0 1) (((hH5.trans hH9).trans hH12).trans hH14) rfl rfl rfl rfl) ?_
  refine WpD.y (i := 19) (fuel := 7) (listed' := lst 29 22020095) (by kernel_rfl) rfl rfl rfl rfl (((((hH2.trans hH4).trans hH5).trans hH9).trans hH12).trans hH14) hlr .slnil (RunY.loadH tabOK (hc9.sub 2 1) (hH12.trans hH14) rfl rfl rfl rfl) ?_
  refine WpD.indexR (i := 20) (fuel := 6) (listed' := lst 29 23068671) tabOK (by kernel_rfl) rfl rfl rfl rfl rfl rfl rfl rfl rfl (((((hH2.trans hH4).trans hH5).trans hH9).trans hH12).trans hH14) hlr .slnil r7_4 (by omega) (by omega) ?_
  rintro x16 hx16 b16 o16 _ ⟨rfl, k16⟩ hc16
  obtain rfl : x16 = (nth ((nth f.blocks h.at_).en.to) 1) := hx16
  refine WpD.y (i := 21) (fuel := 5) (listed' := lst 29 25165823) (by kernel_rfl) rfl rfl rfl rfl (((((hH2.trans hH4).trans hH5).trans hH9).trans hH12).trans hH14) hlr .slnil (RunY.loadH tabOK hc16 (((((hH2.trans hH4).trans hH5).trans hH9).trans hH12).trans hH14) rfl rfl rfl rfl) ?_
  refine WpD.y (i := 23) (fuel := 4) (listed' := lst 29 33554431) (by kernel_rfl) rfl rfl rfl rfl (((((hH2.trans hH4).trans hH5).trans hH9).trans hH12).trans hH14) hlr .slnil (RunY.loadH tabOK (hc4.sub 2 1) (((hH5.trans hH9).trans hH12).trans hH14) rfl rfl rfl rfl) ?_
  refine WpD.y (i := 25) (fuel := 3) (listed' := lst 29 67108863) (by kernel_rfl) rfl rfl rfl rfl (((((hH2.trans hH4).trans hH5).trans hH9).trans hH12).trans hH14) hlr .slnil (RunY.loadH tabOK (hc4.sub 3 1) (((hH5.trans hH9).trans hH12).trans hH14) rfl rfl rfl rfl) ?_
  refine WpD.callS (i := 26) (fuel := 2) (listed' := lst 29 134217727) (by kernel_rfl) rfl rfl rfl rfl rfl rfl hlr (rSide14_calls (Rdc.mono (((((hH2.trans hH4).trans hH5).trans hH9).trans hH12).trans hH14) rd_f') (Rdc.mono hH14 ⟨_, _, _, _, rfl, ua12, ra12, ub12, rb12⟩) hg h.at_ (nth ((nth f.blocks h.at_).en.to) 1) h.els h.join (by omega) (by omega)) (((((hH2.trans hH4).trans hH5).trans hH9).trans hH12).trans hH14) hlr .slnil ?_
  refine WpD.g (listed' := lst 29 536870911) tabOK [27, 28] (by kernel_rfl) rfl (((((hH2.trans hH4).trans hH5).trans hH9).trans hH12).trans hH14) hlr .slnil ?_
  refine WpD.done (by kernel_rfl) ?_
  exact WpG.ret tabOK (L' := []) (.tmp rfl .nil) .slnil ⟨congrArg Value.bool (by unfold isH isD; rw [hok, if_neg ho]; simp [q62, q72, q91]), rfl⟩
 refine WpD.g (listed' := lst 29 536870911) tabOK [14, 15, 16, 17, 18, 19, 20, 21, 22, 23, 24, 25, 26, 27, 28] (by kernel_rfl) rfl (((((hH2.trans hH4).trans hH5).trans hH9).trans hH12).trans hH14) hlr .slnil ?_
 refine WpD.done (by kernel_rfl) ?_
 exact WpG.ret tabOK (L' := []) (.tmp rfl .nil) .slnil ⟨congrArg Value.bool (by unfold isH isD; rw [hok, if_neg ho]; simp [q62, q72, q91]), rfl⟩
end Go.Proofs.YtakameggkkjcpaaGreat
set_option maxRecDepth 4000
namespace Go.Proofs.YtakameggkkjcpaaGreat
open Go Go.RowKit
set_option maxHeartbeats 1000000 in
theorem rFind14_calls {H : Hp} {f : FuncD} {cs_f : List Value} (rd_f : Rdc.rd H cs_f f) (a : Int) (hT : HasT f) : CallG Tryz.prog 11 [.agg cs_f.toArray, .int .i64 a] H [] (fun v _ L' => v = .tuple #[hamV (findH f a).1, .bool (findH f a).2] ∧ L' = []) := by
 have rd_f' := rd_f; obtain ⟨A_f_0, c_f_0, A_f_2, c_f_2, rfl, u_f_0, r_f_0, u_f_2, r_f_2, k_f_0⟩ := rd_f
 have bf := r_f_2.1
 refine CallG.of Tryz.func11 rfl rfl rfl fun w0 => ?_
 refine WpG.g tabOK 2 rfl ?_
 refine WpG.box rfl rfl rfl rfl rfl (fun b1 => ?_)
 refine WpG.freezeBox (ci := 0) rfl (fun H2 hH2 hc2 => ?_)
 refine WpG.alloc tabOK rfl rfl rfl rfl rfl (fun b3 => ?_)
 refine WpG.g tabOK 5 rfl ?_
 refine WpG.y rfl rfl rfl rfl (RunY.loadH tabOK hc2 hlr rfl rfl rfl rfl) ?_
 refine WpG.call0 rfl rfl rfl rfl rfl rfl (rCheck_calls (Rdc.mono hH2 rd_f') 2) ?_
 rintro _ H4 _ hH4 ⟨eR, rfl, hr, rfl⟩
 refine WpG.g tabOK 2 rfl ?_
 refine WpG.caseN (t := 13) rfl (fun q13 => ?_) (fun q13 => ?_)
 ·refine WpG.g tabOK 25 rfl ?_
  refine WpG.storeBox (ci := 0) (cs' := [.int .i64 0, .int .i64 0, .int .i64 0, .int .i64 0]) tabOK rfl rfl rfl rfl rfl rfl rfl rfl rfl ?_
  refine WpG.g tabOK 2 rfl ?_
  exact WpG.ret tabOK (L' := []) (.cell (ci := 0) rfl rfl rfl rfl (.tmp rfl .nil)) (.cons _ .slnil) ⟨by rw [find_off (f := f) (a := a) (ok_ref hr hT) (by rw [show (eR != 0) = true from by simpa using q13]; rfl)]; rfl, rfl⟩
 refine WpG.g tabOK 4 rfl ?_
 refine WpG.caseD (t := 17) rfl (fun q17 => ?_) (fun q17 => ?_)
 ·refine WpG.g tabOK 21 rfl ?_
  refine WpG.storeBox (ci := 0) (cs' := [.int .i64 0, .int .i64 0, .int .i64 0, .int .i64 0]) tabOK rfl rfl rfl rfl rfl rfl rfl rfl rfl ?_
  refine WpG.g tabOK 2 rfl ?_
  exact WpG.ret tabOK (L' := []) (.cell (ci := 0) rfl rfl rfl rfl (.tmp rfl .nil)) (.cons _ .slnil) ⟨by rw [find_off (f := f) (a := a) (ok_ref hr hT) (by rw [q13, decide_eq_true q17]; rfl)]; rfl, rfl⟩
 refine WpG.g tabOK 2 rfl ?_
 refine WpG.y rfl rfl rfl rfl (RunY.loadH tabOK (hc2.sub 2 1) hH4 rfl rfl rfl rfl) ?_
 refine WpG.g tabOK 4 rfl ?_
 refine WpG.caseD (t := 24) rfl (fun q24 => ?_) (fun q24 => ?_)
 ·refine WpG.g tabOK 14 rfl ?_
  refine WpG.storeBox (ci := 0) (cs' := [.int .i64 0, .int .i64 0, .int .i64 0, .int .i64 0]) tabOK rfl rfl rfl rfl rfl rfl rfl rfl rfl ?_
  refine WpG.g tabOK 2 rfl ?_
  exact WpG.ret tabOK (L' := []) (.cell (ci := 0) rfl rfl rfl rfl (.tmp rfl .nil)) (.cons _ .slnil) ⟨by rw [find_off (f := f) (a := a) (ok_ref hr hT) (by rw [q13, decide_eq_false q17, decide_eq_true q24]; rfl)]; rfl, rfl⟩
 refine WpG.g tabOK 1 rfl ?_
 refine WpG.y rfl rfl rfl rfl (RunY.loadH tabOK (hc2.sub 2 1) hH4 rfl rfl rfl rfl) ?_
 refine WpG.g tabOK 1 rfl ?_
 refine WpG.indexR tabOK rfl rfl rfl rfl rfl rfl rfl rfl rfl r_f_2 (by omega) (by omega) ?_
 rintro x5 hx5 b5 o5 cs5 rd5 hc5
 have rd5' := rd5; obtain ⟨A5_0, c5_0, A5_1, c5_1, A5_4, c5_4, rfl, u5_0, r5_0, u5_1, r5_1, u5_4, r5_4, k5_0, k5_1⟩ := rd5
 have bz5_0 := r5_0.1
 have bz5_1 := r5_1.1
 have bz5_4 := r5_4.1
 obtain rfl : x5 = (nth f.blocks a) := hx5
 refine WpG.g tabOK 2 rfl ?_
 refine WpG.y rfl rfl rfl rfl (RunY.loadH tabOK (hc5.sub 2 1) (hH2.trans hH4) rfl rfl rfl rfl) ?_
 refine WpG.g tabOK 3 rfl ?_
 refine WpG.caseN (t := 33) rfl (fun q33 => ?_) (fun q33 => ?_)
 ·refine WpG.g tabOK 4 rfl ?_
  refine WpG.storeBox (ci := 0) (cs' := [.int .i64 0, .int .i64 0, .int .i64 0, .int .i64 0]) tabOK rfl rfl rfl rfl rfl rfl rfl rfl rfl ?_
  refine WpG.g tabOK 2 rfl ?_
  exact WpG.ret tabOK (L' := []) (.cell (ci := 0) rfl rfl rfl rfl (.tmp rfl .nil)) (.cons _ .slnil) ⟨by rw [find_off (f := f) (a := a) (ok_ref hr hT) (by rw [q13, decide_eq_false q17, decide_eq_false q24, show ((nth f.blocks a).en.kind != 2) = true from by simpa using q33]; rfl)]; rfl, rfl⟩
 obtain ⟨hok, a0, a1, hk⟩ := find_on (ok_ref hr hT) (show ((((eR != 0) || (decide (a < 0))) || (decide (a ≥ (f.blocks.length : Int)))) || ((nth f.blocks a).en.kind != 2)) = false from by rw [q13, decide_eq_false q17, decide_eq_false q24, q33]; rfl)
 have hg := (okF_gg hok).1; have ht2 := hg.two a0 a1 hk
 refine WpG.g tabOK 5 rfl ?_
 refine WpG.y rfl rfl rfl rfl (RunY.loadH tabOK (hc2.sub 2 1) hH4 rfl rfl rfl rfl) ?_
 refine WpG.g tabOK 1 rfl ?_
 refine WpG.indexR tabOK rfl rfl rfl rfl rfl rfl rfl rfl rfl r_f_2 (by omega) (by omega) ?_
 rintro x6 hx6 b6 o6 cs6 rd6 hc6
 have rd6' := rd6; obtain ⟨A6_0, c6_0, A6_1, c6_1, A6_4, c6_4, rfl, u6_0, r6_0, u6_1, r6_1, u6_4, r6_4, k6_0, k6_1⟩ := rd6
 have bz6_0 := r6_0.1
 have bz6_1 := r6_1.1
 have bz6_4 := r6_4.1
 obtain rfl : x6 = (nth f.blocks a) := hx6
 refine WpG.g tabOK 1 rfl ?_
 refine WpG.y rfl rfl rfl rfl (RunY.loadH tabOK (hc6.sub 2 3) (hH2.trans hH4) rfl rfl rfl rfl) ?_
 refine WpG.alloc tabOK rfl rfl rfl rfl rfl (fun b7 => ?_)
 refine WpG.storeBox (ci := 0) (cs' := [.int .i64 ((nth f.blocks a).en.kind), .int .i64 ((nth f.blocks a).en.arg), .slice A6_4 ((nth f.blocks a).en.to.length) c6_4]) tabOK rfl rfl rfl rfl rfl rfl rfl rfl rfl ?_
 refine WpG.freezeBox (ci := 0) rfl (fun H8 hH8 hc8 => ?_)
 refine WpG.g tabOK 8 rfl ?_
 refine WpG.wk (WpG.ind1 (fun (s : Int) => ⟨(3 - s).toNat, [(1, .int .i64 a), (2, .pointer (some ⟨b1, 0, none⟩)), (4, .pointer (some ⟨b3, 0, none⟩)), (6, .pointer (some ⟨b7, 0, none⟩)), (7, .int .i64 s)], H8, [Chunk.box b3 [.int .i64 0, .int .i64 0, .int .i64 0, .int .i64 0] 27], 0 ≤ s ∧ s ≤ 3 ∧ NoUp f (ofD f).1 a s⟩) ?_ 0 ⟨by omega, by omega, fun t t0 t1 => by exfalso; have : t < 0 := t1; omega⟩) rfl
 intro s inv ih1
 obtain ⟨s0, s1, s2⟩ := inv
 refine WpG.g tabOK 6 rfl ?_
 refine WpG.caseD (t := 42) rfl (fun q42 => ?_) (fun q42 => ?_)
 ·refine WpG.g tabOK 10 rfl ?_
  refine WpG.wk (WpG.ind1 (fun (j : Int) => ⟨(f.blocks.length - j).toNat, [(1, .int .i64 a), (2, .pointer (some ⟨b1, 0, none⟩)), (4, .pointer (some ⟨b3, 0, none⟩)), (6, .pointer (some ⟨b7, 0, none⟩)), (7, .int .i64 s), (8, .int .i64 j)], H8, [Chunk.box b3 [.int .i64 0, .int .i64 0, .int .i64 0, .int .i64 0] 27], 0 ≤ j ∧ j ≤ f.blocks.length ∧ NoTo f (ofD f).1 a s j⟩) ?_ 0 ⟨by omega, by omega, fun y y0 y1 => by exfalso; have : y < 0 := y1; omega⟩) rfl
  intro j inv ih2
  obtain ⟨j0, j1, j2⟩ := inv
  have hbl := (okF_gg hok).2.1.b1
  refine WpG.g tabOK 5 rfl ?_
  refine WpG.y rfl rfl rfl rfl (RunY.loadH tabOK (hc2.sub 2 1) (hH4.trans hH8) rfl rfl rfl rfl) ?_
  refine WpG.g tabOK 3 rfl ?_
  refine WpG.caseD (t := 49) rfl (fun q49 => ?_) (fun q49 => ?_)
  ·refine WpG.g tabOK 5 rfl ?_
   refine WpG.draw 13 [Chunk.box b3 [.int .i64 0, .int .i64 0, .int .i64 0, .int .i64 0] 27] mixed (by kernel_rfl) ?_
   refine WpD.g (listed' := lst 13 547) tabOK [0, 1, 5, 9] (by kernel_rfl) rfl ((hH2.trans hH4).trans hH8) hlr (.refl _) ?_
   refine WpD.y (i := 2) (fuel := 8) (listed' := lst 13 551) (by kernel_rfl) rfl rfl rfl rfl ((hH2.trans hH4).trans hH8) hlr (.refl _) (RunY.loadH tabOK (hc8.sub 2 1) hlr rfl rfl rfl rfl) ?_
   refine WpD.indexR (i := 3) (fuel := 7) (listed' := lst 13 559) tabOK (by kernel_rfl) rfl rfl rfl rfl rfl rfl rfl rfl rfl ((hH2.trans hH4).trans hH8) hlr (.refl _) r6_4 (by omega) (by omega) ?_
   rintro x9 hx9 b9 o9 _ ⟨rfl, k9⟩ hc9
   obtain rfl : x9 = (nth ((nth f.blocks a).en.to) 0) := hx9
   refine WpD.y (i := 4) (fuel := 6) (listed' := lst 13 575) (by kernel_rfl) rfl rfl rfl rfl ((hH2.trans hH4).trans hH8) hlr (.refl _) (RunY.loadH tabOK hc9 ((hH2.trans hH4).trans hH8) rfl rfl rfl rfl) ?_
   refine WpD.y (i := 6) (fuel := 5) (listed' := lst 13 639) (by kernel_rfl) rfl rfl rfl rfl ((hH2.trans hH4).trans hH8) hlr (.refl _) (RunY.loadH tabOK (hc8.sub 2 1) hlr rfl rfl rfl rfl) ?_
   refine WpD.indexR (i := 7) (fuel := 4) (listed' := lst 13 767) tabOK (by kernel_rfl) rfl rfl rfl rfl rfl rfl rfl rfl rfl ((hH2.trans hH4).trans hH8) hlr (.refl _) r6_4 (by omega) (by omega) ?_
   rintro x10 hx10 b10 o10 _ ⟨rfl, k10⟩ hc10
   obtain rfl : x10 = (nth ((nth f.blocks a).en.to) 1) := hx10
   refine WpD.y (i := 8) (fuel := 3) (listed' := lst 13 1023) (by kernel_rfl) rfl rfl rfl rfl ((hH2.trans hH4).trans hH8) hlr (.refl _) (RunY.loadH tabOK hc10 ((hH2.trans hH4).trans hH8) rfl rfl rfl rfl) ?_
   refine WpD.g (listed' := lst 13 2047) tabOK [10] (by kernel_rfl) rfl ((hH2.trans hH4).trans hH8) hlr (.refl _) ?_
   refine WpD.f (i := 11) (fuel := 1) (listed' := lst 13 4095) (by kernel_rfl) ((hH2.trans hH4).trans hH8) (OpG.alloc tabOK rfl rfl rfl rfl rfl) ?_
   rintro F1 H1 L1 ⟨b11, eF, eH, eL⟩
   subst eF; subst eL; rw [eH]; clear eH H1
   refine ⟨hlr, (.cons _ (.cons_cons _ .slnil)), ?_⟩
   change WpD _ _ _ _ _ _ _ _ _ _ _ _ _ _ [Chunk.box b11 [.int .i64 0, .int .i64 0, .int .i64 0, .int .i64 0] 27, Chunk.box b3 [.int .i64 0, .int .i64 0, .int .i64 0, .int .i64 0] 27]
   refine WpD.f (i := 12) (fuel := 0) (listed' := lst 13 8191) (by kernel_rfl) ((hH2.trans hH4).trans hH8) (OpG.storeBox (ci := 0) (cs' := [.int .i64 a, .int .i64 (nth ((nth f.blocks a).en.to) 0), .int .i64 (nth ((nth f.blocks a).en.to) 1), .int .i64 j]) tabOK rfl rfl rfl rfl rfl rfl rfl rfl rfl) ?_
   rintro F1 H1 L1 ⟨eF, eH, eL⟩
   subst eF; subst eL; rw [eH]; clear eH H1
   refine ⟨hlr, (.cons _ (.cons_cons _ .slnil)), ?_⟩
   change WpD _ _ _ _ _ _ _ _ _ _ _ _ _ _ [Chunk.box b11 [.int .i64 a, .int .i64 (nth ((nth f.blocks a).en.to) 0), .int .i64 (nth ((nth f.blocks a).en.to) 1), .int .i64 j] 27, Chunk.box b3 [.int .i64 0, .int .i64 0, .int .i64 0, .int .i64 0] 27]
   refine WpD.done (by kernel_rfl) ?_
   refine WpG.g tabOK 6 rfl ?_
   refine WpG.caseE (t := 64) rfl (fun q64 => ?_) (fun q64 => ?_)
   ·refine WpG.g tabOK 3 rfl ?_
    refine WpG.storeBox (ci := 0) (cs' := [.int .i64 a, .int .i64 (nth ((nth f.blocks a).en.to) 0), .int .i64 (-1), .int .i64 j]) tabOK rfl rfl rfl rfl rfl rfl rfl rfl rfl ?_
    refine WpG.g tabOK 7 rfl ?_
    refine WpG.caseE (t := 67) rfl (fun q67 => ?_) (fun q67 => ?_)
    ·refine WpG.g tabOK 3 rfl ?_
     refine WpG.storeBox (ci := 0) (cs' := [.int .i64 a, .int .i64 (-1), .int .i64 (-1), .int .i64 j]) tabOK rfl rfl rfl rfl rfl rfl rfl rfl rfl ?_
     refine WpG.g tabOK 3 rfl ?_
     refine WpG.y rfl rfl rfl rfl (RunY.loadH tabOK hc2 (hH4.trans hH8) rfl rfl rfl rfl) ?_
     refine WpG.y rfl rfl rfl rfl (RunY.loadBox (ci := 0) tabOK rfl rfl rfl rfl) ?_
     refine WpG.callS rfl rfl rfl rfl rfl rfl hlr (rIs14_calls (Rdc.mono ((hH2.trans hH4).trans hH8) rd_f') ⟨a, (-1), (-1), j⟩ hT) ?_
     refine WpG.g tabOK 1 rfl ?_
     refine WpG.caseB (t := 71) rfl (fun q71 => ?_) (fun q71 => ?_)
     ·refine WpG.g tabOK 3 rfl ?_
      refine WpG.y rfl rfl rfl rfl (RunY.loadBox (ci := 0) tabOK rfl rfl rfl rfl) ?_
      refine WpG.storeBox (ci := 1) (cs' := [.int .i64 a, .int .i64 (-1), .int .i64 (-1), .int .i64 j]) tabOK rfl rfl rfl rfl rfl rfl rfl rfl rfl ?_
      refine WpG.g tabOK 2 rfl ?_
      exact WpG.ret tabOK (L' := []) (.cell (ci := 1) rfl rfl rfl rfl (.tmp rfl .nil)) (.cons _ (.cons _ .slnil)) (by exfalso; omega)
     refine WpG.gw tabOK 6 51 rfl (wrk (x := j + 1) (by omega) (by omega)) ?_
     refine WpG.g tabOK 3 rfl ?_
     refine WpG.dropL (L' := [Chunk.box b3 [.int .i64 0, .int .i64 0, .int .i64 0, .int .i64 0] 27]) (.cons _ (.cons_cons _ .slnil)) ?_
     refine WpG.wk (ih2 (j + 1) ?_ ?_) rfl
     ·dsimp only
      omega
     clear ih1 ih2
     show 0 ≤ (j + 1) ∧ (j + 1) ≤ f.blocks.length ∧ NoTo f (ofD f).1 a s (j + 1)
     exfalso; omega
    refine WpG.g tabOK 4 rfl ?_
    refine WpG.y rfl rfl rfl rfl (RunY.loadH tabOK hc2 (hH4.trans hH8) rfl rfl rfl rfl) ?_
    refine WpG.y rfl rfl rfl rfl (RunY.loadBox (ci := 0) tabOK rfl rfl rfl rfl) ?_
    refine WpG.callS rfl rfl rfl rfl rfl rfl hlr (rIs14_calls (Rdc.mono ((hH2.trans hH4).trans hH8) rd_f') ⟨a, (nth ((nth f.blocks a).en.to) 0), (-1), j⟩ hT) ?_
    refine WpG.g tabOK 1 rfl ?_
    refine WpG.caseB (t := 71) rfl (fun q71 => ?_) (fun q71 => ?_)
    ·refine WpG.g tabOK 3 rfl ?_
     refine WpG.y rfl rfl rfl rfl (RunY.loadBox (ci := 0) tabOK rfl rfl rfl rfl) ?_
     refine WpG.storeBox (ci := 1) (cs' := [.int .i64 a, .int .i64 (nth ((nth f.blocks a).en.to) 0), .int .i64 (-1), .int .i64 j]) tabOK rfl rfl rfl rfl rfl rfl rfl rfl rfl ?_
     refine WpG.g tabOK 2 rfl ?_
     exact WpG.ret tabOK (L' := []) (.cell (ci := 1) rfl rfl rfl rfl (.tmp rfl .nil)) (.cons _ (.cons _ .slnil)) ⟨by rw [find_hit hok a0 a1 hk s0 (by omega) s2 (show hamS f a s j = _ from by unfold hamS; rw [if_neg (by omega), if_pos (by omega)]) q71]; rfl, rfl⟩
    refine WpG.gw tabOK 6 51 rfl (wrk (x := j + 1) (by omega) (by omega)) ?_
    refine WpG.g tabOK 3 rfl ?_
    refine WpG.dropL (L' := [Chunk.box b3 [.int .i64 0, .int .i64 0, .int .i64 0, .int .i64 0] 27]) (.cons _ (.cons_cons _ .slnil)) ?_
    refine WpG.wk (ih2 (j + 1) ?_ ?_) rfl
    ·dsimp only
     omega
    clear ih1 ih2
    exact ⟨by omega, by omega, j2.step hok (by unfold hamS; rw [if_neg (by omega), if_pos (by omega)]) q71⟩
   refine WpG.g tabOK 8 rfl ?_
   refine WpG.caseE (t := 67) rfl (fun q67 => ?_) (fun q67 => ?_)
   ·refine WpG.g tabOK 3 rfl ?_
    refine WpG.storeBox (ci := 0) (cs' := [.int .i64 a, .int .i64 (-1), .int .i64 (nth ((nth f.blocks a).en.to) 1), .int .i64 j]) tabOK rfl rfl rfl rfl rfl rfl rfl rfl rfl ?_
    refine WpG.g tabOK 3 rfl ?_
    refine WpG.y rfl rfl rfl rfl (RunY.loadH tabOK hc2 (hH4.trans hH8) rfl rfl rfl rfl) ?_
    refine WpG.y rfl rfl rfl rfl (RunY.loadBox (ci := 0) tabOK rfl rfl rfl rfl) ?_
    refine WpG.callS rfl rfl rfl rfl rfl rfl hlr (rIs14_calls (Rdc.mono ((hH2.trans hH4).trans hH8) rd_f') ⟨a, (-1), (nth ((nth f.blocks a).en.to) 1), j⟩ hT) ?_
    refine WpG.g tabOK 1 rfl ?_
    refine WpG.caseB (t := 71) rfl (fun q71 => ?_) (fun q71 => ?_)
    ·refine WpG.g tabOK 3 rfl ?_
     refine WpG.y rfl rfl rfl rfl (RunY.loadBox (ci := 0) tabOK rfl rfl rfl rfl) ?_
     refine WpG.storeBox (ci := 1) (cs' := [.int .i64 a, .int .i64 (-1), .int .i64 (nth ((nth f.blocks a).en.to) 1), .int .i64 j]) tabOK rfl rfl rfl rfl rfl rfl rfl rfl rfl ?_
     refine WpG.g tabOK 2 rfl ?_
     exact WpG.ret tabOK (L' := []) (.cell (ci := 1) rfl rfl rfl rfl (.tmp rfl .nil)) (.cons _ (.cons _ .slnil)) ⟨by rw [find_hit hok a0 a1 hk s0 (by omega) s2 (show hamS f a s j = _ from by unfold hamS; rw [if_pos (by omega), if_neg (by omega)]) q71]; rfl, rfl⟩
    refine WpG.gw tabOK 6 51 rfl (wrk (x := j + 1) (by omega) (by omega)) ?_
    refine WpG.g tabOK 3 rfl ?_
    refine WpG.dropL (L' := [Chunk.box b3 [.int .i64 0, .int .i64 0, .int .i64 0, .int .i64 0] 27]) (.cons _ (.cons_cons _ .slnil)) ?_
    refine WpG.wk (ih2 (j + 1) ?_ ?_) rfl
    ·dsimp only
     omega
    clear ih1 ih2
    exact ⟨by omega, by omega, j2.step hok (by unfold hamS; rw [if_pos (by omega), if_neg (by omega)]) q71⟩
   refine WpG.g tabOK 4 rfl ?_
   refine WpG.y rfl rfl rfl rfl (RunY.loadH tabOK hc2 (hH4.trans hH8) rfl rfl rfl rfl) ?_
   refine WpG.y rfl rfl rfl rfl (RunY.loadBox (ci := 0) tabOK rfl rfl rfl rfl) ?_
   refine WpG.callS rfl rfl rfl rfl rfl rfl hlr (rIs14_calls (Rdc.mono ((hH2.trans hH4).trans hH8) rd_f') ⟨a, (nth ((nth f.blocks a).en.to) 0), (nth ((nth f.blocks a).en.to) 1), j⟩ hT) ?_
   refine WpG.g tabOK 1 rfl ?_
   refine WpG.caseB (t := 71) rfl (fun q71 => ?_) (fun q71 => ?_)
   ·refine WpG.g tabOK 3 rfl ?_
    refine WpG.y rfl rfl rfl rfl (RunY.loadBox (ci := 0) tabOK rfl rfl rfl rfl) ?_
    refine WpG.storeBox (ci := 1) (cs' := [.int .i64 a, .int .i64 (nth ((nth f.blocks a).en.to) 0), .int .i64 (nth ((nth f.blocks a).en.to) 1), .int .i64 j]) tabOK rfl rfl rfl rfl rfl rfl rfl rfl rfl ?_
    refine WpG.g tabOK 2 rfl ?_
    exact WpG.ret tabOK (L' := []) (.cell (ci := 1) rfl rfl rfl rfl (.tmp rfl .nil)) (.cons _ (.cons _ .slnil)) ⟨by rw [find_hit hok a0 a1 hk s0 (by omega) s2 (show hamS f a s j = _ from by unfold hamS; rw [if_neg (by omega), if_neg (by omega)]) q71]; rfl, rfl⟩
   refine WpG.gw tabOK 6 51 rfl (wrk (x := j + 1) (by omega) (by omega)) ?_
   refine WpG.g tabOK 3 rfl ?_
   refine WpG.dropL (L' := [Chunk.box b3 [.int .i64 0, .int .i64 0, .int .i64 0, .int .i64 0] 27]) (.cons _ (.cons_cons _ .slnil)) ?_
   refine WpG.wk (ih2 (j + 1) ?_ ?_) rfl
   ·dsimp only
    omega
   clear ih1 ih2
   exact ⟨by omega, by omega, j2.step hok (by unfold hamS; rw [if_neg (by omega), if_neg (by omega)]) q71⟩
  refine WpG.gw tabOK 6 44 rfl (wrk (x := s + 1) (by omega) (by omega)) ?_
  refine WpG.g tabOK 3 rfl ?_
  refine WpG.wk (ih1 (s + 1) ?_ ?_) rfl
  ·dsimp only
   omega
  clear ih1 ih2
  exact ⟨by omega, by omega, s2.step j2 q49⟩
 refine WpG.g tabOK 5 rfl ?_
 refine WpG.storeBox (ci := 0) (cs' := [.int .i64 0, .int .i64 0, .int .i64 0, .int .i64 0]) tabOK rfl rfl rfl rfl rfl rfl rfl rfl rfl ?_
 refine WpG.g tabOK 2 rfl ?_
 exact WpG.ret tabOK (L' := []) (.cell (ci := 0) rfl rfl rfl rfl (.tmp rfl .nil)) (.cons _ .slnil) ⟨by rw [find_miss hok a0 a1 s2 q42]; rfl, rfl⟩
theorem rOps14_calls {H : Hp} {f : FuncD} {cs_f : List Value} (rd_f : Rdc.rd H cs_f f) (h : HamD) (ho1 : h.thn = -1 ∨ (0 ≤ h.thn ∧ h.thn < f.blocks.length)) (ho2 : h.els = -1 ∨ (0 ≤ h.els ∧ h.els < f.blocks.length)) (hbo : ∀ x ∈ f.blocks, x.ops.length ≤ 512) : CallG Tryz.prog 16 [.agg cs_f.toArray, hamV h] H [] (fun v H' L' => ∃ A c, v = .slice A (opsD f h).length c ∧ (opsD f h).length ≤ c ∧ RdS H' A (opsD f h) ∧ L' = []) := by
 have rd_f' := rd_f; obtain ⟨A_f_0, c_f_0, A_f_2, c_f_2, rfl, u_f_0, r_f_0, u_f_2, r_f_2, k_f_0⟩ := rd_f
 have bf := r_f_2.1
 refine CallG.of Tryz.func16 rfl rfl rfl fun w0 => ?_
 refine WpG.g tabOK 2 rfl ?_
 refine WpG.box rfl rfl rfl rfl rfl (fun b1 => ?_)
 refine WpG.freezeBox (ci := 0) rfl (fun H2 hH2 hc2 => ?_)
 refine WpG.box rfl rfl rfl rfl rfl (fun b3 => ?_)
 refine WpG.freezeBox (ci := 0) rfl (fun H4 hH4 hc4 => ?_)
 refine WpG.g tabOK 10 rfl ?_
 refine WpG.y rfl rfl rfl rfl (RunY.loadH tabOK (hc4.sub 1 1) hlr rfl rfl rfl rfl) ?_
 refine WpG.g tabOK 2 rfl ?_
 refine WpG.caseD (t := 8) rfl (fun q8 => ?_) (fun q8 => ?_)
 ·have hbthn := hbo _ (nth_mem (xs := f.blocks) (i := h.thn) (by omega) (by omega))
  refine WpG.g tabOK 4 rfl ?_
  refine WpG.y rfl rfl rfl rfl (RunY.loadH tabOK (hc2.sub 2 1) hH4 rfl rfl rfl rfl) ?_
  refine WpG.g tabOK 1 rfl ?_
  refine WpG.y rfl rfl rfl rfl (RunY.loadH tabOK (hc4.sub 1 1) hlr rfl rfl rfl rfl) ?_
  refine WpG.indexR tabOK rfl rfl rfl rfl rfl rfl rfl rfl rfl r_f_2 (by omega) (by omega) ?_
  rintro x5 hx5 b5 o5 cs5 rd5 hc5
  have rd5' := rd5; obtain ⟨A5_0, c5_0, A5_1, c5_1, A5_4, c5_4, rfl, u5_0, r5_0, u5_1, r5_1, u5_4, r5_4, k5_0, k5_1⟩ := rd5
  have bz5_0 := r5_0.1
  have bz5_1 := r5_1.1
  have bz5_4 := r5_4.1
  obtain rfl : x5 = (nth f.blocks h.thn) := hx5
  refine WpG.g tabOK 1 rfl ?_
  refine WpG.y rfl rfl rfl rfl (RunY.loadH tabOK (hc5.sub 1 1) (hH2.trans hH4) rfl rfl rfl rfl) ?_
  refine WpG.ownNil 53 6 ?_
  refine WpG.appendR (ci := 0) tabOK rfl rfl rfl rfl rfl rfl rfl rfl rfl rfl rfl r5_1 (hH2.trans hH4) (by omega) (fun A7 c8 cs9 hcs9 => ?_)
  refine WpG.g tabOK 6 rfl ?_
  refine WpG.y rfl rfl rfl rfl (RunY.loadH tabOK (hc4.sub 2 1) hlr rfl rfl rfl rfl) ?_
  refine WpG.g tabOK 2 rfl ?_
  refine WpG.caseD (t := 20) rfl (fun q20 => ?_) (fun q20 => ?_)
  ·have hbels := hbo _ (nth_mem (xs := f.blocks) (i := h.els) (by omega) (by omega))
   refine WpG.g tabOK 4 rfl ?_
   refine WpG.y rfl rfl rfl rfl (RunY.loadH tabOK (hc2.sub 2 1) hH4 rfl rfl rfl rfl) ?_
   refine WpG.g tabOK 1 rfl ?_
   refine WpG.y rfl rfl rfl rfl (RunY.loadH tabOK (hc4.sub 2 1) hlr rfl rfl rfl rfl) ?_
   refine WpG.indexR tabOK rfl rfl rfl rfl rfl rfl rfl rfl rfl r_f_2 (by omega) (by omega) ?_
   rintro x10 hx10 b10 o10 cs10 rd10 hc10
   have rd10' := rd10; obtain ⟨A10_0, c10_0, A10_1, c10_1, A10_4, c10_4, rfl, u10_0, r10_0, u10_1, r10_1, u10_4, r10_4, k10_0, k10_1⟩ := rd10
   have bz10_0 := r10_0.1
   have bz10_1 := r10_1.1
   have bz10_4 := r10_4.1
   obtain rfl : x10 = (nth f.blocks h.els) := hx10
   refine WpG.g tabOK 1 rfl ?_
   refine WpG.y rfl rfl rfl rfl (RunY.loadH tabOK (hc10.sub 1 1) (hH2.trans hH4) rfl rfl rfl rfl) ?_
   refine WpG.appendR (ci := 0) tabOK rfl rfl rfl rfl rfl rfl rfl rfl rfl rfl rfl r10_1 (hH2.trans hH4) (by omega) (fun A11 c12 cs13 hcs13 => ?_)
   refine WpG.g tabOK 7 rfl ?_
   refine WpG.ownCap (ci := 0) rfl (fun uz14 => ?_)
   refine WpG.freezeOwn (ci := 0) rfl (fun H14 hH14 fz14 => ?_)
   have rz14 : RdS H14 A11 ((nth f.blocks h.thn).ops ++ ((nth f.blocks h.els).ops)) := RdS.of_own (H := H4) (show RdL H4 (cs9 ++ cs13) ((nth f.blocks h.thn).ops ++ ((nth f.blocks h.els).ops)) from (RdL.append hcs9 hcs13)) ((by simp)) (by (try simp only [List.length_append]); omega) hH14 fz14
   exact WpG.ret tabOK (L' := []) (.tmp rfl .nil) .slnil (rows_retG (by rw [show opsD f h = (nth f.blocks h.thn).ops ++ (nth f.blocks h.els).ops from by unfold opsD; rw [if_neg (by omega), if_neg (by omega)]]) (by simp) uz14 rz14)
  refine WpG.g tabOK 7 rfl ?_
  refine WpG.ownCap (ci := 0) rfl (fun uz15 => ?_)
  refine WpG.freezeOwn (ci := 0) rfl (fun H15 hH15 fz15 => ?_)
  have rz15 : RdS H15 A7 ((nth f.blocks h.thn).ops) := RdS.of_own (H := H4) (show RdL H4 cs9 ((nth f.blocks h.thn).ops) from hcs9) ((by simp)) (by (try simp only [List.length_append]); omega) hH15 fz15
  exact WpG.ret tabOK (L' := []) (.tmp rfl .nil) .slnil (rows_retG (by rw [show opsD f h = (nth f.blocks h.thn).ops from by unfold opsD; rw [if_neg (by omega), if_pos (by omega)]; simp]) (by simp) uz15 rz15)
 refine WpG.g tabOK 6 rfl ?_
 refine WpG.y rfl rfl rfl rfl (RunY.loadH tabOK (hc4.sub 2 1) hlr rfl rfl rfl rfl) ?_
 refine WpG.g tabOK 2 rfl ?_
 refine WpG.caseD (t := 20) rfl (fun q20 => ?_) (fun q20 => ?_)
 ·have hbels := hbo _ (nth_mem (xs := f.blocks) (i := h.els) (by omega) (by omega))
  refine WpG.g tabOK 4 rfl ?_
  refine WpG.y rfl rfl rfl rfl (RunY.loadH tabOK (hc2.sub 2 1) hH4 rfl rfl rfl rfl) ?_
  refine WpG.g tabOK 1 rfl ?_
  refine WpG.y rfl rfl rfl rfl (RunY.loadH tabOK (hc4.sub 2 1) hlr rfl rfl rfl rfl) ?_
  refine WpG.indexR tabOK rfl rfl rfl rfl rfl rfl rfl rfl rfl r_f_2 (by omega) (by omega) ?_
  rintro x16 hx16 b16 o16 cs16 rd16 hc16
  have rd16' := rd16; obtain ⟨A16_0, c16_0, A16_1, c16_1, A16_4, c16_4, rfl, u16_0, r16_0, u16_1, r16_1, u16_4, r16_4, k16_0, k16_1⟩ := rd16
  have bz16_0 := r16_0.1
  have bz16_1 := r16_1.1
  have bz16_4 := r16_4.1
  obtain rfl : x16 = (nth f.blocks h.els) := hx16
  refine WpG.g tabOK 1 rfl ?_
  refine WpG.y rfl rfl rfl rfl (RunY.loadH tabOK (hc16.sub 1 1) (hH2.trans hH4) rfl rfl rfl rfl) ?_
  refine WpG.ownNil 53 6 ?_
  refine WpG.appendR (ci := 0) tabOK rfl rfl rfl rfl rfl rfl rfl rfl rfl rfl rfl r16_1 (hH2.trans hH4) (by omega) (fun A18 c19 cs20 hcs20 => ?_)
  refine WpG.g tabOK 7 rfl ?_
  refine WpG.ownCap (ci := 0) rfl (fun uz21 => ?_)
  refine WpG.freezeOwn (ci := 0) rfl (fun H21 hH21 fz21 => ?_)
  have rz21 : RdS H21 A18 ((nth f.blocks h.els).ops) := RdS.of_own (H := H4) (show RdL H4 cs20 ((nth f.blocks h.els).ops) from hcs20) ((by simp)) (by (try simp only [List.length_append]); omega) hH21 fz21
  exact WpG.ret tabOK (L' := []) (.tmp rfl .nil) .slnil (rows_retG (by rw [show opsD f h = (nth f.blocks h.els).ops from by unfold opsD; rw [if_pos (by omega), if_neg (by omega)]; simp]) (by simp) uz21 rz21)
 refine WpG.g tabOK 7 rfl ?_
 exact WpG.ret tabOK (L' := []) (.tmp rfl .nil) .slnil ⟨none, 0, by rw [show opsD f h = [] from by unfold opsD; rw [if_pos (by omega), if_pos (by omega)]; rfl]; rfl, by rw [show opsD f h = [] from by unfold opsD; rw [if_pos (by omega), if_pos (by omega)]; rfl]; exact Nat.le_refl 0, by rw [show opsD f h = [] from by unfold opsD; rw [if_pos (by omega), if_pos (by omega)]; rfl]; exact RdS.nil _ _, rfl⟩
theorem rMerges14_calls {H : Hp} {f : FuncD} {cs_f : List Value} (rd_f : Rdc.rd H cs_f f) (h : HamD) (hT : HasT f) : CallG Tryz.prog 15 [.agg cs_f.toArray, hamV h] H [] (fun v _ L' => v = .bool (mergesH f h) ∧ L' = []) := by
 have rd_f' := rd_f; obtain ⟨A_f_0, c_f_0, A_f_2, c_f_2, rfl, u_f_0, r_f_0, u_f_2, r_f_2, k_f_0⟩ := rd_f
 have bf := r_f_2.1
 refine CallG.of Tryz.func15 rfl rfl rfl fun w0 => ?_
 refine WpG.g tabOK 2 rfl ?_
 refine WpG.box rfl rfl rfl rfl rfl (fun b1 => ?_)
 refine WpG.freezeBox (ci := 0) rfl (fun H2 hH2 hc2 => ?_)
 refine WpG.box rfl rfl rfl rfl rfl (fun b3 => ?_)
 refine WpG.freezeBox (ci := 0) rfl (fun H4 hH4 hc4 => ?_)
 refine WpG.g tabOK 5 rfl ?_
 refine WpG.y rfl rfl rfl rfl (RunY.loadH tabOK hc2 hH4 rfl rfl rfl rfl) ?_
 refine WpG.y rfl rfl rfl rfl (RunY.loadH tabOK hc4 hlr rfl rfl rfl rfl) ?_
 refine WpG.callS rfl rfl rfl rfl rfl rfl hlr (rIs14_calls (Rdc.mono (hH2.trans hH4) rd_f') ⟨h.at_, h.thn, h.els, h.join⟩ hT) ?_
 refine WpG.g tabOK 2 rfl ?_
 refine WpG.caseBn (t := 10) rfl (fun q10 => ?_) (fun q10 => ?_)
 ·refine WpG.g tabOK 5 rfl ?_
  exact WpG.ret tabOK (L' := []) (.tmp rfl .nil) .slnil ⟨congrArg Value.bool (by unfold mergesH; rw [q10]; rfl), rfl⟩
 have hd := is_gg q10
 refine WpG.g tabOK 4 rfl ?_
 refine WpG.y rfl rfl rfl rfl (RunY.loadH tabOK hc2 hH4 rfl rfl rfl rfl) ?_
 refine WpG.y rfl rfl rfl rfl (RunY.loadH tabOK hc4 hlr rfl rfl rfl rfl) ?_
 refine WpG.call0 rfl rfl rfl rfl rfl rfl (rOps14_calls (Rdc.mono (hH2.trans hH4) rd_f') h ((is_thn hd.2).imp id fun z => ⟨z.1, z.2.1⟩) ((is_els hd.2).imp id fun z => ⟨z.1, z.2.1⟩) (okF_gg hd.1).2.1.ops) ?_
 rintro _ H5 _ hH5 ⟨A5, c5, rfl, u5, r5, rfl⟩
 refine WpG.g tabOK 9 rfl ?_
 have hbo := r5.1
 refine WpG.wk (WpG.ind1 (fun (k : Int) => ⟨((opsD f h).length - k).toNat, [(5, .slice A5 ((opsD f h).length) c5), (6, .int .i64 k)], H5, [], 0 ≤ k ∧ k ≤ (opsD f h).length ∧ (opsD f h).any dearO = ((opsD f h).drop k.toNat).any dearO⟩) ?_ 0 ⟨by omega, by omega, rfl⟩) rfl
 intro k inv ih1
 obtain ⟨k0, k1, k2⟩ := inv
 refine WpG.g tabOK 8 rfl ?_
 refine WpG.caseD (t := 17) rfl (fun q17 => ?_) (fun q17 => ?_)
 ·refine WpG.g tabOK 5 rfl ?_
  apply WpG.join (G := [(5, .slice A5 ((opsD f h).length) c5), (6, .int .i64 k), (33, .bool ((((nth (opsD f h) k).lanes) != 1) || (decide (((nth (opsD f h) k).kind) ≥ 21))))])
  ·intro nx6
   refine WpG.g tabOK 1 rfl ?_
   refine WpG.g tabOK 2 rfl ?_
   refine WpG.indexR tabOK rfl rfl rfl rfl rfl rfl rfl rfl rfl r5 (by omega) (by omega) ?_
   rintro x7 hx7 b7 o7 cs7 rd7 hc7
   have rd7' := rd7; obtain ⟨A7_4, c7_4, rfl, u7_4, r7_4, k7_0, k7_1, k7_2, k7_3, k7_4⟩ := rd7
   have bz7_4 := r7_4.1
   obtain rfl : x7 = (nth (opsD f h) k) := hx7
   refine WpG.g tabOK 1 rfl ?_
   refine WpG.y rfl rfl rfl rfl (RunY.loadH tabOK (hc7.sub 2 1) hlr rfl rfl rfl rfl) ?_
   refine WpG.g tabOK 2 rfl ?_
   refine WpG.caseN (t := 26) rfl (fun q26 => ?_) (fun q26 => ?_)
   ·refine WpG.g tabOK 8 rfl ?_
    exact nx6.weak ⟨rfl, rfl, bq (by simp [q26]), trivial⟩
   refine WpG.g tabOK 2 rfl ?_
   refine WpG.indexR tabOK rfl rfl rfl rfl rfl rfl rfl rfl rfl r5 (by omega) (by omega) ?_
   rintro x8 hx8 b8 o8 cs8 rd8 hc8
   have rd8' := rd8; obtain ⟨A8_4, c8_4, rfl, u8_4, r8_4, k8_0, k8_1, k8_2, k8_3, k8_4⟩ := rd8
   have bz8_4 := r8_4.1
   obtain rfl : x8 = (nth (opsD f h) k) := hx8
   refine WpG.g tabOK 1 rfl ?_
   refine WpG.y rfl rfl rfl rfl (RunY.loadH tabOK (hc8.sub 0 1) hlr rfl rfl rfl rfl) ?_
   refine WpG.g tabOK 3 rfl ?_
   exact nx6.weak ⟨rfl, rfl, bq (by simp [q26]), trivial⟩
  refine WpG.caseB (t := 33) rfl (fun q33 => ?_) (fun q33 => ?_)
  ·refine WpG.g tabOK 5 rfl ?_
   exact WpG.ret tabOK (L' := []) (.tmp rfl .nil) .slnil ⟨congrArg Value.bool (by clear ih1; unfold mergesH; rw [q10, any_yes k2 k0 q17 (by rw [← ops_dear q10 _ (nth_mem k0 q17)]; exact q33)]; rfl), rfl⟩
  refine WpG.gw tabOK 6 19 rfl (wrk (x := k + 1) (by omega) (by omega)) ?_
  refine WpG.g tabOK 3 rfl ?_
  refine WpG.wk (ih1 (k + 1) ?_ ?_) rfl
  ·dsimp only
   omega
  clear ih1
  exact ⟨by omega, by omega, any_step k2 k0 q17 (by rw [← ops_dear q10 _ (nth_mem k0 q17)]; exact q33)⟩
 refine WpG.g tabOK 6 rfl ?_
 exact WpG.ret tabOK (L' := []) (.tmp rfl .nil) .slnil ⟨congrArg Value.bool (by clear ih1; unfold mergesH; rw [q10, any_end k2 k0 q17]; rfl), rfl⟩
end Go.Proofs.YtakameggkkjcpaaGreat
namespace Go.Proofs.YtakameggkkjcpaaGreat
open Go Go.RowKit
def fDm : FuncD := ⟨[1], 1, [⟨[], [], ⟨2, 1, [1, 2]⟩⟩, ⟨[], [⟨7, 1, 1, 2, [1, 1], 0⟩], ⟨1, 0, [3]⟩⟩, ⟨[], [], ⟨1, 0, [3]⟩⟩, ⟨[], [], ⟨0, 1, []⟩⟩]⟩
def sDm : List (List Int) := [[1, 2], [3], [3], []]
theorem dm_reach {no x : Int} (h : RchN sDm 0 no x) : x = 0 ∨ x = 1 ∨ x = 2 ∨ x = 3 := by
  induction h with
  | root _ => exact .inl rfl
  | @step p x _ hx _ ih =>
    rcases ih with rfl | rfl | rfl | rfl
    · have : x ∈ ([1, 2] : List Int) := hx
      simp at this; omega
    · have : x ∈ ([3] : List Int) := hx
      simp at this; omega
    · have : x ∈ ([3] : List Int) := hx
      simp at this; omega
    · have : x ∈ ([] : List Int) := hx
      cases this
theorem dm0 {no : Int} (h : no ≠ 0) : RchN sDm 0 no 0 := .root (Ne.symm h)
theorem dm1 {no : Int} (h : no ≠ 0) (h1 : no ≠ 1) : RchN sDm 0 no 1 := .step (dm0 h) (by show (1 : Int) ∈ ([1, 2] : List Int); simp) (Ne.symm h1)
theorem dm2 {no : Int} (h : no ≠ 0) (h1 : no ≠ 2) : RchN sDm 0 no 2 := .step (dm0 h) (by show (2 : Int) ∈ ([1, 2] : List Int); simp) (Ne.symm h1)
theorem dm3 {no : Int} (h : no ≠ 0) (h1 : no ≠ 3) : RchN sDm 0 no 3 := by
  by_cases e : no = 1
  · exact .step (dm2 h (by omega)) (by show (3 : Int) ∈ ([3] : List Int); simp) (Ne.symm h1)
  · exact .step (dm1 h e) (by show (3 : Int) ∈ ([3] : List Int); simp) (Ne.symm h1)
theorem dm_no {x : Int} : ¬ RchN sDm 0 0 x := fun h => by
  induction h with
  | root h => exact h rfl
  | step _ _ _ ih => exact ih
theorem tree_dm : TreeP sDm 0 [-1, 0, 0, 0] := by
  refine ⟨rfl, rfl, fun x x0 x1 hn => ?_, fun x hx => ?_, fun x hx hne => ?_⟩
  · exfalso
    have hc : x = 0 ∨ x = 1 ∨ x = 2 ∨ x = 3 := by
      have : ((sDm.length : Nat) : Int) = 4 := rfl
      omega
    rcases hc with rfl | rfl | rfl | rfl
    · exact hn (dm0 (by decide))
    · exact hn (dm1 (by decide) (by decide))
    · exact hn (dm2 (by decide) (by decide))
    · exact hn (dm3 (by decide) (by decide))
  · have := dm_reach hx
    have e : ((sDm.length : Nat) : Int) = 4 := rfl
    omega
  · have hc := dm_reach hx
    have key : nth [-1, 0, 0, 0] x = 0 := by
      rcases hc with rfl | rfl | rfl | rfl
      · exact absurd rfl hne
      · rfl
      · rfl
      · rfl
    rw [key]
    refine ⟨dm0 (by decide), dm0 hne, fun y hy => ?_⟩
    by_cases y0 : y = 0
    · subst y0; exact ⟨fun h => absurd h dm_no, fun h => absurd h dm_no⟩
    · refine ⟨fun _ => dm0 y0, fun _ => ?_⟩
      rcases hc with rfl | rfl | rfl | rfl
      · exact absurd rfl hne
      · exact dm1 y0 hy
      · exact dm2 y0 hy
      · exact dm3 y0 hy
theorem sort_one (x : Int) : sortD [x] = [x] := by simp [sortD]
theorem sort_12 : sortD [1, 2] = [1, 2] := by
  unfold sortD
  first | exact List.mergeSort_of_pairwise (by simp) | exact List.mergeSort_of_sorted (by simp) | rfl | decide
theorem of_dm : ofD fDm = (⟨sDm, [[], [0], [0], [1, 2]]⟩, 0) := by
  have h2 : fDm.blocks.all (ofOK fDm.blocks.length) = true := by rfl
  rw [of_yes (by show ¬ ((4 : Nat) : Int) > 64; decide) h2]
  have e : fDm.blocks.map succOf = sDm := by
    unfold fDm sDm
    simp only [List.map_cons, List.map_nil, succOf, sort_12, sort_one, sortD_nil]; rfl
  rw [e]; rfl
theorem code_dm : codeOf fDm 2 [-1, 0, 0, 0] = 0 := by unfold codeOf shapeW; rw [of_dm]; decide
theorem is_dm : CodeIs fDm 2 0 := ⟨[-1, 0, 0, 0], fun _ _ => by rw [of_dm]; exact tree_dm, code_dm.symm⟩
theorem ok_dm : okF fDm = true := by rw [← okF_of is_dm]; rfl
theorem dm_find0 : findH fDm 0 = (⟨0, 1, 2, 3⟩, true) := by unfold findH; rw [ok_dm, of_dm]; decide
theorem dm_find1 : findH fDm 1 = (⟨0, 0, 0, 0⟩, false) := by unfold findH; rw [ok_dm, of_dm]; decide
theorem dm_is : isH fDm ⟨0, 1, 2, 3⟩ = true := by unfold isH; rw [ok_dm, of_dm]; decide
theorem dm_is0 : isH fDm ⟨0, 0, 0, 0⟩ = false := by unfold isH; rw [ok_dm, of_dm]; decide
theorem dm_cost : costH fDm ⟨0, 1, 2, 3⟩ = 1 := by unfold costH; rw [dm_is]; decide
theorem dm_merges : mergesH fDm ⟨0, 1, 2, 3⟩ = true := by unfold mergesH; rw [dm_is]; decide
theorem dm_all : allH fDm = [⟨0, 1, 2, 3⟩] := by unfold allH; rw [ok_dm, of_dm]; decide
section
variable {f : FuncD}
noncomputable def cntH (f : FuncD) (i : Int) : Int := if okF f = true then (allTo f (ofD f).1 i.toNat).length else 0
theorem cnt_zero : cntH f 0 = 0 := by unfold cntH; split <;> rfl
theorem find_next {i n : Int} (hn : n = cntH f i) (i0 : 0 ≤ i) (i1 : i < f.blocks.length) (h : (findH f i).2 = true) : n < (allH f).length ∧ nth (allH f) n = (findH f i).1 ∧ n + 1 = cntH f (i + 1) := by
  have hk : okF f = true := by
    unfold findH at h
    split at h
    · rename_i hc; exact hc.1
    · cases h
  have e : findH f i = findD f (ofD f).1 i := by unfold findH; rw [if_pos ⟨hk, i0, i1⟩]
  rw [e] at h ⊢
  unfold cntH at hn ⊢
  rw [if_pos hk] at hn ⊢
  unfold allH
  rw [if_pos hk]
  have hy := allTo_yes i0 h
  obtain ⟨t, ht⟩ := allTo_pre f (ofD f).1 (i + 1).toNat (f.blocks.length - (i + 1).toNat)
  rw [show (i + 1).toNat + (f.blocks.length - (i + 1).toNat) = f.blocks.length from by omega, hy, List.append_assoc] at ht
  rw [ht, hy]
  refine ⟨by simp only [List.length_append, List.length_cons, List.length_nil]; omega, ?_, by simp only [List.length_append, List.length_cons, List.length_nil]; omega⟩
  unfold nth
  rw [hn, show (((allTo f (ofD f).1 i.toNat).length : Int)).toNat = (allTo f (ofD f).1 i.toNat).length from by omega]
  simp
theorem find_skip {i n : Int} (hn : n = cntH f i) (i0 : 0 ≤ i) (i1 : i < f.blocks.length) (h : (findH f i).2 = false) : n = cntH f (i + 1) := by
  unfold cntH at hn ⊢
  by_cases hk : okF f = true
  · rw [if_pos hk] at hn ⊢
    have e : findH f i = findD f (ofD f).1 i := by unfold findH; rw [if_pos ⟨hk, i0, i1⟩]
    rw [e] at h
    rw [allTo_no i0 h]; exact hn
  · rw [if_neg hk] at hn ⊢; exact hn
theorem cnt_end {i n : Int} (hn : n = cntH f i) (i0 : 0 ≤ i) (i1 : i ≤ f.blocks.length) (h : ¬ i < f.blocks.length) : n = (allH f).length := by
  have e : i.toNat = f.blocks.length := by omega
  rw [hn]; unfold cntH allH
  by_cases hk : okF f = true
  · rw [if_pos hk, if_pos hk, e]
  · rw [if_neg hk, if_neg hk]; rfl
end
end Go.Proofs.YtakameggkkjcpaaGreat
set_option maxRecDepth 4000
namespace Go.Proofs.YtakameggkkjcpaaGreat
open Go Go.RowKit
theorem diamond_calls {H : Hp} : CallG Tryz.prog 25 [] H [] (fun v H' L' => ∃ A0 c0 A2 c2, v = .agg #[.slice A0 fDm.params.length c0, .int .i64 fDm.ret, .slice A2 fDm.blocks.length c2] ∧ fDm.params.length ≤ c0 ∧ RdS H' A0 fDm.params ∧ fDm.blocks.length ≤ c2 ∧ RdS H' A2 fDm.blocks ∧ L' = []) := by
 refine CallG.of Tryz.func25 rfl rfl rfl fun w0 => ?_
 refine WpG.g tabOK 2 rfl ?_
 refine WpG.alloc tabOK rfl rfl rfl rfl rfl (fun b1 => ?_)
 refine WpG.g tabOK 3 rfl ?_
 refine WpG.buildSlice (xs := [.int .i64 1]) tabOK rfl rfl rfl rfl rfl rfl rfl rfl rfl rfl (fun b2 => ?_)
 refine WpG.ownCap (ci := 0) rfl (fun uz4 => ?_)
 refine WpG.freezeOwn (ci := 0) rfl (fun H4 hH4 fz4 => ?_)
 have rz4 : RdS H4 (some ⟨b2, 0, none⟩) ([1] : List Int) := RdS.of_own (H := H) (show RdL H [.int .i64 1] ([1] : List Int) from ⟨_, _, rfl, ⟨rfl, ⟨by decide, by decide⟩⟩, rfl⟩) (rfl) (by decide) hH4 fz4
 refine WpG.buildSlice (xs := [.int .i64 1, .int .i64 2]) tabOK rfl rfl rfl rfl rfl rfl rfl rfl rfl rfl (fun b5 => ?_)
 refine WpG.ownCap (ci := 0) rfl (fun uz7 => ?_)
 refine WpG.freezeOwn (ci := 0) rfl (fun H7 hH7 fz7 => ?_)
 have rz7 : RdS H7 (some ⟨b5, 0, none⟩) ([1, 2] : List Int) := RdS.of_own (H := H4) (show RdL H4 [.int .i64 1, .int .i64 2] ([1, 2] : List Int) from ⟨_, _, rfl, ⟨rfl, ⟨by decide, by decide⟩⟩, ⟨_, _, rfl, ⟨rfl, ⟨by decide, by decide⟩⟩, rfl⟩⟩) (rfl) (by decide) hH7 fz7
 refine WpG.g tabOK 2 rfl ?_
 refine WpG.buildSlice (xs := [.int .i64 1, .int .i64 1]) tabOK rfl rfl rfl rfl rfl rfl rfl rfl rfl rfl (fun b8 => ?_)
 refine WpG.ownCap (ci := 0) rfl (fun uz10 => ?_)
 refine WpG.freezeOwn (ci := 0) rfl (fun H10 hH10 fz10 => ?_)
 have rz10 : RdS H10 (some ⟨b8, 0, none⟩) ([1, 1] : List Int) := RdS.of_own (H := H7) (show RdL H7 [.int .i64 1, .int .i64 1] ([1, 1] : List Int) from ⟨_, _, rfl, ⟨rfl, ⟨by decide, by decide⟩⟩, ⟨_, _, rfl, ⟨rfl, ⟨by decide, by decide⟩⟩, rfl⟩⟩) (rfl) (by decide) hH10 fz10
 refine WpG.g tabOK 1 rfl ?_
 refine WpG.buildSlice (xs := [.int .i64 7, .int .i64 1, .int .i64 1, .int .i64 2, .slice (some ⟨b8, 0, none⟩) 2 2, .int .u64 0]) tabOK rfl rfl rfl rfl rfl rfl rfl rfl rfl rfl (fun b11 => ?_)
 refine WpG.ownCap (ci := 0) rfl (fun uz13 => ?_)
 refine WpG.freezeOwn (ci := 0) rfl (fun H13 hH13 fz13 => ?_)
 have rz13 : RdS H13 (some ⟨b11, 0, none⟩) ([⟨7, 1, 1, 2, [1, 1], 0⟩] : List OpD) := RdS.of_own (H := H10) (show RdL H10 [.int .i64 7, .int .i64 1, .int .i64 1, .int .i64 2, .slice (some ⟨b8, 0, none⟩) 2 2, .int .u64 0] ([⟨7, 1, 1, 2, [1, 1], 0⟩] : List OpD) from ⟨_, _, rfl, ⟨_, _, rfl, by decide, rz10, ⟨by decide, by decide⟩, ⟨by decide, by decide⟩, ⟨by decide, by decide⟩, ⟨by decide, by decide⟩, ⟨by decide, by decide⟩⟩, rfl⟩) (rfl) (by decide) hH13 fz13
 refine WpG.buildSlice (xs := [.int .i64 3]) tabOK rfl rfl rfl rfl rfl rfl rfl rfl rfl rfl (fun b14 => ?_)
 refine WpG.ownCap (ci := 0) rfl (fun uz16 => ?_)
 refine WpG.freezeOwn (ci := 0) rfl (fun H16 hH16 fz16 => ?_)
 have rz16 : RdS H16 (some ⟨b14, 0, none⟩) ([3] : List Int) := RdS.of_own (H := H13) (show RdL H13 [.int .i64 3] ([3] : List Int) from ⟨_, _, rfl, ⟨rfl, ⟨by decide, by decide⟩⟩, rfl⟩) (rfl) (by decide) hH16 fz16
 refine WpG.g tabOK 2 rfl ?_
 refine WpG.buildSlice (xs := [.int .i64 3]) tabOK rfl rfl rfl rfl rfl rfl rfl rfl rfl rfl (fun b17 => ?_)
 refine WpG.ownCap (ci := 0) rfl (fun uz19 => ?_)
 refine WpG.freezeOwn (ci := 0) rfl (fun H19 hH19 fz19 => ?_)
 have rz19 : RdS H19 (some ⟨b17, 0, none⟩) ([3] : List Int) := RdS.of_own (H := H16) (show RdL H16 [.int .i64 3] ([3] : List Int) from ⟨_, _, rfl, ⟨rfl, ⟨by decide, by decide⟩⟩, rfl⟩) (rfl) (by decide) hH19 fz19
 refine WpG.g tabOK 4 rfl ?_
 refine WpG.buildSlice (xs := [.slice none 0 0, .slice none 0 0, .int .i64 2, .int .i64 1, .slice (some ⟨b5, 0, none⟩) 2 2, .slice none 0 0, .slice (some ⟨b11, 0, none⟩) 1 1, .int .i64 1, .int .i64 0, .slice (some ⟨b14, 0, none⟩) 1 1, .slice none 0 0, .slice none 0 0, .int .i64 1, .int .i64 0, .slice (some ⟨b17, 0, none⟩) 1 1, .slice none 0 0, .slice none 0 0, .int .i64 0, .int .i64 1, .slice none 0 0]) tabOK rfl rfl rfl rfl rfl rfl rfl rfl rfl rfl (fun b20 => ?_)
 refine WpG.ownCap (ci := 0) rfl (fun uz22 => ?_)
 refine WpG.freezeOwn (ci := 0) rfl (fun H22 hH22 fz22 => ?_)
 have rz22 : RdS H22 (some ⟨b20, 0, none⟩) fDm.blocks := RdS.of_own (H := H19) (show RdL H19 [.slice none 0 0, .slice none 0 0, .int .i64 2, .int .i64 1, .slice (some ⟨b5, 0, none⟩) 2 2, .slice none 0 0, .slice (some ⟨b11, 0, none⟩) 1 1, .int .i64 1, .int .i64 0, .slice (some ⟨b14, 0, none⟩) 1 1, .slice none 0 0, .slice none 0 0, .int .i64 1, .int .i64 0, .slice (some ⟨b17, 0, none⟩) 1 1, .slice none 0 0, .slice none 0 0, .int .i64 0, .int .i64 1, .slice none 0 0] fDm.blocks from ⟨_, _, rfl, ⟨_, _, _, _, _, _, rfl, by decide, RdS.nil _ _, by decide, RdS.nil _ _, by decide, (rz7.mono (((hH10.trans hH13).trans hH16).trans hH19)), ⟨by decide, by decide⟩, ⟨by decide, by decide⟩⟩, ⟨_, _, rfl, ⟨_, _, _, _, _, _, rfl, by decide, RdS.nil _ _, by decide, (rz13.mono (hH16.trans hH19)), by decide, (rz16.mono hH19), ⟨by decide, by decide⟩, ⟨by decide, by decide⟩⟩, ⟨_, _, rfl, ⟨_, _, _, _, _, _, rfl, by decide, RdS.nil _ _, by decide, RdS.nil _ _, by decide, rz19, ⟨by decide, by decide⟩, ⟨by decide, by decide⟩⟩, ⟨_, _, rfl, ⟨_, _, _, _, _, _, rfl, by decide, RdS.nil _ _, by decide, RdS.nil _ _, by decide, RdS.nil _ _, ⟨by decide, by decide⟩, ⟨by decide, by decide⟩⟩, rfl⟩⟩⟩⟩) (rfl) (by decide) hH22 fz22
 refine WpG.g tabOK 1 rfl ?_
 refine WpG.storeBox (ci := 0) (cs' := [.slice (some ⟨b2, 0, none⟩) 1 1, .int .i64 1, .slice (some ⟨b20, 0, none⟩) 4 4]) tabOK rfl rfl rfl rfl rfl rfl rfl rfl rfl ?_
 refine WpG.g tabOK 1 rfl ?_
 exact WpG.ret tabOK (L' := []) (.cell (ci := 0) rfl rfl rfl rfl .nil) (.cons _ .slnil) ⟨_, _, _, _, rfl, by decide, (rz4.mono (((((hH7.trans hH10).trans hH13).trans hH16).trans hH19).trans hH22)), by decide, rz22, rfl⟩
theorem awake14_calls {H : Hp} : CallG Tryz.prog 8 [] H [] (fun v _ L' => v = .bool (true) ∧ L' = []) := by
 refine CallG.of Tryz.func8 rfl rfl rfl fun w0 => ?_
 refine WpG.g tabOK 6 rfl ?_
 refine WpG.call0 rfl rfl rfl rfl rfl rfl (diamond_calls) ?_
 rintro _ H1 _ hH1 ⟨A_f_0, c_f_0, A_f_2, c_f_2, rfl, u_f_0, r_f_0, u_f_2, r_f_2, rfl⟩
 refine WpG.alloc tabOK rfl rfl rfl rfl rfl (fun b2 => ?_)
 refine WpG.storeBox (ci := 0) (cs' := [.slice A_f_0 fDm.params.length c_f_0, .int .i64 fDm.ret, .slice A_f_2 fDm.blocks.length c_f_2]) tabOK rfl rfl rfl rfl rfl rfl rfl rfl rfl ?_
 refine WpG.freezeBox (ci := 0) rfl (fun H3 hH3 hc3 => ?_)
 refine WpG.g tabOK 3 rfl ?_
 refine WpG.y rfl rfl rfl rfl (RunY.loadH tabOK hc3 hlr rfl rfl rfl rfl) ?_
 refine WpG.call0 rfl rfl rfl rfl rfl rfl ((by have z := HFind_calls (f := fDm) (Rdc.mono hH3 ⟨_, _, _, _, rfl, u_f_0, r_f_0, u_f_2, r_f_2, (show I64 1 from ⟨by decide, by decide⟩)⟩) 0 ⟨by decide, by decide⟩; rw [dm_find0] at z; exact z)) ?_
 rintro _ H4 _ hH4 ⟨rfl, hT, rfl⟩
 refine WpG.g tabOK 3 rfl ?_
 refine WpG.alloc tabOK rfl rfl rfl rfl rfl (fun b5 => ?_)
 refine WpG.storeBox (ci := 0) (cs' := [.int .i64 0, .int .i64 1, .int .i64 2, .int .i64 3]) tabOK rfl rfl rfl rfl rfl rfl rfl rfl rfl ?_
 refine WpG.g tabOK 4 rfl ?_
 refine WpG.y rfl rfl rfl rfl (RunY.loadH tabOK hc3 hH4 rfl rfl rfl rfl) ?_
 refine WpG.call0 rfl rfl rfl rfl rfl rfl ((by have z := HFind_calls (f := fDm) (Rdc.mono (hH3.trans hH4) ⟨_, _, _, _, rfl, u_f_0, r_f_0, u_f_2, r_f_2, (show I64 1 from ⟨by decide, by decide⟩)⟩) 1 ⟨by decide, by decide⟩; rw [dm_find1] at z; exact z)) ?_
 rintro _ H6 _ hH6 ⟨rfl, hT, rfl⟩
 refine WpG.g tabOK 3 rfl ?_
 refine WpG.alloc tabOK rfl rfl rfl rfl rfl (fun b7 => ?_)
 refine WpG.storeBox (ci := 0) (cs' := [.int .i64 0, .int .i64 0, .int .i64 0, .int .i64 0]) tabOK rfl rfl rfl rfl rfl rfl rfl rfl rfl ?_
 refine WpG.g tabOK 6 rfl ?_
 refine WpG.y rfl rfl rfl rfl (RunY.loadBox (ci := 1) tabOK rfl rfl rfl rfl) ?_
 refine WpG.g tabOK 1 rfl ?_
 refine WpG.y rfl rfl rfl rfl (RunY.eqQuad (e := 3) tabOK rfl rfl rfl rfl rfl Tryz.underlying26 (by kernel_rfl) (by kernel_rfl) (by kernel_rfl)) ?_
 refine WpG.g tabOK 2 rfl ?_
 refine WpG.caseB (t := 23) rfl (fun q23 => ?_) (fun q23 => ?_)
 ·refine WpG.g tabOK 4 rfl ?_
  refine WpG.y rfl rfl rfl rfl (RunY.loadH tabOK hc3 (hH4.trans hH6) rfl rfl rfl rfl) ?_
  refine WpG.y rfl rfl rfl rfl (RunY.loadBox (ci := 1) tabOK rfl rfl rfl rfl) ?_
  refine WpG.call0 rfl rfl rfl rfl rfl rfl ((by have z := HCost_calls (f := fDm) (Rdc.mono ((hH3.trans hH4).trans hH6) ⟨_, _, _, _, rfl, u_f_0, r_f_0, u_f_2, r_f_2, (show I64 1 from ⟨by decide, by decide⟩)⟩) ⟨0, 1, 2, 3⟩ (show IH ⟨0, 1, 2, 3⟩ from ⟨⟨by decide, by decide⟩, ⟨by decide, by decide⟩, ⟨by decide, by decide⟩, by decide, by decide⟩); rw [dm_cost] at z; exact z)) ?_
  rintro _ H8 _ hH8 ⟨rfl, hT, rfl⟩
  refine WpG.g tabOK 3 rfl ?_
  refine WpG.y rfl rfl rfl rfl (RunY.loadH tabOK hc3 ((hH4.trans hH6).trans hH8) rfl rfl rfl rfl) ?_
  refine WpG.y rfl rfl rfl rfl (RunY.loadBox (ci := 1) tabOK rfl rfl rfl rfl) ?_
  refine WpG.call0 rfl rfl rfl rfl rfl rfl ((by have z := HMerges_calls (f := fDm) (Rdc.mono (((hH3.trans hH4).trans hH6).trans hH8) ⟨_, _, _, _, rfl, u_f_0, r_f_0, u_f_2, r_f_2, (show I64 1 from ⟨by decide, by decide⟩)⟩) ⟨0, 1, 2, 3⟩ (show IH ⟨0, 1, 2, 3⟩ from ⟨⟨by decide, by decide⟩, ⟨by decide, by decide⟩, ⟨by decide, by decide⟩, by decide, by decide⟩); rw [dm_merges] at z; exact z)) ?_
  rintro _ H9 _ hH9 ⟨rfl, hT, rfl⟩
  refine WpG.g tabOK 2 rfl ?_
  refine WpG.y rfl rfl rfl rfl (RunY.loadH tabOK hc3 (((hH4.trans hH6).trans hH8).trans hH9) rfl rfl rfl rfl) ?_
  refine WpG.call0 rfl rfl rfl rfl rfl rfl ((by have z := HAll_calls (f := fDm) (Rdc.mono ((((hH3.trans hH4).trans hH6).trans hH8).trans hH9) ⟨_, _, _, _, rfl, u_f_0, r_f_0, u_f_2, r_f_2, (show I64 1 from ⟨by decide, by decide⟩)⟩); rw [dm_all] at z; exact z)) ?_
  rintro _ H10 _ hH10 ⟨hT, A10, c10, rfl, u10, r10, rfl⟩
  refine WpG.g tabOK 4 rfl ?_
  refine WpG.y rfl rfl rfl rfl (RunY.loadH tabOK hc3 ((((hH4.trans hH6).trans hH8).trans hH9).trans hH10) rfl rfl rfl rfl) ?_
  refine WpG.y rfl rfl rfl rfl (RunY.loadBox (ci := 1) tabOK rfl rfl rfl rfl) ?_
  refine WpG.call0 rfl rfl rfl rfl rfl rfl ((by have z := HIs_calls (f := fDm) (Rdc.mono (((((hH3.trans hH4).trans hH6).trans hH8).trans hH9).trans hH10) ⟨_, _, _, _, rfl, u_f_0, r_f_0, u_f_2, r_f_2, (show I64 1 from ⟨by decide, by decide⟩)⟩) ⟨0, 1, 2, 3⟩ (show I64 0 from ⟨by decide, by decide⟩); rw [dm_is] at z; exact z)) ?_
  rintro _ H11 _ hH11 ⟨rfl, hT, rfl⟩
  refine WpG.g tabOK 2 rfl ?_
  refine WpG.y rfl rfl rfl rfl (RunY.loadH tabOK hc3 (((((hH4.trans hH6).trans hH8).trans hH9).trans hH10).trans hH11) rfl rfl rfl rfl) ?_
  refine WpG.g tabOK 1 rfl ?_
  refine WpG.call0 rfl rfl rfl rfl rfl rfl ((by have z := HIs_calls (f := fDm) (Rdc.mono ((((((hH3.trans hH4).trans hH6).trans hH8).trans hH9).trans hH10).trans hH11) ⟨_, _, _, _, rfl, u_f_0, r_f_0, u_f_2, r_f_2, (show I64 1 from ⟨by decide, by decide⟩)⟩) ⟨0, 0, 0, 0⟩ (show I64 0 from ⟨by decide, by decide⟩); rw [dm_is0] at z; exact z)) ?_
  rintro _ H12 _ hH12 ⟨rfl, hT, rfl⟩
  refine WpG.g tabOK 4 rfl ?_
  exact WpG.ret tabOK (L' := []) (.tmp rfl .nil) (.cons _ (.cons _ .slnil)) ⟨rfl, rfl⟩
 exact absurd q23 (by decide)
end Go.Proofs.YtakameggkkjcpaaGreat
set_option maxRecDepth 4000
namespace Go.Proofs.YtakameggkkjcpaaGreat
open Go Go.RowKit
set_option maxHeartbeats 2000000 in
theorem HammockFinds_calls {H : Hp} {f : FuncD} {A_f_0 A_f_2 : Option Addr} {c_f_0 c_f_2 : Nat} (u_f_0 : f.params.length ≤ c_f_0) (r_f_0 : RdS H A_f_0 f.params) (u_f_2 : f.blocks.length ≤ c_f_2) (r_f_2 : RdS H A_f_2 f.blocks) (k_f_0 : I64 f.ret) (h : HamD) (hi : IH h) (a : Int) (ha : I64 a) : CallG Tryz.prog 3 [.agg #[.slice A_f_0 f.params.length c_f_0, .int .i64 f.ret, .slice A_f_2 f.blocks.length c_f_2], hamV h, .int .i64 a] H [] (fun v _ L' => v = .bool (true) ∧ L' = []) := by
 have rd_f' : Rdc.rd H [.slice A_f_0 f.params.length c_f_0, .int .i64 f.ret, .slice A_f_2 f.blocks.length c_f_2] f := ⟨_, _, _, _, rfl, u_f_0, r_f_0, u_f_2, r_f_2, k_f_0⟩
 have bs := r_f_2.1; have bsp := r_f_0.1
 refine CallG.of Tryz.func3 rfl rfl rfl fun w0 => ?_
 refine WpG.g tabOK 2 rfl ?_
 refine WpG.box rfl rfl rfl rfl rfl (fun b1 => ?_)
 refine WpG.freezeBox (ci := 0) rfl (fun H2 hH2 hc2 => ?_)
 refine WpG.box rfl rfl rfl rfl rfl (fun b3 => ?_)
 refine WpG.freezeBox (ci := 0) rfl (fun H4 hH4 hc4 => ?_)
 refine WpG.g tabOK 5 rfl ?_
 refine WpG.callS rfl rfl rfl rfl rfl rfl hlr (awake14_calls) ?_
 refine WpG.g tabOK 7 rfl ?_
 refine WpG.y rfl rfl rfl rfl (RunY.loadH tabOK hc2 hH4 rfl rfl rfl rfl) ?_
 refine WpG.call0 rfl rfl rfl rfl rfl rfl (Small_calls u_f_0 (r_f_0.mono (hH2.trans hH4)) u_f_2 (r_f_2.mono (hH2.trans hH4)) k_f_0) ?_
 rintro _ H5 _ hH5 ⟨bs5, rfl, hs5, rfl⟩
 refine WpG.g tabOK 2 rfl ?_
 refine WpG.caseBn (t := 21) rfl (fun q21 => ?_) (fun q21 => ?_)
 ·refine WpG.g tabOK 5 rfl ?_
  exact WpG.ret tabOK (L' := []) (.tmp rfl .nil) .slnil ⟨rfl, rfl⟩
 refine WpG.g tabOK 4 rfl ?_
 refine WpG.y rfl rfl rfl rfl (RunY.loadH tabOK hc2 (hH4.trans hH5) rfl rfl rfl rfl) ?_
 refine WpG.g tabOK 1 rfl ?_
 refine WpG.call0 rfl rfl rfl rfl rfl rfl (HFind_calls (Rdc.mono ((hH2.trans hH4).trans hH5) rd_f') a ha) ?_
 rintro _ H6 _ hH6 ⟨rfl, hT, rfl⟩
 refine WpG.g tabOK 3 rfl ?_
 refine WpG.alloc tabOK rfl rfl rfl rfl rfl (fun b7 => ?_)
 refine WpG.storeBox (ci := 0) (cs' := [.int .i64 ((findH f a).1.at_), .int .i64 ((findH f a).1.thn), .int .i64 ((findH f a).1.els), .int .i64 ((findH f a).1.join)]) tabOK rfl rfl rfl rfl rfl rfl rfl rfl rfl ?_
 refine WpG.freezeBox (ci := 0) rfl (fun H8 hH8 hc8 => ?_)
 refine WpG.g tabOK 4 rfl ?_
 refine WpG.y rfl rfl rfl rfl (RunY.loadH tabOK hc2 (((hH4.trans hH5).trans hH6).trans hH8) rfl rfl rfl rfl) ?_
 refine WpG.g tabOK 1 rfl ?_
 refine WpG.callS rfl rfl rfl rfl rfl rfl hlr (rFind14_calls (Rdc.mono ((((hH2.trans hH4).trans hH5).trans hH6).trans hH8) rd_f') a hT) ?_
 refine WpG.g tabOK 3 rfl ?_
 refine WpG.alloc tabOK rfl rfl rfl rfl rfl (fun b9 => ?_)
 refine WpG.storeBox (ci := 0) (cs' := [.int .i64 ((findH f a).1.at_), .int .i64 ((findH f a).1.thn), .int .i64 ((findH f a).1.els), .int .i64 ((findH f a).1.join)]) tabOK rfl rfl rfl rfl rfl rfl rfl rfl rfl ?_
 refine WpG.freezeBox (ci := 0) rfl (fun H10 hH10 hc10 => ?_)
 refine WpG.g tabOK 4 rfl ?_
 refine WpG.draw 26 [] mixed (by kernel_rfl) ?_
 refine WpD.y (i := 0) (fuel := 25) (listed' := lst 26 1) (by kernel_rfl) rfl rfl rfl rfl (((((hH2.trans hH4).trans hH5).trans hH6).trans hH8).trans hH10) hlr .slnil (RunY.loadH tabOK hc8 hH10 rfl rfl rfl rfl) ?_
 refine WpD.y (i := 1) (fuel := 24) (listed' := lst 26 3) (by kernel_rfl) rfl rfl rfl rfl (((((hH2.trans hH4).trans hH5).trans hH6).trans hH8).trans hH10) hlr .slnil (RunY.loadH tabOK hc10 hlr rfl rfl rfl rfl) ?_
 refine WpD.y (i := 2) (fuel := 23) (listed' := lst 26 7) (by kernel_rfl) rfl rfl rfl rfl (((((hH2.trans hH4).trans hH5).trans hH6).trans hH8).trans hH10) hlr .slnil (RunY.neQuad (e := 3) tabOK rfl rfl rfl rfl rfl Tryz.underlying26 (by kernel_rfl) (by kernel_rfl) (by kernel_rfl)) ?_
 refine WpD.g (listed' := lst 26 15) tabOK [3] (by kernel_rfl) rfl (((((hH2.trans hH4).trans hH5).trans hH6).trans hH8).trans hH10) hlr .slnil ?_
 refine WpD.caseBn (t := 37) rfl (fun q37 => ?_) (fun q37 => ?_)
 ·exact absurd q37 (by rw [quad_refl]; decide)
 refine WpD.g (listed' := lst 26 63) tabOK [4, 5] (by kernel_rfl) rfl (((((hH2.trans hH4).trans hH5).trans hH6).trans hH8).trans hH10) hlr .slnil ?_
 refine WpD.y (i := 6) (fuel := 19) (listed' := lst 26 127) (by kernel_rfl) rfl rfl rfl rfl (((((hH2.trans hH4).trans hH5).trans hH6).trans hH8).trans hH10) hlr .slnil (RunY.neBool tabOK rfl rfl rfl rfl) ?_
 refine WpD.g (listed' := lst 26 511) tabOK [7, 8] (by kernel_rfl) rfl (((((hH2.trans hH4).trans hH5).trans hH6).trans hH8).trans hH10) hlr .slnil ?_
 refine WpD.caseB (t := 42) rfl (fun q42 => ?_) (fun q42 => ?_)
 ·simp at q42
 refine WpD.y (i := 9) (fuel := 16) (listed' := lst 26 1023) (by kernel_rfl) rfl rfl rfl rfl (((((hH2.trans hH4).trans hH5).trans hH6).trans hH8).trans hH10) hlr .slnil (RunY.loadH tabOK hc2 ((((hH4.trans hH5).trans hH6).trans hH8).trans hH10) rfl rfl rfl rfl) ?_
 refine WpD.y (i := 10) (fuel := 15) (listed' := lst 26 2047) (by kernel_rfl) rfl rfl rfl rfl (((((hH2.trans hH4).trans hH5).trans hH6).trans hH8).trans hH10) hlr .slnil (RunY.loadH tabOK hc4 (((hH5.trans hH6).trans hH8).trans hH10) rfl rfl rfl rfl) ?_
 refine WpD.y (i := 12) (fuel := 14) (listed' := lst 26 6143) (by kernel_rfl) rfl rfl rfl rfl (((((hH2.trans hH4).trans hH5).trans hH6).trans hH8).trans hH10) hlr .slnil (RunY.loadH tabOK hc2 ((((hH4.trans hH5).trans hH6).trans hH8).trans hH10) rfl rfl rfl rfl) ?_
 refine WpD.y (i := 13) (fuel := 13) (listed' := lst 26 14335) (by kernel_rfl) rfl rfl rfl rfl (((((hH2.trans hH4).trans hH5).trans hH6).trans hH8).trans hH10) hlr .slnil (RunY.loadH tabOK hc4 (((hH5.trans hH6).trans hH8).trans hH10) rfl rfl rfl rfl) ?_
 refine WpD.f (i := 11) (fuel := 12) (listed' := lst 26 16383) (by kernel_rfl) (((((hH2.trans hH4).trans hH5).trans hH6).trans hH8).trans hH10) (OpG.call (Lc := []) rfl rfl rfl rfl rfl rfl (.refl _) (HIs_calls (Rdc.mono (((((hH2.trans hH4).trans hH5).trans hH6).trans hH8).trans hH10) rd_f') h (hi).1)) ?_
 rintro _ H11 L1 ⟨_, _, rfl, hH11, ⟨rfl, hT, rfl⟩, eL⟩
 subst eL
 refine ⟨hH11, .slnil, ?_⟩
 change WpD _ _ _ _ _ _ _ _ _ _ _ _ _ _ []
 refine WpD.callS (i := 14) (fuel := 11) (listed' := lst 26 32767) (by kernel_rfl) rfl rfl rfl rfl rfl rfl hlr (rIs14_calls (Rdc.mono ((((((hH2.trans hH4).trans hH5).trans hH6).trans hH8).trans hH10).trans hH11) rd_f') h hT) (((((hH2.trans hH4).trans hH5).trans hH6).trans hH8).trans hH10) hH11 .slnil ?_
 refine WpD.y (i := 15) (fuel := 10) (listed' := lst 26 65535) (by kernel_rfl) rfl rfl rfl rfl (((((hH2.trans hH4).trans hH5).trans hH6).trans hH8).trans hH10) hH11 .slnil (RunY.neBool tabOK rfl rfl rfl rfl) ?_
 refine WpD.g (listed' := lst 26 262143) tabOK [16, 17] (by kernel_rfl) rfl (((((hH2.trans hH4).trans hH5).trans hH6).trans hH8).trans hH10) hH11 .slnil ?_
 refine WpD.caseB (t := 51) rfl (fun q51 => ?_) (fun q51 => ?_)
 ·simp at q51
 refine WpD.y (i := 18) (fuel := 7) (listed' := lst 26 524287) (by kernel_rfl) rfl rfl rfl rfl (((((hH2.trans hH4).trans hH5).trans hH6).trans hH8).trans hH10) hH11 .slnil (RunY.loadH tabOK hc2 ((((hH4.trans hH5).trans hH6).trans hH8).trans hH10) rfl rfl rfl rfl) ?_
 refine WpD.y (i := 19) (fuel := 6) (listed' := lst 26 1048575) (by kernel_rfl) rfl rfl rfl rfl (((((hH2.trans hH4).trans hH5).trans hH6).trans hH8).trans hH10) hH11 .slnil (RunY.loadH tabOK hc4 (((hH5.trans hH6).trans hH8).trans hH10) rfl rfl rfl rfl) ?_
 refine WpD.y (i := 21) (fuel := 5) (listed' := lst 26 3145727) (by kernel_rfl) rfl rfl rfl rfl (((((hH2.trans hH4).trans hH5).trans hH6).trans hH8).trans hH10) hH11 .slnil (RunY.loadH tabOK hc2 ((((hH4.trans hH5).trans hH6).trans hH8).trans hH10) rfl rfl rfl rfl) ?_
 refine WpD.y (i := 22) (fuel := 4) (listed' := lst 26 7340031) (by kernel_rfl) rfl rfl rfl rfl (((((hH2.trans hH4).trans hH5).trans hH6).trans hH8).trans hH10) hH11 .slnil (RunY.loadH tabOK hc4 (((hH5.trans hH6).trans hH8).trans hH10) rfl rfl rfl rfl) ?_
 refine WpD.f (i := 20) (fuel := 3) (listed' := lst 26 8388607) (by kernel_rfl) (((((hH2.trans hH4).trans hH5).trans hH6).trans hH8).trans hH10) (OpG.call (Lc := []) rfl rfl rfl rfl rfl rfl (.refl _) (HMerges_calls (Rdc.mono ((((((hH2.trans hH4).trans hH5).trans hH6).trans hH8).trans hH10).trans hH11) rd_f') h (hi))) ?_
 rintro _ H12 L1 ⟨_, _, rfl, hH12, ⟨rfl, hT, rfl⟩, eL⟩
 subst eL
 refine ⟨(hH11.trans hH12), .slnil, ?_⟩
 change WpD _ _ _ _ _ _ _ _ _ _ _ _ _ _ []
 refine WpD.callS (i := 23) (fuel := 2) (listed' := lst 26 16777215) (by kernel_rfl) rfl rfl rfl rfl rfl rfl hlr (rMerges14_calls (Rdc.mono (((((((hH2.trans hH4).trans hH5).trans hH6).trans hH8).trans hH10).trans hH11).trans hH12) rd_f') h hT) (((((hH2.trans hH4).trans hH5).trans hH6).trans hH8).trans hH10) (hH11.trans hH12) .slnil ?_
 refine WpD.y (i := 24) (fuel := 1) (listed' := lst 26 33554431) (by kernel_rfl) rfl rfl rfl rfl (((((hH2.trans hH4).trans hH5).trans hH6).trans hH8).trans hH10) (hH11.trans hH12) .slnil (RunY.neBool tabOK rfl rfl rfl rfl) ?_
 refine WpD.g (listed' := lst 26 67108863) tabOK [25] (by kernel_rfl) rfl (((((hH2.trans hH4).trans hH5).trans hH6).trans hH8).trans hH10) (hH11.trans hH12) .slnil ?_
 refine WpD.done (by kernel_rfl) ?_
 refine WpG.caseB (t := 59) rfl (fun q59 => ?_) (fun q59 => ?_)
 ·simp at q59
 refine WpG.g tabOK 9 rfl ?_
 refine WpG.y rfl rfl rfl rfl (RunY.loadH tabOK hc2 ((((((hH4.trans hH5).trans hH6).trans hH8).trans hH10).trans hH11).trans hH12) rfl rfl rfl rfl) ?_
 refine WpG.y rfl rfl rfl rfl (RunY.loadH tabOK hc4 (((((hH5.trans hH6).trans hH8).trans hH10).trans hH11).trans hH12) rfl rfl rfl rfl) ?_
 refine WpG.callS rfl rfl rfl rfl rfl rfl hlr (rIs14_calls (Rdc.mono (((((((hH2.trans hH4).trans hH5).trans hH6).trans hH8).trans hH10).trans hH11).trans hH12) rd_f') h hT) ?_
 refine WpG.g tabOK 1 rfl ?_
 apply WpG.joinP (True) (G := [(3, .pointer (some ⟨b1, 0, none⟩)), (4, .pointer (some ⟨b3, 0, none⟩)), (11, .int .i64 (costH f h))])
 ·intro nx13
  refine WpG.caseB (t := 62) rfl (fun q62 => ?_) (fun q62 => ?_)
  ·have hd := is_gg q62
   refine WpG.g tabOK 2 rfl ?_
   refine WpG.y rfl rfl rfl rfl (RunY.loadH tabOK hc2 ((((((hH4.trans hH5).trans hH6).trans hH8).trans hH10).trans hH11).trans hH12) rfl rfl rfl rfl) ?_
   refine WpG.y rfl rfl rfl rfl (RunY.loadH tabOK hc4 (((((hH5.trans hH6).trans hH8).trans hH10).trans hH11).trans hH12) rfl rfl rfl rfl) ?_
   refine WpG.call0 rfl rfl rfl rfl rfl rfl (rOps14_calls (Rdc.mono (((((((hH2.trans hH4).trans hH5).trans hH6).trans hH8).trans hH10).trans hH11).trans hH12) rd_f') h ((is_thn hd.2).imp id fun z => ⟨z.1, z.2.1⟩) ((is_els hd.2).imp id fun z => ⟨z.1, z.2.1⟩) (okF_gg hd.1).2.1.ops) ?_
   rintro _ H14 _ hH14 ⟨A14, c14, rfl, u14, r14, rfl⟩
   refine WpG.g tabOK 3 rfl ?_
   refine WpG.lessH (((((((hH2.trans hH4).trans hH5).trans hH6).trans hH8).trans hH10).trans hH11).trans hH12) hH14 ?_
   exact (nx13 (trivial)).weak ⟨rfl, rfl, (congrArg (fun x => some (Value.int .i64 x)) (cost_len q62).symm), trivial⟩
  refine WpG.g tabOK 2 rfl ?_
  exact (nx13 (trivial)).weak ⟨rfl, rfl, (congrArg (fun x => some (Value.int .i64 x)) (cost_none q62).symm), trivial⟩
 intro _
 refine WpG.g tabOK 3 rfl ?_
 refine WpG.y rfl rfl rfl rfl (RunY.loadH tabOK hc2 ((((((hH4.trans hH5).trans hH6).trans hH8).trans hH10).trans hH11).trans hH12) rfl rfl rfl rfl) ?_
 refine WpG.y rfl rfl rfl rfl (RunY.loadH tabOK hc4 (((((hH5.trans hH6).trans hH8).trans hH10).trans hH11).trans hH12) rfl rfl rfl rfl) ?_
 refine WpG.call0 rfl rfl rfl rfl rfl rfl (HCost_calls (Rdc.mono (((((((hH2.trans hH4).trans hH5).trans hH6).trans hH8).trans hH10).trans hH11).trans hH12) rd_f') h (hi)) ?_
 rintro _ H15 _ hH15 ⟨rfl, hT, rfl⟩
 refine WpG.g tabOK 3 rfl ?_
 refine WpG.caseN (t := 71) rfl (fun q71 => ?_) (fun q71 => ?_)
 ·exact absurd rfl q71
 refine WpG.g tabOK 4 rfl ?_
 refine WpG.y rfl rfl rfl rfl (RunY.loadH tabOK hc2 (((((((hH4.trans hH5).trans hH6).trans hH8).trans hH10).trans hH11).trans hH12).trans hH15) rfl rfl rfl rfl) ?_
 refine WpG.call0 rfl rfl rfl rfl rfl rfl (HAll_calls (Rdc.mono ((((((((hH2.trans hH4).trans hH5).trans hH6).trans hH8).trans hH10).trans hH11).trans hH12).trans hH15) rd_f')) ?_
 rintro _ H16 _ hH16 ⟨hT, A16, c16, rfl, u16, r16, rfl⟩
 refine WpG.g tabOK 13 rfl ?_
 have hal := r16.1
 refine WpG.wk (WpG.ind2 (fun (i : Int) (n : Int) => ⟨(f.blocks.length - i).toNat, [(3, .pointer (some ⟨b1, 0, none⟩)), (12, .slice A16 ((allH f).length) c16), (13, .int .i64 n), (14, .int .i64 i)], H16, [], 0 ≤ i ∧ i ≤ f.blocks.length ∧ 0 ≤ n ∧ n = cntH f i⟩) ?_ 0 0 ⟨by omega, by omega, by omega, cnt_zero.symm⟩) rfl
 intro i n inv ih1
 obtain ⟨i0, i1, i2, i3⟩ := inv
 refine WpG.g tabOK 5 rfl ?_
 refine WpG.y rfl rfl rfl rfl (RunY.loadH tabOK (hc2.sub 2 1) ((((((((hH4.trans hH5).trans hH6).trans hH8).trans hH10).trans hH11).trans hH12).trans hH15).trans hH16) rfl rfl rfl rfl) ?_
 refine WpG.g tabOK 3 rfl ?_
 refine WpG.caseD (t := 78) rfl (fun q78 => ?_) (fun q78 => ?_)
 ·refine WpG.g tabOK 6 rfl ?_
  refine WpG.y rfl rfl rfl rfl (RunY.loadH tabOK hc2 ((((((((hH4.trans hH5).trans hH6).trans hH8).trans hH10).trans hH11).trans hH12).trans hH15).trans hH16) rfl rfl rfl rfl) ?_
  refine WpG.g tabOK 1 rfl ?_
  refine WpG.callS rfl rfl rfl rfl rfl rfl hlr (rFind14_calls (Rdc.mono (((((((((hH2.trans hH4).trans hH5).trans hH6).trans hH8).trans hH10).trans hH11).trans hH12).trans hH15).trans hH16) rd_f') i hT) ?_
  refine WpG.g tabOK 3 rfl ?_
  refine WpG.alloc tabOK rfl rfl rfl rfl rfl (fun b17 => ?_)
  refine WpG.storeBox (ci := 0) (cs' := [.int .i64 ((findH f i).1.at_), .int .i64 ((findH f i).1.thn), .int .i64 ((findH f i).1.els), .int .i64 ((findH f i).1.join)]) tabOK rfl rfl rfl rfl rfl rfl rfl rfl rfl ?_
  refine WpG.freezeBox (ci := 0) rfl (fun H18 hH18 hc18 => ?_)
  refine WpG.g tabOK 4 rfl ?_
  refine WpG.draw 15 [] mixed (by kernel_rfl) ?_
  refine WpD.g (listed' := lst 15 3) tabOK [0, 1] (by kernel_rfl) rfl ((((((((((hH2.trans hH4).trans hH5).trans hH6).trans hH8).trans hH10).trans hH11).trans hH12).trans hH15).trans hH16).trans hH18) hlr .slnil ?_
  refine WpD.caseB (t := 88) rfl (fun q88 => ?_) (fun q88 => ?_)
  ·refine WpD.setV (t := 16) (v' := .bool true) rfl (congrArg Value.bool q88) ?_
   obtain ⟨hx1, hx2, hx3⟩ := find_next i3 i0 q78 q88
   refine WpD.g (listed' := lst 15 127) tabOK [2, 3, 4, 5, 6] (by kernel_rfl) rfl ((((((((((hH2.trans hH4).trans hH5).trans hH6).trans hH8).trans hH10).trans hH11).trans hH12).trans hH15).trans hH16).trans hH18) hlr .slnil ?_
   refine WpD.caseD (t := 93) rfl (fun q93 => ?_) (fun q93 => ?_)
   ·exfalso; omega
   refine WpD.g (listed' := lst 15 511) tabOK [7, 8] (by kernel_rfl) rfl ((((((((((hH2.trans hH4).trans hH5).trans hH6).trans hH8).trans hH10).trans hH11).trans hH12).trans hH15).trans hH16).trans hH18) hlr .slnil ?_
   refine WpD.indexR (i := 9) (fuel := 5) (listed' := lst 15 1023) tabOK (by kernel_rfl) rfl rfl rfl rfl rfl rfl rfl rfl rfl ((((((((((hH2.trans hH4).trans hH5).trans hH6).trans hH8).trans hH10).trans hH11).trans hH12).trans hH15).trans hH16).trans hH18) hlr .slnil r16 (by omega) (by omega) ?_
   rintro x19 hx19 b19 o19 cs19 rd19 hc19
   have rd19' := rd19; obtain ⟨rfl, k19_0, k19_1, k19_2, k19_3⟩ := rd19
   obtain rfl : x19 = (nth (allH f) n) := hx19
   refine WpD.y (i := 10) (fuel := 4) (listed' := lst 15 2047) (by kernel_rfl) rfl rfl rfl rfl ((((((((((hH2.trans hH4).trans hH5).trans hH6).trans hH8).trans hH10).trans hH11).trans hH12).trans hH15).trans hH16).trans hH18) hlr .slnil (RunY.loadH tabOK hc19 hH18 rfl rfl rfl rfl) ?_
   refine WpD.y (i := 11) (fuel := 3) (listed' := lst 15 4095) (by kernel_rfl) rfl rfl rfl rfl ((((((((((hH2.trans hH4).trans hH5).trans hH6).trans hH8).trans hH10).trans hH11).trans hH12).trans hH15).trans hH16).trans hH18) hlr .slnil (RunY.loadH tabOK hc18 hlr rfl rfl rfl rfl) ?_
   refine WpD.y (i := 12) (fuel := 2) (listed' := lst 15 8191) (by kernel_rfl) rfl rfl rfl rfl ((((((((((hH2.trans hH4).trans hH5).trans hH6).trans hH8).trans hH10).trans hH11).trans hH12).trans hH15).trans hH16).trans hH18) hlr .slnil (RunY.neQuad (e := 3) tabOK rfl rfl rfl rfl rfl Tryz.underlying26 (by kernel_rfl) (by kernel_rfl) (by kernel_rfl)) ?_
   refine WpD.g (listed' := lst 15 32767) tabOK [13, 14] (by kernel_rfl) rfl ((((((((((hH2.trans hH4).trans hH5).trans hH6).trans hH8).trans hH10).trans hH11).trans hH12).trans hH15).trans hH16).trans hH18) hlr .slnil ?_
   refine WpD.done (by kernel_rfl) ?_
   refine WpG.caseBn (t := 101) rfl (fun q101 => ?_) (fun q101 => ?_)
   ·exact absurd q101 (by rw [hx2, quad_refl]; decide)
   refine WpG.gw tabOK 10 104 rfl (wrk (x := n + 1) (by omega) (by omega)) ?_
   refine WpG.gw tabOK 6 80 rfl (wrk (x := i + 1) (by omega) (by omega)) ?_
   refine WpG.g tabOK 3 rfl ?_
   refine WpG.lessH (((((((((hH2.trans hH4).trans hH5).trans hH6).trans hH8).trans hH10).trans hH11).trans hH12).trans hH15).trans hH16) hH18 ?_
   refine WpG.wk (ih1 (i + 1) (n + 1) ?_ ?_) rfl
   ·dsimp only
    omega
   clear ih1
   exact ⟨by omega, by omega, by omega, hx3⟩
  refine WpD.setV (t := 16) (v' := .bool false) rfl (congrArg Value.bool q88) ?_
  refine WpD.g (listed' := lst 15 32767) tabOK [2, 3, 4, 5, 6, 7, 8, 9, 10, 11, 12, 13, 14] (by kernel_rfl) rfl ((((((((((hH2.trans hH4).trans hH5).trans hH6).trans hH8).trans hH10).trans hH11).trans hH12).trans hH15).trans hH16).trans hH18) hlr .slnil ?_
  refine WpD.done (by kernel_rfl) ?_
  refine WpG.gw tabOK 12 80 rfl (wrk (x := i + 1) (by omega) (by omega)) ?_
  refine WpG.g tabOK 3 rfl ?_
  refine WpG.lessH (((((((((hH2.trans hH4).trans hH5).trans hH6).trans hH8).trans hH10).trans hH11).trans hH12).trans hH15).trans hH16) hH18 ?_
  refine WpG.wk (ih1 (i + 1) n ?_ ?_) rfl
  ·dsimp only
   omega
  clear ih1
  exact ⟨by omega, by omega, i2, find_skip i3 i0 q78 q88⟩
 refine WpG.g tabOK 10 rfl ?_
 exact WpG.ret tabOK (L' := []) (.tmp rfl .nil) .slnil ⟨congrArg Value.bool (by have z := cnt_end i3 i0 i1 q78; simp [z]), rfl⟩
end Go.Proofs.YtakameggkkjcpaaGreat
namespace Go.Proofs.YtakameggkkjcpaaGreat
open Go Go.RowKit Go.ChangeShapes Go.WideShapes Go.ChangeAt
set_option maxRecDepth 100000 in
theorem hammockFinds_lifted (os : Os) (started : os.Started) (HH : Type) (enc : TypeId × Value → HH) :
    ReturnsInHanded {} Tryz.checked os 3 .any (Rows.hammockFindsSpec.pre6 enc Tryz.prog Tryz.f3 Rows.hammockFindsRow.domain false) (Rows.hammockFindsSpec.post enc Tryz.prog Tryz.f3 false true false false) := by
  refine returnsInHanded_of_change_sized (C := Tryz.checked) own started (by kernel_rfl) Tryz.func3
    (ChangeSpec.witness6 (enc := enc) (C := Tryz.checked) false ⟨#[], #[.agg #[.slice none 0 0, .int .i64 0, .slice none 0 0], .agg #[.int .i64 0, .int .i64 0, .int .i64 0, .int .i64 0], .int .i64 0], []⟩ 8 (by kernel_rfl) (by kernel_rfl) (by kernel_rfl) (by kernel_rfl)) ?_
  intro W base args ds gs before hval0 hW _ hsz _
  have hW' := hW
  obtain ⟨p, q, hA0, hV, rfl, _, _⟩ := hW
  have hval : ∀ (j : Nat) t v, Tryz.f3.params[j]? = some t → args[j]? = some v → Value.okWide Tryz.prog W .any base t v := hval0
  have hA : DataW.TrodAll enc Tryz.prog W 0 (fun _ => true) true Tryz.f3.params.toList args.toList ds p := hA0
  rw [Tryz.params3] at hA hval
  obtain ⟨v0, v1, v2, d0, d1, d2, p0, p1, p2, rfl, rfl, rfl, h0, h1, h2⟩ := trodAll_three hA
  obtain ⟨rfl, rfl⟩ := trodVars_none hV
  obtain ⟨cs, rfl, _⟩ := okWide_agg Tryz.underlying25 (hval 0 25 v0 rfl rfl)
  obtain ⟨fuel, hf⟩ := h0
  have hw : ∀ n ∈ DataW.weights Tryz.prog 25 d0, n ≤ reachBytes := weights_one hsz
  obtain ⟨f, A0, c0, A2, c2, hcs, u0, r0, u2, r2, k0⟩ := dFunc HH enc fuel _ _ hf hw
  have hcs' : cs = #[.slice A0 f.params.length c0, .int .i64 f.ret, .slice A2 f.blocks.length c2] := by
    have : cs.toList = _ := hcs
    exact Array.toList_inj.1 this
  subst hcs'
  obtain ⟨csh, rfl, _⟩ := okWide_agg Tryz.underlying27 (hval 1 27 v1 rfl rfl)
  obtain ⟨fuelh, hfh⟩ := h1
  have hwh : ∀ n ∈ DataW.weights Tryz.prog 27 d1, n ≤ reachBytes := weights_two hsz
  obtain ⟨hm, hmcs, hm0, hm1, hm2, hm3⟩ := dHam HH enc fuelh _ _ hfh hwh
  have hmcs' : csh = #[.int .i64 hm.at_, .int .i64 hm.thn, .int .i64 hm.els, .int .i64 hm.join] := by
    have : csh.toList = _ := hmcs
    exact Array.toList_inj.1 this
  subst hmcs'
  obtain ⟨a2, rfl, rfl, rfl, wa2⟩ := open_int Tryz.underlying3 (hval 2 3 v2 rfl rfl) h2
  refine (law_calls (HammockFinds_calls u0 r0 u2 r2 k0 hm ⟨hm0, hm1, hm2, hm3⟩ a2 (wf64 wa2))).mono fun e W' ⟨he, hb⟩ => ?_
  exact ⟨_, he, post_true hW' rfl laidOut (by kernel_rfl) Tryz.underlying4 rfl rfl hb⟩
theorem hammockFinds : Rows.HammockFindsSaid :=
  OpenClaim.holds_of_wide 3 Tryz.f3 rfl rfl rfl rfl rfl rfl rfl ⟨rfl, rfl, rfl, rfl, rfl⟩ rfl rfl rfl rfl rfl (by kernel_rfl) Tryz.func3 (by kernel_rfl)
    (of_decide_eq_true (by kernel_rfl)) (by unfold Func.isWrapper; first | (rw [if_pos (by decide +kernel)]; kernel_rfl) | (rw [if_neg (by decide +kernel)]; exact ⟨rfl, rfl⟩))
    (fun os started HH enc _ => hammockFinds_lifted os started HH enc)
end Go.Proofs.YtakameggkkjcpaaGreat

/- Each parameter, phi and operation that gives something has its shape, and nothing else has one: 'CheckShapes' answers true at every input. No conditions. -/
import Derived.Test.YtdjemlkllbhdlaaGreatSK5
import Derived.Test.YtdjemlkllbhdlaaGreatRows
set_option linter.unusedVariables false
set_option linter.unusedSimpArgs false
namespace Go.Proofs.YtdjemlkllbhdlaaGreat
open Go Go.RowKit
theorem CheckShapes_calls {H : Hp} {f : FuncD} {A_f_0 A_f_2 : Option Addr} {c_f_0 c_f_2 : Nat} (u_f_0 : f.params.length ≤ c_f_0) (r_f_0 : RdS H A_f_0 f.params) (u_f_2 : f.blocks.length ≤ c_f_2) (r_f_2 : RdS H A_f_2 f.blocks) (k_f_0 : I64 f.ret) (x : Int) (hx : I64 x) : CallG Tryz.prog 6 [.agg #[.slice A_f_0 f.params.length c_f_0, .int .i64 f.ret, .slice A_f_2 f.blocks.length c_f_2], .int .i64 x] H [] (fun v _ L' => v = .bool (true) ∧ L' = []) := by
 have rd_f' : Rdc.rd H [.slice A_f_0 f.params.length c_f_0, .int .i64 f.ret, .slice A_f_2 f.blocks.length c_f_2] f := ⟨_, _, _, _, rfl, u_f_0, r_f_0, u_f_2, r_f_2, k_f_0⟩
 have bs := r_f_2.1; have bsp := r_f_0.1
 refine CallG.of Tryz.func6 rfl rfl rfl fun w0 => ?_
 refine WpG.g tabOK 2 rfl ?_
 refine WpG.box rfl rfl rfl rfl rfl (fun b1 => ?_)
 refine WpG.freezeBox (ci := 0) rfl (fun H2 hH2 hc2 => ?_)
 refine WpG.g tabOK 5 rfl ?_
 refine WpG.callS rfl rfl rfl rfl rfl rfl (Hp.le.refl _) (awake_calls) ?_
 refine WpG.g tabOK 7 rfl ?_
 refine WpG.y rfl rfl rfl rfl (RunY.loadH tabOK hc2 (Hp.le.refl _) rfl rfl rfl rfl) ?_
 refine WpG.call0 rfl rfl rfl rfl rfl rfl (Small_calls u_f_0 (r_f_0.mono hH2) u_f_2 (r_f_2.mono hH2) k_f_0) ?_
 rintro _ H3 _ hH3 ⟨bs3, rfl, hs3, rfl⟩
 refine WpG.g tabOK 2 rfl ?_
 refine WpG.caseBn (t := 18) rfl (fun q18 => ?_) (fun q18 => ?_)
 ·refine WpG.g tabOK 10 rfl ?_
  exact WpG.ret tabOK (L' := []) (.tmp rfl .nil) .slnil ⟨rfl, rfl⟩
 ·refine WpG.y rfl rfl rfl rfl (RunY.loadH tabOK hc2 hH3 rfl rfl rfl rfl) ?_
  refine WpG.call0 rfl rfl rfl rfl rfl rfl (rCheck_calls (Rdc.mono (hH2.trans hH3) rd_f') 2) ?_
  rintro _ H4 _ hH4 ⟨eR, rfl, hr, rfl⟩
  refine WpG.g tabOK 3 rfl ?_
  refine WpG.caseN (t := 22) rfl (fun q22 => ?_) (fun q22 => ?_)
  ·refine WpG.g tabOK 5 rfl ?_
   exact WpG.ret tabOK (L' := []) (.tmp rfl .nil) .slnil ⟨rfl, rfl⟩
  ·refine WpG.g tabOK 4 rfl ?_
   refine WpG.y rfl rfl rfl rfl (RunY.loadH tabOK hc2 (hH3.trans hH4) rfl rfl rfl rfl) ?_
   refine WpG.call0 rfl rfl rfl rfl rfl rfl (Shapes_calls u_f_0 (r_f_0.mono ((hH2.trans hH3).trans hH4)) u_f_2 (r_f_2.mono ((hH2.trans hH3).trans hH4)) k_f_0) ?_
   rintro _ H5 L1 hH5 ⟨eS, hce, (⟨hne, rfl, rfl⟩ | ⟨rfl, ms, mb, ss, hdf, rfl, hsm, rfl⟩)⟩
   ·exact absurd ((ref_code hr (by decide) (by decide) hce).trans q22) hne
   obtain ⟨tl, hR⟩ := code_right hce
   have hB := bnd_of hR.may; have hbd := hB.defs; have hcn := defsR_cnt f; have hsl := shape_len hsm hdf
   refine WpG.g tabOK 9 rfl ?_
   refine WpG.wk (WpG.ind1 (fun (a : Int) => ⟨(f.params.length - a).toNat, [(1, .int .i64 x), (2, .pointer (some ⟨b1, 0, none⟩)), (5, .map (some mb)), (6, .int .i64 a)], H5, [Chunk.imap mb (encm prv ss)], 0 ≤ a ∧ a ≤ f.params.length⟩) ?_ 0 ⟨by omega, by omega⟩) rfl
   intro a inv ih1
   obtain ⟨a0, a1⟩ := inv
   refine WpG.g tabOK 5 rfl ?_
   refine WpG.y rfl rfl rfl rfl (RunY.loadH tabOK (hc2.sub 0 1) ((hH3.trans hH4).trans hH5) rfl rfl rfl rfl) ?_
   refine WpG.g tabOK 3 rfl ?_
   refine WpG.caseD (t := 29) rfl (fun q29 => ?_) (fun q29 => ?_)
   ·refine WpG.g tabOK 5 rfl ?_
    refine WpG.draw 11 [Chunk.imap mb (encm prv ss)] mixed (by kernel_rfl) ?_
    refine WpD.gw (listed' := lst 11 7) tabOK [0, 1, 2] 34 (by kernel_rfl) rfl (wrk (x := a + 1) (by omega) (by omega)) (((hH2.trans hH3).trans hH4).trans hH5) (Hp.le.refl _) (.cons_cons _ .slnil) ?_
    refine WpD.g (listed' := lst 11 87) tabOK [4, 6] (by kernel_rfl) rfl (((hH2.trans hH3).trans hH4).trans hH5) (Hp.le.refl _) (.cons_cons _ .slnil) ?_
    obtain ⟨X6, hX6⟩ : ∃ X, (mget ss (a + 1)).getD (0, 0) = X := ⟨_, rfl⟩
    refine WpD.y (i := 3) (fuel := 5) (listed' := lst 11 95) (by kernel_rfl) rfl rfl rfl rfl (((hH2.trans hH3).trans hH4).trans hH5) (Hp.le.refl _) (.cons_cons _ .slnil) (RunY.lookupT prv (0, 0) (ci := 0) tabOK rfl rfl rfl rfl rfl rfl rfl rfl rfl hX6 (ok := false)) ?_
    refine WpD.y (i := 5) (fuel := 4) (listed' := lst 11 127) (by kernel_rfl) rfl rfl rfl rfl (((hH2.trans hH3).trans hH4).trans hH5) (Hp.le.refl _) (.cons_cons _ .slnil) (RunY.loadH tabOK (hc2.sub 0 1) ((hH3.trans hH4).trans hH5) rfl rfl rfl rfl) ?_
    refine WpD.indexR (i := 7) (fuel := 3) (listed' := lst 11 255) tabOK (by kernel_rfl) rfl rfl rfl rfl rfl rfl rfl rfl rfl (((hH2.trans hH3).trans hH4).trans hH5) (Hp.le.refl _) (.cons_cons _ .slnil) r_f_0 (by omega) (by omega) ?_
    rintro x7 hx7 b7 o7 _ ⟨rfl, k7⟩ hc7
    obtain rfl : x7 = (nth f.params a) := hx7
    refine WpD.y (i := 8) (fuel := 2) (listed' := lst 11 511) (by kernel_rfl) rfl rfl rfl rfl (((hH2.trans hH3).trans hH4).trans hH5) (Hp.le.refl _) (.cons_cons _ .slnil) (RunY.loadH tabOK hc7 (((hH2.trans hH3).trans hH4).trans hH5) rfl rfl rfl rfl) ?_
    refine WpD.g (listed' := lst 11 1023) tabOK [9] (by kernel_rfl) rfl (((hH2.trans hH3).trans hH4).trans hH5) (Hp.le.refl _) (.cons_cons _ .slnil) ?_
    refine WpD.y (i := 10) (fuel := 0) (listed' := lst 11 2047) (by kernel_rfl) rfl rfl rfl rfl (((hH2.trans hH3).trans hH4).trans hH5) (Hp.le.refl _) (.cons_cons _ .slnil) (RunY.nePair tabOK rfl rfl rfl rfl rfl rfl rfl (by kernel_rfl)) ?_
    refine WpD.done (by kernel_rfl) ?_
    refine WpG.caseBn (t := 42) rfl (fun q42 => ?_) (fun q42 => ?_)
    ·refine WpG.g tabOK 5 rfl ?_
     exact WpG.ret tabOK (L' := []) (.tmp rfl .nil) (.cons _ .slnil) (by have h := hX6.symm.trans (shape_mem hsm hdf (par_mem a0 q29)); subst h; simp at q42)
    ·refine WpG.gw tabOK 6 31 rfl (wrk (x := a + 1) (by omega) (by omega)) ?_
     refine WpG.g tabOK 3 rfl ?_
     refine WpG.wk (ih1 (a + 1) ?_ ?_) rfl
     ·dsimp only
      omega
     ·
      clear ih1
      exact ⟨by omega, by omega⟩
   ·refine WpG.g tabOK 5 rfl ?_
    refine WpG.y rfl rfl rfl rfl (RunY.loadH tabOK (hc2.sub 0 1) ((hH3.trans hH4).trans hH5) rfl rfl rfl rfl) ?_
    refine WpG.g tabOK 10 rfl ?_
    refine WpG.wk (WpG.ind2 (fun (i : Int) (n : Int) => ⟨(f.blocks.length - i).toNat, [(1, .int .i64 x), (2, .pointer (some ⟨b1, 0, none⟩)), (5, .map (some mb)), (7, .int .i64 n), (8, .int .i64 i)], H5, [Chunk.imap mb (encm prv ss)], 0 ≤ i ∧ i ≤ f.blocks.length ∧ 0 ≤ n ∧ ((defsR f).length : Int) = n + ((allPuts i (f.blocks.drop i.toNat)).length : Int)⟩) ?_ 0 (f.params.length : Int) ⟨by omega, by omega, by omega, hcn⟩) rfl
    intro i n inv ih2
    obtain ⟨i0, i1, i2, i3⟩ := inv
    refine WpG.g tabOK 5 rfl ?_
    refine WpG.y rfl rfl rfl rfl (RunY.loadH tabOK (hc2.sub 2 1) ((hH3.trans hH4).trans hH5) rfl rfl rfl rfl) ?_
    refine WpG.g tabOK 3 rfl ?_
    refine WpG.caseD (t := 50) rfl (fun q50 => ?_) (fun q50 => ?_)
    ·refine WpG.g tabOK 11 rfl ?_
     refine WpG.wk (WpG.ind2 (fun (j : Int) (n2 : Int) => ⟨((nth f.blocks i).phis.length - j).toNat, [(1, .int .i64 x), (2, .pointer (some ⟨b1, 0, none⟩)), (5, .map (some mb)), (7, .int .i64 n2), (8, .int .i64 i), (9, .int .i64 j)], H5, [Chunk.imap mb (encm prv ss)], 0 ≤ j ∧ j ≤ (nth f.blocks i).phis.length ∧ 0 ≤ n2 ∧ ((defsR f).length : Int) = n2 + (((nth f.blocks i).phis.drop j.toNat).length : Int) + (((opsPuts i 0 (nth f.blocks i).ops).length : Int) + ((allPuts (i + 1) (f.blocks.drop (i + 1).toNat)).length : Int))⟩) ?_ 0 n ⟨by omega, by omega, i2, by have z := cnt_in i3 i0 q50; omega⟩) rfl
     intro j n2 inv ih3
     obtain ⟨j0, j1, j2, j3⟩ := inv
     have hln : n2 ≤ ((defsR f).length : Int) := by omega
     refine WpG.g tabOK 5 rfl ?_
     refine WpG.y rfl rfl rfl rfl (RunY.loadH tabOK (hc2.sub 2 1) ((hH3.trans hH4).trans hH5) rfl rfl rfl rfl) ?_
     refine WpG.g tabOK 1 rfl ?_
     refine WpG.indexR tabOK rfl rfl rfl rfl rfl rfl rfl rfl rfl r_f_2 (by omega) (by omega) ?_
     rintro x8 hx8 b8 o8 cs8 rd8 hc8
     have rd8' := rd8; obtain ⟨A8_0, c8_0, A8_1, c8_1, A8_4, c8_4, rfl, u8_0, r8_0, u8_1, r8_1, u8_4, r8_4, k8_0, k8_1⟩ := rd8
     have bz8_0 := r8_0.1
     have bz8_1 := r8_1.1
     have bz8_4 := r8_4.1
     obtain rfl : x8 = (nth f.blocks i) := hx8
     refine WpG.g tabOK 1 rfl ?_
     refine WpG.y rfl rfl rfl rfl (RunY.loadH tabOK (hc8.sub 0 1) (((hH2.trans hH3).trans hH4).trans hH5) rfl rfl rfl rfl) ?_
     refine WpG.g tabOK 3 rfl ?_
     refine WpG.caseD (t := 61) rfl (fun q61 => ?_) (fun q61 => ?_)
     ·refine WpG.gw tabOK 8 65 rfl (wrk (x := n2 + 1) (by omega) (by omega)) ?_
      refine WpG.g tabOK 3 rfl ?_
      refine WpG.draw 24 [Chunk.imap mb (encm prv ss)] mixed (by kernel_rfl) ?_
      refine WpD.g (listed' := lst 24 282763) tabOK [0, 1, 3, 7, 12, 14, 18] (by kernel_rfl) rfl (((hH2.trans hH3).trans hH4).trans hH5) (Hp.le.refl _) (.cons_cons _ .slnil) ?_
      refine WpD.y (i := 2) (fuel := 16) (listed' := lst 24 282767) (by kernel_rfl) rfl rfl rfl rfl (((hH2.trans hH3).trans hH4).trans hH5) (Hp.le.refl _) (.cons_cons _ .slnil) (RunY.loadH tabOK (hc2.sub 2 1) ((hH3.trans hH4).trans hH5) rfl rfl rfl rfl) ?_
      refine WpD.indexR (i := 4) (fuel := 15) (listed' := lst 24 282783) tabOK (by kernel_rfl) rfl rfl rfl rfl rfl rfl rfl rfl rfl (((hH2.trans hH3).trans hH4).trans hH5) (Hp.le.refl _) (.cons_cons _ .slnil) r_f_2 (by omega) (by omega) ?_
      rintro x9 hx9 b9 o9 cs9 rd9 hc9
      have rd9' := rd9; obtain ⟨A9_0, c9_0, A9_1, c9_1, A9_4, c9_4, rfl, u9_0, r9_0, u9_1, r9_1, u9_4, r9_4, k9_0, k9_1⟩ := rd9
      have bz9_0 := r9_0.1
      have bz9_1 := r9_1.1
      have bz9_4 := r9_4.1
      obtain rfl : x9 = (nth f.blocks i) := hx9
      refine WpD.g (listed' := lst 24 282815) tabOK [5] (by kernel_rfl) rfl (((hH2.trans hH3).trans hH4).trans hH5) (Hp.le.refl _) (.cons_cons _ .slnil) ?_
      refine WpD.y (i := 6) (fuel := 13) (listed' := lst 24 282879) (by kernel_rfl) rfl rfl rfl rfl (((hH2.trans hH3).trans hH4).trans hH5) (Hp.le.refl _) (.cons_cons _ .slnil) (RunY.loadH tabOK (hc9.sub 0 1) (((hH2.trans hH3).trans hH4).trans hH5) rfl rfl rfl rfl) ?_
      refine WpD.indexR (i := 8) (fuel := 12) (listed' := lst 24 283135) tabOK (by kernel_rfl) rfl rfl rfl rfl rfl rfl rfl rfl rfl (((hH2.trans hH3).trans hH4).trans hH5) (Hp.le.refl _) (.cons_cons _ .slnil) r9_0 (by omega) (by omega) ?_
      rintro x10 hx10 b10 o10 cs10 rd10 hc10
      have rd10' := rd10; obtain ⟨A10_2, c10_2, A10_3, c10_3, rfl, u10_2, r10_2, u10_3, r10_3, k10_0, k10_1⟩ := rd10
      have bz10_2 := r10_2.1
      have bz10_3 := r10_3.1
      obtain rfl : x10 = (nth ((nth f.blocks i).phis) j) := hx10
      refine WpD.g (listed' := lst 24 283647) tabOK [9] (by kernel_rfl) rfl (((hH2.trans hH3).trans hH4).trans hH5) (Hp.le.refl _) (.cons_cons _ .slnil) ?_
      refine WpD.y (i := 10) (fuel := 10) (listed' := lst 24 284671) (by kernel_rfl) rfl rfl rfl rfl (((hH2.trans hH3).trans hH4).trans hH5) (Hp.le.refl _) (.cons_cons _ .slnil) (RunY.loadH tabOK (hc10.sub 1 1) (((hH2.trans hH3).trans hH4).trans hH5) rfl rfl rfl rfl) ?_
      obtain ⟨X11, hX11⟩ : ∃ X, (mget ss ((nth ((nth f.blocks i).phis) j).dst)).getD (0, 0) = X := ⟨_, rfl⟩
      refine WpD.y (i := 11) (fuel := 9) (listed' := lst 24 286719) (by kernel_rfl) rfl rfl rfl rfl (((hH2.trans hH3).trans hH4).trans hH5) (Hp.le.refl _) (.cons_cons _ .slnil) (RunY.lookupT prv (0, 0) (ci := 0) tabOK rfl rfl rfl rfl rfl rfl rfl rfl rfl hX11 (ok := false)) ?_
      refine WpD.y (i := 13) (fuel := 8) (listed' := lst 24 294911) (by kernel_rfl) rfl rfl rfl rfl (((hH2.trans hH3).trans hH4).trans hH5) (Hp.le.refl _) (.cons_cons _ .slnil) (RunY.loadH tabOK (hc2.sub 2 1) ((hH3.trans hH4).trans hH5) rfl rfl rfl rfl) ?_
      refine WpD.indexR (i := 15) (fuel := 7) (listed' := lst 24 327679) tabOK (by kernel_rfl) rfl rfl rfl rfl rfl rfl rfl rfl rfl (((hH2.trans hH3).trans hH4).trans hH5) (Hp.le.refl _) (.cons_cons _ .slnil) r_f_2 (by omega) (by omega) ?_
      rintro x12 hx12 b12 o12 cs12 rd12 hc12
      have rd12' := rd12; obtain ⟨A12_0, c12_0, A12_1, c12_1, A12_4, c12_4, rfl, u12_0, r12_0, u12_1, r12_1, u12_4, r12_4, k12_0, k12_1⟩ := rd12
      have bz12_0 := r12_0.1
      have bz12_1 := r12_1.1
      have bz12_4 := r12_4.1
      obtain rfl : x12 = (nth f.blocks i) := hx12
      refine WpD.g (listed' := lst 24 393215) tabOK [16] (by kernel_rfl) rfl (((hH2.trans hH3).trans hH4).trans hH5) (Hp.le.refl _) (.cons_cons _ .slnil) ?_
      refine WpD.y (i := 17) (fuel := 5) (listed' := lst 24 524287) (by kernel_rfl) rfl rfl rfl rfl (((hH2.trans hH3).trans hH4).trans hH5) (Hp.le.refl _) (.cons_cons _ .slnil) (RunY.loadH tabOK (hc12.sub 0 1) (((hH2.trans hH3).trans hH4).trans hH5) rfl rfl rfl rfl) ?_
      refine WpD.indexR (i := 19) (fuel := 4) (listed' := lst 24 1048575) tabOK (by kernel_rfl) rfl rfl rfl rfl rfl rfl rfl rfl rfl (((hH2.trans hH3).trans hH4).trans hH5) (Hp.le.refl _) (.cons_cons _ .slnil) r12_0 (by omega) (by omega) ?_
      rintro x13 hx13 b13 o13 cs13 rd13 hc13
      have rd13' := rd13; obtain ⟨A13_2, c13_2, A13_3, c13_3, rfl, u13_2, r13_2, u13_3, r13_3, k13_0, k13_1⟩ := rd13
      have bz13_2 := r13_2.1
      have bz13_3 := r13_3.1
      obtain rfl : x13 = (nth ((nth f.blocks i).phis) j) := hx13
      refine WpD.g (listed' := lst 24 2097151) tabOK [20] (by kernel_rfl) rfl (((hH2.trans hH3).trans hH4).trans hH5) (Hp.le.refl _) (.cons_cons _ .slnil) ?_
      refine WpD.y (i := 21) (fuel := 2) (listed' := lst 24 4194303) (by kernel_rfl) rfl rfl rfl rfl (((hH2.trans hH3).trans hH4).trans hH5) (Hp.le.refl _) (.cons_cons _ .slnil) (RunY.loadH tabOK (hc13.sub 0 1) (((hH2.trans hH3).trans hH4).trans hH5) rfl rfl rfl rfl) ?_
      refine WpD.g (listed' := lst 24 8388607) tabOK [22] (by kernel_rfl) rfl (((hH2.trans hH3).trans hH4).trans hH5) (Hp.le.refl _) (.cons_cons _ .slnil) ?_
      refine WpD.y (i := 23) (fuel := 0) (listed' := lst 24 16777215) (by kernel_rfl) rfl rfl rfl rfl (((hH2.trans hH3).trans hH4).trans hH5) (Hp.le.refl _) (.cons_cons _ .slnil) (RunY.nePair tabOK rfl rfl rfl rfl rfl rfl rfl (by kernel_rfl)) ?_
      refine WpD.done (by kernel_rfl) ?_
      refine WpG.caseBn (t := 89) rfl (fun q89 => ?_) (fun q89 => ?_)
      ·refine WpG.g tabOK 5 rfl ?_
       exact WpG.ret tabOK (L' := []) (.tmp rfl .nil) (.cons _ .slnil) (by have h := hX11.symm.trans (shape_mem hsm hdf (phi_mem i0 q50 j0 q61)); subst h; simp at q89)
      ·refine WpG.gw tabOK 6 63 rfl (wrk (x := j + 1) (by omega) (by omega)) ?_
       refine WpG.g tabOK 3 rfl ?_
       refine WpG.wk (ih3 (j + 1) (n2 + 1) ?_ ?_) rfl
       ·dsimp only
        omega
       ·
        clear ih1 ih2 ih3
        exact ⟨by omega, by omega, by omega, cnt_phi j3 j0 q61⟩
     ·refine WpG.g tabOK 8 rfl ?_
      refine WpG.wk (WpG.ind2 (fun (k : Int) (n3 : Int) => ⟨((nth f.blocks i).ops.length - k).toNat, [(1, .int .i64 x), (2, .pointer (some ⟨b1, 0, none⟩)), (5, .map (some mb)), (7, .int .i64 n3), (8, .int .i64 i), (10, .int .i64 k)], H5, [Chunk.imap mb (encm prv ss)], 0 ≤ k ∧ k ≤ (nth f.blocks i).ops.length ∧ 0 ≤ n3 ∧ ((defsR f).length : Int) = n3 + ((opsPuts i k ((nth f.blocks i).ops.drop k.toNat)).length : Int) + ((allPuts (i + 1) (f.blocks.drop (i + 1).toNat)).length : Int)⟩) ?_ 0 n2 ⟨by omega, by omega, j2, by rw [drop_end j0 q61] at j3; simp only [List.length_nil] at j3; simp only [Int.toNat_zero, List.drop_zero]; omega⟩) rfl
      intro k n3 inv ih4
      obtain ⟨k0, k1, k2, k3⟩ := inv
      have hln : n3 ≤ ((defsR f).length : Int) := by omega
      refine WpG.g tabOK 5 rfl ?_
      refine WpG.y rfl rfl rfl rfl (RunY.loadH tabOK (hc2.sub 2 1) ((hH3.trans hH4).trans hH5) rfl rfl rfl rfl) ?_
      refine WpG.g tabOK 1 rfl ?_
      refine WpG.indexR tabOK rfl rfl rfl rfl rfl rfl rfl rfl rfl r_f_2 (by omega) (by omega) ?_
      rintro x14 hx14 b14 o14 cs14 rd14 hc14
      have rd14' := rd14; obtain ⟨A14_0, c14_0, A14_1, c14_1, A14_4, c14_4, rfl, u14_0, r14_0, u14_1, r14_1, u14_4, r14_4, k14_0, k14_1⟩ := rd14
      have bz14_0 := r14_0.1
      have bz14_1 := r14_1.1
      have bz14_4 := r14_4.1
      obtain rfl : x14 = (nth f.blocks i) := hx14
      refine WpG.g tabOK 1 rfl ?_
      refine WpG.y rfl rfl rfl rfl (RunY.loadH tabOK (hc14.sub 1 1) (((hH2.trans hH3).trans hH4).trans hH5) rfl rfl rfl rfl) ?_
      refine WpG.g tabOK 3 rfl ?_
      refine WpG.caseD (t := 98) rfl (fun q98 => ?_) (fun q98 => ?_)
      ·refine WpG.g tabOK 7 rfl ?_
       refine WpG.y rfl rfl rfl rfl (RunY.loadH tabOK (hc2.sub 2 1) ((hH3.trans hH4).trans hH5) rfl rfl rfl rfl) ?_
       refine WpG.g tabOK 1 rfl ?_
       refine WpG.indexR tabOK rfl rfl rfl rfl rfl rfl rfl rfl rfl r_f_2 (by omega) (by omega) ?_
       rintro x15 hx15 b15 o15 cs15 rd15 hc15
       have rd15' := rd15; obtain ⟨A15_0, c15_0, A15_1, c15_1, A15_4, c15_4, rfl, u15_0, r15_0, u15_1, r15_1, u15_4, r15_4, k15_0, k15_1⟩ := rd15
       have bz15_0 := r15_0.1
       have bz15_1 := r15_1.1
       have bz15_4 := r15_4.1
       obtain rfl : x15 = (nth f.blocks i) := hx15
       refine WpG.g tabOK 1 rfl ?_
       refine WpG.y rfl rfl rfl rfl (RunY.loadH tabOK (hc15.sub 1 1) (((hH2.trans hH3).trans hH4).trans hH5) rfl rfl rfl rfl) ?_
       refine WpG.g tabOK 1 rfl ?_
       refine WpG.indexR tabOK rfl rfl rfl rfl rfl rfl rfl rfl rfl r15_1 (by omega) (by omega) ?_
       rintro x16 hx16 b16 o16 cs16 rd16 hc16
       have rd16' := rd16; obtain ⟨A16_4, c16_4, rfl, u16_4, r16_4, k16_0, k16_1, k16_2, k16_3, k16_4⟩ := rd16
       have bz16_4 := r16_4.1
       obtain rfl : x16 = (nth ((nth f.blocks i).ops) k) := hx16
       refine WpG.g tabOK 1 rfl ?_
       refine WpG.y rfl rfl rfl rfl (RunY.loadH tabOK (hc16.sub 3 1) (((hH2.trans hH3).trans hH4).trans hH5) rfl rfl rfl rfl) ?_
       refine WpG.g tabOK 2 rfl ?_
       refine WpG.caseD (t := 111) rfl (fun q111 => ?_) (fun q111 => ?_)
       ·refine WpG.gw tabOK 4 113 rfl (wrk (x := n3 + 1) (by omega) (by omega)) ?_
        refine WpG.gw tabOK 6 100 rfl (wrk (x := k + 1) (by omega) (by omega)) ?_
        refine WpG.g tabOK 3 rfl ?_
        refine WpG.wk (ih4 (k + 1) (n3 + 1) ?_ ?_) rfl
        ·dsimp only
         omega
        ·
         clear ih1 ih2 ih3 ih4
         show 0 ≤ (k + 1) ∧ (k + 1) ≤ (nth f.blocks i).ops.length ∧ 0 ≤ (n3 + 1) ∧ ((defsR f).length : Int) = (n3 + 1) + ((opsPuts i (k + 1) ((nth f.blocks i).ops.drop (k + 1).toNat)).length : Int) + ((allPuts (i + 1) (f.blocks.drop (i + 1).toNat)).length : Int)
         have hg := dst_gives (right_op hR i0 q50 k0 q98); have z := cnt_op k3 k0 q98; rw [if_pos (hg.1 q111)] at z; exact ⟨by omega, by omega, by omega, z⟩
       ·refine WpG.gw tabOK 6 100 rfl (wrk (x := k + 1) (by omega) (by omega)) ?_
        refine WpG.g tabOK 3 rfl ?_
        refine WpG.wk (ih4 (k + 1) n3 ?_ ?_) rfl
        ·dsimp only
         omega
        ·
         clear ih1 ih2 ih3 ih4
         show 0 ≤ (k + 1) ∧ (k + 1) ≤ (nth f.blocks i).ops.length ∧ 0 ≤ n3 ∧ ((defsR f).length : Int) = n3 + ((opsPuts i (k + 1) ((nth f.blocks i).ops.drop (k + 1).toNat)).length : Int) + ((allPuts (i + 1) (f.blocks.drop (i + 1).toNat)).length : Int)
         have hg := dst_gives (right_op hR i0 q50 k0 q98); have z := cnt_op k3 k0 q98; rw [if_neg (fun h => q111 (hg.2 h))] at z; exact ⟨by omega, by omega, by omega, by omega⟩
      ·refine WpG.gw tabOK 6 52 rfl (wrk (x := i + 1) (by omega) (by omega)) ?_
       refine WpG.g tabOK 3 rfl ?_
       refine WpG.wk (ih2 (i + 1) n3 ?_ ?_) rfl
       ·dsimp only
        omega
       ·
        clear ih1 ih2 ih3 ih4
        exact ⟨by omega, by omega, by omega, by rw [drop_end k0 q98] at k3; simp only [opsPuts, List.length_nil] at k3; omega⟩
    ·refine WpG.g tabOK 6 rfl ?_
     obtain ⟨X17, hX17⟩ : ∃ X, (mget ss x).getD (0, 0) = X := ⟨_, rfl⟩
     refine WpG.y rfl rfl rfl rfl (RunY.lookupT prv (0, 0) (ci := 0) tabOK rfl rfl rfl rfl rfl rfl rfl rfl rfl hX17 (ok := true)) ?_
     refine WpG.g tabOK 3 rfl ?_
     refine WpG.alloc tabOK rfl rfl rfl rfl rfl (fun b18 => ?_)
     refine WpG.storeBox (ci := 0) (cs' := [.int .i64 X17.1, .int .i64 X17.2]) tabOK rfl rfl rfl rfl rfl rfl rfl rfl rfl ?_
     refine WpG.g tabOK 5 rfl ?_
     refine WpG.y rfl rfl rfl rfl (RunY.lenMapT (ci := 1) tabOK rfl rfl rfl rfl) ?_
     refine WpG.g tabOK 3 rfl ?_
     refine WpG.caseE (t := 124) rfl (fun q124 => ?_) (fun q124 => ?_)
     ·refine WpG.g tabOK 3 rfl ?_
      refine WpG.caseBn (t := 127) rfl (fun q127 => ?_) (fun q127 => ?_)
      ·refine WpG.g tabOK 12 rfl ?_
       exact WpG.ret tabOK (L' := []) (.tmp rfl .nil) (.cons _ (.cons _ .slnil)) ⟨rfl, rfl⟩
      ·refine WpG.g tabOK 3 rfl ?_
       refine WpG.caseD (t := 130) rfl (fun q130 => ?_) (fun q130 => ?_)
       ·refine WpG.g tabOK 1 rfl ?_
        refine WpG.y rfl rfl rfl rfl (RunY.loadH tabOK hc2 ((hH3.trans hH4).trans hH5) rfl rfl rfl rfl) ?_
        refine WpG.callS rfl rfl rfl rfl rfl rfl (Hp.le.refl _) (Last_calls u_f_0 (r_f_0.mono (((hH2.trans hH3).trans hH4).trans hH5)) u_f_2 (r_f_2.mono (((hH2.trans hH3).trans hH4).trans hH5)) k_f_0) ?_
        refine WpG.g tabOK 6 rfl ?_
        exact WpG.ret tabOK (L' := []) (.tmp rfl .nil) (.cons _ (.cons _ .slnil)) ⟨congrArg Value.bool (decide_eq_true (key_in hR hsm hdf q127).2), rfl⟩
       ·refine WpG.g tabOK 9 rfl ?_
        exact WpG.ret tabOK (L' := []) (.tmp rfl .nil) (.cons _ (.cons _ .slnil)) (absurd (key_in hR hsm hdf q127).1 q130)
     ·refine WpG.g tabOK 15 rfl ?_
      exact WpG.ret tabOK (L' := []) (.tmp rfl .nil) (.cons _ (.cons _ .slnil)) (absurd (by rw [drop_end i0 q50] at i3; simp only [allPuts, List.length_nil] at i3; omega) q124)
end Go.Proofs.YtdjemlkllbhdlaaGreat
namespace Go.Proofs.YtdjemlkllbhdlaaGreat
open Go Go.RowKit Go.ChangeShapes Go.WideShapes Go.ChangeAt
set_option maxRecDepth 100000 in
theorem checkShapes_lifted (os : Os) (started : os.Started) (HH : Type) (enc : TypeId × Value → HH) :
    ReturnsInHanded {} Tryz.checked os 6 .any (Rows.checkShapesSpec.pre6 enc Tryz.prog Tryz.f6 Rows.checkShapesRow.domain false) (Rows.checkShapesSpec.post enc Tryz.prog Tryz.f6 false true false false) := by
  refine returnsInHanded_of_change_sized (C := Tryz.checked) own started (by kernel_rfl) Tryz.func6
    (ChangeSpec.witness6 (enc := enc) (C := Tryz.checked) false ⟨#[], #[.agg #[.slice none 0 0, .int .i64 0, .slice none 0 0], .int .i64 0], []⟩ 8 (by kernel_rfl) (by kernel_rfl) (by kernel_rfl) (by kernel_rfl)) ?_
  intro W base args ds gs before hval0 hW _ hsz _
  have hW' := hW
  obtain ⟨p, q, hA0, hV, rfl, _, _⟩ := hW
  have hval : ∀ (j : Nat) t v, Tryz.f6.params[j]? = some t → args[j]? = some v → Value.okWide Tryz.prog W .any base t v := hval0
  have hA : DataW.TrodAll enc Tryz.prog W 0 (fun _ => true) true Tryz.f6.params.toList args.toList ds p := hA0
  rw [Tryz.params6] at hA hval
  obtain ⟨v0, v1, d0, d1, p0, p1, rfl, rfl, rfl, h0, h1⟩ := trodAll_two hA
  obtain ⟨rfl, rfl⟩ := trodVars_none hV
  obtain ⟨cs, rfl, _⟩ := okWide_agg Tryz.underlying25 (hval 0 25 v0 rfl rfl)
  obtain ⟨fuel, hf⟩ := h0
  have hw : ∀ n ∈ DataW.weights Tryz.prog 25 d0, n ≤ reachBytes := weights_one hsz
  obtain ⟨f, A0, c0, A2, c2, hcs, u0, r0, u2, r2, k0⟩ := dFunc HH enc fuel _ _ hf hw
  have hcs' : cs = #[.slice A0 f.params.length c0, .int .i64 f.ret, .slice A2 f.blocks.length c2] := by
    have : cs.toList = _ := hcs
    exact Array.toList_inj.1 this
  subst hcs'
  obtain ⟨a1, rfl, rfl, rfl, wa1⟩ := open_int Tryz.underlying3 (hval 1 3 v1 rfl rfl) h1
  refine (law_calls (CheckShapes_calls u0 r0 u2 r2 k0 a1 (wf64 wa1))).mono fun e W' ⟨he, hb⟩ => ?_
  exact ⟨_, he, post_true hW' rfl laidOut (by kernel_rfl) Tryz.underlying4 rfl rfl hb⟩
theorem checkShapes : Rows.CheckShapesSaid :=
  OpenClaim.holds_of_wide 6 Tryz.f6 rfl rfl rfl rfl rfl rfl rfl ⟨rfl, rfl, rfl, rfl, rfl⟩ rfl rfl rfl rfl rfl (by kernel_rfl) Tryz.func6 (by kernel_rfl)
    (of_decide_eq_true (by kernel_rfl)) (by unfold Func.isWrapper; first | (rw [if_pos (by decide +kernel)]; kernel_rfl) | (rw [if_neg (by decide +kernel)]; exact ⟨rfl, rfl⟩))
    (fun os started HH enc _ => checkShapes_lifted os started HH enc)
end Go.Proofs.YtdjemlkllbhdlaaGreat

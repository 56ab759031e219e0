/- What is wrong with a function at any level, the shapes of its values, and the greatest of their numbers, are what the document says: 'CheckAll' answers true at every input. No conditions. -/
import Derived.Test.YtdjemlkllbhdlaaGreatAK5
import Derived.Test.YtdjemlkllbhdlaaGreatRows
set_option linter.unusedVariables false
set_option linter.unusedSimpArgs false
namespace Go.Proofs.YtdjemlkllbhdlaaGreat
open Go Go.RowKit
theorem CheckAll_calls {H : Hp} {f : FuncD} {A_f_0 A_f_2 : Option Addr} {c_f_0 c_f_2 : Nat} (u_f_0 : f.params.length ≤ c_f_0) (r_f_0 : RdS H A_f_0 f.params) (u_f_2 : f.blocks.length ≤ c_f_2) (r_f_2 : RdS H A_f_2 f.blocks) (k_f_0 : I64 f.ret) (lv : Int) : CallG Tryz.prog 3 [.agg #[.slice A_f_0 f.params.length c_f_0, .int .i64 f.ret, .slice A_f_2 f.blocks.length c_f_2], .int .i64 lv] H [] (fun v _ L' => v = .bool (true) ∧ L' = []) := by
 have rd_f' : Rdc.rd H [.slice A_f_0 f.params.length c_f_0, .int .i64 f.ret, .slice A_f_2 f.blocks.length c_f_2] f := ⟨_, _, _, _, rfl, u_f_0, r_f_0, u_f_2, r_f_2, k_f_0⟩
 have bs := r_f_2.1; have bsp := r_f_0.1
 refine CallG.of Tryz.func3 rfl rfl rfl fun w0 => ?_
 refine WpG.g tabOK 2 rfl ?_
 refine WpG.box rfl rfl rfl rfl rfl (fun b1 => ?_)
 refine WpG.freezeBox (ci := 0) rfl (fun H2 hH2 hc2 => ?_)
 refine WpG.g tabOK 5 rfl ?_
 refine WpG.callS rfl rfl rfl rfl rfl rfl (Hp.le.refl _) (awake_calls) ?_
 refine WpG.g tabOK 7 rfl ?_
 refine WpG.y rfl rfl rfl rfl (RunY.loadH tabOK hc2 (Hp.le.refl _) rfl rfl rfl rfl) ?_
 refine WpG.call0 rfl rfl rfl rfl rfl rfl (Small_calls u_f_0 (r_f_0.mono hH2) u_f_2 (r_f_2.mono hH2) k_f_0) ?_
 rintro _ H3 _ hH3 ⟨bs3, rfl, hs3, rfl⟩
 refine WpG.g tabOK 2 rfl ?_
 refine WpG.caseBn (t := 12) rfl (fun q12 => ?_) (fun q12 => ?_)
 ·refine WpG.g tabOK 5 rfl ?_
  exact WpG.ret tabOK (L' := []) (.tmp rfl .nil) .slnil ⟨rfl, rfl⟩
 ·refine WpG.g tabOK 4 rfl ?_
  refine WpG.draw 14 [] mixed (by kernel_rfl) ?_
  refine WpD.g (listed' := lst 14 18) tabOK [1, 4] (by kernel_rfl) rfl (hH2.trans hH3) (Hp.le.refl _) .slnil ?_
  refine WpD.y (i := 0) (fuel := 11) (listed' := lst 14 19) (by kernel_rfl) rfl rfl rfl rfl (hH2.trans hH3) (Hp.le.refl _) .slnil (RunY.loadH tabOK hc2 hH3 rfl rfl rfl rfl) ?_
  refine WpD.y (i := 3) (fuel := 10) (listed' := lst 14 27) (by kernel_rfl) rfl rfl rfl rfl (hH2.trans hH3) (Hp.le.refl _) .slnil (RunY.loadH tabOK hc2 hH3 rfl rfl rfl rfl) ?_
  refine WpD.f (i := 2) (fuel := 9) (listed' := lst 14 31) (by kernel_rfl) (hH2.trans hH3) (OpG.call (Lc := []) rfl rfl rfl rfl rfl rfl (.refl _) (Check_calls u_f_0 (r_f_0.mono (hH2.trans hH3)) u_f_2 (r_f_2.mono (hH2.trans hH3)) k_f_0 lv)) ?_
  rintro _ H4 L1 ⟨_, _, rfl, hH4, ⟨e1, rfl, hc1, rfl⟩, eL⟩
  subst eL
  refine ⟨hH4, .slnil, ?_⟩
  change WpD _ _ _ _ _ _ _ _ _ _ _ _ _ _ []
  refine WpD.f (i := 5) (fuel := 8) (listed' := lst 14 63) (by kernel_rfl) (hH2.trans hH3) (OpG.call (Lc := []) rfl rfl rfl rfl rfl rfl (.refl _) (rCheck_calls (Rdc.mono ((hH2.trans hH3).trans hH4) rd_f') lv)) ?_
  rintro _ H5 L1 ⟨_, _, rfl, hH5, ⟨e5, rfl, hr5, rfl⟩, eL⟩
  subst eL
  refine ⟨(hH4.trans hH5), .slnil, ?_⟩
  change WpD _ _ _ _ _ _ _ _ _ _ _ _ _ _ []
  obtain rfl : e1 = e5 := hr5.same hc1
  refine WpD.g (listed' := lst 14 255) tabOK [6, 7] (by kernel_rfl) rfl (hH2.trans hH3) (hH4.trans hH5) .slnil ?_
  refine WpD.caseN (t := 20) rfl (fun q20 => ?_) (fun q20 => ?_)
  ·refine WpD.g (listed' := lst 14 16383) tabOK [8, 9, 10, 11, 12, 13] (by kernel_rfl) rfl (hH2.trans hH3) (hH4.trans hH5) .slnil ?_
   refine WpD.done (by kernel_rfl) ?_
   refine WpG.g tabOK 5 rfl ?_
   exact WpG.ret tabOK (L' := []) (.tmp rfl .nil) .slnil (absurd rfl q20)
  ·refine WpD.y (i := 8) (fuel := 5) (listed' := lst 14 511) (by kernel_rfl) rfl rfl rfl rfl (hH2.trans hH3) (hH4.trans hH5) .slnil (RunY.loadH tabOK hc2 hH3 rfl rfl rfl rfl) ?_
   refine WpD.y (i := 10) (fuel := 4) (listed' := lst 14 1535) (by kernel_rfl) rfl rfl rfl rfl (hH2.trans hH3) (hH4.trans hH5) .slnil (RunY.loadH tabOK hc2 hH3 rfl rfl rfl rfl) ?_
   refine WpD.callS (i := 9) (fuel := 3) (listed' := lst 14 2047) (by kernel_rfl) rfl rfl rfl rfl rfl rfl (Hp.le.refl _) (Last_calls u_f_0 (r_f_0.mono (((hH2.trans hH3).trans hH4).trans hH5)) u_f_2 (r_f_2.mono (((hH2.trans hH3).trans hH4).trans hH5)) k_f_0) (hH2.trans hH3) (hH4.trans hH5) .slnil ?_
   refine WpD.callS (i := 11) (fuel := 2) (listed' := lst 14 4095) (by kernel_rfl) rfl rfl rfl rfl rfl rfl (Hp.le.refl _) (rLast_calls (Rdc.mono (((hH2.trans hH3).trans hH4).trans hH5) rd_f')) (hH2.trans hH3) (hH4.trans hH5) .slnil ?_
   refine WpD.g (listed' := lst 14 16383) tabOK [12, 13] (by kernel_rfl) rfl (hH2.trans hH3) (hH4.trans hH5) .slnil ?_
   refine WpD.done (by kernel_rfl) ?_
   refine WpG.caseN (t := 26) rfl (fun q26 => ?_) (fun q26 => ?_)
   ·refine WpG.g tabOK 5 rfl ?_
    exact WpG.ret tabOK (L' := []) (.tmp rfl .nil) .slnil (absurd rfl q26)
   ·refine WpG.g tabOK 4 rfl ?_
    refine WpG.y rfl rfl rfl rfl (RunY.loadH tabOK hc2 ((hH3.trans hH4).trans hH5) rfl rfl rfl rfl) ?_
    refine WpG.call0 rfl rfl rfl rfl rfl rfl (Shapes_calls u_f_0 (r_f_0.mono (((hH2.trans hH3).trans hH4).trans hH5)) u_f_2 (r_f_2.mono (((hH2.trans hH3).trans hH4).trans hH5)) k_f_0) ?_
    rintro _ H6 L1 hH6 ⟨eS, hce, (⟨hne, rfl, rfl⟩ | ⟨rfl, ms, mb, ss, hdf, rfl, hsm, rfl⟩)⟩
    ·refine WpG.g tabOK 5 rfl ?_
     refine WpG.y rfl rfl rfl rfl (RunY.loadH tabOK hc2 (((hH3.trans hH4).trans hH5).trans hH6) rfl rfl rfl rfl) ?_
     refine WpG.call0 rfl rfl rfl rfl rfl rfl (rCheck_calls (Rdc.mono ((((hH2.trans hH3).trans hH4).trans hH5).trans hH6) rd_f') 2) ?_
     rintro _ H7 _ hH7 ⟨e7, rfl, hr7, rfl⟩
     obtain rfl : eS = e7 := ref_code hr7 (by decide) (by decide) hce
     refine WpG.g tabOK 2 rfl ?_
     refine WpG.caseN (t := 31) rfl (fun q31 => ?_) (fun q31 => ?_)
     ·refine WpG.g tabOK 4 rfl ?_
      refine WpG.y rfl rfl rfl rfl (RunY.lenNil tabOK rfl rfl rfl) ?_
      refine WpG.g tabOK 3 rfl ?_
      exact WpG.ret tabOK (L' := []) (.tmp rfl .nil) .slnil ⟨rfl, rfl⟩
     ·exact absurd q31 hne
    ·obtain ⟨tl, hR⟩ := code_right hce
     have hB := bnd_of hR.may; have hbd := hB.defs
     refine WpG.g tabOK 5 rfl ?_
     refine WpG.y rfl rfl rfl rfl (RunY.loadH tabOK hc2 (((hH3.trans hH4).trans hH5).trans hH6) rfl rfl rfl rfl) ?_
     refine WpG.call0 rfl rfl rfl rfl rfl rfl (rCheck_calls (Rdc.mono ((((hH2.trans hH3).trans hH4).trans hH5).trans hH6) rd_f') 2) ?_
     rintro _ H8 _ hH8 ⟨e8, rfl, hr8, rfl⟩
     obtain rfl : 0 = e8 := ref_code hr8 (by decide) (by decide) hce
     refine WpG.g tabOK 6 rfl ?_
     refine WpG.y rfl rfl rfl rfl (RunY.loadH tabOK hc2 ((((hH3.trans hH4).trans hH5).trans hH6).trans hH8) rfl rfl rfl rfl) ?_
     refine WpG.call0 rfl rfl rfl rfl rfl rfl (rDefs_calls (Rdc.mono (((((hH2.trans hH3).trans hH4).trans hH5).trans hH6).trans hH8) rd_f') hB.defs) ?_
     rintro _ H9 _ hH9 ⟨A9, c9, rfl, u9, r9, rfl⟩
     refine WpG.g tabOK 9 rfl ?_
     refine WpG.wk (WpG.ind1 (fun (i : Int) => ⟨((defsR f).length - i).toNat, [(5, .map (some mb)), (6, .slice A9 ((defsR f).length) c9), (7, .int .i64 i)], H9, [Chunk.imap mb (encm prv ss)], 0 ≤ i ∧ i ≤ (defsR f).length⟩) ?_ 0 ⟨by omega, by omega⟩) rfl
     intro i inv ih1
     obtain ⟨i0, i1⟩ := inv
     refine WpG.g tabOK 8 rfl ?_
     refine WpG.caseD (t := 40) rfl (fun q40 => ?_) (fun q40 => ?_)
     ·refine WpG.g tabOK 5 rfl ?_
      refine WpG.draw 13 [Chunk.imap mb (encm prv ss)] mixed (by kernel_rfl) ?_
      refine WpD.g (listed' := lst 13 391) tabOK [0, 1, 2, 7, 8] (by kernel_rfl) rfl ((((((hH2.trans hH3).trans hH4).trans hH5).trans hH6).trans hH8).trans hH9) (Hp.le.refl _) (.cons_cons _ .slnil) ?_
      refine WpD.indexR (i := 3) (fuel := 7) (listed' := lst 13 399) tabOK (by kernel_rfl) rfl rfl rfl rfl rfl rfl rfl rfl rfl ((((((hH2.trans hH3).trans hH4).trans hH5).trans hH6).trans hH8).trans hH9) (Hp.le.refl _) (.cons_cons _ .slnil) r9 (by omega) (by omega) ?_
      rintro x10 hx10 b10 o10 cs10 rd10 hc10
      have rd10' := rd10; obtain ⟨rfl, k10_0, k10_1, k10_2, k10_3, k10_4⟩ := rd10
      obtain rfl : x10 = (nth (defsR f) i) := hx10
      refine WpD.g (listed' := lst 13 415) tabOK [4] (by kernel_rfl) rfl ((((((hH2.trans hH3).trans hH4).trans hH5).trans hH6).trans hH8).trans hH9) (Hp.le.refl _) (.cons_cons _ .slnil) ?_
      refine WpD.y (i := 5) (fuel := 5) (listed' := lst 13 447) (by kernel_rfl) rfl rfl rfl rfl ((((((hH2.trans hH3).trans hH4).trans hH5).trans hH6).trans hH8).trans hH9) (Hp.le.refl _) (.cons_cons _ .slnil) (RunY.loadH tabOK (hc10.sub 0 1) (Hp.le.refl _) rfl rfl rfl rfl) ?_
      obtain ⟨X11, hX11⟩ : ∃ X, (mget ss ((nth (defsR f) i).v)).getD (0, 0) = X := ⟨_, rfl⟩
      refine WpD.y (i := 6) (fuel := 4) (listed' := lst 13 511) (by kernel_rfl) rfl rfl rfl rfl ((((((hH2.trans hH3).trans hH4).trans hH5).trans hH6).trans hH8).trans hH9) (Hp.le.refl _) (.cons_cons _ .slnil) (RunY.lookupT prv (0, 0) (ci := 0) tabOK rfl rfl rfl rfl rfl rfl rfl rfl rfl hX11 (ok := false)) ?_
      refine WpD.indexR (i := 9) (fuel := 3) (listed' := lst 13 1023) tabOK (by kernel_rfl) rfl rfl rfl rfl rfl rfl rfl rfl rfl ((((((hH2.trans hH3).trans hH4).trans hH5).trans hH6).trans hH8).trans hH9) (Hp.le.refl _) (.cons_cons _ .slnil) r9 (by omega) (by omega) ?_
      rintro x12 hx12 b12 o12 cs12 rd12 hc12
      have rd12' := rd12; obtain ⟨rfl, k12_0, k12_1, k12_2, k12_3, k12_4⟩ := rd12
      obtain rfl : x12 = (nth (defsR f) i) := hx12
      refine WpD.g (listed' := lst 13 2047) tabOK [10] (by kernel_rfl) rfl ((((((hH2.trans hH3).trans hH4).trans hH5).trans hH6).trans hH8).trans hH9) (Hp.le.refl _) (.cons_cons _ .slnil) ?_
      refine WpD.y (i := 11) (fuel := 1) (listed' := lst 13 4095) (by kernel_rfl) rfl rfl rfl rfl ((((((hH2.trans hH3).trans hH4).trans hH5).trans hH6).trans hH8).trans hH9) (Hp.le.refl _) (.cons_cons _ .slnil) (RunY.loadH tabOK (hc12.sub 3 2) (Hp.le.refl _) rfl rfl rfl rfl) ?_
      refine WpD.y (i := 12) (fuel := 0) (listed' := lst 13 8191) (by kernel_rfl) rfl rfl rfl rfl ((((((hH2.trans hH3).trans hH4).trans hH5).trans hH6).trans hH8).trans hH9) (Hp.le.refl _) (.cons_cons _ .slnil) (RunY.nePair tabOK rfl rfl rfl rfl rfl rfl rfl (by kernel_rfl)) ?_
      refine WpD.done (by kernel_rfl) ?_
      refine WpG.caseBn (t := 55) rfl (fun q55 => ?_) (fun q55 => ?_)
      ·refine WpG.g tabOK 5 rfl ?_
       exact WpG.ret tabOK (L' := []) (.tmp rfl .nil) (.cons _ .slnil) (by have hx := hX11.symm.trans (shape_at hsm hdf i0 q40); subst hx; simp at q55)
      ·refine WpG.gw tabOK 6 42 rfl (wrk (x := i + 1) (by omega) (by omega)) ?_
       refine WpG.g tabOK 3 rfl ?_
       refine WpG.wk (ih1 (i + 1) ?_ ?_) rfl
       ·dsimp only
        omega
       ·
        clear ih1
        exact ⟨by omega, by omega⟩
     ·refine WpG.g tabOK 5 rfl ?_
      refine WpG.y rfl rfl rfl rfl (RunY.lenMapT (ci := 0) tabOK rfl rfl rfl rfl) ?_
      refine WpG.g tabOK 5 rfl ?_
      exact WpG.ret tabOK (L' := []) (.tmp rfl .nil) (.cons _ .slnil) ⟨congrArg Value.bool (by have z := shape_len hsm hdf; simp [z]), rfl⟩
end Go.Proofs.YtdjemlkllbhdlaaGreat
namespace Go.Proofs.YtdjemlkllbhdlaaGreat
open Go Go.RowKit Go.ChangeShapes Go.WideShapes Go.ChangeAt
set_option maxRecDepth 100000 in
theorem checkAll_lifted (os : Os) (started : os.Started) (HH : Type) (enc : TypeId × Value → HH) :
    ReturnsInHanded {} Tryz.checked os 3 .any (Rows.checkAllSpec.pre6 enc Tryz.prog Tryz.f3 Rows.checkAllRow.domain false) (Rows.checkAllSpec.post enc Tryz.prog Tryz.f3 false true false false) := by
  refine returnsInHanded_of_change_sized (C := Tryz.checked) own started (by kernel_rfl) Tryz.func3
    (ChangeSpec.witness6 (enc := enc) (C := Tryz.checked) false ⟨#[], #[.agg #[.slice none 0 0, .int .i64 0, .slice none 0 0], .int .i64 0], []⟩ 8 (by kernel_rfl) (by kernel_rfl) (by kernel_rfl) (by kernel_rfl)) ?_
  intro W base args ds gs before hval0 hW _ hsz _
  have hW' := hW
  obtain ⟨p, q, hA0, hV, rfl, _, _⟩ := hW
  have hval : ∀ (j : Nat) t v, Tryz.f3.params[j]? = some t → args[j]? = some v → Value.okWide Tryz.prog W .any base t v := hval0
  have hA : DataW.TrodAll enc Tryz.prog W 0 (fun _ => true) true Tryz.f3.params.toList args.toList ds p := hA0
  rw [Tryz.params3] at hA hval
  obtain ⟨v0, v1, d0, d1, p0, p1, rfl, rfl, rfl, h0, h1⟩ := trodAll_two hA
  obtain ⟨rfl, rfl⟩ := trodVars_none hV
  obtain ⟨cs, rfl, _⟩ := okWide_agg Tryz.underlying25 (hval 0 25 v0 rfl rfl)
  obtain ⟨fuel, hf⟩ := h0
  have hw : ∀ n ∈ DataW.weights Tryz.prog 25 d0, n ≤ reachBytes := weights_one hsz
  obtain ⟨f, A0, c0, A2, c2, hcs, u0, r0, u2, r2, k0⟩ := dFunc HH enc fuel _ _ hf hw
  have hcs' : cs = #[.slice A0 f.params.length c0, .int .i64 f.ret, .slice A2 f.blocks.length c2] := by
    have : cs.toList = _ := hcs
    exact Array.toList_inj.1 this
  subst hcs'
  obtain ⟨a1, rfl, rfl, rfl, wa1⟩ := open_int Tryz.underlying3 (hval 1 3 v1 rfl rfl) h1
  refine (law_calls (CheckAll_calls u0 r0 u2 r2 k0 a1)).mono fun e W' ⟨he, hb⟩ => ?_
  exact ⟨_, he, post_true hW' rfl laidOut (by kernel_rfl) Tryz.underlying4 rfl rfl hb⟩
theorem checkAll : Rows.CheckAllSaid :=
  OpenClaim.holds_of_wide 3 Tryz.f3 rfl rfl rfl rfl rfl rfl rfl ⟨rfl, rfl, rfl, rfl, rfl⟩ rfl rfl rfl rfl rfl (by kernel_rfl) Tryz.func3 (by kernel_rfl)
    (of_decide_eq_true (by kernel_rfl)) (by unfold Func.isWrapper; first | (rw [if_pos (by decide +kernel)]; kernel_rfl) | (rw [if_neg (by decide +kernel)]; exact ⟨rfl, rfl⟩))
    (fun os started HH enc _ => checkAll_lifted os started HH enc)
end Go.Proofs.YtdjemlkllbhdlaaGreat

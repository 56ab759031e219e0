/- A hammock that can be merged is one, and costs as many as its blocks between have; what is none costs nothing, and can't be merged: 'HammockCosts' answers true at every input. No conditions. -/
import Derived.Test.YtakameggkkjcpaaGreatCK5
import Derived.Test.YtakameggkkjcpaaGreatRows
set_option linter.unusedVariables false
set_option linter.unusedSimpArgs false
set_option maxRecDepth 4000
namespace Go.Proofs.YtakameggkkjcpaaGreat
open Go Go.RowKit
theorem diamond_calls {H : Hp} : CallG Tryz.prog 25 [] H [] (fun v H' L' => ∃ A0 c0 A2 c2, v = .agg #[.slice A0 fDm.params.length c0, .int .i64 fDm.ret, .slice A2 fDm.blocks.length c2] ∧ fDm.params.length ≤ c0 ∧ RdS H' A0 fDm.params ∧ fDm.blocks.length ≤ c2 ∧ RdS H' A2 fDm.blocks ∧ L' = []) := by
 refine CallG.of Tryz.func25 rfl rfl rfl fun w0 => ?_
 refine WpG.g tabOK 2 rfl ?_
 refine WpG.alloc tabOK rfl rfl rfl rfl rfl (fun b1 => ?_)
 refine WpG.g tabOK 3 rfl ?_
 refine WpG.buildSlice (xs := [.int .i64 1]) tabOK rfl rfl rfl rfl rfl rfl rfl rfl rfl rfl (fun b2 => ?_)
 refine WpG.ownCap (ci := 0) rfl (fun uz4 => ?_)
 refine WpG.freezeOwn (ci := 0) rfl (fun H4 hH4 fz4 => ?_)
 have rz4 : RdS H4 (some ⟨b2, 0, none⟩) ([1] : List Int) := RdS.of_own (H := H) (show RdL H [.int .i64 1] ([1] : List Int) from ⟨_, _, rfl, ⟨rfl, ⟨by decide, by decide⟩⟩, rfl⟩) (rfl) (by decide) hH4 fz4
 refine WpG.buildSlice (xs := [.int .i64 1, .int .i64 2]) tabOK rfl rfl rfl rfl rfl rfl rfl rfl rfl rfl (fun b5 => ?_)
 refine WpG.ownCap (ci := 0) rfl (fun uz7 => ?_)
 refine WpG.freezeOwn (ci := 0) rfl (fun H7 hH7 fz7 => ?_)
 have rz7 : RdS H7 (some ⟨b5, 0, none⟩) ([1, 2] : List Int) := RdS.of_own (H := H4) (show RdL H4 [.int .i64 1, .int .i64 2] ([1, 2] : List Int) from ⟨_, _, rfl, ⟨rfl, ⟨by decide, by decide⟩⟩, ⟨_, _, rfl, ⟨rfl, ⟨by decide, by decide⟩⟩, rfl⟩⟩) (rfl) (by decide) hH7 fz7
 refine WpG.g tabOK 2 rfl ?_
 refine WpG.buildSlice (xs := [.int .i64 1, .int .i64 1]) tabOK rfl rfl rfl rfl rfl rfl rfl rfl rfl rfl (fun b8 => ?_)
 refine WpG.ownCap (ci := 0) rfl (fun uz10 => ?_)
 refine WpG.freezeOwn (ci := 0) rfl (fun H10 hH10 fz10 => ?_)
 have rz10 : RdS H10 (some ⟨b8, 0, none⟩) ([1, 1] : List Int) := RdS.of_own (H := H7) (show RdL H7 [.int .i64 1, .int .i64 1] ([1, 1] : List Int) from ⟨_, _, rfl, ⟨rfl, ⟨by decide, by decide⟩⟩, ⟨_, _, rfl, ⟨rfl, ⟨by decide, by decide⟩⟩, rfl⟩⟩) (rfl) (by decide) hH10 fz10
 refine WpG.g tabOK 1 rfl ?_
 refine WpG.buildSlice (xs := [.int .i64 7, .int .i64 1, .int .i64 1, .int .i64 2, .slice (some ⟨b8, 0, none⟩) 2 2, .int .u64 0]) tabOK rfl rfl rfl rfl rfl rfl rfl rfl rfl rfl (fun b11 => ?_)
 refine WpG.ownCap (ci := 0) rfl (fun uz13 => ?_)
 refine WpG.freezeOwn (ci := 0) rfl (fun H13 hH13 fz13 => ?_)
 have rz13 : RdS H13 (some ⟨b11, 0, none⟩) ([⟨7, 1, 1, 2, [1, 1], 0⟩] : List OpD) := RdS.of_own (H := H10) (show RdL H10 [.int .i64 7, .int .i64 1, .int .i64 1, .int .i64 2, .slice (some ⟨b8, 0, none⟩) 2 2, .int .u64 0] ([⟨7, 1, 1, 2, [1, 1], 0⟩] : List OpD) from ⟨_, _, rfl, ⟨_, _, rfl, by decide, rz10, ⟨by decide, by decide⟩, ⟨by decide, by decide⟩, ⟨by decide, by decide⟩, ⟨by decide, by decide⟩, ⟨by decide, by decide⟩⟩, rfl⟩) (rfl) (by decide) hH13 fz13
 refine WpG.buildSlice (xs := [.int .i64 3]) tabOK rfl rfl rfl rfl rfl rfl rfl rfl rfl rfl (fun b14 => ?_)
 refine WpG.ownCap (ci := 0) rfl (fun uz16 => ?_)
 refine WpG.freezeOwn (ci := 0) rfl (fun H16 hH16 fz16 => ?_)
 have rz16 : RdS H16 (some ⟨b14, 0, none⟩) ([3] : List Int) := RdS.of_own (H := H13) (show RdL H13 [.int .i64 3] ([3] : List Int) from ⟨_, _, rfl, ⟨rfl, ⟨by decide, by decide⟩⟩, rfl⟩) (rfl) (by decide) hH16 fz16
 refine WpG.g tabOK 2 rfl ?_
 refine WpG.buildSlice (xs := [.int .i64 3]) tabOK rfl rfl rfl rfl rfl rfl rfl rfl rfl rfl (fun b17 => ?_)
 refine WpG.ownCap (ci := 0) rfl (fun uz19 => ?_)
 refine WpG.freezeOwn (ci := 0) rfl (fun H19 hH19 fz19 => ?_)
 have rz19 : RdS H19 (some ⟨b17, 0, none⟩) ([3] : List Int) := RdS.of_own (H := H16) (show RdL H16 [.int .i64 3] ([3] : List Int) from ⟨_, _, rfl, ⟨rfl, ⟨by decide, by decide⟩⟩, rfl⟩) (rfl) (by decide) hH19 fz19
 refine WpG.g tabOK 4 rfl ?_
 refine WpG.buildSlice (xs := [.slice none 0 0, .slice none 0 0, .int .i64 2, .int .i64 1, .slice (some ⟨b5, 0, none⟩) 2 2, .slice none 0 0, .slice (some ⟨b11, 0, none⟩) 1 1, .int .i64 1, .int .i64 0, .slice (some ⟨b14, 0, none⟩) 1 1, .slice none 0 0, .slice none 0 0, .int .i64 1, .int .i64 0, .slice (some ⟨b17, 0, none⟩) 1 1, .slice none 0 0, .slice none 0 0, .int .i64 0, .int .i64 1, .slice none 0 0]) tabOK rfl rfl rfl rfl rfl rfl rfl rfl rfl rfl (fun b20 => ?_)
 refine WpG.ownCap (ci := 0) rfl (fun uz22 => ?_)
 refine WpG.freezeOwn (ci := 0) rfl (fun H22 hH22 fz22 => ?_)
 have rz22 : RdS H22 (some ⟨b20, 0, none⟩) fDm.blocks := RdS.of_own (H := H19) (show RdL H19 [.slice none 0 0, .slice none 0 0, .int .i64 2, .int .i64 1, .slice (some ⟨b5, 0, none⟩) 2 2, .slice none 0 0, .slice (some ⟨b11, 0, none⟩) 1 1, .int .i64 1, .int .i64 0, .slice (some ⟨b14, 0, none⟩) 1 1, .slice none 0 0, .slice none 0 0, .int .i64 1, .int .i64 0, .slice (some ⟨b17, 0, none⟩) 1 1, .slice none 0 0, .slice none 0 0, .int .i64 0, .int .i64 1, .slice none 0 0] fDm.blocks from ⟨_, _, rfl, ⟨_, _, _, _, _, _, rfl, by decide, RdS.nil _ _, by decide, RdS.nil _ _, by decide, (rz7.mono (((hH10.trans hH13).trans hH16).trans hH19)), ⟨by decide, by decide⟩, ⟨by decide, by decide⟩⟩, ⟨_, _, rfl, ⟨_, _, _, _, _, _, rfl, by decide, RdS.nil _ _, by decide, (rz13.mono (hH16.trans hH19)), by decide, (rz16.mono hH19), ⟨by decide, by decide⟩, ⟨by decide, by decide⟩⟩, ⟨_, _, rfl, ⟨_, _, _, _, _, _, rfl, by decide, RdS.nil _ _, by decide, RdS.nil _ _, by decide, rz19, ⟨by decide, by decide⟩, ⟨by decide, by decide⟩⟩, ⟨_, _, rfl, ⟨_, _, _, _, _, _, rfl, by decide, RdS.nil _ _, by decide, RdS.nil _ _, by decide, RdS.nil _ _, ⟨by decide, by decide⟩, ⟨by decide, by decide⟩⟩, rfl⟩⟩⟩⟩) (rfl) (by decide) hH22 fz22
 refine WpG.g tabOK 1 rfl ?_
 refine WpG.storeBox (ci := 0) (cs' := [.slice (some ⟨b2, 0, none⟩) 1 1, .int .i64 1, .slice (some ⟨b20, 0, none⟩) 4 4]) tabOK rfl rfl rfl rfl rfl rfl rfl rfl rfl ?_
 refine WpG.g tabOK 1 rfl ?_
 exact WpG.ret tabOK (L' := []) (.cell (ci := 0) rfl rfl rfl rfl .nil) (.cons _ .slnil) ⟨_, _, _, _, rfl, by decide, (rz4.mono (((((hH7.trans hH10).trans hH13).trans hH16).trans hH19).trans hH22)), by decide, rz22, rfl⟩
theorem awake14_calls {H : Hp} : CallG Tryz.prog 8 [] H [] (fun v _ L' => v = .bool (true) ∧ L' = []) := by
 refine CallG.of Tryz.func8 rfl rfl rfl fun w0 => ?_
 refine WpG.g tabOK 6 rfl ?_
 refine WpG.call0 rfl rfl rfl rfl rfl rfl (diamond_calls) ?_
 rintro _ H1 _ hH1 ⟨A_f_0, c_f_0, A_f_2, c_f_2, rfl, u_f_0, r_f_0, u_f_2, r_f_2, rfl⟩
 refine WpG.alloc tabOK rfl rfl rfl rfl rfl (fun b2 => ?_)
 refine WpG.storeBox (ci := 0) (cs' := [.slice A_f_0 fDm.params.length c_f_0, .int .i64 fDm.ret, .slice A_f_2 fDm.blocks.length c_f_2]) tabOK rfl rfl rfl rfl rfl rfl rfl rfl rfl ?_
 refine WpG.freezeBox (ci := 0) rfl (fun H3 hH3 hc3 => ?_)
 refine WpG.g tabOK 3 rfl ?_
 refine WpG.y rfl rfl rfl rfl (RunY.loadH tabOK hc3 hlr rfl rfl rfl rfl) ?_
 refine WpG.call0 rfl rfl rfl rfl rfl rfl ((by have z := HFind_calls (f := fDm) (Rdc.mono hH3 ⟨_, _, _, _, rfl, u_f_0, r_f_0, u_f_2, r_f_2, (show I64 1 from ⟨by decide, by decide⟩)⟩) 0 ⟨by decide, by decide⟩; rw [dm_find0] at z; exact z)) ?_
 rintro _ H4 _ hH4 ⟨rfl, hT, rfl⟩
 refine WpG.g tabOK 3 rfl ?_
 refine WpG.alloc tabOK rfl rfl rfl rfl rfl (fun b5 => ?_)
 refine WpG.storeBox (ci := 0) (cs' := [.int .i64 0, .int .i64 1, .int .i64 2, .int .i64 3]) tabOK rfl rfl rfl rfl rfl rfl rfl rfl rfl ?_
 refine WpG.g tabOK 4 rfl ?_
 refine WpG.y rfl rfl rfl rfl (RunY.loadH tabOK hc3 hH4 rfl rfl rfl rfl) ?_
 refine WpG.call0 rfl rfl rfl rfl rfl rfl ((by have z := HFind_calls (f := fDm) (Rdc.mono (hH3.trans hH4) ⟨_, _, _, _, rfl, u_f_0, r_f_0, u_f_2, r_f_2, (show I64 1 from ⟨by decide, by decide⟩)⟩) 1 ⟨by decide, by decide⟩; rw [dm_find1] at z; exact z)) ?_
 rintro _ H6 _ hH6 ⟨rfl, hT, rfl⟩
 refine WpG.g tabOK 3 rfl ?_
 refine WpG.alloc tabOK rfl rfl rfl rfl rfl (fun b7 => ?_)
 refine WpG.storeBox (ci := 0) (cs' := [.int .i64 0, .int .i64 0, .int .i64 0, .int .i64 0]) tabOK rfl rfl rfl rfl rfl rfl rfl rfl rfl ?_
 refine WpG.g tabOK 6 rfl ?_
 refine WpG.y rfl rfl rfl rfl (RunY.loadBox (ci := 1) tabOK rfl rfl rfl rfl) ?_
 refine WpG.g tabOK 1 rfl ?_
 refine WpG.y rfl rfl rfl rfl (RunY.eqQuad (e := 3) tabOK rfl rfl rfl rfl rfl Tryz.underlying26 (by kernel_rfl) (by kernel_rfl) (by kernel_rfl)) ?_
 refine WpG.g tabOK 2 rfl ?_
 refine WpG.caseB (t := 23) rfl (fun q23 => ?_) (fun q23 => ?_)
 ·refine WpG.g tabOK 4 rfl ?_
  refine WpG.y rfl rfl rfl rfl (RunY.loadH tabOK hc3 (hH4.trans hH6) rfl rfl rfl rfl) ?_
  refine WpG.y rfl rfl rfl rfl (RunY.loadBox (ci := 1) tabOK rfl rfl rfl rfl) ?_
  refine WpG.call0 rfl rfl rfl rfl rfl rfl ((by have z := HCost_calls (f := fDm) (Rdc.mono ((hH3.trans hH4).trans hH6) ⟨_, _, _, _, rfl, u_f_0, r_f_0, u_f_2, r_f_2, (show I64 1 from ⟨by decide, by decide⟩)⟩) ⟨0, 1, 2, 3⟩ (show IH ⟨0, 1, 2, 3⟩ from ⟨⟨by decide, by decide⟩, ⟨by decide, by decide⟩, ⟨by decide, by decide⟩, by decide, by decide⟩); rw [dm_cost] at z; exact z)) ?_
  rintro _ H8 _ hH8 ⟨rfl, hT, rfl⟩
  refine WpG.g tabOK 3 rfl ?_
  refine WpG.y rfl rfl rfl rfl (RunY.loadH tabOK hc3 ((hH4.trans hH6).trans hH8) rfl rfl rfl rfl) ?_
  refine WpG.y rfl rfl rfl rfl (RunY.loadBox (ci := 1) tabOK rfl rfl rfl rfl) ?_
  refine WpG.call0 rfl rfl rfl rfl rfl rfl ((by have z := HMerges_calls (f := fDm) (Rdc.mono (((hH3.trans hH4).trans hH6).trans hH8) ⟨_, _, _, _, rfl, u_f_0, r_f_0, u_f_2, r_f_2, (show I64 1 from ⟨by decide, by decide⟩)⟩) ⟨0, 1, 2, 3⟩ (show IH ⟨0, 1, 2, 3⟩ from ⟨⟨by decide, by decide⟩, ⟨by decide, by decide⟩, ⟨by decide, by decide⟩, by decide, by decide⟩); rw [dm_merges] at z; exact z)) ?_
  rintro _ H9 _ hH9 ⟨rfl, hT, rfl⟩
  refine WpG.g tabOK 2 rfl ?_
  refine WpG.y rfl rfl rfl rfl (RunY.loadH tabOK hc3 (((hH4.trans hH6).trans hH8).trans hH9) rfl rfl rfl rfl) ?_
  refine WpG.call0 rfl rfl rfl rfl rfl rfl ((by have z := HAll_calls (f := fDm) (Rdc.mono ((((hH3.trans hH4).trans hH6).trans hH8).trans hH9) ⟨_, _, _, _, rfl, u_f_0, r_f_0, u_f_2, r_f_2, (show I64 1 from ⟨by decide, by decide⟩)⟩); rw [dm_all] at z; exact z)) ?_
  rintro _ H10 _ hH10 ⟨hT, A10, c10, rfl, u10, r10, rfl⟩
  refine WpG.g tabOK 4 rfl ?_
  refine WpG.y rfl rfl rfl rfl (RunY.loadH tabOK hc3 ((((hH4.trans hH6).trans hH8).trans hH9).trans hH10) rfl rfl rfl rfl) ?_
  refine WpG.y rfl rfl rfl rfl (RunY.loadBox (ci := 1) tabOK rfl rfl rfl rfl) ?_
  refine WpG.call0 rfl rfl rfl rfl rfl rfl ((by have z := HIs_calls (f := fDm) (Rdc.mono (((((hH3.trans hH4).trans hH6).trans hH8).trans hH9).trans hH10) ⟨_, _, _, _, rfl, u_f_0, r_f_0, u_f_2, r_f_2, (show I64 1 from ⟨by decide, by decide⟩)⟩) ⟨0, 1, 2, 3⟩ (show I64 0 from ⟨by decide, by decide⟩); rw [dm_is] at z; exact z)) ?_
  rintro _ H11 _ hH11 ⟨rfl, hT, rfl⟩
  refine WpG.g tabOK 2 rfl ?_
  refine WpG.y rfl rfl rfl rfl (RunY.loadH tabOK hc3 (((((hH4.trans hH6).trans hH8).trans hH9).trans hH10).trans hH11) rfl rfl rfl rfl) ?_
  refine WpG.g tabOK 1 rfl ?_
  refine WpG.call0 rfl rfl rfl rfl rfl rfl ((by have z := HIs_calls (f := fDm) (Rdc.mono ((((((hH3.trans hH4).trans hH6).trans hH8).trans hH9).trans hH10).trans hH11) ⟨_, _, _, _, rfl, u_f_0, r_f_0, u_f_2, r_f_2, (show I64 1 from ⟨by decide, by decide⟩)⟩) ⟨0, 0, 0, 0⟩ (show I64 0 from ⟨by decide, by decide⟩); rw [dm_is0] at z; exact z)) ?_
  rintro _ H12 _ hH12 ⟨rfl, hT, rfl⟩
  refine WpG.g tabOK 4 rfl ?_
  exact WpG.ret tabOK (L' := []) (.tmp rfl .nil) (.cons _ (.cons _ .slnil)) ⟨rfl, rfl⟩
 exact absurd q23 (by decide)
end Go.Proofs.YtakameggkkjcpaaGreat
set_option maxRecDepth 4000
namespace Go.Proofs.YtakameggkkjcpaaGreat
open Go Go.RowKit
set_option maxHeartbeats 2000000 in
theorem HammockCosts_calls {H : Hp} {f : FuncD} {A_f_0 A_f_2 : Option Addr} {c_f_0 c_f_2 : Nat} (u_f_0 : f.params.length ≤ c_f_0) (r_f_0 : RdS H A_f_0 f.params) (u_f_2 : f.blocks.length ≤ c_f_2) (r_f_2 : RdS H A_f_2 f.blocks) (k_f_0 : I64 f.ret) (h : HamD) (hi : IH h) : CallG Tryz.prog 5 [.agg #[.slice A_f_0 f.params.length c_f_0, .int .i64 f.ret, .slice A_f_2 f.blocks.length c_f_2], hamV h] H [] (fun v _ L' => v = .bool (true) ∧ L' = []) := by
 have rd_f' : Rdc.rd H [.slice A_f_0 f.params.length c_f_0, .int .i64 f.ret, .slice A_f_2 f.blocks.length c_f_2] f := ⟨_, _, _, _, rfl, u_f_0, r_f_0, u_f_2, r_f_2, k_f_0⟩
 have bs := r_f_2.1; have bsp := r_f_0.1
 refine CallG.of Tryz.func5 rfl rfl rfl fun w0 => ?_
 refine WpG.g tabOK 2 rfl ?_
 refine WpG.box rfl rfl rfl rfl rfl (fun b1 => ?_)
 refine WpG.freezeBox (ci := 0) rfl (fun H2 hH2 hc2 => ?_)
 refine WpG.box rfl rfl rfl rfl rfl (fun b3 => ?_)
 refine WpG.freezeBox (ci := 0) rfl (fun H4 hH4 hc4 => ?_)
 refine WpG.g tabOK 5 rfl ?_
 refine WpG.callS rfl rfl rfl rfl rfl rfl hlr (awake14_calls) ?_
 refine WpG.g tabOK 7 rfl ?_
 refine WpG.y rfl rfl rfl rfl (RunY.loadH tabOK hc2 hH4 rfl rfl rfl rfl) ?_
 refine WpG.call0 rfl rfl rfl rfl rfl rfl (Small_calls u_f_0 (r_f_0.mono (hH2.trans hH4)) u_f_2 (r_f_2.mono (hH2.trans hH4)) k_f_0) ?_
 rintro _ H5 _ hH5 ⟨bs5, rfl, hs5, rfl⟩
 refine WpG.g tabOK 2 rfl ?_
 refine WpG.caseBn (t := 14) rfl (fun q14 => ?_) (fun q14 => ?_)
 ·refine WpG.g tabOK 5 rfl ?_
  exact WpG.ret tabOK (L' := []) (.tmp rfl .nil) .slnil ⟨rfl, rfl⟩
 refine WpG.g tabOK 4 rfl ?_
 refine WpG.y rfl rfl rfl rfl (RunY.loadH tabOK hc2 (hH4.trans hH5) rfl rfl rfl rfl) ?_
 refine WpG.y rfl rfl rfl rfl (RunY.loadH tabOK hc4 hH5 rfl rfl rfl rfl) ?_
 refine WpG.call0 rfl rfl rfl rfl rfl rfl (HIs_calls (Rdc.mono ((hH2.trans hH4).trans hH5) rd_f') h (hi).1) ?_
 rintro _ H6 _ hH6 ⟨rfl, hT, rfl⟩
 refine WpG.g tabOK 8 rfl ?_
 apply WpG.join (G := [(2, .pointer (some ⟨b1, 0, none⟩)), (3, .pointer (some ⟨b3, 0, none⟩)), (5, .bool (isH f h)), (6, .int .i64 0), (23, .bool ((isH f h) && (decide (h.thn ≥ 0))))])
 ·intro nx7
  refine WpG.g tabOK 1 rfl ?_
  refine WpG.g tabOK 2 rfl ?_
  refine WpG.caseB (t := 19) rfl (fun q19 => ?_) (fun q19 => ?_)
  ·refine WpG.g tabOK 1 rfl ?_
   refine WpG.y rfl rfl rfl rfl (RunY.loadH tabOK (hc4.sub 1 1) (hH5.trans hH6) rfl rfl rfl rfl) ?_
   refine WpG.g tabOK 3 rfl ?_
   exact nx7.weak ⟨rfl, rfl, rfl, rfl, bq (by simp [q19]), trivial⟩
  refine WpG.g tabOK 5 rfl ?_
  exact nx7.weak ⟨rfl, rfl, rfl, rfl, bq (by simp [q19]), trivial⟩
 apply WpG.joinP (True) (G := [(2, .pointer (some ⟨b1, 0, none⟩)), (3, .pointer (some ⟨b3, 0, none⟩)), (5, .bool (isH f h)), (6, .int .i64 (sideA f h))])
 ·intro nx8
  refine WpG.caseB (t := 23) rfl (fun q23 => ?_) (fun q23 => ?_)
  ·have hsr := side_rng q23
   refine WpG.g tabOK 4 rfl ?_
   refine WpG.y rfl rfl rfl rfl (RunY.loadH tabOK (hc2.sub 2 1) ((hH4.trans hH5).trans hH6) rfl rfl rfl rfl) ?_
   refine WpG.g tabOK 1 rfl ?_
   refine WpG.y rfl rfl rfl rfl (RunY.loadH tabOK (hc4.sub 1 1) (hH5.trans hH6) rfl rfl rfl rfl) ?_
   refine WpG.indexR tabOK rfl rfl rfl rfl rfl rfl rfl rfl rfl r_f_2 (by omega) (by omega) ?_
   rintro x9 hx9 b9 o9 cs9 rd9 hc9
   have rd9' := rd9; obtain ⟨A9_0, c9_0, A9_1, c9_1, A9_4, c9_4, rfl, u9_0, r9_0, u9_1, r9_1, u9_4, r9_4, k9_0, k9_1⟩ := rd9
   have bz9_0 := r9_0.1
   have bz9_1 := r9_1.1
   have bz9_4 := r9_4.1
   obtain rfl : x9 = (nth f.blocks h.thn) := hx9
   refine WpG.g tabOK 1 rfl ?_
   refine WpG.y rfl rfl rfl rfl (RunY.loadH tabOK (hc9.sub 1 1) (((hH2.trans hH4).trans hH5).trans hH6) rfl rfl rfl rfl) ?_
   refine WpG.gw tabOK 2 33 rfl (wrk (x := 0 + ((nth f.blocks h.thn).ops.length : Int)) (by omega) (by omega)) ?_
   refine WpG.g tabOK 2 rfl ?_
   exact (nx8 (trivial)).weak ⟨rfl, rfl, rfl, (congrArg (fun x => some (Value.int .i64 x)) (sideA_yes q23)), trivial⟩
  refine WpG.g tabOK 2 rfl ?_
  exact (nx8 (trivial)).weak ⟨rfl, rfl, rfl, (congrArg (fun x => some (Value.int .i64 x)) (sideA_no q23)), trivial⟩
 intro _
 refine WpG.g tabOK 2 rfl ?_
 apply WpG.join (G := [(2, .pointer (some ⟨b1, 0, none⟩)), (3, .pointer (some ⟨b3, 0, none⟩)), (5, .bool (isH f h)), (6, .int .i64 (sideA f h)), (39, .bool ((isH f h) && (decide (h.els ≥ 0))))])
 ·intro nx10
  refine WpG.g tabOK 1 rfl ?_
  refine WpG.g tabOK 2 rfl ?_
  refine WpG.caseB (t := 35) rfl (fun q35 => ?_) (fun q35 => ?_)
  ·refine WpG.g tabOK 1 rfl ?_
   refine WpG.y rfl rfl rfl rfl (RunY.loadH tabOK (hc4.sub 2 1) (hH5.trans hH6) rfl rfl rfl rfl) ?_
   refine WpG.g tabOK 3 rfl ?_
   exact nx10.weak ⟨rfl, rfl, rfl, rfl, bq (by simp [q35]), trivial⟩
  refine WpG.g tabOK 5 rfl ?_
  exact nx10.weak ⟨rfl, rfl, rfl, rfl, bq (by simp [q35]), trivial⟩
 apply WpG.joinP (True) (G := [(2, .pointer (some ⟨b1, 0, none⟩)), (3, .pointer (some ⟨b3, 0, none⟩)), (5, .bool (isH f h)), (6, .int .i64 (costH f h))])
 ·intro nx11
  refine WpG.caseB (t := 39) rfl (fun q39 => ?_) (fun q39 => ?_)
  ·have hsr := side_rng2 q39; have hsa := sideA_rng (f := f) (h := h)
   refine WpG.g tabOK 4 rfl ?_
   refine WpG.y rfl rfl rfl rfl (RunY.loadH tabOK (hc2.sub 2 1) ((hH4.trans hH5).trans hH6) rfl rfl rfl rfl) ?_
   refine WpG.g tabOK 1 rfl ?_
   refine WpG.y rfl rfl rfl rfl (RunY.loadH tabOK (hc4.sub 2 1) (hH5.trans hH6) rfl rfl rfl rfl) ?_
   refine WpG.indexR tabOK rfl rfl rfl rfl rfl rfl rfl rfl rfl r_f_2 (by omega) (by omega) ?_
   rintro x12 hx12 b12 o12 cs12 rd12 hc12
   have rd12' := rd12; obtain ⟨A12_0, c12_0, A12_1, c12_1, A12_4, c12_4, rfl, u12_0, r12_0, u12_1, r12_1, u12_4, r12_4, k12_0, k12_1⟩ := rd12
   have bz12_0 := r12_0.1
   have bz12_1 := r12_1.1
   have bz12_4 := r12_4.1
   obtain rfl : x12 = (nth f.blocks h.els) := hx12
   refine WpG.g tabOK 1 rfl ?_
   refine WpG.y rfl rfl rfl rfl (RunY.loadH tabOK (hc12.sub 1 1) (((hH2.trans hH4).trans hH5).trans hH6) rfl rfl rfl rfl) ?_
   refine WpG.gw tabOK 2 49 rfl (wrk (x := (sideA f h) + ((nth f.blocks h.els).ops.length : Int)) (by omega) (by omega)) ?_
   refine WpG.g tabOK 2 rfl ?_
   exact (nx11 (trivial)).weak ⟨rfl, rfl, rfl, (congrArg (fun x => some (Value.int .i64 x)) (costH_yes q39)), trivial⟩
  refine WpG.g tabOK 2 rfl ?_
  exact (nx11 (trivial)).weak ⟨rfl, rfl, rfl, (congrArg (fun x => some (Value.int .i64 x)) (costH_no q39)), trivial⟩
 intro _
 refine WpG.g tabOK 3 rfl ?_
 refine WpG.y rfl rfl rfl rfl (RunY.loadH tabOK hc2 ((hH4.trans hH5).trans hH6) rfl rfl rfl rfl) ?_
 refine WpG.y rfl rfl rfl rfl (RunY.loadH tabOK hc4 (hH5.trans hH6) rfl rfl rfl rfl) ?_
 refine WpG.call0 rfl rfl rfl rfl rfl rfl (HMerges_calls (Rdc.mono (((hH2.trans hH4).trans hH5).trans hH6) rd_f') h (hi)) ?_
 rintro _ H13 _ hH13 ⟨rfl, hT, rfl⟩
 refine WpG.g tabOK 1 rfl ?_
 refine WpG.caseB (t := 53) rfl (fun q53 => ?_) (fun q53 => ?_)
 ·refine WpG.g tabOK 4 rfl ?_
  refine WpG.caseBn (t := 57) rfl (fun q57 => ?_) (fun q57 => ?_)
  ·exact absurd ((merges_is q53).symm.trans q57) (by decide)
  refine WpG.y rfl rfl rfl rfl (RunY.loadH tabOK hc2 (((hH4.trans hH5).trans hH6).trans hH13) rfl rfl rfl rfl) ?_
  refine WpG.y rfl rfl rfl rfl (RunY.loadH tabOK hc4 ((hH5.trans hH6).trans hH13) rfl rfl rfl rfl) ?_
  refine WpG.call0 rfl rfl rfl rfl rfl rfl (HCost_calls (Rdc.mono ((((hH2.trans hH4).trans hH5).trans hH6).trans hH13) rd_f') h (hi)) ?_
  rintro _ H14 _ hH14 ⟨rfl, hT, rfl⟩
  refine WpG.g tabOK 4 rfl ?_
  refine WpG.caseN (t := 63) rfl (fun q63 => ?_) (fun q63 => ?_)
  ·exact absurd rfl q63
  refine WpG.g tabOK 4 rfl ?_
  refine WpG.y rfl rfl rfl rfl (RunY.loadH tabOK hc2 ((((hH4.trans hH5).trans hH6).trans hH13).trans hH14) rfl rfl rfl rfl) ?_
  refine WpG.call0 rfl rfl rfl rfl rfl rfl (Of_calls (Rdc.mono (((((hH2.trans hH4).trans hH5).trans hH6).trans hH13).trans hH14) rd_f')) ?_
  rintro _ H15 _ hH15 ⟨A15, c15, B15, d15, rfl, ua15, ra15, ub15, rb15, rfl⟩
  refine WpG.g tabOK 3 rfl ?_
  refine WpG.alloc tabOK rfl rfl rfl rfl rfl (fun b16 => ?_)
  refine WpG.storeBox (ci := 0) (cs' := [.slice A15 ((ofD f).1.succ.length) c15, .slice B15 ((ofD f).1.pred.length) d15]) tabOK rfl rfl rfl rfl rfl rfl rfl rfl rfl ?_
  refine WpG.freezeBox (ci := 0) rfl (fun H17 hH17 hc17 => ?_)
  refine WpG.g tabOK 4 rfl ?_
  refine WpG.y rfl rfl rfl rfl (RunY.loadH tabOK hc2 ((((((hH4.trans hH5).trans hH6).trans hH13).trans hH14).trans hH15).trans hH17) rfl rfl rfl rfl) ?_
  refine WpG.call0 rfl rfl rfl rfl rfl rfl (rCheck_calls (Rdc.mono (((((((hH2.trans hH4).trans hH5).trans hH6).trans hH13).trans hH14).trans hH15).trans hH17) rd_f') 1) ?_
  rintro _ H18 _ hH18 ⟨eR, rfl, hr, rfl⟩
  refine WpG.g tabOK 8 rfl ?_
  refine WpG.caseBn (t := 74) rfl (fun q74 => ?_) (fun q74 => ?_)
  ·refine WpG.g tabOK 7 rfl ?_
   refine WpG.caseBn (t := 81) rfl (fun q81 => ?_) (fun q81 => ?_)
   ·refine WpG.g tabOK 9 rfl ?_
    exact WpG.ret tabOK (L' := []) (.tmp rfl .nil) .slnil ⟨rfl, rfl⟩
   refine WpG.y rfl rfl rfl rfl (RunY.loadH tabOK hc2 (((((((hH4.trans hH5).trans hH6).trans hH13).trans hH14).trans hH15).trans hH17).trans hH18) rfl rfl rfl rfl) ?_
   refine WpG.y rfl rfl rfl rfl (RunY.loadH tabOK hc4 ((((((hH5.trans hH6).trans hH13).trans hH14).trans hH15).trans hH17).trans hH18) rfl rfl rfl rfl) ?_
   refine WpG.call0 rfl rfl rfl rfl rfl rfl (HMerges_calls (Rdc.mono ((((((((hH2.trans hH4).trans hH5).trans hH6).trans hH13).trans hH14).trans hH15).trans hH17).trans hH18) rd_f') h (hi)) ?_
   rintro _ H19 _ hH19 ⟨rfl, hT, rfl⟩
   refine WpG.g tabOK 1 rfl ?_
   refine WpG.y rfl rfl rfl rfl (RunY.eqBool tabOK rfl rfl rfl rfl) ?_
   refine WpG.g tabOK 4 rfl ?_
   exact WpG.ret tabOK (L' := []) (.tmp rfl .nil) .slnil ⟨congrArg Value.bool (by rw [ref_plain hr hT (by simpa using q81)]; simp), rfl⟩
  refine WpG.g tabOK 4 rfl ?_
  refine WpG.caseE (t := 78) rfl (fun q78 => ?_) (fun q78 => ?_)
  ·refine WpG.g tabOK 3 rfl ?_
   refine WpG.caseBn (t := 81) rfl (fun q81 => ?_) (fun q81 => ?_)
   ·refine WpG.g tabOK 9 rfl ?_
    exact WpG.ret tabOK (L' := []) (.tmp rfl .nil) .slnil ⟨rfl, rfl⟩
   refine WpG.y rfl rfl rfl rfl (RunY.loadH tabOK hc2 (((((((hH4.trans hH5).trans hH6).trans hH13).trans hH14).trans hH15).trans hH17).trans hH18) rfl rfl rfl rfl) ?_
   refine WpG.y rfl rfl rfl rfl (RunY.loadH tabOK hc4 ((((((hH5.trans hH6).trans hH13).trans hH14).trans hH15).trans hH17).trans hH18) rfl rfl rfl rfl) ?_
   refine WpG.call0 rfl rfl rfl rfl rfl rfl (HMerges_calls (Rdc.mono ((((((((hH2.trans hH4).trans hH5).trans hH6).trans hH13).trans hH14).trans hH15).trans hH17).trans hH18) rd_f') h (hi)) ?_
   rintro _ H20 _ hH20 ⟨rfl, hT, rfl⟩
   refine WpG.g tabOK 1 rfl ?_
   refine WpG.y rfl rfl rfl rfl (RunY.eqBool tabOK rfl rfl rfl rfl) ?_
   refine WpG.g tabOK 4 rfl ?_
   exact WpG.ret tabOK (L' := []) (.tmp rfl .nil) .slnil ⟨congrArg Value.bool (by rw [ref_plain hr hT (by simpa using q81)]; simp), rfl⟩
  exact absurd (is_of q74) q78
 refine WpG.g tabOK 4 rfl ?_
 refine WpG.y rfl rfl rfl rfl (RunY.loadH tabOK hc2 (((hH4.trans hH5).trans hH6).trans hH13) rfl rfl rfl rfl) ?_
 refine WpG.y rfl rfl rfl rfl (RunY.loadH tabOK hc4 ((hH5.trans hH6).trans hH13) rfl rfl rfl rfl) ?_
 refine WpG.call0 rfl rfl rfl rfl rfl rfl (HCost_calls (Rdc.mono ((((hH2.trans hH4).trans hH5).trans hH6).trans hH13) rd_f') h (hi)) ?_
 rintro _ H21 _ hH21 ⟨rfl, hT, rfl⟩
 refine WpG.g tabOK 4 rfl ?_
 refine WpG.caseN (t := 63) rfl (fun q63 => ?_) (fun q63 => ?_)
 ·exact absurd rfl q63
 refine WpG.g tabOK 4 rfl ?_
 refine WpG.y rfl rfl rfl rfl (RunY.loadH tabOK hc2 ((((hH4.trans hH5).trans hH6).trans hH13).trans hH21) rfl rfl rfl rfl) ?_
 refine WpG.call0 rfl rfl rfl rfl rfl rfl (Of_calls (Rdc.mono (((((hH2.trans hH4).trans hH5).trans hH6).trans hH13).trans hH21) rd_f')) ?_
 rintro _ H22 _ hH22 ⟨A22, c22, B22, d22, rfl, ua22, ra22, ub22, rb22, rfl⟩
 refine WpG.g tabOK 3 rfl ?_
 refine WpG.alloc tabOK rfl rfl rfl rfl rfl (fun b23 => ?_)
 refine WpG.storeBox (ci := 0) (cs' := [.slice A22 ((ofD f).1.succ.length) c22, .slice B22 ((ofD f).1.pred.length) d22]) tabOK rfl rfl rfl rfl rfl rfl rfl rfl rfl ?_
 refine WpG.freezeBox (ci := 0) rfl (fun H24 hH24 hc24 => ?_)
 refine WpG.g tabOK 4 rfl ?_
 refine WpG.y rfl rfl rfl rfl (RunY.loadH tabOK hc2 ((((((hH4.trans hH5).trans hH6).trans hH13).trans hH21).trans hH22).trans hH24) rfl rfl rfl rfl) ?_
 refine WpG.call0 rfl rfl rfl rfl rfl rfl (rCheck_calls (Rdc.mono (((((((hH2.trans hH4).trans hH5).trans hH6).trans hH13).trans hH21).trans hH22).trans hH24) rd_f') 1) ?_
 rintro _ H25 _ hH25 ⟨eR, rfl, hr, rfl⟩
 refine WpG.g tabOK 8 rfl ?_
 refine WpG.caseBn (t := 74) rfl (fun q74 => ?_) (fun q74 => ?_)
 ·refine WpG.g tabOK 7 rfl ?_
  refine WpG.caseBn (t := 81) rfl (fun q81 => ?_) (fun q81 => ?_)
  ·refine WpG.g tabOK 9 rfl ?_
   exact WpG.ret tabOK (L' := []) (.tmp rfl .nil) .slnil ⟨rfl, rfl⟩
  refine WpG.y rfl rfl rfl rfl (RunY.loadH tabOK hc2 (((((((hH4.trans hH5).trans hH6).trans hH13).trans hH21).trans hH22).trans hH24).trans hH25) rfl rfl rfl rfl) ?_
  refine WpG.y rfl rfl rfl rfl (RunY.loadH tabOK hc4 ((((((hH5.trans hH6).trans hH13).trans hH21).trans hH22).trans hH24).trans hH25) rfl rfl rfl rfl) ?_
  refine WpG.call0 rfl rfl rfl rfl rfl rfl (HMerges_calls (Rdc.mono ((((((((hH2.trans hH4).trans hH5).trans hH6).trans hH13).trans hH21).trans hH22).trans hH24).trans hH25) rd_f') h (hi)) ?_
  rintro _ H26 _ hH26 ⟨rfl, hT, rfl⟩
  refine WpG.g tabOK 1 rfl ?_
  refine WpG.y rfl rfl rfl rfl (RunY.eqBool tabOK rfl rfl rfl rfl) ?_
  refine WpG.g tabOK 4 rfl ?_
  exact WpG.ret tabOK (L' := []) (.tmp rfl .nil) .slnil ⟨congrArg Value.bool (by rw [ref_plain hr hT (by simpa using q81)]; simp), rfl⟩
 refine WpG.g tabOK 4 rfl ?_
 refine WpG.caseE (t := 78) rfl (fun q78 => ?_) (fun q78 => ?_)
 ·refine WpG.g tabOK 3 rfl ?_
  refine WpG.caseBn (t := 81) rfl (fun q81 => ?_) (fun q81 => ?_)
  ·refine WpG.g tabOK 9 rfl ?_
   exact WpG.ret tabOK (L' := []) (.tmp rfl .nil) .slnil ⟨rfl, rfl⟩
  refine WpG.y rfl rfl rfl rfl (RunY.loadH tabOK hc2 (((((((hH4.trans hH5).trans hH6).trans hH13).trans hH21).trans hH22).trans hH24).trans hH25) rfl rfl rfl rfl) ?_
  refine WpG.y rfl rfl rfl rfl (RunY.loadH tabOK hc4 ((((((hH5.trans hH6).trans hH13).trans hH21).trans hH22).trans hH24).trans hH25) rfl rfl rfl rfl) ?_
  refine WpG.call0 rfl rfl rfl rfl rfl rfl (HMerges_calls (Rdc.mono ((((((((hH2.trans hH4).trans hH5).trans hH6).trans hH13).trans hH21).trans hH22).trans hH24).trans hH25) rd_f') h (hi)) ?_
  rintro _ H27 _ hH27 ⟨rfl, hT, rfl⟩
  refine WpG.g tabOK 1 rfl ?_
  refine WpG.y rfl rfl rfl rfl (RunY.eqBool tabOK rfl rfl rfl rfl) ?_
  refine WpG.g tabOK 4 rfl ?_
  exact WpG.ret tabOK (L' := []) (.tmp rfl .nil) .slnil ⟨congrArg Value.bool (by rw [ref_plain hr hT (by simpa using q81)]; simp), rfl⟩
 exact absurd (is_of q74) q78
end Go.Proofs.YtakameggkkjcpaaGreat
namespace Go.Proofs.YtakameggkkjcpaaGreat
open Go Go.RowKit Go.ChangeShapes Go.WideShapes Go.ChangeAt
set_option maxRecDepth 100000 in
theorem hammockCosts_lifted (os : Os) (started : os.Started) (HH : Type) (enc : TypeId × Value → HH) :
    ReturnsInHanded {} Tryz.checked os 5 .any (Rows.hammockCostsSpec.pre6 enc Tryz.prog Tryz.f5 Rows.hammockCostsRow.domain false) (Rows.hammockCostsSpec.post enc Tryz.prog Tryz.f5 false true false false) := by
  refine returnsInHanded_of_change_sized (C := Tryz.checked) own started (by kernel_rfl) Tryz.func5
    (ChangeSpec.witness6 (enc := enc) (C := Tryz.checked) false ⟨#[], #[.agg #[.slice none 0 0, .int .i64 0, .slice none 0 0], .agg #[.int .i64 0, .int .i64 0, .int .i64 0, .int .i64 0]], []⟩ 8 (by kernel_rfl) (by kernel_rfl) (by kernel_rfl) (by kernel_rfl)) ?_
  intro W base args ds gs before hval0 hW _ hsz _
  have hW' := hW
  obtain ⟨p, q, hA0, hV, rfl, _, _⟩ := hW
  have hval : ∀ (j : Nat) t v, Tryz.f5.params[j]? = some t → args[j]? = some v → Value.okWide Tryz.prog W .any base t v := hval0
  have hA : DataW.TrodAll enc Tryz.prog W 0 (fun _ => true) true Tryz.f5.params.toList args.toList ds p := hA0
  rw [Tryz.params5] at hA hval
  obtain ⟨v0, v1, d0, d1, p0, p1, rfl, rfl, rfl, h0, h1⟩ := trodAll_two hA
  obtain ⟨rfl, rfl⟩ := trodVars_none hV
  obtain ⟨cs, rfl, _⟩ := okWide_agg Tryz.underlying25 (hval 0 25 v0 rfl rfl)
  obtain ⟨fuel, hf⟩ := h0
  have hw : ∀ n ∈ DataW.weights Tryz.prog 25 d0, n ≤ reachBytes := weights_one hsz
  obtain ⟨f, A0, c0, A2, c2, hcs, u0, r0, u2, r2, k0⟩ := dFunc HH enc fuel _ _ hf hw
  have hcs' : cs = #[.slice A0 f.params.length c0, .int .i64 f.ret, .slice A2 f.blocks.length c2] := by
    have : cs.toList = _ := hcs
    exact Array.toList_inj.1 this
  subst hcs'
  obtain ⟨csh, rfl, _⟩ := okWide_agg Tryz.underlying27 (hval 1 27 v1 rfl rfl)
  obtain ⟨fuelh, hfh⟩ := h1
  have hwh : ∀ n ∈ DataW.weights Tryz.prog 27 d1, n ≤ reachBytes := weights_two hsz
  obtain ⟨hm, hmcs, hm0, hm1, hm2, hm3⟩ := dHam HH enc fuelh _ _ hfh hwh
  have hmcs' : csh = #[.int .i64 hm.at_, .int .i64 hm.thn, .int .i64 hm.els, .int .i64 hm.join] := by
    have : csh.toList = _ := hmcs
    exact Array.toList_inj.1 this
  subst hmcs'
  refine (law_calls (HammockCosts_calls u0 r0 u2 r2 k0 hm ⟨hm0, hm1, hm2, hm3⟩)).mono fun e W' ⟨he, hb⟩ => ?_
  exact ⟨_, he, post_true hW' rfl laidOut (by kernel_rfl) Tryz.underlying4 rfl rfl hb⟩
theorem hammockCosts : Rows.HammockCostsSaid :=
  OpenClaim.holds_of_wide 5 Tryz.f5 rfl rfl rfl rfl rfl rfl rfl ⟨rfl, rfl, rfl, rfl, rfl⟩ rfl rfl rfl rfl rfl (by kernel_rfl) Tryz.func5 (by kernel_rfl)
    (of_decide_eq_true (by kernel_rfl)) (by unfold Func.isWrapper; first | (rw [if_pos (by decide +kernel)]; kernel_rfl) | (rw [if_neg (by decide +kernel)]; exact ⟨rfl, rfl⟩))
    (fun os started HH enc _ => hammockCosts_lifted os started HH enc)
end Go.Proofs.YtakameggkkjcpaaGreat

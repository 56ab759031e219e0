/- The walks of checks: all together. -/
import Derived.Test.YtdjemlkllbhdlaaGreatSpec12
set_option linter.unusedVariables false
set_option linter.unusedSimpArgs false
namespace Go.Proofs.YtdjemlkllbhdlaaGreat
open Go Go.RowKit
theorem Shapes_chk {H : Hp} {f : FuncD} {A_f_0 A_f_2 : Option Addr} {c_f_0 c_f_2 : Nat} (u_f_0 : f.params.length ≤ c_f_0) (r_f_0 : RdS H A_f_0 f.params) (u_f_2 : f.blocks.length ≤ c_f_2) (r_f_2 : RdS H A_f_2 f.blocks) (k_f_0 : I64 f.ret) {b mb : Nat} {lv s1 s2 : Value} {t1 : Value} {ms : List (Int × DefD)} (hb : HCells H b 0 [.slice A_f_0 f.params.length c_f_0, .int .i64 f.ret, .slice A_f_2 f.blocks.length c_f_2, lv, s1, s2, t1, .map (some mb)]) (hm : H mb = some (mobj (encm dv ms))) (hs : ∀ x ∈ f.blocks, ∀ p ∈ x.phis, p.args.length = p.frm.length) (hn : f.blocks.length ≤ 64) : CallG Tryz.prog 34 [.pointer (some ⟨b, 0, none⟩)] H [] (fun v _ L' => v = .int .i64 (firstA (askShape ms) (asksF f)) ∧ L' = []) := by
  refine CallG.of Tryz.func34 rfl rfl rfl fun w0 => ?_
  change WpG _ _ _ _ _ _ [(0, .pointer (some ⟨b, 0, none⟩))] _ _ _
  refine WpG.go tabOK 2 [(0, .pointer (some ⟨b, 0, none⟩))] rfl ⟨rfl, trivial⟩ ?_
  refine WpG.box rfl rfl rfl rfl rfl (fun b1 => ?_)
  refine WpG.go tabOK 4 [(1, .pointer (some ⟨b1, 0, none⟩))] rfl ⟨rfl, trivial⟩ ?_
  refine WpG.y rfl rfl rfl rfl (RunY.loadBox (ci := 0) tabOK rfl rfl rfl rfl) ?_
  refine WpG.go tabOK 1 [(3, .pointer (some ⟨b, 0, none⟩)), (4, .func (.func 70) #[] #[.pointer (some ⟨b1, 0, none⟩)])] rfl ⟨rfl, rfl, trivial⟩ ?_
  refine WpG.callF (v := .int .i64 (firstA (askShape ms) (asksF f))) rfl rfl rfl rfl rfl rfl ⟨_, Tryz.func68, rfl, rfl⟩ (fun H1 hz => ?_) ?_
  · exact Uses_calls u_f_0 (r_f_0.mono hz.1) u_f_2 (r_f_2.mono hz.1) k_f_0 (hb.mono hz.1) hs hn (fun x w1 w2 bl pos kb => Shapes1_calls (hb.mono hz.1) (hz.1 _ _ hm) (hz.box (ci := 0) rfl) x w1 w2 bl pos)
  refine WpG.go tabOK 2 [(2, .int .i64 (firstA (askShape ms) (asksF f)))] rfl ⟨rfl, trivial⟩ ?_
  -- return 0, path 
  exact WpG.ret tabOK (L' := []) (.tmp rfl .nil) (.cons _ .slnil) ⟨congrArg (Value.int .i64) (by rfl), rfl⟩

theorem Places_chk {H : Hp} {f : FuncD} {A_f_0 A_f_2 : Option Addr} {c_f_0 c_f_2 : Nat} (u_f_0 : f.params.length ≤ c_f_0) (r_f_0 : RdS H A_f_0 f.params) (u_f_2 : f.blocks.length ≤ c_f_2) (r_f_2 : RdS H A_f_2 f.blocks) (k_f_0 : I64 f.ret) {b mb : Nat} {lv s1 s2 : Value} {At : Option Addr} {ct : Nat} {tl : List Int} (ht : RdS H At tl) {ms : List (Int × DefD)} (hms : Small64 ms) (hb : HCells H b 0 [.slice A_f_0 f.params.length c_f_0, .int .i64 f.ret, .slice A_f_2 f.blocks.length c_f_2, lv, s1, s2, .slice At tl.length ct, .map (some mb)]) (hm : H mb = some (mobj (encm dv ms))) (hs : ∀ x ∈ f.blocks, ∀ p ∈ x.phis, p.args.length = p.frm.length) (hn : f.blocks.length ≤ 64) : CallG Tryz.prog 35 [.pointer (some ⟨b, 0, none⟩)] H [] (fun v _ L' => v = .int .i64 (firstA (askPlace ms tl) (asksF f)) ∧ L' = []) := by
  refine CallG.of Tryz.func35 rfl rfl rfl fun w0 => ?_
  change WpG _ _ _ _ _ _ [(0, .pointer (some ⟨b, 0, none⟩))] _ _ _
  refine WpG.go tabOK 2 [(0, .pointer (some ⟨b, 0, none⟩))] rfl ⟨rfl, trivial⟩ ?_
  refine WpG.box rfl rfl rfl rfl rfl (fun b1 => ?_)
  refine WpG.go tabOK 4 [(1, .pointer (some ⟨b1, 0, none⟩))] rfl ⟨rfl, trivial⟩ ?_
  refine WpG.y rfl rfl rfl rfl (RunY.loadBox (ci := 0) tabOK rfl rfl rfl rfl) ?_
  refine WpG.go tabOK 1 [(3, .pointer (some ⟨b, 0, none⟩)), (4, .func (.func 71) #[] #[.pointer (some ⟨b1, 0, none⟩)])] rfl ⟨rfl, rfl, trivial⟩ ?_
  refine WpG.callF (v := .int .i64 (firstA (askPlace ms tl) (asksF f))) rfl rfl rfl rfl rfl rfl ⟨_, Tryz.func68, rfl, rfl⟩ (fun H1 hz => ?_) ?_
  · exact Uses_calls u_f_0 (r_f_0.mono hz.1) u_f_2 (r_f_2.mono hz.1) k_f_0 (hb.mono hz.1) hs hn (fun x w1 w2 bl pos kb => Places1_calls (ht.mono hz.1) hms (hb.mono hz.1) (hz.1 _ _ hm) (hz.box (ci := 0) rfl) x w1 w2 pos kb)
  refine WpG.go tabOK 2 [(2, .int .i64 (firstA (askPlace ms tl) (asksF f)))] rfl ⟨rfl, trivial⟩ ?_
  -- return 0, path 
  exact WpG.ret tabOK (L' := []) (.tmp rfl .nil) (.cons _ .slnil) ⟨congrArg (Value.int .i64) (by rfl), rfl⟩

theorem Look_calls {H : Hp} {f : FuncD} {A_f_0 A_f_2 : Option Addr} {c_f_0 c_f_2 : Nat} (u_f_0 : f.params.length ≤ c_f_0) (r_f_0 : RdS H A_f_0 f.params) (u_f_2 : f.blocks.length ≤ c_f_2) (r_f_2 : RdS H A_f_2 f.blocks) (k_f_0 : I64 f.ret) (lv : Int) : CallG Tryz.prog 19 [.agg #[.slice A_f_0 f.params.length c_f_0, .int .i64 f.ret, .slice A_f_2 f.blocks.length c_f_2], .int .i64 lv] H [] (fun v H' L' => ∃ e p, v = .tuple #[.pointer p, .int .i64 e] ∧ CodeIs f lv e ∧ (e = 0 → ∃ b mb ms v0 v1 v2 v3 v4 v5 v6, p = some ⟨b, 0, none⟩ ∧ defsD f = some ms ∧ L' = [Chunk.imap mb (encm dv ms), Chunk.box b [v0, v1, v2, v3, v4, v5, v6, .map (some mb)] 72])) := by
  have rd_f' : Rdc.rd H [.slice A_f_0 f.params.length c_f_0, .int .i64 f.ret, .slice A_f_2 f.blocks.length c_f_2] f := ⟨_, _, _, _, rfl, u_f_0, r_f_0, u_f_2, r_f_2, k_f_0⟩
  have bs := r_f_2.1; have bsp := r_f_0.1
  refine CallG.of Tryz.func19 rfl rfl rfl fun w0 => ?_
  change WpG _ _ _ _ _ _ [(0, .agg #[.slice A_f_0 f.params.length c_f_0, .int .i64 f.ret, .slice A_f_2 f.blocks.length c_f_2]), (1, .int .i64 lv)] _ _ _
  refine WpG.go tabOK 2 [(0, .agg #[.slice A_f_0 f.params.length c_f_0, .int .i64 f.ret, .slice A_f_2 f.blocks.length c_f_2]), (1, .int .i64 lv)] rfl ⟨rfl, rfl, trivial⟩ ?_
  refine WpG.box rfl rfl rfl rfl rfl (fun b1 => ?_)
  refine WpG.go tabOK 5 [(1, .int .i64 lv), (2, .pointer (some ⟨b1, 0, none⟩))] rfl ⟨rfl, rfl, trivial⟩ ?_
  refine WpG.y rfl rfl rfl rfl (RunY.loadBox (ci := 0) tabOK rfl rfl rfl rfl) ?_
  refine WpG.go tabOK 2 [(2, .pointer (some ⟨b1, 0, none⟩)), (12, .agg #[.slice A_f_0 f.params.length c_f_0, .int .i64 f.ret, .slice A_f_2 f.blocks.length c_f_2, .int .i64 lv, .slice none 0 0, .slice none 0 0, .slice none 0 0, .map none])] rfl ⟨rfl, rfl, trivial⟩ ?_
  refine WpG.box rfl rfl rfl rfl rfl (fun b2 => ?_)
  refine WpG.go tabOK 5 [(2, .pointer (some ⟨b1, 0, none⟩)), (6, .pointer (some ⟨b2, 0, none⟩))] rfl ⟨rfl, rfl, trivial⟩ ?_
  refine WpG.y rfl rfl rfl rfl (RunY.loadBox (ci := 1) tabOK rfl rfl rfl rfl) ?_
  refine WpG.callS rfl rfl rfl rfl rfl rfl (Hp.le.refl _) (codeMay_calls rd_f') ?_
  refine WpG.go tabOK 2 [(6, .pointer (some ⟨b2, 0, none⟩)), (16, .bool (!(mayF f)))] rfl ⟨rfl, rfl, trivial⟩ ?_
  refine WpG.caseBn (t := 16) rfl (fun q16 => ?_) (fun q16 => ?_)
  · refine WpG.go tabOK 7 [(4, .pointer (some ⟨b2, 0, none⟩)), (5, .int .i64 4)] rfl ⟨rfl, rfl, trivial⟩ ?_
    -- return 0, path T
    exact WpG.ret tabOK (L' := [Chunk.box b2 [.slice A_f_0 f.params.length c_f_0, .int .i64 f.ret, .slice A_f_2 f.blocks.length c_f_2, .int .i64 lv, .slice none 0 0, .slice none 0 0, .slice none 0 0, .map none] 72]) (.tmp rfl (.tmp rfl .nil)) (.cons_cons _ (.cons _ .slnil)) ⟨_, _, rfl, code4 q16, fun h => absurd h (by decide)⟩
  · refine WpG.go tabOK 15 [(6, .pointer (some ⟨b2, 0, none⟩)), (19, .func (.func 31) #[.pointer (some ⟨b2, 0, none⟩)] #[]), (21, .func (.func 32) #[.pointer (some ⟨b2, 0, none⟩)] #[]), (23, .func (.func 33) #[.pointer (some ⟨b2, 0, none⟩)] #[]), (25, .func (.func 34) #[.pointer (some ⟨b2, 0, none⟩)] #[]), (27, .func (.func 35) #[.pointer (some ⟨b2, 0, none⟩)] #[])] rfl ⟨rfl, rfl, rfl, rfl, rfl, rfl, trivial⟩ ?_
    refine WpG.buildSlice (xs := [.func (.func 31) #[.pointer (some ⟨b2, 0, none⟩)] #[], .func (.func 32) #[.pointer (some ⟨b2, 0, none⟩)] #[], .func (.func 33) #[.pointer (some ⟨b2, 0, none⟩)] #[], .func (.func 34) #[.pointer (some ⟨b2, 0, none⟩)] #[], .func (.func 35) #[.pointer (some ⟨b2, 0, none⟩)] #[]]) tabOK rfl rfl rfl rfl rfl rfl rfl rfl rfl rfl (fun b3 => ?_)
    refine WpG.go tabOK 5 [(6, .pointer (some ⟨b2, 0, none⟩)), (28, .slice (some ⟨b3, 0, none⟩) 5 5), (29, .int .i64 5), (30, .int .i64 0)] rfl ⟨rfl, rfl, rfl, rfl, trivial⟩ ?_
    refine WpG.go tabOK 11 [(6, .pointer (some ⟨b2, 0, none⟩)), (28, .slice (some ⟨b3, 0, none⟩) 5 5), (29, .int .i64 5), (30, .int .i64 0)] rfl ⟨rfl, rfl, rfl, rfl, trivial⟩ ?_
    refine WpG.y rfl rfl rfl rfl (RunY.indexAddr tabOK rfl rfl rfl rfl rfl (by omega) (by omega)) ?_
    refine WpG.y rfl rfl rfl rfl (RunY.loadOwn (ci := 0) (cs := [.func (.func 31) #[.pointer (some ⟨b2, 0, none⟩)] #[]]) tabOK rfl rfl rfl rfl rfl (own_cell1 rfl)) ?_
    refine WpG.go tabOK 5 [(6, .pointer (some ⟨b2, 0, none⟩)), (28, .slice (some ⟨b3, 0, none⟩) 5 5), (29, .int .i64 5), (30, .int .i64 0), (34, .func (.func 31) #[.pointer (some ⟨b2, 0, none⟩)] #[])] rfl ⟨rfl, rfl, rfl, rfl, rfl, trivial⟩ ?_
    refine WpG.call1 (ci := 1) rfl rfl rfl rfl rfl rfl rfl (Shape_fn u_f_0 r_f_0 u_f_2 r_f_2 k_f_0 lv) ?_
    rintro _ H5 L1 hH5 (⟨hof, rfl⟩ | ⟨hof, tl, hTP, hTA, (⟨hsw, rfl⟩ | ⟨hsw, rfl, Ag, cg, Ag', cg', At, ct, rtl, utl, rfl⟩)⟩)
    · refine WpG.dropL (L' := [Chunk.own 77 1 (some ⟨b3, 0, none⟩) 5 5 [.func (.func 31) #[.pointer (some ⟨b2, 0, none⟩)] #[], .func (.func 32) #[.pointer (some ⟨b2, 0, none⟩)] #[], .func (.func 33) #[.pointer (some ⟨b2, 0, none⟩)] #[], .func (.func 34) #[.pointer (some ⟨b2, 0, none⟩)] #[], .func (.func 35) #[.pointer (some ⟨b2, 0, none⟩)] #[]], Chunk.box b1 [.slice A_f_0 f.params.length c_f_0, .int .i64 f.ret, .slice A_f_2 f.blocks.length c_f_2] 25]) (List.sublist_append_right ..) ?_
      refine WpG.go tabOK 15 [(4, .pointer (some ⟨b2, 0, none⟩)), (5, .int .i64 5)] rfl ⟨rfl, rfl, trivial⟩ ?_
      -- return 1, path Fa
      exact WpG.ret tabOK (L' := []) (.tmp rfl (.tmp rfl .nil)) (.cons _ (.cons _ .slnil)) ⟨_, _, rfl, code5 q16 hof, fun h => absurd h (by decide)⟩
    · refine WpG.dropL (L' := [Chunk.own 77 1 (some ⟨b3, 0, none⟩) 5 5 [.func (.func 31) #[.pointer (some ⟨b2, 0, none⟩)] #[], .func (.func 32) #[.pointer (some ⟨b2, 0, none⟩)] #[], .func (.func 33) #[.pointer (some ⟨b2, 0, none⟩)] #[], .func (.func 34) #[.pointer (some ⟨b2, 0, none⟩)] #[], .func (.func 35) #[.pointer (some ⟨b2, 0, none⟩)] #[]], Chunk.box b1 [.slice A_f_0 f.params.length c_f_0, .int .i64 f.ret, .slice A_f_2 f.blocks.length c_f_2] 25]) (List.sublist_append_right ..) ?_
      refine WpG.go tabOK 15 [(4, .pointer (some ⟨b2, 0, none⟩)), (5, .int .i64 5)] rfl ⟨rfl, rfl, trivial⟩ ?_
      -- return 2, path Fb
      exact WpG.ret tabOK (L' := []) (.tmp rfl (.tmp rfl .nil)) (.cons _ (.cons _ .slnil)) ⟨_, _, rfl, code5' q16 hof hTP hsw, fun h => absurd h (by decide)⟩
    · refine WpG.setL (L' := [Chunk.box b2 [.slice A_f_0 f.params.length c_f_0, .int .i64 f.ret, .slice A_f_2 f.blocks.length c_f_2, .int .i64 lv, .slice Ag ((ofD f).1.succ.length) cg, .slice Ag' ((ofD f).1.pred.length) cg', .slice At tl.length ct, .map none] 72, Chunk.own 77 1 (some ⟨b3, 0, none⟩) 5 5 [.func (.func 31) #[.pointer (some ⟨b2, 0, none⟩)] #[], .func (.func 32) #[.pointer (some ⟨b2, 0, none⟩)] #[], .func (.func 33) #[.pointer (some ⟨b2, 0, none⟩)] #[], .func (.func 34) #[.pointer (some ⟨b2, 0, none⟩)] #[], .func (.func 35) #[.pointer (some ⟨b2, 0, none⟩)] #[]], Chunk.box b1 [.slice A_f_0 f.params.length c_f_0, .int .i64 f.ret, .slice A_f_2 f.blocks.length c_f_2] 25]) rfl ?_
      have hnb := (of_ok hof).1
      have hfs := shape_phis hsw
      refine WpG.go tabOK 12 [(6, .pointer (some ⟨b2, 0, none⟩)), (28, .slice (some ⟨b3, 0, none⟩) 5 5), (29, .int .i64 5), (40, .int .i64 1)] rfl ⟨rfl, rfl, rfl, rfl, trivial⟩ ?_
      refine WpG.go tabOK 3 [(6, .pointer (some ⟨b2, 0, none⟩)), (28, .slice (some ⟨b3, 0, none⟩) 5 5), (29, .int .i64 5), (30, .int .i64 1)] rfl ⟨rfl, rfl, rfl, rfl, trivial⟩ ?_
      refine WpG.go tabOK 11 [(6, .pointer (some ⟨b2, 0, none⟩)), (28, .slice (some ⟨b3, 0, none⟩) 5 5), (29, .int .i64 5), (30, .int .i64 1)] rfl ⟨rfl, rfl, rfl, rfl, trivial⟩ ?_
      refine WpG.y rfl rfl rfl rfl (RunY.indexAddr tabOK rfl rfl rfl rfl rfl (by omega) (by omega)) ?_
      refine WpG.y rfl rfl rfl rfl (RunY.loadOwn (ci := 1) (cs := [.func (.func 32) #[.pointer (some ⟨b2, 0, none⟩)] #[]]) tabOK rfl rfl rfl rfl rfl (own_cell1 rfl)) ?_
      refine WpG.go tabOK 5 [(6, .pointer (some ⟨b2, 0, none⟩)), (28, .slice (some ⟨b3, 0, none⟩) 5 5), (29, .int .i64 5), (30, .int .i64 1), (34, .func (.func 32) #[.pointer (some ⟨b2, 0, none⟩)] #[])] rfl ⟨rfl, rfl, rfl, rfl, rfl, trivial⟩ ?_
      refine WpG.callF (v := .int .i64 (if typedD f lv then 0 else 6)) rfl rfl rfl rfl rfl rfl ⟨_, Tryz.func32, rfl, rfl⟩ (fun H1 hz => ?_) ?_
      · exact Typed_calls u_f_0 (r_f_0.mono ((hH5).trans hz.1)) u_f_2 (r_f_2.mono ((hH5).trans hz.1)) k_f_0 (hz.box (ci := 0) rfl)
      refine WpG.go tabOK 7 [(6, .pointer (some ⟨b2, 0, none⟩)), (9, .int .i64 (if typedD f lv then 0 else 6)), (28, .slice (some ⟨b3, 0, none⟩) 5 5), (29, .int .i64 5), (30, .int .i64 1), (37, .bool ((if typedD f lv then 0 else 6) != 0))] rfl ⟨rfl, rfl, rfl, rfl, rfl, rfl, trivial⟩ ?_
      refine WpG.caseN (t := 37) rfl (fun q37 => ?_) (fun q37 => ?_)
      · refine WpG.go tabOK 8 [(4, .pointer (some ⟨b2, 0, none⟩)), (5, .int .i64 (if typedD f lv then 0 else 6))] rfl ⟨rfl, rfl, trivial⟩ ?_
        -- return 3, path FcT
        exact WpG.ret tabOK (L' := [Chunk.box b2 [.slice A_f_0 f.params.length c_f_0, .int .i64 f.ret, .slice A_f_2 f.blocks.length c_f_2, .int .i64 lv, .slice Ag ((ofD f).1.succ.length) cg, .slice Ag' ((ofD f).1.pred.length) cg', .slice At tl.length ct, .map none] 72]) (.tmp rfl (.tmp rfl .nil)) (.cons_cons _ (.cons _ (.cons _ .slnil))) ⟨_, _, rfl, code6 q16 hof hTP hsw q37, fun h => absurd h q37⟩
      · refine WpG.go tabOK 5 [(6, .pointer (some ⟨b2, 0, none⟩)), (28, .slice (some ⟨b3, 0, none⟩) 5 5), (29, .int .i64 5), (40, .int .i64 2)] rfl ⟨rfl, rfl, rfl, rfl, trivial⟩ ?_
        refine WpG.go tabOK 3 [(6, .pointer (some ⟨b2, 0, none⟩)), (28, .slice (some ⟨b3, 0, none⟩) 5 5), (29, .int .i64 5), (30, .int .i64 2)] rfl ⟨rfl, rfl, rfl, rfl, trivial⟩ ?_
        refine WpG.go tabOK 11 [(6, .pointer (some ⟨b2, 0, none⟩)), (28, .slice (some ⟨b3, 0, none⟩) 5 5), (29, .int .i64 5), (30, .int .i64 2)] rfl ⟨rfl, rfl, rfl, rfl, trivial⟩ ?_
        refine WpG.y rfl rfl rfl rfl (RunY.indexAddr tabOK rfl rfl rfl rfl rfl (by omega) (by omega)) ?_
        refine WpG.y rfl rfl rfl rfl (RunY.loadOwn (ci := 1) (cs := [.func (.func 33) #[.pointer (some ⟨b2, 0, none⟩)] #[]]) tabOK rfl rfl rfl rfl rfl (own_cell1 rfl)) ?_
        refine WpG.go tabOK 5 [(6, .pointer (some ⟨b2, 0, none⟩)), (28, .slice (some ⟨b3, 0, none⟩) 5 5), (29, .int .i64 5), (30, .int .i64 2), (34, .func (.func 33) #[.pointer (some ⟨b2, 0, none⟩)] #[])] rfl ⟨rfl, rfl, rfl, rfl, rfl, trivial⟩ ?_
        refine WpG.call1 (ci := 0) rfl rfl rfl rfl rfl rfl rfl (Defined_calls u_f_0 (r_f_0.mono hH5) u_f_2 (r_f_2.mono hH5) k_f_0 hfs hnb) ?_
        rintro _ H6 L1 hH6 (⟨hdf, rfl⟩ | ⟨ms, mb, hdf, rfl, rfl⟩)
        · refine WpG.dropL (L' := [Chunk.own 77 1 (some ⟨b3, 0, none⟩) 5 5 [.func (.func 31) #[.pointer (some ⟨b2, 0, none⟩)] #[], .func (.func 32) #[.pointer (some ⟨b2, 0, none⟩)] #[], .func (.func 33) #[.pointer (some ⟨b2, 0, none⟩)] #[], .func (.func 34) #[.pointer (some ⟨b2, 0, none⟩)] #[], .func (.func 35) #[.pointer (some ⟨b2, 0, none⟩)] #[]], Chunk.box b1 [.slice A_f_0 f.params.length c_f_0, .int .i64 f.ret, .slice A_f_2 f.blocks.length c_f_2] 25]) (List.sublist_append_right ..) ?_
          refine WpG.go tabOK 15 [(4, .pointer (some ⟨b2, 0, none⟩)), (5, .int .i64 7)] rfl ⟨rfl, rfl, trivial⟩ ?_
          -- return 4, path FcFd
          exact WpG.ret tabOK (L' := []) (.tmp rfl (.tmp rfl .nil)) (.cons _ (.cons _ .slnil)) ⟨_, _, rfl, code7 q16 hof hTP hsw q37 hdf, fun h => absurd h (by decide)⟩
        · refine WpG.setL (L' := [Chunk.imap mb (encm dv ms), Chunk.box b2 [.slice A_f_0 f.params.length c_f_0, .int .i64 f.ret, .slice A_f_2 f.blocks.length c_f_2, .int .i64 lv, .slice Ag ((ofD f).1.succ.length) cg, .slice Ag' ((ofD f).1.pred.length) cg', .slice At tl.length ct, .map (some mb)] 72, Chunk.own 77 1 (some ⟨b3, 0, none⟩) 5 5 [.func (.func 31) #[.pointer (some ⟨b2, 0, none⟩)] #[], .func (.func 32) #[.pointer (some ⟨b2, 0, none⟩)] #[], .func (.func 33) #[.pointer (some ⟨b2, 0, none⟩)] #[], .func (.func 34) #[.pointer (some ⟨b2, 0, none⟩)] #[], .func (.func 35) #[.pointer (some ⟨b2, 0, none⟩)] #[]], Chunk.box b1 [.slice A_f_0 f.params.length c_f_0, .int .i64 f.ret, .slice A_f_2 f.blocks.length c_f_2] 25]) rfl ?_
          have hms := defs_small hdf hnb
          refine WpG.go tabOK 7 [(6, .pointer (some ⟨b2, 0, none⟩)), (9, .int .i64 (firstA (askDef ms) (asksF f))), (28, .slice (some ⟨b3, 0, none⟩) 5 5), (29, .int .i64 5), (30, .int .i64 2), (37, .bool ((firstA (askDef ms) (asksF f)) != 0))] rfl ⟨rfl, rfl, rfl, rfl, rfl, rfl, trivial⟩ ?_
          refine WpG.caseN (t := 37) rfl (fun q37_2 => ?_) (fun q37_2 => ?_)
          · refine WpG.go tabOK 8 [(4, .pointer (some ⟨b2, 0, none⟩)), (5, .int .i64 (firstA (askDef ms) (asksF f)))] rfl ⟨rfl, rfl, trivial⟩ ?_
            -- return 5, path FcFeT
            exact WpG.ret tabOK (L' := [Chunk.imap mb (encm dv ms), Chunk.box b2 [.slice A_f_0 f.params.length c_f_0, .int .i64 f.ret, .slice A_f_2 f.blocks.length c_f_2, .int .i64 lv, .slice Ag ((ofD f).1.succ.length) cg, .slice Ag' ((ofD f).1.pred.length) cg', .slice At tl.length ct, .map (some mb)] 72]) (.tmp rfl (.tmp rfl .nil)) (.cons_cons _ (.cons_cons _ (.cons _ (.cons _ .slnil)))) ⟨_, _, rfl, code_ms q16 hof hTP hsw q37 hdf (by rw [if_pos q37_2]), fun h => absurd h q37_2⟩
          · refine WpG.go tabOK 5 [(6, .pointer (some ⟨b2, 0, none⟩)), (28, .slice (some ⟨b3, 0, none⟩) 5 5), (29, .int .i64 5), (40, .int .i64 3)] rfl ⟨rfl, rfl, rfl, rfl, trivial⟩ ?_
            refine WpG.go tabOK 3 [(6, .pointer (some ⟨b2, 0, none⟩)), (28, .slice (some ⟨b3, 0, none⟩) 5 5), (29, .int .i64 5), (30, .int .i64 3)] rfl ⟨rfl, rfl, rfl, rfl, trivial⟩ ?_
            refine WpG.go tabOK 11 [(6, .pointer (some ⟨b2, 0, none⟩)), (28, .slice (some ⟨b3, 0, none⟩) 5 5), (29, .int .i64 5), (30, .int .i64 3)] rfl ⟨rfl, rfl, rfl, rfl, trivial⟩ ?_
            refine WpG.y rfl rfl rfl rfl (RunY.indexAddr tabOK rfl rfl rfl rfl rfl (by omega) (by omega)) ?_
            refine WpG.y rfl rfl rfl rfl (RunY.loadOwn (ci := 2) (cs := [.func (.func 34) #[.pointer (some ⟨b2, 0, none⟩)] #[]]) tabOK rfl rfl rfl rfl rfl (own_cell1 rfl)) ?_
            refine WpG.go tabOK 5 [(6, .pointer (some ⟨b2, 0, none⟩)), (28, .slice (some ⟨b3, 0, none⟩) 5 5), (29, .int .i64 5), (30, .int .i64 3), (34, .func (.func 34) #[.pointer (some ⟨b2, 0, none⟩)] #[])] rfl ⟨rfl, rfl, rfl, rfl, rfl, trivial⟩ ?_
            refine WpG.callF (v := .int .i64 (firstA (askShape ms) (asksF f))) rfl rfl rfl rfl rfl rfl ⟨_, Tryz.func34, rfl, rfl⟩ (fun H1 hz => ?_) ?_
            · exact Shapes_chk u_f_0 (r_f_0.mono (((hH5.trans hH6)).trans hz.1)) u_f_2 (r_f_2.mono (((hH5.trans hH6)).trans hz.1)) k_f_0 (hz.box (ci := 1) rfl) (hz.imap (ci := 0) rfl) hfs hnb
            refine WpG.go tabOK 7 [(6, .pointer (some ⟨b2, 0, none⟩)), (9, .int .i64 (firstA (askShape ms) (asksF f))), (28, .slice (some ⟨b3, 0, none⟩) 5 5), (29, .int .i64 5), (30, .int .i64 3), (37, .bool ((firstA (askShape ms) (asksF f)) != 0))] rfl ⟨rfl, rfl, rfl, rfl, rfl, rfl, trivial⟩ ?_
            refine WpG.caseN (t := 37) rfl (fun q37_3 => ?_) (fun q37_3 => ?_)
            · refine WpG.go tabOK 8 [(4, .pointer (some ⟨b2, 0, none⟩)), (5, .int .i64 (firstA (askShape ms) (asksF f)))] rfl ⟨rfl, rfl, trivial⟩ ?_
              -- return 6, path FcFeFT
              exact WpG.ret tabOK (L' := [Chunk.imap mb (encm dv ms), Chunk.box b2 [.slice A_f_0 f.params.length c_f_0, .int .i64 f.ret, .slice A_f_2 f.blocks.length c_f_2, .int .i64 lv, .slice Ag ((ofD f).1.succ.length) cg, .slice Ag' ((ofD f).1.pred.length) cg', .slice At tl.length ct, .map (some mb)] 72]) (.tmp rfl (.tmp rfl .nil)) (.cons_cons _ (.cons_cons _ (.cons _ (.cons _ .slnil)))) ⟨_, _, rfl, code_ms q16 hof hTP hsw q37 hdf (by rw [if_neg (by simp [q37_2]), if_pos q37_3]), fun h => absurd h q37_3⟩
            · refine WpG.go tabOK 5 [(6, .pointer (some ⟨b2, 0, none⟩)), (28, .slice (some ⟨b3, 0, none⟩) 5 5), (29, .int .i64 5), (40, .int .i64 4)] rfl ⟨rfl, rfl, rfl, rfl, trivial⟩ ?_
              refine WpG.go tabOK 3 [(6, .pointer (some ⟨b2, 0, none⟩)), (28, .slice (some ⟨b3, 0, none⟩) 5 5), (29, .int .i64 5), (30, .int .i64 4)] rfl ⟨rfl, rfl, rfl, rfl, trivial⟩ ?_
              refine WpG.go tabOK 11 [(6, .pointer (some ⟨b2, 0, none⟩)), (28, .slice (some ⟨b3, 0, none⟩) 5 5), (29, .int .i64 5), (30, .int .i64 4)] rfl ⟨rfl, rfl, rfl, rfl, trivial⟩ ?_
              refine WpG.y rfl rfl rfl rfl (RunY.indexAddr tabOK rfl rfl rfl rfl rfl (by omega) (by omega)) ?_
              refine WpG.y rfl rfl rfl rfl (RunY.loadOwn (ci := 2) (cs := [.func (.func 35) #[.pointer (some ⟨b2, 0, none⟩)] #[]]) tabOK rfl rfl rfl rfl rfl (own_cell1 rfl)) ?_
              refine WpG.go tabOK 5 [(6, .pointer (some ⟨b2, 0, none⟩)), (28, .slice (some ⟨b3, 0, none⟩) 5 5), (29, .int .i64 5), (30, .int .i64 4), (34, .func (.func 35) #[.pointer (some ⟨b2, 0, none⟩)] #[])] rfl ⟨rfl, rfl, rfl, rfl, rfl, trivial⟩ ?_
              refine WpG.callF (v := .int .i64 (firstA (askPlace ms tl) (asksF f))) rfl rfl rfl rfl rfl rfl ⟨_, Tryz.func35, rfl, rfl⟩ (fun H1 hz => ?_) ?_
              · exact Places_chk u_f_0 (r_f_0.mono (((hH5.trans hH6)).trans hz.1)) u_f_2 (r_f_2.mono (((hH5.trans hH6)).trans hz.1)) k_f_0 (rtl.mono ((hH6).trans hz.1)) hms (hz.box (ci := 1) rfl) (hz.imap (ci := 0) rfl) hfs hnb
              refine WpG.go tabOK 7 [(6, .pointer (some ⟨b2, 0, none⟩)), (9, .int .i64 (firstA (askPlace ms tl) (asksF f))), (28, .slice (some ⟨b3, 0, none⟩) 5 5), (29, .int .i64 5), (30, .int .i64 4), (37, .bool ((firstA (askPlace ms tl) (asksF f)) != 0))] rfl ⟨rfl, rfl, rfl, rfl, rfl, rfl, trivial⟩ ?_
              refine WpG.caseN (t := 37) rfl (fun q37_4 => ?_) (fun q37_4 => ?_)
              · refine WpG.go tabOK 8 [(4, .pointer (some ⟨b2, 0, none⟩)), (5, .int .i64 (firstA (askPlace ms tl) (asksF f)))] rfl ⟨rfl, rfl, trivial⟩ ?_
                -- return 7, path FcFeFFT
                exact WpG.ret tabOK (L' := [Chunk.imap mb (encm dv ms), Chunk.box b2 [.slice A_f_0 f.params.length c_f_0, .int .i64 f.ret, .slice A_f_2 f.blocks.length c_f_2, .int .i64 lv, .slice Ag ((ofD f).1.succ.length) cg, .slice Ag' ((ofD f).1.pred.length) cg', .slice At tl.length ct, .map (some mb)] 72]) (.tmp rfl (.tmp rfl .nil)) (.cons_cons _ (.cons_cons _ (.cons _ (.cons _ .slnil)))) ⟨_, _, rfl, code_ms q16 hof hTP hsw q37 hdf (by rw [if_neg (by simp [q37_2]), if_neg (by simp [q37_3])]), fun h => absurd h q37_4⟩
              · refine WpG.go tabOK 5 [(6, .pointer (some ⟨b2, 0, none⟩)), (28, .slice (some ⟨b3, 0, none⟩) 5 5), (29, .int .i64 5), (40, .int .i64 5)] rfl ⟨rfl, rfl, rfl, rfl, trivial⟩ ?_
                refine WpG.go tabOK 3 [(6, .pointer (some ⟨b2, 0, none⟩)), (28, .slice (some ⟨b3, 0, none⟩) 5 5), (29, .int .i64 5), (30, .int .i64 5)] rfl ⟨rfl, rfl, rfl, rfl, trivial⟩ ?_
                refine WpG.go tabOK 13 [(4, .pointer (some ⟨b2, 0, none⟩)), (5, .int .i64 0)] rfl ⟨rfl, rfl, trivial⟩ ?_
                -- return 8, path FcFeFFF
                exact WpG.ret tabOK (L' := [Chunk.imap mb (encm dv ms), Chunk.box b2 [.slice A_f_0 f.params.length c_f_0, .int .i64 f.ret, .slice A_f_2 f.blocks.length c_f_2, .int .i64 lv, .slice Ag ((ofD f).1.succ.length) cg, .slice Ag' ((ofD f).1.pred.length) cg', .slice At tl.length ct, .map (some mb)] 72]) (.tmp rfl (.tmp rfl .nil)) (.cons_cons _ (.cons_cons _ (.cons _ (.cons _ .slnil)))) ⟨_, _, rfl, code_ms q16 hof hTP hsw q37 hdf (by rw [if_neg (by simp [q37_2]), if_neg (by simp [q37_3]), q37_4]), fun _ => ⟨b2, mb, ms, _, _, _, _, _, _, _, rfl, hdf, rfl⟩⟩
end Go.Proofs.YtdjemlkllbhdlaaGreat

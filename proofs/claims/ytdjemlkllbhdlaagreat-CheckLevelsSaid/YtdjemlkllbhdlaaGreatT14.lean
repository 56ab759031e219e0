/- The walks of checks: what is asked of an argument. -/
import Derived.Test.YtdjemlkllbhdlaaGreatSpec11
set_option linter.unusedVariables false
set_option linter.unusedSimpArgs false
namespace Go.Proofs.YtdjemlkllbhdlaaGreat
open Go Go.RowKit
theorem Scalar_calls {H : Hp} (x : Int) : CallG Tryz.prog 66 [.int .i64 x] H [] (fun v H' L' => v = .agg #[.int .i64 x, .int .i64 1] ∧ L' = []) := by
  refine CallG.of Tryz.func66 rfl rfl rfl fun w0 => ?_
  change WpG _ _ _ _ _ _ [(0, .int .i64 x)] _ _ _
  refine WpG.go tabOK 2 [(0, .int .i64 x)] rfl ⟨rfl, trivial⟩ ?_
  refine WpG.alloc tabOK rfl rfl rfl rfl rfl (fun b1 => ?_)
  refine WpG.go tabOK 5 [(2, .pointer (some ⟨b1, 0, none⟩)), (4, .agg #[.int .i64 x, .int .i64 1])] rfl ⟨rfl, rfl, trivial⟩ ?_
  refine WpG.storeBox (ci := 0) (cs' := [.int .i64 x, .int .i64 1]) tabOK rfl rfl rfl rfl rfl rfl rfl rfl rfl ?_
  refine WpG.setL (L' := [Chunk.box b1 [.int .i64 x, .int .i64 1] 35]) rfl ?_
  refine WpG.go tabOK 1 [(2, .pointer (some ⟨b1, 0, none⟩))] rfl ⟨rfl, trivial⟩ ?_
  -- return 0, path 
  exact WpG.ret tabOK (L' := []) (.cell (ci := 0) rfl rfl rfl rfl .nil) (.cons _ .slnil) ⟨rfl, rfl⟩

theorem Put_calls {H : Hp} {b mb : Nat} {v0 v1 v2 lv s1 s2 t1 : Value} {ms : List (Int × DefD)} (k : Int) (d : DefD) : CallG Tryz.prog 65 [.pointer (some ⟨b, 0, none⟩), .int .i64 k, .agg #[.int .i64 d.blk, .int .i64 d.pos, .int .i64 d.bits, .int .i64 d.lanes]] H [Chunk.box b [v0, v1, v2, lv, s1, s2, t1, .map (some mb)] 72, Chunk.imap mb (encm dv ms)] (fun v H' L' => H' = H ∧ v = .bool (!(mget ms k).isSome) ∧ L' = [Chunk.box b [v0, v1, v2, lv, s1, s2, t1, .map (some mb)] 72, Chunk.imap mb (encm dv (mput ms k d))]) := by
  refine CallG.of Tryz.func65 rfl rfl rfl fun w0 => ?_
  change WpG _ _ _ _ _ _ [(0, .pointer (some ⟨b, 0, none⟩)), (1, .int .i64 k), (2, .agg #[.int .i64 d.blk, .int .i64 d.pos, .int .i64 d.bits, .int .i64 d.lanes])] _ _ _
  refine WpG.go tabOK 2 [(0, .pointer (some ⟨b, 0, none⟩)), (1, .int .i64 k), (2, .agg #[.int .i64 d.blk, .int .i64 d.pos, .int .i64 d.bits, .int .i64 d.lanes])] rfl ⟨rfl, rfl, rfl, trivial⟩ ?_
  refine WpG.box rfl rfl rfl rfl rfl (fun b1 => ?_)
  refine WpG.go tabOK 7 [(0, .pointer (some ⟨b, 0, none⟩)), (1, .int .i64 k), (5, .pointer (some ⟨b1, 0, none⟩)), (12, .pointer (some ⟨b, 7, none⟩))] rfl ⟨rfl, rfl, rfl, rfl, trivial⟩ ?_
  refine WpG.y rfl rfl rfl rfl (RunY.loadBox (ci := 1) tabOK rfl rfl rfl rfl) ?_
  refine WpG.go tabOK 1 [(0, .pointer (some ⟨b, 0, none⟩)), (1, .int .i64 k), (5, .pointer (some ⟨b1, 0, none⟩)), (13, .map (some mb)), (14, .int .i64 k)] rfl ⟨rfl, rfl, rfl, rfl, rfl, trivial⟩ ?_
  obtain ⟨X2, hX2⟩ : ∃ X, (mget ms k).getD ⟨0, 0, 0, 0⟩ = X := ⟨_, rfl⟩
  refine WpG.y rfl rfl rfl rfl (RunY.lookupT dv ⟨0, 0, 0, 0⟩ (ci := 2) tabOK rfl rfl rfl rfl rfl rfl rfl rfl rfl hX2 (ok := true)) ?_
  refine WpG.go tabOK 3 [(0, .pointer (some ⟨b, 0, none⟩)), (1, .int .i64 k), (5, .pointer (some ⟨b1, 0, none⟩)), (16, .agg #[.int .i64 X2.blk, .int .i64 X2.pos, .int .i64 X2.bits, .int .i64 X2.lanes]), (17, .bool ((mget ms k).isSome))] rfl ⟨rfl, rfl, rfl, rfl, rfl, trivial⟩ ?_
  refine WpG.alloc tabOK rfl rfl rfl rfl rfl (fun b3 => ?_)
  refine WpG.storeBox (ci := 0) (cs' := [.int .i64 X2.blk, .int .i64 X2.pos, .int .i64 X2.bits, .int .i64 X2.lanes]) tabOK rfl rfl rfl rfl rfl rfl rfl rfl rfl ?_
  refine WpG.setL (L' := [Chunk.box b3 [.int .i64 X2.blk, .int .i64 X2.pos, .int .i64 X2.bits, .int .i64 X2.lanes] 74, Chunk.box b1 [.int .i64 d.blk, .int .i64 d.pos, .int .i64 d.bits, .int .i64 d.lanes] 74, Chunk.box b [v0, v1, v2, lv, s1, s2, t1, .map (some mb)] 72, Chunk.imap mb (encm dv ms)]) rfl ?_
  refine WpG.go tabOK 3 [(0, .pointer (some ⟨b, 0, none⟩)), (1, .int .i64 k), (5, .pointer (some ⟨b1, 0, none⟩)), (8, .bool ((mget ms k).isSome))] rfl ⟨rfl, rfl, rfl, rfl, trivial⟩ ?_
  refine WpG.draw 7 [Chunk.box b3 [.int .i64 X2.blk, .int .i64 X2.pos, .int .i64 X2.bits, .int .i64 X2.lanes] 74, Chunk.box b1 [.int .i64 d.blk, .int .i64 d.pos, .int .i64 d.bits, .int .i64 d.lanes] 74, Chunk.box b [v0, v1, v2, lv, s1, s2, t1, .map (some mb)] 72] mixed (by kernel_rfl) ?_
  refine WpD.go (listed' := lst 7 23) tabOK [0, 1, 2, 4] [(5, .pointer (some ⟨b1, 0, none⟩)), (8, .bool ((mget ms k).isSome)), (20, .pointer (some ⟨b, 7, none⟩)), (22, .int .i64 k)] (by kernel_rfl) rfl ⟨rfl, rfl, rfl, rfl, trivial⟩ (Hp.le.refl _) (Hp.le.refl _) (.cons_cons _ (.cons_cons _ (.cons_cons _ (.cons _ .slnil)))) ?_
  refine WpD.y (i := 3) (fuel := 2) (listed' := lst 7 31) (by kernel_rfl) rfl rfl rfl rfl (Hp.le.refl _) (Hp.le.refl _) (.cons_cons _ (.cons_cons _ (.cons_cons _ (.cons _ .slnil)))) (RunY.loadBox (ci := 2) tabOK rfl rfl rfl rfl) ?_
  refine WpD.y (i := 5) (fuel := 1) (listed' := lst 7 63) (by kernel_rfl) rfl rfl rfl rfl (Hp.le.refl _) (Hp.le.refl _) (.cons_cons _ (.cons_cons _ (.cons_cons _ (.cons _ .slnil)))) (RunY.loadBox (ci := 1) tabOK rfl rfl rfl rfl) ?_
  refine WpD.f (i := 6) (fuel := 0) (listed' := lst 7 127) (by kernel_rfl) (Hp.le.refl _) (OpG.mapUpdate (ci := 3) tabOK rfl (.inl rfl) rfl rfl rfl rfl rfl rfl rfl rfl rfl rfl) ?_
  rintro F1 H1 L1 ⟨eF, eH, eL⟩
  subst eF; subst eL; rw [eH]; clear eH H1
  refine ⟨(Hp.le.refl _), (.cons_cons _ (.cons_cons _ (.cons_cons _ (.cons _ .slnil)))), ?_⟩
  refine WpD.setL (L' := [Chunk.box b3 [.int .i64 X2.blk, .int .i64 X2.pos, .int .i64 X2.bits, .int .i64 X2.lanes] 74, Chunk.box b1 [.int .i64 d.blk, .int .i64 d.pos, .int .i64 d.bits, .int .i64 d.lanes] 74, Chunk.box b [v0, v1, v2, lv, s1, s2, t1, .map (some mb)] 72, Chunk.imap mb (encm dv (mput ms k ⟨d.blk, d.pos, d.bits, d.lanes⟩))]) (by rw [encm_put dv ms k ⟨d.blk, d.pos, d.bits, d.lanes⟩]; rfl) ?_
  refine WpD.done (by kernel_rfl) ?_
  refine WpG.go tabOK 6 [(6, .bool (!((mget ms k).isSome)))] rfl ⟨rfl, trivial⟩ ?_
  -- return 0, path 
  exact WpG.ret tabOK (L' := [Chunk.box b [v0, v1, v2, lv, s1, s2, t1, .map (some mb)] 72, Chunk.imap mb (encm dv (mput ms k ⟨d.blk, d.pos, d.bits, d.lanes⟩))]) (.tmp rfl .nil) (.cons _ (.cons _ (.cons_cons _ (.cons_cons _ .slnil)))) ⟨rfl, rfl, rfl⟩

theorem Defined1_calls {H : Hp} {b mb bx : Nat} {v0 v1 v2 lv s1 s2 t1 : Value} {ms : List (Int × DefD)} (hb : HCells H b 0 [v0, v1, v2, lv, s1, s2, t1, .map (some mb)]) (hm : H mb = some (mobj (encm dv ms))) (hx : HCells H bx 0 [.pointer (some ⟨b, 0, none⟩)]) (x w1 w2 bl pos : Int) : CallG Tryz.prog 69 [.int .i64 x, .agg #[.int .i64 w1, .int .i64 w2], .int .i64 bl, .int .i64 pos, .pointer (some ⟨bx, 0, none⟩)] H [] (fun v _ L' => v = .int .i64 (askDef ms x w1 w2 bl pos) ∧ L' = []) := by
  refine CallG.of Tryz.func69 rfl rfl rfl fun w0 => ?_
  change WpG _ _ _ _ _ _ [(0, .int .i64 x), (1, .agg #[.int .i64 w1, .int .i64 w2]), (2, .int .i64 bl), (3, .int .i64 pos), (4, .pointer (some ⟨bx, 0, none⟩))] _ _ _
  refine WpG.go tabOK 2 [(0, .int .i64 x), (1, .agg #[.int .i64 w1, .int .i64 w2]), (4, .pointer (some ⟨bx, 0, none⟩))] rfl ⟨rfl, rfl, rfl, trivial⟩ ?_
  refine WpG.box rfl rfl rfl rfl rfl (fun b1 => ?_)
  refine WpG.go tabOK 5 [(0, .int .i64 x), (4, .pointer (some ⟨bx, 0, none⟩))] rfl ⟨rfl, rfl, trivial⟩ ?_
  refine WpG.y rfl rfl rfl rfl (RunY.loadH tabOK hx (Hp.le.refl _) rfl rfl rfl rfl) ?_
  refine WpG.go tabOK 2 [(0, .int .i64 x), (15, .pointer (some ⟨b, 7, none⟩))] rfl ⟨rfl, rfl, trivial⟩ ?_
  refine WpG.y rfl rfl rfl rfl (RunY.loadH tabOK (hb.sub 7 1) (Hp.le.refl _) rfl rfl rfl rfl) ?_
  refine WpG.go tabOK 1 [(16, .map (some mb)), (17, .int .i64 x)] rfl ⟨rfl, rfl, trivial⟩ ?_
  obtain ⟨X2, hX2⟩ : ∃ X, (mget ms x).getD ⟨0, 0, 0, 0⟩ = X := ⟨_, rfl⟩
  refine WpG.y rfl rfl rfl rfl (RunY.lookupHT dv ⟨0, 0, 0, 0⟩ tabOK hm (Hp.le.refl _) rfl rfl rfl rfl rfl rfl rfl rfl hX2 (ok := true)) ?_
  refine WpG.go tabOK 3 [(19, .agg #[.int .i64 X2.blk, .int .i64 X2.pos, .int .i64 X2.bits, .int .i64 X2.lanes]), (20, .bool ((mget ms x).isSome))] rfl ⟨rfl, rfl, trivial⟩ ?_
  refine WpG.alloc tabOK rfl rfl rfl rfl rfl (fun b3 => ?_)
  refine WpG.storeBox (ci := 0) (cs' := [.int .i64 X2.blk, .int .i64 X2.pos, .int .i64 X2.bits, .int .i64 X2.lanes]) tabOK rfl rfl rfl rfl rfl rfl rfl rfl rfl ?_
  refine WpG.setL (L' := [Chunk.box b3 [.int .i64 X2.blk, .int .i64 X2.pos, .int .i64 X2.bits, .int .i64 X2.lanes] 74, Chunk.box b1 [.int .i64 w1, .int .i64 w2] 35]) rfl ?_
  refine WpG.go tabOK 7 [(22, .bool (!((mget ms x).isSome)))] rfl ⟨rfl, trivial⟩ ?_
  refine WpG.caseBn (t := 22) rfl (fun q22 => ?_) (fun q22 => ?_)
  · refine WpG.go tabOK 5 [(9, .int .i64 7)] rfl ⟨rfl, trivial⟩ ?_
    -- return 0, path T
    exact WpG.ret tabOK (L' := []) (.tmp rfl .nil) (.cons _ (.cons _ .slnil)) ⟨congrArg (Value.int .i64) (by simp [askDef, *]), rfl⟩
  · refine WpG.go tabOK 6 [(9, .int .i64 0)] rfl ⟨rfl, trivial⟩ ?_
    -- return 1, path F
    exact WpG.ret tabOK (L' := []) (.tmp rfl .nil) (.cons _ (.cons _ .slnil)) ⟨congrArg (Value.int .i64) (by simp [askDef, *]), rfl⟩

theorem Shapes1_calls {H : Hp} {b mb bx : Nat} {v0 v1 v2 lv s1 s2 t1 : Value} {ms : List (Int × DefD)} (hb : HCells H b 0 [v0, v1, v2, lv, s1, s2, t1, .map (some mb)]) (hm : H mb = some (mobj (encm dv ms))) (hx : HCells H bx 0 [.pointer (some ⟨b, 0, none⟩)]) (x w1 w2 bl pos : Int) : CallG Tryz.prog 70 [.int .i64 x, .agg #[.int .i64 w1, .int .i64 w2], .int .i64 bl, .int .i64 pos, .pointer (some ⟨bx, 0, none⟩)] H [] (fun v _ L' => v = .int .i64 (askShape ms x w1 w2 bl pos) ∧ L' = []) := by
  refine CallG.of Tryz.func70 rfl rfl rfl fun w0 => ?_
  change WpG _ _ _ _ _ _ [(0, .int .i64 x), (1, .agg #[.int .i64 w1, .int .i64 w2]), (2, .int .i64 bl), (3, .int .i64 pos), (4, .pointer (some ⟨bx, 0, none⟩))] _ _ _
  refine WpG.go tabOK 2 [(0, .int .i64 x), (1, .agg #[.int .i64 w1, .int .i64 w2]), (4, .pointer (some ⟨bx, 0, none⟩))] rfl ⟨rfl, rfl, rfl, trivial⟩ ?_
  refine WpG.box rfl rfl rfl rfl rfl (fun b1 => ?_)
  refine WpG.go tabOK 4 [(0, .int .i64 x), (4, .pointer (some ⟨bx, 0, none⟩)), (6, .pointer (some ⟨b1, 0, none⟩))] rfl ⟨rfl, rfl, rfl, trivial⟩ ?_
  refine WpG.draw 9 [Chunk.box b1 [.int .i64 w1, .int .i64 w2] 35] mixed (by kernel_rfl) ?_
  refine WpD.go (listed' := lst 9 16) tabOK [4] [(4, .pointer (some ⟨bx, 0, none⟩)), (6, .pointer (some ⟨b1, 0, none⟩)), (14, .int .i64 x)] (by kernel_rfl) rfl ⟨rfl, rfl, rfl, trivial⟩ (Hp.le.refl _) (Hp.le.refl _) (.cons_cons _ .slnil) ?_
  refine WpD.y (i := 0) (fuel := 7) (listed' := lst 9 17) (by kernel_rfl) rfl rfl rfl rfl (Hp.le.refl _) (Hp.le.refl _) (.cons_cons _ .slnil) (RunY.loadH tabOK hx (Hp.le.refl _) rfl rfl rfl rfl) ?_
  refine WpD.go (listed' := lst 9 23) tabOK [1, 2] [(6, .pointer (some ⟨b1, 0, none⟩)), (12, .pointer (some ⟨b, 7, none⟩)), (14, .int .i64 x)] (by kernel_rfl) rfl ⟨rfl, rfl, rfl, trivial⟩ (Hp.le.refl _) (Hp.le.refl _) (.cons_cons _ .slnil) ?_
  refine WpD.y (i := 3) (fuel := 4) (listed' := lst 9 31) (by kernel_rfl) rfl rfl rfl rfl (Hp.le.refl _) (Hp.le.refl _) (.cons_cons _ .slnil) (RunY.loadH tabOK (hb.sub 7 1) (Hp.le.refl _) rfl rfl rfl rfl) ?_
  obtain ⟨X2, hX2⟩ : ∃ X, (mget ms x).getD ⟨0, 0, 0, 0⟩ = X := ⟨_, rfl⟩
  refine WpD.y (i := 5) (fuel := 3) (listed' := lst 9 63) (by kernel_rfl) rfl rfl rfl rfl (Hp.le.refl _) (Hp.le.refl _) (.cons_cons _ .slnil) (RunY.lookupHT dv ⟨0, 0, 0, 0⟩ tabOK hm (Hp.le.refl _) rfl rfl rfl rfl rfl rfl rfl rfl hX2 (ok := false)) ?_
  refine WpD.go (listed' := lst 9 127) tabOK [6] [(6, .pointer (some ⟨b1, 0, none⟩)), (16, .agg #[.int .i64 X2.bits, .int .i64 X2.lanes])] (by kernel_rfl) rfl ⟨rfl, rfl, trivial⟩ (Hp.le.refl _) (Hp.le.refl _) (.cons_cons _ .slnil) ?_
  refine WpD.y (i := 7) (fuel := 1) (listed' := lst 9 255) (by kernel_rfl) rfl rfl rfl rfl (Hp.le.refl _) (Hp.le.refl _) (.cons_cons _ .slnil) (RunY.loadBox (ci := 0) tabOK rfl rfl rfl rfl) ?_
  refine WpD.y (i := 8) (fuel := 0) (listed' := lst 9 511) (by kernel_rfl) rfl rfl rfl rfl (Hp.le.refl _) (Hp.le.refl _) (.cons_cons _ .slnil) (RunY.nePair tabOK rfl rfl rfl rfl rfl rfl rfl (by kernel_rfl)) ?_
  refine WpD.done (by kernel_rfl) ?_
  refine WpG.caseBn (t := 18) rfl (fun q18 => ?_) (fun q18 => ?_)
  · refine WpG.go tabOK 5 [(9, .int .i64 6)] rfl ⟨rfl, trivial⟩ ?_
    -- return 0, path T
    exact WpG.ret tabOK (L' := []) (.tmp rfl .nil) (.cons _ .slnil) ⟨congrArg (Value.int .i64) (by simp_all [askShape]), rfl⟩
  · refine WpG.go tabOK 6 [(9, .int .i64 0)] rfl ⟨rfl, trivial⟩ ?_
    -- return 1, path F
    exact WpG.ret tabOK (L' := []) (.tmp rfl .nil) (.cons _ .slnil) ⟨congrArg (Value.int .i64) (by simp_all [askShape]), rfl⟩

theorem Places1_calls {H : Hp} {b mb bx : Nat} {v0 v1 v2 lv s1 s2 : Value} {At : Option Addr} {ct : Nat} {tl : List Int} (ht : RdS H At tl) {ms : List (Int × DefD)} (hms : Small64 ms) (hb : HCells H b 0 [v0, v1, v2, lv, s1, s2, .slice At tl.length ct, .map (some mb)]) (hm : H mb = some (mobj (encm dv ms))) (hx : HCells H bx 0 [.pointer (some ⟨b, 0, none⟩)]) (x w1 w2 pos : Int) {bl : Int} (kb : I64 bl) : CallG Tryz.prog 71 [.int .i64 x, .agg #[.int .i64 w1, .int .i64 w2], .int .i64 bl, .int .i64 pos, .pointer (some ⟨bx, 0, none⟩)] H [] (fun v _ L' => v = .int .i64 (askPlace ms tl x w1 w2 bl pos) ∧ L' = []) := by
  refine CallG.of Tryz.func71 rfl rfl rfl fun w0 => ?_
  change WpG _ _ _ _ _ _ [(0, .int .i64 x), (1, .agg #[.int .i64 w1, .int .i64 w2]), (2, .int .i64 bl), (3, .int .i64 pos), (4, .pointer (some ⟨bx, 0, none⟩))] _ _ _
  refine WpG.go tabOK 2 [(0, .int .i64 x), (1, .agg #[.int .i64 w1, .int .i64 w2]), (2, .int .i64 bl), (3, .int .i64 pos), (4, .pointer (some ⟨bx, 0, none⟩))] rfl ⟨rfl, rfl, rfl, rfl, rfl, trivial⟩ ?_
  refine WpG.box rfl rfl rfl rfl rfl (fun b1 => ?_)
  refine WpG.go tabOK 4 [(0, .int .i64 x), (2, .int .i64 bl), (3, .int .i64 pos), (4, .pointer (some ⟨bx, 0, none⟩))] rfl ⟨rfl, rfl, rfl, rfl, trivial⟩ ?_
  refine WpG.y rfl rfl rfl rfl (RunY.loadH tabOK hx (Hp.le.refl _) rfl rfl rfl rfl) ?_
  refine WpG.go tabOK 2 [(0, .int .i64 x), (2, .int .i64 bl), (3, .int .i64 pos), (4, .pointer (some ⟨bx, 0, none⟩)), (13, .pointer (some ⟨b, 7, none⟩))] rfl ⟨rfl, rfl, rfl, rfl, rfl, trivial⟩ ?_
  refine WpG.y rfl rfl rfl rfl (RunY.loadH tabOK (hb.sub 7 1) (Hp.le.refl _) rfl rfl rfl rfl) ?_
  refine WpG.go tabOK 1 [(2, .int .i64 bl), (3, .int .i64 pos), (4, .pointer (some ⟨bx, 0, none⟩)), (14, .map (some mb)), (15, .int .i64 x)] rfl ⟨rfl, rfl, rfl, rfl, rfl, trivial⟩ ?_
  obtain ⟨X2, hX2⟩ : ∃ X, (mget ms x).getD ⟨0, 0, 0, 0⟩ = X := ⟨_, rfl⟩
  refine WpG.y rfl rfl rfl rfl (RunY.lookupHT dv ⟨0, 0, 0, 0⟩ tabOK hm (Hp.le.refl _) rfl rfl rfl rfl rfl rfl rfl rfl hX2 (ok := false)) ?_
  refine WpG.alloc tabOK rfl rfl rfl rfl rfl (fun b3 => ?_)
  refine WpG.storeBox (ci := 0) (cs' := [.int .i64 X2.blk, .int .i64 X2.pos, .int .i64 X2.bits, .int .i64 X2.lanes]) tabOK rfl rfl rfl rfl rfl rfl rfl rfl rfl ?_
  refine WpG.setL (L' := [Chunk.box b3 [.int .i64 X2.blk, .int .i64 X2.pos, .int .i64 X2.bits, .int .i64 X2.lanes] 74, Chunk.box b1 [.int .i64 w1, .int .i64 w2] 35]) rfl ?_
  refine WpG.go tabOK 6 [(2, .int .i64 bl), (3, .int .i64 pos), (4, .pointer (some ⟨bx, 0, none⟩)), (10, .pointer (some ⟨b3, 0, none⟩)), (18, .pointer (some ⟨b3, 0, none⟩))] rfl ⟨rfl, rfl, rfl, rfl, rfl, trivial⟩ ?_
  refine WpG.y rfl rfl rfl rfl (RunY.loadBox (ci := 0) tabOK rfl rfl rfl rfl) ?_
  refine WpG.go tabOK 3 [(2, .int .i64 bl), (3, .int .i64 pos), (4, .pointer (some ⟨bx, 0, none⟩)), (10, .pointer (some ⟨b3, 0, none⟩)), (17, .bool (decide (X2.blk < 0)))] rfl ⟨rfl, rfl, rfl, rfl, rfl, trivial⟩ ?_
  refine WpG.caseD (t := 17) rfl (fun q17 => ?_) (fun q17 => ?_)
  · refine WpG.go tabOK 5 [(9, .int .i64 0)] rfl ⟨rfl, trivial⟩ ?_
    -- return 0, path T
    exact WpG.ret tabOK (L' := []) (.tmp rfl .nil) (.cons _ (.cons _ .slnil)) ⟨congrArg (Value.int .i64) (by unfold askPlace; rw [hX2]; first | (exfalso; exact q36 q26) | (simp [placeOK, *]; done) | (simp_all [placeOK]; done) | (simp_all [placeOK]; omega)), rfl⟩
  · refine WpG.go tabOK 5 [(2, .int .i64 bl), (3, .int .i64 pos), (4, .pointer (some ⟨bx, 0, none⟩)), (10, .pointer (some ⟨b3, 0, none⟩)), (22, .pointer (some ⟨b3, 0, none⟩))] rfl ⟨rfl, rfl, rfl, rfl, rfl, trivial⟩ ?_
    refine WpG.y rfl rfl rfl rfl (RunY.loadBox (ci := 0) tabOK rfl rfl rfl rfl) ?_
    refine WpG.go tabOK 3 [(2, .int .i64 bl), (3, .int .i64 pos), (4, .pointer (some ⟨bx, 0, none⟩)), (10, .pointer (some ⟨b3, 0, none⟩)), (26, .bool (X2.blk == bl))] rfl ⟨rfl, rfl, rfl, rfl, rfl, trivial⟩ ?_
    refine WpG.caseE (t := 26) rfl (fun q26 => ?_) (fun q26 => ?_)
    · refine WpG.go tabOK 1 [(2, .int .i64 bl), (3, .int .i64 pos), (4, .pointer (some ⟨bx, 0, none⟩)), (10, .pointer (some ⟨b3, 0, none⟩)), (26, .bool true), (27, .pointer (some ⟨b3, 1, none⟩))] rfl ⟨rfl, rfl, rfl, rfl, rfl, rfl, trivial⟩ ?_
      refine WpG.y rfl rfl rfl rfl (RunY.loadBox (ci := 0) tabOK rfl rfl rfl rfl) ?_
      refine WpG.go tabOK 5 [(2, .int .i64 bl), (4, .pointer (some ⟨bx, 0, none⟩)), (10, .pointer (some ⟨b3, 0, none⟩)), (21, .bool (decide (X2.pos < pos)))] rfl ⟨rfl, rfl, rfl, rfl, trivial⟩ ?_
      refine WpG.caseD (t := 21) rfl (fun q21 => ?_) (fun q21 => ?_)
      · refine WpG.go tabOK 7 [(9, .int .i64 0)] rfl ⟨rfl, trivial⟩ ?_
        -- return 1, path FTT
        exact WpG.ret tabOK (L' := []) (.tmp rfl .nil) (.cons _ (.cons _ .slnil)) ⟨congrArg (Value.int .i64) (by unfold askPlace; rw [hX2]; first | (exfalso; exact q36 q26) | (simp [placeOK, *]; done) | (simp_all [placeOK]; done) | (simp_all [placeOK]; omega)), rfl⟩
      · refine WpG.go tabOK 1 [(2, .int .i64 bl), (4, .pointer (some ⟨bx, 0, none⟩)), (10, .pointer (some ⟨b3, 0, none⟩))] rfl ⟨rfl, rfl, rfl, trivial⟩ ?_
        refine WpG.draw 15 [Chunk.box b3 [.int .i64 X2.blk, .int .i64 X2.pos, .int .i64 X2.bits, .int .i64 X2.lanes] 74, Chunk.box b1 [.int .i64 w1, .int .i64 w2] 35] mixed (by kernel_rfl) ?_
        refine WpD.go (listed' := lst 15 5) tabOK [0, 2] [(2, .int .i64 bl), (4, .pointer (some ⟨bx, 0, none⟩)), (10, .pointer (some ⟨b3, 0, none⟩)), (32, .pointer (some ⟨b3, 0, none⟩)), (34, .int .i64 bl)] (by kernel_rfl) rfl ⟨rfl, rfl, rfl, rfl, rfl, trivial⟩ (Hp.le.refl _) (Hp.le.refl _) (.cons_cons _ (.cons_cons _ .slnil)) ?_
        refine WpD.y (i := 1) (fuel := 12) (listed' := lst 15 7) (by kernel_rfl) rfl rfl rfl rfl (Hp.le.refl _) (Hp.le.refl _) (.cons_cons _ (.cons_cons _ .slnil)) (RunY.loadBox (ci := 0) tabOK rfl rfl rfl rfl) ?_
        refine WpD.go (listed' := lst 15 31) tabOK [3, 4] [(2, .int .i64 bl), (4, .pointer (some ⟨bx, 0, none⟩)), (10, .pointer (some ⟨b3, 0, none⟩)), (36, .bool (X2.blk != bl))] (by kernel_rfl) rfl ⟨rfl, rfl, rfl, rfl, trivial⟩ (Hp.le.refl _) (Hp.le.refl _) (.cons_cons _ (.cons_cons _ .slnil)) ?_
        refine WpD.caseN (t := 36) rfl (fun q36 => ?_) (fun q36 => ?_)
        · refine WpD.go (listed' := lst 15 2591) tabOK [9, 11] [(4, .pointer (some ⟨bx, 0, none⟩)), (36, .bool true), (41, .pointer (some ⟨b3, 0, none⟩)), (43, .int .i64 bl)] (by kernel_rfl) rfl ⟨rfl, rfl, rfl, rfl, trivial⟩ (Hp.le.refl _) (Hp.le.refl _) (.cons_cons _ (.cons_cons _ .slnil)) ?_
          refine WpD.y (i := 5) (fuel := 7) (listed' := lst 15 2623) (by kernel_rfl) rfl rfl rfl rfl (Hp.le.refl _) (Hp.le.refl _) (.cons_cons _ (.cons_cons _ .slnil)) (RunY.loadH tabOK hx (Hp.le.refl _) rfl rfl rfl rfl) ?_
          refine WpD.go (listed' := lst 15 2815) tabOK [6, 7] [(36, .bool true), (39, .pointer (some ⟨b, 6, none⟩)), (41, .pointer (some ⟨b3, 0, none⟩)), (43, .int .i64 bl)] (by kernel_rfl) rfl ⟨rfl, rfl, rfl, rfl, trivial⟩ (Hp.le.refl _) (Hp.le.refl _) (.cons_cons _ (.cons_cons _ .slnil)) ?_
          refine WpD.y (i := 8) (fuel := 4) (listed' := lst 15 3071) (by kernel_rfl) rfl rfl rfl rfl (Hp.le.refl _) (Hp.le.refl _) (.cons_cons _ (.cons_cons _ .slnil)) (RunY.loadH tabOK (hb.sub 6 1) (Hp.le.refl _) rfl rfl rfl rfl) ?_
          refine WpD.y (i := 10) (fuel := 3) (listed' := lst 15 4095) (by kernel_rfl) rfl rfl rfl rfl (Hp.le.refl _) (Hp.le.refl _) (.cons_cons _ (.cons_cons _ .slnil)) (RunY.loadBox (ci := 0) tabOK rfl rfl rfl rfl) ?_
          refine WpD.callS (i := 12) (fuel := 2) (listed' := lst 15 8191) (by kernel_rfl) rfl rfl rfl rfl rfl rfl (Hp.le.refl _) (Over_calls ht (hX2 ▸ hms x) kb) (Hp.le.refl _) (Hp.le.refl _) (.cons_cons _ (.cons_cons _ .slnil)) ?_
          refine WpD.go (listed' := lst 15 32767) tabOK [13, 14] [(21, .bool (overD tl X2.blk bl))] (by kernel_rfl) rfl ⟨rfl, trivial⟩ (Hp.le.refl _) (Hp.le.refl _) (.cons_cons _ (.cons_cons _ .slnil)) ?_
          refine WpD.done (by kernel_rfl) ?_
          refine WpG.caseB (t := 21) rfl (fun q21_2 => ?_) (fun q21_2 => ?_)
          · refine WpG.go tabOK 5 [(9, .int .i64 0)] rfl ⟨rfl, trivial⟩ ?_
            -- return 2, path FTFTT
            exact WpG.ret tabOK (L' := []) (.tmp rfl .nil) (.cons _ (.cons _ .slnil)) ⟨congrArg (Value.int .i64) (by unfold askPlace; rw [hX2]; first | (exfalso; exact q36 q26) | (simp [placeOK, *]; done) | (simp_all [placeOK]; done) | (simp_all [placeOK]; omega)), rfl⟩
          · refine WpG.go tabOK 7 [(9, .int .i64 7)] rfl ⟨rfl, trivial⟩ ?_
            -- return 3, path FTFTF
            exact WpG.ret tabOK (L' := []) (.tmp rfl .nil) (.cons _ (.cons _ .slnil)) ⟨congrArg (Value.int .i64) (by unfold askPlace; rw [hX2]; first | (exfalso; exact q36 q26) | (simp [placeOK, *]; done) | (simp_all [placeOK]; done) | (simp_all [placeOK]; omega)), rfl⟩
        · refine WpD.go (listed' := lst 15 32767) tabOK [5, 6, 7, 8, 9, 10, 11, 12, 13, 14] [(21, .bool false)] (by kernel_rfl) rfl ⟨rfl, trivial⟩ (Hp.le.refl _) (Hp.le.refl _) (.cons_cons _ (.cons_cons _ .slnil)) ?_
          refine WpD.done (by kernel_rfl) ?_
          refine WpG.go tabOK 7 [(9, .int .i64 7)] rfl ⟨rfl, trivial⟩ ?_
          -- return 4, path FTFF
          exact WpG.ret tabOK (L' := []) (.tmp rfl .nil) (.cons _ (.cons _ .slnil)) ⟨congrArg (Value.int .i64) (by unfold askPlace; rw [hX2]; first | (exfalso; exact q36 q26) | (simp [placeOK, *]; done) | (simp_all [placeOK]; done) | (simp_all [placeOK]; omega)), rfl⟩
    · refine WpG.go tabOK 8 [(2, .int .i64 bl), (4, .pointer (some ⟨bx, 0, none⟩)), (10, .pointer (some ⟨b3, 0, none⟩))] rfl ⟨rfl, rfl, rfl, trivial⟩ ?_
      refine WpG.draw 15 [Chunk.box b3 [.int .i64 X2.blk, .int .i64 X2.pos, .int .i64 X2.bits, .int .i64 X2.lanes] 74, Chunk.box b1 [.int .i64 w1, .int .i64 w2] 35] mixed (by kernel_rfl) ?_
      refine WpD.go (listed' := lst 15 5) tabOK [0, 2] [(2, .int .i64 bl), (4, .pointer (some ⟨bx, 0, none⟩)), (10, .pointer (some ⟨b3, 0, none⟩)), (32, .pointer (some ⟨b3, 0, none⟩)), (34, .int .i64 bl)] (by kernel_rfl) rfl ⟨rfl, rfl, rfl, rfl, rfl, trivial⟩ (Hp.le.refl _) (Hp.le.refl _) (.cons_cons _ (.cons_cons _ .slnil)) ?_
      refine WpD.y (i := 1) (fuel := 12) (listed' := lst 15 7) (by kernel_rfl) rfl rfl rfl rfl (Hp.le.refl _) (Hp.le.refl _) (.cons_cons _ (.cons_cons _ .slnil)) (RunY.loadBox (ci := 0) tabOK rfl rfl rfl rfl) ?_
      refine WpD.go (listed' := lst 15 31) tabOK [3, 4] [(2, .int .i64 bl), (4, .pointer (some ⟨bx, 0, none⟩)), (10, .pointer (some ⟨b3, 0, none⟩)), (36, .bool (X2.blk != bl))] (by kernel_rfl) rfl ⟨rfl, rfl, rfl, rfl, trivial⟩ (Hp.le.refl _) (Hp.le.refl _) (.cons_cons _ (.cons_cons _ .slnil)) ?_
      refine WpD.caseN (t := 36) rfl (fun q36 => ?_) (fun q36 => ?_)
      · refine WpD.go (listed' := lst 15 2591) tabOK [9, 11] [(4, .pointer (some ⟨bx, 0, none⟩)), (36, .bool true), (41, .pointer (some ⟨b3, 0, none⟩)), (43, .int .i64 bl)] (by kernel_rfl) rfl ⟨rfl, rfl, rfl, rfl, trivial⟩ (Hp.le.refl _) (Hp.le.refl _) (.cons_cons _ (.cons_cons _ .slnil)) ?_
        refine WpD.y (i := 5) (fuel := 7) (listed' := lst 15 2623) (by kernel_rfl) rfl rfl rfl rfl (Hp.le.refl _) (Hp.le.refl _) (.cons_cons _ (.cons_cons _ .slnil)) (RunY.loadH tabOK hx (Hp.le.refl _) rfl rfl rfl rfl) ?_
        refine WpD.go (listed' := lst 15 2815) tabOK [6, 7] [(36, .bool true), (39, .pointer (some ⟨b, 6, none⟩)), (41, .pointer (some ⟨b3, 0, none⟩)), (43, .int .i64 bl)] (by kernel_rfl) rfl ⟨rfl, rfl, rfl, rfl, trivial⟩ (Hp.le.refl _) (Hp.le.refl _) (.cons_cons _ (.cons_cons _ .slnil)) ?_
        refine WpD.y (i := 8) (fuel := 4) (listed' := lst 15 3071) (by kernel_rfl) rfl rfl rfl rfl (Hp.le.refl _) (Hp.le.refl _) (.cons_cons _ (.cons_cons _ .slnil)) (RunY.loadH tabOK (hb.sub 6 1) (Hp.le.refl _) rfl rfl rfl rfl) ?_
        refine WpD.y (i := 10) (fuel := 3) (listed' := lst 15 4095) (by kernel_rfl) rfl rfl rfl rfl (Hp.le.refl _) (Hp.le.refl _) (.cons_cons _ (.cons_cons _ .slnil)) (RunY.loadBox (ci := 0) tabOK rfl rfl rfl rfl) ?_
        refine WpD.callS (i := 12) (fuel := 2) (listed' := lst 15 8191) (by kernel_rfl) rfl rfl rfl rfl rfl rfl (Hp.le.refl _) (Over_calls ht (hX2 ▸ hms x) kb) (Hp.le.refl _) (Hp.le.refl _) (.cons_cons _ (.cons_cons _ .slnil)) ?_
        refine WpD.go (listed' := lst 15 32767) tabOK [13, 14] [(21, .bool (overD tl X2.blk bl))] (by kernel_rfl) rfl ⟨rfl, trivial⟩ (Hp.le.refl _) (Hp.le.refl _) (.cons_cons _ (.cons_cons _ .slnil)) ?_
        refine WpD.done (by kernel_rfl) ?_
        refine WpG.caseB (t := 21) rfl (fun q21 => ?_) (fun q21 => ?_)
        · refine WpG.go tabOK 5 [(9, .int .i64 0)] rfl ⟨rfl, trivial⟩ ?_
          -- return 5, path FFTT
          exact WpG.ret tabOK (L' := []) (.tmp rfl .nil) (.cons _ (.cons _ .slnil)) ⟨congrArg (Value.int .i64) (by unfold askPlace; rw [hX2]; first | (exfalso; exact q36 q26) | (simp [placeOK, *]; done) | (simp_all [placeOK]; done) | (simp_all [placeOK]; omega)), rfl⟩
        · refine WpG.go tabOK 7 [(9, .int .i64 7)] rfl ⟨rfl, trivial⟩ ?_
          -- return 6, path FFTF
          exact WpG.ret tabOK (L' := []) (.tmp rfl .nil) (.cons _ (.cons _ .slnil)) ⟨congrArg (Value.int .i64) (by unfold askPlace; rw [hX2]; first | (exfalso; exact q36 q26) | (simp [placeOK, *]; done) | (simp_all [placeOK]; done) | (simp_all [placeOK]; omega)), rfl⟩
      · refine WpD.go (listed' := lst 15 32767) tabOK [5, 6, 7, 8, 9, 10, 11, 12, 13, 14] [(21, .bool false)] (by kernel_rfl) rfl ⟨rfl, trivial⟩ (Hp.le.refl _) (Hp.le.refl _) (.cons_cons _ (.cons_cons _ .slnil)) ?_
        refine WpD.done (by kernel_rfl) ?_
        refine WpG.go tabOK 7 [(9, .int .i64 7)] rfl ⟨rfl, trivial⟩ ?_
        -- return 7, path FFF
        exact WpG.ret tabOK (L' := []) (.tmp rfl .nil) (.cons _ (.cons _ .slnil)) ⟨congrArg (Value.int .i64) (by unfold askPlace; rw [hX2]; first | (exfalso; exact q36 q26) | (simp [placeOK, *]; done) | (simp_all [placeOK]; done) | (simp_all [placeOK]; omega)), rfl⟩
end Go.Proofs.YtdjemlkllbhdlaaGreat

/- The walk of what shows that the program is awake. -/
import Derived.Test.YtdjemlkllbhdlaaGreatSpec14
set_option linter.unusedVariables false
set_option linter.unusedSimpArgs false
namespace Go.Proofs.YtdjemlkllbhdlaaGreat
open Go Go.RowKit
theorem awake_calls {H : Hp} : CallG Tryz.prog 8 [] H [] (fun v _ L' => v = .bool (true) ∧ L' = []) := by
  refine CallG.of Tryz.func8 rfl rfl rfl fun w0 => ?_
  change WpG _ _ _ _ _ _ [] _ _ _
  refine WpG.go tabOK 6 [] rfl trivial ?_
  refine WpG.buildSlice (xs := [.int .i64 8]) tabOK rfl rfl rfl rfl rfl rfl rfl rfl rfl rfl (fun b1 => ?_)
  refine WpG.buildSlice (xs := [.int .i64 1, .int .i64 1]) tabOK rfl rfl rfl rfl rfl rfl rfl rfl rfl rfl (fun b3 => ?_)
  refine WpG.go tabOK 1 [(6, .slice (some ⟨b1, 0, none⟩) 1 1), (8, .agg #[.int .i64 1, .int .i64 8, .int .i64 1, .int .i64 2, .slice (some ⟨b3, 0, none⟩) 2 2, .int .u64 0])] rfl ⟨rfl, rfl, trivial⟩ ?_
  refine WpG.buildSlice (xs := [.int .i64 1, .int .i64 8, .int .i64 1, .int .i64 2, .slice (some ⟨b3, 0, none⟩) 2 2, .int .u64 0]) tabOK rfl rfl rfl rfl rfl rfl rfl rfl rfl rfl (fun b5 => ?_)
  refine WpG.go tabOK 2 [(6, .slice (some ⟨b1, 0, none⟩) 1 1), (11, .agg #[.slice none 0 0, .slice (some ⟨b5, 0, none⟩) 1 1, .int .i64 0, .int .i64 2, .slice none 0 0])] rfl ⟨rfl, rfl, trivial⟩ ?_
  refine WpG.buildSlice (xs := [.slice none 0 0, .slice (some ⟨b5, 0, none⟩) 1 1, .int .i64 0, .int .i64 2, .slice none 0 0]) tabOK rfl rfl rfl rfl rfl rfl rfl rfl rfl rfl (fun b7 => ?_)
  refine WpG.go tabOK 1 [(13, .agg #[.slice (some ⟨b1, 0, none⟩) 1 1, .int .i64 8, .slice (some ⟨b7, 0, none⟩) 1 1])] rfl ⟨rfl, trivial⟩ ?_
  refine WpG.alloc tabOK rfl rfl rfl rfl rfl (fun b9 => ?_)
  refine WpG.storeBox (ci := 0) (cs' := [.slice (some ⟨b1, 0, none⟩) 1 1, .int .i64 8, .slice (some ⟨b7, 0, none⟩) 1 1]) tabOK rfl rfl rfl rfl rfl rfl rfl rfl rfl ?_
  refine WpG.setL (L' := [Chunk.box b9 [.slice (some ⟨b1, 0, none⟩) 1 1, .int .i64 8, .slice (some ⟨b7, 0, none⟩) 1 1] 25, Chunk.own 44 5 (some ⟨b7, 0, none⟩) 1 1 [.slice none 0 0, .slice (some ⟨b5, 0, none⟩) 1 1, .int .i64 0, .int .i64 2, .slice none 0 0], Chunk.own 47 6 (some ⟨b5, 0, none⟩) 1 1 [.int .i64 1, .int .i64 8, .int .i64 1, .int .i64 2, .slice (some ⟨b3, 0, none⟩) 2 2, .int .u64 0], Chunk.own 3 1 (some ⟨b3, 0, none⟩) 2 2 [.int .i64 1, .int .i64 1], Chunk.own 3 1 (some ⟨b1, 0, none⟩) 1 1 [.int .i64 8]]) rfl ?_
  refine WpG.go tabOK 3 [(1, .pointer (some ⟨b9, 0, none⟩))] rfl ⟨rfl, trivial⟩ ?_
  refine WpG.y rfl rfl rfl rfl (RunY.loadBox (ci := 0) tabOK rfl rfl rfl rfl) ?_
  refine WpG.callM (post := fun v L' => ∃ e, v = .int .i64 e ∧ CheckIs (fA 2) 0 e ∧ L' = []) rfl rfl rfl rfl rfl rfl ⟨_, Tryz.func10, rfl, rfl⟩ (fun H1 hz => ?_) ?_
  · have rp : RdS H1 (some ⟨b1, 0, none⟩) [(8 : Int)] := RdS.of_own (H := H1) (show RdL H1 [.int .i64 8] [(8 : Int)] from RdL_ints [8] ⟨⟨by decide, by decide⟩, trivial⟩) rfl (by decide) (Hp.le.refl _) (hz.own (ci := 4) rfl)
    have ra : RdS H1 (some ⟨b3, 0, none⟩) [(1 : Int), 1] := RdS.of_own (H := H1) (show RdL H1 [.int .i64 1, .int .i64 1] [(1 : Int), 1] from RdL_ints [1, 1] ⟨⟨by decide, by decide⟩, ⟨by decide, by decide⟩, trivial⟩) rfl (by decide) (Hp.le.refl _) (hz.own (ci := 3) rfl)
    have ro : RdS H1 (some ⟨b5, 0, none⟩) [(⟨1, 8, 1, 2, [1, 1], 0⟩ : OpD)] := RdS.of_own (H := H1) (show RdL H1 [.int .i64 1, .int .i64 8, .int .i64 1, .int .i64 2, .slice (some ⟨b3, 0, none⟩) 2 2, .int .u64 0] [(⟨1, 8, 1, 2, [1, 1], 0⟩ : OpD)] from ⟨_, _, rfl, ⟨_, _, rfl, by decide, ra, ⟨by decide, by decide⟩, ⟨by decide, by decide⟩, ⟨by decide, by decide⟩, ⟨by decide, by decide⟩, ⟨by decide, by decide⟩⟩, rfl⟩) rfl (by decide) (Hp.le.refl _) (hz.own (ci := 2) rfl)
    have rb : RdS H1 (some ⟨b7, 0, none⟩) (fA 2).blocks := RdS.of_own (H := H1) (show RdL H1 [.slice none 0 0, .slice (some ⟨b5, 0, none⟩) 1 1, .int .i64 0, .int .i64 2, .slice none 0 0] (fA 2).blocks from ⟨_, _, rfl, ⟨_, _, _, _, _, _, rfl, Nat.le_refl _, RdS.nil _ _, by decide, ro, Nat.le_refl _, RdS.nil _ _, ⟨by decide, by decide⟩, ⟨by decide, by decide⟩⟩, rfl⟩) rfl (by decide) (Hp.le.refl _) (hz.own (ci := 1) rfl)
    exact Check_calls (f := fA 2) (by decide) rp (by decide) rb (show I64 8 from ⟨by decide, by decide⟩) 0
  rintro _ L1 ⟨e10, rfl, hc10, rfl⟩
  obtain rfl : e10 = 0 := (check_at hc10 (by decide) (by decide)).same isA20
  refine WpG.setL (L' := [Chunk.box b9 [.slice (some ⟨b1, 0, none⟩) 1 1, .int .i64 8, .slice (some ⟨b7, 0, none⟩) 1 1] 25, Chunk.own 44 5 (some ⟨b7, 0, none⟩) 1 1 [.slice none 0 0, .slice (some ⟨b5, 0, none⟩) 1 1, .int .i64 0, .int .i64 2, .slice none 0 0], Chunk.own 47 6 (some ⟨b5, 0, none⟩) 1 1 [.int .i64 1, .int .i64 8, .int .i64 1, .int .i64 2, .slice (some ⟨b3, 0, none⟩) 2 2, .int .u64 0], Chunk.own 3 1 (some ⟨b3, 0, none⟩) 2 2 [.int .i64 1, .int .i64 1], Chunk.own 3 1 (some ⟨b1, 0, none⟩) 1 1 [.int .i64 8]]) rfl ?_
  refine WpG.go tabOK 4 [(1, .pointer (some ⟨b9, 0, none⟩)), (2, .int .i64 0)] rfl ⟨rfl, rfl, trivial⟩ ?_
  refine WpG.y rfl rfl rfl rfl (RunY.loadBox (ci := 0) tabOK rfl rfl rfl rfl) ?_
  refine WpG.callM (post := fun v L' => v = .int .i64 (lastD (fA 2)) ∧ L' = []) rfl rfl rfl rfl rfl rfl ⟨_, Tryz.func12, rfl, rfl⟩ (fun H1 hz => ?_) ?_
  · have rp : RdS H1 (some ⟨b1, 0, none⟩) [(8 : Int)] := RdS.of_own (H := H1) (show RdL H1 [.int .i64 8] [(8 : Int)] from RdL_ints [8] ⟨⟨by decide, by decide⟩, trivial⟩) rfl (by decide) (Hp.le.refl _) (hz.own (ci := 4) rfl)
    have ra : RdS H1 (some ⟨b3, 0, none⟩) [(1 : Int), 1] := RdS.of_own (H := H1) (show RdL H1 [.int .i64 1, .int .i64 1] [(1 : Int), 1] from RdL_ints [1, 1] ⟨⟨by decide, by decide⟩, ⟨by decide, by decide⟩, trivial⟩) rfl (by decide) (Hp.le.refl _) (hz.own (ci := 3) rfl)
    have ro : RdS H1 (some ⟨b5, 0, none⟩) [(⟨1, 8, 1, 2, [1, 1], 0⟩ : OpD)] := RdS.of_own (H := H1) (show RdL H1 [.int .i64 1, .int .i64 8, .int .i64 1, .int .i64 2, .slice (some ⟨b3, 0, none⟩) 2 2, .int .u64 0] [(⟨1, 8, 1, 2, [1, 1], 0⟩ : OpD)] from ⟨_, _, rfl, ⟨_, _, rfl, by decide, ra, ⟨by decide, by decide⟩, ⟨by decide, by decide⟩, ⟨by decide, by decide⟩, ⟨by decide, by decide⟩, ⟨by decide, by decide⟩⟩, rfl⟩) rfl (by decide) (Hp.le.refl _) (hz.own (ci := 2) rfl)
    have rb : RdS H1 (some ⟨b7, 0, none⟩) (fA 2).blocks := RdS.of_own (H := H1) (show RdL H1 [.slice none 0 0, .slice (some ⟨b5, 0, none⟩) 1 1, .int .i64 0, .int .i64 2, .slice none 0 0] (fA 2).blocks from ⟨_, _, rfl, ⟨_, _, _, _, _, _, rfl, Nat.le_refl _, RdS.nil _ _, by decide, ro, Nat.le_refl _, RdS.nil _ _, ⟨by decide, by decide⟩, ⟨by decide, by decide⟩⟩, rfl⟩) rfl (by decide) (Hp.le.refl _) (hz.own (ci := 1) rfl)
    exact Last_calls (f := fA 2) (by decide) rp (by decide) rb (show I64 8 from ⟨by decide, by decide⟩)
  rintro _ L1 ⟨rfl, rfl⟩
  refine WpG.setL (L' := [Chunk.box b9 [.slice (some ⟨b1, 0, none⟩) 1 1, .int .i64 8, .slice (some ⟨b7, 0, none⟩) 1 1] 25, Chunk.own 44 5 (some ⟨b7, 0, none⟩) 1 1 [.slice none 0 0, .slice (some ⟨b5, 0, none⟩) 1 1, .int .i64 0, .int .i64 2, .slice none 0 0], Chunk.own 47 6 (some ⟨b5, 0, none⟩) 1 1 [.int .i64 1, .int .i64 8, .int .i64 1, .int .i64 2, .slice (some ⟨b3, 0, none⟩) 2 2, .int .u64 0], Chunk.own 3 1 (some ⟨b3, 0, none⟩) 2 2 [.int .i64 1, .int .i64 1], Chunk.own 3 1 (some ⟨b1, 0, none⟩) 1 1 [.int .i64 8]]) rfl ?_
  refine WpG.go tabOK 4 [(1, .pointer (some ⟨b9, 0, none⟩)), (2, .int .i64 0), (3, .int .i64 2)] rfl ⟨rfl, rfl, rfl, trivial⟩ ?_
  refine WpG.y rfl rfl rfl rfl (RunY.loadBox (ci := 0) tabOK rfl rfl rfl rfl) ?_
  refine WpG.callM (post := fun v L' => ∃ e, CodeIs (fA 2) 2 e ∧ ((e ≠ 0 ∧ v = .map none ∧ L' = []) ∨ (e = 0 ∧ ∃ ms mb ss, defsD (fA 2) = some ms ∧ v = .map (some mb) ∧ ShapeMap ms ss ∧ L' = [Chunk.imap mb (encm prv ss)]))) rfl rfl rfl rfl rfl rfl ⟨_, Tryz.func14, rfl, rfl⟩ (fun H1 hz => ?_) ?_
  · have rp : RdS H1 (some ⟨b1, 0, none⟩) [(8 : Int)] := RdS.of_own (H := H1) (show RdL H1 [.int .i64 8] [(8 : Int)] from RdL_ints [8] ⟨⟨by decide, by decide⟩, trivial⟩) rfl (by decide) (Hp.le.refl _) (hz.own (ci := 4) rfl)
    have ra : RdS H1 (some ⟨b3, 0, none⟩) [(1 : Int), 1] := RdS.of_own (H := H1) (show RdL H1 [.int .i64 1, .int .i64 1] [(1 : Int), 1] from RdL_ints [1, 1] ⟨⟨by decide, by decide⟩, ⟨by decide, by decide⟩, trivial⟩) rfl (by decide) (Hp.le.refl _) (hz.own (ci := 3) rfl)
    have ro : RdS H1 (some ⟨b5, 0, none⟩) [(⟨1, 8, 1, 2, [1, 1], 0⟩ : OpD)] := RdS.of_own (H := H1) (show RdL H1 [.int .i64 1, .int .i64 8, .int .i64 1, .int .i64 2, .slice (some ⟨b3, 0, none⟩) 2 2, .int .u64 0] [(⟨1, 8, 1, 2, [1, 1], 0⟩ : OpD)] from ⟨_, _, rfl, ⟨_, _, rfl, by decide, ra, ⟨by decide, by decide⟩, ⟨by decide, by decide⟩, ⟨by decide, by decide⟩, ⟨by decide, by decide⟩, ⟨by decide, by decide⟩⟩, rfl⟩) rfl (by decide) (Hp.le.refl _) (hz.own (ci := 2) rfl)
    have rb : RdS H1 (some ⟨b7, 0, none⟩) (fA 2).blocks := RdS.of_own (H := H1) (show RdL H1 [.slice none 0 0, .slice (some ⟨b5, 0, none⟩) 1 1, .int .i64 0, .int .i64 2, .slice none 0 0] (fA 2).blocks from ⟨_, _, rfl, ⟨_, _, _, _, _, _, rfl, Nat.le_refl _, RdS.nil _ _, by decide, ro, Nat.le_refl _, RdS.nil _ _, ⟨by decide, by decide⟩, ⟨by decide, by decide⟩⟩, rfl⟩) rfl (by decide) (Hp.le.refl _) (hz.own (ci := 1) rfl)
    exact Shapes_calls (f := fA 2) (by decide) rp (by decide) rb (show I64 8 from ⟨by decide, by decide⟩)
  rintro _ L1 ⟨e12, hc12, hs12⟩
  obtain rfl : e12 = 0 := hc12.same isA22
  obtain ⟨hne, -⟩ | ⟨-, ms, mb, ss, hms, rfl, hss, rfl⟩ := hs12
  · exact absurd rfl hne
  obtain rfl : msA = ms := Option.some.inj (defsA.symm.trans hms)
  have hsl : ss.length = 2 := hss.1
  have hs2 : (mget ss 2).getD (0, 0) = (8, 1) := by rw [hss.2]; rfl
  refine WpG.setL (L' := [Chunk.imap mb (encm prv ss), Chunk.box b9 [.slice (some ⟨b1, 0, none⟩) 1 1, .int .i64 8, .slice (some ⟨b7, 0, none⟩) 1 1] 25, Chunk.own 44 5 (some ⟨b7, 0, none⟩) 1 1 [.slice none 0 0, .slice (some ⟨b5, 0, none⟩) 1 1, .int .i64 0, .int .i64 2, .slice none 0 0], Chunk.own 47 6 (some ⟨b5, 0, none⟩) 1 1 [.int .i64 1, .int .i64 8, .int .i64 1, .int .i64 2, .slice (some ⟨b3, 0, none⟩) 2 2, .int .u64 0], Chunk.own 3 1 (some ⟨b3, 0, none⟩) 2 2 [.int .i64 1, .int .i64 1], Chunk.own 3 1 (some ⟨b1, 0, none⟩) 1 1 [.int .i64 8]]) rfl ?_
  refine WpG.go tabOK 5 [(1, .pointer (some ⟨b9, 0, none⟩)), (2, .int .i64 0), (3, .int .i64 2), (4, .map (some mb)), (20, .pointer (some ⟨b9, 2, none⟩))] rfl ⟨rfl, rfl, rfl, rfl, rfl, trivial⟩ ?_
  refine WpG.y rfl rfl rfl rfl (RunY.loadBox (ci := 1) tabOK rfl rfl rfl rfl) ?_
  refine WpG.y rfl rfl rfl rfl (RunY.indexAddr tabOK rfl rfl rfl rfl rfl (by decide) (by decide)) ?_
  refine WpG.go tabOK 2 [(1, .pointer (some ⟨b9, 0, none⟩)), (2, .int .i64 0), (3, .int .i64 2), (4, .map (some mb)), (24, .pointer (some ⟨b7, 3, none⟩))] rfl ⟨rfl, rfl, rfl, rfl, rfl, trivial⟩ ?_
  refine WpG.storeOwn (ci := 2) (xs' := [.slice none 0 0, .slice (some ⟨b5, 0, none⟩) 1 1, .int .i64 0, .int .i64 3, .slice none 0 0]) tabOK rfl rfl rfl rfl rfl rfl rfl rfl rfl ?_
  refine WpG.setL (L' := [Chunk.imap mb (encm prv ss), Chunk.box b9 [.slice (some ⟨b1, 0, none⟩) 1 1, .int .i64 8, .slice (some ⟨b7, 0, none⟩) 1 1] 25, Chunk.own 44 5 (some ⟨b7, 0, none⟩) 1 1 [.slice none 0 0, .slice (some ⟨b5, 0, none⟩) 1 1, .int .i64 0, .int .i64 3, .slice none 0 0], Chunk.own 47 6 (some ⟨b5, 0, none⟩) 1 1 [.int .i64 1, .int .i64 8, .int .i64 1, .int .i64 2, .slice (some ⟨b3, 0, none⟩) 2 2, .int .u64 0], Chunk.own 3 1 (some ⟨b3, 0, none⟩) 2 2 [.int .i64 1, .int .i64 1], Chunk.own 3 1 (some ⟨b1, 0, none⟩) 1 1 [.int .i64 8]]) rfl ?_
  refine WpG.go tabOK 3 [(1, .pointer (some ⟨b9, 0, none⟩)), (2, .int .i64 0), (3, .int .i64 2), (4, .map (some mb))] rfl ⟨rfl, rfl, rfl, rfl, trivial⟩ ?_
  refine WpG.y rfl rfl rfl rfl (RunY.loadBox (ci := 1) tabOK rfl rfl rfl rfl) ?_
  refine WpG.callM (post := fun v L' => ∃ e, v = .int .i64 e ∧ CheckIs (fA 3) 0 e ∧ L' = []) rfl rfl rfl rfl rfl rfl ⟨_, Tryz.func10, rfl, rfl⟩ (fun H1 hz => ?_) ?_
  · have rp : RdS H1 (some ⟨b1, 0, none⟩) [(8 : Int)] := RdS.of_own (H := H1) (show RdL H1 [.int .i64 8] [(8 : Int)] from RdL_ints [8] ⟨⟨by decide, by decide⟩, trivial⟩) rfl (by decide) (Hp.le.refl _) (hz.own (ci := 5) rfl)
    have ra : RdS H1 (some ⟨b3, 0, none⟩) [(1 : Int), 1] := RdS.of_own (H := H1) (show RdL H1 [.int .i64 1, .int .i64 1] [(1 : Int), 1] from RdL_ints [1, 1] ⟨⟨by decide, by decide⟩, ⟨by decide, by decide⟩, trivial⟩) rfl (by decide) (Hp.le.refl _) (hz.own (ci := 4) rfl)
    have ro : RdS H1 (some ⟨b5, 0, none⟩) [(⟨1, 8, 1, 2, [1, 1], 0⟩ : OpD)] := RdS.of_own (H := H1) (show RdL H1 [.int .i64 1, .int .i64 8, .int .i64 1, .int .i64 2, .slice (some ⟨b3, 0, none⟩) 2 2, .int .u64 0] [(⟨1, 8, 1, 2, [1, 1], 0⟩ : OpD)] from ⟨_, _, rfl, ⟨_, _, rfl, by decide, ra, ⟨by decide, by decide⟩, ⟨by decide, by decide⟩, ⟨by decide, by decide⟩, ⟨by decide, by decide⟩, ⟨by decide, by decide⟩⟩, rfl⟩) rfl (by decide) (Hp.le.refl _) (hz.own (ci := 3) rfl)
    have rb : RdS H1 (some ⟨b7, 0, none⟩) (fA 3).blocks := RdS.of_own (H := H1) (show RdL H1 [.slice none 0 0, .slice (some ⟨b5, 0, none⟩) 1 1, .int .i64 0, .int .i64 3, .slice none 0 0] (fA 3).blocks from ⟨_, _, rfl, ⟨_, _, _, _, _, _, rfl, Nat.le_refl _, RdS.nil _ _, by decide, ro, Nat.le_refl _, RdS.nil _ _, ⟨by decide, by decide⟩, ⟨by decide, by decide⟩⟩, rfl⟩) rfl (by decide) (Hp.le.refl _) (hz.own (ci := 2) rfl)
    exact Check_calls (f := fA 3) (by decide) rp (by decide) rb (show I64 8 from ⟨by decide, by decide⟩) 0
  rintro _ L1 ⟨e13, rfl, hc13, rfl⟩
  obtain rfl : e13 = 7 := (check_at hc13 (by decide) (by decide)).same isA30
  refine WpG.setL (L' := [Chunk.imap mb (encm prv ss), Chunk.box b9 [.slice (some ⟨b1, 0, none⟩) 1 1, .int .i64 8, .slice (some ⟨b7, 0, none⟩) 1 1] 25, Chunk.own 44 5 (some ⟨b7, 0, none⟩) 1 1 [.slice none 0 0, .slice (some ⟨b5, 0, none⟩) 1 1, .int .i64 0, .int .i64 3, .slice none 0 0], Chunk.own 47 6 (some ⟨b5, 0, none⟩) 1 1 [.int .i64 1, .int .i64 8, .int .i64 1, .int .i64 2, .slice (some ⟨b3, 0, none⟩) 2 2, .int .u64 0], Chunk.own 3 1 (some ⟨b3, 0, none⟩) 2 2 [.int .i64 1, .int .i64 1], Chunk.own 3 1 (some ⟨b1, 0, none⟩) 1 1 [.int .i64 8]]) rfl ?_
  refine WpG.go tabOK 12 [(1, .pointer (some ⟨b9, 0, none⟩)), (4, .map (some mb)), (5, .int .i64 7), (33, .bool true), (34, .map (some mb))] rfl ⟨rfl, rfl, rfl, rfl, rfl, trivial⟩ ?_
  refine WpG.y rfl rfl rfl rfl (RunY.lenMapT (ci := 0) tabOK rfl rfl rfl rfl) ?_
  refine WpG.go tabOK 3 [(1, .pointer (some ⟨b9, 0, none⟩)), (4, .map (some mb)), (5, .int .i64 7), (38, .bool ((ss.length : Int) == 2))] rfl ⟨rfl, rfl, rfl, rfl, trivial⟩ ?_
  refine WpG.caseE (t := 38) rfl (fun q38 => ?_) (fun q38 => ?_)
  · refine WpG.go tabOK 1 [(1, .pointer (some ⟨b9, 0, none⟩)), (5, .int .i64 7), (38, .bool true), (39, .map (some mb))] rfl ⟨rfl, rfl, rfl, rfl, trivial⟩ ?_
    obtain ⟨X14, hX14⟩ : ∃ X, (mget ss 2).getD (0, 0) = X := ⟨_, rfl⟩
    have hx14 : X14 = (8, 1) := by rw [← hX14, hs2]
    refine WpG.y rfl rfl rfl rfl (RunY.lookupT prv (0, 0) (ci := 0) tabOK rfl rfl rfl rfl rfl rfl rfl rfl rfl hX14 (ok := false)) ?_
    refine WpG.go tabOK 1 [(1, .pointer (some ⟨b9, 0, none⟩)), (5, .int .i64 7), (38, .bool true), (40, .agg #[.int .i64 X14.1, .int .i64 X14.2]), (41, .agg #[.int .i64 8, .int .i64 1])] rfl ⟨rfl, rfl, rfl, rfl, rfl, trivial⟩ ?_
    refine WpG.y rfl rfl rfl rfl (RunY.eqPair tabOK rfl rfl rfl rfl rfl rfl rfl (by kernel_rfl)) ?_
    refine WpG.go tabOK 2 [(1, .pointer (some ⟨b9, 0, none⟩)), (5, .int .i64 7), (44, .bool (decide (X14.1 = 8) && decide (X14.2 = 1)))] rfl ⟨rfl, rfl, rfl, trivial⟩ ?_
    refine WpG.caseB (t := 44) rfl (fun q44 => ?_) (fun q44 => ?_)
    · refine WpG.go tabOK 4 [(1, .pointer (some ⟨b9, 0, none⟩)), (48, .bool true)] rfl ⟨rfl, rfl, trivial⟩ ?_
      refine WpG.y rfl rfl rfl rfl (RunY.loadBox (ci := 1) tabOK rfl rfl rfl rfl) ?_
      refine WpG.callM (post := fun v L' => ∃ e, v = .int .i64 e ∧ CheckIs (fA 3) 3 e ∧ L' = []) rfl rfl rfl rfl rfl rfl ⟨_, Tryz.func10, rfl, rfl⟩ (fun H1 hz => ?_) ?_
      · have rp : RdS H1 (some ⟨b1, 0, none⟩) [(8 : Int)] := RdS.of_own (H := H1) (show RdL H1 [.int .i64 8] [(8 : Int)] from RdL_ints [8] ⟨⟨by decide, by decide⟩, trivial⟩) rfl (by decide) (Hp.le.refl _) (hz.own (ci := 5) rfl)
        have ra : RdS H1 (some ⟨b3, 0, none⟩) [(1 : Int), 1] := RdS.of_own (H := H1) (show RdL H1 [.int .i64 1, .int .i64 1] [(1 : Int), 1] from RdL_ints [1, 1] ⟨⟨by decide, by decide⟩, ⟨by decide, by decide⟩, trivial⟩) rfl (by decide) (Hp.le.refl _) (hz.own (ci := 4) rfl)
        have ro : RdS H1 (some ⟨b5, 0, none⟩) [(⟨1, 8, 1, 2, [1, 1], 0⟩ : OpD)] := RdS.of_own (H := H1) (show RdL H1 [.int .i64 1, .int .i64 8, .int .i64 1, .int .i64 2, .slice (some ⟨b3, 0, none⟩) 2 2, .int .u64 0] [(⟨1, 8, 1, 2, [1, 1], 0⟩ : OpD)] from ⟨_, _, rfl, ⟨_, _, rfl, by decide, ra, ⟨by decide, by decide⟩, ⟨by decide, by decide⟩, ⟨by decide, by decide⟩, ⟨by decide, by decide⟩, ⟨by decide, by decide⟩⟩, rfl⟩) rfl (by decide) (Hp.le.refl _) (hz.own (ci := 3) rfl)
        have rb : RdS H1 (some ⟨b7, 0, none⟩) (fA 3).blocks := RdS.of_own (H := H1) (show RdL H1 [.slice none 0 0, .slice (some ⟨b5, 0, none⟩) 1 1, .int .i64 0, .int .i64 3, .slice none 0 0] (fA 3).blocks from ⟨_, _, rfl, ⟨_, _, _, _, _, _, rfl, Nat.le_refl _, RdS.nil _ _, by decide, ro, Nat.le_refl _, RdS.nil _ _, ⟨by decide, by decide⟩, ⟨by decide, by decide⟩⟩, rfl⟩) rfl (by decide) (Hp.le.refl _) (hz.own (ci := 2) rfl)
        exact Check_calls (f := fA 3) (by decide) rp (by decide) rb (show I64 8 from ⟨by decide, by decide⟩) 3
      rintro _ L1 ⟨e15, rfl, hc15, rfl⟩
      obtain rfl : e15 = 1 := check_off hc15 (by decide)
      refine WpG.setL (L' := [Chunk.imap mb (encm prv ss), Chunk.box b9 [.slice (some ⟨b1, 0, none⟩) 1 1, .int .i64 8, .slice (some ⟨b7, 0, none⟩) 1 1] 25, Chunk.own 44 5 (some ⟨b7, 0, none⟩) 1 1 [.slice none 0 0, .slice (some ⟨b5, 0, none⟩) 1 1, .int .i64 0, .int .i64 3, .slice none 0 0], Chunk.own 47 6 (some ⟨b5, 0, none⟩) 1 1 [.int .i64 1, .int .i64 8, .int .i64 1, .int .i64 2, .slice (some ⟨b3, 0, none⟩) 2 2, .int .u64 0], Chunk.own 3 1 (some ⟨b3, 0, none⟩) 2 2 [.int .i64 1, .int .i64 1], Chunk.own 3 1 (some ⟨b1, 0, none⟩) 1 1 [.int .i64 8]]) rfl ?_
      refine WpG.go tabOK 4 [(0, .bool true)] rfl ⟨rfl, trivial⟩ ?_
      -- return 0, path TT
      exact WpG.ret tabOK (L' := []) (.tmp rfl .nil) (.cons _ (.cons _ (.cons _ (.cons _ (.cons _ (.cons _ .slnil)))))) ⟨rfl, rfl⟩
    · refine WpG.go tabOK 10 [(0, .bool false)] rfl ⟨rfl, trivial⟩ ?_
      -- return 1, path TF
      exact WpG.ret tabOK (L' := []) (.tmp rfl .nil) (.cons _ (.cons _ (.cons _ (.cons _ (.cons _ (.cons _ .slnil)))))) (absurd q44 (by rw [hx14]; decide))
  · refine WpG.go tabOK 16 [(0, .bool false)] rfl ⟨rfl, trivial⟩ ?_
    -- return 2, path F
    exact WpG.ret tabOK (L' := []) (.tmp rfl .nil) (.cons _ (.cons _ (.cons _ (.cons _ (.cons _ (.cons _ .slnil)))))) (absurd (by omega) q38)
end Go.Proofs.YtdjemlkllbhdlaaGreat

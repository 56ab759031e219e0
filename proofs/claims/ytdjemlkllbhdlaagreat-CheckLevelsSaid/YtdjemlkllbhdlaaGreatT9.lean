/- The walks of what trees are asked. -/
import Derived.Test.YtdjemlkllbhdlaaGreatT8
import Derived.Test.YtdjemlkllbhdlaaGreatSpec8
set_option linter.unusedVariables false
set_option linter.unusedSimpArgs false
namespace Go.Proofs.YtdjemlkllbhdlaaGreat
open Go Go.RowKit
theorem depth_calls {H : Hp} {A : Option Addr} {c : Nat} {tree : List Int} (ht : RdS H A tree) (a0 : Int) : CallG Tryz.prog 110 [.slice A tree.length c, .int .i64 a0] H [] (fun v _ L' => v = .int .i64 (depthD tree a0) ∧ L' = []) := by
  have bl := ht.1
  refine CallG.of Tryz.func110 rfl rfl rfl fun w0 => ?_
  change WpG _ _ _ _ _ _ [(0, .slice A tree.length c), (1, .int .i64 a0)] _ _ _
  refine WpG.go tabOK 13 [(0, .slice A tree.length c), (1, .int .i64 a0), (7, .int .i64 (tree.length : Int)), (8, .int .i64 0)] rfl ⟨rfl, rfl, rfl, rfl, trivial⟩ ?_
  refine WpG.ind (σ := Int × Int) (fun z_ => (tree.length - z_.1).toNat) (fun z_ => [(0, .slice A tree.length c), (1, .int .i64 z_.2), (7, .int .i64 (tree.length : Int)), (8, .int .i64 z_.1)]) (fun z_ => H) (fun z_ => []) (fun z_ => 0 ≤ z_.1 ∧ z_.1 ≤ tree.length ∧ depthD tree a0 = depthF tree (tree.length - z_.1).toNat z_.1 z_.2) ?_ (0, a0) ⟨by omega, by omega, by simp [depthD]⟩
  rintro ⟨i, a⟩ inv ih1
  change WpG _ _ _ _ _ _ [(0, .slice A tree.length c), (1, .int .i64 a), (7, .int .i64 (tree.length : Int)), (8, .int .i64 i)] H [] _
  replace inv : 0 ≤ i ∧ i ≤ tree.length ∧ depthD tree a0 = depthF tree (tree.length - i).toNat i a := inv
  obtain ⟨i0, i1, i2⟩ := inv
  refine WpG.go tabOK 5 [(0, .slice A tree.length c), (1, .int .i64 a), (7, .int .i64 (tree.length : Int)), (8, .int .i64 i), (9, .bool (decide (i < (tree.length : Int))))] rfl ⟨rfl, rfl, rfl, rfl, rfl, trivial⟩ ?_
  refine WpG.caseD (t := 9) rfl (fun q9 => ?_) (fun q9 => ?_)
  · refine WpG.go tabOK 15 [(0, .slice A tree.length c), (1, .int .i64 a), (5, .int .i64 i), (7, .int .i64 (tree.length : Int)), (8, .int .i64 i), (13, .bool (decide (a < 0)))] rfl ⟨rfl, rfl, rfl, rfl, rfl, rfl, trivial⟩ ?_
    refine WpG.caseD (t := 13) rfl (fun q13 => ?_) (fun q13 => ?_)
    · refine WpG.go tabOK 11 [(4, .int .i64 (-1))] rfl ⟨rfl, trivial⟩ ?_
      -- return 0, path L1TT
      exact WpG.ret tabOK (L' := []) (.tmp rfl .nil) .slnil ⟨congrArg (Value.int .i64) (by clear ih1; exact (depth_out i2 q9 (by omega)).symm), rfl⟩
    · refine WpG.go tabOK 6 [(0, .slice A tree.length c), (1, .int .i64 a), (5, .int .i64 i), (7, .int .i64 (tree.length : Int)), (8, .int .i64 i), (18, .bool (decide (a ≥ (tree.length : Int))))] rfl ⟨rfl, rfl, rfl, rfl, rfl, rfl, trivial⟩ ?_
      refine WpG.caseD (t := 18) rfl (fun q18 => ?_) (fun q18 => ?_)
      · refine WpG.go tabOK 5 [(4, .int .i64 (-1))] rfl ⟨rfl, trivial⟩ ?_
        -- return 1, path L1TFT
        exact WpG.ret tabOK (L' := []) (.tmp rfl .nil) .slnil ⟨congrArg (Value.int .i64) (by clear ih1; exact (depth_out i2 q9 (by omega)).symm), rfl⟩
      · refine WpG.go tabOK 7 [(0, .slice A tree.length c), (1, .int .i64 a), (5, .int .i64 i), (7, .int .i64 (tree.length : Int)), (8, .int .i64 i), (19, .slice A tree.length c), (20, .int .i64 a)] rfl ⟨rfl, rfl, rfl, rfl, rfl, rfl, rfl, trivial⟩ ?_
        refine WpG.indexR tabOK rfl rfl rfl rfl rfl rfl rfl rfl rfl ht (by omega) (by omega) ?_
        rintro x1 hx1 b1 o1 _ ⟨rfl, k1⟩ hc1
        refine WpG.y rfl rfl rfl rfl (RunY.loadH tabOK hc1 (Hp.le.refl _) rfl rfl rfl rfl) ?_
        refine WpG.go tabOK 2 [(0, .slice A tree.length c), (1, .int .i64 a), (5, .int .i64 i), (7, .int .i64 (tree.length : Int)), (8, .int .i64 i), (23, .bool (x1 == (-1)))] rfl ⟨rfl, rfl, rfl, rfl, rfl, rfl, trivial⟩ ?_
        refine WpG.caseE (t := 23) rfl (fun q23 => ?_) (fun q23 => ?_)
        · refine WpG.go tabOK 6 [(4, .int .i64 i)] rfl ⟨rfl, trivial⟩ ?_
          -- return 2, path L1TFFT
          exact WpG.ret tabOK (L' := []) (.tmp rfl .nil) .slnil ⟨congrArg (Value.int .i64) (by clear ih1; exact (depth_top i2 q9 (by omega) (hx1 ▸ q23)).symm), rfl⟩
        · refine WpG.go tabOK 5 [(0, .slice A tree.length c), (7, .int .i64 (tree.length : Int)), (8, .int .i64 i), (25, .slice A tree.length c), (26, .int .i64 a)] rfl ⟨rfl, rfl, rfl, rfl, rfl, trivial⟩ ?_
          refine WpG.indexR tabOK rfl rfl rfl rfl rfl rfl rfl rfl rfl ht (by omega) (by omega) ?_
          rintro x2 hx2 b2 o2 _ ⟨rfl, k2⟩ hc2
          refine WpG.y rfl rfl rfl rfl (RunY.loadH tabOK hc2 (Hp.le.refl _) rfl rfl rfl rfl) ?_
          refine WpG.go tabOK 5 [(0, .slice A tree.length c), (1, .int .i64 x2), (7, .int .i64 (tree.length : Int)), (29, .int .i64 (i + 1))] rfl ⟨rfl, rfl, rfl, (wrk (x := i + 1) (by omega) (by omega)), trivial⟩ ?_
          refine WpG.go tabOK 3 [(0, .slice A tree.length c), (1, .int .i64 x2), (7, .int .i64 (tree.length : Int)), (8, .int .i64 (i + 1))] rfl ⟨rfl, rfl, rfl, rfl, trivial⟩ ?_
          refine WpG.weaken (G := [(0, .slice A tree.length c), (1, .int .i64 x2), (7, .int .i64 (tree.length : Int)), (8, .int .i64 (i + 1))]) (Known.all ⟨rfl, rfl, rfl, rfl, trivial⟩) (ih1 (i + 1, x2) ?_ ?_)
          · show (tree.length - (i + 1)).toNat < (tree.length - i).toNat
            omega
          · show 0 ≤ (i + 1) ∧ (i + 1) ≤ tree.length ∧ depthD tree a0 = depthF tree (tree.length - (i + 1)).toNat (i + 1) x2
            -- back 0 of loop 1, path L1TFFF
            clear ih1
            exact ⟨by omega, by omega, by rw [hx2]; exact depth_up i2 q9 (by omega) (hx1 ▸ q23)⟩
  · refine WpG.go tabOK 6 [(4, .int .i64 (-1))] rfl ⟨rfl, trivial⟩ ?_
    -- return 3, path L1F
    exact WpG.ret tabOK (L' := []) (.tmp rfl .nil) .slnil ⟨congrArg (Value.int .i64) (by clear ih1; exact (depth_end i2 q9).symm), rfl⟩

theorem right_calls {H : Hp} {A : Option Addr} {c : Nat} {tree : List Int} (ht : RdS H A tree) : CallG Tryz.prog 108 [.slice A tree.length c] H [] (fun v _ L' => v = .bool (rightD tree) ∧ L' = []) := by
  have bl := ht.1
  refine CallG.of Tryz.func108 rfl rfl rfl fun w0 => ?_
  change WpG _ _ _ _ _ _ [(0, .slice A tree.length c)] _ _ _
  refine WpG.go tabOK 17 [(0, .slice A tree.length c), (3, .int .i64 0), (6, .slice A tree.length c), (7, .int .i64 (tree.length : Int)), (8, .int .i64 0)] rfl ⟨rfl, rfl, rfl, rfl, rfl, trivial⟩ ?_
  refine WpG.ind (σ := Int × Int) (fun z_ => (tree.length - z_.1).toNat) (fun z_ => [(0, .slice A tree.length c), (3, .int .i64 z_.2), (6, .slice A tree.length c), (7, .int .i64 (tree.length : Int)), (8, .int .i64 z_.1)]) (fun z_ => H) (fun z_ => []) (fun z_ => 0 ≤ z_.1 ∧ z_.1 ≤ tree.length ∧ 0 ≤ z_.2 ∧ z_.2 ≤ z_.1 ∧ rightD tree = rightF tree (tree.drop z_.1.toNat) z_.1 z_.2) ?_ (0, 0) ⟨by omega, by omega, by omega, by omega, rfl⟩
  rintro ⟨i, tops⟩ inv ih1
  change WpG _ _ _ _ _ _ [(0, .slice A tree.length c), (3, .int .i64 tops), (6, .slice A tree.length c), (7, .int .i64 (tree.length : Int)), (8, .int .i64 i)] H [] _
  replace inv : 0 ≤ i ∧ i ≤ tree.length ∧ 0 ≤ tops ∧ tops ≤ i ∧ rightD tree = rightF tree (tree.drop i.toNat) i tops := inv
  obtain ⟨i0, i1, i2, i3, i4⟩ := inv
  refine WpG.go tabOK 5 [(0, .slice A tree.length c), (3, .int .i64 tops), (6, .slice A tree.length c), (7, .int .i64 (tree.length : Int)), (8, .int .i64 i), (9, .bool (decide (i < (tree.length : Int))))] rfl ⟨rfl, rfl, rfl, rfl, rfl, rfl, trivial⟩ ?_
  refine WpG.caseD (t := 9) rfl (fun q9 => ?_) (fun q9 => ?_)
  · refine WpG.go tabOK 7 [(0, .slice A tree.length c), (3, .int .i64 tops), (6, .slice A tree.length c), (7, .int .i64 (tree.length : Int)), (8, .int .i64 i), (10, .int .i64 i)] rfl ⟨rfl, rfl, rfl, rfl, rfl, rfl, trivial⟩ ?_
    refine WpG.indexR tabOK rfl rfl rfl rfl rfl rfl rfl rfl rfl ht (by omega) (by omega) ?_
    rintro x1 hx1 b1 o1 _ ⟨rfl, k1⟩ hc1
    refine WpG.y rfl rfl rfl rfl (RunY.loadH tabOK hc1 (Hp.le.refl _) rfl rfl rfl rfl) ?_
    refine WpG.go tabOK 9 [(0, .slice A tree.length c), (3, .int .i64 tops), (4, .int .i64 i), (5, .int .i64 x1), (6, .slice A tree.length c), (7, .int .i64 (tree.length : Int)), (8, .int .i64 i), (14, .bool (x1 == (-1)))] rfl ⟨rfl, rfl, rfl, rfl, rfl, rfl, rfl, rfl, trivial⟩ ?_
    refine WpG.caseE (t := 14) rfl (fun q14 => ?_) (fun q14 => ?_)
    · refine WpG.go tabOK 4 [(0, .slice A tree.length c), (4, .int .i64 i), (5, .int .i64 x1), (6, .slice A tree.length c), (7, .int .i64 (tree.length : Int)), (8, .int .i64 i), (16, .int .i64 (tops + 1))] rfl ⟨rfl, rfl, rfl, rfl, rfl, rfl, (wrk (x := tops + 1) (by omega) (by omega)), trivial⟩ ?_
      refine WpG.go tabOK 7 [(0, .slice A tree.length c), (3, .int .i64 (tops + 1)), (4, .int .i64 i), (6, .slice A tree.length c), (7, .int .i64 (tree.length : Int)), (8, .int .i64 i), (19, .bool (x1 != (-2)))] rfl ⟨rfl, rfl, rfl, rfl, rfl, rfl, rfl, trivial⟩ ?_
      refine WpG.caseN (t := 19) rfl (fun q19 => ?_) (fun q19 => ?_)
      · refine WpG.go tabOK 2 [(0, .slice A tree.length c), (3, .int .i64 (tops + 1)), (6, .slice A tree.length c), (7, .int .i64 (tree.length : Int)), (8, .int .i64 i), (19, .bool true), (20, .slice A tree.length c), (21, .int .i64 i)] rfl ⟨rfl, rfl, rfl, rfl, rfl, rfl, rfl, rfl, trivial⟩ ?_
        refine WpG.callS rfl rfl rfl rfl rfl rfl (Hp.le.refl _) (depth_calls ht i) ?_
        refine WpG.go tabOK 3 [(0, .slice A tree.length c), (3, .int .i64 (tops + 1)), (6, .slice A tree.length c), (7, .int .i64 (tree.length : Int)), (8, .int .i64 i), (24, .bool (decide ((depthD tree i) < 0)))] rfl ⟨rfl, rfl, rfl, rfl, rfl, rfl, trivial⟩ ?_
        refine WpG.caseD (t := 24) rfl (fun q24 => ?_) (fun q24 => ?_)
        · refine WpG.go tabOK 5 [(2, .bool false)] rfl ⟨rfl, trivial⟩ ?_
          -- return 0, path L1TTTT
          exact WpG.ret tabOK (L' := []) (.tmp rfl .nil) .slnil ⟨congrArg Value.bool (by clear ih1; first | (rw [i4, drop_nth i0 q9, ← hx1]; simp only [rightF]; rw [if_pos ⟨by assumption, by omega⟩]) | (rw [i4, drop_end i0 q9]; rfl)), rfl⟩
        · refine WpG.go tabOK 5 [(0, .slice A tree.length c), (3, .int .i64 (tops + 1)), (6, .slice A tree.length c), (7, .int .i64 (tree.length : Int)), (25, .int .i64 (i + 1))] rfl ⟨rfl, rfl, rfl, rfl, (wrk (x := i + 1) (by omega) (by omega)), trivial⟩ ?_
          refine WpG.go tabOK 3 [(0, .slice A tree.length c), (3, .int .i64 (tops + 1)), (6, .slice A tree.length c), (7, .int .i64 (tree.length : Int)), (8, .int .i64 (i + 1))] rfl ⟨rfl, rfl, rfl, rfl, rfl, trivial⟩ ?_
          refine WpG.weaken (G := [(0, .slice A tree.length c), (3, .int .i64 (tops + 1)), (6, .slice A tree.length c), (7, .int .i64 (tree.length : Int)), (8, .int .i64 (i + 1))]) (Known.all ⟨rfl, rfl, rfl, rfl, rfl, trivial⟩) (ih1 (i + 1, tops + 1) ?_ ?_)
          · show (tree.length - (i + 1)).toNat < (tree.length - i).toNat
            omega
          · show 0 ≤ (i + 1) ∧ (i + 1) ≤ tree.length ∧ 0 ≤ (tops + 1) ∧ (tops + 1) ≤ (i + 1) ∧ rightD tree = rightF tree (tree.drop (i + 1).toNat) (i + 1) (tops + 1)
            -- back 0 of loop 1, path L1TTTF
            clear ih1
            refine ⟨by omega, by omega, by omega, by omega, ?_⟩
            rw [i4, drop_nth i0 q9, toNat_succ i0, ← hx1]; simp only [rightF]; rw [if_neg (by first | (intro h; omega) | (intro h; exact h.1 (by assumption)))]; first | rw [if_pos (by assumption)] | rw [if_neg (by assumption)]
      · refine WpG.go tabOK 11 [(0, .slice A tree.length c), (3, .int .i64 (tops + 1)), (6, .slice A tree.length c), (7, .int .i64 (tree.length : Int)), (25, .int .i64 (i + 1))] rfl ⟨rfl, rfl, rfl, rfl, (wrk (x := i + 1) (by omega) (by omega)), trivial⟩ ?_
        refine WpG.go tabOK 3 [(0, .slice A tree.length c), (3, .int .i64 (tops + 1)), (6, .slice A tree.length c), (7, .int .i64 (tree.length : Int)), (8, .int .i64 (i + 1))] rfl ⟨rfl, rfl, rfl, rfl, rfl, trivial⟩ ?_
        refine WpG.weaken (G := [(0, .slice A tree.length c), (3, .int .i64 (tops + 1)), (6, .slice A tree.length c), (7, .int .i64 (tree.length : Int)), (8, .int .i64 (i + 1))]) (Known.all ⟨rfl, rfl, rfl, rfl, rfl, trivial⟩) (ih1 (i + 1, tops + 1) ?_ ?_)
        · show (tree.length - (i + 1)).toNat < (tree.length - i).toNat
          omega
        · show 0 ≤ (i + 1) ∧ (i + 1) ≤ tree.length ∧ 0 ≤ (tops + 1) ∧ (tops + 1) ≤ (i + 1) ∧ rightD tree = rightF tree (tree.drop (i + 1).toNat) (i + 1) (tops + 1)
          -- back 1 of loop 1, path L1TTF
          clear ih1
          refine ⟨by omega, by omega, by omega, by omega, ?_⟩
          rw [i4, drop_nth i0 q9, toNat_succ i0, ← hx1]; simp only [rightF]; rw [if_neg (by first | (intro h; omega) | (intro h; exact h.1 (by assumption)))]; first | rw [if_pos (by assumption)] | rw [if_neg (by assumption)]
    · refine WpG.go tabOK 7 [(0, .slice A tree.length c), (3, .int .i64 tops), (4, .int .i64 i), (6, .slice A tree.length c), (7, .int .i64 (tree.length : Int)), (8, .int .i64 i), (19, .bool (x1 != (-2)))] rfl ⟨rfl, rfl, rfl, rfl, rfl, rfl, rfl, trivial⟩ ?_
      refine WpG.caseN (t := 19) rfl (fun q19 => ?_) (fun q19 => ?_)
      · refine WpG.go tabOK 2 [(0, .slice A tree.length c), (3, .int .i64 tops), (6, .slice A tree.length c), (7, .int .i64 (tree.length : Int)), (8, .int .i64 i), (19, .bool true), (20, .slice A tree.length c), (21, .int .i64 i)] rfl ⟨rfl, rfl, rfl, rfl, rfl, rfl, rfl, rfl, trivial⟩ ?_
        refine WpG.callS rfl rfl rfl rfl rfl rfl (Hp.le.refl _) (depth_calls ht i) ?_
        refine WpG.go tabOK 3 [(0, .slice A tree.length c), (3, .int .i64 tops), (6, .slice A tree.length c), (7, .int .i64 (tree.length : Int)), (8, .int .i64 i), (24, .bool (decide ((depthD tree i) < 0)))] rfl ⟨rfl, rfl, rfl, rfl, rfl, rfl, trivial⟩ ?_
        refine WpG.caseD (t := 24) rfl (fun q24 => ?_) (fun q24 => ?_)
        · refine WpG.go tabOK 5 [(2, .bool false)] rfl ⟨rfl, trivial⟩ ?_
          -- return 1, path L1TFTT
          exact WpG.ret tabOK (L' := []) (.tmp rfl .nil) .slnil ⟨congrArg Value.bool (by clear ih1; first | (rw [i4, drop_nth i0 q9, ← hx1]; simp only [rightF]; rw [if_pos ⟨by assumption, by omega⟩]) | (rw [i4, drop_end i0 q9]; rfl)), rfl⟩
        · refine WpG.go tabOK 5 [(0, .slice A tree.length c), (3, .int .i64 tops), (6, .slice A tree.length c), (7, .int .i64 (tree.length : Int)), (25, .int .i64 (i + 1))] rfl ⟨rfl, rfl, rfl, rfl, (wrk (x := i + 1) (by omega) (by omega)), trivial⟩ ?_
          refine WpG.go tabOK 3 [(0, .slice A tree.length c), (3, .int .i64 tops), (6, .slice A tree.length c), (7, .int .i64 (tree.length : Int)), (8, .int .i64 (i + 1))] rfl ⟨rfl, rfl, rfl, rfl, rfl, trivial⟩ ?_
          refine WpG.weaken (G := [(0, .slice A tree.length c), (3, .int .i64 tops), (6, .slice A tree.length c), (7, .int .i64 (tree.length : Int)), (8, .int .i64 (i + 1))]) (Known.all ⟨rfl, rfl, rfl, rfl, rfl, trivial⟩) (ih1 (i + 1, tops) ?_ ?_)
          · show (tree.length - (i + 1)).toNat < (tree.length - i).toNat
            omega
          · show 0 ≤ (i + 1) ∧ (i + 1) ≤ tree.length ∧ 0 ≤ tops ∧ tops ≤ (i + 1) ∧ rightD tree = rightF tree (tree.drop (i + 1).toNat) (i + 1) tops
            -- back 2 of loop 1, path L1TFTF
            clear ih1
            refine ⟨by omega, by omega, by omega, by omega, ?_⟩
            rw [i4, drop_nth i0 q9, toNat_succ i0, ← hx1]; simp only [rightF]; rw [if_neg (by first | (intro h; omega) | (intro h; exact h.1 (by assumption)))]; first | rw [if_pos (by assumption)] | rw [if_neg (by assumption)]
      · refine WpG.go tabOK 11 [(0, .slice A tree.length c), (3, .int .i64 tops), (6, .slice A tree.length c), (7, .int .i64 (tree.length : Int)), (25, .int .i64 (i + 1))] rfl ⟨rfl, rfl, rfl, rfl, (wrk (x := i + 1) (by omega) (by omega)), trivial⟩ ?_
        refine WpG.go tabOK 3 [(0, .slice A tree.length c), (3, .int .i64 tops), (6, .slice A tree.length c), (7, .int .i64 (tree.length : Int)), (8, .int .i64 (i + 1))] rfl ⟨rfl, rfl, rfl, rfl, rfl, trivial⟩ ?_
        refine WpG.weaken (G := [(0, .slice A tree.length c), (3, .int .i64 tops), (6, .slice A tree.length c), (7, .int .i64 (tree.length : Int)), (8, .int .i64 (i + 1))]) (Known.all ⟨rfl, rfl, rfl, rfl, rfl, trivial⟩) (ih1 (i + 1, tops) ?_ ?_)
        · show (tree.length - (i + 1)).toNat < (tree.length - i).toNat
          omega
        · show 0 ≤ (i + 1) ∧ (i + 1) ≤ tree.length ∧ 0 ≤ tops ∧ tops ≤ (i + 1) ∧ rightD tree = rightF tree (tree.drop (i + 1).toNat) (i + 1) tops
          -- back 3 of loop 1, path L1TFF
          clear ih1
          refine ⟨by omega, by omega, by omega, by omega, ?_⟩
          rw [i4, drop_nth i0 q9, toNat_succ i0, ← hx1]; simp only [rightF]; rw [if_neg (by first | (intro h; omega) | (intro h; exact h.1 (by assumption)))]; first | rw [if_pos (by assumption)] | rw [if_neg (by assumption)]
  · refine WpG.go tabOK 8 [(2, .bool (tops == 1))] rfl ⟨rfl, trivial⟩ ?_
    -- return 2, path L1F
    exact WpG.ret tabOK (L' := []) (.tmp rfl .nil) .slnil ⟨congrArg Value.bool (by clear ih1; first | (rw [i4, drop_nth i0 q9, ← hx1]; simp only [rightF]; rw [if_pos ⟨by assumption, by omega⟩]) | (rw [i4, drop_end i0 q9]; rfl)), rfl⟩

theorem in1d_calls {H : Hp} {A : Option Addr} {c b : Nat} {tree : List Int} (ht : RdS H A tree) (x : Int) (hb : HCells H b 0 [.slice A tree.length c]) : CallG Tryz.prog 109 [.int .i64 x, .pointer (some ⟨b, 0, none⟩)] H [] (fun v _ L' => v = .bool (decide (depthD tree x < 0)) ∧ L' = []) := by
  refine CallG.of Tryz.func109 rfl rfl rfl fun w0 => ?_
  change WpG _ _ _ _ _ _ [(0, .int .i64 x), (1, .pointer (some ⟨b, 0, none⟩))] _ _ _
  refine WpG.go tabOK 6 [(0, .int .i64 x), (1, .pointer (some ⟨b, 0, none⟩))] rfl ⟨rfl, rfl, trivial⟩ ?_
  refine WpG.y rfl rfl rfl rfl (RunY.loadH tabOK hb (Hp.le.refl _) rfl rfl rfl rfl) ?_
  refine WpG.go tabOK 1 [(4, .slice A tree.length c), (5, .int .i64 x)] rfl ⟨rfl, rfl, trivial⟩ ?_
  refine WpG.callS rfl rfl rfl rfl rfl rfl (Hp.le.refl _) (depth_calls ht x) ?_
  refine WpG.go tabOK 3 [(3, .bool (decide ((depthD tree x) < 0)))] rfl ⟨rfl, trivial⟩ ?_
  -- return 0, path 
  exact WpG.ret tabOK (L' := []) (.tmp rfl .nil) .slnil ⟨congrArg Value.bool (by rfl), rfl⟩

theorem ind_calls {H : Hp} {A A' : Option Addr} {c c' : Nat} {tree l : List Int} (ht : RdS H A tree) (hl : RdS H A' l) : CallG Tryz.prog 88 [.slice A tree.length c, .slice A' l.length c'] H [] (fun v _ L' => v = .bool (inD tree l) ∧ L' = []) := by
  refine CallG.of Tryz.func88 rfl rfl rfl fun w0 => ?_
  change WpG _ _ _ _ _ _ [(0, .slice A tree.length c), (1, .slice A' l.length c')] _ _ _
  refine WpG.go tabOK 2 [(0, .slice A tree.length c), (1, .slice A' l.length c')] rfl ⟨rfl, rfl, trivial⟩ ?_
  refine WpG.box rfl rfl rfl rfl rfl (fun b1 => ?_)
  refine WpG.freezeBox (ci := 0) rfl (fun H2 hH2 hc2 => ?_)
  refine WpG.setL (L' := []) rfl ?_
  refine WpG.go tabOK 4 [(1, .slice A' l.length c'), (2, .pointer (some ⟨b1, 0, none⟩))] rfl ⟨rfl, rfl, trivial⟩ ?_
  refine WpG.y rfl rfl rfl rfl (RunY.loadH tabOK hc2 (Hp.le.refl _) rfl rfl rfl rfl) ?_
  refine WpG.callS rfl rfl rfl rfl rfl rfl (Hp.le.refl _) (right_calls (ht.mono hH2)) ?_
  refine WpG.go tabOK 1 [(1, .slice A' l.length c'), (2, .pointer (some ⟨b1, 0, none⟩)), (7, .bool (rightD tree))] rfl ⟨rfl, rfl, rfl, trivial⟩ ?_
  refine WpG.caseB (t := 7) rfl (fun q7 => ?_) (fun q7 => ?_)
  · refine WpG.go tabOK 2 [(7, .bool true), (8, .slice A' l.length c'), (9, .func (.func 109) #[] #[.pointer (some ⟨b1, 0, none⟩)])] rfl ⟨rfl, rfl, rfl, trivial⟩ ?_
    refine WpG.callS rfl rfl rfl rfl rfl rfl (Hp.le.refl _) (ContainsFunc_int (hl.mono hH2) (p := fun x => decide (depthD tree x < 0)) (fun x _ => in1d_calls (ht.mono hH2) x hc2)) ?_
    refine WpG.go tabOK 4 [(4, .bool (!(l.any fun x => decide (depthD tree x < 0))))] rfl ⟨rfl, trivial⟩ ?_
    -- return 0, path T
    exact WpG.ret tabOK (L' := []) (.tmp rfl .nil) .slnil ⟨congrArg Value.bool (by simp [inD, List.all_eq_not_any_not, *]), rfl⟩
  · refine WpG.go tabOK 7 [(4, .bool false)] rfl ⟨rfl, trivial⟩ ?_
    -- return 1, path F
    exact WpG.ret tabOK (L' := []) (.tmp rfl .nil) .slnil ⟨congrArg Value.bool (by simp [inD, List.all_eq_not_any_not, *]), rfl⟩

theorem Meet_calls {H : Hp} {A : Option Addr} {c : Nat} {tree : List Int} (ht : RdS H A tree) {a0 b0 : Int} (ka : I64 a0) (kb : I64 b0) : CallG Tryz.prog 89 [.slice A tree.length c, .int .i64 a0, .int .i64 b0] H [] (fun v _ L' => v = .int .i64 (meetD tree a0 b0) ∧ L' = []) := by
  have bl := ht.1
  refine CallG.of Tryz.func89 rfl rfl rfl fun w0 => ?_
  change WpG _ _ _ _ _ _ [(0, .slice A tree.length c), (1, .int .i64 a0), (2, .int .i64 b0)] _ _ _
  refine WpG.go tabOK 10 [(0, .slice A tree.length c), (1, .int .i64 a0), (2, .int .i64 b0), (7, .slice A tree.length c), (8, .int .i64 a0), (9, .int .i64 b0)] rfl ⟨rfl, rfl, rfl, rfl, rfl, rfl, trivial⟩ ?_
  refine WpG.buildSlice (xs := [.int .i64 a0, .int .i64 b0]) tabOK rfl rfl rfl rfl rfl rfl rfl rfl rfl rfl (fun b1 => ?_)
  refine WpG.ownCap (ci := 0) rfl (fun uz3 => ?_)
  refine WpG.freezeOwn (ci := 0) rfl (fun H3 hH3 fz3 => ?_)
  have rz3 : RdS H3 (some ⟨b1, 0, none⟩) [a0, b0] := RdS.of_own (H := H) (show RdL H [.int .i64 a0, .int .i64 b0] [a0, b0] from RdL_ints [a0, b0] ⟨ka, kb, trivial⟩) (rfl) (by simp) hH3 fz3
  refine WpG.setL (L' := []) rfl ?_
  refine WpG.callS rfl rfl rfl rfl rfl rfl (Hp.le.refl _) (have z := ind_calls (ht.mono hH3) rz3; z) ?_
  refine WpG.lessH (Hp.le.refl _) hH3 ?_
  refine WpG.go tabOK 2 [(0, .slice A tree.length c), (1, .int .i64 a0), (2, .int .i64 b0), (12, .bool (!(inD tree [a0, b0])))] rfl ⟨rfl, rfl, rfl, rfl, trivial⟩ ?_
  refine WpG.caseBn (t := 12) rfl (fun q12 => ?_) (fun q12 => ?_)
  · refine WpG.go tabOK 5 [(6, .int .i64 (-2))] rfl ⟨rfl, trivial⟩ ?_
    -- return 0, path T
    exact WpG.ret tabOK (L' := []) (.tmp rfl .nil) .slnil ⟨congrArg (Value.int .i64) (by unfold meetD; rw [if_neg (by simp [q12])]), rfl⟩
  · refine WpG.go tabOK 5 [(0, .slice A tree.length c), (1, .int .i64 a0), (2, .int .i64 b0)] rfl ⟨rfl, rfl, rfl, trivial⟩ ?_
    refine WpG.ind (σ := Int × Int) (fun z_ => (depthD tree z_.1 + depthD tree z_.2).toNat) (fun z_ => [(0, .slice A tree.length c), (1, .int .i64 z_.1), (2, .int .i64 z_.2)]) (fun z_ => H) (fun z_ => []) (fun z_ => 0 ≤ depthD tree z_.1 ∧ 0 ≤ depthD tree z_.2 ∧ meetD tree a0 b0 = meetF tree (depthD tree z_.1 + depthD tree z_.2).toNat z_.1 z_.2) ?_ (a0, b0) ⟨(in_two (by simpa using q12)).2.1, (in_two (by simpa using q12)).2.2, by unfold meetD; rw [if_pos (by simpa using q12)]⟩
    rintro ⟨a, b⟩ inv ih1
    change WpG _ _ _ _ _ _ [(0, .slice A tree.length c), (1, .int .i64 a), (2, .int .i64 b)] H [] _
    replace inv : 0 ≤ depthD tree a ∧ 0 ≤ depthD tree b ∧ meetD tree a0 b0 = meetF tree (depthD tree a + depthD tree b).toNat a b := inv
    obtain ⟨i0, i1, i2⟩ := inv
    have hra := depth_range i0; have hrb := depth_range i1
    have hr := (in_two (tree := tree) (a := a0) (b := b0) (by simpa using q12)).1
    refine WpG.go tabOK 7 [(0, .slice A tree.length c), (1, .int .i64 a), (2, .int .i64 b), (15, .bool (a != b))] rfl ⟨rfl, rfl, rfl, rfl, trivial⟩ ?_
    refine WpG.caseN (t := 15) rfl (fun q15 => ?_) (fun q15 => ?_)
    · refine WpG.go tabOK 7 [(0, .slice A tree.length c), (1, .int .i64 a), (2, .int .i64 b), (16, .slice A tree.length c), (17, .int .i64 a)] rfl ⟨rfl, rfl, rfl, rfl, rfl, trivial⟩ ?_
      refine WpG.callS rfl rfl rfl rfl rfl rfl (Hp.le.refl _) (depth_calls ht a) ?_
      refine WpG.go tabOK 2 [(0, .slice A tree.length c), (1, .int .i64 a), (2, .int .i64 b), (18, .int .i64 (depthD tree a)), (19, .slice A tree.length c), (20, .int .i64 b)] rfl ⟨rfl, rfl, rfl, rfl, rfl, rfl, trivial⟩ ?_
      refine WpG.callS rfl rfl rfl rfl rfl rfl (Hp.le.refl _) (depth_calls ht b) ?_
      refine WpG.go tabOK 2 [(0, .slice A tree.length c), (1, .int .i64 a), (2, .int .i64 b), (22, .bool (decide ((depthD tree a) ≥ (depthD tree b))))] rfl ⟨rfl, rfl, rfl, rfl, trivial⟩ ?_
      refine WpG.caseD (t := 22) rfl (fun q22 => ?_) (fun q22 => ?_)
      · refine WpG.go tabOK 4 [(0, .slice A tree.length c), (2, .int .i64 b), (23, .slice A tree.length c), (24, .int .i64 a)] rfl ⟨rfl, rfl, rfl, rfl, trivial⟩ ?_
        refine WpG.indexR tabOK rfl rfl rfl rfl rfl rfl rfl rfl rfl ht (by omega) (by omega) ?_
        rintro x4 hx4 b4 o4 _ ⟨rfl, k4⟩ hc4
        refine WpG.y rfl rfl rfl rfl (RunY.loadH tabOK hc4 (Hp.le.refl _) rfl rfl rfl rfl) ?_
        refine WpG.go tabOK 4 [(0, .slice A tree.length c), (1, .int .i64 x4), (2, .int .i64 b)] rfl ⟨rfl, rfl, rfl, trivial⟩ ?_
        refine WpG.weaken (G := [(0, .slice A tree.length c), (1, .int .i64 x4), (2, .int .i64 b)]) (Known.all ⟨rfl, rfl, rfl, trivial⟩) (ih1 (x4, b) ?_ ?_)
        · show (depthD tree x4 + depthD tree b).toNat < (depthD tree a + depthD tree b).toNat
          have h := meet_left hr i0 i1 q15 q22; rw [hx4]; omega
        · show 0 ≤ depthD tree x4 ∧ 0 ≤ depthD tree b ∧ meetD tree a0 b0 = meetF tree (depthD tree x4 + depthD tree b).toNat x4 b
          -- back 0 of loop 1, path FL1TT
          clear ih1
          have h := meet_left hr i0 i1 q15 q22; rw [hx4]
          exact ⟨h.1, i1, i2.trans h.2.2⟩
      · refine WpG.go tabOK 4 [(0, .slice A tree.length c), (1, .int .i64 a), (27, .slice A tree.length c), (28, .int .i64 b)] rfl ⟨rfl, rfl, rfl, rfl, trivial⟩ ?_
        refine WpG.indexR tabOK rfl rfl rfl rfl rfl rfl rfl rfl rfl ht (by omega) (by omega) ?_
        rintro x5 hx5 b5 o5 _ ⟨rfl, k5⟩ hc5
        refine WpG.y rfl rfl rfl rfl (RunY.loadH tabOK hc5 (Hp.le.refl _) rfl rfl rfl rfl) ?_
        refine WpG.go tabOK 4 [(0, .slice A tree.length c), (1, .int .i64 a), (2, .int .i64 x5)] rfl ⟨rfl, rfl, rfl, trivial⟩ ?_
        refine WpG.weaken (G := [(0, .slice A tree.length c), (1, .int .i64 a), (2, .int .i64 x5)]) (Known.all ⟨rfl, rfl, rfl, trivial⟩) (ih1 (a, x5) ?_ ?_)
        · show (depthD tree a + depthD tree x5).toNat < (depthD tree a + depthD tree b).toNat
          have h := meet_right hr i0 i1 q15 q22; rw [hx5]; omega
        · show 0 ≤ depthD tree a ∧ 0 ≤ depthD tree x5 ∧ meetD tree a0 b0 = meetF tree (depthD tree a + depthD tree x5).toNat a x5
          -- back 1 of loop 1, path FL1TF
          clear ih1
          have h := meet_right hr i0 i1 q15 q22; rw [hx5]
          exact ⟨i0, h.1, i2.trans h.2.2⟩
    · refine WpG.go tabOK 7 [(6, .int .i64 a)] rfl ⟨rfl, trivial⟩ ?_
      -- return 1, path FL1F
      exact WpG.ret tabOK (L' := []) (.tmp rfl .nil) .slnil ⟨congrArg (Value.int .i64) (by clear ih1; rw [i2, q15, meet_same]), rfl⟩

theorem Over_calls {H : Hp} {A : Option Addr} {c : Nat} {tree : List Int} (ht : RdS H A tree) {a0 b0 : Int} (ka : I64 a0) (kb : I64 b0) : CallG Tryz.prog 55 [.slice A tree.length c, .int .i64 a0, .int .i64 b0] H [] (fun v _ L' => v = .bool (overD tree a0 b0) ∧ L' = []) := by
  refine CallG.of Tryz.func55 rfl rfl rfl fun w0 => ?_
  change WpG _ _ _ _ _ _ [(0, .slice A tree.length c), (1, .int .i64 a0), (2, .int .i64 b0)] _ _ _
  refine WpG.go tabOK 9 [(0, .slice A tree.length c), (1, .int .i64 a0), (2, .int .i64 b0), (7, .slice A tree.length c), (8, .int .i64 a0), (9, .int .i64 b0)] rfl ⟨rfl, rfl, rfl, rfl, rfl, rfl, trivial⟩ ?_
  refine WpG.buildSlice (xs := [.int .i64 a0, .int .i64 b0]) tabOK rfl rfl rfl rfl rfl rfl rfl rfl rfl rfl (fun b1 => ?_)
  refine WpG.ownCap (ci := 0) rfl (fun uz3 => ?_)
  refine WpG.freezeOwn (ci := 0) rfl (fun H3 hH3 fz3 => ?_)
  have rz3 : RdS H3 (some ⟨b1, 0, none⟩) [a0, b0] := RdS.of_own (H := H) (show RdL H [.int .i64 a0, .int .i64 b0] [a0, b0] from RdL_ints [a0, b0] ⟨ka, kb, trivial⟩) (rfl) (by simp) hH3 fz3
  refine WpG.setL (L' := []) rfl ?_
  refine WpG.callS rfl rfl rfl rfl rfl rfl (Hp.le.refl _) (have z := ind_calls (ht.mono hH3) rz3; z) ?_
  refine WpG.lessH (Hp.le.refl _) hH3 ?_
  refine WpG.go tabOK 1 [(0, .slice A tree.length c), (1, .int .i64 a0), (2, .int .i64 b0), (12, .bool (inD tree [a0, b0]))] rfl ⟨rfl, rfl, rfl, rfl, trivial⟩ ?_
  refine WpG.caseB (t := 12) rfl (fun q12 => ?_) (fun q12 => ?_)
  · refine WpG.go tabOK 3 [(1, .int .i64 a0), (12, .bool true), (13, .slice A tree.length c), (14, .int .i64 a0), (15, .int .i64 b0)] rfl ⟨rfl, rfl, rfl, rfl, rfl, trivial⟩ ?_
    refine WpG.callS rfl rfl rfl rfl rfl rfl (Hp.le.refl _) (Meet_calls ht ka kb) ?_
    refine WpG.go tabOK 5 [(6, .bool ((meetD tree a0 b0) == a0))] rfl ⟨rfl, trivial⟩ ?_
    -- return 0, path T
    exact WpG.ret tabOK (L' := []) (.tmp rfl .nil) .slnil ⟨congrArg Value.bool (by simp [overD, *]), rfl⟩
  · refine WpG.go tabOK 9 [(6, .bool false)] rfl ⟨rfl, trivial⟩ ?_
    -- return 1, path F
    exact WpG.ret tabOK (L' := []) (.tmp rfl .nil) .slnil ⟨congrArg Value.bool (by simp [overD, *]), rfl⟩
end Go.Proofs.YtdjemlkllbhdlaaGreat

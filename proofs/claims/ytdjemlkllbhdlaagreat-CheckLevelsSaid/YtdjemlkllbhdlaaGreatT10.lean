/- The walks of lists that are sorted. -/
import Derived.Test.YtdjemlkllbhdlaaGreatT9
import Derived.Test.YtdjemlkllbhdlaaGreatLate
set_option linter.unusedVariables false
set_option linter.unusedSimpArgs false
namespace Go.Proofs.YtdjemlkllbhdlaaGreat
open Go Go.RowKit
theorem Values_calls {H : Hp} (A : Option Addr) (n c : Nat) : CallG Tryz.prog 83 [.slice A n c] H [] (fun v H' L' => ∃ b, v = .func (.func 99) #[] #[.pointer (some ⟨b, 0, none⟩)] ∧ hcell H' b 0 = some (.slice A n c) ∧ L' = []) := by
  refine CallG.of Tryz.func83 rfl rfl rfl fun w0 => ?_
  change WpG _ _ _ _ _ _ [(0, .slice A n c)] _ _ _
  refine WpG.go tabOK 2 [(0, .slice A n c)] rfl ⟨rfl, trivial⟩ ?_
  refine WpG.box rfl rfl rfl rfl rfl (fun b1 => ?_)
  refine WpG.freezeBox (ci := 0) rfl (fun H2 hH2 hc2 => ?_)
  refine WpG.setL (L' := []) rfl ?_
  refine WpG.go tabOK 7 [(2, .func (.func 99) #[] #[.pointer (some ⟨b1, 0, none⟩)])] rfl ⟨rfl, trivial⟩ ?_
  -- return 0, path 
  exact WpG.ret tabOK (L' := []) (.tmp rfl .nil) .slnil ⟨_, rfl, hc2 0 _ rfl, rfl⟩

theorem Collect_calls {H : Hp} {A : Option Addr} {c Bs : Nat} {xs : List Int} (hr : RdS H A xs) (hl : xs.length ≤ 1000000) (hB : hcell H Bs 0 = some (.slice A xs.length c)) : CallG Tryz.prog 97 [.func (.func 99) #[] #[.pointer (some ⟨Bs, 0, none⟩)]] H [] (fun v H' L' => H' = H ∧ ∃ A' c', v = .slice A' xs.length c' ∧ L' = [Chunk.own 3 1 A' c' xs.length (xs.map iv)]) := by
  refine CallG.of Tryz.func97 rfl rfl rfl fun w0 => ?_
  change WpG _ _ _ _ _ _ [(0, .func (.func 99) #[] #[.pointer (some ⟨Bs, 0, none⟩)])] _ _ _
  refine WpG.go tabOK 7 [(3, .func (.func 99) #[] #[.pointer (some ⟨Bs, 0, none⟩)])] rfl ⟨rfl, trivial⟩ ?_
  refine WpG.call0 rfl rfl rfl rfl rfl rfl (AppendSeq_calls hr hl hB) ?_
  rintro _ H1 _ - ⟨eH, A1, c1, rfl, rfl⟩
  rw [eH]; clear eH H1
  refine WpG.setL (L' := [Chunk.own 3 1 A1 c1 xs.length (xs.map iv)]) rfl ?_
  refine WpG.go tabOK 2 [(2, .slice A1 xs.length c1)] rfl ⟨rfl, trivial⟩ ?_
  -- return 0, path 
  exact WpG.ret tabOK (L' := [Chunk.own 3 1 A1 c1 xs.length (xs.map iv)]) (.tmp rfl .nil) (.cons_cons _ .slnil) ⟨rfl, A1, c1, rfl, rfl⟩

theorem Sorted_calls {H : Hp} {A : Option Addr} {c Bs : Nat} {xs : List Int} (hr : RdS H A xs) (hl : xs.length ≤ 1000000) (hB : hcell H Bs 0 = some (.slice A xs.length c)) : CallG Tryz.prog 82 [.func (.func 99) #[] #[.pointer (some ⟨Bs, 0, none⟩)]] H [] (fun v H' L' => H' = H ∧ ∃ A' c', v = .slice A' xs.length c' ∧ L' = [Chunk.own 3 1 A' c' xs.length ((sortD xs).map iv)]) := by
  refine CallG.of Tryz.func82 rfl rfl rfl fun w0 => ?_
  change WpG _ _ _ _ _ _ [(0, .func (.func 99) #[] #[.pointer (some ⟨Bs, 0, none⟩)])] _ _ _
  refine WpG.go tabOK 7 [(4, .func (.func 99) #[] #[.pointer (some ⟨Bs, 0, none⟩)])] rfl ⟨rfl, trivial⟩ ?_
  refine WpG.call0 rfl rfl rfl rfl rfl rfl (Collect_calls hr hl hB) ?_
  rintro _ H1 _ - ⟨eH, A1, c1, rfl, rfl⟩
  rw [eH]; clear eH H1
  refine WpG.setL (L' := [Chunk.own 3 1 A1 c1 xs.length (xs.map iv)]) rfl ?_
  refine WpG.go tabOK 5 [(3, .slice A1 xs.length c1), (6, .slice A1 xs.length c1)] rfl ⟨rfl, rfl, trivial⟩ ?_
  refine WpG.call1 (ci := 0) rfl rfl rfl rfl rfl rfl rfl (Sort_calls xs (by omega)) ?_
  rintro _ H1 _ - ⟨eH, rfl, rfl⟩
  rw [eH]; clear eH H1
  refine WpG.setL (L' := [Chunk.own 3 1 A1 c1 xs.length ((sortD xs).map iv)]) rfl ?_
  refine WpG.go tabOK 6 [(2, .slice A1 xs.length c1)] rfl ⟨rfl, trivial⟩ ?_
  -- return 0, path 
  exact WpG.ret tabOK (L' := [Chunk.own 3 1 A1 c1 xs.length ((sortD xs).map iv)]) (.tmp rfl .nil) (.cons_cons _ .slnil) ⟨rfl, A1, c1, rfl, rfl⟩

theorem Compact_short {H : Hp} {A : Option Addr} {n c : Nat} {l : List Int} (hn : n < 2) : CallG Tryz.prog 81 [.slice A n c] H [Chunk.own 3 1 A c n (l.map iv)] (fun v H' L' => H' = H ∧ v = .slice A n c ∧ L' = [Chunk.own 3 1 A c n (l.map iv)]) := by
  refine CallG.of Tryz.func81 rfl rfl rfl fun w0 => ?_
  change WpG _ _ _ _ _ _ [(0, .slice A n c)] _ _ _
  refine WpG.go tabOK 11 [(0, .slice A n c), (8, .bool (decide ((n : Int) < 2)))] rfl ⟨rfl, rfl, trivial⟩ ?_
  refine WpG.caseD (t := 8) rfl (fun q8 => ?_) (fun q8 => ?_)
  · refine WpG.go tabOK 6 [(2, .slice A n c)] rfl ⟨rfl, trivial⟩ ?_
    -- return 0, path T
    exact WpG.ret tabOK (L' := [Chunk.own 3 1 A c n (l.map iv)]) (.tmp rfl .nil) (.cons_cons _ .slnil) ⟨rfl, rfl, rfl⟩
  · exfalso; omega

theorem Compact_two {H : Hp} {b c : Nat} {x y : Int} : CallG Tryz.prog 81 [.slice (some ⟨b, 0, none⟩) 2 c] H [Chunk.own 3 1 (some ⟨b, 0, none⟩) c 2 ([x, y].map iv)] (fun v H' L' => H' = H ∧ v = .slice (some ⟨b, 0, none⟩) (compact2 [x, y]).length c ∧ L' = [Chunk.own 3 1 (some ⟨b, 0, none⟩) c (compact2 [x, y]).length ((compact2 [x, y]).map iv)]) := by
  refine CallG.of Tryz.func81 rfl rfl rfl fun w0 => ?_
  change WpG _ _ _ _ _ _ [(0, .slice (some ⟨b, 0, none⟩) 2 c)] _ _ _
  refine WpG.go tabOK 20 [(0, .slice (some ⟨b, 0, none⟩) 2 c), (3, .int .i64 1)] rfl ⟨rfl, rfl, trivial⟩ ?_
  refine WpG.go tabOK 13 [(0, .slice (some ⟨b, 0, none⟩) 2 c), (3, .int .i64 1)] rfl ⟨rfl, rfl, trivial⟩ ?_
  refine WpG.draw 10 [Chunk.own 3 1 (some ⟨b, 0, none⟩) c 2 ([x, y].map iv)] mixed (by kernel_rfl) ?_
  refine WpD.go (listed' := lst 10 115) tabOK [0, 1, 4, 5, 6] [(0, .slice (some ⟨b, 0, none⟩) 2 c), (3, .int .i64 1), (16, .slice (some ⟨b, 0, none⟩) 2 c), (17, .int .i64 1), (20, .slice (some ⟨b, 0, none⟩) 2 c), (22, .int .i64 0)] (by kernel_rfl) rfl ⟨rfl, rfl, rfl, rfl, rfl, rfl, trivial⟩ (Hp.le.refl _) (Hp.le.refl _) (.cons_cons _ .slnil) ?_
  refine WpD.y (i := 2) (fuel := 4) (listed' := lst 10 119) (by kernel_rfl) rfl rfl rfl rfl (Hp.le.refl _) (Hp.le.refl _) (.cons_cons _ .slnil) (RunY.indexAddr tabOK rfl rfl rfl rfl rfl (by omega) (by omega)) ?_
  refine WpD.y (i := 3) (fuel := 3) (listed' := lst 10 127) (by kernel_rfl) rfl rfl rfl rfl (Hp.le.refl _) (Hp.le.refl _) (.cons_cons _ .slnil) (RunY.loadOwn (ci := 0) (cs := [iv (nth [x, y] 1)]) tabOK rfl rfl rfl rfl rfl (own_int (by omega) (by simp))) ?_
  refine WpD.y (i := 7) (fuel := 2) (listed' := lst 10 255) (by kernel_rfl) rfl rfl rfl rfl (Hp.le.refl _) (Hp.le.refl _) (.cons_cons _ .slnil) (RunY.indexAddr tabOK rfl rfl rfl rfl rfl (by omega) (by omega)) ?_
  refine WpD.y (i := 8) (fuel := 1) (listed' := lst 10 511) (by kernel_rfl) rfl rfl rfl rfl (Hp.le.refl _) (Hp.le.refl _) (.cons_cons _ .slnil) (RunY.loadOwn (ci := 0) (cs := [iv (nth [x, y] 0)]) tabOK rfl rfl rfl rfl rfl (own_int (by omega) (by simp))) ?_
  refine WpD.go (listed' := lst 10 1023) tabOK [9] [(0, .slice (some ⟨b, 0, none⟩) 2 c), (3, .int .i64 1), (25, .bool ((nth [x, y] 1) == (nth [x, y] 0)))] (by kernel_rfl) rfl ⟨rfl, rfl, rfl, trivial⟩ (Hp.le.refl _) (Hp.le.refl _) (.cons_cons _ .slnil) ?_
  refine WpD.done (by kernel_rfl) ?_
  refine WpG.caseE (t := 25) rfl (fun q25 => ?_) (fun q25 => ?_)
  · refine WpG.go tabOK 5 [(0, .slice (some ⟨b, 0, none⟩) 2 c), (3, .int .i64 1), (26, .slice (some ⟨b, 0, none⟩) 2 c), (27, .int .i64 1)] rfl ⟨rfl, rfl, rfl, rfl, trivial⟩ ?_
    refine WpG.ownCap (ci := 0) rfl (fun hcap => ?_)
    refine WpG.y rfl rfl rfl rfl (RunY.sliceFrom tabOK rfl rfl rfl rfl rfl (by decide) (by decide) (by omega)) ?_
    refine WpG.go tabOK 9 [(0, .slice (some ⟨b, 0, none⟩) 2 c), (3, .int .i64 1), (4, .slice (some ⟨b, 1, none⟩) 1 (c - 1)), (5, .int .i64 1)] rfl ⟨rfl, rfl, rfl, rfl, trivial⟩ ?_
    refine WpG.go tabOK 14 [(0, .slice (some ⟨b, 0, none⟩) 2 c), (3, .int .i64 1), (54, .slice (some ⟨b, 0, none⟩) 2 c), (55, .int .i64 1)] rfl ⟨rfl, rfl, rfl, rfl, trivial⟩ ?_
    refine WpG.ownCap (ci := 0) rfl (fun hcap => ?_)
    refine WpG.y rfl rfl rfl rfl (RunY.sliceFrom tabOK rfl rfl rfl rfl rfl (by decide) (by decide) (by omega)) ?_
    refine WpG.clear1 (ci := 0) tabOK rfl rfl rfl rfl rfl rfl rfl rfl rfl rfl rfl ?_
    refine WpG.setL (L' := [Chunk.own 3 1 (some ⟨b, 0, none⟩) c 2 (([x, 0]).map iv)]) rfl ?_
    refine WpG.go tabOK 5 [(57, .slice (some ⟨b, 0, none⟩) 2 c), (58, .int .i64 1)] rfl ⟨rfl, rfl, trivial⟩ ?_
    refine WpG.ownCap (ci := 0) rfl (fun hcap => ?_)
    refine WpG.y rfl rfl rfl rfl (RunY.sliceTo tabOK rfl rfl rfl rfl rfl (by omega) (by omega)) ?_
    refine WpG.truncOwn (ci := 0) (m := 1) rfl (by omega) ?_
    refine WpG.setL (L' := [Chunk.own 3 1 (some ⟨b, 0, none⟩) c 1 (([x, 0].take 1).map iv)]) (by rw [List.map_take, Nat.mul_one]; rfl) ?_
    refine WpG.go tabOK 2 [(2, .slice (some ⟨b, 0, none⟩) 1 c)] rfl ⟨rfl, trivial⟩ ?_
    -- return 0, path T
    exact WpG.ret tabOK (L' := [Chunk.own 3 1 (some ⟨b, 0, none⟩) c 1 (([x, 0].take 1).map iv)]) (.tmp rfl .nil) (.cons_cons _ .slnil) ⟨rfl, by simp only [compact2]; rw [if_pos (show x = y from q25.symm)]; rfl, by simp only [compact2]; rw [if_pos (show x = y from q25.symm)]; rfl⟩
  · refine WpG.go tabOK 6 [(0, .slice (some ⟨b, 0, none⟩) 2 c), (15, .int .i64 2)] rfl ⟨rfl, rfl, trivial⟩ ?_
    refine WpG.go tabOK 3 [(0, .slice (some ⟨b, 0, none⟩) 2 c), (3, .int .i64 2)] rfl ⟨rfl, rfl, trivial⟩ ?_
    refine WpG.go tabOK 15 [(2, .slice (some ⟨b, 0, none⟩) 2 c)] rfl ⟨rfl, trivial⟩ ?_
    -- return 1, path F
    exact WpG.ret tabOK (L' := [Chunk.own 3 1 (some ⟨b, 0, none⟩) c 2 ([x, y].map iv)]) (.tmp rfl .nil) (.cons_cons _ .slnil) ⟨rfl, by simp only [compact2]; rw [if_neg (fun e => q25 (show y = x from e.symm))]; rfl, by simp only [compact2]; rw [if_neg (fun e => q25 (show y = x from e.symm))]; rfl⟩
end Go.Proofs.YtdjemlkllbhdlaaGreat

/- The walks of what operations look like. -/
import Derived.Test.YtdjemlkllbhdlaaGreatT2
import Derived.Test.YtdjemlkllbhdlaaGreatSpec2
set_option linter.unusedVariables false
set_option linter.unusedSimpArgs false
namespace Go.Proofs.YtdjemlkllbhdlaaGreat
open Go Go.RowKit
theorem Cut_calls {H : Hp} (v bits : Int) (h0 : 0 ≤ v) : CallG Tryz.prog 122 [.int .u64 v, .int .i64 bits] H [] (fun u _ L' => u = .int .u64 (cutD v bits) ∧ L' = []) := by
  refine CallG.of Tryz.func122 rfl rfl rfl fun w0 => ?_
  change WpG _ _ _ _ _ _ [(0, .int .u64 v), (1, .int .i64 bits)] _ _ _
  refine WpG.go tabOK 8 [(0, .int .u64 v), (1, .int .i64 bits), (5, .int .i64 bits)] rfl ⟨rfl, rfl, rfl, trivial⟩ ?_
  refine WpG.callS rfl rfl rfl rfl rfl rfl (Hp.le.refl _) (May_calls bits) ?_
  refine WpG.go tabOK 2 [(0, .int .u64 v), (1, .int .i64 bits), (7, .bool (!(mayW bits)))] rfl ⟨rfl, rfl, rfl, trivial⟩ ?_
  refine WpG.caseBn (t := 7) rfl (fun q7 => ?_) (fun q7 => ?_)
  · refine WpG.go tabOK 5 [(4, .int .u64 0)] rfl ⟨rfl, trivial⟩ ?_
    -- return 0, path T
    exact WpG.ret tabOK (L' := []) (.tmp rfl .nil) .slnil ⟨congrArg (Value.int .u64) (by unfold cutD; rw [if_neg (by simp [q7])]), rfl⟩
  · have hc := mayW_cases q7
    refine WpG.go tabOK 7 [(1, .int .i64 bits), (8, .int .u64 v), (10, .int .i64 (64 - bits))] rfl ⟨rfl, rfl, (wrk (x := 64 - bits) (by omega) (by omega)), trivial⟩ ?_
    refine WpG.y rfl rfl rfl rfl (RunY.shl rfl rfl (by omega)) ?_
    refine WpG.go tabOK 2 [(11, .int .u64 (IntKind.u64.wrap (v * 2 ^ (min (64 - bits).toNat 64)))), (13, .int .i64 (64 - bits))] rfl ⟨rfl, (wrk (x := 64 - bits) (by omega) (by omega)), trivial⟩ ?_
    refine WpG.y rfl rfl rfl rfl (RunY.shr rfl rfl (by omega)) ?_
    refine WpG.go tabOK 2 [(4, .int .u64 (Int.fdiv (IntKind.u64.wrap (v * 2 ^ (min (64 - bits).toNat 64))) (2 ^ (min (64 - bits).toNat 64))))] rfl ⟨rfl, trivial⟩ ?_
    -- return 1, path F
    exact WpG.ret tabOK (L' := []) (.tmp rfl .nil) .slnil ⟨congrArg (Value.int .u64) (cut_shift q7 h0), rfl⟩

theorem Equal_calls {H : Hp} {A A' : Option Addr} {c c' : Nat} {l m : List Int} (hl : RdS H A l) (hm : RdS H A' m) : CallG Tryz.prog 56 [.slice A l.length c, .slice A' m.length c'] H [] (fun v _ L' => v = .bool (eqL l m) ∧ L' = []) := by
  have bl := hl.1; have bm := hm.1
  refine CallG.of Tryz.func56 rfl rfl rfl fun w0 => ?_
  change WpG _ _ _ _ _ _ [(0, .slice A l.length c), (1, .slice A' m.length c')] _ _ _
  refine WpG.go tabOK 13 [(0, .slice A l.length c), (1, .slice A' m.length c'), (10, .bool ((l.length : Int) != (m.length : Int)))] rfl ⟨rfl, rfl, rfl, trivial⟩ ?_
  refine WpG.caseN (t := 10) rfl (fun q10 => ?_) (fun q10 => ?_)
  · refine WpG.go tabOK 5 [(4, .bool false)] rfl ⟨rfl, trivial⟩ ?_
    -- return 0, path T
    exact WpG.ret tabOK (L' := []) (.tmp rfl .nil) .slnil ⟨congrArg Value.bool (by exact (eqL_len (by omega)).symm), rfl⟩
  · refine WpG.go tabOK 11 [(0, .slice A l.length c), (1, .slice A' m.length c'), (12, .int .i64 (l.length : Int)), (13, .int .i64 0)] rfl ⟨rfl, rfl, rfl, rfl, trivial⟩ ?_
    refine WpG.ind (σ := Int) (fun z_ => (l.length - z_).toNat) (fun z_ => [(0, .slice A l.length c), (1, .slice A' m.length c'), (12, .int .i64 (l.length : Int)), (13, .int .i64 z_)]) (fun z_ => H) (fun z_ => []) (fun z_ => 0 ≤ z_ ∧ z_ ≤ l.length ∧ eqL l m = eqL (l.drop z_.toNat) (m.drop z_.toNat)) ?_ (0) ⟨by omega, by omega, rfl⟩
    intro i inv ih1
    change WpG _ _ _ _ _ _ [(0, .slice A l.length c), (1, .slice A' m.length c'), (12, .int .i64 (l.length : Int)), (13, .int .i64 i)] H [] _
    replace inv : 0 ≤ i ∧ i ≤ l.length ∧ eqL l m = eqL (l.drop i.toNat) (m.drop i.toNat) := inv
    obtain ⟨i0, i1, i2⟩ := inv
    refine WpG.go tabOK 5 [(0, .slice A l.length c), (1, .slice A' m.length c'), (12, .int .i64 (l.length : Int)), (13, .int .i64 i), (14, .bool (decide (i < (l.length : Int))))] rfl ⟨rfl, rfl, rfl, rfl, rfl, trivial⟩ ?_
    refine WpG.caseD (t := 14) rfl (fun q14 => ?_) (fun q14 => ?_)
    · refine WpG.go tabOK 10 [(0, .slice A l.length c), (1, .slice A' m.length c'), (5, .int .i64 i), (12, .int .i64 (l.length : Int)), (13, .int .i64 i)] rfl ⟨rfl, rfl, rfl, rfl, rfl, trivial⟩ ?_
      refine WpG.draw 9 [] mixed (by kernel_rfl) ?_
      refine WpD.go (listed' := lst 9 51) tabOK [0, 1, 4, 5] [(0, .slice A l.length c), (1, .slice A' m.length c'), (12, .int .i64 (l.length : Int)), (13, .int .i64 i), (16, .slice A l.length c), (17, .int .i64 i), (20, .slice A' m.length c'), (21, .int .i64 i)] (by kernel_rfl) rfl ⟨rfl, rfl, rfl, rfl, rfl, rfl, rfl, rfl, trivial⟩ (Hp.le.refl _) (Hp.le.refl _) .slnil ?_
      refine WpD.indexR (i := 2) (fuel := 4) (listed' := lst 9 55) tabOK (by kernel_rfl) rfl rfl rfl rfl rfl rfl rfl rfl rfl (Hp.le.refl _) (Hp.le.refl _) .slnil hl (by omega) (by omega) ?_
      rintro x1 hx1 b1 o1 _ ⟨rfl, k1⟩ hc1
      refine WpD.y (i := 3) (fuel := 3) (listed' := lst 9 63) (by kernel_rfl) rfl rfl rfl rfl (Hp.le.refl _) (Hp.le.refl _) .slnil (RunY.loadH tabOK hc1 (Hp.le.refl _) rfl rfl rfl rfl) ?_
      refine WpD.indexR (i := 6) (fuel := 2) (listed' := lst 9 127) tabOK (by kernel_rfl) rfl rfl rfl rfl rfl rfl rfl rfl rfl (Hp.le.refl _) (Hp.le.refl _) .slnil hm (by omega) (by omega) ?_
      rintro x2 hx2 b2 o2 _ ⟨rfl, k2⟩ hc2
      refine WpD.y (i := 7) (fuel := 1) (listed' := lst 9 255) (by kernel_rfl) rfl rfl rfl rfl (Hp.le.refl _) (Hp.le.refl _) .slnil (RunY.loadH tabOK hc2 (Hp.le.refl _) rfl rfl rfl rfl) ?_
      refine WpD.go (listed' := lst 9 511) tabOK [8] [(0, .slice A l.length c), (1, .slice A' m.length c'), (12, .int .i64 (l.length : Int)), (13, .int .i64 i), (24, .bool (x1 != x2))] (by kernel_rfl) rfl ⟨rfl, rfl, rfl, rfl, rfl, trivial⟩ (Hp.le.refl _) (Hp.le.refl _) .slnil ?_
      refine WpD.done (by kernel_rfl) ?_
      refine WpG.caseN (t := 24) rfl (fun q24 => ?_) (fun q24 => ?_)
      · refine WpG.go tabOK 5 [(4, .bool false)] rfl ⟨rfl, trivial⟩ ?_
        -- return 1, path FL1TT
        exact WpG.ret tabOK (L' := []) (.tmp rfl .nil) .slnil ⟨congrArg Value.bool (by clear ih1; rw [i2, drop_nth i0 q14, drop_nth i0 (by omega), ← hx1, ← hx2]; simp only [eqL, beq_eq_false_iff_ne.2 q24, Bool.false_and]), rfl⟩
      · refine WpG.go tabOK 5 [(0, .slice A l.length c), (1, .slice A' m.length c'), (12, .int .i64 (l.length : Int)), (25, .int .i64 (i + 1))] rfl ⟨rfl, rfl, rfl, (wrk (x := i + 1) (by omega) (by omega)), trivial⟩ ?_
        refine WpG.go tabOK 3 [(0, .slice A l.length c), (1, .slice A' m.length c'), (12, .int .i64 (l.length : Int)), (13, .int .i64 (i + 1))] rfl ⟨rfl, rfl, rfl, rfl, trivial⟩ ?_
        refine WpG.weaken (G := [(0, .slice A l.length c), (1, .slice A' m.length c'), (12, .int .i64 (l.length : Int)), (13, .int .i64 (i + 1))]) (Known.all ⟨rfl, rfl, rfl, rfl, trivial⟩) (ih1 (i + 1) ?_ ?_)
        · show (l.length - (i + 1)).toNat < (l.length - i).toNat
          omega
        · show 0 ≤ (i + 1) ∧ (i + 1) ≤ l.length ∧ eqL l m = eqL (l.drop (i + 1).toNat) (m.drop (i + 1).toNat)
          -- back 0 of loop 1, path FL1TF
          clear ih1
          refine ⟨by omega, by omega, ?_⟩
          rw [i2, drop_nth i0 q14, drop_nth i0 (by omega), ← hx1, ← hx2, toNat_succ i0]; simp only [eqL, q24, beq_self_eq_true, Bool.true_and]
    · refine WpG.go tabOK 6 [(4, .bool true)] rfl ⟨rfl, trivial⟩ ?_
      -- return 2, path FL1F
      exact WpG.ret tabOK (L' := []) (.tmp rfl .nil) .slnil ⟨congrArg Value.bool (by clear ih1; rw [i2, drop_end i0 q14, drop_end i0 (by omega)]; rfl), rfl⟩

theorem value_calls {H : Hp} (x : Int) : CallG Tryz.prog 113 [.int .i64 x] H [] (fun v _ L' => v = .bool (valueOK x) ∧ L' = []) := by
  refine CallG.of Tryz.func113 rfl rfl rfl fun w0 => ?_
  change WpG _ _ _ _ _ _ [(0, .int .i64 x)] _ _ _
  refine WpG.go tabOK 9 [(0, .int .i64 x), (5, .bool (decide (x ≥ 1)))] rfl ⟨rfl, rfl, trivial⟩ ?_
  refine WpG.caseD (t := 5) rfl (fun q5 => ?_) (fun q5 => ?_)
  · refine WpG.go tabOK 5 [(2, .bool (decide (x ≤ 1023)))] rfl ⟨rfl, trivial⟩ ?_
    -- return 0, path T
    exact WpG.ret tabOK (L' := []) (.tmp rfl .nil) .slnil ⟨congrArg Value.bool (by first | (simp only [valueOK, decide_eq_true q4, Bool.true_and]; done) | (simp only [valueOK, decide_eq_false q4, Bool.false_and]; done) | (simp_all [valueOK]; done) | (simp_all [valueOK]; omega)), rfl⟩
  · refine WpG.go tabOK 5 [(2, .bool false)] rfl ⟨rfl, trivial⟩ ?_
    -- return 1, path F
    exact WpG.ret tabOK (L' := []) (.tmp rfl .nil) .slnil ⟨congrArg Value.bool (by first | (simp only [valueOK, decide_eq_true q4, Bool.true_and]; done) | (simp only [valueOK, decide_eq_false q4, Bool.false_and]; done) | (simp_all [valueOK]; done) | (simp_all [valueOK]; omega)), rfl⟩

theorem stores_calls {H : Hp} (k : Int) : CallG Tryz.prog 94 [.int .i64 k] H [] (fun v _ L' => v = .bool (storesK k) ∧ L' = []) := by
  refine CallG.of Tryz.func94 rfl rfl rfl fun w0 => ?_
  change WpG _ _ _ _ _ _ [(0, .int .i64 k)] _ _ _
  refine WpG.go tabOK 9 [(0, .int .i64 k), (5, .bool (k == 17))] rfl ⟨rfl, rfl, trivial⟩ ?_
  refine WpG.caseE (t := 5) rfl (fun q5 => ?_) (fun q5 => ?_)
  · refine WpG.go tabOK 5 [(2, .bool true)] rfl ⟨rfl, trivial⟩ ?_
    -- return 0, path T
    exact WpG.ret tabOK (L' := []) (.tmp rfl .nil) .slnil ⟨congrArg Value.bool (by simp_all [storesK]), rfl⟩
  · refine WpG.go tabOK 5 [(2, .bool (k == 19))] rfl ⟨rfl, trivial⟩ ?_
    -- return 1, path F
    exact WpG.ret tabOK (L' := []) (.tmp rfl .nil) .slnil ⟨congrArg Value.bool (by simp_all [storesK]), rfl⟩

theorem Shape_calls {H : Hp} (b n : Int) (hb : I64 b) : CallG Tryz.prog 111 [.int .i64 b, .int .i64 n] H [] (fun v _ L' => v = .bool (shapeD b n) ∧ L' = []) := by
  have hb1 := hb.1; have hb2 := hb.2
  refine CallG.of Tryz.func111 rfl rfl rfl fun w0 => ?_
  change WpG _ _ _ _ _ _ [(0, .int .i64 b), (1, .int .i64 n)] _ _ _
  refine WpG.go tabOK 8 [(0, .int .i64 b), (1, .int .i64 n), (5, .int .i64 b)] rfl ⟨rfl, rfl, rfl, trivial⟩ ?_
  refine WpG.callS rfl rfl rfl rfl rfl rfl (Hp.le.refl _) (May_calls b) ?_
  refine WpG.go tabOK 2 [(0, .int .i64 b), (1, .int .i64 n), (7, .bool (!(mayW b)))] rfl ⟨rfl, rfl, rfl, trivial⟩ ?_
  refine WpG.caseBn (t := 7) rfl (fun q7 => ?_) (fun q7 => ?_)
  · refine WpG.go tabOK 5 [(4, .bool false)] rfl ⟨rfl, trivial⟩ ?_
    -- return 0, path T
    exact WpG.ret tabOK (L' := []) (.tmp rfl .nil) .slnil ⟨congrArg Value.bool (by first | (simp_all [shapeD]; done) | (simp_all [shapeD]; omega)), rfl⟩
  · refine WpG.go tabOK 13 [(0, .int .i64 b), (1, .int .i64 n), (8, .int .i64 n), (9, .bool (n == 1))] rfl ⟨rfl, rfl, rfl, rfl, trivial⟩ ?_
    refine WpG.caseE (t := 9) rfl (fun q9 => ?_) (fun q9 => ?_)
    · refine WpG.go tabOK 5 [(4, .bool true)] rfl ⟨rfl, trivial⟩ ?_
      -- return 1, path FT
      exact WpG.ret tabOK (L' := []) (.tmp rfl .nil) .slnil ⟨congrArg Value.bool (by first | (simp_all [shapeD]; done) | (simp_all [shapeD]; omega)), rfl⟩
    · refine WpG.go tabOK 7 [(0, .int .i64 b), (1, .int .i64 n), (8, .int .i64 n), (11, .bool (n == 2))] rfl ⟨rfl, rfl, rfl, rfl, trivial⟩ ?_
      refine WpG.caseE (t := 11) rfl (fun q11 => ?_) (fun q11 => ?_)
      · refine WpG.go tabOK 8 [(0, .int .i64 b), (1, .int .i64 n), (18, .bool (decide (b ≥ 8)))] rfl ⟨rfl, rfl, rfl, trivial⟩ ?_
        refine WpG.caseD (t := 18) rfl (fun q18 => ?_) (fun q18 => ?_)
        · have hn : n = 2 ∨ n = 4 ∨ n = 8 ∨ n = 16 := by omega
          have hm : 0 ≤ b * n ∧ b * n ≤ 1024 := by rcases mayW_cases q7 with h | h | h | h | h <;> rcases hn with k | k | k | k <;> rw [h, k] <;> omega
          refine WpG.go tabOK 3 [(18, .bool true), (21, .int .i64 (b * n))] rfl ⟨rfl, (wrk (x := b * n) (by omega) (by omega)), trivial⟩ ?_
          refine WpG.go tabOK 4 [(4, .bool (decide ((b * n) ≤ 128)))] rfl ⟨rfl, trivial⟩ ?_
          -- return 2, path FFTT
          exact WpG.ret tabOK (L' := []) (.tmp rfl .nil) .slnil ⟨congrArg Value.bool (by first | (simp_all [shapeD]; done) | (simp_all [shapeD]; omega)), rfl⟩
        · refine WpG.go tabOK 7 [(4, .bool false)] rfl ⟨rfl, trivial⟩ ?_
          -- return 3, path FFTF
          exact WpG.ret tabOK (L' := []) (.tmp rfl .nil) .slnil ⟨congrArg Value.bool (by first | (simp_all [shapeD]; done) | (simp_all [shapeD]; omega)), rfl⟩
      · refine WpG.go tabOK 6 [(0, .int .i64 b), (1, .int .i64 n), (8, .int .i64 n), (11, .bool (n == 4))] rfl ⟨rfl, rfl, rfl, rfl, trivial⟩ ?_
        refine WpG.caseE (t := 11) rfl (fun q11_2 => ?_) (fun q11_2 => ?_)
        · refine WpG.go tabOK 8 [(0, .int .i64 b), (1, .int .i64 n), (18, .bool (decide (b ≥ 8)))] rfl ⟨rfl, rfl, rfl, trivial⟩ ?_
          refine WpG.caseD (t := 18) rfl (fun q18 => ?_) (fun q18 => ?_)
          · have hn : n = 2 ∨ n = 4 ∨ n = 8 ∨ n = 16 := by omega
            have hm : 0 ≤ b * n ∧ b * n ≤ 1024 := by rcases mayW_cases q7 with h | h | h | h | h <;> rcases hn with k | k | k | k <;> rw [h, k] <;> omega
            refine WpG.go tabOK 3 [(18, .bool true), (21, .int .i64 (b * n))] rfl ⟨rfl, (wrk (x := b * n) (by omega) (by omega)), trivial⟩ ?_
            refine WpG.go tabOK 4 [(4, .bool (decide ((b * n) ≤ 128)))] rfl ⟨rfl, trivial⟩ ?_
            -- return 4, path FFFTT
            exact WpG.ret tabOK (L' := []) (.tmp rfl .nil) .slnil ⟨congrArg Value.bool (by first | (simp_all [shapeD]; done) | (simp_all [shapeD]; omega)), rfl⟩
          · refine WpG.go tabOK 7 [(4, .bool false)] rfl ⟨rfl, trivial⟩ ?_
            -- return 5, path FFFTF
            exact WpG.ret tabOK (L' := []) (.tmp rfl .nil) .slnil ⟨congrArg Value.bool (by first | (simp_all [shapeD]; done) | (simp_all [shapeD]; omega)), rfl⟩
        · refine WpG.go tabOK 6 [(0, .int .i64 b), (1, .int .i64 n), (8, .int .i64 n), (11, .bool (n == 8))] rfl ⟨rfl, rfl, rfl, rfl, trivial⟩ ?_
          refine WpG.caseE (t := 11) rfl (fun q11_3 => ?_) (fun q11_3 => ?_)
          · refine WpG.go tabOK 8 [(0, .int .i64 b), (1, .int .i64 n), (18, .bool (decide (b ≥ 8)))] rfl ⟨rfl, rfl, rfl, trivial⟩ ?_
            refine WpG.caseD (t := 18) rfl (fun q18 => ?_) (fun q18 => ?_)
            · have hn : n = 2 ∨ n = 4 ∨ n = 8 ∨ n = 16 := by omega
              have hm : 0 ≤ b * n ∧ b * n ≤ 1024 := by rcases mayW_cases q7 with h | h | h | h | h <;> rcases hn with k | k | k | k <;> rw [h, k] <;> omega
              refine WpG.go tabOK 3 [(18, .bool true), (21, .int .i64 (b * n))] rfl ⟨rfl, (wrk (x := b * n) (by omega) (by omega)), trivial⟩ ?_
              refine WpG.go tabOK 4 [(4, .bool (decide ((b * n) ≤ 128)))] rfl ⟨rfl, trivial⟩ ?_
              -- return 6, path FFFFTT
              exact WpG.ret tabOK (L' := []) (.tmp rfl .nil) .slnil ⟨congrArg Value.bool (by first | (simp_all [shapeD]; done) | (simp_all [shapeD]; omega)), rfl⟩
            · refine WpG.go tabOK 7 [(4, .bool false)] rfl ⟨rfl, trivial⟩ ?_
              -- return 7, path FFFFTF
              exact WpG.ret tabOK (L' := []) (.tmp rfl .nil) .slnil ⟨congrArg Value.bool (by first | (simp_all [shapeD]; done) | (simp_all [shapeD]; omega)), rfl⟩
          · refine WpG.go tabOK 5 [(0, .int .i64 b), (1, .int .i64 n), (11, .bool (n == 16))] rfl ⟨rfl, rfl, rfl, trivial⟩ ?_
            refine WpG.caseE (t := 11) rfl (fun q11_4 => ?_) (fun q11_4 => ?_)
            · refine WpG.go tabOK 6 [(0, .int .i64 b), (1, .int .i64 n), (18, .bool (decide (b ≥ 8)))] rfl ⟨rfl, rfl, rfl, trivial⟩ ?_
              refine WpG.caseD (t := 18) rfl (fun q18 => ?_) (fun q18 => ?_)
              · have hn : n = 2 ∨ n = 4 ∨ n = 8 ∨ n = 16 := by omega
                have hm : 0 ≤ b * n ∧ b * n ≤ 1024 := by rcases mayW_cases q7 with h | h | h | h | h <;> rcases hn with k | k | k | k <;> rw [h, k] <;> omega
                refine WpG.go tabOK 3 [(18, .bool true), (21, .int .i64 (b * n))] rfl ⟨rfl, (wrk (x := b * n) (by omega) (by omega)), trivial⟩ ?_
                refine WpG.go tabOK 4 [(4, .bool (decide ((b * n) ≤ 128)))] rfl ⟨rfl, trivial⟩ ?_
                -- return 8, path FFFFFTT
                exact WpG.ret tabOK (L' := []) (.tmp rfl .nil) .slnil ⟨congrArg Value.bool (by first | (simp_all [shapeD]; done) | (simp_all [shapeD]; omega)), rfl⟩
              · refine WpG.go tabOK 7 [(4, .bool false)] rfl ⟨rfl, trivial⟩ ?_
                -- return 9, path FFFFFTF
                exact WpG.ret tabOK (L' := []) (.tmp rfl .nil) .slnil ⟨congrArg Value.bool (by first | (simp_all [shapeD]; done) | (simp_all [shapeD]; omega)), rfl⟩
            · refine WpG.go tabOK 7 [(4, .bool false)] rfl ⟨rfl, trivial⟩ ?_
              -- return 10, path FFFFFF
              exact WpG.ret tabOK (L' := []) (.tmp rfl .nil) .slnil ⟨congrArg Value.bool (by first | (simp_all [shapeD]; done) | (simp_all [shapeD]; omega)), rfl⟩
end Go.Proofs.YtdjemlkllbhdlaaGreat

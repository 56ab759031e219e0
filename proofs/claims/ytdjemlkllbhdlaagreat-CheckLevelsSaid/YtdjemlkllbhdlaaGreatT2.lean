/- The walks of the small functions. -/
import Derived.Test.YtdjemlkllbhdlaaGreatTab
import Derived.Test.YtdjemlkllbhdlaaGreatSpec1
set_option linter.unusedVariables false
set_option linter.unusedSimpArgs false
namespace Go.Proofs.YtdjemlkllbhdlaaGreat
open Go Go.RowKit
theorem May_calls {H : Hp} (bits : Int) : CallG Tryz.prog 57 [.int .i64 bits] H [] (fun v _ L' => v = .bool (mayW bits) ∧ L' = []) := by
  refine CallG.of Tryz.func57 rfl rfl rfl fun w0 => ?_
  change WpG _ _ _ _ _ _ [(0, .int .i64 bits)] _ _ _
  refine WpG.go tabOK 16 [(3, .int .i64 bits), (4, .bool (bits == 1))] rfl ⟨rfl, rfl, trivial⟩ ?_
  refine WpG.caseE (t := 4) rfl (fun q4 => ?_) (fun q4 => ?_)
  · refine WpG.go tabOK 7 [(2, .bool true)] rfl ⟨rfl, trivial⟩ ?_
    -- return 0, path T
    exact WpG.ret tabOK (L' := []) (.tmp rfl .nil) .slnil ⟨congrArg Value.bool (by simp_all [mayW]), rfl⟩
  · refine WpG.go tabOK 6 [(3, .int .i64 bits), (4, .bool (bits == 8))] rfl ⟨rfl, rfl, trivial⟩ ?_
    refine WpG.caseE (t := 4) rfl (fun q4_2 => ?_) (fun q4_2 => ?_)
    · refine WpG.go tabOK 7 [(2, .bool true)] rfl ⟨rfl, trivial⟩ ?_
      -- return 1, path FT
      exact WpG.ret tabOK (L' := []) (.tmp rfl .nil) .slnil ⟨congrArg Value.bool (by simp_all [mayW]), rfl⟩
    · refine WpG.go tabOK 6 [(3, .int .i64 bits), (4, .bool (bits == 16))] rfl ⟨rfl, rfl, trivial⟩ ?_
      refine WpG.caseE (t := 4) rfl (fun q4_3 => ?_) (fun q4_3 => ?_)
      · refine WpG.go tabOK 7 [(2, .bool true)] rfl ⟨rfl, trivial⟩ ?_
        -- return 2, path FFT
        exact WpG.ret tabOK (L' := []) (.tmp rfl .nil) .slnil ⟨congrArg Value.bool (by simp_all [mayW]), rfl⟩
      · refine WpG.go tabOK 6 [(3, .int .i64 bits), (4, .bool (bits == 32))] rfl ⟨rfl, rfl, trivial⟩ ?_
        refine WpG.caseE (t := 4) rfl (fun q4_4 => ?_) (fun q4_4 => ?_)
        · refine WpG.go tabOK 7 [(2, .bool true)] rfl ⟨rfl, trivial⟩ ?_
          -- return 3, path FFFT
          exact WpG.ret tabOK (L' := []) (.tmp rfl .nil) .slnil ⟨congrArg Value.bool (by simp_all [mayW]), rfl⟩
        · refine WpG.go tabOK 5 [(4, .bool (bits == 64))] rfl ⟨rfl, trivial⟩ ?_
          refine WpG.caseE (t := 4) rfl (fun q4_5 => ?_) (fun q4_5 => ?_)
          · refine WpG.go tabOK 5 [(2, .bool true)] rfl ⟨rfl, trivial⟩ ?_
            -- return 4, path FFFFT
            exact WpG.ret tabOK (L' := []) (.tmp rfl .nil) .slnil ⟨congrArg Value.bool (by simp_all [mayW]), rfl⟩
          · refine WpG.go tabOK 7 [(2, .bool false)] rfl ⟨rfl, trivial⟩ ?_
            -- return 5, path FFFFF
            exact WpG.ret tabOK (L' := []) (.tmp rfl .nil) .slnil ⟨congrArg Value.bool (by simp_all [mayW]), rfl⟩

theorem goes_calls {H : Hp} (kind : Int) : CallG Tryz.prog 79 [.int .i64 kind] H [] (fun v _ L' => v = .int .i64 (goesD kind) ∧ L' = []) := by
  refine CallG.of Tryz.func79 rfl rfl rfl fun w0 => ?_
  change WpG _ _ _ _ _ _ [(0, .int .i64 kind)] _ _ _
  refine WpG.go tabOK 16 [(3, .int .i64 kind), (4, .bool (kind == 0))] rfl ⟨rfl, rfl, trivial⟩ ?_
  refine WpG.caseE (t := 4) rfl (fun q4 => ?_) (fun q4 => ?_)
  · refine WpG.go tabOK 7 [(2, .int .i64 0)] rfl ⟨rfl, trivial⟩ ?_
    -- return 0, path T
    exact WpG.ret tabOK (L' := []) (.tmp rfl .nil) .slnil ⟨congrArg (Value.int .i64) (by simp_all [goesD]), rfl⟩
  · refine WpG.go tabOK 5 [(3, .int .i64 kind), (4, .bool (kind == 3))] rfl ⟨rfl, rfl, trivial⟩ ?_
    refine WpG.caseE (t := 4) rfl (fun q4_2 => ?_) (fun q4_2 => ?_)
    · refine WpG.go tabOK 5 [(2, .int .i64 0)] rfl ⟨rfl, trivial⟩ ?_
      -- return 1, path FT
      exact WpG.ret tabOK (L' := []) (.tmp rfl .nil) .slnil ⟨congrArg (Value.int .i64) (by simp_all [goesD]), rfl⟩
    · refine WpG.go tabOK 6 [(3, .int .i64 kind), (7, .bool (kind == 1))] rfl ⟨rfl, rfl, trivial⟩ ?_
      refine WpG.caseE (t := 7) rfl (fun q7 => ?_) (fun q7 => ?_)
      · refine WpG.go tabOK 5 [(2, .int .i64 1)] rfl ⟨rfl, trivial⟩ ?_
        -- return 2, path FFT
        exact WpG.ret tabOK (L' := []) (.tmp rfl .nil) .slnil ⟨congrArg (Value.int .i64) (by simp_all [goesD]), rfl⟩
      · refine WpG.go tabOK 6 [(9, .bool (kind == 2))] rfl ⟨rfl, trivial⟩ ?_
        refine WpG.caseE (t := 9) rfl (fun q9 => ?_) (fun q9 => ?_)
        · refine WpG.go tabOK 5 [(2, .int .i64 2)] rfl ⟨rfl, trivial⟩ ?_
          -- return 3, path FFFT
          exact WpG.ret tabOK (L' := []) (.tmp rfl .nil) .slnil ⟨congrArg (Value.int .i64) (by simp_all [goesD]), rfl⟩
        · refine WpG.go tabOK 7 [(2, .int .i64 (-1))] rfl ⟨rfl, trivial⟩ ?_
          -- return 4, path FFFF
          exact WpG.ret tabOK (L' := []) (.tmp rfl .nil) .slnil ⟨congrArg (Value.int .i64) (by simp_all [goesD]), rfl⟩

theorem rising_calls {H : Hp} {A : Option Addr} {c : Nat} {l : List Int} (hl : RdS H A l) (n : Int) : CallG Tryz.prog 102 [.slice A l.length c, .int .i64 n] H [] (fun v _ L' => v = .bool (risingD n l (-1)) ∧ L' = []) := by
  have bl := hl.1
  refine CallG.of Tryz.func102 rfl rfl rfl fun w0 => ?_
  change WpG _ _ _ _ _ _ [(0, .slice A l.length c), (1, .int .i64 n)] _ _ _
  refine WpG.go tabOK 17 [(1, .int .i64 n), (5, .int .i64 (-1)), (8, .slice A l.length c), (9, .int .i64 (l.length : Int)), (10, .int .i64 0)] rfl ⟨rfl, rfl, rfl, rfl, rfl, trivial⟩ ?_
  refine WpG.ind (σ := Int × Int) (fun z_ => (l.length - z_.1).toNat) (fun z_ => [(1, .int .i64 n), (5, .int .i64 z_.2), (8, .slice A l.length c), (9, .int .i64 (l.length : Int)), (10, .int .i64 z_.1)]) (fun z_ => H) (fun z_ => []) (fun z_ => 0 ≤ z_.1 ∧ z_.1 ≤ l.length ∧ risingD n l (-1) = risingD n (l.drop z_.1.toNat) z_.2) ?_ (0, -1) ⟨by omega, by omega, rfl⟩
  rintro ⟨i, last⟩ inv ih1
  change WpG _ _ _ _ _ _ [(1, .int .i64 n), (5, .int .i64 last), (8, .slice A l.length c), (9, .int .i64 (l.length : Int)), (10, .int .i64 i)] H [] _
  replace inv : 0 ≤ i ∧ i ≤ l.length ∧ risingD n l (-1) = risingD n (l.drop i.toNat) last := inv
  obtain ⟨i0, i1, i2⟩ := inv
  refine WpG.go tabOK 5 [(1, .int .i64 n), (5, .int .i64 last), (8, .slice A l.length c), (9, .int .i64 (l.length : Int)), (10, .int .i64 i), (11, .bool (decide (i < (l.length : Int))))] rfl ⟨rfl, rfl, rfl, rfl, rfl, rfl, trivial⟩ ?_
  refine WpG.caseD (t := 11) rfl (fun q11 => ?_) (fun q11 => ?_)
  · refine WpG.go tabOK 6 [(1, .int .i64 n), (5, .int .i64 last), (8, .slice A l.length c), (9, .int .i64 (l.length : Int)), (10, .int .i64 i)] rfl ⟨rfl, rfl, rfl, rfl, rfl, trivial⟩ ?_
    refine WpG.indexR tabOK rfl rfl rfl rfl rfl rfl rfl rfl rfl hl (by omega) (by omega) ?_
    rintro x1 hx1 b1 o1 _ ⟨rfl, k1⟩ hc1
    refine WpG.y rfl rfl rfl rfl (RunY.loadH tabOK hc1 (Hp.le.refl _) rfl rfl rfl rfl) ?_
    refine WpG.go tabOK 9 [(1, .int .i64 n), (7, .int .i64 x1), (8, .slice A l.length c), (9, .int .i64 (l.length : Int)), (10, .int .i64 i), (17, .bool (decide (x1 ≤ last)))] rfl ⟨rfl, rfl, rfl, rfl, rfl, rfl, trivial⟩ ?_
    refine WpG.caseD (t := 17) rfl (fun q17 => ?_) (fun q17 => ?_)
    · refine WpG.go tabOK 10 [(4, .bool false)] rfl ⟨rfl, trivial⟩ ?_
      -- return 0, path L1TT
      exact WpG.ret tabOK (L' := []) (.tmp rfl .nil) .slnil ⟨congrArg Value.bool (by clear ih1; rw [i2, drop_nth i0 q11, ← hx1]; simp only [risingD]; rw [if_pos q17]), rfl⟩
    · refine WpG.go tabOK 5 [(1, .int .i64 n), (7, .int .i64 x1), (8, .slice A l.length c), (9, .int .i64 (l.length : Int)), (10, .int .i64 i), (21, .bool (decide (x1 ≥ n)))] rfl ⟨rfl, rfl, rfl, rfl, rfl, rfl, trivial⟩ ?_
      refine WpG.caseD (t := 21) rfl (fun q21 => ?_) (fun q21 => ?_)
      · refine WpG.go tabOK 5 [(4, .bool false)] rfl ⟨rfl, trivial⟩ ?_
        -- return 1, path L1TFT
        exact WpG.ret tabOK (L' := []) (.tmp rfl .nil) .slnil ⟨congrArg Value.bool (by clear ih1; rw [i2, drop_nth i0 q11, ← hx1]; simp only [risingD]; rw [if_neg q17, if_pos q21]), rfl⟩
      · refine WpG.go tabOK 9 [(1, .int .i64 n), (5, .int .i64 x1), (8, .slice A l.length c), (9, .int .i64 (l.length : Int)), (23, .int .i64 (i + 1))] rfl ⟨rfl, rfl, rfl, rfl, (wrk (x := i + 1) (by omega) (by omega)), trivial⟩ ?_
        refine WpG.go tabOK 3 [(1, .int .i64 n), (5, .int .i64 x1), (8, .slice A l.length c), (9, .int .i64 (l.length : Int)), (10, .int .i64 (i + 1))] rfl ⟨rfl, rfl, rfl, rfl, rfl, trivial⟩ ?_
        refine WpG.weaken (G := [(1, .int .i64 n), (5, .int .i64 x1), (8, .slice A l.length c), (9, .int .i64 (l.length : Int)), (10, .int .i64 (i + 1))]) (Known.all ⟨rfl, rfl, rfl, rfl, rfl, trivial⟩) (ih1 (i + 1, x1) ?_ ?_)
        · show (l.length - (i + 1)).toNat < (l.length - i).toNat
          omega
        · show 0 ≤ (i + 1) ∧ (i + 1) ≤ l.length ∧ risingD n l (-1) = risingD n (l.drop (i + 1).toNat) x1
          -- back 0 of loop 1, path L1TFF
          clear ih1
          refine ⟨by omega, by omega, ?_⟩
          rw [i2, drop_nth i0 q11, toNat_succ i0, ← hx1]; simp only [risingD]; rw [if_neg q17, if_neg q21]
  · refine WpG.go tabOK 6 [(4, .bool true)] rfl ⟨rfl, trivial⟩ ?_
    -- return 2, path L1F
    exact WpG.ret tabOK (L' := []) (.tmp rfl .nil) .slnil ⟨congrArg Value.bool (by clear ih1; rw [i2, drop_end i0 q11]; rfl), rfl⟩

theorem IndexFunc_int {H : Hp} {A : Option Addr} {c : Nat} {l : List Int} (hl : RdS H A l) {g : Nat} {first cap : Array Value} {p : Int → Bool} (hf : ∀ x, x ∈ l → CallG Tryz.prog g (first.toList ++ ([.int .i64 x] ++ cap.toList)) H [] fun u _ L' => u = .bool (p x) ∧ L' = []) : CallG Tryz.prog 90 [.slice A l.length c, .func (.func g) first cap] H [] (fun v _ L' => v = .int .i64 (idxFrom p l 0) ∧ L' = []) := by
  have bl := hl.1
  refine CallG.of Tryz.func90 rfl rfl rfl fun w0 => ?_
  change WpG _ _ _ _ _ _ [(0, .slice A l.length c), (1, .func (.func g) first cap)] _ _ _
  refine WpG.go tabOK 13 [(0, .slice A l.length c), (1, .func (.func g) first cap), (7, .int .i64 (l.length : Int)), (8, .int .i64 0)] rfl ⟨rfl, rfl, rfl, rfl, trivial⟩ ?_
  refine WpG.ind (σ := Int) (fun z_ => (l.length - z_).toNat) (fun z_ => [(0, .slice A l.length c), (1, .func (.func g) first cap), (7, .int .i64 (l.length : Int)), (8, .int .i64 z_)]) (fun z_ => H) (fun z_ => []) (fun z_ => 0 ≤ z_ ∧ z_ ≤ l.length ∧ idxFrom p l 0 = idxFrom p (l.drop z_.toNat) z_) ?_ (0) ⟨by omega, by omega, rfl⟩
  intro i inv ih1
  change WpG _ _ _ _ _ _ [(0, .slice A l.length c), (1, .func (.func g) first cap), (7, .int .i64 (l.length : Int)), (8, .int .i64 i)] H [] _
  replace inv : 0 ≤ i ∧ i ≤ l.length ∧ idxFrom p l 0 = idxFrom p (l.drop i.toNat) i := inv
  obtain ⟨i0, i1, i2⟩ := inv
  refine WpG.go tabOK 5 [(0, .slice A l.length c), (1, .func (.func g) first cap), (7, .int .i64 (l.length : Int)), (8, .int .i64 i), (9, .bool (decide (i < (l.length : Int))))] rfl ⟨rfl, rfl, rfl, rfl, rfl, trivial⟩ ?_
  refine WpG.caseD (t := 9) rfl (fun q9 => ?_) (fun q9 => ?_)
  · refine WpG.go tabOK 14 [(0, .slice A l.length c), (1, .func (.func g) first cap), (5, .int .i64 i), (7, .int .i64 (l.length : Int)), (8, .int .i64 i), (11, .func (.func g) first cap), (12, .slice A l.length c), (13, .int .i64 i)] rfl ⟨rfl, rfl, rfl, rfl, rfl, rfl, rfl, rfl, trivial⟩ ?_
    refine WpG.indexR tabOK rfl rfl rfl rfl rfl rfl rfl rfl rfl hl (by omega) (by omega) ?_
    rintro x1 hx1 b1 o1 _ ⟨rfl, k1⟩ hc1
    refine WpG.y rfl rfl rfl rfl (RunY.loadH tabOK hc1 (Hp.le.refl _) rfl rfl rfl rfl) ?_
    refine WpG.callS rfl rfl rfl rfl rfl rfl (Hp.le.refl _) (hf x1 (by rw [hx1]; exact nth_mem i0 q9)) ?_
    refine WpG.go tabOK 1 [(0, .slice A l.length c), (1, .func (.func g) first cap), (5, .int .i64 i), (7, .int .i64 (l.length : Int)), (8, .int .i64 i), (16, .bool (p x1))] rfl ⟨rfl, rfl, rfl, rfl, rfl, rfl, trivial⟩ ?_
    refine WpG.caseB (t := 16) rfl (fun q16 => ?_) (fun q16 => ?_)
    · refine WpG.go tabOK 6 [(4, .int .i64 i)] rfl ⟨rfl, trivial⟩ ?_
      -- return 0, path L1TT
      exact WpG.ret tabOK (L' := []) (.tmp rfl .nil) .slnil ⟨congrArg (Value.int .i64) (by clear ih1; rw [i2, drop_nth i0 q9, ← hx1]; simp only [idxFrom]; rw [if_pos q16]), rfl⟩
    · refine WpG.go tabOK 5 [(0, .slice A l.length c), (1, .func (.func g) first cap), (7, .int .i64 (l.length : Int)), (18, .int .i64 (i + 1))] rfl ⟨rfl, rfl, rfl, (wrk (x := i + 1) (by omega) (by omega)), trivial⟩ ?_
      refine WpG.go tabOK 3 [(0, .slice A l.length c), (1, .func (.func g) first cap), (7, .int .i64 (l.length : Int)), (8, .int .i64 (i + 1))] rfl ⟨rfl, rfl, rfl, rfl, trivial⟩ ?_
      refine WpG.weaken (G := [(0, .slice A l.length c), (1, .func (.func g) first cap), (7, .int .i64 (l.length : Int)), (8, .int .i64 (i + 1))]) (Known.all ⟨rfl, rfl, rfl, rfl, trivial⟩) (ih1 (i + 1) ?_ ?_)
      · show (l.length - (i + 1)).toNat < (l.length - i).toNat
        omega
      · show 0 ≤ (i + 1) ∧ (i + 1) ≤ l.length ∧ idxFrom p l 0 = idxFrom p (l.drop (i + 1).toNat) (i + 1)
        -- back 0 of loop 1, path L1TF
        clear ih1
        refine ⟨by omega, by omega, ?_⟩
        rw [i2, drop_nth i0 q9, toNat_succ i0, ← hx1]; simp only [idxFrom]; rw [if_neg (by simp [q16])]
  · refine WpG.go tabOK 6 [(4, .int .i64 (-1))] rfl ⟨rfl, trivial⟩ ?_
    -- return 1, path L1F
    exact WpG.ret tabOK (L' := []) (.tmp rfl .nil) .slnil ⟨congrArg (Value.int .i64) (by clear ih1; rw [i2, drop_end i0 q9]; rfl), rfl⟩

theorem ContainsFunc_int {H : Hp} {A : Option Addr} {c : Nat} {l : List Int} (hl : RdS H A l) {g : Nat} {first cap : Array Value} {p : Int → Bool} (hf : ∀ x, x ∈ l → CallG Tryz.prog g (first.toList ++ ([.int .i64 x] ++ cap.toList)) H [] fun u _ L' => u = .bool (p x) ∧ L' = []) : CallG Tryz.prog 58 [.slice A l.length c, .func (.func g) first cap] H [] (fun v _ L' => v = .bool (l.any p) ∧ L' = []) := by
  refine CallG.of Tryz.func58 rfl rfl rfl fun w0 => ?_
  change WpG _ _ _ _ _ _ [(0, .slice A l.length c), (1, .func (.func g) first cap)] _ _ _
  refine WpG.go tabOK 8 [(5, .slice A l.length c), (6, .func (.func g) first cap)] rfl ⟨rfl, rfl, trivial⟩ ?_
  refine WpG.callS rfl rfl rfl rfl rfl rfl (Hp.le.refl _) (IndexFunc_int hl hf) ?_
  refine WpG.go tabOK 3 [(4, .bool (decide ((idxFrom p l 0) ≥ 0)))] rfl ⟨rfl, trivial⟩ ?_
  -- return 0, path 
  exact WpG.ret tabOK (L' := []) (.tmp rfl .nil) .slnil ⟨congrArg Value.bool (by rw [Bool.eq_iff_iff, decide_eq_true_iff]; exact idxFrom_ge p l 0 (by omega)), rfl⟩

theorem IndexFunc_block {H : Hp} {A : Option Addr} {c : Nat} {l : List BlockD} (hl : RdS H A l) {g : Nat} {first cap : Array Value} {p : BlockD → Bool} (hf : ∀ x, x ∈ l → ∀ cs, Rdc.rd H cs x → CallG Tryz.prog g (first.toList ++ ([.agg cs.toArray] ++ cap.toList)) H [] fun u _ L' => u = .bool (p x) ∧ L' = []) : CallG Tryz.prog 77 [.slice A l.length c, .func (.func g) first cap] H [] (fun v _ L' => v = .int .i64 (idxFrom p l 0) ∧ L' = []) := by
  have bl := hl.1
  refine CallG.of Tryz.func77 rfl rfl rfl fun w0 => ?_
  change WpG _ _ _ _ _ _ [(0, .slice A l.length c), (1, .func (.func g) first cap)] _ _ _
  refine WpG.go tabOK 13 [(0, .slice A l.length c), (1, .func (.func g) first cap), (7, .int .i64 (l.length : Int)), (8, .int .i64 0)] rfl ⟨rfl, rfl, rfl, rfl, trivial⟩ ?_
  refine WpG.ind (σ := Int) (fun z_ => (l.length - z_).toNat) (fun z_ => [(0, .slice A l.length c), (1, .func (.func g) first cap), (7, .int .i64 (l.length : Int)), (8, .int .i64 z_)]) (fun z_ => H) (fun z_ => []) (fun z_ => 0 ≤ z_ ∧ z_ ≤ l.length ∧ idxFrom p l 0 = idxFrom p (l.drop z_.toNat) z_) ?_ (0) ⟨by omega, by omega, rfl⟩
  intro i inv ih1
  change WpG _ _ _ _ _ _ [(0, .slice A l.length c), (1, .func (.func g) first cap), (7, .int .i64 (l.length : Int)), (8, .int .i64 i)] H [] _
  replace inv : 0 ≤ i ∧ i ≤ l.length ∧ idxFrom p l 0 = idxFrom p (l.drop i.toNat) i := inv
  obtain ⟨i0, i1, i2⟩ := inv
  refine WpG.go tabOK 5 [(0, .slice A l.length c), (1, .func (.func g) first cap), (7, .int .i64 (l.length : Int)), (8, .int .i64 i), (9, .bool (decide (i < (l.length : Int))))] rfl ⟨rfl, rfl, rfl, rfl, rfl, trivial⟩ ?_
  refine WpG.caseD (t := 9) rfl (fun q9 => ?_) (fun q9 => ?_)
  · refine WpG.go tabOK 14 [(0, .slice A l.length c), (1, .func (.func g) first cap), (5, .int .i64 i), (7, .int .i64 (l.length : Int)), (8, .int .i64 i), (11, .func (.func g) first cap), (12, .slice A l.length c), (13, .int .i64 i)] rfl ⟨rfl, rfl, rfl, rfl, rfl, rfl, rfl, rfl, trivial⟩ ?_
    refine WpG.indexR tabOK rfl rfl rfl rfl rfl rfl rfl rfl rfl hl (by omega) (by omega) ?_
    rintro x1 hx1 b1 o1 cs1 rd1 hc1
    have rd1' := rd1; obtain ⟨A1_0, c1_0, A1_1, c1_1, A1_4, c1_4, rfl, u1_0, r1_0, u1_1, r1_1, u1_4, r1_4, k1_0, k1_1⟩ := rd1
    refine WpG.y rfl rfl rfl rfl (RunY.loadH tabOK hc1 (Hp.le.refl _) rfl rfl rfl rfl) ?_
    refine WpG.callS rfl rfl rfl rfl rfl rfl (Hp.le.refl _) (hf x1 (by rw [hx1]; exact nth_mem i0 q9) _ rd1') ?_
    refine WpG.go tabOK 1 [(0, .slice A l.length c), (1, .func (.func g) first cap), (5, .int .i64 i), (7, .int .i64 (l.length : Int)), (8, .int .i64 i), (16, .bool (p x1))] rfl ⟨rfl, rfl, rfl, rfl, rfl, rfl, trivial⟩ ?_
    refine WpG.caseB (t := 16) rfl (fun q16 => ?_) (fun q16 => ?_)
    · refine WpG.go tabOK 6 [(4, .int .i64 i)] rfl ⟨rfl, trivial⟩ ?_
      -- return 0, path L1TT
      exact WpG.ret tabOK (L' := []) (.tmp rfl .nil) .slnil ⟨congrArg (Value.int .i64) (by clear ih1; rw [i2, drop_nth i0 q9, ← hx1]; simp only [idxFrom]; rw [if_pos q16]), rfl⟩
    · refine WpG.go tabOK 5 [(0, .slice A l.length c), (1, .func (.func g) first cap), (7, .int .i64 (l.length : Int)), (18, .int .i64 (i + 1))] rfl ⟨rfl, rfl, rfl, (wrk (x := i + 1) (by omega) (by omega)), trivial⟩ ?_
      refine WpG.go tabOK 3 [(0, .slice A l.length c), (1, .func (.func g) first cap), (7, .int .i64 (l.length : Int)), (8, .int .i64 (i + 1))] rfl ⟨rfl, rfl, rfl, rfl, trivial⟩ ?_
      refine WpG.weaken (G := [(0, .slice A l.length c), (1, .func (.func g) first cap), (7, .int .i64 (l.length : Int)), (8, .int .i64 (i + 1))]) (Known.all ⟨rfl, rfl, rfl, rfl, trivial⟩) (ih1 (i + 1) ?_ ?_)
      · show (l.length - (i + 1)).toNat < (l.length - i).toNat
        omega
      · show 0 ≤ (i + 1) ∧ (i + 1) ≤ l.length ∧ idxFrom p l 0 = idxFrom p (l.drop (i + 1).toNat) (i + 1)
        -- back 0 of loop 1, path L1TF
        clear ih1
        refine ⟨by omega, by omega, ?_⟩
        rw [i2, drop_nth i0 q9, toNat_succ i0, ← hx1]; simp only [idxFrom]; rw [if_neg (by simp [q16])]
  · refine WpG.go tabOK 6 [(4, .int .i64 (-1))] rfl ⟨rfl, trivial⟩ ?_
    -- return 1, path L1F
    exact WpG.ret tabOK (L' := []) (.tmp rfl .nil) .slnil ⟨congrArg (Value.int .i64) (by clear ih1; rw [i2, drop_end i0 q9]; rfl), rfl⟩

theorem ContainsFunc_block {H : Hp} {A : Option Addr} {c : Nat} {l : List BlockD} (hl : RdS H A l) {g : Nat} {first cap : Array Value} {p : BlockD → Bool} (hf : ∀ x, x ∈ l → ∀ cs, Rdc.rd H cs x → CallG Tryz.prog g (first.toList ++ ([.agg cs.toArray] ++ cap.toList)) H [] fun u _ L' => u = .bool (p x) ∧ L' = []) : CallG Tryz.prog 50 [.slice A l.length c, .func (.func g) first cap] H [] (fun v _ L' => v = .bool (l.any p) ∧ L' = []) := by
  refine CallG.of Tryz.func50 rfl rfl rfl fun w0 => ?_
  change WpG _ _ _ _ _ _ [(0, .slice A l.length c), (1, .func (.func g) first cap)] _ _ _
  refine WpG.go tabOK 8 [(5, .slice A l.length c), (6, .func (.func g) first cap)] rfl ⟨rfl, rfl, trivial⟩ ?_
  refine WpG.callS rfl rfl rfl rfl rfl rfl (Hp.le.refl _) (IndexFunc_block hl hf) ?_
  refine WpG.go tabOK 3 [(4, .bool (decide ((idxFrom p l 0) ≥ 0)))] rfl ⟨rfl, trivial⟩ ?_
  -- return 0, path 
  exact WpG.ret tabOK (L' := []) (.tmp rfl .nil) .slnil ⟨congrArg Value.bool (by rw [Bool.eq_iff_iff, decide_eq_true_iff]; exact idxFrom_ge p l 0 (by omega)), rfl⟩

theorem IndexFunc_phi {H : Hp} {A : Option Addr} {c : Nat} {l : List PhiD} (hl : RdS H A l) {g : Nat} {first cap : Array Value} {p : PhiD → Bool} (hf : ∀ x, x ∈ l → ∀ cs, Rdc.rd H cs x → CallG Tryz.prog g (first.toList ++ ([.agg cs.toArray] ++ cap.toList)) H [] fun u _ L' => u = .bool (p x) ∧ L' = []) : CallG Tryz.prog 91 [.slice A l.length c, .func (.func g) first cap] H [] (fun v _ L' => v = .int .i64 (idxFrom p l 0) ∧ L' = []) := by
  have bl := hl.1
  refine CallG.of Tryz.func91 rfl rfl rfl fun w0 => ?_
  change WpG _ _ _ _ _ _ [(0, .slice A l.length c), (1, .func (.func g) first cap)] _ _ _
  refine WpG.go tabOK 13 [(0, .slice A l.length c), (1, .func (.func g) first cap), (7, .int .i64 (l.length : Int)), (8, .int .i64 0)] rfl ⟨rfl, rfl, rfl, rfl, trivial⟩ ?_
  refine WpG.ind (σ := Int) (fun z_ => (l.length - z_).toNat) (fun z_ => [(0, .slice A l.length c), (1, .func (.func g) first cap), (7, .int .i64 (l.length : Int)), (8, .int .i64 z_)]) (fun z_ => H) (fun z_ => []) (fun z_ => 0 ≤ z_ ∧ z_ ≤ l.length ∧ idxFrom p l 0 = idxFrom p (l.drop z_.toNat) z_) ?_ (0) ⟨by omega, by omega, rfl⟩
  intro i inv ih1
  change WpG _ _ _ _ _ _ [(0, .slice A l.length c), (1, .func (.func g) first cap), (7, .int .i64 (l.length : Int)), (8, .int .i64 i)] H [] _
  replace inv : 0 ≤ i ∧ i ≤ l.length ∧ idxFrom p l 0 = idxFrom p (l.drop i.toNat) i := inv
  obtain ⟨i0, i1, i2⟩ := inv
  refine WpG.go tabOK 5 [(0, .slice A l.length c), (1, .func (.func g) first cap), (7, .int .i64 (l.length : Int)), (8, .int .i64 i), (9, .bool (decide (i < (l.length : Int))))] rfl ⟨rfl, rfl, rfl, rfl, rfl, trivial⟩ ?_
  refine WpG.caseD (t := 9) rfl (fun q9 => ?_) (fun q9 => ?_)
  · refine WpG.go tabOK 14 [(0, .slice A l.length c), (1, .func (.func g) first cap), (5, .int .i64 i), (7, .int .i64 (l.length : Int)), (8, .int .i64 i), (11, .func (.func g) first cap), (12, .slice A l.length c), (13, .int .i64 i)] rfl ⟨rfl, rfl, rfl, rfl, rfl, rfl, rfl, rfl, trivial⟩ ?_
    refine WpG.indexR tabOK rfl rfl rfl rfl rfl rfl rfl rfl rfl hl (by omega) (by omega) ?_
    rintro x1 hx1 b1 o1 cs1 rd1 hc1
    have rd1' := rd1; obtain ⟨A1_2, c1_2, A1_3, c1_3, rfl, u1_2, r1_2, u1_3, r1_3, k1_0, k1_1⟩ := rd1
    refine WpG.y rfl rfl rfl rfl (RunY.loadH tabOK hc1 (Hp.le.refl _) rfl rfl rfl rfl) ?_
    refine WpG.callS rfl rfl rfl rfl rfl rfl (Hp.le.refl _) (hf x1 (by rw [hx1]; exact nth_mem i0 q9) _ rd1') ?_
    refine WpG.go tabOK 1 [(0, .slice A l.length c), (1, .func (.func g) first cap), (5, .int .i64 i), (7, .int .i64 (l.length : Int)), (8, .int .i64 i), (16, .bool (p x1))] rfl ⟨rfl, rfl, rfl, rfl, rfl, rfl, trivial⟩ ?_
    refine WpG.caseB (t := 16) rfl (fun q16 => ?_) (fun q16 => ?_)
    · refine WpG.go tabOK 6 [(4, .int .i64 i)] rfl ⟨rfl, trivial⟩ ?_
      -- return 0, path L1TT
      exact WpG.ret tabOK (L' := []) (.tmp rfl .nil) .slnil ⟨congrArg (Value.int .i64) (by clear ih1; rw [i2, drop_nth i0 q9, ← hx1]; simp only [idxFrom]; rw [if_pos q16]), rfl⟩
    · refine WpG.go tabOK 5 [(0, .slice A l.length c), (1, .func (.func g) first cap), (7, .int .i64 (l.length : Int)), (18, .int .i64 (i + 1))] rfl ⟨rfl, rfl, rfl, (wrk (x := i + 1) (by omega) (by omega)), trivial⟩ ?_
      refine WpG.go tabOK 3 [(0, .slice A l.length c), (1, .func (.func g) first cap), (7, .int .i64 (l.length : Int)), (8, .int .i64 (i + 1))] rfl ⟨rfl, rfl, rfl, rfl, trivial⟩ ?_
      refine WpG.weaken (G := [(0, .slice A l.length c), (1, .func (.func g) first cap), (7, .int .i64 (l.length : Int)), (8, .int .i64 (i + 1))]) (Known.all ⟨rfl, rfl, rfl, rfl, trivial⟩) (ih1 (i + 1) ?_ ?_)
      · show (l.length - (i + 1)).toNat < (l.length - i).toNat
        omega
      · show 0 ≤ (i + 1) ∧ (i + 1) ≤ l.length ∧ idxFrom p l 0 = idxFrom p (l.drop (i + 1).toNat) (i + 1)
        -- back 0 of loop 1, path L1TF
        clear ih1
        refine ⟨by omega, by omega, ?_⟩
        rw [i2, drop_nth i0 q9, toNat_succ i0, ← hx1]; simp only [idxFrom]; rw [if_neg (by simp [q16])]
  · refine WpG.go tabOK 6 [(4, .int .i64 (-1))] rfl ⟨rfl, trivial⟩ ?_
    -- return 1, path L1F
    exact WpG.ret tabOK (L' := []) (.tmp rfl .nil) .slnil ⟨congrArg (Value.int .i64) (by clear ih1; rw [i2, drop_end i0 q9]; rfl), rfl⟩

theorem ContainsFunc_phi {H : Hp} {A : Option Addr} {c : Nat} {l : List PhiD} (hl : RdS H A l) {g : Nat} {first cap : Array Value} {p : PhiD → Bool} (hf : ∀ x, x ∈ l → ∀ cs, Rdc.rd H cs x → CallG Tryz.prog g (first.toList ++ ([.agg cs.toArray] ++ cap.toList)) H [] fun u _ L' => u = .bool (p x) ∧ L' = []) : CallG Tryz.prog 60 [.slice A l.length c, .func (.func g) first cap] H [] (fun v _ L' => v = .bool (l.any p) ∧ L' = []) := by
  refine CallG.of Tryz.func60 rfl rfl rfl fun w0 => ?_
  change WpG _ _ _ _ _ _ [(0, .slice A l.length c), (1, .func (.func g) first cap)] _ _ _
  refine WpG.go tabOK 8 [(5, .slice A l.length c), (6, .func (.func g) first cap)] rfl ⟨rfl, rfl, trivial⟩ ?_
  refine WpG.callS rfl rfl rfl rfl rfl rfl (Hp.le.refl _) (IndexFunc_phi hl hf) ?_
  refine WpG.go tabOK 3 [(4, .bool (decide ((idxFrom p l 0) ≥ 0)))] rfl ⟨rfl, trivial⟩ ?_
  -- return 0, path 
  exact WpG.ret tabOK (L' := []) (.tmp rfl .nil) .slnil ⟨congrArg Value.bool (by rw [Bool.eq_iff_iff, decide_eq_true_iff]; exact idxFrom_ge p l 0 (by omega)), rfl⟩

theorem IndexFunc_op {H : Hp} {A : Option Addr} {c : Nat} {l : List OpD} (hl : RdS H A l) {g : Nat} {first cap : Array Value} {p : OpD → Bool} (hf : ∀ x, x ∈ l → ∀ cs, Rdc.rd H cs x → CallG Tryz.prog g (first.toList ++ ([.agg cs.toArray] ++ cap.toList)) H [] fun u _ L' => u = .bool (p x) ∧ L' = []) : CallG Tryz.prog 92 [.slice A l.length c, .func (.func g) first cap] H [] (fun v _ L' => v = .int .i64 (idxFrom p l 0) ∧ L' = []) := by
  have bl := hl.1
  refine CallG.of Tryz.func92 rfl rfl rfl fun w0 => ?_
  change WpG _ _ _ _ _ _ [(0, .slice A l.length c), (1, .func (.func g) first cap)] _ _ _
  refine WpG.go tabOK 13 [(0, .slice A l.length c), (1, .func (.func g) first cap), (7, .int .i64 (l.length : Int)), (8, .int .i64 0)] rfl ⟨rfl, rfl, rfl, rfl, trivial⟩ ?_
  refine WpG.ind (σ := Int) (fun z_ => (l.length - z_).toNat) (fun z_ => [(0, .slice A l.length c), (1, .func (.func g) first cap), (7, .int .i64 (l.length : Int)), (8, .int .i64 z_)]) (fun z_ => H) (fun z_ => []) (fun z_ => 0 ≤ z_ ∧ z_ ≤ l.length ∧ idxFrom p l 0 = idxFrom p (l.drop z_.toNat) z_) ?_ (0) ⟨by omega, by omega, rfl⟩
  intro i inv ih1
  change WpG _ _ _ _ _ _ [(0, .slice A l.length c), (1, .func (.func g) first cap), (7, .int .i64 (l.length : Int)), (8, .int .i64 i)] H [] _
  replace inv : 0 ≤ i ∧ i ≤ l.length ∧ idxFrom p l 0 = idxFrom p (l.drop i.toNat) i := inv
  obtain ⟨i0, i1, i2⟩ := inv
  refine WpG.go tabOK 5 [(0, .slice A l.length c), (1, .func (.func g) first cap), (7, .int .i64 (l.length : Int)), (8, .int .i64 i), (9, .bool (decide (i < (l.length : Int))))] rfl ⟨rfl, rfl, rfl, rfl, rfl, trivial⟩ ?_
  refine WpG.caseD (t := 9) rfl (fun q9 => ?_) (fun q9 => ?_)
  · refine WpG.go tabOK 14 [(0, .slice A l.length c), (1, .func (.func g) first cap), (5, .int .i64 i), (7, .int .i64 (l.length : Int)), (8, .int .i64 i), (11, .func (.func g) first cap), (12, .slice A l.length c), (13, .int .i64 i)] rfl ⟨rfl, rfl, rfl, rfl, rfl, rfl, rfl, rfl, trivial⟩ ?_
    refine WpG.indexR tabOK rfl rfl rfl rfl rfl rfl rfl rfl rfl hl (by omega) (by omega) ?_
    rintro x1 hx1 b1 o1 cs1 rd1 hc1
    have rd1' := rd1; obtain ⟨A1_4, c1_4, rfl, u1_4, r1_4, k1_0, k1_1, k1_2, k1_3, k1_4⟩ := rd1
    refine WpG.y rfl rfl rfl rfl (RunY.loadH tabOK hc1 (Hp.le.refl _) rfl rfl rfl rfl) ?_
    refine WpG.callS rfl rfl rfl rfl rfl rfl (Hp.le.refl _) (hf x1 (by rw [hx1]; exact nth_mem i0 q9) _ rd1') ?_
    refine WpG.go tabOK 1 [(0, .slice A l.length c), (1, .func (.func g) first cap), (5, .int .i64 i), (7, .int .i64 (l.length : Int)), (8, .int .i64 i), (16, .bool (p x1))] rfl ⟨rfl, rfl, rfl, rfl, rfl, rfl, trivial⟩ ?_
    refine WpG.caseB (t := 16) rfl (fun q16 => ?_) (fun q16 => ?_)
    · refine WpG.go tabOK 6 [(4, .int .i64 i)] rfl ⟨rfl, trivial⟩ ?_
      -- return 0, path L1TT
      exact WpG.ret tabOK (L' := []) (.tmp rfl .nil) .slnil ⟨congrArg (Value.int .i64) (by clear ih1; rw [i2, drop_nth i0 q9, ← hx1]; simp only [idxFrom]; rw [if_pos q16]), rfl⟩
    · refine WpG.go tabOK 5 [(0, .slice A l.length c), (1, .func (.func g) first cap), (7, .int .i64 (l.length : Int)), (18, .int .i64 (i + 1))] rfl ⟨rfl, rfl, rfl, (wrk (x := i + 1) (by omega) (by omega)), trivial⟩ ?_
      refine WpG.go tabOK 3 [(0, .slice A l.length c), (1, .func (.func g) first cap), (7, .int .i64 (l.length : Int)), (8, .int .i64 (i + 1))] rfl ⟨rfl, rfl, rfl, rfl, trivial⟩ ?_
      refine WpG.weaken (G := [(0, .slice A l.length c), (1, .func (.func g) first cap), (7, .int .i64 (l.length : Int)), (8, .int .i64 (i + 1))]) (Known.all ⟨rfl, rfl, rfl, rfl, trivial⟩) (ih1 (i + 1) ?_ ?_)
      · show (l.length - (i + 1)).toNat < (l.length - i).toNat
        omega
      · show 0 ≤ (i + 1) ∧ (i + 1) ≤ l.length ∧ idxFrom p l 0 = idxFrom p (l.drop (i + 1).toNat) (i + 1)
        -- back 0 of loop 1, path L1TF
        clear ih1
        refine ⟨by omega, by omega, ?_⟩
        rw [i2, drop_nth i0 q9, toNat_succ i0, ← hx1]; simp only [idxFrom]; rw [if_neg (by simp [q16])]
  · refine WpG.go tabOK 6 [(4, .int .i64 (-1))] rfl ⟨rfl, trivial⟩ ?_
    -- return 1, path L1F
    exact WpG.ret tabOK (L' := []) (.tmp rfl .nil) .slnil ⟨congrArg (Value.int .i64) (by clear ih1; rw [i2, drop_end i0 q9]; rfl), rfl⟩

theorem ContainsFunc_op {H : Hp} {A : Option Addr} {c : Nat} {l : List OpD} (hl : RdS H A l) {g : Nat} {first cap : Array Value} {p : OpD → Bool} (hf : ∀ x, x ∈ l → ∀ cs, Rdc.rd H cs x → CallG Tryz.prog g (first.toList ++ ([.agg cs.toArray] ++ cap.toList)) H [] fun u _ L' => u = .bool (p x) ∧ L' = []) : CallG Tryz.prog 62 [.slice A l.length c, .func (.func g) first cap] H [] (fun v _ L' => v = .bool (l.any p) ∧ L' = []) := by
  refine CallG.of Tryz.func62 rfl rfl rfl fun w0 => ?_
  change WpG _ _ _ _ _ _ [(0, .slice A l.length c), (1, .func (.func g) first cap)] _ _ _
  refine WpG.go tabOK 8 [(5, .slice A l.length c), (6, .func (.func g) first cap)] rfl ⟨rfl, rfl, trivial⟩ ?_
  refine WpG.callS rfl rfl rfl rfl rfl rfl (Hp.le.refl _) (IndexFunc_op hl hf) ?_
  refine WpG.go tabOK 3 [(4, .bool (decide ((idxFrom p l 0) ≥ 0)))] rfl ⟨rfl, trivial⟩ ?_
  -- return 0, path 
  exact WpG.ret tabOK (L' := []) (.tmp rfl .nil) .slnil ⟨congrArg Value.bool (by rw [Bool.eq_iff_iff, decide_eq_true_iff]; exact idxFrom_ge p l 0 (by omega)), rfl⟩

theorem in1_calls {H : Hp} (n : Int) : CallG Tryz.prog 76 [.int .i64 n] H [] (fun v _ L' => v = .bool (!numOK n) ∧ L' = []) := by
  refine CallG.of Tryz.func76 rfl rfl rfl fun w0 => ?_
  change WpG _ _ _ _ _ _ [(0, .int .i64 n)] _ _ _
  refine WpG.go tabOK 9 [(0, .int .i64 n), (5, .bool (decide (n < 0)))] rfl ⟨rfl, rfl, trivial⟩ ?_
  refine WpG.caseD (t := 5) rfl (fun q5 => ?_) (fun q5 => ?_)
  · refine WpG.go tabOK 5 [(2, .bool true)] rfl ⟨rfl, trivial⟩ ?_
    -- return 0, path T
    exact WpG.ret tabOK (L' := []) (.tmp rfl .nil) .slnil ⟨congrArg Value.bool (by first | (simp_all [numOK]; done) | (rw [Bool.eq_iff_iff]; simp_all [numOK])), rfl⟩
  · refine WpG.go tabOK 5 [(2, .bool (decide (n > 2147483647)))] rfl ⟨rfl, trivial⟩ ?_
    -- return 1, path F
    exact WpG.ret tabOK (L' := []) (.tmp rfl .nil) .slnil ⟨congrArg Value.bool (by first | (simp_all [numOK]; done) | (rw [Bool.eq_iff_iff]; simp_all [numOK])), rfl⟩

theorem in_calls {H : Hp} {A : Option Addr} {c : Nat} {l : List Int} (hl : RdS H A l) : CallG Tryz.prog 49 [.slice A l.length c] H [] (fun v _ L' => v = .bool (l.all numOK) ∧ L' = []) := by
  refine CallG.of Tryz.func49 rfl rfl rfl fun w0 => ?_
  change WpG _ _ _ _ _ _ [(0, .slice A l.length c)] _ _ _
  refine WpG.go tabOK 7 [(3, .slice A l.length c)] rfl ⟨rfl, trivial⟩ ?_
  refine WpG.callS rfl rfl rfl rfl rfl rfl (Hp.le.refl _) (ContainsFunc_int hl (p := fun n => !numOK n) (fun x _ => in1_calls x)) ?_
  refine WpG.go tabOK 3 [(2, .bool (!(l.any fun n => !numOK n)))] rfl ⟨rfl, trivial⟩ ?_
  -- return 0, path 
  exact WpG.ret tabOK (L' := []) (.tmp rfl .nil) .slnil ⟨congrArg Value.bool (by rw [List.not_any_eq_all_not]; simp), rfl⟩

theorem lists_calls {H : Hp} {A : Option Addr} {c : Nat} {l : List (List Int)} (hl : RdS H A l) : CallG Tryz.prog 78 [.slice A l.length c] H [] (fun v _ L' => v = .bool (l.all listOK) ∧ L' = []) := by
  have bl := hl.1
  refine CallG.of Tryz.func78 rfl rfl rfl fun w0 => ?_
  change WpG _ _ _ _ _ _ [(0, .slice A l.length c)] _ _ _
  refine WpG.go tabOK 13 [(5, .slice A l.length c), (6, .int .i64 (l.length : Int)), (7, .int .i64 0)] rfl ⟨rfl, rfl, rfl, trivial⟩ ?_
  refine WpG.ind (σ := Int) (fun z_ => (l.length - z_).toNat) (fun z_ => [(5, .slice A l.length c), (6, .int .i64 (l.length : Int)), (7, .int .i64 z_)]) (fun z_ => H) (fun z_ => []) (fun z_ => 0 ≤ z_ ∧ z_ ≤ l.length ∧ l.all listOK = (l.drop z_.toNat).all listOK) ?_ (0) ⟨by omega, by omega, rfl⟩
  intro i inv ih1
  change WpG _ _ _ _ _ _ [(5, .slice A l.length c), (6, .int .i64 (l.length : Int)), (7, .int .i64 i)] H [] _
  replace inv : 0 ≤ i ∧ i ≤ l.length ∧ l.all listOK = (l.drop i.toNat).all listOK := inv
  obtain ⟨i0, i1, i2⟩ := inv
  refine WpG.go tabOK 5 [(5, .slice A l.length c), (6, .int .i64 (l.length : Int)), (7, .int .i64 i), (8, .bool (decide (i < (l.length : Int))))] rfl ⟨rfl, rfl, rfl, rfl, trivial⟩ ?_
  refine WpG.caseD (t := 8) rfl (fun q8 => ?_) (fun q8 => ?_)
  · refine WpG.go tabOK 6 [(5, .slice A l.length c), (6, .int .i64 (l.length : Int)), (7, .int .i64 i)] rfl ⟨rfl, rfl, rfl, trivial⟩ ?_
    refine WpG.indexR tabOK rfl rfl rfl rfl rfl rfl rfl rfl rfl hl (by omega) (by omega) ?_
    rintro x1 hx1 b1 o1 _ ⟨A1, c1, rfl, u1, r1⟩ hc1
    refine WpG.y rfl rfl rfl rfl (RunY.loadH tabOK hc1 (Hp.le.refl _) rfl rfl rfl rfl) ?_
    refine WpG.go tabOK 8 [(4, .slice A1 x1.length c1), (5, .slice A l.length c), (6, .int .i64 (l.length : Int)), (7, .int .i64 i), (14, .bool (decide ((x1.length : Int) > 64)))] rfl ⟨rfl, rfl, rfl, rfl, rfl, trivial⟩ ?_
    refine WpG.caseD (t := 14) rfl (fun q14 => ?_) (fun q14 => ?_)
    · refine WpG.go tabOK 10 [(2, .bool false)] rfl ⟨rfl, trivial⟩ ?_
      -- return 0, path L1TT
      exact WpG.ret tabOK (L' := []) (.tmp rfl .nil) .slnil ⟨congrArg Value.bool (by clear ih1; rw [i2, drop_nth i0 q8, ← hx1, List.all_cons, listOK_long q14]; rfl), rfl⟩
    · refine WpG.go tabOK 1 [(5, .slice A l.length c), (6, .int .i64 (l.length : Int)), (7, .int .i64 i), (14, .bool false), (15, .slice A1 x1.length c1)] rfl ⟨rfl, rfl, rfl, rfl, rfl, trivial⟩ ?_
      refine WpG.callS rfl rfl rfl rfl rfl rfl (Hp.le.refl _) (in_calls r1) ?_
      refine WpG.go tabOK 3 [(5, .slice A l.length c), (6, .int .i64 (l.length : Int)), (7, .int .i64 i), (18, .bool (!(List.all x1 numOK)))] rfl ⟨rfl, rfl, rfl, rfl, trivial⟩ ?_
      refine WpG.caseBn (t := 18) rfl (fun q18 => ?_) (fun q18 => ?_)
      · refine WpG.go tabOK 5 [(2, .bool false)] rfl ⟨rfl, trivial⟩ ?_
        -- return 1, path L1TFT
        exact WpG.ret tabOK (L' := []) (.tmp rfl .nil) .slnil ⟨congrArg Value.bool (by clear ih1; rw [i2, drop_nth i0 q8, ← hx1, List.all_cons, listOK_in q14, (by simpa using q18 : x1.all numOK = false)]; rfl), rfl⟩
      · refine WpG.go tabOK 5 [(5, .slice A l.length c), (6, .int .i64 (l.length : Int)), (19, .int .i64 (i + 1))] rfl ⟨rfl, rfl, (wrk (x := i + 1) (by omega) (by omega)), trivial⟩ ?_
        refine WpG.go tabOK 3 [(5, .slice A l.length c), (6, .int .i64 (l.length : Int)), (7, .int .i64 (i + 1))] rfl ⟨rfl, rfl, rfl, trivial⟩ ?_
        refine WpG.weaken (G := [(5, .slice A l.length c), (6, .int .i64 (l.length : Int)), (7, .int .i64 (i + 1))]) (Known.all ⟨rfl, rfl, rfl, trivial⟩) (ih1 (i + 1) ?_ ?_)
        · show (l.length - (i + 1)).toNat < (l.length - i).toNat
          omega
        · show 0 ≤ (i + 1) ∧ (i + 1) ≤ l.length ∧ l.all listOK = (l.drop (i + 1).toNat).all listOK
          -- back 0 of loop 1, path L1TFF
          clear ih1
          refine ⟨by omega, by omega, ?_⟩
          rw [i2, drop_nth i0 q8, toNat_succ i0, ← hx1, List.all_cons, listOK_in q14, (by simpa using q18 : x1.all numOK = true)]; rfl
  · refine WpG.go tabOK 6 [(2, .bool true)] rfl ⟨rfl, trivial⟩ ?_
    -- return 2, path L1F
    exact WpG.ret tabOK (L' := []) (.tmp rfl .nil) .slnil ⟨congrArg Value.bool (by clear ih1; rw [i2, drop_end i0 q8]; rfl), rfl⟩

theorem Size_calls {H : Hp} {f : FuncD} {cs_f : List Value} (rd_f : Rdc.rd H cs_f f) (hs : f.blocks.length ≤ 64) : CallG Tryz.prog 48 [.agg cs_f.toArray] H [] (fun v _ L' => v = .int .i64 (sizeF f) ∧ L' = []) := by
  have rd_f' := rd_f; obtain ⟨A_f_0, c_f_0, A_f_2, c_f_2, rfl, u_f_0, r_f_0, u_f_2, r_f_2, k_f_0⟩ := rd_f
  refine CallG.of Tryz.func48 rfl rfl rfl fun w0 => ?_
  change WpG _ _ _ _ _ _ [(0, .agg #[.slice A_f_0 f.params.length c_f_0, .int .i64 f.ret, .slice A_f_2 f.blocks.length c_f_2])] _ _ _
  refine WpG.go tabOK 2 [(0, .agg #[.slice A_f_0 f.params.length c_f_0, .int .i64 f.ret, .slice A_f_2 f.blocks.length c_f_2])] rfl ⟨rfl, trivial⟩ ?_
  refine WpG.box rfl rfl rfl rfl rfl (fun b1 => ?_)
  refine WpG.go tabOK 5 [(1, .pointer (some ⟨b1, 0, none⟩)), (6, .pointer (some ⟨b1, 2, none⟩))] rfl ⟨rfl, rfl, trivial⟩ ?_
  refine WpG.y rfl rfl rfl rfl (RunY.loadBox (ci := 0) tabOK rfl rfl rfl rfl) ?_
  refine WpG.go tabOK 7 [(3, .int .i64 (f.blocks.length : Int)), (9, .pointer (some ⟨b1, 2, none⟩))] rfl ⟨rfl, rfl, trivial⟩ ?_
  refine WpG.y rfl rfl rfl rfl (RunY.loadBox (ci := 0) tabOK rfl rfl rfl rfl) ?_
  refine WpG.go tabOK 5 [(3, .int .i64 (f.blocks.length : Int)), (10, .slice A_f_2 f.blocks.length c_f_2), (11, .int .i64 (f.blocks.length : Int)), (12, .int .i64 0)] rfl ⟨rfl, rfl, rfl, rfl, trivial⟩ ?_
  refine WpG.ind (σ := Int × Int) (fun z_ => (f.blocks.length - z_.1).toNat) (fun z_ => [(3, .int .i64 z_.2), (10, .slice A_f_2 f.blocks.length c_f_2), (11, .int .i64 (f.blocks.length : Int)), (12, .int .i64 z_.1)]) (fun z_ => H) (fun z_ => [Chunk.box b1 [.slice A_f_0 f.params.length c_f_0, .int .i64 f.ret, .slice A_f_2 f.blocks.length c_f_2] 25]) (fun z_ => 0 ≤ z_.1 ∧ z_.1 ≤ f.blocks.length ∧ 0 ≤ z_.2 ∧ z_.2 ≤ 64 + z_.1 * 562949953421312 ∧ sizeF f = z_.2 + ((f.blocks.drop z_.1.toNat).map blockSz).sum) ?_ (0, (f.blocks.length : Int)) ⟨by omega, by omega, by omega, by omega, rfl⟩
  rintro ⟨i, n⟩ inv ih1
  change WpG _ _ _ _ _ _ [(3, .int .i64 n), (10, .slice A_f_2 f.blocks.length c_f_2), (11, .int .i64 (f.blocks.length : Int)), (12, .int .i64 i)] H [Chunk.box b1 [.slice A_f_0 f.params.length c_f_0, .int .i64 f.ret, .slice A_f_2 f.blocks.length c_f_2] 25] _
  replace inv : 0 ≤ i ∧ i ≤ f.blocks.length ∧ 0 ≤ n ∧ n ≤ 64 + i * 562949953421312 ∧ sizeF f = n + ((f.blocks.drop i.toNat).map blockSz).sum := inv
  obtain ⟨i0, i1, i2, i3, i4⟩ := inv
  refine WpG.go tabOK 5 [(3, .int .i64 n), (10, .slice A_f_2 f.blocks.length c_f_2), (11, .int .i64 (f.blocks.length : Int)), (12, .int .i64 i), (13, .bool (decide (i < (f.blocks.length : Int))))] rfl ⟨rfl, rfl, rfl, rfl, rfl, trivial⟩ ?_
  refine WpG.caseD (t := 13) rfl (fun q13 => ?_) (fun q13 => ?_)
  · refine WpG.go tabOK 6 [(3, .int .i64 n), (10, .slice A_f_2 f.blocks.length c_f_2), (11, .int .i64 (f.blocks.length : Int)), (12, .int .i64 i)] rfl ⟨rfl, rfl, rfl, rfl, trivial⟩ ?_
    refine WpG.indexR tabOK rfl rfl rfl rfl rfl rfl rfl rfl rfl r_f_2 (by omega) (by omega) ?_
    rintro x2 hx2 b2 o2 cs2 rd2 hc2
    have rd2' := rd2; obtain ⟨A2_0, c2_0, A2_1, c2_1, A2_4, c2_4, rfl, u2_0, r2_0, u2_1, r2_1, u2_4, r2_4, k2_0, k2_1⟩ := rd2
    have := r2_0.1; have := r2_1.1
    refine WpG.y rfl rfl rfl rfl (RunY.loadH tabOK hc2 (Hp.le.refl _) rfl rfl rfl rfl) ?_
    refine WpG.alloc tabOK rfl rfl rfl rfl rfl (fun b3 => ?_)
    refine WpG.storeBox (ci := 0) (cs' := [.slice A2_0 x2.phis.length c2_0, .slice A2_1 x2.ops.length c2_1, .int .i64 x2.en.kind, .int .i64 x2.en.arg, .slice A2_4 x2.en.to.length c2_4]) tabOK rfl rfl rfl rfl rfl rfl rfl rfl rfl ?_
    refine WpG.setL (L' := [Chunk.box b3 [.slice A2_0 x2.phis.length c2_0, .slice A2_1 x2.ops.length c2_1, .int .i64 x2.en.kind, .int .i64 x2.en.arg, .slice A2_4 x2.en.to.length c2_4] 44, Chunk.box b1 [.slice A_f_0 f.params.length c_f_0, .int .i64 f.ret, .slice A_f_2 f.blocks.length c_f_2] 25]) rfl ?_
    refine WpG.go tabOK 4 [(5, .pointer (some ⟨b3, 0, none⟩)), (10, .slice A_f_2 f.blocks.length c_f_2), (11, .int .i64 (f.blocks.length : Int)), (12, .int .i64 i), (16, .int .i64 n), (17, .pointer (some ⟨b3, 0, none⟩))] rfl ⟨rfl, rfl, rfl, rfl, rfl, rfl, trivial⟩ ?_
    refine WpG.y rfl rfl rfl rfl (RunY.loadBox (ci := 0) tabOK rfl rfl rfl rfl) ?_
    refine WpG.go tabOK 2 [(10, .slice A_f_2 f.blocks.length c_f_2), (11, .int .i64 (f.blocks.length : Int)), (12, .int .i64 i), (16, .int .i64 n), (19, .int .i64 (x2.phis.length : Int)), (20, .pointer (some ⟨b3, 1, none⟩))] rfl ⟨rfl, rfl, rfl, rfl, rfl, rfl, trivial⟩ ?_
    refine WpG.y rfl rfl rfl rfl (RunY.loadBox (ci := 0) tabOK rfl rfl rfl rfl) ?_
    refine WpG.go tabOK 2 [(10, .slice A_f_2 f.blocks.length c_f_2), (11, .int .i64 (f.blocks.length : Int)), (12, .int .i64 i), (16, .int .i64 n), (23, .int .i64 ((x2.phis.length : Int) + (x2.ops.length : Int)))] rfl ⟨rfl, rfl, rfl, rfl, (wrk (x := (x2.phis.length : Int) + (x2.ops.length : Int)) (by omega) (by omega)), trivial⟩ ?_
    refine WpG.go tabOK 1 [(10, .slice A_f_2 f.blocks.length c_f_2), (11, .int .i64 (f.blocks.length : Int)), (12, .int .i64 i), (24, .int .i64 (n + ((x2.phis.length : Int) + (x2.ops.length : Int))))] rfl ⟨rfl, rfl, rfl, (wrk (x := n + ((x2.phis.length : Int) + (x2.ops.length : Int))) (by omega) (by omega)), trivial⟩ ?_
    refine WpG.go tabOK 5 [(3, .int .i64 (n + ((x2.phis.length : Int) + (x2.ops.length : Int)))), (10, .slice A_f_2 f.blocks.length c_f_2), (11, .int .i64 (f.blocks.length : Int)), (25, .int .i64 (i + 1))] rfl ⟨rfl, rfl, rfl, (wrk (x := i + 1) (by omega) (by omega)), trivial⟩ ?_
    refine WpG.go tabOK 3 [(3, .int .i64 (n + ((x2.phis.length : Int) + (x2.ops.length : Int)))), (10, .slice A_f_2 f.blocks.length c_f_2), (11, .int .i64 (f.blocks.length : Int)), (12, .int .i64 (i + 1))] rfl ⟨rfl, rfl, rfl, rfl, trivial⟩ ?_
    refine WpG.dropL (L' := [Chunk.box b1 [.slice A_f_0 f.params.length c_f_0, .int .i64 f.ret, .slice A_f_2 f.blocks.length c_f_2] 25]) (.cons _ (.cons_cons _ .slnil)) ?_
    refine WpG.weaken (G := [(3, .int .i64 (n + ((x2.phis.length : Int) + (x2.ops.length : Int)))), (10, .slice A_f_2 f.blocks.length c_f_2), (11, .int .i64 (f.blocks.length : Int)), (12, .int .i64 (i + 1))]) (Known.all ⟨rfl, rfl, rfl, rfl, trivial⟩) (ih1 (i + 1, n + ((x2.phis.length : Int) + (x2.ops.length : Int))) ?_ ?_)
    · show (f.blocks.length - (i + 1)).toNat < (f.blocks.length - i).toNat
      omega
    · show 0 ≤ (i + 1) ∧ (i + 1) ≤ f.blocks.length ∧ 0 ≤ (n + ((x2.phis.length : Int) + (x2.ops.length : Int))) ∧ (n + ((x2.phis.length : Int) + (x2.ops.length : Int))) ≤ 64 + (i + 1) * 562949953421312 ∧ sizeF f = (n + ((x2.phis.length : Int) + (x2.ops.length : Int))) + ((f.blocks.drop (i + 1).toNat).map blockSz).sum
      -- back 0 of loop 1, path L1T
      clear ih1
      refine ⟨by omega, by omega, by omega, by omega, ?_⟩
      rw [i4, sum_drop _ i0 q13, toNat_succ i0, ← hx2]; simp only [blockSz]; omega
  · refine WpG.go tabOK 7 [(2, .int .i64 n)] rfl ⟨rfl, trivial⟩ ?_
    -- return 0, path L1F
    exact WpG.ret tabOK (L' := []) (.tmp rfl .nil) (.cons _ .slnil) ⟨congrArg (Value.int .i64) (by clear ih1; rw [i4, drop_end i0 q13]; simp), rfl⟩

theorem mayBlock_calls {H : Hp} {b : BlockD} {cs_b : List Value} (rd_b : Rdc.rd H cs_b b) : CallG Tryz.prog 52 [.agg cs_b.toArray] H [] (fun v _ L' => v = .bool (blockOK b) ∧ L' = []) := by
  have rd_b' := rd_b; obtain ⟨A_b_0, c_b_0, A_b_1, c_b_1, A_b_4, c_b_4, rfl, u_b_0, r_b_0, u_b_1, r_b_1, u_b_4, r_b_4, k_b_0, k_b_1⟩ := rd_b
  have := r_b_0.1; have := r_b_1.1
  refine CallG.of Tryz.func52 rfl rfl rfl fun w0 => ?_
  change WpG _ _ _ _ _ _ [(0, .agg #[.slice A_b_0 b.phis.length c_b_0, .slice A_b_1 b.ops.length c_b_1, .int .i64 b.en.kind, .int .i64 b.en.arg, .slice A_b_4 b.en.to.length c_b_4])] _ _ _
  refine WpG.go tabOK 2 [(0, .agg #[.slice A_b_0 b.phis.length c_b_0, .slice A_b_1 b.ops.length c_b_1, .int .i64 b.en.kind, .int .i64 b.en.arg, .slice A_b_4 b.en.to.length c_b_4])] rfl ⟨rfl, trivial⟩ ?_
  refine WpG.box rfl rfl rfl rfl rfl (fun b1 => ?_)
  refine WpG.go tabOK 6 [(1, .pointer (some ⟨b1, 0, none⟩)), (7, .pointer (some ⟨b1, 0, none⟩))] rfl ⟨rfl, rfl, trivial⟩ ?_
  refine WpG.y rfl rfl rfl rfl (RunY.loadBox (ci := 0) tabOK rfl rfl rfl rfl) ?_
  refine WpG.go tabOK 5 [(1, .pointer (some ⟨b1, 0, none⟩)), (8, .slice A_b_0 b.phis.length c_b_0), (9, .int .i64 (b.phis.length : Int)), (10, .int .i64 0)] rfl ⟨rfl, rfl, rfl, rfl, trivial⟩ ?_
  refine WpG.ind (σ := Int) (fun z_ => (b.phis.length - z_).toNat) (fun z_ => [(1, .pointer (some ⟨b1, 0, none⟩)), (8, .slice A_b_0 b.phis.length c_b_0), (9, .int .i64 (b.phis.length : Int)), (10, .int .i64 z_)]) (fun z_ => H) (fun z_ => [Chunk.box b1 [.slice A_b_0 b.phis.length c_b_0, .slice A_b_1 b.ops.length c_b_1, .int .i64 b.en.kind, .int .i64 b.en.arg, .slice A_b_4 b.en.to.length c_b_4] 44]) (fun z_ => 0 ≤ z_ ∧ z_ ≤ b.phis.length ∧ b.phis.all phiOK = (b.phis.drop z_.toNat).all phiOK) ?_ (0) ⟨by omega, by omega, rfl⟩
  intro i inv ih1
  change WpG _ _ _ _ _ _ [(1, .pointer (some ⟨b1, 0, none⟩)), (8, .slice A_b_0 b.phis.length c_b_0), (9, .int .i64 (b.phis.length : Int)), (10, .int .i64 i)] H [Chunk.box b1 [.slice A_b_0 b.phis.length c_b_0, .slice A_b_1 b.ops.length c_b_1, .int .i64 b.en.kind, .int .i64 b.en.arg, .slice A_b_4 b.en.to.length c_b_4] 44] _
  replace inv : 0 ≤ i ∧ i ≤ b.phis.length ∧ b.phis.all phiOK = (b.phis.drop i.toNat).all phiOK := inv
  obtain ⟨i0, i1, i2⟩ := inv
  refine WpG.go tabOK 5 [(1, .pointer (some ⟨b1, 0, none⟩)), (8, .slice A_b_0 b.phis.length c_b_0), (9, .int .i64 (b.phis.length : Int)), (10, .int .i64 i), (11, .bool (decide (i < (b.phis.length : Int))))] rfl ⟨rfl, rfl, rfl, rfl, rfl, trivial⟩ ?_
  refine WpG.caseD (t := 11) rfl (fun q11 => ?_) (fun q11 => ?_)
  · refine WpG.go tabOK 6 [(1, .pointer (some ⟨b1, 0, none⟩)), (8, .slice A_b_0 b.phis.length c_b_0), (9, .int .i64 (b.phis.length : Int)), (10, .int .i64 i)] rfl ⟨rfl, rfl, rfl, rfl, trivial⟩ ?_
    refine WpG.indexR tabOK rfl rfl rfl rfl rfl rfl rfl rfl rfl r_b_0 (by omega) (by omega) ?_
    rintro x2 hx2 b2 o2 cs2 rd2 hc2
    have rd2' := rd2; obtain ⟨A2_2, c2_2, A2_3, c2_3, rfl, u2_2, r2_2, u2_3, r2_3, k2_0, k2_1⟩ := rd2
    refine WpG.y rfl rfl rfl rfl (RunY.loadH tabOK hc2 (Hp.le.refl _) rfl rfl rfl rfl) ?_
    refine WpG.alloc tabOK rfl rfl rfl rfl rfl (fun b3 => ?_)
    refine WpG.storeBox (ci := 0) (cs' := [.int .i64 x2.bits, .int .i64 x2.dst, .slice A2_2 x2.frm.length c2_2, .slice A2_3 x2.args.length c2_3]) tabOK rfl rfl rfl rfl rfl rfl rfl rfl rfl ?_
    refine WpG.setL (L' := [Chunk.box b3 [.int .i64 x2.bits, .int .i64 x2.dst, .slice A2_2 x2.frm.length c2_2, .slice A2_3 x2.args.length c2_3] 51, Chunk.box b1 [.slice A_b_0 b.phis.length c_b_0, .slice A_b_1 b.ops.length c_b_1, .int .i64 b.en.kind, .int .i64 b.en.arg, .slice A_b_4 b.en.to.length c_b_4] 44]) rfl ?_
    refine WpG.go tabOK 4 [(1, .pointer (some ⟨b1, 0, none⟩)), (4, .pointer (some ⟨b3, 0, none⟩)), (8, .slice A_b_0 b.phis.length c_b_0), (9, .int .i64 (b.phis.length : Int)), (10, .int .i64 i), (14, .pointer (some ⟨b3, 0, none⟩))] rfl ⟨rfl, rfl, rfl, rfl, rfl, rfl, trivial⟩ ?_
    refine WpG.y rfl rfl rfl rfl (RunY.loadBox (ci := 0) tabOK rfl rfl rfl rfl) ?_
    refine WpG.go tabOK 1 [(1, .pointer (some ⟨b1, 0, none⟩)), (4, .pointer (some ⟨b3, 0, none⟩)), (8, .slice A_b_0 b.phis.length c_b_0), (9, .int .i64 (b.phis.length : Int)), (10, .int .i64 i), (15, .int .i64 x2.bits), (16, .pointer (some ⟨b3, 1, none⟩))] rfl ⟨rfl, rfl, rfl, rfl, rfl, rfl, rfl, trivial⟩ ?_
    refine WpG.y rfl rfl rfl rfl (RunY.loadBox (ci := 0) tabOK rfl rfl rfl rfl) ?_
    refine WpG.buildSlice (xs := [.int .i64 x2.bits, .int .i64 x2.dst]) tabOK rfl rfl rfl rfl rfl rfl rfl rfl rfl rfl (fun b4 => ?_)
    refine WpG.ownCap (ci := 0) rfl (fun uz6 => ?_)
    refine WpG.freezeOwn (ci := 0) rfl (fun H6 hH6 fz6 => ?_)
    have rz6 : RdS H6 (some ⟨b4, 0, none⟩) [x2.bits, x2.dst] := RdS.of_own (H := H) (show RdL H [.int .i64 x2.bits, .int .i64 x2.dst] [x2.bits, x2.dst] from RdL_ints [x2.bits, x2.dst] ⟨k2_0, k2_1, trivial⟩) (rfl) (by simp) hH6 fz6
    refine WpG.setL (L' := [Chunk.box b3 [.int .i64 x2.bits, .int .i64 x2.dst, .slice A2_2 x2.frm.length c2_2, .slice A2_3 x2.args.length c2_3] 51, Chunk.box b1 [.slice A_b_0 b.phis.length c_b_0, .slice A_b_1 b.ops.length c_b_1, .int .i64 b.en.kind, .int .i64 b.en.arg, .slice A_b_4 b.en.to.length c_b_4] 44]) rfl ?_
    refine WpG.callS rfl rfl rfl rfl rfl rfl (Hp.le.refl _) (have z := in_calls rz6; z) ?_
    refine WpG.lessH (Hp.le.refl _) hH6 ?_
    refine WpG.go tabOK 2 [(1, .pointer (some ⟨b1, 0, none⟩)), (4, .pointer (some ⟨b3, 0, none⟩)), (8, .slice A_b_0 b.phis.length c_b_0), (9, .int .i64 (b.phis.length : Int)), (10, .int .i64 i), (21, .bool (!(List.all [x2.bits, x2.dst] numOK)))] rfl ⟨rfl, rfl, rfl, rfl, rfl, rfl, trivial⟩ ?_
    refine WpG.caseBn (t := 21) rfl (fun q21 => ?_) (fun q21 => ?_)
    · refine WpG.go tabOK 14 [(2, .bool false)] rfl ⟨rfl, trivial⟩ ?_
      -- return 0, path L1TT
      exact WpG.ret tabOK (L' := []) (.tmp rfl .nil) (.cons _ (.cons _ .slnil)) ⟨congrArg Value.bool (by clear ih1; simp only [blockOK, all_no i2 i0 q11 hx2 (by simp only [phiOK, q21, Bool.false_and]), Bool.false_and]), rfl⟩
    · refine WpG.go tabOK 1 [(1, .pointer (some ⟨b1, 0, none⟩)), (4, .pointer (some ⟨b3, 0, none⟩)), (8, .slice A_b_0 b.phis.length c_b_0), (9, .int .i64 (b.phis.length : Int)), (10, .int .i64 i), (21, .bool false), (22, .pointer (some ⟨b3, 2, none⟩))] rfl ⟨rfl, rfl, rfl, rfl, rfl, rfl, rfl, trivial⟩ ?_
      refine WpG.y rfl rfl rfl rfl (RunY.loadBox (ci := 0) tabOK rfl rfl rfl rfl) ?_
      refine WpG.go tabOK 1 [(1, .pointer (some ⟨b1, 0, none⟩)), (8, .slice A_b_0 b.phis.length c_b_0), (9, .int .i64 (b.phis.length : Int)), (10, .int .i64 i), (21, .bool false), (23, .slice A2_2 x2.frm.length c2_2), (24, .pointer (some ⟨b3, 3, none⟩))] rfl ⟨rfl, rfl, rfl, rfl, rfl, rfl, rfl, trivial⟩ ?_
      refine WpG.y rfl rfl rfl rfl (RunY.loadBox (ci := 0) tabOK rfl rfl rfl rfl) ?_
      refine WpG.buildSlice (xs := [.slice A2_2 x2.frm.length c2_2, .slice A2_3 x2.args.length c2_3]) tabOK rfl rfl rfl rfl rfl rfl rfl rfl rfl rfl (fun b7 => ?_)
      refine WpG.ownCap (ci := 0) rfl (fun uz9 => ?_)
      refine WpG.freezeOwn (ci := 0) rfl (fun H9 hH9 fz9 => ?_)
      have rz9 : RdS H9 (some ⟨b7, 0, none⟩) [x2.frm, x2.args] := RdS.of_own (H := H) (show RdL H [.slice A2_2 x2.frm.length c2_2, .slice A2_3 x2.args.length c2_3] [x2.frm, x2.args] from ⟨_, _, rfl, ⟨_, _, rfl, u2_2, r2_2⟩, ⟨_, _, rfl, ⟨_, _, rfl, u2_3, r2_3⟩, rfl⟩⟩) (rfl) (by simp) hH9 fz9
      refine WpG.setL (L' := [Chunk.box b3 [.int .i64 x2.bits, .int .i64 x2.dst, .slice A2_2 x2.frm.length c2_2, .slice A2_3 x2.args.length c2_3] 51, Chunk.box b1 [.slice A_b_0 b.phis.length c_b_0, .slice A_b_1 b.ops.length c_b_1, .int .i64 b.en.kind, .int .i64 b.en.arg, .slice A_b_4 b.en.to.length c_b_4] 44]) rfl ?_
      refine WpG.callS rfl rfl rfl rfl rfl rfl (Hp.le.refl _) (have z := lists_calls rz9; z) ?_
      refine WpG.lessH (Hp.le.refl _) hH9 ?_
      refine WpG.go tabOK 3 [(1, .pointer (some ⟨b1, 0, none⟩)), (8, .slice A_b_0 b.phis.length c_b_0), (9, .int .i64 (b.phis.length : Int)), (10, .int .i64 i), (29, .bool (!(List.all [x2.frm, x2.args] listOK)))] rfl ⟨rfl, rfl, rfl, rfl, rfl, trivial⟩ ?_
      refine WpG.caseBn (t := 29) rfl (fun q29 => ?_) (fun q29 => ?_)
      · refine WpG.go tabOK 5 [(2, .bool false)] rfl ⟨rfl, trivial⟩ ?_
        -- return 1, path L1TFT
        exact WpG.ret tabOK (L' := []) (.tmp rfl .nil) (.cons _ (.cons _ .slnil)) ⟨congrArg Value.bool (by clear ih1; simp only [blockOK, all_no i2 i0 q11 hx2 (by simp only [phiOK, q21, q29, Bool.and_false]), Bool.false_and]), rfl⟩
      · refine WpG.go tabOK 5 [(1, .pointer (some ⟨b1, 0, none⟩)), (8, .slice A_b_0 b.phis.length c_b_0), (9, .int .i64 (b.phis.length : Int)), (30, .int .i64 (i + 1))] rfl ⟨rfl, rfl, rfl, (wrk (x := i + 1) (by omega) (by omega)), trivial⟩ ?_
        refine WpG.go tabOK 3 [(1, .pointer (some ⟨b1, 0, none⟩)), (8, .slice A_b_0 b.phis.length c_b_0), (9, .int .i64 (b.phis.length : Int)), (10, .int .i64 (i + 1))] rfl ⟨rfl, rfl, rfl, rfl, trivial⟩ ?_
        refine WpG.dropL (L' := [Chunk.box b1 [.slice A_b_0 b.phis.length c_b_0, .slice A_b_1 b.ops.length c_b_1, .int .i64 b.en.kind, .int .i64 b.en.arg, .slice A_b_4 b.en.to.length c_b_4] 44]) (.cons _ (.cons_cons _ .slnil)) ?_
        refine WpG.weaken (G := [(1, .pointer (some ⟨b1, 0, none⟩)), (8, .slice A_b_0 b.phis.length c_b_0), (9, .int .i64 (b.phis.length : Int)), (10, .int .i64 (i + 1))]) (Known.all ⟨rfl, rfl, rfl, rfl, trivial⟩) (ih1 (i + 1) ?_ ?_)
        · show (b.phis.length - (i + 1)).toNat < (b.phis.length - i).toNat
          omega
        · show 0 ≤ (i + 1) ∧ (i + 1) ≤ b.phis.length ∧ b.phis.all phiOK = (b.phis.drop (i + 1).toNat).all phiOK
          -- back 0 of loop 1, path L1TFF
          clear ih1
          exact ⟨by omega, by omega, all_step i2 i0 q11 hx2 (by simp only [phiOK, q21, q29, Bool.and_self])⟩
  · refine WpG.go tabOK 6 [(1, .pointer (some ⟨b1, 0, none⟩)), (31, .pointer (some ⟨b1, 1, none⟩))] rfl ⟨rfl, rfl, trivial⟩ ?_
    refine WpG.y rfl rfl rfl rfl (RunY.loadBox (ci := 0) tabOK rfl rfl rfl rfl) ?_
    refine WpG.go tabOK 5 [(1, .pointer (some ⟨b1, 0, none⟩)), (32, .slice A_b_1 b.ops.length c_b_1), (33, .int .i64 (b.ops.length : Int)), (34, .int .i64 0)] rfl ⟨rfl, rfl, rfl, rfl, trivial⟩ ?_
    refine WpG.ind (σ := Int) (fun z_ => (b.ops.length - z_).toNat) (fun z_ => [(1, .pointer (some ⟨b1, 0, none⟩)), (32, .slice A_b_1 b.ops.length c_b_1), (33, .int .i64 (b.ops.length : Int)), (34, .int .i64 z_)]) (fun z_ => H) (fun z_ => [Chunk.box b1 [.slice A_b_0 b.phis.length c_b_0, .slice A_b_1 b.ops.length c_b_1, .int .i64 b.en.kind, .int .i64 b.en.arg, .slice A_b_4 b.en.to.length c_b_4] 44]) (fun z_ => 0 ≤ z_ ∧ z_ ≤ b.ops.length ∧ b.ops.all opOK = (b.ops.drop z_.toNat).all opOK) ?_ (0) ⟨by omega, by omega, rfl⟩
    intro j inv ih2
    change WpG _ _ _ _ _ _ [(1, .pointer (some ⟨b1, 0, none⟩)), (32, .slice A_b_1 b.ops.length c_b_1), (33, .int .i64 (b.ops.length : Int)), (34, .int .i64 j)] H [Chunk.box b1 [.slice A_b_0 b.phis.length c_b_0, .slice A_b_1 b.ops.length c_b_1, .int .i64 b.en.kind, .int .i64 b.en.arg, .slice A_b_4 b.en.to.length c_b_4] 44] _
    replace inv : 0 ≤ j ∧ j ≤ b.ops.length ∧ b.ops.all opOK = (b.ops.drop j.toNat).all opOK := inv
    obtain ⟨j0, j1, j2⟩ := inv
    refine WpG.go tabOK 5 [(1, .pointer (some ⟨b1, 0, none⟩)), (32, .slice A_b_1 b.ops.length c_b_1), (33, .int .i64 (b.ops.length : Int)), (34, .int .i64 j), (35, .bool (decide (j < (b.ops.length : Int))))] rfl ⟨rfl, rfl, rfl, rfl, rfl, trivial⟩ ?_
    refine WpG.caseD (t := 35) rfl (fun q35 => ?_) (fun q35 => ?_)
    · refine WpG.go tabOK 6 [(1, .pointer (some ⟨b1, 0, none⟩)), (32, .slice A_b_1 b.ops.length c_b_1), (33, .int .i64 (b.ops.length : Int)), (34, .int .i64 j)] rfl ⟨rfl, rfl, rfl, rfl, trivial⟩ ?_
      refine WpG.indexR tabOK rfl rfl rfl rfl rfl rfl rfl rfl rfl r_b_1 (by omega) (by omega) ?_
      rintro x10 hx10 b10 o10 cs10 rd10 hc10
      have rd10' := rd10; obtain ⟨A10_4, c10_4, rfl, u10_4, r10_4, k10_0, k10_1, k10_2, k10_3, k10_4⟩ := rd10
      refine WpG.y rfl rfl rfl rfl (RunY.loadH tabOK hc10 (Hp.le.refl _) rfl rfl rfl rfl) ?_
      refine WpG.alloc tabOK rfl rfl rfl rfl rfl (fun b11 => ?_)
      refine WpG.storeBox (ci := 0) (cs' := [.int .i64 x10.kind, .int .i64 x10.bits, .int .i64 x10.lanes, .int .i64 x10.dst, .slice A10_4 x10.args.length c10_4, .int .u64 x10.imm]) tabOK rfl rfl rfl rfl rfl rfl rfl rfl rfl ?_
      refine WpG.setL (L' := [Chunk.box b11 [.int .i64 x10.kind, .int .i64 x10.bits, .int .i64 x10.lanes, .int .i64 x10.dst, .slice A10_4 x10.args.length c10_4, .int .u64 x10.imm] 47, Chunk.box b1 [.slice A_b_0 b.phis.length c_b_0, .slice A_b_1 b.ops.length c_b_1, .int .i64 b.en.kind, .int .i64 b.en.arg, .slice A_b_4 b.en.to.length c_b_4] 44]) rfl ?_
      refine WpG.go tabOK 4 [(1, .pointer (some ⟨b1, 0, none⟩)), (6, .pointer (some ⟨b11, 0, none⟩)), (32, .slice A_b_1 b.ops.length c_b_1), (33, .int .i64 (b.ops.length : Int)), (34, .int .i64 j), (38, .pointer (some ⟨b11, 0, none⟩))] rfl ⟨rfl, rfl, rfl, rfl, rfl, rfl, trivial⟩ ?_
      refine WpG.y rfl rfl rfl rfl (RunY.loadBox (ci := 0) tabOK rfl rfl rfl rfl) ?_
      refine WpG.go tabOK 1 [(1, .pointer (some ⟨b1, 0, none⟩)), (6, .pointer (some ⟨b11, 0, none⟩)), (32, .slice A_b_1 b.ops.length c_b_1), (33, .int .i64 (b.ops.length : Int)), (34, .int .i64 j), (39, .int .i64 x10.kind), (40, .pointer (some ⟨b11, 1, none⟩))] rfl ⟨rfl, rfl, rfl, rfl, rfl, rfl, rfl, trivial⟩ ?_
      refine WpG.y rfl rfl rfl rfl (RunY.loadBox (ci := 0) tabOK rfl rfl rfl rfl) ?_
      refine WpG.go tabOK 1 [(1, .pointer (some ⟨b1, 0, none⟩)), (6, .pointer (some ⟨b11, 0, none⟩)), (32, .slice A_b_1 b.ops.length c_b_1), (33, .int .i64 (b.ops.length : Int)), (34, .int .i64 j), (39, .int .i64 x10.kind), (41, .int .i64 x10.bits), (42, .pointer (some ⟨b11, 2, none⟩))] rfl ⟨rfl, rfl, rfl, rfl, rfl, rfl, rfl, rfl, trivial⟩ ?_
      refine WpG.y rfl rfl rfl rfl (RunY.loadBox (ci := 0) tabOK rfl rfl rfl rfl) ?_
      refine WpG.go tabOK 1 [(1, .pointer (some ⟨b1, 0, none⟩)), (6, .pointer (some ⟨b11, 0, none⟩)), (32, .slice A_b_1 b.ops.length c_b_1), (33, .int .i64 (b.ops.length : Int)), (34, .int .i64 j), (39, .int .i64 x10.kind), (41, .int .i64 x10.bits), (43, .int .i64 x10.lanes), (44, .pointer (some ⟨b11, 3, none⟩))] rfl ⟨rfl, rfl, rfl, rfl, rfl, rfl, rfl, rfl, rfl, trivial⟩ ?_
      refine WpG.y rfl rfl rfl rfl (RunY.loadBox (ci := 0) tabOK rfl rfl rfl rfl) ?_
      refine WpG.buildSlice (xs := [.int .i64 x10.kind, .int .i64 x10.bits, .int .i64 x10.lanes, .int .i64 x10.dst]) tabOK rfl rfl rfl rfl rfl rfl rfl rfl rfl rfl (fun b12 => ?_)
      refine WpG.ownCap (ci := 0) rfl (fun uz14 => ?_)
      refine WpG.freezeOwn (ci := 0) rfl (fun H14 hH14 fz14 => ?_)
      have rz14 : RdS H14 (some ⟨b12, 0, none⟩) [x10.kind, x10.bits, x10.lanes, x10.dst] := RdS.of_own (H := H) (show RdL H [.int .i64 x10.kind, .int .i64 x10.bits, .int .i64 x10.lanes, .int .i64 x10.dst] [x10.kind, x10.bits, x10.lanes, x10.dst] from RdL_ints [x10.kind, x10.bits, x10.lanes, x10.dst] ⟨k10_0, k10_1, k10_2, k10_3, trivial⟩) (rfl) (by simp) hH14 fz14
      refine WpG.setL (L' := [Chunk.box b11 [.int .i64 x10.kind, .int .i64 x10.bits, .int .i64 x10.lanes, .int .i64 x10.dst, .slice A10_4 x10.args.length c10_4, .int .u64 x10.imm] 47, Chunk.box b1 [.slice A_b_0 b.phis.length c_b_0, .slice A_b_1 b.ops.length c_b_1, .int .i64 b.en.kind, .int .i64 b.en.arg, .slice A_b_4 b.en.to.length c_b_4] 44]) rfl ?_
      refine WpG.callS rfl rfl rfl rfl rfl rfl (Hp.le.refl _) (have z := in_calls rz14; z) ?_
      refine WpG.lessH (Hp.le.refl _) hH14 ?_
      refine WpG.go tabOK 2 [(1, .pointer (some ⟨b1, 0, none⟩)), (6, .pointer (some ⟨b11, 0, none⟩)), (32, .slice A_b_1 b.ops.length c_b_1), (33, .int .i64 (b.ops.length : Int)), (34, .int .i64 j), (49, .bool (!(List.all [x10.kind, x10.bits, x10.lanes, x10.dst] numOK)))] rfl ⟨rfl, rfl, rfl, rfl, rfl, rfl, trivial⟩ ?_
      refine WpG.caseBn (t := 49) rfl (fun q49 => ?_) (fun q49 => ?_)
      · refine WpG.go tabOK 12 [(2, .bool false)] rfl ⟨rfl, trivial⟩ ?_
        -- return 2, path L1FL2TT
        exact WpG.ret tabOK (L' := []) (.tmp rfl .nil) (.cons _ (.cons _ .slnil)) ⟨congrArg Value.bool (by clear ih1 ih2; simp only [blockOK, all_no j2 j0 q35 hx10 (by simp only [opOK, q49, Bool.false_and]), Bool.false_and, Bool.and_false]), rfl⟩
      · refine WpG.go tabOK 1 [(1, .pointer (some ⟨b1, 0, none⟩)), (32, .slice A_b_1 b.ops.length c_b_1), (33, .int .i64 (b.ops.length : Int)), (34, .int .i64 j), (49, .bool false), (50, .pointer (some ⟨b11, 4, none⟩))] rfl ⟨rfl, rfl, rfl, rfl, rfl, rfl, trivial⟩ ?_
        refine WpG.y rfl rfl rfl rfl (RunY.loadBox (ci := 0) tabOK rfl rfl rfl rfl) ?_
        refine WpG.buildSlice (xs := [.slice A10_4 x10.args.length c10_4]) tabOK rfl rfl rfl rfl rfl rfl rfl rfl rfl rfl (fun b15 => ?_)
        refine WpG.ownCap (ci := 0) rfl (fun uz17 => ?_)
        refine WpG.freezeOwn (ci := 0) rfl (fun H17 hH17 fz17 => ?_)
        have rz17 : RdS H17 (some ⟨b15, 0, none⟩) [x10.args] := RdS.of_own (H := H) (show RdL H [.slice A10_4 x10.args.length c10_4] [x10.args] from ⟨_, _, rfl, ⟨_, _, rfl, u10_4, r10_4⟩, rfl⟩) (rfl) (by simp) hH17 fz17
        refine WpG.setL (L' := [Chunk.box b11 [.int .i64 x10.kind, .int .i64 x10.bits, .int .i64 x10.lanes, .int .i64 x10.dst, .slice A10_4 x10.args.length c10_4, .int .u64 x10.imm] 47, Chunk.box b1 [.slice A_b_0 b.phis.length c_b_0, .slice A_b_1 b.ops.length c_b_1, .int .i64 b.en.kind, .int .i64 b.en.arg, .slice A_b_4 b.en.to.length c_b_4] 44]) rfl ?_
        refine WpG.callS rfl rfl rfl rfl rfl rfl (Hp.le.refl _) (have z := lists_calls rz17; z) ?_
        refine WpG.lessH (Hp.le.refl _) hH17 ?_
        refine WpG.go tabOK 3 [(1, .pointer (some ⟨b1, 0, none⟩)), (32, .slice A_b_1 b.ops.length c_b_1), (33, .int .i64 (b.ops.length : Int)), (34, .int .i64 j), (55, .bool (!(List.all [x10.args] listOK)))] rfl ⟨rfl, rfl, rfl, rfl, rfl, trivial⟩ ?_
        refine WpG.caseBn (t := 55) rfl (fun q55 => ?_) (fun q55 => ?_)
        · refine WpG.go tabOK 5 [(2, .bool false)] rfl ⟨rfl, trivial⟩ ?_
          -- return 3, path L1FL2TFT
          exact WpG.ret tabOK (L' := []) (.tmp rfl .nil) (.cons _ (.cons _ .slnil)) ⟨congrArg Value.bool (by clear ih1 ih2; simp only [blockOK, all_no j2 j0 q35 hx10 (by simp only [opOK, q49, q55, Bool.and_false]), Bool.false_and, Bool.and_false]), rfl⟩
        · refine WpG.go tabOK 5 [(1, .pointer (some ⟨b1, 0, none⟩)), (32, .slice A_b_1 b.ops.length c_b_1), (33, .int .i64 (b.ops.length : Int)), (56, .int .i64 (j + 1))] rfl ⟨rfl, rfl, rfl, (wrk (x := j + 1) (by omega) (by omega)), trivial⟩ ?_
          refine WpG.go tabOK 3 [(1, .pointer (some ⟨b1, 0, none⟩)), (32, .slice A_b_1 b.ops.length c_b_1), (33, .int .i64 (b.ops.length : Int)), (34, .int .i64 (j + 1))] rfl ⟨rfl, rfl, rfl, rfl, trivial⟩ ?_
          refine WpG.dropL (L' := [Chunk.box b1 [.slice A_b_0 b.phis.length c_b_0, .slice A_b_1 b.ops.length c_b_1, .int .i64 b.en.kind, .int .i64 b.en.arg, .slice A_b_4 b.en.to.length c_b_4] 44]) (.cons _ (.cons_cons _ .slnil)) ?_
          refine WpG.weaken (G := [(1, .pointer (some ⟨b1, 0, none⟩)), (32, .slice A_b_1 b.ops.length c_b_1), (33, .int .i64 (b.ops.length : Int)), (34, .int .i64 (j + 1))]) (Known.all ⟨rfl, rfl, rfl, rfl, trivial⟩) (ih2 (j + 1) ?_ ?_)
          · show (b.ops.length - (j + 1)).toNat < (b.ops.length - j).toNat
            omega
          · show 0 ≤ (j + 1) ∧ (j + 1) ≤ b.ops.length ∧ b.ops.all opOK = (b.ops.drop (j + 1).toNat).all opOK
            -- back 0 of loop 2, path L1FL2TFF
            clear ih1 ih2
            exact ⟨by omega, by omega, all_step j2 j0 q35 hx10 (by simp only [opOK, q49, q55, Bool.and_self])⟩
    · refine WpG.go tabOK 6 [(1, .pointer (some ⟨b1, 0, none⟩)), (58, .pointer (some ⟨b1, 2, none⟩))] rfl ⟨rfl, rfl, trivial⟩ ?_
      refine WpG.y rfl rfl rfl rfl (RunY.loadBox (ci := 0) tabOK rfl rfl rfl rfl) ?_
      refine WpG.go tabOK 2 [(1, .pointer (some ⟨b1, 0, none⟩)), (59, .int .i64 b.en.kind), (61, .pointer (some ⟨b1, 3, none⟩))] rfl ⟨rfl, rfl, rfl, trivial⟩ ?_
      refine WpG.y rfl rfl rfl rfl (RunY.loadBox (ci := 0) tabOK rfl rfl rfl rfl) ?_
      refine WpG.buildSlice (xs := [.int .i64 b.en.kind, .int .i64 b.en.arg]) tabOK rfl rfl rfl rfl rfl rfl rfl rfl rfl rfl (fun b18 => ?_)
      refine WpG.ownCap (ci := 0) rfl (fun uz20 => ?_)
      refine WpG.freezeOwn (ci := 0) rfl (fun H20 hH20 fz20 => ?_)
      have rz20 : RdS H20 (some ⟨b18, 0, none⟩) [b.en.kind, b.en.arg] := RdS.of_own (H := H) (show RdL H [.int .i64 b.en.kind, .int .i64 b.en.arg] [b.en.kind, b.en.arg] from RdL_ints [b.en.kind, b.en.arg] ⟨k_b_0, k_b_1, trivial⟩) (rfl) (by simp) hH20 fz20
      refine WpG.setL (L' := [Chunk.box b1 [.slice A_b_0 b.phis.length c_b_0, .slice A_b_1 b.ops.length c_b_1, .int .i64 b.en.kind, .int .i64 b.en.arg, .slice A_b_4 b.en.to.length c_b_4] 44]) rfl ?_
      refine WpG.callS rfl rfl rfl rfl rfl rfl (Hp.le.refl _) (have z := in_calls rz20; z) ?_
      refine WpG.lessH (Hp.le.refl _) hH20 ?_
      refine WpG.go tabOK 1 [(1, .pointer (some ⟨b1, 0, none⟩)), (65, .bool (List.all [b.en.kind, b.en.arg] numOK))] rfl ⟨rfl, rfl, trivial⟩ ?_
      refine WpG.caseB (t := 65) rfl (fun q65 => ?_) (fun q65 => ?_)
      · refine WpG.go tabOK 2 [(65, .bool true), (67, .pointer (some ⟨b1, 4, none⟩))] rfl ⟨rfl, rfl, trivial⟩ ?_
        refine WpG.y rfl rfl rfl rfl (RunY.loadBox (ci := 0) tabOK rfl rfl rfl rfl) ?_
        refine WpG.buildSlice (xs := [.slice A_b_4 b.en.to.length c_b_4]) tabOK rfl rfl rfl rfl rfl rfl rfl rfl rfl rfl (fun b21 => ?_)
        refine WpG.ownCap (ci := 0) rfl (fun uz23 => ?_)
        refine WpG.freezeOwn (ci := 0) rfl (fun H23 hH23 fz23 => ?_)
        have rz23 : RdS H23 (some ⟨b21, 0, none⟩) [b.en.to] := RdS.of_own (H := H) (show RdL H [.slice A_b_4 b.en.to.length c_b_4] [b.en.to] from ⟨_, _, rfl, ⟨_, _, rfl, u_b_4, r_b_4⟩, rfl⟩) (rfl) (by simp) hH23 fz23
        refine WpG.setL (L' := [Chunk.box b1 [.slice A_b_0 b.phis.length c_b_0, .slice A_b_1 b.ops.length c_b_1, .int .i64 b.en.kind, .int .i64 b.en.arg, .slice A_b_4 b.en.to.length c_b_4] 44]) rfl ?_
        refine WpG.callS rfl rfl rfl rfl rfl rfl (Hp.le.refl _) (have z := lists_calls rz23; z) ?_
        refine WpG.lessH (Hp.le.refl _) hH23 ?_
        refine WpG.go tabOK 3 [(2, .bool (List.all [b.en.to] listOK))] rfl ⟨rfl, trivial⟩ ?_
        -- return 4, path L1FL2FT
        exact WpG.ret tabOK (L' := []) (.tmp rfl .nil) (.cons _ .slnil) ⟨congrArg Value.bool (by clear ih1 ih2; simp only [blockOK, all_end i2 i0 q11, all_end j2 j0 q35, Bool.true_and, endOK, q65]), rfl⟩
      · refine WpG.go tabOK 8 [(2, .bool false)] rfl ⟨rfl, trivial⟩ ?_
        -- return 5, path L1FL2FF
        exact WpG.ret tabOK (L' := []) (.tmp rfl .nil) (.cons _ .slnil) ⟨congrArg Value.bool (by clear ih1 ih2; simp only [blockOK, all_end i2 i0 q11, all_end j2 j0 q35, Bool.true_and, endOK, q65, Bool.false_and]), rfl⟩

theorem May1_calls {H : Hp} {b : BlockD} {cs_b : List Value} (rd_b : Rdc.rd H cs_b b) : CallG Tryz.prog 51 [.agg cs_b.toArray] H [] (fun v _ L' => v = .bool (!blockOK b) ∧ L' = []) := by
  have rd_b' := rd_b; obtain ⟨A_b_0, c_b_0, A_b_1, c_b_1, A_b_4, c_b_4, rfl, u_b_0, r_b_0, u_b_1, r_b_1, u_b_4, r_b_4, k_b_0, k_b_1⟩ := rd_b
  refine CallG.of Tryz.func51 rfl rfl rfl fun w0 => ?_
  change WpG _ _ _ _ _ _ [(0, .agg #[.slice A_b_0 b.phis.length c_b_0, .slice A_b_1 b.ops.length c_b_1, .int .i64 b.en.kind, .int .i64 b.en.arg, .slice A_b_4 b.en.to.length c_b_4])] _ _ _
  refine WpG.go tabOK 2 [(0, .agg #[.slice A_b_0 b.phis.length c_b_0, .slice A_b_1 b.ops.length c_b_1, .int .i64 b.en.kind, .int .i64 b.en.arg, .slice A_b_4 b.en.to.length c_b_4])] rfl ⟨rfl, trivial⟩ ?_
  refine WpG.box rfl rfl rfl rfl rfl (fun b1 => ?_)
  refine WpG.go tabOK 4 [(1, .pointer (some ⟨b1, 0, none⟩))] rfl ⟨rfl, trivial⟩ ?_
  refine WpG.y rfl rfl rfl rfl (RunY.loadBox (ci := 0) tabOK rfl rfl rfl rfl) ?_
  refine WpG.callS rfl rfl rfl rfl rfl rfl (Hp.le.refl _) (mayBlock_calls rd_b') ?_
  refine WpG.go tabOK 3 [(2, .bool (!(blockOK b)))] rfl ⟨rfl, trivial⟩ ?_
  -- return 0, path 
  exact WpG.ret tabOK (L' := []) (.tmp rfl .nil) (.cons _ .slnil) ⟨congrArg Value.bool (by rfl), rfl⟩

theorem codeMay_calls {H : Hp} {f : FuncD} {cs_f : List Value} (rd_f : Rdc.rd H cs_f f) : CallG Tryz.prog 30 [.agg cs_f.toArray] H [] (fun v _ L' => v = .bool (mayF f) ∧ L' = []) := by
  have rd_f' := rd_f; obtain ⟨A_f_0, c_f_0, A_f_2, c_f_2, rfl, u_f_0, r_f_0, u_f_2, r_f_2, k_f_0⟩ := rd_f
  refine CallG.of Tryz.func30 rfl rfl rfl fun w0 => ?_
  change WpG _ _ _ _ _ _ [(0, .agg #[.slice A_f_0 f.params.length c_f_0, .int .i64 f.ret, .slice A_f_2 f.blocks.length c_f_2])] _ _ _
  refine WpG.go tabOK 2 [(0, .agg #[.slice A_f_0 f.params.length c_f_0, .int .i64 f.ret, .slice A_f_2 f.blocks.length c_f_2])] rfl ⟨rfl, trivial⟩ ?_
  refine WpG.box rfl rfl rfl rfl rfl (fun b1 => ?_)
  refine WpG.go tabOK 6 [(1, .pointer (some ⟨b1, 0, none⟩)), (3, .pointer (some ⟨b1, 2, none⟩))] rfl ⟨rfl, rfl, trivial⟩ ?_
  refine WpG.y rfl rfl rfl rfl (RunY.loadBox (ci := 0) tabOK rfl rfl rfl rfl) ?_
  refine WpG.go tabOK 3 [(1, .pointer (some ⟨b1, 0, none⟩)), (7, .bool (decide ((f.blocks.length : Int) < 1)))] rfl ⟨rfl, rfl, trivial⟩ ?_
  refine WpG.caseD (t := 7) rfl (fun q7 => ?_) (fun q7 => ?_)
  · refine WpG.go tabOK 35 [(2, .bool false)] rfl ⟨rfl, trivial⟩ ?_
    -- return 0, path T
    exact WpG.ret tabOK (L' := []) (.tmp rfl .nil) (.cons _ .slnil) ⟨congrArg Value.bool (by simp only [mayF, decide_eq_true q7, Bool.not_false, Bool.not_true, Bool.true_and, Bool.false_and, Bool.and_false]), rfl⟩
  · refine WpG.go tabOK 1 [(1, .pointer (some ⟨b1, 0, none⟩)), (7, .bool false), (8, .pointer (some ⟨b1, 2, none⟩))] rfl ⟨rfl, rfl, rfl, trivial⟩ ?_
    refine WpG.y rfl rfl rfl rfl (RunY.loadBox (ci := 0) tabOK rfl rfl rfl rfl) ?_
    refine WpG.go tabOK 4 [(1, .pointer (some ⟨b1, 0, none⟩)), (13, .bool (decide ((f.blocks.length : Int) > 64)))] rfl ⟨rfl, rfl, trivial⟩ ?_
    refine WpG.caseD (t := 13) rfl (fun q13 => ?_) (fun q13 => ?_)
    · refine WpG.go tabOK 29 [(2, .bool false)] rfl ⟨rfl, trivial⟩ ?_
      -- return 1, path FT
      exact WpG.ret tabOK (L' := []) (.tmp rfl .nil) (.cons _ .slnil) ⟨congrArg Value.bool (by simp only [mayF, decide_eq_false q7, decide_eq_true q13, Bool.not_false, Bool.not_true, Bool.true_and, Bool.false_and, Bool.and_false]), rfl⟩
    · refine WpG.go tabOK 1 [(1, .pointer (some ⟨b1, 0, none⟩)), (13, .bool false), (14, .pointer (some ⟨b1, 0, none⟩))] rfl ⟨rfl, rfl, rfl, trivial⟩ ?_
      refine WpG.y rfl rfl rfl rfl (RunY.loadBox (ci := 0) tabOK rfl rfl rfl rfl) ?_
      refine WpG.go tabOK 4 [(1, .pointer (some ⟨b1, 0, none⟩)), (19, .bool (decide ((f.params.length : Int) > 16)))] rfl ⟨rfl, rfl, trivial⟩ ?_
      refine WpG.caseD (t := 19) rfl (fun q19 => ?_) (fun q19 => ?_)
      · refine WpG.go tabOK 23 [(2, .bool false)] rfl ⟨rfl, trivial⟩ ?_
        -- return 2, path FFT
        exact WpG.ret tabOK (L' := []) (.tmp rfl .nil) (.cons _ .slnil) ⟨congrArg Value.bool (by simp only [mayF, decide_eq_false q7, decide_eq_false q13, decide_eq_true q19, Bool.not_false, Bool.not_true, Bool.true_and, Bool.false_and, Bool.and_false]), rfl⟩
      · refine WpG.y rfl rfl rfl rfl (RunY.loadBox (ci := 0) tabOK rfl rfl rfl rfl) ?_
        refine WpG.callS rfl rfl rfl rfl rfl rfl (Hp.le.refl _) (Size_calls rd_f' (by omega)) ?_
        refine WpG.go tabOK 3 [(1, .pointer (some ⟨b1, 0, none⟩)), (24, .bool (decide ((sizeF f) > 512)))] rfl ⟨rfl, rfl, trivial⟩ ?_
        refine WpG.caseD (t := 24) rfl (fun q24 => ?_) (fun q24 => ?_)
        · refine WpG.go tabOK 18 [(2, .bool false)] rfl ⟨rfl, trivial⟩ ?_
          -- return 3, path FFFT
          exact WpG.ret tabOK (L' := []) (.tmp rfl .nil) (.cons _ .slnil) ⟨congrArg Value.bool (by simp only [mayF, decide_eq_false q7, decide_eq_false q13, decide_eq_false q19, decide_eq_true q24, Bool.not_false, Bool.not_true, Bool.true_and, Bool.false_and, Bool.and_false]), rfl⟩
        · refine WpG.go tabOK 1 [(1, .pointer (some ⟨b1, 0, none⟩)), (24, .bool false), (25, .pointer (some ⟨b1, 1, none⟩))] rfl ⟨rfl, rfl, rfl, trivial⟩ ?_
          refine WpG.y rfl rfl rfl rfl (RunY.loadBox (ci := 0) tabOK rfl rfl rfl rfl) ?_
          refine WpG.buildSlice (xs := [.int .i64 f.ret]) tabOK rfl rfl rfl rfl rfl rfl rfl rfl rfl rfl (fun b2 => ?_)
          refine WpG.ownCap (ci := 0) rfl (fun uz4 => ?_)
          refine WpG.freezeOwn (ci := 0) rfl (fun H4 hH4 fz4 => ?_)
          have rz4 : RdS H4 (some ⟨b2, 0, none⟩) [f.ret] := RdS.of_own (H := H) (show RdL H [.int .i64 f.ret] [f.ret] from RdL_ints [f.ret] ⟨k_f_0, trivial⟩) (rfl) (by simp) hH4 fz4
          refine WpG.setL (L' := [Chunk.box b1 [.slice A_f_0 f.params.length c_f_0, .int .i64 f.ret, .slice A_f_2 f.blocks.length c_f_2] 25]) rfl ?_
          refine WpG.callS rfl rfl rfl rfl rfl rfl (Hp.le.refl _) (have z := in_calls rz4; z) ?_
          refine WpG.lessH (Hp.le.refl _) hH4 ?_
          refine WpG.go tabOK 3 [(1, .pointer (some ⟨b1, 0, none⟩)), (31, .bool (!(List.all [f.ret] numOK)))] rfl ⟨rfl, rfl, trivial⟩ ?_
          refine WpG.caseBn (t := 31) rfl (fun q31 => ?_) (fun q31 => ?_)
          · refine WpG.go tabOK 11 [(2, .bool false)] rfl ⟨rfl, trivial⟩ ?_
            -- return 4, path FFFFT
            exact WpG.ret tabOK (L' := []) (.tmp rfl .nil) (.cons _ .slnil) ⟨congrArg Value.bool (by simp only [mayF, decide_eq_false q7, decide_eq_false q13, decide_eq_false q19, decide_eq_false q24, q31, Bool.not_false, Bool.not_true, Bool.true_and, Bool.false_and, Bool.and_false]), rfl⟩
          · refine WpG.go tabOK 1 [(1, .pointer (some ⟨b1, 0, none⟩)), (31, .bool false), (32, .pointer (some ⟨b1, 0, none⟩))] rfl ⟨rfl, rfl, rfl, trivial⟩ ?_
            refine WpG.y rfl rfl rfl rfl (RunY.loadBox (ci := 0) tabOK rfl rfl rfl rfl) ?_
            refine WpG.callS rfl rfl rfl rfl rfl rfl (Hp.le.refl _) (in_calls r_f_0) ?_
            refine WpG.go tabOK 3 [(1, .pointer (some ⟨b1, 0, none⟩)), (36, .bool (!(List.all f.params numOK)))] rfl ⟨rfl, rfl, trivial⟩ ?_
            refine WpG.caseBn (t := 36) rfl (fun q36 => ?_) (fun q36 => ?_)
            · refine WpG.go tabOK 5 [(2, .bool false)] rfl ⟨rfl, trivial⟩ ?_
              -- return 5, path FFFFFT
              exact WpG.ret tabOK (L' := []) (.tmp rfl .nil) (.cons _ .slnil) ⟨congrArg Value.bool (by simp only [mayF, decide_eq_false q7, decide_eq_false q13, decide_eq_false q19, decide_eq_false q24, q31, q36, Bool.not_false, Bool.not_true, Bool.true_and, Bool.false_and, Bool.and_false]), rfl⟩
            · refine WpG.go tabOK 5 [(37, .pointer (some ⟨b1, 2, none⟩))] rfl ⟨rfl, trivial⟩ ?_
              refine WpG.y rfl rfl rfl rfl (RunY.loadBox (ci := 0) tabOK rfl rfl rfl rfl) ?_
              refine WpG.callS rfl rfl rfl rfl rfl rfl (Hp.le.refl _) (ContainsFunc_block r_f_2 (p := fun b => !blockOK b) (fun x _ cs rd => May1_calls rd)) ?_
              refine WpG.go tabOK 3 [(2, .bool (!(f.blocks.any fun b => !blockOK b)))] rfl ⟨rfl, trivial⟩ ?_
              -- return 6, path FFFFFF
              exact WpG.ret tabOK (L' := []) (.tmp rfl .nil) (.cons _ .slnil) ⟨congrArg Value.bool (by simp only [mayF, decide_eq_false q7, decide_eq_false q13, decide_eq_false q19, decide_eq_false q24, q31, q36, Bool.not_false, Bool.true_and]; exact any_not _ _), rfl⟩
end Go.Proofs.YtdjemlkllbhdlaaGreat

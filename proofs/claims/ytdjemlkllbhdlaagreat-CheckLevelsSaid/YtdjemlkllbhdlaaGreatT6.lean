/- The walks of graphs. -/
import Derived.Test.YtdjemlkllbhdlaaGreatT5
import Derived.Test.YtdjemlkllbhdlaaGreatSpec3
set_option linter.unusedVariables false
set_option linter.unusedSimpArgs false
namespace Go.Proofs.YtdjemlkllbhdlaaGreat
open Go Go.RowKit
theorem IndexFunc_list {H : Hp} {A : Option Addr} {c : Nat} {l : List (List Int)} (hl : RdS H A l) {g : Nat} {first cap : Array Value} {p : List Int → Bool} (hf : ∀ x, x ∈ l → ∀ A c, x.length ≤ c → RdS H A x → CallG Tryz.prog g (first.toList ++ ([.slice A x.length c] ++ cap.toList)) H [] fun u _ L' => u = .bool (p x) ∧ L' = []) : CallG Tryz.prog 118 [.slice A l.length c, .func (.func g) first cap] H [] (fun v _ L' => v = .int .i64 (idxFrom p l 0) ∧ L' = []) := by
  have bl := hl.1
  refine CallG.of Tryz.func118 rfl rfl rfl fun w0 => ?_
  change WpG _ _ _ _ _ _ [(0, .slice A l.length c), (1, .func (.func g) first cap)] _ _ _
  refine WpG.go tabOK 13 [(0, .slice A l.length c), (1, .func (.func g) first cap), (7, .int .i64 (l.length : Int)), (8, .int .i64 0)] rfl ⟨rfl, rfl, rfl, rfl, trivial⟩ ?_
  refine WpG.ind (σ := Int) (fun z_ => (l.length - z_).toNat) (fun z_ => [(0, .slice A l.length c), (1, .func (.func g) first cap), (7, .int .i64 (l.length : Int)), (8, .int .i64 z_)]) (fun z_ => H) (fun z_ => []) (fun z_ => 0 ≤ z_ ∧ z_ ≤ l.length ∧ idxFrom p l 0 = idxFrom p (l.drop z_.toNat) z_) ?_ (0) ⟨by omega, by omega, rfl⟩
  intro i inv ih1
  change WpG _ _ _ _ _ _ [(0, .slice A l.length c), (1, .func (.func g) first cap), (7, .int .i64 (l.length : Int)), (8, .int .i64 i)] H [] _
  replace inv : 0 ≤ i ∧ i ≤ l.length ∧ idxFrom p l 0 = idxFrom p (l.drop i.toNat) i := inv
  obtain ⟨i0, i1, i2⟩ := inv
  refine WpG.go tabOK 5 [(0, .slice A l.length c), (1, .func (.func g) first cap), (7, .int .i64 (l.length : Int)), (8, .int .i64 i), (9, .bool (decide (i < (l.length : Int))))] rfl ⟨rfl, rfl, rfl, rfl, rfl, trivial⟩ ?_
  refine WpG.caseD (t := 9) rfl (fun q9 => ?_) (fun q9 => ?_)
  · refine WpG.go tabOK 14 [(0, .slice A l.length c), (1, .func (.func g) first cap), (5, .int .i64 i), (7, .int .i64 (l.length : Int)), (8, .int .i64 i), (11, .func (.func g) first cap), (12, .slice A l.length c), (13, .int .i64 i)] rfl ⟨rfl, rfl, rfl, rfl, rfl, rfl, rfl, rfl, trivial⟩ ?_
    refine WpG.indexR tabOK rfl rfl rfl rfl rfl rfl rfl rfl rfl hl (by omega) (by omega) ?_
    rintro x1 hx1 b1 o1 _ ⟨A1, c1, rfl, u1, r1⟩ hc1
    refine WpG.y rfl rfl rfl rfl (RunY.loadH tabOK hc1 (Hp.le.refl _) rfl rfl rfl rfl) ?_
    refine WpG.callS rfl rfl rfl rfl rfl rfl (Hp.le.refl _) (hf x1 (by rw [hx1]; exact nth_mem i0 q9) _ _ u1 r1) ?_
    refine WpG.go tabOK 1 [(0, .slice A l.length c), (1, .func (.func g) first cap), (5, .int .i64 i), (7, .int .i64 (l.length : Int)), (8, .int .i64 i), (16, .bool (p x1))] rfl ⟨rfl, rfl, rfl, rfl, rfl, rfl, trivial⟩ ?_
    refine WpG.caseB (t := 16) rfl (fun q16 => ?_) (fun q16 => ?_)
    · refine WpG.go tabOK 6 [(4, .int .i64 i)] rfl ⟨rfl, trivial⟩ ?_
      -- return 0, path L1TT
      exact WpG.ret tabOK (L' := []) (.tmp rfl .nil) .slnil ⟨congrArg (Value.int .i64) (by clear ih1; rw [i2, drop_nth i0 q9, ← hx1]; simp only [idxFrom]; rw [if_pos q16]), rfl⟩
    · refine WpG.go tabOK 5 [(0, .slice A l.length c), (1, .func (.func g) first cap), (7, .int .i64 (l.length : Int)), (18, .int .i64 (i + 1))] rfl ⟨rfl, rfl, rfl, (wrk (x := i + 1) (by omega) (by omega)), trivial⟩ ?_
      refine WpG.go tabOK 3 [(0, .slice A l.length c), (1, .func (.func g) first cap), (7, .int .i64 (l.length : Int)), (8, .int .i64 (i + 1))] rfl ⟨rfl, rfl, rfl, rfl, trivial⟩ ?_
      refine WpG.weaken (G := [(0, .slice A l.length c), (1, .func (.func g) first cap), (7, .int .i64 (l.length : Int)), (8, .int .i64 (i + 1))]) (Known.all ⟨rfl, rfl, rfl, rfl, trivial⟩) (ih1 (i + 1) ?_ ?_)
      · show (l.length - (i + 1)).toNat < (l.length - i).toNat
        omega
      · show 0 ≤ (i + 1) ∧ (i + 1) ≤ l.length ∧ idxFrom p l 0 = idxFrom p (l.drop (i + 1).toNat) (i + 1)
        -- back 0 of loop 1, path L1TF
        clear ih1
        refine ⟨by omega, by omega, ?_⟩
        rw [i2, drop_nth i0 q9, toNat_succ i0, ← hx1]; simp only [idxFrom]; rw [if_neg (by simp [q16])]
  · refine WpG.go tabOK 6 [(4, .int .i64 (-1))] rfl ⟨rfl, trivial⟩ ?_
    -- return 1, path L1F
    exact WpG.ret tabOK (L' := []) (.tmp rfl .nil) .slnil ⟨congrArg (Value.int .i64) (by clear ih1; rw [i2, drop_end i0 q9]; rfl), rfl⟩

theorem ContainsFunc_list {H : Hp} {A : Option Addr} {c : Nat} {l : List (List Int)} (hl : RdS H A l) {g : Nat} {first cap : Array Value} {p : List Int → Bool} (hf : ∀ x, x ∈ l → ∀ A c, x.length ≤ c → RdS H A x → CallG Tryz.prog g (first.toList ++ ([.slice A x.length c] ++ cap.toList)) H [] fun u _ L' => u = .bool (p x) ∧ L' = []) : CallG Tryz.prog 100 [.slice A l.length c, .func (.func g) first cap] H [] (fun v _ L' => v = .bool (l.any p) ∧ L' = []) := by
  refine CallG.of Tryz.func100 rfl rfl rfl fun w0 => ?_
  change WpG _ _ _ _ _ _ [(0, .slice A l.length c), (1, .func (.func g) first cap)] _ _ _
  refine WpG.go tabOK 8 [(5, .slice A l.length c), (6, .func (.func g) first cap)] rfl ⟨rfl, rfl, trivial⟩ ?_
  refine WpG.callS rfl rfl rfl rfl rfl rfl (Hp.le.refl _) (IndexFunc_list hl hf) ?_
  refine WpG.go tabOK 3 [(4, .bool (decide ((idxFrom p l 0) ≥ 0)))] rfl ⟨rfl, trivial⟩ ?_
  -- return 0, path 
  exact WpG.ret tabOK (L' := []) (.tmp rfl .nil) .slnil ⟨congrArg Value.bool (by rw [Bool.eq_iff_iff, decide_eq_true_iff]; exact idxFrom_ge p l 0 (by omega)), rfl⟩

theorem preds_calls {H : Hp} {A : Option Addr} {c : Nat} {s : List (List Int)} (hs : RdS H A s) (hn : s.length ≤ 64) (hb : ∀ r ∈ s, r.length ≤ 64 ∧ ∀ t ∈ r, 0 ≤ t ∧ t < s.length) : CallG Tryz.prog 104 [.slice A s.length c] H [] (fun v H' L' => ∃ A c, v = .slice A (predsD s).length c ∧ (predsD s).length ≤ c ∧ RdS H' A (predsD s) ∧ L' = []) := by
  refine CallG.of Tryz.func104 rfl rfl rfl fun w0 => ?_
  change WpG _ _ _ _ _ _ [(0, .slice A s.length c)] _ _ _
  refine WpG.go tabOK 8 [(0, .slice A s.length c), (9, .int .i64 (s.length : Int))] rfl ⟨rfl, rfl, trivial⟩ ?_
  refine WpG.makeSlice (n := s.length) tabOK rfl rfl rfl rfl rfl rfl rfl rfl rfl (by omega) (fun b1 => ?_)
  refine WpG.go tabOK 11 [(3, .slice (some ⟨b1, 0, none⟩) s.length s.length), (11, .slice A s.length c), (12, .int .i64 (s.length : Int)), (13, .int .i64 0)] rfl ⟨rfl, rfl, rfl, rfl, trivial⟩ ?_
  refine WpG.ownNils 3 s.length (WpG.permL (L' := (Chunk.own 22 1 (some ⟨b1, 0, none⟩) s.length s.length (List.replicate s.length (.slice none 0 0)) :: (List.replicate s.length Rw.nil).map (Rw.ch 3))) (List.perm_append_comm (l₁ := [Chunk.own 22 1 (some ⟨b1, 0, none⟩) s.length s.length (List.replicate s.length (.slice none 0 0))]) (l₂ := (List.replicate s.length Rw.nil).map (Rw.ch 3))) ?_)
  refine WpG.setL (L' := (Chunk.own 22 1 (some ⟨b1, 0, none⟩) s.length s.length ((List.replicate s.length Rw.nil).map Rw.val) :: (List.replicate s.length Rw.nil).map (Rw.ch 3))) (by rw [List.map_replicate (f := Rw.val)]; rfl) ?_
  refine WpG.ind (σ := Int × (List (Int × Int)) × List Rw) (fun z_ => (s.length - z_.1).toNat) (fun z_ => [(3, .slice (some ⟨b1, 0, none⟩) s.length s.length), (11, .slice A s.length c), (12, .int .i64 (s.length : Int)), (13, .int .i64 z_.1)]) (fun z_ => H) (fun z_ => (Chunk.own 22 1 (some ⟨b1, 0, none⟩) s.length s.length (z_.2.2.map Rw.val) :: z_.2.2.map (Rw.ch 3))) (fun z_ => 0 ≤ z_.1 ∧ z_.1 ≤ s.length ∧ edgesFrom 0 s = z_.2.1 ++ edgesFrom z_.1 (s.drop z_.1.toNat) ∧ z_.2.2.map Rw.xs = (List.range s.length).map (predsOf z_.2.1) ∧ (z_.2.1.length : Int) ≤ z_.1 * 64 ∧ ∀ e ∈ z_.2.1, I64 e.1) ?_ (0, [], List.replicate s.length Rw.nil) ⟨by omega, by omega, rfl, preds_start _, by simp, by simp⟩
  rintro ⟨i, E, rs⟩ inv ih1
  change WpG _ _ _ _ _ _ [(3, .slice (some ⟨b1, 0, none⟩) s.length s.length), (11, .slice A s.length c), (12, .int .i64 (s.length : Int)), (13, .int .i64 i)] H (Chunk.own 22 1 (some ⟨b1, 0, none⟩) s.length s.length (rs.map Rw.val) :: rs.map (Rw.ch 3)) _
  replace inv : 0 ≤ i ∧ i ≤ s.length ∧ edgesFrom 0 s = E ++ edgesFrom i (s.drop i.toNat) ∧ rs.map Rw.xs = (List.range s.length).map (predsOf E) ∧ (E.length : Int) ≤ i * 64 ∧ ∀ e ∈ E, I64 e.1 := inv
  obtain ⟨i0, i1, i2, i3, i4, i5⟩ := inv
  refine WpG.go tabOK 5 [(3, .slice (some ⟨b1, 0, none⟩) s.length s.length), (11, .slice A s.length c), (12, .int .i64 (s.length : Int)), (13, .int .i64 i), (14, .bool (decide (i < (s.length : Int))))] rfl ⟨rfl, rfl, rfl, rfl, rfl, trivial⟩ ?_
  refine WpG.caseD (t := 14) rfl (fun q14 => ?_) (fun q14 => ?_)
  · refine WpG.go tabOK 7 [(3, .slice (some ⟨b1, 0, none⟩) s.length s.length), (11, .slice A s.length c), (12, .int .i64 (s.length : Int)), (13, .int .i64 i), (15, .int .i64 i)] rfl ⟨rfl, rfl, rfl, rfl, rfl, trivial⟩ ?_
    refine WpG.indexR tabOK rfl rfl rfl rfl rfl rfl rfl rfl rfl hs (by omega) (by omega) ?_
    rintro x3 hx3 b3 o3 _ ⟨A3, c3, rfl, u3, r3⟩ hc3
    refine WpG.y rfl rfl rfl rfl (RunY.loadH tabOK hc3 (Hp.le.refl _) rfl rfl rfl rfl) ?_
    refine WpG.go tabOK 11 [(3, .slice (some ⟨b1, 0, none⟩) s.length s.length), (4, .int .i64 i), (11, .slice A s.length c), (12, .int .i64 (s.length : Int)), (13, .int .i64 i), (18, .slice A3 x3.length c3), (19, .int .i64 (x3.length : Int)), (20, .int .i64 0)] rfl ⟨rfl, rfl, rfl, rfl, rfl, rfl, rfl, rfl, trivial⟩ ?_
    refine WpG.ind (σ := Int × (List (Int × Int)) × List Rw) (fun z_ => (x3.length - z_.1).toNat) (fun z_ => [(3, .slice (some ⟨b1, 0, none⟩) s.length s.length), (4, .int .i64 i), (11, .slice A s.length c), (12, .int .i64 (s.length : Int)), (13, .int .i64 i), (18, .slice A3 x3.length c3), (19, .int .i64 (x3.length : Int)), (20, .int .i64 z_.1)]) (fun z_ => H) (fun z_ => (Chunk.own 22 1 (some ⟨b1, 0, none⟩) s.length s.length (z_.2.2.map Rw.val) :: z_.2.2.map (Rw.ch 3))) (fun z_ => 0 ≤ z_.1 ∧ z_.1 ≤ x3.length ∧ edgesFrom 0 s = z_.2.1 ++ ((x3.drop z_.1.toNat).map (fun t => (i, t)) ++ edgesFrom (i + 1) (s.drop (i + 1).toNat)) ∧ z_.2.2.map Rw.xs = (List.range s.length).map (predsOf z_.2.1) ∧ (z_.2.1.length : Int) ≤ i * 64 + z_.1 ∧ ∀ e ∈ z_.2.1, I64 e.1) ?_ (0, E, rs) ⟨by omega, by omega, by rw [i2, edges_drop i0 q14, ← hx3]; rfl, i3, by simpa using i4, i5⟩
    rintro ⟨j, E, rs⟩ inv ih2
    change WpG _ _ _ _ _ _ [(3, .slice (some ⟨b1, 0, none⟩) s.length s.length), (4, .int .i64 i), (11, .slice A s.length c), (12, .int .i64 (s.length : Int)), (13, .int .i64 i), (18, .slice A3 x3.length c3), (19, .int .i64 (x3.length : Int)), (20, .int .i64 j)] H (Chunk.own 22 1 (some ⟨b1, 0, none⟩) s.length s.length (rs.map Rw.val) :: rs.map (Rw.ch 3)) _
    replace inv : 0 ≤ j ∧ j ≤ x3.length ∧ edgesFrom 0 s = E ++ ((x3.drop j.toNat).map (fun t => (i, t)) ++ edgesFrom (i + 1) (s.drop (i + 1).toNat)) ∧ rs.map Rw.xs = (List.range s.length).map (predsOf E) ∧ (E.length : Int) ≤ i * 64 + j ∧ ∀ e ∈ E, I64 e.1 := inv
    obtain ⟨j0, j1, j2, j3, j4, j5⟩ := inv
    have hb1 := hb x3 (hx3 ▸ nth_mem i0 q14)
    have b2 := hb1.2
    refine WpG.go tabOK 5 [(3, .slice (some ⟨b1, 0, none⟩) s.length s.length), (4, .int .i64 i), (11, .slice A s.length c), (12, .int .i64 (s.length : Int)), (13, .int .i64 i), (18, .slice A3 x3.length c3), (19, .int .i64 (x3.length : Int)), (20, .int .i64 j), (21, .bool (decide (j < (x3.length : Int))))] rfl ⟨rfl, rfl, rfl, rfl, rfl, rfl, rfl, rfl, rfl, trivial⟩ ?_
    refine WpG.caseD (t := 21) rfl (fun q21 => ?_) (fun q21 => ?_)
    · refine WpG.go tabOK 6 [(3, .slice (some ⟨b1, 0, none⟩) s.length s.length), (4, .int .i64 i), (11, .slice A s.length c), (12, .int .i64 (s.length : Int)), (13, .int .i64 i), (18, .slice A3 x3.length c3), (19, .int .i64 (x3.length : Int)), (20, .int .i64 j)] rfl ⟨rfl, rfl, rfl, rfl, rfl, rfl, rfl, rfl, trivial⟩ ?_
      refine WpG.indexR tabOK rfl rfl rfl rfl rfl rfl rfl rfl rfl r3 (by omega) (by omega) ?_
      rintro x4 hx4 b4 o4 _ ⟨rfl, k4⟩ hc4
      refine WpG.y rfl rfl rfl rfl (RunY.loadH tabOK hc4 (Hp.le.refl _) rfl rfl rfl rfl) ?_
      refine WpG.go tabOK 7 [(3, .slice (some ⟨b1, 0, none⟩) s.length s.length), (4, .int .i64 i), (11, .slice A s.length c), (12, .int .i64 (s.length : Int)), (13, .int .i64 i), (18, .slice A3 x3.length c3), (19, .int .i64 (x3.length : Int)), (20, .int .i64 j), (24, .slice (some ⟨b1, 0, none⟩) s.length s.length), (25, .int .i64 x4), (26, .slice (some ⟨b1, 0, none⟩) s.length s.length), (27, .int .i64 x4)] rfl ⟨rfl, rfl, rfl, rfl, rfl, rfl, rfl, rfl, rfl, rfl, rfl, rfl, trivial⟩ ?_
      refine WpG.y rfl rfl rfl rfl (RunY.indexAddr tabOK rfl rfl rfl rfl rfl (b2 _ (hx4 ▸ nth_mem j0 q21)).1 (b2 _ (hx4 ▸ nth_mem j0 q21)).2) ?_
      obtain ⟨r, hr, hrx⟩ := row_of j3 (b2 _ (hx4 ▸ nth_mem j0 q21)).1 (b2 _ (hx4 ▸ nth_mem j0 q21)).2
      refine WpG.y rfl rfl rfl rfl (RunY.loadOwn (ci := 0) (cs := [Rw.val r]) tabOK rfl rfl rfl rfl rfl (rows_cell hr)) ?_
      refine WpG.go tabOK 1 [(3, .slice (some ⟨b1, 0, none⟩) s.length s.length), (4, .int .i64 i), (11, .slice A s.length c), (12, .int .i64 (s.length : Int)), (13, .int .i64 i), (18, .slice A3 x3.length c3), (19, .int .i64 (x3.length : Int)), (20, .int .i64 j), (24, .slice (some ⟨b1, 0, none⟩) s.length s.length), (25, .int .i64 x4), (29, .slice r.A r.xs.length r.c), (30, .int .i64 i)] rfl ⟨rfl, rfl, rfl, rfl, rfl, rfl, rfl, rfl, rfl, rfl, rfl, rfl, trivial⟩ ?_
      refine WpG.buildSlice (xs := [.int .i64 i]) tabOK rfl rfl rfl rfl rfl rfl rfl rfl rfl rfl (fun b5 => ?_)
      refine WpG.append (ci := x4.toNat + 2) (xs := r.xs.map iv) tabOK rfl rfl rfl rfl rfl rfl rfl rfl rfl (rows_ch hr _ _) rfl rfl (Src.own (ci := 0) rfl) (by have := predsOf_len E x4.toNat; rw [hrx]; omega) (fun A' c' => ?_)
      obtain ⟨rs', hrs⟩ : ∃ rs', rs' = rs.set x4.toNat ⟨A', c', r.xs ++ [i]⟩ := ⟨_, rfl⟩
      refine WpG.setL (L' := (Chunk.own 3 1 (some ⟨b5, 0, none⟩) 1 1 [.int .i64 i] :: Chunk.own 22 1 (some ⟨b1, 0, none⟩) s.length s.length (rs.map Rw.val) :: rs'.map (Rw.ch 3))) (by rw [← rows_set _ _ hrs (n := r.xs.length + 1) (by simp), List.map_append]; rfl) ?_
      refine WpG.dropL (L' := (Chunk.own 22 1 (some ⟨b1, 0, none⟩) s.length s.length (rs.map Rw.val) :: rs'.map (Rw.ch 3))) (.cons _ (List.Sublist.refl _)) ?_
      refine WpG.y rfl rfl rfl rfl (RunY.indexAddr tabOK rfl rfl rfl rfl rfl (b2 _ (hx4 ▸ nth_mem j0 q21)).1 (b2 _ (hx4 ▸ nth_mem j0 q21)).2) ?_
      refine WpG.storeOwn (ci := 0) tabOK rfl rfl rfl rfl rfl rfl rfl rfl (putAt_one (by simp only [List.length_map]; have := (List.getElem?_eq_some_iff.1 hr).1; show 0 + x4.toNat * 1 < _; omega)) ?_
      refine WpG.setL (L' := (Chunk.own 22 1 (some ⟨b1, 0, none⟩) s.length s.length (rs'.map Rw.val) :: rs'.map (Rw.ch 3))) (by rw [← rows_vals hrs (n := r.xs.length + 1) (by simp)]; rfl) ?_
      refine WpG.go tabOK 4 [(3, .slice (some ⟨b1, 0, none⟩) s.length s.length), (4, .int .i64 i), (11, .slice A s.length c), (12, .int .i64 (s.length : Int)), (13, .int .i64 i), (18, .slice A3 x3.length c3), (19, .int .i64 (x3.length : Int)), (34, .int .i64 (j + 1))] rfl ⟨rfl, rfl, rfl, rfl, rfl, rfl, rfl, (wrk (x := j + 1) (by omega) (by omega)), trivial⟩ ?_
      refine WpG.go tabOK 3 [(3, .slice (some ⟨b1, 0, none⟩) s.length s.length), (4, .int .i64 i), (11, .slice A s.length c), (12, .int .i64 (s.length : Int)), (13, .int .i64 i), (18, .slice A3 x3.length c3), (19, .int .i64 (x3.length : Int)), (20, .int .i64 (j + 1))] rfl ⟨rfl, rfl, rfl, rfl, rfl, rfl, rfl, rfl, trivial⟩ ?_
      refine WpG.weaken (G := [(3, .slice (some ⟨b1, 0, none⟩) s.length s.length), (4, .int .i64 i), (11, .slice A s.length c), (12, .int .i64 (s.length : Int)), (13, .int .i64 i), (18, .slice A3 x3.length c3), (19, .int .i64 (x3.length : Int)), (20, .int .i64 (j + 1))]) (Known.all ⟨rfl, rfl, rfl, rfl, rfl, rfl, rfl, rfl, trivial⟩) (ih2 (j + 1, E ++ [(i, x4)], rs') ?_ ?_)
      · show (x3.length - (j + 1)).toNat < (x3.length - j).toNat
        omega
      · show 0 ≤ (j + 1) ∧ (j + 1) ≤ x3.length ∧ edgesFrom 0 s = (E ++ [(i, x4)]) ++ ((x3.drop (j + 1).toNat).map (fun t => (i, t)) ++ edgesFrom (i + 1) (s.drop (i + 1).toNat)) ∧ rs'.map Rw.xs = (List.range s.length).map (predsOf (E ++ [(i, x4)])) ∧ ((E ++ [(i, x4)]).length : Int) ≤ i * 64 + (j + 1) ∧ ∀ e ∈ (E ++ [(i, x4)]), I64 e.1
        -- back 0 of loop 2, path L1TL2T
        clear ih1 ih2
        refine ⟨by omega, by omega, ?_, preds_step j3 hr (b2 _ (hx4 ▸ nth_mem j0 q21)).1 hrs, by simp only [List.length_append, List.length_cons, List.length_nil]; omega, ?_⟩
        · rw [j2, drop_nth j0 q21, ← hx4, toNat_succ j0, List.map_cons, List.append_assoc]; rfl
        · intro e he; rcases List.mem_append.1 he with h | h
          · exact j5 e h
          · rw [List.mem_singleton.1 h]; exact ⟨by omega, by omega⟩
    · refine WpG.go tabOK 5 [(3, .slice (some ⟨b1, 0, none⟩) s.length s.length), (11, .slice A s.length c), (12, .int .i64 (s.length : Int)), (35, .int .i64 (i + 1))] rfl ⟨rfl, rfl, rfl, (wrk (x := i + 1) (by omega) (by omega)), trivial⟩ ?_
      refine WpG.go tabOK 3 [(3, .slice (some ⟨b1, 0, none⟩) s.length s.length), (11, .slice A s.length c), (12, .int .i64 (s.length : Int)), (13, .int .i64 (i + 1))] rfl ⟨rfl, rfl, rfl, rfl, trivial⟩ ?_
      refine WpG.weaken (G := [(3, .slice (some ⟨b1, 0, none⟩) s.length s.length), (11, .slice A s.length c), (12, .int .i64 (s.length : Int)), (13, .int .i64 (i + 1))]) (Known.all ⟨rfl, rfl, rfl, rfl, trivial⟩) (ih1 (i + 1, E, rs) ?_ ?_)
      · show (s.length - (i + 1)).toNat < (s.length - i).toNat
        omega
      · show 0 ≤ (i + 1) ∧ (i + 1) ≤ s.length ∧ edgesFrom 0 s = E ++ edgesFrom (i + 1) (s.drop (i + 1).toNat) ∧ rs.map Rw.xs = (List.range s.length).map (predsOf E) ∧ (E.length : Int) ≤ (i + 1) * 64 ∧ ∀ e ∈ E, I64 e.1
        -- back 0 of loop 1, path L1TL2F
        clear ih1 ih2
        exact ⟨by omega, by omega, by rw [j2, drop_end j0 q21]; rfl, j3, by omega, j5⟩
  · refine WpG.go tabOK 7 [(2, .slice (some ⟨b1, 0, none⟩) s.length s.length)] rfl ⟨rfl, trivial⟩ ?_
    refine WpG.permL (L' := rs.map (Rw.ch 3) ++ [Chunk.own 22 1 (some ⟨b1, 0, none⟩) s.length s.length (rs.map Rw.val)]) (List.perm_append_comm (l₁ := rs.map (Rw.ch 3)) (l₂ := [Chunk.own 22 1 (some ⟨b1, 0, none⟩) s.length s.length (rs.map Rw.val)])) ?_
    refine WpG.freezeRows 3 rs (rows_all i3 i5 (by omega)) (fun Hr hHr hR => ?_)
    refine WpG.ownCap (ci := 0) rfl (fun uz7 => ?_)
    refine WpG.freezeOwn (ci := 0) rfl (fun H7 hH7 fz7 => ?_)
    have rz7 : RdS H7 (some ⟨b1, 0, none⟩) (rs.map Rw.xs) := RdS.of_own (H := Hr) (show RdL Hr (rs.map Rw.val) (rs.map Rw.xs) from RdL_rows rs hR) ((by rw [i3]; simp)) (by rw [i3]; simp; omega) hH7 fz7
    refine WpG.setL (L' := []) rfl ?_
    -- return 0, path L1F
    exact WpG.ret tabOK (L' := []) (.tmp rfl .nil) .slnil (preds_ret (by rw [i3, predsD, i2, drop_end i0 q14]; simp [edgesFrom]) (by rw [i3]; simp) uz7 rz7)

theorem Clone_calls {H : Hp} {A : Option Addr} {c : Nat} {l : List Int} (hl : RdS H A l) (hn : l.length ≤ 1048576) : CallG Tryz.prog 103 [.slice A l.length c] H [] (fun v H' L' => H' = H ∧ ∃ A' c', v = .slice A' l.length c' ∧ L' = [Chunk.own 3 1 A' c' l.length (l.map iv)]) := by
  refine CallG.of Tryz.func103 rfl rfl rfl fun w0 => ?_
  change WpG _ _ _ _ _ _ [(0, .slice A l.length c)] _ _ _
  refine WpG.go tabOK 8 [(0, .slice A l.length c), (3, .slice A l.length c)] rfl ⟨rfl, rfl, trivial⟩ ?_
  refine WpG.y rfl rfl rfl rfl (RunY.eqNil tabOK rfl rfl rfl rfl) ?_
  refine WpG.go tabOK 1 [(0, .slice A l.length c), (4, .bool A.isNone)] rfl ⟨rfl, rfl, trivial⟩ ?_
  refine WpG.caseB (t := 4) rfl (fun q4 => ?_) (fun q4 => ?_)
  · refine WpG.go tabOK 5 [(2, .slice none 0 0)] rfl ⟨rfl, trivial⟩ ?_
    refine WpG.ownNil 3 1 ?_
    -- return 0, path T
    exact WpG.ret tabOK (L' := [Chunk.own 3 1 none 0 0 []]) (.tmp rfl .nil) (.cons_cons _ .slnil) ⟨rfl, none, 0, by rw [hl.nil_of q4]; rfl, by rw [hl.nil_of q4]; rfl⟩
  · refine WpG.go tabOK 4 [(0, .slice A l.length c)] rfl ⟨rfl, trivial⟩ ?_
    refine WpG.buildSlice (xs := []) tabOK rfl rfl rfl rfl rfl rfl rfl rfl rfl rfl (fun b1 => ?_)
    refine WpG.go tabOK 1 [(5, .slice (some ⟨b1, 0, none⟩) 0 0), (6, .slice A l.length c)] rfl ⟨rfl, rfl, trivial⟩ ?_
    refine WpG.append (ci := 0) tabOK rfl rfl rfl rfl rfl rfl rfl rfl rfl rfl (by simp) (iv_one _) (Src.ints hl (Hp.le.refl _)) (by omega) (fun A3 c4 => ?_)
    refine WpG.setL (L' := [Chunk.own 3 1 A3 c4 (0 + l.length) ([] ++ l.map iv)]) rfl ?_
    refine WpG.go tabOK 2 [(2, .slice A3 (0 + l.length) c4)] rfl ⟨rfl, trivial⟩ ?_
    -- return 1, path F
    exact WpG.ret tabOK (L' := [Chunk.own 3 1 A3 c4 (0 + l.length) ([] ++ l.map iv)]) (.tmp rfl .nil) (.cons_cons _ .slnil) ⟨rfl, _, _, by rw [Nat.zero_add]; rfl, by rw [Nat.zero_add]; rfl⟩

theorem Make1_calls {H : Hp} {A : Option Addr} {c b : Nat} {l : List Int} (hl : RdS H A l) {n : Int} (hb : HCells H b 0 [.int .i64 n]) : CallG Tryz.prog 101 [.slice A l.length c, .pointer (some ⟨b, 0, none⟩)] H [] (fun v _ L' => v = .bool (!risingD n l (-1)) ∧ L' = []) := by
  refine CallG.of Tryz.func101 rfl rfl rfl fun w0 => ?_
  change WpG _ _ _ _ _ _ [(0, .slice A l.length c), (1, .pointer (some ⟨b, 0, none⟩))] _ _ _
  refine WpG.go tabOK 7 [(1, .pointer (some ⟨b, 0, none⟩)), (4, .slice A l.length c)] rfl ⟨rfl, rfl, trivial⟩ ?_
  refine WpG.y rfl rfl rfl rfl (RunY.loadH tabOK hb (Hp.le.refl _) rfl rfl rfl rfl) ?_
  refine WpG.callS rfl rfl rfl rfl rfl rfl (Hp.le.refl _) (rising_calls hl n) ?_
  refine WpG.go tabOK 3 [(3, .bool (!(risingD n l (-1))))] rfl ⟨rfl, trivial⟩ ?_
  -- return 0, path 
  exact WpG.ret tabOK (L' := []) (.tmp rfl .nil) .slnil ⟨congrArg Value.bool (by rfl), rfl⟩

theorem Make_calls {H : Hp} {A : Option Addr} {c : Nat} {s : List (List Int)} (hs : RdS H A s) : CallG Tryz.prog 84 [.slice A s.length c] H [] (fun v H' L' => ∃ A c A' c', v = .tuple #[.agg #[.slice A (makeD s).1.succ.length c, .slice A' (makeD s).1.pred.length c'], .int .i64 (makeD s).2] ∧ (makeD s).1.succ.length ≤ c ∧ RdS H' A (makeD s).1.succ ∧ (makeD s).1.pred.length ≤ c' ∧ RdS H' A' (makeD s).1.pred ∧ L' = []) := by
  have bs := hs.1
  refine CallG.of Tryz.func84 rfl rfl rfl fun w0 => ?_
  change WpG _ _ _ _ _ _ [(0, .slice A s.length c)] _ _ _
  refine WpG.go tabOK 2 [(0, .slice A s.length c)] rfl ⟨rfl, trivial⟩ ?_
  refine WpG.alloc tabOK rfl rfl rfl rfl rfl (fun b1 => ?_)
  refine WpG.go tabOK 6 [(0, .slice A s.length c), (2, .pointer (some ⟨b1, 0, none⟩)), (9, .int .i64 (s.length : Int))] rfl ⟨rfl, rfl, rfl, trivial⟩ ?_
  refine WpG.alloc tabOK rfl rfl rfl rfl rfl (fun b2 => ?_)
  refine WpG.storeBox (ci := 0) (cs' := [.int .i64 (s.length : Int)]) tabOK rfl rfl rfl rfl rfl rfl rfl rfl rfl ?_
  refine WpG.setL (L' := [Chunk.box b2 [.int .i64 (s.length : Int)] 3, Chunk.box b1 [.slice none 0 0, .slice none 0 0] 65]) rfl ?_
  refine WpG.freezeBox (ci := 0) rfl (fun H3 hH3 hc3 => ?_)
  refine WpG.setL (L' := [Chunk.box b1 [.slice none 0 0, .slice none 0 0] 65]) rfl ?_
  refine WpG.go tabOK 4 [(0, .slice A s.length c), (2, .pointer (some ⟨b1, 0, none⟩)), (4, .pointer (some ⟨b2, 0, none⟩))] rfl ⟨rfl, rfl, rfl, trivial⟩ ?_
  refine WpG.y rfl rfl rfl rfl (RunY.loadH tabOK hc3 (Hp.le.refl _) rfl rfl rfl rfl) ?_
  refine WpG.go tabOK 2 [(0, .slice A s.length c), (2, .pointer (some ⟨b1, 0, none⟩)), (4, .pointer (some ⟨b2, 0, none⟩)), (12, .bool (decide ((s.length : Int) < 1)))] rfl ⟨rfl, rfl, rfl, rfl, trivial⟩ ?_
  refine WpG.caseD (t := 12) rfl (fun q12 => ?_) (fun q12 => ?_)
  · refine WpG.go tabOK 13 [(2, .pointer (some ⟨b1, 0, none⟩)), (21, .agg #[.slice none 0 0, .slice none 0 0])] rfl ⟨rfl, rfl, trivial⟩ ?_
    refine WpG.storeBox (ci := 0) (cs' := [.slice none 0 0, .slice none 0 0]) tabOK rfl rfl rfl rfl rfl rfl rfl rfl rfl ?_
    refine WpG.setL (L' := [Chunk.box b1 [.slice none 0 0, .slice none 0 0] 65]) rfl ?_
    refine WpG.go tabOK 2 [(2, .pointer (some ⟨b1, 0, none⟩)), (3, .int .i64 5)] rfl ⟨rfl, rfl, trivial⟩ ?_
    -- return 0, path T
    exact WpG.ret tabOK (L' := []) (.cell (ci := 0) rfl rfl rfl rfl (.tmp rfl .nil)) (.cons _ .slnil) (Make_no (by simp [makeOK, *]))
  · refine WpG.y rfl rfl rfl rfl (RunY.loadH tabOK hc3 (Hp.le.refl _) rfl rfl rfl rfl) ?_
    refine WpG.go tabOK 3 [(0, .slice A s.length c), (2, .pointer (some ⟨b1, 0, none⟩)), (4, .pointer (some ⟨b2, 0, none⟩)), (16, .bool (decide ((s.length : Int) > 64)))] rfl ⟨rfl, rfl, rfl, rfl, trivial⟩ ?_
    refine WpG.caseD (t := 16) rfl (fun q16 => ?_) (fun q16 => ?_)
    · refine WpG.go tabOK 9 [(2, .pointer (some ⟨b1, 0, none⟩)), (21, .agg #[.slice none 0 0, .slice none 0 0])] rfl ⟨rfl, rfl, trivial⟩ ?_
      refine WpG.storeBox (ci := 0) (cs' := [.slice none 0 0, .slice none 0 0]) tabOK rfl rfl rfl rfl rfl rfl rfl rfl rfl ?_
      refine WpG.setL (L' := [Chunk.box b1 [.slice none 0 0, .slice none 0 0] 65]) rfl ?_
      refine WpG.go tabOK 2 [(2, .pointer (some ⟨b1, 0, none⟩)), (3, .int .i64 5)] rfl ⟨rfl, rfl, trivial⟩ ?_
      -- return 1, path FT
      exact WpG.ret tabOK (L' := []) (.cell (ci := 0) rfl rfl rfl rfl (.tmp rfl .nil)) (.cons _ .slnil) (Make_no (by simp [makeOK, *]))
    · refine WpG.go tabOK 2 [(0, .slice A s.length c), (2, .pointer (some ⟨b1, 0, none⟩)), (4, .pointer (some ⟨b2, 0, none⟩)), (16, .bool false), (17, .slice A s.length c), (18, .func (.func 101) #[] #[.pointer (some ⟨b2, 0, none⟩)])] rfl ⟨rfl, rfl, rfl, rfl, rfl, rfl, trivial⟩ ?_
      refine WpG.callS rfl rfl rfl rfl rfl rfl (Hp.le.refl _) (ContainsFunc_list (hs.mono hH3) (p := fun r => !risingD s.length r (-1)) (fun x _ A c _ hr => Make1_calls hr hc3)) ?_
      refine WpG.go tabOK 2 [(0, .slice A s.length c), (2, .pointer (some ⟨b1, 0, none⟩)), (4, .pointer (some ⟨b2, 0, none⟩)), (20, .bool (s.any fun r => !risingD s.length r (-1)))] rfl ⟨rfl, rfl, rfl, rfl, trivial⟩ ?_
      refine WpG.caseB (t := 20) rfl (fun q20 => ?_) (fun q20 => ?_)
      · refine WpG.go tabOK 4 [(2, .pointer (some ⟨b1, 0, none⟩)), (21, .agg #[.slice none 0 0, .slice none 0 0])] rfl ⟨rfl, rfl, trivial⟩ ?_
        refine WpG.storeBox (ci := 0) (cs' := [.slice none 0 0, .slice none 0 0]) tabOK rfl rfl rfl rfl rfl rfl rfl rfl rfl ?_
        refine WpG.setL (L' := [Chunk.box b1 [.slice none 0 0, .slice none 0 0] 65]) rfl ?_
        refine WpG.go tabOK 2 [(2, .pointer (some ⟨b1, 0, none⟩)), (3, .int .i64 5)] rfl ⟨rfl, rfl, trivial⟩ ?_
        -- return 2, path FFT
        exact WpG.ret tabOK (L' := []) (.cell (ci := 0) rfl rfl rfl rfl (.tmp rfl .nil)) (.cons _ .slnil) (Make_no (by simp only [makeOK, decide_eq_false q12, decide_eq_false q16, Bool.not_false, Bool.true_and]; simpa [any_neg] using q20))
      · have hok : makeOK s = true := by simp only [makeOK, decide_eq_false q12, decide_eq_false q16, Bool.not_false, Bool.true_and]; simpa [any_neg] using q20
        refine WpG.go tabOK 4 [(0, .slice A s.length c), (2, .pointer (some ⟨b1, 0, none⟩)), (4, .pointer (some ⟨b2, 0, none⟩))] rfl ⟨rfl, rfl, rfl, trivial⟩ ?_
        refine WpG.y rfl rfl rfl rfl (RunY.loadH tabOK hc3 (Hp.le.refl _) rfl rfl rfl rfl) ?_
        refine WpG.makeSlice0 (n := s.length) tabOK rfl rfl rfl rfl rfl rfl rfl rfl rfl (by omega) (fun b4 => ?_)
        refine WpG.go tabOK 11 [(2, .pointer (some ⟨b1, 0, none⟩)), (5, .slice (some ⟨b4, 0, none⟩) 0 s.length), (24, .slice A s.length c), (25, .int .i64 (s.length : Int)), (26, .int .i64 0)] rfl ⟨rfl, rfl, rfl, rfl, rfl, trivial⟩ ?_
        refine WpG.ind (σ := Int × Option Addr × Nat × Nat × List Value × Hp) (fun z_ => (s.length - z_.1).toNat) (fun z_ => [(2, .pointer (some ⟨b1, 0, none⟩)), (5, .slice z_.2.1 z_.2.2.1 z_.2.2.2.1), (24, .slice A s.length c), (25, .int .i64 (s.length : Int)), (26, .int .i64 z_.1)]) (fun z_ => z_.2.2.2.2.2) (fun z_ => [Chunk.own 22 1 z_.2.1 z_.2.2.2.1 z_.2.2.1 z_.2.2.2.2.1, Chunk.box b1 [.slice none 0 0, .slice none 0 0] 65]) (fun z_ => 0 ≤ z_.1 ∧ z_.1 ≤ s.length ∧ z_.2.2.1 = z_.1 ∧ H3.le z_.2.2.2.2.2 ∧ RdL z_.2.2.2.2.2 z_.2.2.2.2.1 (s.take z_.1.toNat)) ?_ (0, (some ⟨b4, 0, none⟩), 0, s.length, [], H3) ⟨by omega, by omega, by simp, Hp.le.refl _, rfl⟩
        rintro ⟨i, A5, n5, c5, cs, G⟩ inv ih1
        change WpG _ _ _ _ _ _ [(2, .pointer (some ⟨b1, 0, none⟩)), (5, .slice A5 n5 c5), (24, .slice A s.length c), (25, .int .i64 (s.length : Int)), (26, .int .i64 i)] G [Chunk.own 22 1 A5 c5 n5 cs, Chunk.box b1 [.slice none 0 0, .slice none 0 0] 65] _
        replace inv : 0 ≤ i ∧ i ≤ s.length ∧ n5 = i ∧ H3.le G ∧ RdL G cs (s.take i.toNat) := inv
        obtain ⟨i0, i1, i2, i3, i4⟩ := inv
        refine WpG.go tabOK 5 [(2, .pointer (some ⟨b1, 0, none⟩)), (5, .slice A5 n5 c5), (24, .slice A s.length c), (25, .int .i64 (s.length : Int)), (26, .int .i64 i), (27, .bool (decide (i < (s.length : Int))))] rfl ⟨rfl, rfl, rfl, rfl, rfl, rfl, trivial⟩ ?_
        refine WpG.caseD (t := 27) rfl (fun q27 => ?_) (fun q27 => ?_)
        · refine WpG.go tabOK 6 [(2, .pointer (some ⟨b1, 0, none⟩)), (5, .slice A5 n5 c5), (24, .slice A s.length c), (25, .int .i64 (s.length : Int)), (26, .int .i64 i)] rfl ⟨rfl, rfl, rfl, rfl, rfl, trivial⟩ ?_
          refine WpG.indexR tabOK rfl rfl rfl rfl rfl rfl rfl rfl rfl hs (by omega) (by omega) ?_
          rintro x6 hx6 b6 o6 _ ⟨A6, c6, rfl, u6, r6⟩ hc6
          have hr6 := ((makeOK_rows hok).2.2 x6 (hx6 ▸ nth_mem i0 q27)).1
          refine WpG.y rfl rfl rfl rfl (RunY.loadH tabOK hc6 (hH3.trans i3) rfl rfl rfl rfl) ?_
          refine WpG.go tabOK 5 [(2, .pointer (some ⟨b1, 0, none⟩)), (24, .slice A s.length c), (25, .int .i64 (s.length : Int)), (26, .int .i64 i), (30, .slice A5 n5 c5), (31, .slice A6 x6.length c6)] rfl ⟨rfl, rfl, rfl, rfl, rfl, rfl, trivial⟩ ?_
          refine WpG.call0 rfl rfl rfl rfl rfl rfl (Clone_calls (r6.mono (hH3.trans i3)) (by omega)) ?_
          rintro _ H1 _ - ⟨eH, A7, c7, rfl, rfl⟩
          rw [eH]; clear eH H1
          refine WpG.setL (L' := [Chunk.own 3 1 A7 c7 x6.length (x6.map iv), Chunk.own 22 1 A5 c5 n5 cs, Chunk.box b1 [.slice none 0 0, .slice none 0 0] 65]) rfl ?_
          refine WpG.ownCap (ci := 0) rfl (fun uz8 => ?_)
          refine WpG.freezeOwn (ci := 0) rfl (fun H8 hH8 fz8 => ?_)
          have rz8 : RdS H8 A7 x6 := RdS.of_own (H := G) (show RdL G (x6.map iv) x6 from RdL_ints _ (AllI_of (r6.mono (hH3.trans i3)))) (rfl) (by omega) hH8 fz8
          refine WpG.setL (L' := [Chunk.own 22 1 A5 c5 n5 cs, Chunk.box b1 [.slice none 0 0, .slice none 0 0] 65]) rfl ?_
          refine WpG.buildSlice (xs := [.slice A7 x6.length c7]) tabOK rfl rfl rfl rfl rfl rfl rfl rfl rfl rfl (fun b9 => ?_)
          refine WpG.append (ci := 1) tabOK rfl rfl rfl rfl rfl rfl rfl rfl rfl rfl rfl rfl (Src.own (ci := 0) rfl) (by omega) (fun A11 c12 => ?_)
          refine WpG.dropL (L' := [Chunk.own 22 1 A11 c12 (n5 + 1) (cs ++ [.slice A7 x6.length c7]), Chunk.box b1 [.slice none 0 0, .slice none 0 0] 65]) (.cons _ (.cons_cons _ (.cons_cons _ .slnil))) ?_
          refine WpG.go tabOK 5 [(2, .pointer (some ⟨b1, 0, none⟩)), (5, .slice A11 (n5 + 1) c12), (24, .slice A s.length c), (25, .int .i64 (s.length : Int)), (35, .int .i64 (i + 1))] rfl ⟨rfl, rfl, rfl, rfl, (wrk (x := i + 1) (by omega) (by omega)), trivial⟩ ?_
          refine WpG.go tabOK 3 [(2, .pointer (some ⟨b1, 0, none⟩)), (5, .slice A11 (n5 + 1) c12), (24, .slice A s.length c), (25, .int .i64 (s.length : Int)), (26, .int .i64 (i + 1))] rfl ⟨rfl, rfl, rfl, rfl, rfl, trivial⟩ ?_
          refine WpG.weaken (G := [(2, .pointer (some ⟨b1, 0, none⟩)), (5, .slice A11 (n5 + 1) c12), (24, .slice A s.length c), (25, .int .i64 (s.length : Int)), (26, .int .i64 (i + 1))]) (Known.all ⟨rfl, rfl, rfl, rfl, rfl, trivial⟩) (ih1 (i + 1, A11, n5 + 1, c12, cs ++ [.slice A7 x6.length c7], H8) ?_ ?_)
          · show (s.length - (i + 1)).toNat < (s.length - i).toNat
            omega
          · show 0 ≤ (i + 1) ∧ (i + 1) ≤ s.length ∧ (n5 + 1) = (i + 1) ∧ H3.le H8 ∧ RdL H8 (cs ++ [.slice A7 x6.length c7]) (s.take (i + 1).toNat)
            -- back 0 of loop 1, path FFFL1T
            clear ih1
            exact ⟨by omega, by omega, by omega, i3.trans hH8, by rw [take_snoc_nth i0 q27, ← hx6]; exact (i4.mono hH8).snoc ⟨_, _, rfl, uz8, rz8⟩⟩
        · obtain rfl : n5 = s.length := by omega
          refine WpG.go tabOK 6 [(2, .pointer (some ⟨b1, 0, none⟩)), (36, .slice A5 s.length c5), (37, .slice A5 s.length c5)] rfl ⟨rfl, rfl, rfl, trivial⟩ ?_
          refine WpG.ownCap (ci := 0) rfl (fun uz13 => ?_)
          refine WpG.freezeOwn (ci := 0) rfl (fun H13 hH13 fz13 => ?_)
          have rz13 : RdS H13 A5 s := RdS.of_own (H := G) (show RdL G cs s from by have h := i4; rw [List.take_of_length_le (by omega)] at h; exact h) ((by omega)) (by omega) hH13 fz13
          refine WpG.setL (L' := [Chunk.box b1 [.slice none 0 0, .slice none 0 0] 65]) rfl ?_
          refine WpG.call0 rfl rfl rfl rfl rfl rfl (preds_calls rz13 (makeOK_rows hok).2.1 (makeOK_rows hok).2.2) ?_
          rintro _ H14 _ hH14 ⟨A14, c14, rfl, u14, r14, rfl⟩
          refine WpG.setL (L' := [Chunk.box b1 [.slice none 0 0, .slice none 0 0] 65]) rfl ?_
          refine WpG.go tabOK 1 [(2, .pointer (some ⟨b1, 0, none⟩)), (39, .agg #[.slice A5 s.length c5, .slice A14 ((predsD s).length) c14])] rfl ⟨rfl, rfl, trivial⟩ ?_
          refine WpG.storeBox (ci := 0) (cs' := [.slice A5 s.length c5, .slice A14 ((predsD s).length) c14]) tabOK rfl rfl rfl rfl rfl rfl rfl rfl rfl ?_
          refine WpG.setL (L' := [Chunk.box b1 [.slice A5 s.length c5, .slice A14 ((predsD s).length) c14] 65]) rfl ?_
          refine WpG.go tabOK 2 [(2, .pointer (some ⟨b1, 0, none⟩)), (3, .int .i64 0)] rfl ⟨rfl, rfl, trivial⟩ ?_
          -- return 3, path FFFL1F
          exact WpG.ret tabOK (L' := []) (.cell (ci := 0) rfl rfl rfl rfl (.tmp rfl .nil)) (.cons _ .slnil) (by have z := Make_yes hok uz13 (rz13.mono hH14) u14 r14; exact z)

theorem EqualFunc_calls {H : Hp} {A A' : Option Addr} {c c' : Nat} {l m : List (List Int)} (hl : RdS H A l) (hm : RdS H A' m) : CallG Tryz.prog 119 [.slice A l.length c, .slice A' m.length c', .func (.func 56) #[] #[]] H [] (fun v _ L' => v = .bool (eqLL l m) ∧ L' = []) := by
  have bl := hl.1; have bm := hm.1
  refine CallG.of Tryz.func119 rfl rfl rfl fun w0 => ?_
  change WpG _ _ _ _ _ _ [(0, .slice A l.length c), (1, .slice A' m.length c'), (2, .func (.func 56) #[] #[])] _ _ _
  refine WpG.go tabOK 13 [(0, .slice A l.length c), (1, .slice A' m.length c'), (2, .func (.func 56) #[] #[]), (14, .bool ((l.length : Int) != (m.length : Int)))] rfl ⟨rfl, rfl, rfl, rfl, trivial⟩ ?_
  refine WpG.caseN (t := 14) rfl (fun q14 => ?_) (fun q14 => ?_)
  · refine WpG.go tabOK 5 [(6, .bool false)] rfl ⟨rfl, trivial⟩ ?_
    -- return 0, path T
    exact WpG.ret tabOK (L' := []) (.tmp rfl .nil) .slnil ⟨congrArg Value.bool (by exact (eqLL_len (by omega)).symm), rfl⟩
  · refine WpG.go tabOK 11 [(1, .slice A' m.length c'), (2, .func (.func 56) #[] #[]), (15, .slice A l.length c), (16, .int .i64 (l.length : Int)), (17, .int .i64 0)] rfl ⟨rfl, rfl, rfl, rfl, rfl, trivial⟩ ?_
    refine WpG.ind (σ := Int) (fun z_ => (l.length - z_).toNat) (fun z_ => [(1, .slice A' m.length c'), (2, .func (.func 56) #[] #[]), (15, .slice A l.length c), (16, .int .i64 (l.length : Int)), (17, .int .i64 z_)]) (fun z_ => H) (fun z_ => []) (fun z_ => 0 ≤ z_ ∧ z_ ≤ l.length ∧ eqLL l m = eqLL (l.drop z_.toNat) (m.drop z_.toNat)) ?_ (0) ⟨by omega, by omega, rfl⟩
    intro i inv ih1
    change WpG _ _ _ _ _ _ [(1, .slice A' m.length c'), (2, .func (.func 56) #[] #[]), (15, .slice A l.length c), (16, .int .i64 (l.length : Int)), (17, .int .i64 i)] H [] _
    replace inv : 0 ≤ i ∧ i ≤ l.length ∧ eqLL l m = eqLL (l.drop i.toNat) (m.drop i.toNat) := inv
    obtain ⟨i0, i1, i2⟩ := inv
    refine WpG.go tabOK 5 [(1, .slice A' m.length c'), (2, .func (.func 56) #[] #[]), (15, .slice A l.length c), (16, .int .i64 (l.length : Int)), (17, .int .i64 i), (18, .bool (decide (i < (l.length : Int))))] rfl ⟨rfl, rfl, rfl, rfl, rfl, rfl, trivial⟩ ?_
    refine WpG.caseD (t := 18) rfl (fun q18 => ?_) (fun q18 => ?_)
    · refine WpG.go tabOK 7 [(1, .slice A' m.length c'), (2, .func (.func 56) #[] #[]), (15, .slice A l.length c), (16, .int .i64 (l.length : Int)), (17, .int .i64 i), (19, .int .i64 i)] rfl ⟨rfl, rfl, rfl, rfl, rfl, rfl, trivial⟩ ?_
      refine WpG.indexR tabOK rfl rfl rfl rfl rfl rfl rfl rfl rfl hl (by omega) (by omega) ?_
      rintro x1 hx1 b1 o1 _ ⟨A1, c1, rfl, u1, r1⟩ hc1
      refine WpG.y rfl rfl rfl rfl (RunY.loadH tabOK hc1 (Hp.le.refl _) rfl rfl rfl rfl) ?_
      refine WpG.go tabOK 7 [(1, .slice A' m.length c'), (2, .func (.func 56) #[] #[]), (8, .slice A1 x1.length c1), (15, .slice A l.length c), (16, .int .i64 (l.length : Int)), (17, .int .i64 i), (22, .slice A' m.length c'), (23, .int .i64 i)] rfl ⟨rfl, rfl, rfl, rfl, rfl, rfl, rfl, rfl, trivial⟩ ?_
      refine WpG.indexR tabOK rfl rfl rfl rfl rfl rfl rfl rfl rfl hm (by omega) (by omega) ?_
      rintro x2 hx2 b2 o2 _ ⟨A2, c2, rfl, u2, r2⟩ hc2
      refine WpG.y rfl rfl rfl rfl (RunY.loadH tabOK hc2 (Hp.le.refl _) rfl rfl rfl rfl) ?_
      refine WpG.go tabOK 7 [(1, .slice A' m.length c'), (2, .func (.func 56) #[] #[]), (15, .slice A l.length c), (16, .int .i64 (l.length : Int)), (17, .int .i64 i), (26, .func (.func 56) #[] #[]), (27, .slice A1 x1.length c1), (28, .slice A2 x2.length c2)] rfl ⟨rfl, rfl, rfl, rfl, rfl, rfl, rfl, rfl, trivial⟩ ?_
      refine WpG.callS rfl rfl rfl rfl rfl rfl (Hp.le.refl _) (Equal_calls r1 r2) ?_
      refine WpG.go tabOK 2 [(1, .slice A' m.length c'), (2, .func (.func 56) #[] #[]), (15, .slice A l.length c), (16, .int .i64 (l.length : Int)), (17, .int .i64 i), (30, .bool (!(eqL x1 x2)))] rfl ⟨rfl, rfl, rfl, rfl, rfl, rfl, trivial⟩ ?_
      refine WpG.caseBn (t := 30) rfl (fun q30 => ?_) (fun q30 => ?_)
      · refine WpG.go tabOK 5 [(6, .bool false)] rfl ⟨rfl, trivial⟩ ?_
        -- return 1, path FL1TT
        exact WpG.ret tabOK (L' := []) (.tmp rfl .nil) .slnil ⟨congrArg Value.bool (by clear ih1; rw [i2, drop_nth i0 q18, drop_nth i0 (by omega), ← hx1, ← hx2]; simp only [eqLL, q30, Bool.false_and]), rfl⟩
      · refine WpG.go tabOK 5 [(1, .slice A' m.length c'), (2, .func (.func 56) #[] #[]), (15, .slice A l.length c), (16, .int .i64 (l.length : Int)), (31, .int .i64 (i + 1))] rfl ⟨rfl, rfl, rfl, rfl, (wrk (x := i + 1) (by omega) (by omega)), trivial⟩ ?_
        refine WpG.go tabOK 3 [(1, .slice A' m.length c'), (2, .func (.func 56) #[] #[]), (15, .slice A l.length c), (16, .int .i64 (l.length : Int)), (17, .int .i64 (i + 1))] rfl ⟨rfl, rfl, rfl, rfl, rfl, trivial⟩ ?_
        refine WpG.weaken (G := [(1, .slice A' m.length c'), (2, .func (.func 56) #[] #[]), (15, .slice A l.length c), (16, .int .i64 (l.length : Int)), (17, .int .i64 (i + 1))]) (Known.all ⟨rfl, rfl, rfl, rfl, rfl, trivial⟩) (ih1 (i + 1) ?_ ?_)
        · show (l.length - (i + 1)).toNat < (l.length - i).toNat
          omega
        · show 0 ≤ (i + 1) ∧ (i + 1) ≤ l.length ∧ eqLL l m = eqLL (l.drop (i + 1).toNat) (m.drop (i + 1).toNat)
          -- back 0 of loop 1, path FL1TF
          clear ih1
          refine ⟨by omega, by omega, ?_⟩
          rw [i2, drop_nth i0 q18, drop_nth i0 (by omega), ← hx1, ← hx2, toNat_succ i0]; simp only [eqLL, q30, Bool.true_and]
    · refine WpG.go tabOK 6 [(6, .bool true)] rfl ⟨rfl, trivial⟩ ?_
      -- return 2, path FL1F
      exact WpG.ret tabOK (L' := []) (.tmp rfl .nil) .slnil ⟨congrArg Value.bool (by clear ih1; rw [i2, drop_end i0 q18, drop_end i0 (by omega)]; rfl), rfl⟩

theorem gMay_calls {H : Hp} {gr : GraphD} {cs_gr : List Value} (rd_gr : Rdc.rd H cs_gr gr) : CallG Tryz.prog 105 [.agg cs_gr.toArray] H [] (fun v _ L' => v = .bool (mayG gr) ∧ L' = []) := by
  have rd_gr' := rd_gr; obtain ⟨A_gr_0, c_gr_0, A_gr_1, c_gr_1, rfl, u_gr_0, r_gr_0, u_gr_1, r_gr_1⟩ := rd_gr
  refine CallG.of Tryz.func105 rfl rfl rfl fun w0 => ?_
  change WpG _ _ _ _ _ _ [(0, .agg #[.slice A_gr_0 gr.succ.length c_gr_0, .slice A_gr_1 gr.pred.length c_gr_1])] _ _ _
  refine WpG.go tabOK 2 [(0, .agg #[.slice A_gr_0 gr.succ.length c_gr_0, .slice A_gr_1 gr.pred.length c_gr_1])] rfl ⟨rfl, trivial⟩ ?_
  refine WpG.box rfl rfl rfl rfl rfl (fun b1 => ?_)
  refine WpG.go tabOK 5 [(1, .pointer (some ⟨b1, 0, none⟩)), (6, .pointer (some ⟨b1, 0, none⟩))] rfl ⟨rfl, rfl, trivial⟩ ?_
  refine WpG.y rfl rfl rfl rfl (RunY.loadBox (ci := 0) tabOK rfl rfl rfl rfl) ?_
  refine WpG.call0 rfl rfl rfl rfl rfl rfl (Make_calls r_gr_0) ?_
  rintro _ H2 _ hH2 ⟨A2, c2, B2, d2, rfl, ua2, ra2, ub2, rb2, rfl⟩
  refine WpG.setL (L' := [Chunk.box b1 [.slice A_gr_0 gr.succ.length c_gr_0, .slice A_gr_1 gr.pred.length c_gr_1] 65]) rfl ?_
  refine WpG.go tabOK 3 [(1, .pointer (some ⟨b1, 0, none⟩)), (9, .agg #[.slice A2 ((makeD gr.succ).1.succ.length) c2, .slice B2 ((makeD gr.succ).1.pred.length) d2]), (10, .int .i64 ((makeD gr.succ).2))] rfl ⟨rfl, rfl, rfl, trivial⟩ ?_
  refine WpG.alloc tabOK rfl rfl rfl rfl rfl (fun b3 => ?_)
  refine WpG.storeBox (ci := 0) (cs' := [.slice A2 ((makeD gr.succ).1.succ.length) c2, .slice B2 ((makeD gr.succ).1.pred.length) d2]) tabOK rfl rfl rfl rfl rfl rfl rfl rfl rfl ?_
  refine WpG.setL (L' := [Chunk.box b3 [.slice A2 ((makeD gr.succ).1.succ.length) c2, .slice B2 ((makeD gr.succ).1.pred.length) d2] 65, Chunk.box b1 [.slice A_gr_0 gr.succ.length c_gr_0, .slice A_gr_1 gr.pred.length c_gr_1] 65]) rfl ?_
  refine WpG.go tabOK 7 [(1, .pointer (some ⟨b1, 0, none⟩)), (3, .pointer (some ⟨b3, 0, none⟩)), (13, .bool (((makeD gr.succ).2) == 0))] rfl ⟨rfl, rfl, rfl, trivial⟩ ?_
  refine WpG.caseE (t := 13) rfl (fun q13 => ?_) (fun q13 => ?_)
  · refine WpG.go tabOK 1 [(1, .pointer (some ⟨b1, 0, none⟩)), (13, .bool true), (14, .pointer (some ⟨b3, 1, none⟩))] rfl ⟨rfl, rfl, rfl, trivial⟩ ?_
    refine WpG.y rfl rfl rfl rfl (RunY.loadBox (ci := 0) tabOK rfl rfl rfl rfl) ?_
    refine WpG.go tabOK 1 [(13, .bool true), (15, .slice B2 ((makeD gr.succ).1.pred.length) d2), (16, .pointer (some ⟨b1, 1, none⟩))] rfl ⟨rfl, rfl, rfl, trivial⟩ ?_
    refine WpG.y rfl rfl rfl rfl (RunY.loadBox (ci := 1) tabOK rfl rfl rfl rfl) ?_
    refine WpG.callS rfl rfl rfl rfl rfl rfl (Hp.le.refl _) (EqualFunc_calls rb2 (r_gr_1.mono hH2)) ?_
    refine WpG.go tabOK 3 [(2, .bool (eqLL ((makeD gr.succ).1.pred) gr.pred))] rfl ⟨rfl, trivial⟩ ?_
    -- return 0, path T
    exact WpG.ret tabOK (L' := []) (.tmp rfl .nil) (.cons _ (.cons _ .slnil)) ⟨congrArg Value.bool (by simp [mayG, *]), rfl⟩
  · refine WpG.go tabOK 8 [(2, .bool false)] rfl ⟨rfl, trivial⟩ ?_
    -- return 1, path F
    exact WpG.ret tabOK (L' := []) (.tmp rfl .nil) (.cons _ (.cons _ .slnil)) ⟨congrArg Value.bool (by simp [mayG, *]), rfl⟩
end Go.Proofs.YtdjemlkllbhdlaaGreat

/- The walks of orders. -/
import Derived.Test.YtdjemlkllbhdlaaGreatT6
import Derived.Test.YtdjemlkllbhdlaaGreatPhase
import Derived.Test.YtdjemlkllbhdlaaGreatSpec4
set_option linter.unusedVariables false
set_option linter.unusedSimpArgs false
namespace Go.Proofs.YtdjemlkllbhdlaaGreat
open Go Go.RowKit
theorem Reverse_calls {H : Hp} {b c : Nat} {l : List Int} (hn : l.length ≤ 1048576) : CallG Tryz.prog 106 [.slice (some ⟨b, 0, none⟩) l.length c] H [Chunk.own 3 1 (some ⟨b, 0, none⟩) c l.length (l.map iv)] (fun v H' L' => H' = H ∧ v = .tuple #[] ∧ L' = [Chunk.own 3 1 (some ⟨b, 0, none⟩) c l.length (l.reverse.map iv)]) := by
  refine CallG.of Tryz.func106 rfl rfl rfl fun w0 => ?_
  change WpG _ _ _ _ _ _ [(0, .slice (some ⟨b, 0, none⟩) l.length c)] _ _ _
  refine WpG.go tabOK 5 [(0, .slice (some ⟨b, 0, none⟩) l.length c), (6, .int .i64 ((l.length : Int) - 1))] rfl ⟨rfl, (wrk (x := (l.length : Int) - 1) (by omega) (by omega)), trivial⟩ ?_
  refine WpG.go tabOK 5 [(0, .slice (some ⟨b, 0, none⟩) l.length c), (2, .int .i64 0), (3, .int .i64 ((l.length : Int) - 1))] rfl ⟨rfl, rfl, rfl, trivial⟩ ?_
  refine WpG.ind (σ := Int × Int × List Int) (fun z_ => (z_.2.1 - z_.1 + 2).toNat) (fun z_ => [(0, .slice (some ⟨b, 0, none⟩) l.length c), (2, .int .i64 z_.1), (3, .int .i64 z_.2.1)]) (fun z_ => H) (fun z_ => [Chunk.own 3 1 (some ⟨b, 0, none⟩) c l.length (z_.2.2.map iv)]) (fun z_ => 0 ≤ z_.1 ∧ z_.1 + z_.2.1 = l.length - 1 ∧ z_.1 ≤ z_.2.1 + 2 ∧ RevAt l z_.2.2 z_.1 z_.2.1) ?_ (0, (l.length : Int) - 1, l) ⟨by omega, by dsimp only; omega, by dsimp only; omega, RevAt.start l⟩
  rintro ⟨i, j, m⟩ inv ih1
  change WpG _ _ _ _ _ _ [(0, .slice (some ⟨b, 0, none⟩) l.length c), (2, .int .i64 i), (3, .int .i64 j)] H [Chunk.own 3 1 (some ⟨b, 0, none⟩) c l.length (m.map iv)] _
  replace inv : 0 ≤ i ∧ i + j = l.length - 1 ∧ i ≤ j + 2 ∧ RevAt l m i j := inv
  obtain ⟨i0, i1, i2, i3⟩ := inv
  have hm := i3.1
  refine WpG.go tabOK 7 [(0, .slice (some ⟨b, 0, none⟩) l.length c), (2, .int .i64 i), (3, .int .i64 j), (9, .bool (decide (i < j)))] rfl ⟨rfl, rfl, rfl, rfl, trivial⟩ ?_
  refine WpG.caseD (t := 9) rfl (fun q9 => ?_) (fun q9 => ?_)
  · refine WpG.go tabOK 4 [(0, .slice (some ⟨b, 0, none⟩) l.length c), (2, .int .i64 i), (3, .int .i64 j)] rfl ⟨rfl, rfl, rfl, trivial⟩ ?_
    refine WpG.drawE 16 13 [Chunk.own 3 1 (some ⟨b, 0, none⟩) c l.length (m.map iv)] mixed (by kernel_rfl) ?_
    refine WpE.go (listed' := lst 16 831) tabOK [0, 1, 2, 3, 4, 5, 8, 9] [(0, .slice (some ⟨b, 0, none⟩) l.length c), (2, .int .i64 i), (3, .int .i64 j), (14, .slice (some ⟨b, 0, none⟩) l.length c), (15, .int .i64 i), (16, .slice (some ⟨b, 0, none⟩) l.length c), (17, .int .i64 j), (18, .slice (some ⟨b, 0, none⟩) l.length c), (19, .int .i64 j), (22, .slice (some ⟨b, 0, none⟩) l.length c), (23, .int .i64 i)] (by kernel_rfl) rfl ⟨rfl, rfl, rfl, rfl, rfl, rfl, rfl, rfl, rfl, rfl, rfl, trivial⟩ (Hp.le.refl _) (Hp.le.refl _) (.cons_cons _ .slnil) ?_
    refine WpE.p (i := 6) (fuel := 7) (listed' := lst 16 895) (by kernel_rfl) rfl rfl rfl rfl (Hp.le.refl _) (Hp.le.refl _) (.cons_cons _ .slnil) (RunP.indexAddr tabOK rfl rfl rfl rfl rfl (by omega) (by omega)) ?_
    refine WpE.y (i := 7) (fuel := 6) (listed' := lst 16 1023) (by kernel_rfl) rfl rfl rfl rfl (Hp.le.refl _) (Hp.le.refl _) (.cons_cons _ .slnil) (RunY.loadOwn (ci := 0) (cs := [iv (nth m j)]) tabOK rfl rfl rfl rfl rfl (own_int (by omega) (by omega))) ?_
    refine WpE.p (i := 10) (fuel := 5) (listed' := lst 16 2047) (by kernel_rfl) rfl rfl rfl rfl (Hp.le.refl _) (Hp.le.refl _) (.cons_cons _ .slnil) (RunP.indexAddr tabOK rfl rfl rfl rfl rfl (by omega) (by omega)) ?_
    refine WpE.y (i := 11) (fuel := 4) (listed' := lst 16 4095) (by kernel_rfl) rfl rfl rfl rfl (Hp.le.refl _) (Hp.le.refl _) (.cons_cons _ .slnil) (RunY.loadOwn (ci := 0) (cs := [iv (nth m i)]) tabOK rfl rfl rfl rfl rfl (own_int (by omega) (by omega))) ?_
    refine WpE.p (i := 12) (fuel := 3) (listed' := lst 16 8191) (by kernel_rfl) rfl rfl rfl rfl (Hp.le.refl _) (Hp.le.refl _) (.cons_cons _ .slnil) (RunP.indexAddr tabOK rfl rfl rfl rfl rfl (by omega) (by omega)) ?_
    refine WpE.halt [] (fuel := 2) (listed' := lst 16 16383) (by kernel_rfl) (OpG.storeOwn (ci := 0) tabOK rfl rfl rfl rfl rfl rfl rfl rfl (putAt_one (own_lt (by omega) (by omega)))) ?_
    rintro F1 H1 L1 ⟨eF, eH, eL⟩
    subst eF; subst eL; rw [eH]; clear eH H1
    refine WpD.setL (L' := [Chunk.own 3 1 (some ⟨b, 0, none⟩) c l.length ((m.set i.toNat (nth m j)).map iv)]) (by rw [← arr_set (f := iv) (xs := m) (j := i) (nth m j)]; rfl) ?_
    refine WpD.y (i := 14) (fuel := 1) (listed' := lst 16 32767) (by kernel_rfl) rfl rfl rfl rfl (Hp.le.refl _) (Hp.le.refl _) (.cons _ .slnil) (RunY.indexAddr tabOK rfl rfl rfl rfl rfl (by omega) (by omega)) ?_
    refine WpD.f (i := 15) (fuel := 0) (listed' := lst 16 65535) (by kernel_rfl) (Hp.le.refl _) (OpG.storeOwn (ci := 0) tabOK rfl rfl rfl rfl rfl rfl rfl rfl (putAt_one (own_lt (by omega) (by rw [List.length_set]; omega)))) ?_
    rintro F1 H1 L1 ⟨eF, eH, eL⟩
    subst eF; subst eL; rw [eH]; clear eH H1
    refine ⟨(Hp.le.refl _), (.cons _ .slnil), ?_⟩
    refine WpD.setL (L' := [Chunk.own 3 1 (some ⟨b, 0, none⟩) c l.length (((m.set i.toNat (nth m j)).set j.toNat (nth m i)).map iv)]) (by rw [← arr_set (f := iv) (xs := m.set i.toNat (nth m j)) (j := j) (nth m i)]; rfl) ?_
    refine WpD.done (by kernel_rfl) ?_
    refine WpG.go tabOK 4 [(0, .slice (some ⟨b, 0, none⟩) l.length c), (3, .int .i64 j), (11, .int .i64 (i + 1))] rfl ⟨rfl, rfl, (wrk (x := i + 1) (by omega) (by omega)), trivial⟩ ?_
    refine WpG.go tabOK 2 [(0, .slice (some ⟨b, 0, none⟩) l.length c), (11, .int .i64 (i + 1)), (13, .int .i64 (j - 1))] rfl ⟨rfl, rfl, (wrk (x := j - 1) (by omega) (by omega)), trivial⟩ ?_
    refine WpG.go tabOK 4 [(0, .slice (some ⟨b, 0, none⟩) l.length c), (2, .int .i64 (i + 1)), (3, .int .i64 (j - 1))] rfl ⟨rfl, rfl, rfl, trivial⟩ ?_
    refine WpG.weaken (G := [(0, .slice (some ⟨b, 0, none⟩) l.length c), (2, .int .i64 (i + 1)), (3, .int .i64 (j - 1))]) (Known.all ⟨rfl, rfl, rfl, trivial⟩) (ih1 (i + 1, j - 1, (m.set i.toNat (nth m j)).set j.toNat (nth m i)) ?_ ?_)
    · show ((j - 1) - (i + 1) + 2).toNat < (j - i + 2).toNat
      omega
    · show 0 ≤ (i + 1) ∧ (i + 1) + (j - 1) = l.length - 1 ∧ (i + 1) ≤ (j - 1) + 2 ∧ RevAt l ((m.set i.toNat (nth m j)).set j.toNat (nth m i)) (i + 1) (j - 1)
      -- back 0 of loop 1, path L1T
      clear ih1
      exact ⟨by omega, by omega, by omega, i3.step i0 q9 i1⟩
  · refine WpG.go tabOK 2 [] rfl trivial ?_
    -- return 0, path L1F
    exact WpG.done tabOK (L' := [Chunk.own 3 1 (some ⟨b, 0, none⟩) c l.length (m.map iv)]) .nil (.cons_cons _ .slnil) ⟨rfl, rfl, by rw [← i3.done q9 i1]⟩

theorem Reverse_n {H : Hp} {b c n : Nat} {l : List Int} (hn : n = l.length) (hl : l.length ≤ 1048576) : CallG Tryz.prog 106 [.slice (some ⟨b, 0, none⟩) n c] H [Chunk.own 3 1 (some ⟨b, 0, none⟩) c n (l.map iv)] (fun v H' L' => H' = H ∧ v = .tuple #[] ∧ L' = [Chunk.own 3 1 (some ⟨b, 0, none⟩) c n (l.reverse.map iv)]) := by
  subst hn
  exact Reverse_calls hl

theorem Order_calls {H : Hp} {gr : GraphD} {cs_gr : List Value} (rd_gr : Rdc.rd H cs_gr gr) (root : Int) (hm : mayG gr = true) (h0 : 0 ≤ root) (h1 : root < gr.succ.length) : CallG Tryz.prog 85 [.agg cs_gr.toArray, .int .i64 root] H [] (fun v H' L' => H' = H ∧ ∃ b c ord, v = .slice (some ⟨b, 0, none⟩) ord.length c ∧ OrderP gr.succ root ord ∧ L' = [Chunk.own 3 1 (some ⟨b, 0, none⟩) c ord.length (ord.map iv)]) := by
  have rd_gr' := rd_gr; obtain ⟨A_gr_0, c_gr_0, A_gr_1, c_gr_1, rfl, u_gr_0, r_gr_0, u_gr_1, r_gr_1⟩ := rd_gr
  have hR := (may_rows hm).2
  have hn64 := hR.1
  refine CallG.of Tryz.func85 rfl rfl rfl fun w0 => ?_
  change WpG _ _ _ _ _ _ [(0, .agg #[.slice A_gr_0 gr.succ.length c_gr_0, .slice A_gr_1 gr.pred.length c_gr_1]), (1, .int .i64 root)] _ _ _
  refine WpG.go tabOK 2 [(0, .agg #[.slice A_gr_0 gr.succ.length c_gr_0, .slice A_gr_1 gr.pred.length c_gr_1]), (1, .int .i64 root)] rfl ⟨rfl, rfl, trivial⟩ ?_
  refine WpG.box rfl rfl rfl rfl rfl (fun b1 => ?_)
  refine WpG.go tabOK 6 [(1, .int .i64 root), (2, .pointer (some ⟨b1, 0, none⟩))] rfl ⟨rfl, rfl, trivial⟩ ?_
  refine WpG.y rfl rfl rfl rfl (RunY.loadBox (ci := 0) tabOK rfl rfl rfl rfl) ?_
  refine WpG.callS rfl rfl rfl rfl rfl rfl (Hp.le.refl _) (gMay_calls rd_gr') ?_
  refine WpG.go tabOK 2 [(1, .int .i64 root), (2, .pointer (some ⟨b1, 0, none⟩)), (14, .bool (!(mayG gr)))] rfl ⟨rfl, rfl, rfl, trivial⟩ ?_
  refine WpG.caseBn (t := 14) rfl (fun q14 => ?_) (fun q14 => ?_)
  · rw [hm] at q14; cases q14
  · refine WpG.go tabOK 4 [(1, .int .i64 root), (2, .pointer (some ⟨b1, 0, none⟩)), (18, .bool (decide (root < 0)))] rfl ⟨rfl, rfl, rfl, trivial⟩ ?_
    refine WpG.caseD (t := 18) rfl (fun q18 => ?_) (fun q18 => ?_)
    · exfalso; omega
    · refine WpG.go tabOK 2 [(1, .int .i64 root), (2, .pointer (some ⟨b1, 0, none⟩)), (18, .bool false), (19, .int .i64 root), (20, .pointer (some ⟨b1, 0, none⟩))] rfl ⟨rfl, rfl, rfl, rfl, rfl, trivial⟩ ?_
      refine WpG.y rfl rfl rfl rfl (RunY.loadBox (ci := 0) tabOK rfl rfl rfl rfl) ?_
      refine WpG.go tabOK 4 [(1, .int .i64 root), (2, .pointer (some ⟨b1, 0, none⟩)), (24, .bool (decide (root ≥ (gr.succ.length : Int))))] rfl ⟨rfl, rfl, rfl, trivial⟩ ?_
      refine WpG.caseD (t := 24) rfl (fun q24 => ?_) (fun q24 => ?_)
      · exfalso; omega
      · refine WpG.go tabOK 4 [(1, .int .i64 root), (2, .pointer (some ⟨b1, 0, none⟩))] rfl ⟨rfl, rfl, trivial⟩ ?_
        refine WpG.alloc tabOK rfl rfl rfl rfl rfl (fun b2 => ?_)
        refine WpG.setL (L' := [Chunk.box b2 ((List.replicate 64 false).map Value.bool) 124, Chunk.box b1 [.slice A_gr_0 gr.succ.length c_gr_0, .slice A_gr_1 gr.pred.length c_gr_1] 65]) rfl ?_
        refine WpG.go tabOK 3 [(1, .int .i64 root), (2, .pointer (some ⟨b1, 0, none⟩)), (5, .pointer (some ⟨b2, 0, none⟩))] rfl ⟨rfl, rfl, rfl, trivial⟩ ?_
        refine WpG.alloc tabOK rfl rfl rfl rfl rfl (fun b3 => ?_)
        refine WpG.setL (L' := [Chunk.box b3 ((List.replicate 64 (0 : Int)).map iv) 125, Chunk.box b2 ((List.replicate 64 false).map Value.bool) 124, Chunk.box b1 [.slice A_gr_0 gr.succ.length c_gr_0, .slice A_gr_1 gr.pred.length c_gr_1] 65]) rfl ?_
        refine WpG.go tabOK 8 [(1, .int .i64 root), (2, .pointer (some ⟨b1, 0, none⟩)), (5, .pointer (some ⟨b2, 0, none⟩)), (6, .pointer (some ⟨b3, 0, none⟩)), (7, .slice none 0 0), (25, .int .i64 root)] rfl ⟨rfl, rfl, rfl, rfl, rfl, rfl, trivial⟩ ?_
        refine WpG.buildSlice (xs := [.int .i64 root]) tabOK rfl rfl rfl rfl rfl rfl rfl rfl rfl rfl (fun b4 => ?_)
        refine WpG.go tabOK 5 [(2, .pointer (some ⟨b1, 0, none⟩)), (5, .pointer (some ⟨b2, 0, none⟩)), (6, .pointer (some ⟨b3, 0, none⟩)), (7, .slice none 0 0), (8, .slice (some ⟨b4, 0, none⟩) 1 1), (27, .int .i64 root)] rfl ⟨rfl, rfl, rfl, rfl, rfl, rfl, trivial⟩ ?_
        refine WpG.y rfl rfl rfl rfl (RunY.indexArr tabOK rfl rfl rfl rfl rfl (by omega) (by omega)) ?_
        refine WpG.storeBox (ci := 2) tabOK rfl rfl rfl rfl rfl rfl rfl rfl (putAt_one (own_lt (by omega) (by simp; omega))) ?_
        refine WpG.setL (L' := [Chunk.own 3 1 (some ⟨b4, 0, none⟩) 1 1 [.int .i64 root], Chunk.box b3 ((List.replicate 64 (0 : Int)).map iv) 125, Chunk.box b2 (((List.replicate 64 false).set root.toNat true).map Value.bool) 124, Chunk.box b1 [.slice A_gr_0 gr.succ.length c_gr_0, .slice A_gr_1 gr.pred.length c_gr_1] 65]) (by rw [← arr_set (f := Value.bool) (xs := List.replicate 64 false) (j := root) true]; rfl) ?_
        refine WpG.go tabOK 3 [(2, .pointer (some ⟨b1, 0, none⟩)), (5, .pointer (some ⟨b2, 0, none⟩)), (6, .pointer (some ⟨b3, 0, none⟩)), (7, .slice none 0 0), (8, .slice (some ⟨b4, 0, none⟩) 1 1)] rfl ⟨rfl, rfl, rfl, rfl, rfl, trivial⟩ ?_
        refine WpG.ownNil 3 1 ?_
        refine WpG.setL (L' := [Chunk.own 3 1 none 0 0 (([] : List Int).map iv), Chunk.own 3 1 (some ⟨b4, 0, none⟩) 1 1 ([root].map iv), Chunk.box b3 ((List.replicate 64 (0 : Int)).map iv) 125, Chunk.box b2 (((List.replicate 64 false).set root.toNat true).map Value.bool) 124, Chunk.box b1 [.slice A_gr_0 gr.succ.length c_gr_0, .slice A_gr_1 gr.pred.length c_gr_1] 65]) rfl ?_
        refine WpG.ind (σ := List Int × List Int × List Bool × List Int × Option Addr × Nat × Nat × Option Addr × Nat × Nat) (fun z_ => 2 * pot gr.succ z_.2.2.2.1 + z_.1.length) (fun z_ => [(2, .pointer (some ⟨b1, 0, none⟩)), (5, .pointer (some ⟨b2, 0, none⟩)), (6, .pointer (some ⟨b3, 0, none⟩)), (7, .slice z_.2.2.2.2.2.2.2.1 z_.2.2.2.2.2.2.2.2.1 z_.2.2.2.2.2.2.2.2.2), (8, .slice z_.2.2.2.2.1 z_.2.2.2.2.2.1 z_.2.2.2.2.2.2.1)]) (fun z_ => H) (fun z_ => [Chunk.own 3 1 z_.2.2.2.2.2.2.2.1 z_.2.2.2.2.2.2.2.2.2 z_.2.2.2.2.2.2.2.2.1 (z_.2.1.map iv), Chunk.own 3 1 z_.2.2.2.2.1 z_.2.2.2.2.2.2.1 z_.2.2.2.2.2.1 (z_.1.map iv), Chunk.box b3 (z_.2.2.2.1.map iv) 125, Chunk.box b2 (z_.2.2.1.map Value.bool) 124, Chunk.box b1 [.slice A_gr_0 gr.succ.length c_gr_0, .slice A_gr_1 gr.pred.length c_gr_1] 65]) (fun z_ => OInv gr.succ root z_.1 z_.2.1 z_.2.2.1 z_.2.2.2.1 ∧ z_.2.2.2.2.2.1 = z_.1.length ∧ z_.2.2.2.2.2.2.2.2.1 = z_.2.1.length ∧ z_.1 ≠ []) ?_ ([root], [], (List.replicate 64 false).set root.toNat true, List.replicate 64 (0 : Int), (some ⟨b4, 0, none⟩), 1, 1, none, 0, 0) ⟨OInv.start hR h0 h1, rfl, rfl, by simp⟩
        rintro ⟨stk, out, seen, next, AS, nS, cS, AO, nO, cO⟩ inv ihG0
        change WpG _ _ _ _ _ _ [(2, .pointer (some ⟨b1, 0, none⟩)), (5, .pointer (some ⟨b2, 0, none⟩)), (6, .pointer (some ⟨b3, 0, none⟩)), (7, .slice AO nO cO), (8, .slice AS nS cS)] H [Chunk.own 3 1 AO cO nO (out.map iv), Chunk.own 3 1 AS cS nS (stk.map iv), Chunk.box b3 (next.map iv) 125, Chunk.box b2 (seen.map Value.bool) 124, Chunk.box b1 [.slice A_gr_0 gr.succ.length c_gr_0, .slice A_gr_1 gr.pred.length c_gr_1] 65] _
        replace inv : OInv gr.succ root stk out seen next ∧ nS = stk.length ∧ nO = out.length ∧ stk ≠ [] := inv
        obtain ⟨i0, i1, i2, i3⟩ := inv
        refine WpG.ownCap (ci := 1) rfl (fun hcap => ?_)
        obtain ⟨pre, x, hst, hx⟩ := top_of i3 i1
        have hpl : stk.length = pre.length + 1 := by rw [hst]; simp
        have hxr := (hst ▸ i0 : OInv gr.succ root (pre ++ [x]) out seen next).top
        have hsl := i0.lseen
        have hlen := i0.len
        refine WpG.go tabOK 6 [(2, .pointer (some ⟨b1, 0, none⟩)), (5, .pointer (some ⟨b2, 0, none⟩)), (6, .pointer (some ⟨b3, 0, none⟩)), (7, .slice AO nO cO), (8, .slice AS nS cS), (29, .slice AS nS cS), (32, .int .i64 ((nS : Int) - 1))] rfl ⟨rfl, rfl, rfl, rfl, rfl, rfl, (wrk (x := (nS : Int) - 1) (by omega) (by omega)), trivial⟩ ?_
        refine WpG.ownForm (ci := 1) rfl (by omega) (fun b6 eb6 => ?_)
        subst eb6
        refine WpG.y rfl rfl rfl rfl (RunY.indexAddr tabOK rfl rfl rfl rfl rfl (by omega) (by omega)) ?_
        refine WpG.y rfl rfl rfl rfl (RunY.loadOwn (ci := 1) (cs := [iv x]) tabOK rfl rfl rfl rfl rfl (by rw [hx]; exact own_int (by omega) (by omega))) ?_
        refine WpG.go tabOK 5 [(2, .pointer (some ⟨b1, 0, none⟩)), (5, .pointer (some ⟨b2, 0, none⟩)), (6, .pointer (some ⟨b3, 0, none⟩)), (7, .slice AO nO cO), (8, .slice (some ⟨b6, 0, none⟩) nS cS), (9, .int .i64 x)] rfl ⟨rfl, rfl, rfl, rfl, rfl, rfl, trivial⟩ ?_
        refine WpG.ind (σ := List Int) (fun z_ => pot gr.succ z_) (fun z_ => [(2, .pointer (some ⟨b1, 0, none⟩)), (5, .pointer (some ⟨b2, 0, none⟩)), (6, .pointer (some ⟨b3, 0, none⟩)), (7, .slice AO nO cO), (8, .slice (some ⟨b6, 0, none⟩) nS cS), (9, .int .i64 x)]) (fun z_ => H) (fun z_ => [Chunk.own 3 1 AO cO nO (out.map iv), Chunk.own 3 1 (some ⟨b6, 0, none⟩) cS nS (stk.map iv), Chunk.box b3 (z_.map iv) 125, Chunk.box b2 (seen.map Value.bool) 124, Chunk.box b1 [.slice A_gr_0 gr.succ.length c_gr_0, .slice A_gr_1 gr.pred.length c_gr_1] 65]) (fun z_ => OInv gr.succ root stk out seen z_ ∧ pot gr.succ z_ ≤ pot gr.succ next) ?_ (next) ⟨i0, Nat.le_refl _⟩
        intro nx inv ih1
        change WpG _ _ _ _ _ _ [(2, .pointer (some ⟨b1, 0, none⟩)), (5, .pointer (some ⟨b2, 0, none⟩)), (6, .pointer (some ⟨b3, 0, none⟩)), (7, .slice AO nO cO), (8, .slice (some ⟨b6, 0, none⟩) nS cS), (9, .int .i64 x)] H [Chunk.own 3 1 AO cO nO (out.map iv), Chunk.own 3 1 (some ⟨b6, 0, none⟩) cS nS (stk.map iv), Chunk.box b3 (nx.map iv) 125, Chunk.box b2 (seen.map Value.bool) 124, Chunk.box b1 [.slice A_gr_0 gr.succ.length c_gr_0, .slice A_gr_1 gr.pred.length c_gr_1] 65] _
        replace inv : OInv gr.succ root stk out seen nx ∧ pot gr.succ nx ≤ pot gr.succ next := inv
        obtain ⟨j0, j1⟩ := inv
        have hnl := j0.lnext
        have hnx := j0.next_ x hxr.1 hxr.2
        have hrl := (hR.2 _ (nth_mem hxr.1 hxr.2)).1
        refine WpG.go tabOK 2 [(2, .pointer (some ⟨b1, 0, none⟩)), (5, .pointer (some ⟨b2, 0, none⟩)), (6, .pointer (some ⟨b3, 0, none⟩)), (7, .slice AO nO cO), (8, .slice (some ⟨b6, 0, none⟩) nS cS), (9, .int .i64 x)] rfl ⟨rfl, rfl, rfl, rfl, rfl, rfl, trivial⟩ ?_
        refine WpG.draw 10 [Chunk.own 3 1 AO cO nO (out.map iv), Chunk.own 3 1 (some ⟨b6, 0, none⟩) cS nS (stk.map iv), Chunk.box b3 (nx.map iv) 125, Chunk.box b2 (seen.map Value.bool) 124, Chunk.box b1 [.slice A_gr_0 gr.succ.length c_gr_0, .slice A_gr_1 gr.pred.length c_gr_1] 65] mixed (by kernel_rfl) ?_
        refine WpD.go (listed' := lst 10 41) tabOK [0, 3, 5] [(2, .pointer (some ⟨b1, 0, none⟩)), (5, .pointer (some ⟨b2, 0, none⟩)), (6, .pointer (some ⟨b3, 0, none⟩)), (7, .slice AO nO cO), (8, .slice (some ⟨b6, 0, none⟩) nS cS), (9, .int .i64 x), (35, .int .i64 x), (38, .pointer (some ⟨b1, 0, none⟩)), (40, .int .i64 x)] (by kernel_rfl) rfl ⟨rfl, rfl, rfl, rfl, rfl, rfl, rfl, rfl, rfl, trivial⟩ (Hp.le.refl _) (Hp.le.refl _) (.cons_cons _ (.cons_cons _ (.cons_cons _ (.cons_cons _ (.cons_cons _ .slnil))))) ?_
        refine WpD.y (i := 1) (fuel := 6) (listed' := lst 10 43) (by kernel_rfl) rfl rfl rfl rfl (Hp.le.refl _) (Hp.le.refl _) (.cons_cons _ (.cons_cons _ (.cons_cons _ (.cons_cons _ (.cons_cons _ .slnil))))) (RunY.indexArr tabOK rfl rfl rfl rfl rfl (by omega) (by omega)) ?_
        refine WpD.y (i := 2) (fuel := 5) (listed' := lst 10 47) (by kernel_rfl) rfl rfl rfl rfl (Hp.le.refl _) (Hp.le.refl _) (.cons_cons _ (.cons_cons _ (.cons_cons _ (.cons_cons _ (.cons_cons _ .slnil))))) (RunY.loadBox (ci := 2) tabOK rfl rfl rfl (partOf_at rfl rfl (arr_at (f := iv) (by omega) (by omega)))) ?_
        refine WpD.y (i := 4) (fuel := 4) (listed' := lst 10 63) (by kernel_rfl) rfl rfl rfl rfl (Hp.le.refl _) (Hp.le.refl _) (.cons_cons _ (.cons_cons _ (.cons_cons _ (.cons_cons _ (.cons_cons _ .slnil))))) (RunY.loadBox (ci := 4) tabOK rfl rfl rfl rfl) ?_
        refine WpD.indexR (i := 6) (fuel := 3) (listed' := lst 10 127) tabOK (by kernel_rfl) rfl rfl rfl rfl rfl rfl rfl rfl rfl (Hp.le.refl _) (Hp.le.refl _) (.cons_cons _ (.cons_cons _ (.cons_cons _ (.cons_cons _ (.cons_cons _ .slnil))))) r_gr_0 (by omega) (by omega) ?_
        rintro x7 hx7 b7 o7 _ ⟨A7, c7, rfl, u7, r7⟩ hc7
        have hl7 : (x7.length : Int) = (nth gr.succ x).length := by rw [hx7]
        refine WpD.y (i := 7) (fuel := 2) (listed' := lst 10 255) (by kernel_rfl) rfl rfl rfl rfl (Hp.le.refl _) (Hp.le.refl _) (.cons_cons _ (.cons_cons _ (.cons_cons _ (.cons_cons _ (.cons_cons _ .slnil))))) (RunY.loadH tabOK hc7 (Hp.le.refl _) rfl rfl rfl rfl) ?_
        refine WpD.go (listed' := lst 10 1023) tabOK [8, 9] [(2, .pointer (some ⟨b1, 0, none⟩)), (5, .pointer (some ⟨b2, 0, none⟩)), (6, .pointer (some ⟨b3, 0, none⟩)), (7, .slice AO nO cO), (8, .slice (some ⟨b6, 0, none⟩) nS cS), (9, .int .i64 x), (44, .bool (decide ((nth nx x) < (x7.length : Int))))] (by kernel_rfl) rfl ⟨rfl, rfl, rfl, rfl, rfl, rfl, rfl, trivial⟩ (Hp.le.refl _) (Hp.le.refl _) (.cons_cons _ (.cons_cons _ (.cons_cons _ (.cons_cons _ (.cons_cons _ .slnil))))) ?_
        refine WpD.done (by kernel_rfl) ?_
        refine WpG.caseD (t := 44) rfl (fun q44 => ?_) (fun q44 => ?_)
        · refine WpG.go tabOK 4 [(2, .pointer (some ⟨b1, 0, none⟩)), (5, .pointer (some ⟨b2, 0, none⟩)), (6, .pointer (some ⟨b3, 0, none⟩)), (7, .slice AO nO cO), (8, .slice (some ⟨b6, 0, none⟩) nS cS), (9, .int .i64 x)] rfl ⟨rfl, rfl, rfl, rfl, rfl, rfl, trivial⟩ ?_
          refine WpG.draw 11 [Chunk.own 3 1 AO cO nO (out.map iv), Chunk.own 3 1 (some ⟨b6, 0, none⟩) cS nS (stk.map iv), Chunk.box b3 (nx.map iv) 125, Chunk.box b2 (seen.map Value.bool) 124, Chunk.box b1 [.slice A_gr_0 gr.succ.length c_gr_0, .slice A_gr_1 gr.pred.length c_gr_1] 65] mixed (by kernel_rfl) ?_
          refine WpD.go (listed' := lst 11 37) tabOK [0, 2, 5] [(2, .pointer (some ⟨b1, 0, none⟩)), (5, .pointer (some ⟨b2, 0, none⟩)), (6, .pointer (some ⟨b3, 0, none⟩)), (7, .slice AO nO cO), (8, .slice (some ⟨b6, 0, none⟩) nS cS), (9, .int .i64 x), (45, .pointer (some ⟨b1, 0, none⟩)), (47, .int .i64 x), (50, .int .i64 x)] (by kernel_rfl) rfl ⟨rfl, rfl, rfl, rfl, rfl, rfl, rfl, rfl, rfl, trivial⟩ (Hp.le.refl _) (Hp.le.refl _) (.cons_cons _ (.cons_cons _ (.cons_cons _ (.cons_cons _ (.cons_cons _ .slnil))))) ?_
          refine WpD.y (i := 1) (fuel := 7) (listed' := lst 11 39) (by kernel_rfl) rfl rfl rfl rfl (Hp.le.refl _) (Hp.le.refl _) (.cons_cons _ (.cons_cons _ (.cons_cons _ (.cons_cons _ (.cons_cons _ .slnil))))) (RunY.loadBox (ci := 4) tabOK rfl rfl rfl rfl) ?_
          refine WpD.indexR (i := 3) (fuel := 6) (listed' := lst 11 47) tabOK (by kernel_rfl) rfl rfl rfl rfl rfl rfl rfl rfl rfl (Hp.le.refl _) (Hp.le.refl _) (.cons_cons _ (.cons_cons _ (.cons_cons _ (.cons_cons _ (.cons_cons _ .slnil))))) r_gr_0 (by omega) (by omega) ?_
          rintro x8 hx8 b8 o8 _ ⟨A8, c8, rfl, u8, r8⟩ hc8
          have hl8 : (x8.length : Int) = (nth gr.succ x).length := by rw [hx8]
          refine WpD.y (i := 4) (fuel := 5) (listed' := lst 11 63) (by kernel_rfl) rfl rfl rfl rfl (Hp.le.refl _) (Hp.le.refl _) (.cons_cons _ (.cons_cons _ (.cons_cons _ (.cons_cons _ (.cons_cons _ .slnil))))) (RunY.loadH tabOK hc8 (Hp.le.refl _) rfl rfl rfl rfl) ?_
          refine WpD.y (i := 6) (fuel := 4) (listed' := lst 11 127) (by kernel_rfl) rfl rfl rfl rfl (Hp.le.refl _) (Hp.le.refl _) (.cons_cons _ (.cons_cons _ (.cons_cons _ (.cons_cons _ (.cons_cons _ .slnil))))) (RunY.indexArr tabOK rfl rfl rfl rfl rfl (by omega) (by omega)) ?_
          refine WpD.y (i := 7) (fuel := 3) (listed' := lst 11 255) (by kernel_rfl) rfl rfl rfl rfl (Hp.le.refl _) (Hp.le.refl _) (.cons_cons _ (.cons_cons _ (.cons_cons _ (.cons_cons _ (.cons_cons _ .slnil))))) (RunY.loadBox (ci := 2) tabOK rfl rfl rfl (partOf_at rfl rfl (arr_at (f := iv) (by omega) (by omega)))) ?_
          refine WpD.indexR (i := 8) (fuel := 2) (listed' := lst 11 511) tabOK (by kernel_rfl) rfl rfl rfl rfl rfl rfl rfl rfl rfl (Hp.le.refl _) (Hp.le.refl _) (.cons_cons _ (.cons_cons _ (.cons_cons _ (.cons_cons _ (.cons_cons _ .slnil))))) r8 (by omega) (by omega) ?_
          rintro x9 hx9 b9 o9 _ ⟨rfl, k9⟩ hc9
          have hyx : x9 = nth (nth gr.succ x) (nth nx x) := by rw [hx9, hx8]
          have hy : 0 ≤ x9 ∧ x9 < gr.succ.length := by rw [hyx]; exact hR.at_ hxr.1 hxr.2 hnx.1 (by omega)
          refine WpD.y (i := 9) (fuel := 1) (listed' := lst 11 1023) (by kernel_rfl) rfl rfl rfl rfl (Hp.le.refl _) (Hp.le.refl _) (.cons_cons _ (.cons_cons _ (.cons_cons _ (.cons_cons _ (.cons_cons _ .slnil))))) (RunY.loadH tabOK hc9 (Hp.le.refl _) rfl rfl rfl rfl) ?_
          refine WpD.go (listed' := lst 11 2047) tabOK [10] [(2, .pointer (some ⟨b1, 0, none⟩)), (5, .pointer (some ⟨b2, 0, none⟩)), (6, .pointer (some ⟨b3, 0, none⟩)), (7, .slice AO nO cO), (8, .slice (some ⟨b6, 0, none⟩) nS cS), (9, .int .i64 x), (10, .int .i64 x9)] (by kernel_rfl) rfl ⟨rfl, rfl, rfl, rfl, rfl, rfl, rfl, trivial⟩ (Hp.le.refl _) (Hp.le.refl _) (.cons_cons _ (.cons_cons _ (.cons_cons _ (.cons_cons _ (.cons_cons _ .slnil))))) ?_
          refine WpD.done (by kernel_rfl) ?_
          refine WpG.go tabOK 3 [(2, .pointer (some ⟨b1, 0, none⟩)), (5, .pointer (some ⟨b2, 0, none⟩)), (6, .pointer (some ⟨b3, 0, none⟩)), (7, .slice AO nO cO), (8, .slice (some ⟨b6, 0, none⟩) nS cS), (9, .int .i64 x), (10, .int .i64 x9), (55, .int .i64 x)] rfl ⟨rfl, rfl, rfl, rfl, rfl, rfl, rfl, rfl, trivial⟩ ?_
          refine WpG.y rfl rfl rfl rfl (RunY.indexArr tabOK rfl rfl rfl rfl rfl (by omega) (by omega)) ?_
          refine WpG.y rfl rfl rfl rfl (RunY.loadBox (ci := 2) tabOK rfl rfl rfl (partOf_at rfl rfl (arr_at (f := iv) (by omega) (by omega)))) ?_
          refine WpG.go tabOK 1 [(2, .pointer (some ⟨b1, 0, none⟩)), (5, .pointer (some ⟨b2, 0, none⟩)), (6, .pointer (some ⟨b3, 0, none⟩)), (7, .slice AO nO cO), (8, .slice (some ⟨b6, 0, none⟩) nS cS), (9, .int .i64 x), (10, .int .i64 x9), (55, .int .i64 x), (58, .int .i64 ((nth nx x) + 1))] rfl ⟨rfl, rfl, rfl, rfl, rfl, rfl, rfl, rfl, (wrk (x := (nth nx x) + 1) (by omega) (by omega)), trivial⟩ ?_
          refine WpG.y rfl rfl rfl rfl (RunY.indexArr tabOK rfl rfl rfl rfl rfl (by omega) (by omega)) ?_
          refine WpG.storeBox (ci := 2) tabOK rfl rfl rfl rfl rfl rfl rfl rfl (putAt_one (own_lt (by omega) (by omega))) ?_
          refine WpG.setL (L' := [Chunk.own 3 1 AO cO nO (out.map iv), Chunk.own 3 1 (some ⟨b6, 0, none⟩) cS nS (stk.map iv), Chunk.box b3 ((nx.set x.toNat ((nth nx x) + 1)).map iv) 125, Chunk.box b2 (seen.map Value.bool) 124, Chunk.box b1 [.slice A_gr_0 gr.succ.length c_gr_0, .slice A_gr_1 gr.pred.length c_gr_1] 65]) (by rw [← arr_set (f := iv) (xs := nx) (j := x) ((nth nx x) + 1)]; rfl) ?_
          refine WpG.go tabOK 4 [(2, .pointer (some ⟨b1, 0, none⟩)), (5, .pointer (some ⟨b2, 0, none⟩)), (6, .pointer (some ⟨b3, 0, none⟩)), (7, .slice AO nO cO), (8, .slice (some ⟨b6, 0, none⟩) nS cS), (9, .int .i64 x), (10, .int .i64 x9), (60, .int .i64 x9)] rfl ⟨rfl, rfl, rfl, rfl, rfl, rfl, rfl, rfl, trivial⟩ ?_
          refine WpG.y rfl rfl rfl rfl (RunY.indexArr tabOK rfl rfl rfl rfl rfl (by omega) (by omega)) ?_
          refine WpG.y rfl rfl rfl rfl (RunY.loadBox (ci := 3) tabOK rfl rfl rfl (partOf_at rfl rfl (arr_at (f := Value.bool) (by omega) (by omega)))) ?_
          refine WpG.go tabOK 2 [(2, .pointer (some ⟨b1, 0, none⟩)), (5, .pointer (some ⟨b2, 0, none⟩)), (6, .pointer (some ⟨b3, 0, none⟩)), (7, .slice AO nO cO), (8, .slice (some ⟨b6, 0, none⟩) nS cS), (9, .int .i64 x), (10, .int .i64 x9), (63, .bool (!(nth seen x9)))] rfl ⟨rfl, rfl, rfl, rfl, rfl, rfl, rfl, rfl, trivial⟩ ?_
          refine WpG.caseBn (t := 63) rfl (fun q63 => ?_) (fun q63 => ?_)
          · refine WpG.go tabOK 4 [(2, .pointer (some ⟨b1, 0, none⟩)), (5, .pointer (some ⟨b2, 0, none⟩)), (6, .pointer (some ⟨b3, 0, none⟩)), (7, .slice AO nO cO), (8, .slice (some ⟨b6, 0, none⟩) nS cS), (10, .int .i64 x9), (64, .int .i64 x9)] rfl ⟨rfl, rfl, rfl, rfl, rfl, rfl, rfl, trivial⟩ ?_
            refine WpG.y rfl rfl rfl rfl (RunY.indexArr tabOK rfl rfl rfl rfl rfl (by omega) (by omega)) ?_
            refine WpG.storeBox (ci := 3) tabOK rfl rfl rfl rfl rfl rfl rfl rfl (putAt_one (own_lt (by omega) (by omega))) ?_
            refine WpG.setL (L' := [Chunk.own 3 1 AO cO nO (out.map iv), Chunk.own 3 1 (some ⟨b6, 0, none⟩) cS nS (stk.map iv), Chunk.box b3 ((nx.set x.toNat ((nth nx x) + 1)).map iv) 125, Chunk.box b2 ((seen.set x9.toNat true).map Value.bool) 124, Chunk.box b1 [.slice A_gr_0 gr.succ.length c_gr_0, .slice A_gr_1 gr.pred.length c_gr_1] 65]) (by rw [← arr_set (f := Value.bool) (xs := seen) (j := x9) true]; rfl) ?_
            refine WpG.go tabOK 5 [(2, .pointer (some ⟨b1, 0, none⟩)), (5, .pointer (some ⟨b2, 0, none⟩)), (6, .pointer (some ⟨b3, 0, none⟩)), (7, .slice AO nO cO), (66, .slice (some ⟨b6, 0, none⟩) nS cS), (67, .int .i64 x9)] rfl ⟨rfl, rfl, rfl, rfl, rfl, rfl, trivial⟩ ?_
            refine WpG.buildSlice (xs := [.int .i64 x9]) tabOK rfl rfl rfl rfl rfl rfl rfl rfl rfl rfl (fun b10 => ?_)
            refine WpG.append (ci := 2) tabOK rfl rfl rfl rfl rfl rfl rfl rfl rfl rfl rfl rfl (Src.own (ci := 0) rfl) (by omega) (fun A12 c13 => ?_)
            refine WpG.dropL (L' := [Chunk.own 3 1 AO cO nO (out.map iv), Chunk.own 3 1 A12 c13 (nS + 1) ((stk.map iv) ++ [.int .i64 x9]), Chunk.box b3 ((nx.set x.toNat ((nth nx x) + 1)).map iv) 125, Chunk.box b2 ((seen.set x9.toNat true).map Value.bool) 124, Chunk.box b1 [.slice A_gr_0 gr.succ.length c_gr_0, .slice A_gr_1 gr.pred.length c_gr_1] 65]) (.cons _ (.cons_cons _ (.cons_cons _ (.cons_cons _ (.cons_cons _ (.cons_cons _ .slnil)))))) ?_
            refine WpG.setL (L' := [Chunk.own 3 1 AO cO nO (out.map iv), Chunk.own 3 1 A12 c13 (nS + 1) ((stk ++ [x9]).map iv), Chunk.box b3 ((nx.set x.toNat ((nth nx x) + 1)).map iv) 125, Chunk.box b2 ((seen.set x9.toNat true).map Value.bool) 124, Chunk.box b1 [.slice A_gr_0 gr.succ.length c_gr_0, .slice A_gr_1 gr.pred.length c_gr_1] 65]) (by rw [List.map_append]; rfl) ?_
            refine WpG.go tabOK 3 [(2, .pointer (some ⟨b1, 0, none⟩)), (5, .pointer (some ⟨b2, 0, none⟩)), (6, .pointer (some ⟨b3, 0, none⟩)), (7, .slice AO nO cO), (8, .slice A12 (nS + 1) c13)] rfl ⟨rfl, rfl, rfl, rfl, rfl, trivial⟩ ?_
            refine WpG.go tabOK 2 [(2, .pointer (some ⟨b1, 0, none⟩)), (5, .pointer (some ⟨b2, 0, none⟩)), (6, .pointer (some ⟨b3, 0, none⟩)), (7, .slice AO nO cO), (8, .slice A12 (nS + 1) c13)] rfl ⟨rfl, rfl, rfl, rfl, rfl, trivial⟩ ?_
            refine WpG.weaken (G := [(2, .pointer (some ⟨b1, 0, none⟩)), (5, .pointer (some ⟨b2, 0, none⟩)), (6, .pointer (some ⟨b3, 0, none⟩)), (7, .slice AO nO cO), (8, .slice A12 (nS + 1) c13)]) (Known.all ⟨rfl, rfl, rfl, rfl, rfl, trivial⟩) (ihG0 (stk ++ [x9], out, seen.set x9.toNat true, nx.set x.toNat ((nth nx x) + 1), A12, nS + 1, c13, AO, nO, cO) ?_ ?_)
            · show 2 * pot gr.succ (nx.set x.toNat ((nth nx x) + 1)) + (stk ++ [x9]).length < 2 * pot gr.succ next + stk.length
              have h := pot_step hxr.1 hxr.2 (by omega) hnx.1 (by omega : nth nx x < (nth gr.succ x).length); simp only [List.length_append, List.length_cons, List.length_nil]; omega
            · show OInv gr.succ root (stk ++ [x9]) out (seen.set x9.toNat true) (nx.set x.toNat ((nth nx x) + 1)) ∧ (nS + 1) = (stk ++ [x9]).length ∧ nO = out.length ∧ (stk ++ [x9]) ≠ []
              -- back 0 of loop G0, path FFFLG0L1TT
              clear ihG0 ih1
              exact ⟨by rw [hst]; exact OInv.push hR (hst ▸ j0) (by omega) hyx q63, by simp; omega, i2, by simp⟩
          · refine WpG.go tabOK 4 [(2, .pointer (some ⟨b1, 0, none⟩)), (5, .pointer (some ⟨b2, 0, none⟩)), (6, .pointer (some ⟨b3, 0, none⟩)), (7, .slice AO nO cO), (8, .slice (some ⟨b6, 0, none⟩) nS cS), (9, .int .i64 x)] rfl ⟨rfl, rfl, rfl, rfl, rfl, rfl, trivial⟩ ?_
            refine WpG.weaken (G := [(2, .pointer (some ⟨b1, 0, none⟩)), (5, .pointer (some ⟨b2, 0, none⟩)), (6, .pointer (some ⟨b3, 0, none⟩)), (7, .slice AO nO cO), (8, .slice (some ⟨b6, 0, none⟩) nS cS), (9, .int .i64 x)]) (Known.all ⟨rfl, rfl, rfl, rfl, rfl, rfl, trivial⟩) (ih1 (nx.set x.toNat ((nth nx x) + 1)) ?_ ?_)
            · show pot gr.succ (nx.set x.toNat ((nth nx x) + 1)) < pot gr.succ nx
              have h := pot_step hxr.1 hxr.2 (by omega) hnx.1 (by omega : nth nx x < (nth gr.succ x).length); omega
            · show OInv gr.succ root stk out seen (nx.set x.toNat ((nth nx x) + 1)) ∧ pot gr.succ (nx.set x.toNat ((nth nx x) + 1)) ≤ pot gr.succ next
              -- back 0 of loop 1, path FFFLG0L1TF
              clear ihG0 ih1
              exact ⟨by rw [hst]; exact OInv.skip hR (hst ▸ j0) (by omega) (by rw [← hyx]; exact q63), by have h := pot_step hxr.1 hxr.2 (by omega) hnx.1 (by omega : nth nx x < (nth gr.succ x).length); omega⟩
        · refine WpG.go tabOK 6 [(2, .pointer (some ⟨b1, 0, none⟩)), (5, .pointer (some ⟨b2, 0, none⟩)), (6, .pointer (some ⟨b3, 0, none⟩)), (8, .slice (some ⟨b6, 0, none⟩) nS cS), (70, .slice AO nO cO), (71, .int .i64 x)] rfl ⟨rfl, rfl, rfl, rfl, rfl, rfl, trivial⟩ ?_
          refine WpG.buildSlice (xs := [.int .i64 x]) tabOK rfl rfl rfl rfl rfl rfl rfl rfl rfl rfl (fun b14 => ?_)
          refine WpG.append (ci := 1) tabOK rfl rfl rfl rfl rfl rfl rfl rfl rfl rfl rfl rfl (Src.own (ci := 0) rfl) (by omega) (fun A16 c17 => ?_)
          refine WpG.dropL (L' := [Chunk.own 3 1 A16 c17 (nO + 1) ((out.map iv) ++ [.int .i64 x]), Chunk.own 3 1 (some ⟨b6, 0, none⟩) cS nS (stk.map iv), Chunk.box b3 (nx.map iv) 125, Chunk.box b2 (seen.map Value.bool) 124, Chunk.box b1 [.slice A_gr_0 gr.succ.length c_gr_0, .slice A_gr_1 gr.pred.length c_gr_1] 65]) (.cons _ (.cons_cons _ (.cons_cons _ (.cons_cons _ (.cons_cons _ (.cons_cons _ .slnil)))))) ?_
          refine WpG.setL (L' := [Chunk.own 3 1 A16 c17 (nO + 1) ((out ++ [x]).map iv), Chunk.own 3 1 (some ⟨b6, 0, none⟩) cS nS (stk.map iv), Chunk.box b3 (nx.map iv) 125, Chunk.box b2 (seen.map Value.bool) 124, Chunk.box b1 [.slice A_gr_0 gr.succ.length c_gr_0, .slice A_gr_1 gr.pred.length c_gr_1] 65]) (by rw [List.map_append]; rfl) ?_
          refine WpG.go tabOK 8 [(2, .pointer (some ⟨b1, 0, none⟩)), (5, .pointer (some ⟨b2, 0, none⟩)), (6, .pointer (some ⟨b3, 0, none⟩)), (7, .slice A16 (nO + 1) c17), (74, .slice (some ⟨b6, 0, none⟩) nS cS), (77, .int .i64 ((nS : Int) - 1))] rfl ⟨rfl, rfl, rfl, rfl, rfl, (wrk (x := (nS : Int) - 1) (by omega) (by omega)), trivial⟩ ?_
          refine WpG.y rfl rfl rfl rfl (RunY.sliceTo tabOK rfl rfl rfl rfl rfl (by omega) (by omega)) ?_
          refine WpG.truncOwn (ci := 1) (m := ((nS : Int) - 1).toNat) rfl (by omega) ?_
          refine WpG.setL (L' := [Chunk.own 3 1 A16 c17 (nO + 1) ((out ++ [x]).map iv), Chunk.own 3 1 (some ⟨b6, 0, none⟩) cS (((nS : Int) - 1).toNat) ((stk.take ((nS : Int) - 1).toNat).map iv), Chunk.box b3 (nx.map iv) 125, Chunk.box b2 (seen.map Value.bool) 124, Chunk.box b1 [.slice A_gr_0 gr.succ.length c_gr_0, .slice A_gr_1 gr.pred.length c_gr_1] 65]) (by rw [List.map_take, Nat.mul_one]; rfl) ?_
          refine WpG.go tabOK 9 [(2, .pointer (some ⟨b1, 0, none⟩)), (5, .pointer (some ⟨b2, 0, none⟩)), (6, .pointer (some ⟨b3, 0, none⟩)), (7, .slice A16 (nO + 1) c17), (8, .slice (some ⟨b6, 0, none⟩) (((nS : Int) - 1).toNat) cS), (81, .bool (decide ((((nS : Int) - 1).toNat : Int) > 0)))] rfl ⟨rfl, rfl, rfl, rfl, rfl, rfl, trivial⟩ ?_
          refine WpG.caseD (t := 81) rfl (fun q81 => ?_) (fun q81 => ?_)
          · refine WpG.go tabOK 2 [(2, .pointer (some ⟨b1, 0, none⟩)), (5, .pointer (some ⟨b2, 0, none⟩)), (6, .pointer (some ⟨b3, 0, none⟩)), (7, .slice A16 (nO + 1) c17), (8, .slice (some ⟨b6, 0, none⟩) (((nS : Int) - 1).toNat) cS)] rfl ⟨rfl, rfl, rfl, rfl, rfl, trivial⟩ ?_
            refine WpG.go tabOK 2 [(2, .pointer (some ⟨b1, 0, none⟩)), (5, .pointer (some ⟨b2, 0, none⟩)), (6, .pointer (some ⟨b3, 0, none⟩)), (7, .slice A16 (nO + 1) c17), (8, .slice (some ⟨b6, 0, none⟩) (((nS : Int) - 1).toNat) cS)] rfl ⟨rfl, rfl, rfl, rfl, rfl, trivial⟩ ?_
            refine WpG.weaken (G := [(2, .pointer (some ⟨b1, 0, none⟩)), (5, .pointer (some ⟨b2, 0, none⟩)), (6, .pointer (some ⟨b3, 0, none⟩)), (7, .slice A16 (nO + 1) c17), (8, .slice (some ⟨b6, 0, none⟩) (((nS : Int) - 1).toNat) cS)]) (Known.all ⟨rfl, rfl, rfl, rfl, rfl, trivial⟩) (ihG0 (stk.take ((nS : Int) - 1).toNat, out ++ [x], seen, nx, (some ⟨b6, 0, none⟩), ((nS : Int) - 1).toNat, cS, A16, nO + 1, c17) ?_ ?_)
            · show 2 * pot gr.succ nx + (stk.take ((nS : Int) - 1).toNat).length < 2 * pot gr.succ next + stk.length
              rw [take_pre hst i1]; omega
            · show OInv gr.succ root (stk.take ((nS : Int) - 1).toNat) (out ++ [x]) seen nx ∧ (((nS : Int) - 1).toNat) = (stk.take ((nS : Int) - 1).toNat).length ∧ (nO + 1) = (out ++ [x]).length ∧ (stk.take ((nS : Int) - 1).toNat) ≠ []
              -- back 1 of loop G0, path FFFLG0L1FT
              clear ihG0 ih1
              exact ⟨by rw [take_pre hst i1]; exact OInv.pop (hst ▸ j0) (by omega), by rw [take_pre hst i1]; omega, by simp; omega, by
                rw [take_pre hst i1]; intro e; rw [e] at hpl; simp at hpl; omega⟩
          · have hnr : nO + 1 = ((out ++ [x]).reverse).length := by simp; omega
            have hp0 : pre = [] := List.eq_nil_of_length_eq_zero (by omega)
            have hO : OInv gr.succ root [] (out ++ [x]) seen nx := by
              have z : OInv gr.succ root pre (out ++ [x]) seen nx := OInv.pop (hst ▸ j0) (by omega)
              rw [hp0] at z; exact z
            refine WpG.go tabOK 5 [(7, .slice A16 (nO + 1) c17), (82, .slice A16 (nO + 1) c17)] rfl ⟨rfl, rfl, trivial⟩ ?_
            refine WpG.ownForm (ci := 0) rfl (by omega) (fun b18 eb18 => ?_)
            subst eb18
            refine WpG.call1 (ci := 0) rfl rfl rfl rfl rfl rfl rfl (Reverse_n (l := out ++ [x]) (by simp; omega) (by have := i0.len; simp; omega)) ?_
            rintro _ H1 _ - ⟨eH, rfl, rfl⟩
            rw [eH]; clear eH H1
            refine WpG.setL (L' := [Chunk.own 3 1 (some ⟨b18, 0, none⟩) c17 (nO + 1) ((out ++ [x]).reverse.map iv), Chunk.own 3 1 (some ⟨b6, 0, none⟩) cS (((nS : Int) - 1).toNat) ((stk.take ((nS : Int) - 1).toNat).map iv), Chunk.box b3 (nx.map iv) 125, Chunk.box b2 (seen.map Value.bool) 124, Chunk.box b1 [.slice A_gr_0 gr.succ.length c_gr_0, .slice A_gr_1 gr.pred.length c_gr_1] 65]) rfl ?_
            refine WpG.go tabOK 6 [(4, .slice (some ⟨b18, 0, none⟩) (nO + 1) c17)] rfl ⟨rfl, trivial⟩ ?_
            -- return 0, path FFFLG0L1FF
            exact WpG.ret tabOK (L' := [Chunk.own 3 1 (some ⟨b18, 0, none⟩) c17 (nO + 1) ((out ++ [x]).reverse.map iv)]) (.tmp rfl .nil) (.cons_cons _ (.cons _ (.cons _ (.cons _ (.cons _ .slnil))))) ⟨rfl, b18, c17, (out ++ [x]).reverse, by rw [hnr]; rfl, hO.finish, by rw [hnr]⟩
end Go.Proofs.YtdjemlkllbhdlaaGreat

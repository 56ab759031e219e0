/- Part 2 of the proof: Of a hammock of three blocks, either way round, the hammock, its cost and its merging are found, and behind a phi or a further way out none is: 'HammockThree' answers true at every input. No conditions. -/
import Derived.Test.YtakameggkkjcpaaGreatTK1
import Derived.Laws.Cover3
set_option linter.unusedVariables false
set_option linter.unusedSimpArgs false
set_option maxRecDepth 4000
namespace Go.Proofs.YtakameggkkjcpaaGreat
open Go Go.RowKit
theorem Mul64_calls {H : Hp} (y : Int) (h0 : 0 ≤ y) (h1 : y ≤ 2147483648) : CallG Tryz.prog 129 [.int .u64 1, .int .u64 y] H [] (fun v _ L' => v = .tuple #[.int .u64 0, .int .u64 y] ∧ L' = []) := by
 refine CallG.of Tryz.func129 rfl rfl rfl fun w0 => ?_
 refine WpG.g tabOK 8 rfl ?_
 refine WpG.y rfl rfl rfl rfl (RunY.and32 rfl rfl (by omega) (by omega)) ?_
 refine WpG.g tabOK 5 rfl ?_
 refine WpG.y rfl rfl rfl rfl (RunY.shr32 rfl rfl (by omega) (by omega)) ?_
 refine WpG.g tabOK 5 rfl ?_
 refine WpG.y rfl rfl rfl rfl (RunY.and32 rfl rfl (by omega) (by omega)) ?_
 refine WpG.g tabOK 5 rfl ?_
 refine WpG.y rfl rfl rfl rfl (RunY.shr32 rfl rfl (by omega) (by omega)) ?_
 refine WpG.gw tabOK 7 24 rfl (wrku (x := 1 * y) (by omega) (by omega)) ?_
 refine WpG.gw tabOK 7 27 rfl (wrku (x := 0 * y) (by omega) (by omega)) ?_
 refine WpG.g tabOK 1 rfl ?_
 refine WpG.y rfl rfl rfl rfl (RunY.shr32 rfl rfl (by omega) (by omega)) ?_
 refine WpG.gw tabOK 1 30 rfl (wrku (x := (0 * y) + 0) (by omega) (by omega)) ?_
 refine WpG.g tabOK 5 rfl ?_
 refine WpG.y rfl rfl rfl rfl (RunY.and32 rfl rfl (by omega) (by omega)) ?_
 refine WpG.g tabOK 5 rfl ?_
 refine WpG.y rfl rfl rfl rfl (RunY.shr32 rfl rfl (by omega) (by omega)) ?_
 refine WpG.gw tabOK 8 38 (v := .int .u64 0) rfl rfl ?_
 refine WpG.gw tabOK 1 39 rfl (wrku (x := ((0 * y) + 0) + 0) (by omega) (by omega)) ?_
 refine WpG.gw tabOK 7 42 (v := .int .u64 0) rfl rfl ?_
 refine WpG.gw tabOK 2 44 (v := .int .u64 0) rfl rfl ?_
 refine WpG.g tabOK 1 rfl ?_
 refine WpG.y rfl rfl rfl rfl (RunY.shr32 rfl rfl (by omega) (by omega)) ?_
 refine WpG.gw tabOK 1 47 (v := .int .u64 0) rfl rfl ?_
 refine WpG.gw tabOK 7 50 rfl (wrku (x := 1 * y) (by omega) (by omega)) ?_
 refine WpG.g tabOK 2 rfl ?_
 exact WpG.ret tabOK (L' := []) (.tmp rfl (.tmp rfl .nil)) .slnil ⟨by simp [resVal], rfl⟩
theorem Mul_calls {H : Hp} (y : Int) (h0 : 0 ≤ y) (h1 : y ≤ 2147483648) : CallG Tryz.prog 106 [.int .u64 1, .int .u64 y] H [] (fun v _ L' => v = .tuple #[.int .u64 0, .int .u64 y] ∧ L' = []) := by
 refine CallG.of Tryz.func106 rfl rfl rfl fun w0 => ?_
 refine WpG.g tabOK 12 rfl ?_
 refine WpG.callS rfl rfl rfl rfl rfl rfl hlr (Mul64_calls y (by omega) (by omega)) ?_
 refine WpG.g tabOK 13 rfl ?_
 exact WpG.ret tabOK (L' := []) (.tmp rfl (.tmp rfl .nil)) .slnil ⟨rfl, rfl⟩
theorem Repeat_pair {H : Hp} {b o c : Nat} {x : Int × Int} {vs : List Value} (rx : Rdc.rd H vs x) (hv : HCells H b o vs) (n : Nat) (hn : n ≤ 64) : CallG Tryz.prog 168 [.slice (some ⟨b, o, none⟩) 1 c, .int .i64 (n : Int)] H [] (fun v H' L' => H' = H ∧ ∃ b', v = .slice (some ⟨b', 0, none⟩) n n ∧ L' = [Chunk.own 81 2 (some ⟨b', 0, none⟩) n n (repC vs n)]) := by
 have lv : vs.length = 2 := Rdc.len rx
 obtain ⟨m0, hm0⟩ : ∃ m0, m0 = Nat.min 1 n := ⟨_, rfl⟩
 have hm1 : m0 ≤ n := hm0 ▸ Nat.min_le_right 1 n
 have hm2 : 0 < n → 1 ≤ m0 := fun h => by rw [hm0]; exact Nat.le_min.2 ⟨Nat.le_refl _, h⟩
 refine CallG.of Tryz.func168 rfl rfl rfl fun w0 => ?_
 refine WpG.g tabOK 10 rfl ?_
 refine WpG.caseD (t := 10) rfl (fun q10 => ?_) (fun q10 => ?_)
 ·refine WpG.g tabOK 2 rfl ?_
  exfalso
  omega
 refine WpG.gw tabOK 7 15 (v := .int .u64 1) rfl rfl ?_
 refine WpG.gw tabOK 2 17 rfl (wrku (x := (n : Int)) (by omega) (by omega)) ?_
 refine WpG.callS rfl rfl rfl rfl rfl rfl hlr (Mul_calls (n : Int) (by omega) (by omega)) ?_
 refine WpG.g tabOK 16 rfl ?_
 refine WpG.caseD (t := 26) rfl (fun q26 => ?_) (fun q26 => ?_)
 ·refine WpG.g tabOK 2 rfl ?_
  exfalso
  omega
 refine WpG.gw tabOK 6 29 rfl (wrk (x := (n : Int)) (by omega) (by omega)) ?_
 refine WpG.makeSliceW (n := n) tabOK rfl rfl rfl rfl rfl rfl rfl rfl (by omega) (fun b1 zs2 hzs2 => ?_)
 refine WpG.g tabOK 6 rfl ?_
 refine WpG.step (OpG.copy (ci := 0) (m := m0) (news := (repC vs m0)) tabOK rfl rfl rfl rfl rfl rfl rfl rfl rfl (hm0.symm) (by rw [repC_len, Rdc.len rx]; rfl) (fun w hs j u hu => hs.sub.cell (hv j u (repC_le (hm0 ▸ hu)))) (repC_one (Rdc.one rx) _) (putAt_in (by rw [repC_len, lv, show zs2.length = n * 2 from hzs2]; omega))) ?_
 rintro F1 H1 L1 ⟨eF, eH, eL⟩
 subst eF; subst eL; rw [eH]; clear eH H1
 refine WpG.g tabOK 5 rfl ?_
 refine WpG.wk (WpG.ind2 (fun (i : Int) (xs : List Value) => ⟨(n - i).toNat, [(7, .slice (some ⟨b1, 0, none⟩) n n), (8, .int .i64 i)], H, [Chunk.own 81 2 (some ⟨b1, 0, none⟩) n n xs], 0 ≤ i ∧ i ≤ n ∧ xs.length = n * vs.length ∧ xs.take (i.toNat * vs.length) = repC vs i.toNat ∧ (0 < n → 1 ≤ i)⟩) ?_ (m0 : Int) (zs2.take 0 ++ (repC vs m0) ++ zs2.drop (0 + List.length (repC vs m0))) (Repeat_start (by rw [lv]; exact hzs2) hm1 hm2)) rfl
 intro i xs inv ih1
 obtain ⟨i0, i1, i2, i3, i4⟩ := inv
 refine WpG.g tabOK 8 rfl ?_
 refine WpG.caseD (t := 37) rfl (fun q37 => ?_) (fun q37 => ?_)
 ·obtain ⟨m, hm⟩ : ∃ m, m = Nat.min i.toNat (n - i.toNat) := ⟨_, rfl⟩
  have m1 : m ≤ i.toNat := hm ▸ Nat.min_le_left _ _
  have m2 : m ≤ n - i.toNat := hm ▸ Nat.min_le_right _ _
  have m3 : 1 ≤ m := by have := i4 (by omega); rw [hm]; exact Nat.le_min.2 ⟨by omega, by omega⟩
  refine WpG.g tabOK 3 rfl ?_
  refine WpG.draw 10 [] mixed (by kernel_rfl) ?_
  refine WpD.g (listed' := lst 10 55) tabOK [0, 1, 2, 4, 5] (by kernel_rfl) rfl hlr hlr (.cons _ .slnil) ?_
  refine WpD.y (i := 3) (fuel := 4) (listed' := lst 10 63) (by kernel_rfl) rfl rfl rfl rfl hlr hlr (.cons _ .slnil) (RunY.sliceFrom tabOK rfl rfl rfl rfl rfl (by omega) (by omega) (by omega)) ?_
  refine WpD.y (i := 6) (fuel := 3) (listed' := lst 10 127) (by kernel_rfl) rfl rfl rfl rfl hlr hlr (.cons _ .slnil) (RunY.sliceTo tabOK rfl rfl rfl rfl rfl (by omega) (by omega)) ?_
  refine WpD.f (i := 7) (fuel := 2) (listed' := lst 10 255) (by kernel_rfl) hlr (OpG.copy (ci := 0) (m := m) (news := (repC vs m)) tabOK rfl rfl rfl rfl rfl rfl rfl rfl rfl (hm.symm) (by rw [repC_len, Rdc.len rx]; rfl) (fun w hs j u hu => by rw [Nat.zero_add]; exact own_at (ci := 0) hs rfl (rep_at i3 m1 hu)) (repC_one (Rdc.one rx) _) (putAt_in (by have h : 0 + i.toNat * 2 + (repC vs m).length ≤ xs.length := (by rw [repC_len, i2, lv]; omega); exact h))) ?_
  rintro F1 H1 L1 ⟨eF, eH, eL⟩
  subst eF; subst eL; rw [eH]; clear eH H1
  refine ⟨hlr, (.cons _ .slnil), ?_⟩
  change WpD _ _ _ _ _ _ _ _ _ _ _ _ _ _ [Chunk.own 81 2 (some ⟨b1, 0, none⟩) n n (xs.take (0 + i.toNat * 2) ++ (repC vs m) ++ xs.drop ((0 + i.toNat * 2) + List.length (repC vs m)))]
  refine WpD.gw (listed' := lst 10 511) tabOK [8] 46 (by kernel_rfl) rfl (wrk (x := i + (m : Int)) (by omega) (by omega)) hlr hlr (.cons _ .slnil) ?_
  refine WpD.g (listed' := lst 10 1023) tabOK [9] (by kernel_rfl) rfl hlr hlr (.cons _ .slnil) ?_
  refine WpD.done (by kernel_rfl) ?_
  refine WpG.g tabOK 2 rfl ?_
  refine WpG.wk (ih1 (i + (m : Int)) (xs.take (0 + i.toNat * 2) ++ (repC vs m) ++ xs.drop ((0 + i.toNat * 2) + List.length (repC vs m))) ?_ ?_) rfl
  ·dsimp only
   omega
  clear ih1
  show 0 ≤ (i + (m : Int)) ∧ (i + (m : Int)) ≤ n ∧ (xs.take (0 + i.toNat * 2) ++ (repC vs m) ++ xs.drop ((0 + i.toNat * 2) + List.length (repC vs m))).length = n * vs.length ∧ (xs.take (0 + i.toNat * 2) ++ (repC vs m) ++ xs.drop ((0 + i.toNat * 2) + List.length (repC vs m))).take ((i + (m : Int)).toNat * vs.length) = repC vs (i + (m : Int)).toNat ∧ (0 < n → 1 ≤ (i + (m : Int)))
  exact Repeat_back i0 i1 i2 i3 m2 (by rw [lv, Nat.zero_add]) rfl i4
 refine WpG.g tabOK 7 rfl ?_
 exact WpG.ret tabOK (L' := [Chunk.own 81 2 (some ⟨b1, 0, none⟩) n n xs]) (.tmp rfl .nil) (.cons_cons _ .slnil) ⟨rfl, _, rfl, by rw [Repeat_end (by omega : i.toNat = n) i2 i3]⟩
theorem Repeat_int {H : Hp} {b o c : Nat} {x : Int} {vs : List Value} (rx : Rdc.rd H vs x) (hv : HCells H b o vs) (n : Nat) (hn : n ≤ 64) : CallG Tryz.prog 89 [.slice (some ⟨b, o, none⟩) 1 c, .int .i64 (n : Int)] H [] (fun v H' L' => H' = H ∧ ∃ b', v = .slice (some ⟨b', 0, none⟩) n n ∧ L' = [Chunk.own 3 1 (some ⟨b', 0, none⟩) n n (repC vs n)]) := by
 have lv : vs.length = 1 := Rdc.len rx
 obtain ⟨m0, hm0⟩ : ∃ m0, m0 = Nat.min 1 n := ⟨_, rfl⟩
 have hm1 : m0 ≤ n := hm0 ▸ Nat.min_le_right 1 n
 have hm2 : 0 < n → 1 ≤ m0 := fun h => by rw [hm0]; exact Nat.le_min.2 ⟨Nat.le_refl _, h⟩
 refine CallG.of Tryz.func89 rfl rfl rfl fun w0 => ?_
 refine WpG.g tabOK 10 rfl ?_
 refine WpG.caseD (t := 10) rfl (fun q10 => ?_) (fun q10 => ?_)
 ·refine WpG.g tabOK 2 rfl ?_
  exfalso
  omega
 refine WpG.gw tabOK 7 15 (v := .int .u64 1) rfl rfl ?_
 refine WpG.gw tabOK 2 17 rfl (wrku (x := (n : Int)) (by omega) (by omega)) ?_
 refine WpG.callS rfl rfl rfl rfl rfl rfl hlr (Mul_calls (n : Int) (by omega) (by omega)) ?_
 refine WpG.g tabOK 16 rfl ?_
 refine WpG.caseD (t := 26) rfl (fun q26 => ?_) (fun q26 => ?_)
 ·refine WpG.g tabOK 2 rfl ?_
  exfalso
  omega
 refine WpG.gw tabOK 6 29 rfl (wrk (x := (n : Int)) (by omega) (by omega)) ?_
 refine WpG.makeSlice (n := n) tabOK rfl rfl rfl rfl rfl rfl rfl rfl rfl (by omega) (fun b1 => ?_)
 refine WpG.g tabOK 6 rfl ?_
 refine WpG.step (OpG.copy (ci := 0) (m := m0) (news := (repC vs m0)) tabOK rfl rfl rfl rfl rfl rfl rfl rfl rfl (hm0.symm) (by rw [repC_len, Rdc.len rx]; rfl) (fun w hs j u hu => hs.sub.cell (hv j u (repC_le (hm0 ▸ hu)))) (repC_one (Rdc.one rx) _) (putAt_in (by rw [repC_len, lv, List.length_replicate]; omega))) ?_
 rintro F1 H1 L1 ⟨eF, eH, eL⟩
 subst eF; subst eL; rw [eH]; clear eH H1
 refine WpG.g tabOK 5 rfl ?_
 refine WpG.wk (WpG.ind2 (fun (i : Int) (xs : List Value) => ⟨(n - i).toNat, [(7, .slice (some ⟨b1, 0, none⟩) n n), (8, .int .i64 i)], H, [Chunk.own 3 1 (some ⟨b1, 0, none⟩) n n xs], 0 ≤ i ∧ i ≤ n ∧ xs.length = n * vs.length ∧ xs.take (i.toNat * vs.length) = repC vs i.toNat ∧ (0 < n → 1 ≤ i)⟩) ?_ (m0 : Int) ((List.replicate n (.int .i64 0)).take 0 ++ (repC vs m0) ++ (List.replicate n (.int .i64 0)).drop (0 + List.length (repC vs m0))) (Repeat_start (by rw [lv]; exact (by simp)) hm1 hm2)) rfl
 intro i xs inv ih1
 obtain ⟨i0, i1, i2, i3, i4⟩ := inv
 refine WpG.g tabOK 8 rfl ?_
 refine WpG.caseD (t := 37) rfl (fun q37 => ?_) (fun q37 => ?_)
 ·obtain ⟨m, hm⟩ : ∃ m, m = Nat.min i.toNat (n - i.toNat) := ⟨_, rfl⟩
  have m1 : m ≤ i.toNat := hm ▸ Nat.min_le_left _ _
  have m2 : m ≤ n - i.toNat := hm ▸ Nat.min_le_right _ _
  have m3 : 1 ≤ m := by have := i4 (by omega); rw [hm]; exact Nat.le_min.2 ⟨by omega, by omega⟩
  refine WpG.g tabOK 3 rfl ?_
  refine WpG.draw 10 [] mixed (by kernel_rfl) ?_
  refine WpD.g (listed' := lst 10 55) tabOK [0, 1, 2, 4, 5] (by kernel_rfl) rfl hlr hlr (.cons _ .slnil) ?_
  refine WpD.y (i := 3) (fuel := 4) (listed' := lst 10 63) (by kernel_rfl) rfl rfl rfl rfl hlr hlr (.cons _ .slnil) (RunY.sliceFrom tabOK rfl rfl rfl rfl rfl (by omega) (by omega) (by omega)) ?_
  refine WpD.y (i := 6) (fuel := 3) (listed' := lst 10 127) (by kernel_rfl) rfl rfl rfl rfl hlr hlr (.cons _ .slnil) (RunY.sliceTo tabOK rfl rfl rfl rfl rfl (by omega) (by omega)) ?_
  refine WpD.f (i := 7) (fuel := 2) (listed' := lst 10 255) (by kernel_rfl) hlr (OpG.copy (ci := 0) (m := m) (news := (repC vs m)) tabOK rfl rfl rfl rfl rfl rfl rfl rfl rfl (hm.symm) (by rw [repC_len, Rdc.len rx]; rfl) (fun w hs j u hu => by rw [Nat.zero_add]; exact own_at (ci := 0) hs rfl (rep_at i3 m1 hu)) (repC_one (Rdc.one rx) _) (putAt_in (by have h : 0 + i.toNat * 1 + (repC vs m).length ≤ xs.length := (by rw [repC_len, i2, lv]; omega); exact h))) ?_
  rintro F1 H1 L1 ⟨eF, eH, eL⟩
  subst eF; subst eL; rw [eH]; clear eH H1
  refine ⟨hlr, (.cons _ .slnil), ?_⟩
  change WpD _ _ _ _ _ _ _ _ _ _ _ _ _ _ [Chunk.own 3 1 (some ⟨b1, 0, none⟩) n n (xs.take (0 + i.toNat * 1) ++ (repC vs m) ++ xs.drop ((0 + i.toNat * 1) + List.length (repC vs m)))]
  refine WpD.gw (listed' := lst 10 511) tabOK [8] 46 (by kernel_rfl) rfl (wrk (x := i + (m : Int)) (by omega) (by omega)) hlr hlr (.cons _ .slnil) ?_
  refine WpD.g (listed' := lst 10 1023) tabOK [9] (by kernel_rfl) rfl hlr hlr (.cons _ .slnil) ?_
  refine WpD.done (by kernel_rfl) ?_
  refine WpG.g tabOK 2 rfl ?_
  refine WpG.wk (ih1 (i + (m : Int)) (xs.take (0 + i.toNat * 1) ++ (repC vs m) ++ xs.drop ((0 + i.toNat * 1) + List.length (repC vs m))) ?_ ?_) rfl
  ·dsimp only
   omega
  clear ih1
  show 0 ≤ (i + (m : Int)) ∧ (i + (m : Int)) ≤ n ∧ (xs.take (0 + i.toNat * 1) ++ (repC vs m) ++ xs.drop ((0 + i.toNat * 1) + List.length (repC vs m))).length = n * vs.length ∧ (xs.take (0 + i.toNat * 1) ++ (repC vs m) ++ xs.drop ((0 + i.toNat * 1) + List.length (repC vs m))).take ((i + (m : Int)).toNat * vs.length) = repC vs (i + (m : Int)).toNat ∧ (0 < n → 1 ≤ (i + (m : Int)))
  exact Repeat_back i0 i1 i2 i3 m2 (by rw [lv, Nat.zero_add]) rfl i4
 refine WpG.g tabOK 7 rfl ?_
 exact WpG.ret tabOK (L' := [Chunk.own 3 1 (some ⟨b1, 0, none⟩) n n xs]) (.tmp rfl .nil) (.cons_cons _ .slnil) ⟨rfl, _, rfl, by rw [Repeat_end (by omega : i.toNat = n) i2 i3]⟩
theorem repC_pair (x : Int × Int) : ∀ n, repC [.int .i64 x.1, .int .i64 x.2] n = flatP (List.replicate n x)
 | 0 => rfl
 | n + 1 => by
  have := repC_pair x n
  unfold repC flatP at *
  rw [List.replicate_succ, List.replicate_succ, List.flatten_cons, List.flatMap_cons, this]
theorem minI64 {x : Int} (h : U64 x) : I64 (if 128 < x then 128 else x) := by
 have := h.1
 split <;> exact ⟨by omega, by omega⟩
theorem Repeat_pair_of {H : Hp} {A : Option Addr} {c : Nat} {x : Int × Int} (hr : RdS H A [x]) (m : Int) (h0 : 0 ≤ m) (hm : m ≤ 64) : CallG Tryz.prog 168 [.slice A 1 c, .int .i64 m] H []
  fun v H' L' => H' = H ∧ ∃ b', v = .slice (some ⟨b', 0, none⟩) m.toNat m.toNat ∧ L' = [Chunk.own 81 2 (some ⟨b', 0, none⟩) m.toNat m.toNat (flatP (List.replicate m.toNat x))] := by
 obtain ⟨b, o, rfl, vs, rx, hv⟩ := hr.at_ (i := 0) (by omega) (by simp)
 have rx' : Rdc.rd H vs x := rx
 have hv' : HCells H b o vs := by simpa using hv
 obtain ⟨n, rfl⟩ := Int.eq_ofNat_of_zero_le h0
 refine (Repeat_pair (c := c) rx' hv' n (by omega)).mono fun v H' L' hH ⟨e, b', e1, e2⟩ => ⟨e, b', e1, ?_⟩
 rw [e2]
 rw [rx'.1, repC_pair]; rfl
theorem row_calls {H : Hp} {A : Option Addr} {n c : Nat} : CallG Tryz.prog 167 [.slice A n c] H [] (fun v _ L' => v = .slice A n c ∧ L' = []) := by
 refine CallG.of Tryz.func167 rfl rfl rfl fun w0 => ?_
 refine WpG.g tabOK 9 rfl ?_
 exact WpG.ret tabOK (L' := []) (.tmp rfl .nil) .slnil ⟨rfl, rfl⟩
theorem takes_calls {H : Hp} {o : OpD} {cs_o : List Value} (rd_o : Rdc.rd H cs_o o) (hs : shapeD o.bits o.lanes = true) : CallG Tryz.prog 163 [.agg cs_o.toArray] H [] (fun v H' L' => ∃ A c, v = .tuple #[.slice A (takesD o).length c, .bool (takesOK o)] ∧ RdS H' A (takesD o) ∧ L' = []) := by
 have rd_o' := rd_o; obtain ⟨A_o_4, c_o_4, rfl, u_o_4, r_o_4, k_o_0, k_o_1, k_o_2, k_o_3, k_o_4⟩ := rd_o
 have hl := lanes_of hs
 have hb := bits_of hs
 have := k_o_4.1; have := k_o_4.2
 have := k_o_1.1; have := k_o_1.2
 refine CallG.of Tryz.func163 rfl rfl rfl fun w0 => ?_
 refine WpG.g tabOK 2 rfl ?_
 refine WpG.box rfl rfl rfl rfl rfl (fun b1 => ?_)
 refine WpG.g tabOK 4 rfl ?_
 refine WpG.draw 18 [Chunk.box b1 [.int .i64 o.kind, .int .i64 o.bits, .int .i64 o.lanes, .int .i64 o.dst, .slice A_o_4 o.args.length c_o_4, .int .u64 o.imm] 53] mixed (by kernel_rfl) ?_
 refine WpD.g (listed' := lst 18 805) tabOK [0, 2, 5, 8, 9] (by kernel_rfl) rfl hlr hlr (.refl _) ?_
 refine WpD.y (i := 1) (fuel := 12) (listed' := lst 18 807) (by kernel_rfl) rfl rfl rfl rfl hlr hlr (.refl _) (RunY.loadBox (ci := 0) tabOK rfl rfl rfl rfl) ?_
 refine WpD.y (i := 3) (fuel := 11) (listed' := lst 18 815) (by kernel_rfl) rfl rfl rfl rfl hlr hlr (.refl _) (RunY.loadBox (ci := 0) tabOK rfl rfl rfl rfl) ?_
 refine WpD.g (listed' := lst 18 831) tabOK [4] (by kernel_rfl) rfl hlr hlr (.refl _) ?_
 refine WpD.y (i := 6) (fuel := 9) (listed' := lst 18 895) (by kernel_rfl) rfl rfl rfl rfl hlr hlr (.refl _) (RunY.loadBox (ci := 0) tabOK rfl rfl rfl rfl) ?_
 refine WpD.g (listed' := lst 18 1023) tabOK [7] (by kernel_rfl) rfl hlr hlr (.refl _) ?_
 refine WpD.allocs (listed' := lst 18 16383) tabOK [⟨10, 4, 81, [.int .i64 0, .int .i64 0]⟩, ⟨11, 5, 81, [.int .i64 0, .int .i64 0]⟩, ⟨12, 6, 81, [.int .i64 0, .int .i64 0]⟩, ⟨13, 7, 81, [.int .i64 0, .int .i64 0]⟩] ⟨⟨_, _, _, _, rfl, rfl, rfl, rfl⟩, ⟨_, _, _, _, rfl, rfl, rfl, rfl⟩, ⟨_, _, _, _, rfl, rfl, rfl, rfl⟩, ⟨_, _, _, _, rfl, rfl, rfl, rfl⟩, trivial⟩ (by kernel_rfl) (by decide) (by decide) hlr hlr (.refl _) ?_
 rintro l hl
 obtain ⟨b2, b3, b4, b5, rfl⟩ : ∃ b2 b3 b4 b5 : Nat, l = [(⟨10, 4, 81, [.int .i64 0, .int .i64 0]⟩, b2), (⟨11, 5, 81, [.int .i64 0, .int .i64 0]⟩, b3), (⟨12, 6, 81, [.int .i64 0, .int .i64 0]⟩, b4), (⟨13, 7, 81, [.int .i64 0, .int .i64 0]⟩, b5)] := by
  match l, hl with | [(x0, y0), (x1, y1), (x2, y2), (x3, y3)], hl => simp only [List.map_cons, List.map_nil, List.cons.injEq, and_true] at hl; obtain ⟨rfl, rfl, rfl, rfl⟩ := hl; exact ⟨_, _, _, _, rfl⟩
 change WpD _ _ _ _ _ _ _ _ _ _ _ _ ([(4, .pointer (some ⟨b2, 0, none⟩)), (5, .pointer (some ⟨b3, 0, none⟩)), (6, .pointer (some ⟨b4, 0, none⟩)), (7, .pointer (some ⟨b5, 0, none⟩))] ++ _) _ [Chunk.box b2 [.int .i64 0, .int .i64 0] 81, Chunk.box b3 [.int .i64 0, .int .i64 0] 81, Chunk.box b4 [.int .i64 0, .int .i64 0] 81, Chunk.box b5 [.int .i64 0, .int .i64 0] 81, Chunk.box b1 [.int .i64 o.kind, .int .i64 o.bits, .int .i64 o.lanes, .int .i64 o.dst, .slice A_o_4 o.args.length c_o_4, .int .u64 o.imm] 53]
 refine WpD.f (i := 14) (fuel := 3) (listed' := lst 18 32767) (by kernel_rfl) hlr (OpG.storeBox (ci := 0) (cs' := [.int .i64 o.bits, .int .i64 o.lanes]) tabOK rfl rfl rfl rfl rfl rfl rfl rfl rfl) ?_
 rintro F1 H1 L1 ⟨eF, eH, eL⟩
 subst eF; subst eL; rw [eH]; clear eH H1
 refine ⟨hlr, (.cons _ (.cons _ (.cons _ (.cons _ (.cons_cons _ .slnil))))), ?_⟩
 change WpD _ _ _ _ _ _ _ _ _ _ _ _ _ _ [Chunk.box b2 [.int .i64 o.bits, .int .i64 o.lanes] 81, Chunk.box b3 [.int .i64 0, .int .i64 0] 81, Chunk.box b4 [.int .i64 0, .int .i64 0] 81, Chunk.box b5 [.int .i64 0, .int .i64 0] 81, Chunk.box b1 [.int .i64 o.kind, .int .i64 o.bits, .int .i64 o.lanes, .int .i64 o.dst, .slice A_o_4 o.args.length c_o_4, .int .u64 o.imm] 53]
 refine WpD.f (i := 15) (fuel := 2) (listed' := lst 18 65535) (by kernel_rfl) hlr (OpG.storeBox (ci := 1) (cs' := [.int .i64 o.bits, .int .i64 1]) tabOK rfl rfl rfl rfl rfl rfl rfl rfl rfl) ?_
 rintro F1 H1 L1 ⟨eF, eH, eL⟩
 subst eF; subst eL; rw [eH]; clear eH H1
 refine ⟨hlr, (.cons _ (.cons _ (.cons _ (.cons _ (.cons_cons _ .slnil))))), ?_⟩
 change WpD _ _ _ _ _ _ _ _ _ _ _ _ _ _ [Chunk.box b2 [.int .i64 o.bits, .int .i64 o.lanes] 81, Chunk.box b3 [.int .i64 o.bits, .int .i64 1] 81, Chunk.box b4 [.int .i64 0, .int .i64 0] 81, Chunk.box b5 [.int .i64 0, .int .i64 0] 81, Chunk.box b1 [.int .i64 o.kind, .int .i64 o.bits, .int .i64 o.lanes, .int .i64 o.dst, .slice A_o_4 o.args.length c_o_4, .int .u64 o.imm] 53]
 refine WpD.f (i := 16) (fuel := 1) (listed' := lst 18 131071) (by kernel_rfl) hlr (OpG.storeBox (ci := 2) (cs' := [.int .i64 1, .int .i64 1]) tabOK rfl rfl rfl rfl rfl rfl rfl rfl rfl) ?_
 rintro F1 H1 L1 ⟨eF, eH, eL⟩
 subst eF; subst eL; rw [eH]; clear eH H1
 refine ⟨hlr, (.cons _ (.cons _ (.cons _ (.cons _ (.cons_cons _ .slnil))))), ?_⟩
 change WpD _ _ _ _ _ _ _ _ _ _ _ _ _ _ [Chunk.box b2 [.int .i64 o.bits, .int .i64 o.lanes] 81, Chunk.box b3 [.int .i64 o.bits, .int .i64 1] 81, Chunk.box b4 [.int .i64 1, .int .i64 1] 81, Chunk.box b5 [.int .i64 0, .int .i64 0] 81, Chunk.box b1 [.int .i64 o.kind, .int .i64 o.bits, .int .i64 o.lanes, .int .i64 o.dst, .slice A_o_4 o.args.length c_o_4, .int .u64 o.imm] 53]
 refine WpD.f (i := 17) (fuel := 0) (listed' := lst 18 262143) (by kernel_rfl) hlr (OpG.storeBox (ci := 3) (cs' := [.int .i64 64, .int .i64 1]) tabOK rfl rfl rfl rfl rfl rfl rfl rfl rfl) ?_
 rintro F1 H1 L1 ⟨eF, eH, eL⟩
 subst eF; subst eL; rw [eH]; clear eH H1
 refine ⟨hlr, (.cons _ (.cons _ (.cons _ (.cons _ (.cons_cons _ .slnil))))), ?_⟩
 change WpD _ _ _ _ _ _ _ _ _ _ _ _ _ _ [Chunk.box b2 [.int .i64 o.bits, .int .i64 o.lanes] 81, Chunk.box b3 [.int .i64 o.bits, .int .i64 1] 81, Chunk.box b4 [.int .i64 1, .int .i64 1] 81, Chunk.box b5 [.int .i64 64, .int .i64 1] 81, Chunk.box b1 [.int .i64 o.kind, .int .i64 o.bits, .int .i64 o.lanes, .int .i64 o.dst, .slice A_o_4 o.args.length c_o_4, .int .u64 o.imm] 53]
 refine WpD.done (by kernel_rfl) ?_
 refine WpG.g tabOK 1 rfl ?_
 refine WpG.draw 8 [Chunk.box b2 [.int .i64 o.bits, .int .i64 o.lanes] 81, Chunk.box b3 [.int .i64 o.bits, .int .i64 1] 81, Chunk.box b4 [.int .i64 1, .int .i64 1] 81, Chunk.box b5 [.int .i64 64, .int .i64 1] 81, Chunk.box b1 [.int .i64 o.kind, .int .i64 o.bits, .int .i64 o.lanes, .int .i64 o.dst, .slice A_o_4 o.args.length c_o_4, .int .u64 o.imm] 53] mixed (by kernel_rfl) ?_
 refine WpD.g (listed' := lst 8 9) tabOK [0, 3] (by kernel_rfl) rfl hlr hlr (.refl _) ?_
 refine WpD.y (i := 1) (fuel := 5) (listed' := lst 8 11) (by kernel_rfl) rfl rfl rfl rfl hlr hlr (.refl _) (RunY.loadBox (ci := 4) tabOK rfl rfl rfl rfl) ?_
 refine WpD.g (listed' := lst 8 79) tabOK [2, 6] (by kernel_rfl) rfl hlr hlr (.refl _) ?_
 refine WpD.y (i := 4) (fuel := 2) (listed' := lst 8 95) (by kernel_rfl) rfl rfl rfl rfl hlr hlr (.refl _) (RunY.loadBox (ci := 4) tabOK rfl rfl rfl rfl) ?_
 refine WpD.g (listed' := lst 8 255) tabOK [5, 7] (by kernel_rfl) rfl hlr hlr (.refl _) ?_
 refine WpD.done (by kernel_rfl) ?_
 refine WpG.g tabOK 4 rfl ?_
 refine WpG.y rfl rfl rfl rfl (RunY.loadBox (ci := 4) tabOK rfl rfl rfl rfl) ?_
 refine WpG.g tabOK 7 rfl ?_
 refine WpG.caseE (t := 28) rfl (fun q28 => ?_) (fun q28 => ?_)
 ·refine WpG.g tabOK 2 rfl ?_
  refine WpG.draw 10 [Chunk.box b2 [.int .i64 o.bits, .int .i64 o.lanes] 81, Chunk.box b3 [.int .i64 o.bits, .int .i64 1] 81, Chunk.box b4 [.int .i64 1, .int .i64 1] 81, Chunk.box b5 [.int .i64 64, .int .i64 1] 81, Chunk.box b1 [.int .i64 o.kind, .int .i64 o.bits, .int .i64 o.lanes, .int .i64 o.dst, .slice A_o_4 o.args.length c_o_4, .int .u64 o.imm] 53] mixed (by kernel_rfl) ?_
  refine WpD.g (listed' := lst 10 37) tabOK [0, 2, 5] (by kernel_rfl) rfl hlr hlr (.refl _) ?_
  refine WpD.y (i := 1) (fuel := 6) (listed' := lst 10 39) (by kernel_rfl) rfl rfl rfl rfl hlr hlr (.refl _) (RunY.loadBox (ci := 4) tabOK rfl rfl rfl rfl) ?_
  refine WpD.y (i := 3) (fuel := 5) (listed' := lst 10 47) (by kernel_rfl) rfl rfl rfl rfl hlr hlr (.refl _) (RunY.loadBox (ci := 4) tabOK rfl rfl rfl rfl) ?_
  refine WpD.y (i := 6) (fuel := 4) (listed' := lst 10 111) (by kernel_rfl) rfl rfl rfl rfl hlr hlr (.refl _) (RunY.loadBox (ci := 4) tabOK rfl rfl rfl rfl) ?_
  refine WpD.callS (i := 4) (fuel := 3) (listed' := lst 10 127) (by kernel_rfl) rfl rfl rfl rfl rfl rfl hlr (Cut_calls o.imm o.bits (by omega)) hlr hlr (.refl _) ?_
  refine WpD.g (listed' := lst 10 1023) tabOK [7, 8, 9] (by kernel_rfl) rfl hlr hlr (.refl _) ?_
  refine WpD.done (by kernel_rfl) ?_
  exact WpG.ret tabOK (L' := []) (.tmp rfl (.tmp rfl .nil)) (.cons _ (.cons _ (.cons _ (.cons _ (.cons _ .slnil))))) (takes_ret (by simp [takesD, *]) (by simp [takesOK, *]) (by first | rfl | simp) (RdS.nil _ _))
 refine WpG.g tabOK 7 rfl ?_
 refine WpG.caseE (t := 38) rfl (fun q38 => ?_) (fun q38 => ?_)
 ·refine WpG.g tabOK 4 rfl ?_
  refine WpG.draw 9 [Chunk.box b2 [.int .i64 o.bits, .int .i64 o.lanes] 81, Chunk.box b3 [.int .i64 o.bits, .int .i64 1] 81, Chunk.box b4 [.int .i64 1, .int .i64 1] 81, Chunk.box b5 [.int .i64 64, .int .i64 1] 81, Chunk.box b1 [.int .i64 o.kind, .int .i64 o.bits, .int .i64 o.lanes, .int .i64 o.dst, .slice A_o_4 o.args.length c_o_4, .int .u64 o.imm] 53] mixed (by kernel_rfl) ?_
  refine WpD.g (listed' := lst 9 16) tabOK [4] (by kernel_rfl) rfl hlr hlr (.refl _) ?_
  refine WpD.y (i := 0) (fuel := 7) (listed' := lst 9 17) (by kernel_rfl) rfl rfl rfl rfl hlr hlr (.refl _) (RunY.loadBox (ci := 0) tabOK rfl rfl rfl rfl) ?_
  refine WpD.y (i := 1) (fuel := 6) (listed' := lst 9 19) (by kernel_rfl) rfl rfl rfl rfl hlr hlr (.refl _) (RunY.loadBox (ci := 0) tabOK rfl rfl rfl rfl) ?_
  refine WpD.y (i := 5) (fuel := 5) (listed' := lst 9 51) (by kernel_rfl) rfl rfl rfl rfl hlr hlr (.refl _) (RunY.loadBox (ci := 4) tabOK rfl rfl rfl rfl) ?_
  refine WpD.g (listed' := lst 9 115) tabOK [6] (by kernel_rfl) rfl hlr hlr (.refl _) ?_
  refine WpD.f (i := 2) (fuel := 3) (listed' := lst 9 119) (by kernel_rfl) hlr (OpG.buildSlice (xs := [.int .i64 o.bits, .int .i64 o.lanes, .int .i64 o.bits, .int .i64 o.lanes]) tabOK rfl rfl rfl rfl rfl rfl rfl rfl rfl rfl) ?_
  rintro F1 H1 L1 ⟨b6, eF, eH, eL⟩
  subst eF; subst eL; rw [eH]; clear eH H1
  refine ⟨hlr, (.cons _ (.cons_cons _ (.cons_cons _ (.cons_cons _ (.cons_cons _ (.cons_cons _ .slnil)))))), ?_⟩
  change WpD _ _ _ _ _ _ _ _ _ _ _ _ _ _ [Chunk.own 81 2 (some ⟨b6, 0, none⟩) 2 2 [.int .i64 o.bits, .int .i64 o.lanes, .int .i64 o.bits, .int .i64 o.lanes], Chunk.box b2 [.int .i64 o.bits, .int .i64 o.lanes] 81, Chunk.box b3 [.int .i64 o.bits, .int .i64 1] 81, Chunk.box b4 [.int .i64 1, .int .i64 1] 81, Chunk.box b5 [.int .i64 64, .int .i64 1] 81, Chunk.box b1 [.int .i64 o.kind, .int .i64 o.bits, .int .i64 o.lanes, .int .i64 o.dst, .slice A_o_4 o.args.length c_o_4, .int .u64 o.imm] 53]
  refine WpD.callS (i := 3) (fuel := 2) (listed' := lst 9 127) (by kernel_rfl) rfl rfl rfl rfl rfl rfl hlr (row_calls) hlr hlr (.cons _ (.cons_cons _ (.cons_cons _ (.cons_cons _ (.cons_cons _ (.cons_cons _ .slnil)))))) ?_
  refine WpD.g (listed' := lst 9 511) tabOK [7, 8] (by kernel_rfl) rfl hlr hlr (.cons _ (.cons_cons _ (.cons_cons _ (.cons_cons _ (.cons_cons _ (.cons_cons _ .slnil)))))) ?_
  refine WpD.done (by kernel_rfl) ?_
  refine WpG.ownCap (ci := 0) rfl (fun uz8 => ?_)
  refine WpG.freezeOwn (ci := 0) rfl (fun H8 hH8 fz8 => ?_)
  have rz8 : RdS H8 (some ⟨b6, 0, none⟩) [(o.bits, o.lanes), (o.bits, o.lanes)] := RdS.of_own (H := H) (show RdL H [.int .i64 o.bits, .int .i64 o.lanes, .int .i64 o.bits, .int .i64 o.lanes] [(o.bits, o.lanes), (o.bits, o.lanes)] from RdL_pairs [(o.bits, o.lanes), (o.bits, o.lanes)] ⟨⟨k_o_1, k_o_2⟩, ⟨k_o_1, k_o_2⟩, trivial⟩) (rfl) (by simp) hH8 fz8
  exact WpG.ret tabOK (L' := []) (.tmp rfl (.tmp rfl .nil)) (.cons _ (.cons _ (.cons _ (.cons _ (.cons _ .slnil))))) (takes_ret (by simp [takesD, *]) (by simp [takesOK, *]) (by first | rfl | simp) rz8)
 refine WpG.g tabOK 6 rfl ?_
 refine WpG.caseE (t := 38) rfl (fun q38_2 => ?_) (fun q38_2 => ?_)
 ·refine WpG.g tabOK 4 rfl ?_
  refine WpG.draw 9 [Chunk.box b2 [.int .i64 o.bits, .int .i64 o.lanes] 81, Chunk.box b3 [.int .i64 o.bits, .int .i64 1] 81, Chunk.box b4 [.int .i64 1, .int .i64 1] 81, Chunk.box b5 [.int .i64 64, .int .i64 1] 81, Chunk.box b1 [.int .i64 o.kind, .int .i64 o.bits, .int .i64 o.lanes, .int .i64 o.dst, .slice A_o_4 o.args.length c_o_4, .int .u64 o.imm] 53] mixed (by kernel_rfl) ?_
  refine WpD.g (listed' := lst 9 16) tabOK [4] (by kernel_rfl) rfl hlr hlr (.refl _) ?_
  refine WpD.y (i := 0) (fuel := 7) (listed' := lst 9 17) (by kernel_rfl) rfl rfl rfl rfl hlr hlr (.refl _) (RunY.loadBox (ci := 0) tabOK rfl rfl rfl rfl) ?_
  refine WpD.y (i := 1) (fuel := 6) (listed' := lst 9 19) (by kernel_rfl) rfl rfl rfl rfl hlr hlr (.refl _) (RunY.loadBox (ci := 0) tabOK rfl rfl rfl rfl) ?_
  refine WpD.y (i := 5) (fuel := 5) (listed' := lst 9 51) (by kernel_rfl) rfl rfl rfl rfl hlr hlr (.refl _) (RunY.loadBox (ci := 4) tabOK rfl rfl rfl rfl) ?_
  refine WpD.g (listed' := lst 9 115) tabOK [6] (by kernel_rfl) rfl hlr hlr (.refl _) ?_
  refine WpD.f (i := 2) (fuel := 3) (listed' := lst 9 119) (by kernel_rfl) hlr (OpG.buildSlice (xs := [.int .i64 o.bits, .int .i64 o.lanes, .int .i64 o.bits, .int .i64 o.lanes]) tabOK rfl rfl rfl rfl rfl rfl rfl rfl rfl rfl) ?_
  rintro F1 H1 L1 ⟨b9, eF, eH, eL⟩
  subst eF; subst eL; rw [eH]; clear eH H1
  refine ⟨hlr, (.cons _ (.cons_cons _ (.cons_cons _ (.cons_cons _ (.cons_cons _ (.cons_cons _ .slnil)))))), ?_⟩
  change WpD _ _ _ _ _ _ _ _ _ _ _ _ _ _ [Chunk.own 81 2 (some ⟨b9, 0, none⟩) 2 2 [.int .i64 o.bits, .int .i64 o.lanes, .int .i64 o.bits, .int .i64 o.lanes], Chunk.box b2 [.int .i64 o.bits, .int .i64 o.lanes] 81, Chunk.box b3 [.int .i64 o.bits, .int .i64 1] 81, Chunk.box b4 [.int .i64 1, .int .i64 1] 81, Chunk.box b5 [.int .i64 64, .int .i64 1] 81, Chunk.box b1 [.int .i64 o.kind, .int .i64 o.bits, .int .i64 o.lanes, .int .i64 o.dst, .slice A_o_4 o.args.length c_o_4, .int .u64 o.imm] 53]
  refine WpD.callS (i := 3) (fuel := 2) (listed' := lst 9 127) (by kernel_rfl) rfl rfl rfl rfl rfl rfl hlr (row_calls) hlr hlr (.cons _ (.cons_cons _ (.cons_cons _ (.cons_cons _ (.cons_cons _ (.cons_cons _ .slnil)))))) ?_
  refine WpD.g (listed' := lst 9 511) tabOK [7, 8] (by kernel_rfl) rfl hlr hlr (.cons _ (.cons_cons _ (.cons_cons _ (.cons_cons _ (.cons_cons _ (.cons_cons _ .slnil)))))) ?_
  refine WpD.done (by kernel_rfl) ?_
  refine WpG.ownCap (ci := 0) rfl (fun uz11 => ?_)
  refine WpG.freezeOwn (ci := 0) rfl (fun H11 hH11 fz11 => ?_)
  have rz11 : RdS H11 (some ⟨b9, 0, none⟩) [(o.bits, o.lanes), (o.bits, o.lanes)] := RdS.of_own (H := H) (show RdL H [.int .i64 o.bits, .int .i64 o.lanes, .int .i64 o.bits, .int .i64 o.lanes] [(o.bits, o.lanes), (o.bits, o.lanes)] from RdL_pairs [(o.bits, o.lanes), (o.bits, o.lanes)] ⟨⟨k_o_1, k_o_2⟩, ⟨k_o_1, k_o_2⟩, trivial⟩) (rfl) (by simp) hH11 fz11
  exact WpG.ret tabOK (L' := []) (.tmp rfl (.tmp rfl .nil)) (.cons _ (.cons _ (.cons _ (.cons _ (.cons _ .slnil))))) (takes_ret (by simp [takesD, *]) (by simp [takesOK, *]) (by first | rfl | simp) rz11)
 refine WpG.g tabOK 6 rfl ?_
 refine WpG.caseE (t := 38) rfl (fun q38_3 => ?_) (fun q38_3 => ?_)
 ·refine WpG.g tabOK 4 rfl ?_
  refine WpG.draw 9 [Chunk.box b2 [.int .i64 o.bits, .int .i64 o.lanes] 81, Chunk.box b3 [.int .i64 o.bits, .int .i64 1] 81, Chunk.box b4 [.int .i64 1, .int .i64 1] 81, Chunk.box b5 [.int .i64 64, .int .i64 1] 81, Chunk.box b1 [.int .i64 o.kind, .int .i64 o.bits, .int .i64 o.lanes, .int .i64 o.dst, .slice A_o_4 o.args.length c_o_4, .int .u64 o.imm] 53] mixed (by kernel_rfl) ?_
  refine WpD.g (listed' := lst 9 16) tabOK [4] (by kernel_rfl) rfl hlr hlr (.refl _) ?_
  refine WpD.y (i := 0) (fuel := 7) (listed' := lst 9 17) (by kernel_rfl) rfl rfl rfl rfl hlr hlr (.refl _) (RunY.loadBox (ci := 0) tabOK rfl rfl rfl rfl) ?_
  refine WpD.y (i := 1) (fuel := 6) (listed' := lst 9 19) (by kernel_rfl) rfl rfl rfl rfl hlr hlr (.refl _) (RunY.loadBox (ci := 0) tabOK rfl rfl rfl rfl) ?_
  refine WpD.y (i := 5) (fuel := 5) (listed' := lst 9 51) (by kernel_rfl) rfl rfl rfl rfl hlr hlr (.refl _) (RunY.loadBox (ci := 4) tabOK rfl rfl rfl rfl) ?_
  refine WpD.g (listed' := lst 9 115) tabOK [6] (by kernel_rfl) rfl hlr hlr (.refl _) ?_
  refine WpD.f (i := 2) (fuel := 3) (listed' := lst 9 119) (by kernel_rfl) hlr (OpG.buildSlice (xs := [.int .i64 o.bits, .int .i64 o.lanes, .int .i64 o.bits, .int .i64 o.lanes]) tabOK rfl rfl rfl rfl rfl rfl rfl rfl rfl rfl) ?_
  rintro F1 H1 L1 ⟨b12, eF, eH, eL⟩
  subst eF; subst eL; rw [eH]; clear eH H1
  refine ⟨hlr, (.cons _ (.cons_cons _ (.cons_cons _ (.cons_cons _ (.cons_cons _ (.cons_cons _ .slnil)))))), ?_⟩
  change WpD _ _ _ _ _ _ _ _ _ _ _ _ _ _ [Chunk.own 81 2 (some ⟨b12, 0, none⟩) 2 2 [.int .i64 o.bits, .int .i64 o.lanes, .int .i64 o.bits, .int .i64 o.lanes], Chunk.box b2 [.int .i64 o.bits, .int .i64 o.lanes] 81, Chunk.box b3 [.int .i64 o.bits, .int .i64 1] 81, Chunk.box b4 [.int .i64 1, .int .i64 1] 81, Chunk.box b5 [.int .i64 64, .int .i64 1] 81, Chunk.box b1 [.int .i64 o.kind, .int .i64 o.bits, .int .i64 o.lanes, .int .i64 o.dst, .slice A_o_4 o.args.length c_o_4, .int .u64 o.imm] 53]
  refine WpD.callS (i := 3) (fuel := 2) (listed' := lst 9 127) (by kernel_rfl) rfl rfl rfl rfl rfl rfl hlr (row_calls) hlr hlr (.cons _ (.cons_cons _ (.cons_cons _ (.cons_cons _ (.cons_cons _ (.cons_cons _ .slnil)))))) ?_
  refine WpD.g (listed' := lst 9 511) tabOK [7, 8] (by kernel_rfl) rfl hlr hlr (.cons _ (.cons_cons _ (.cons_cons _ (.cons_cons _ (.cons_cons _ (.cons_cons _ .slnil)))))) ?_
  refine WpD.done (by kernel_rfl) ?_
  refine WpG.ownCap (ci := 0) rfl (fun uz14 => ?_)
  refine WpG.freezeOwn (ci := 0) rfl (fun H14 hH14 fz14 => ?_)
  have rz14 : RdS H14 (some ⟨b12, 0, none⟩) [(o.bits, o.lanes), (o.bits, o.lanes)] := RdS.of_own (H := H) (show RdL H [.int .i64 o.bits, .int .i64 o.lanes, .int .i64 o.bits, .int .i64 o.lanes] [(o.bits, o.lanes), (o.bits, o.lanes)] from RdL_pairs [(o.bits, o.lanes), (o.bits, o.lanes)] ⟨⟨k_o_1, k_o_2⟩, ⟨k_o_1, k_o_2⟩, trivial⟩) (rfl) (by simp) hH14 fz14
  exact WpG.ret tabOK (L' := []) (.tmp rfl (.tmp rfl .nil)) (.cons _ (.cons _ (.cons _ (.cons _ (.cons _ .slnil))))) (takes_ret (by simp [takesD, *]) (by simp [takesOK, *]) (by first | rfl | simp) rz14)
 refine WpG.g tabOK 6 rfl ?_
 refine WpG.caseE (t := 38) rfl (fun q38_4 => ?_) (fun q38_4 => ?_)
 ·refine WpG.g tabOK 4 rfl ?_
  refine WpG.draw 9 [Chunk.box b2 [.int .i64 o.bits, .int .i64 o.lanes] 81, Chunk.box b3 [.int .i64 o.bits, .int .i64 1] 81, Chunk.box b4 [.int .i64 1, .int .i64 1] 81, Chunk.box b5 [.int .i64 64, .int .i64 1] 81, Chunk.box b1 [.int .i64 o.kind, .int .i64 o.bits, .int .i64 o.lanes, .int .i64 o.dst, .slice A_o_4 o.args.length c_o_4, .int .u64 o.imm] 53] mixed (by kernel_rfl) ?_
  refine WpD.g (listed' := lst 9 16) tabOK [4] (by kernel_rfl) rfl hlr hlr (.refl _) ?_
  refine WpD.y (i := 0) (fuel := 7) (listed' := lst 9 17) (by kernel_rfl) rfl rfl rfl rfl hlr hlr (.refl _) (RunY.loadBox (ci := 0) tabOK rfl rfl rfl rfl) ?_
  refine WpD.y (i := 1) (fuel := 6) (listed' := lst 9 19) (by kernel_rfl) rfl rfl rfl rfl hlr hlr (.refl _) (RunY.loadBox (ci := 0) tabOK rfl rfl rfl rfl) ?_
  refine WpD.y (i := 5) (fuel := 5) (listed' := lst 9 51) (by kernel_rfl) rfl rfl rfl rfl hlr hlr (.refl _) (RunY.loadBox (ci := 4) tabOK rfl rfl rfl rfl) ?_
  refine WpD.g (listed' := lst 9 115) tabOK [6] (by kernel_rfl) rfl hlr hlr (.refl _) ?_
  refine WpD.f (i := 2) (fuel := 3) (listed' := lst 9 119) (by kernel_rfl) hlr (OpG.buildSlice (xs := [.int .i64 o.bits, .int .i64 o.lanes, .int .i64 o.bits, .int .i64 o.lanes]) tabOK rfl rfl rfl rfl rfl rfl rfl rfl rfl rfl) ?_
  rintro F1 H1 L1 ⟨b15, eF, eH, eL⟩
  subst eF; subst eL; rw [eH]; clear eH H1
  refine ⟨hlr, (.cons _ (.cons_cons _ (.cons_cons _ (.cons_cons _ (.cons_cons _ (.cons_cons _ .slnil)))))), ?_⟩
  change WpD _ _ _ _ _ _ _ _ _ _ _ _ _ _ [Chunk.own 81 2 (some ⟨b15, 0, none⟩) 2 2 [.int .i64 o.bits, .int .i64 o.lanes, .int .i64 o.bits, .int .i64 o.lanes], Chunk.box b2 [.int .i64 o.bits, .int .i64 o.lanes] 81, Chunk.box b3 [.int .i64 o.bits, .int .i64 1] 81, Chunk.box b4 [.int .i64 1, .int .i64 1] 81, Chunk.box b5 [.int .i64 64, .int .i64 1] 81, Chunk.box b1 [.int .i64 o.kind, .int .i64 o.bits, .int .i64 o.lanes, .int .i64 o.dst, .slice A_o_4 o.args.length c_o_4, .int .u64 o.imm] 53]
  refine WpD.callS (i := 3) (fuel := 2) (listed' := lst 9 127) (by kernel_rfl) rfl rfl rfl rfl rfl rfl hlr (row_calls) hlr hlr (.cons _ (.cons_cons _ (.cons_cons _ (.cons_cons _ (.cons_cons _ (.cons_cons _ .slnil)))))) ?_
  refine WpD.g (listed' := lst 9 511) tabOK [7, 8] (by kernel_rfl) rfl hlr hlr (.cons _ (.cons_cons _ (.cons_cons _ (.cons_cons _ (.cons_cons _ (.cons_cons _ .slnil)))))) ?_
  refine WpD.done (by kernel_rfl) ?_
  refine WpG.ownCap (ci := 0) rfl (fun uz17 => ?_)
  refine WpG.freezeOwn (ci := 0) rfl (fun H17 hH17 fz17 => ?_)
  have rz17 : RdS H17 (some ⟨b15, 0, none⟩) [(o.bits, o.lanes), (o.bits, o.lanes)] := RdS.of_own (H := H) (show RdL H [.int .i64 o.bits, .int .i64 o.lanes, .int .i64 o.bits, .int .i64 o.lanes] [(o.bits, o.lanes), (o.bits, o.lanes)] from RdL_pairs [(o.bits, o.lanes), (o.bits, o.lanes)] ⟨⟨k_o_1, k_o_2⟩, ⟨k_o_1, k_o_2⟩, trivial⟩) (rfl) (by simp) hH17 fz17
  exact WpG.ret tabOK (L' := []) (.tmp rfl (.tmp rfl .nil)) (.cons _ (.cons _ (.cons _ (.cons _ (.cons _ .slnil))))) (takes_ret (by simp [takesD, *]) (by simp [takesOK, *]) (by first | rfl | simp) rz17)
 refine WpG.g tabOK 6 rfl ?_
 refine WpG.caseE (t := 38) rfl (fun q38_5 => ?_) (fun q38_5 => ?_)
 ·refine WpG.g tabOK 4 rfl ?_
  refine WpG.draw 9 [Chunk.box b2 [.int .i64 o.bits, .int .i64 o.lanes] 81, Chunk.box b3 [.int .i64 o.bits, .int .i64 1] 81, Chunk.box b4 [.int .i64 1, .int .i64 1] 81, Chunk.box b5 [.int .i64 64, .int .i64 1] 81, Chunk.box b1 [.int .i64 o.kind, .int .i64 o.bits, .int .i64 o.lanes, .int .i64 o.dst, .slice A_o_4 o.args.length c_o_4, .int .u64 o.imm] 53] mixed (by kernel_rfl) ?_
  refine WpD.g (listed' := lst 9 16) tabOK [4] (by kernel_rfl) rfl hlr hlr (.refl _) ?_
  refine WpD.y (i := 0) (fuel := 7) (listed' := lst 9 17) (by kernel_rfl) rfl rfl rfl rfl hlr hlr (.refl _) (RunY.loadBox (ci := 0) tabOK rfl rfl rfl rfl) ?_
  refine WpD.y (i := 1) (fuel := 6) (listed' := lst 9 19) (by kernel_rfl) rfl rfl rfl rfl hlr hlr (.refl _) (RunY.loadBox (ci := 0) tabOK rfl rfl rfl rfl) ?_
  refine WpD.y (i := 5) (fuel := 5) (listed' := lst 9 51) (by kernel_rfl) rfl rfl rfl rfl hlr hlr (.refl _) (RunY.loadBox (ci := 4) tabOK rfl rfl rfl rfl) ?_
  refine WpD.g (listed' := lst 9 115) tabOK [6] (by kernel_rfl) rfl hlr hlr (.refl _) ?_
  refine WpD.f (i := 2) (fuel := 3) (listed' := lst 9 119) (by kernel_rfl) hlr (OpG.buildSlice (xs := [.int .i64 o.bits, .int .i64 o.lanes, .int .i64 o.bits, .int .i64 o.lanes]) tabOK rfl rfl rfl rfl rfl rfl rfl rfl rfl rfl) ?_
  rintro F1 H1 L1 ⟨b18, eF, eH, eL⟩
  subst eF; subst eL; rw [eH]; clear eH H1
  refine ⟨hlr, (.cons _ (.cons_cons _ (.cons_cons _ (.cons_cons _ (.cons_cons _ (.cons_cons _ .slnil)))))), ?_⟩
  change WpD _ _ _ _ _ _ _ _ _ _ _ _ _ _ [Chunk.own 81 2 (some ⟨b18, 0, none⟩) 2 2 [.int .i64 o.bits, .int .i64 o.lanes, .int .i64 o.bits, .int .i64 o.lanes], Chunk.box b2 [.int .i64 o.bits, .int .i64 o.lanes] 81, Chunk.box b3 [.int .i64 o.bits, .int .i64 1] 81, Chunk.box b4 [.int .i64 1, .int .i64 1] 81, Chunk.box b5 [.int .i64 64, .int .i64 1] 81, Chunk.box b1 [.int .i64 o.kind, .int .i64 o.bits, .int .i64 o.lanes, .int .i64 o.dst, .slice A_o_4 o.args.length c_o_4, .int .u64 o.imm] 53]
  refine WpD.callS (i := 3) (fuel := 2) (listed' := lst 9 127) (by kernel_rfl) rfl rfl rfl rfl rfl rfl hlr (row_calls) hlr hlr (.cons _ (.cons_cons _ (.cons_cons _ (.cons_cons _ (.cons_cons _ (.cons_cons _ .slnil)))))) ?_
  refine WpD.g (listed' := lst 9 511) tabOK [7, 8] (by kernel_rfl) rfl hlr hlr (.cons _ (.cons_cons _ (.cons_cons _ (.cons_cons _ (.cons_cons _ (.cons_cons _ .slnil)))))) ?_
  refine WpD.done (by kernel_rfl) ?_
  refine WpG.ownCap (ci := 0) rfl (fun uz20 => ?_)
  refine WpG.freezeOwn (ci := 0) rfl (fun H20 hH20 fz20 => ?_)
  have rz20 : RdS H20 (some ⟨b18, 0, none⟩) [(o.bits, o.lanes), (o.bits, o.lanes)] := RdS.of_own (H := H) (show RdL H [.int .i64 o.bits, .int .i64 o.lanes, .int .i64 o.bits, .int .i64 o.lanes] [(o.bits, o.lanes), (o.bits, o.lanes)] from RdL_pairs [(o.bits, o.lanes), (o.bits, o.lanes)] ⟨⟨k_o_1, k_o_2⟩, ⟨k_o_1, k_o_2⟩, trivial⟩) (rfl) (by simp) hH20 fz20
  exact WpG.ret tabOK (L' := []) (.tmp rfl (.tmp rfl .nil)) (.cons _ (.cons _ (.cons _ (.cons _ (.cons _ .slnil))))) (takes_ret (by simp [takesD, *]) (by simp [takesOK, *]) (by first | rfl | simp) rz20)
 refine WpG.g tabOK 6 rfl ?_
 refine WpG.caseE (t := 38) rfl (fun q38_6 => ?_) (fun q38_6 => ?_)
 ·refine WpG.g tabOK 4 rfl ?_
  refine WpG.draw 9 [Chunk.box b2 [.int .i64 o.bits, .int .i64 o.lanes] 81, Chunk.box b3 [.int .i64 o.bits, .int .i64 1] 81, Chunk.box b4 [.int .i64 1, .int .i64 1] 81, Chunk.box b5 [.int .i64 64, .int .i64 1] 81, Chunk.box b1 [.int .i64 o.kind, .int .i64 o.bits, .int .i64 o.lanes, .int .i64 o.dst, .slice A_o_4 o.args.length c_o_4, .int .u64 o.imm] 53] mixed (by kernel_rfl) ?_
  refine WpD.g (listed' := lst 9 16) tabOK [4] (by kernel_rfl) rfl hlr hlr (.refl _) ?_
  refine WpD.y (i := 0) (fuel := 7) (listed' := lst 9 17) (by kernel_rfl) rfl rfl rfl rfl hlr hlr (.refl _) (RunY.loadBox (ci := 0) tabOK rfl rfl rfl rfl) ?_
  refine WpD.y (i := 1) (fuel := 6) (listed' := lst 9 19) (by kernel_rfl) rfl rfl rfl rfl hlr hlr (.refl _) (RunY.loadBox (ci := 0) tabOK rfl rfl rfl rfl) ?_
  refine WpD.y (i := 5) (fuel := 5) (listed' := lst 9 51) (by kernel_rfl) rfl rfl rfl rfl hlr hlr (.refl _) (RunY.loadBox (ci := 4) tabOK rfl rfl rfl rfl) ?_
  refine WpD.g (listed' := lst 9 115) tabOK [6] (by kernel_rfl) rfl hlr hlr (.refl _) ?_
  refine WpD.f (i := 2) (fuel := 3) (listed' := lst 9 119) (by kernel_rfl) hlr (OpG.buildSlice (xs := [.int .i64 o.bits, .int .i64 o.lanes, .int .i64 o.bits, .int .i64 o.lanes]) tabOK rfl rfl rfl rfl rfl rfl rfl rfl rfl rfl) ?_
  rintro F1 H1 L1 ⟨b21, eF, eH, eL⟩
  subst eF; subst eL; rw [eH]; clear eH H1
  refine ⟨hlr, (.cons _ (.cons_cons _ (.cons_cons _ (.cons_cons _ (.cons_cons _ (.cons_cons _ .slnil)))))), ?_⟩
  change WpD _ _ _ _ _ _ _ _ _ _ _ _ _ _ [Chunk.own 81 2 (some ⟨b21, 0, none⟩) 2 2 [.int .i64 o.bits, .int .i64 o.lanes, .int .i64 o.bits, .int .i64 o.lanes], Chunk.box b2 [.int .i64 o.bits, .int .i64 o.lanes] 81, Chunk.box b3 [.int .i64 o.bits, .int .i64 1] 81, Chunk.box b4 [.int .i64 1, .int .i64 1] 81, Chunk.box b5 [.int .i64 64, .int .i64 1] 81, Chunk.box b1 [.int .i64 o.kind, .int .i64 o.bits, .int .i64 o.lanes, .int .i64 o.dst, .slice A_o_4 o.args.length c_o_4, .int .u64 o.imm] 53]
  refine WpD.callS (i := 3) (fuel := 2) (listed' := lst 9 127) (by kernel_rfl) rfl rfl rfl rfl rfl rfl hlr (row_calls) hlr hlr (.cons _ (.cons_cons _ (.cons_cons _ (.cons_cons _ (.cons_cons _ (.cons_cons _ .slnil)))))) ?_
  refine WpD.g (listed' := lst 9 511) tabOK [7, 8] (by kernel_rfl) rfl hlr hlr (.cons _ (.cons_cons _ (.cons_cons _ (.cons_cons _ (.cons_cons _ (.cons_cons _ .slnil)))))) ?_
  refine WpD.done (by kernel_rfl) ?_
  refine WpG.ownCap (ci := 0) rfl (fun uz23 => ?_)
  refine WpG.freezeOwn (ci := 0) rfl (fun H23 hH23 fz23 => ?_)
  have rz23 : RdS H23 (some ⟨b21, 0, none⟩) [(o.bits, o.lanes), (o.bits, o.lanes)] := RdS.of_own (H := H) (show RdL H [.int .i64 o.bits, .int .i64 o.lanes, .int .i64 o.bits, .int .i64 o.lanes] [(o.bits, o.lanes), (o.bits, o.lanes)] from RdL_pairs [(o.bits, o.lanes), (o.bits, o.lanes)] ⟨⟨k_o_1, k_o_2⟩, ⟨k_o_1, k_o_2⟩, trivial⟩) (rfl) (by simp) hH23 fz23
  exact WpG.ret tabOK (L' := []) (.tmp rfl (.tmp rfl .nil)) (.cons _ (.cons _ (.cons _ (.cons _ (.cons _ .slnil))))) (takes_ret (by simp [takesD, *]) (by simp [takesOK, *]) (by first | rfl | simp) rz23)
 refine WpG.g tabOK 6 rfl ?_
 refine WpG.caseE (t := 38) rfl (fun q38_7 => ?_) (fun q38_7 => ?_)
 ·refine WpG.g tabOK 4 rfl ?_
  refine WpG.draw 9 [Chunk.box b2 [.int .i64 o.bits, .int .i64 o.lanes] 81, Chunk.box b3 [.int .i64 o.bits, .int .i64 1] 81, Chunk.box b4 [.int .i64 1, .int .i64 1] 81, Chunk.box b5 [.int .i64 64, .int .i64 1] 81, Chunk.box b1 [.int .i64 o.kind, .int .i64 o.bits, .int .i64 o.lanes, .int .i64 o.dst, .slice A_o_4 o.args.length c_o_4, .int .u64 o.imm] 53] mixed (by kernel_rfl) ?_
  refine WpD.g (listed' := lst 9 16) tabOK [4] (by kernel_rfl) rfl hlr hlr (.refl _) ?_
  refine WpD.y (i := 0) (fuel := 7) (listed' := lst 9 17) (by kernel_rfl) rfl rfl rfl rfl hlr hlr (.refl _) (RunY.loadBox (ci := 0) tabOK rfl rfl rfl rfl) ?_
  refine WpD.y (i := 1) (fuel := 6) (listed' := lst 9 19) (by kernel_rfl) rfl rfl rfl rfl hlr hlr (.refl _) (RunY.loadBox (ci := 0) tabOK rfl rfl rfl rfl) ?_
  refine WpD.y (i := 5) (fuel := 5) (listed' := lst 9 51) (by kernel_rfl) rfl rfl rfl rfl hlr hlr (.refl _) (RunY.loadBox (ci := 4) tabOK rfl rfl rfl rfl) ?_
  refine WpD.g (listed' := lst 9 115) tabOK [6] (by kernel_rfl) rfl hlr hlr (.refl _) ?_
  refine WpD.f (i := 2) (fuel := 3) (listed' := lst 9 119) (by kernel_rfl) hlr (OpG.buildSlice (xs := [.int .i64 o.bits, .int .i64 o.lanes, .int .i64 o.bits, .int .i64 o.lanes]) tabOK rfl rfl rfl rfl rfl rfl rfl rfl rfl rfl) ?_
  rintro F1 H1 L1 ⟨b24, eF, eH, eL⟩
  subst eF; subst eL; rw [eH]; clear eH H1
  refine ⟨hlr, (.cons _ (.cons_cons _ (.cons_cons _ (.cons_cons _ (.cons_cons _ (.cons_cons _ .slnil)))))), ?_⟩
  change WpD _ _ _ _ _ _ _ _ _ _ _ _ _ _ [Chunk.own 81 2 (some ⟨b24, 0, none⟩) 2 2 [.int .i64 o.bits, .int .i64 o.lanes, .int .i64 o.bits, .int .i64 o.lanes], Chunk.box b2 [.int .i64 o.bits, .int .i64 o.lanes] 81, Chunk.box b3 [.int .i64 o.bits, .int .i64 1] 81, Chunk.box b4 [.int .i64 1, .int .i64 1] 81, Chunk.box b5 [.int .i64 64, .int .i64 1] 81, Chunk.box b1 [.int .i64 o.kind, .int .i64 o.bits, .int .i64 o.lanes, .int .i64 o.dst, .slice A_o_4 o.args.length c_o_4, .int .u64 o.imm] 53]
  refine WpD.callS (i := 3) (fuel := 2) (listed' := lst 9 127) (by kernel_rfl) rfl rfl rfl rfl rfl rfl hlr (row_calls) hlr hlr (.cons _ (.cons_cons _ (.cons_cons _ (.cons_cons _ (.cons_cons _ (.cons_cons _ .slnil)))))) ?_
  refine WpD.g (listed' := lst 9 511) tabOK [7, 8] (by kernel_rfl) rfl hlr hlr (.cons _ (.cons_cons _ (.cons_cons _ (.cons_cons _ (.cons_cons _ (.cons_cons _ .slnil)))))) ?_
  refine WpD.done (by kernel_rfl) ?_
  refine WpG.ownCap (ci := 0) rfl (fun uz26 => ?_)
  refine WpG.freezeOwn (ci := 0) rfl (fun H26 hH26 fz26 => ?_)
  have rz26 : RdS H26 (some ⟨b24, 0, none⟩) [(o.bits, o.lanes), (o.bits, o.lanes)] := RdS.of_own (H := H) (show RdL H [.int .i64 o.bits, .int .i64 o.lanes, .int .i64 o.bits, .int .i64 o.lanes] [(o.bits, o.lanes), (o.bits, o.lanes)] from RdL_pairs [(o.bits, o.lanes), (o.bits, o.lanes)] ⟨⟨k_o_1, k_o_2⟩, ⟨k_o_1, k_o_2⟩, trivial⟩) (rfl) (by simp) hH26 fz26
  exact WpG.ret tabOK (L' := []) (.tmp rfl (.tmp rfl .nil)) (.cons _ (.cons _ (.cons _ (.cons _ (.cons _ .slnil))))) (takes_ret (by simp [takesD, *]) (by simp [takesOK, *]) (by first | rfl | simp) rz26)
 refine WpG.g tabOK 5 rfl ?_
 refine WpG.caseE (t := 38) rfl (fun q38_8 => ?_) (fun q38_8 => ?_)
 ·refine WpG.g tabOK 2 rfl ?_
  refine WpG.draw 9 [Chunk.box b2 [.int .i64 o.bits, .int .i64 o.lanes] 81, Chunk.box b3 [.int .i64 o.bits, .int .i64 1] 81, Chunk.box b4 [.int .i64 1, .int .i64 1] 81, Chunk.box b5 [.int .i64 64, .int .i64 1] 81, Chunk.box b1 [.int .i64 o.kind, .int .i64 o.bits, .int .i64 o.lanes, .int .i64 o.dst, .slice A_o_4 o.args.length c_o_4, .int .u64 o.imm] 53] mixed (by kernel_rfl) ?_
  refine WpD.g (listed' := lst 9 16) tabOK [4] (by kernel_rfl) rfl hlr hlr (.refl _) ?_
  refine WpD.y (i := 0) (fuel := 7) (listed' := lst 9 17) (by kernel_rfl) rfl rfl rfl rfl hlr hlr (.refl _) (RunY.loadBox (ci := 0) tabOK rfl rfl rfl rfl) ?_
  refine WpD.y (i := 1) (fuel := 6) (listed' := lst 9 19) (by kernel_rfl) rfl rfl rfl rfl hlr hlr (.refl _) (RunY.loadBox (ci := 0) tabOK rfl rfl rfl rfl) ?_
  refine WpD.y (i := 5) (fuel := 5) (listed' := lst 9 51) (by kernel_rfl) rfl rfl rfl rfl hlr hlr (.refl _) (RunY.loadBox (ci := 4) tabOK rfl rfl rfl rfl) ?_
  refine WpD.g (listed' := lst 9 115) tabOK [6] (by kernel_rfl) rfl hlr hlr (.refl _) ?_
  refine WpD.f (i := 2) (fuel := 3) (listed' := lst 9 119) (by kernel_rfl) hlr (OpG.buildSlice (xs := [.int .i64 o.bits, .int .i64 o.lanes, .int .i64 o.bits, .int .i64 o.lanes]) tabOK rfl rfl rfl rfl rfl rfl rfl rfl rfl rfl) ?_
  rintro F1 H1 L1 ⟨b27, eF, eH, eL⟩
  subst eF; subst eL; rw [eH]; clear eH H1
  refine ⟨hlr, (.cons _ (.cons_cons _ (.cons_cons _ (.cons_cons _ (.cons_cons _ (.cons_cons _ .slnil)))))), ?_⟩
  change WpD _ _ _ _ _ _ _ _ _ _ _ _ _ _ [Chunk.own 81 2 (some ⟨b27, 0, none⟩) 2 2 [.int .i64 o.bits, .int .i64 o.lanes, .int .i64 o.bits, .int .i64 o.lanes], Chunk.box b2 [.int .i64 o.bits, .int .i64 o.lanes] 81, Chunk.box b3 [.int .i64 o.bits, .int .i64 1] 81, Chunk.box b4 [.int .i64 1, .int .i64 1] 81, Chunk.box b5 [.int .i64 64, .int .i64 1] 81, Chunk.box b1 [.int .i64 o.kind, .int .i64 o.bits, .int .i64 o.lanes, .int .i64 o.dst, .slice A_o_4 o.args.length c_o_4, .int .u64 o.imm] 53]
  refine WpD.callS (i := 3) (fuel := 2) (listed' := lst 9 127) (by kernel_rfl) rfl rfl rfl rfl rfl rfl hlr (row_calls) hlr hlr (.cons _ (.cons_cons _ (.cons_cons _ (.cons_cons _ (.cons_cons _ (.cons_cons _ .slnil)))))) ?_
  refine WpD.g (listed' := lst 9 511) tabOK [7, 8] (by kernel_rfl) rfl hlr hlr (.cons _ (.cons_cons _ (.cons_cons _ (.cons_cons _ (.cons_cons _ (.cons_cons _ .slnil)))))) ?_
  refine WpD.done (by kernel_rfl) ?_
  refine WpG.ownCap (ci := 0) rfl (fun uz29 => ?_)
  refine WpG.freezeOwn (ci := 0) rfl (fun H29 hH29 fz29 => ?_)
  have rz29 : RdS H29 (some ⟨b27, 0, none⟩) [(o.bits, o.lanes), (o.bits, o.lanes)] := RdS.of_own (H := H) (show RdL H [.int .i64 o.bits, .int .i64 o.lanes, .int .i64 o.bits, .int .i64 o.lanes] [(o.bits, o.lanes), (o.bits, o.lanes)] from RdL_pairs [(o.bits, o.lanes), (o.bits, o.lanes)] ⟨⟨k_o_1, k_o_2⟩, ⟨k_o_1, k_o_2⟩, trivial⟩) (rfl) (by simp) hH29 fz29
  exact WpG.ret tabOK (L' := []) (.tmp rfl (.tmp rfl .nil)) (.cons _ (.cons _ (.cons _ (.cons _ (.cons _ .slnil))))) (takes_ret (by simp [takesD, *]) (by simp [takesOK, *]) (by first | rfl | simp) rz29)
 refine WpG.g tabOK 7 rfl ?_
 refine WpG.caseE (t := 54) rfl (fun q54 => ?_) (fun q54 => ?_)
 ·refine WpG.g tabOK 4 rfl ?_
  refine WpG.draw 12 [Chunk.box b2 [.int .i64 o.bits, .int .i64 o.lanes] 81, Chunk.box b3 [.int .i64 o.bits, .int .i64 1] 81, Chunk.box b4 [.int .i64 1, .int .i64 1] 81, Chunk.box b5 [.int .i64 64, .int .i64 1] 81, Chunk.box b1 [.int .i64 o.kind, .int .i64 o.bits, .int .i64 o.lanes, .int .i64 o.dst, .slice A_o_4 o.args.length c_o_4, .int .u64 o.imm] 53] mixed (by kernel_rfl) ?_
  refine WpD.g (listed' := lst 12 16) tabOK [4] (by kernel_rfl) rfl hlr hlr (.refl _) ?_
  refine WpD.y (i := 0) (fuel := 10) (listed' := lst 12 17) (by kernel_rfl) rfl rfl rfl rfl hlr hlr (.refl _) (RunY.loadBox (ci := 0) tabOK rfl rfl rfl rfl) ?_
  refine WpD.y (i := 1) (fuel := 9) (listed' := lst 12 19) (by kernel_rfl) rfl rfl rfl rfl hlr hlr (.refl _) (RunY.loadBox (ci := 0) tabOK rfl rfl rfl rfl) ?_
  refine WpD.y (i := 5) (fuel := 8) (listed' := lst 12 51) (by kernel_rfl) rfl rfl rfl rfl hlr hlr (.refl _) (RunY.loadBox (ci := 4) tabOK rfl rfl rfl rfl) ?_
  refine WpD.g (listed' := lst 12 115) tabOK [6] (by kernel_rfl) rfl hlr hlr (.refl _) ?_
  refine WpD.f (i := 2) (fuel := 6) (listed' := lst 12 119) (by kernel_rfl) hlr (OpG.buildSlice (xs := [.int .i64 o.bits, .int .i64 o.lanes, .int .i64 o.bits, .int .i64 o.lanes]) tabOK rfl rfl rfl rfl rfl rfl rfl rfl rfl rfl) ?_
  rintro F1 H1 L1 ⟨b30, eF, eH, eL⟩
  subst eF; subst eL; rw [eH]; clear eH H1
  refine ⟨hlr, (.cons _ (.cons_cons _ (.cons_cons _ (.cons_cons _ (.cons_cons _ (.cons_cons _ .slnil)))))), ?_⟩
  change WpD _ _ _ _ _ _ _ _ _ _ _ _ _ _ [Chunk.own 81 2 (some ⟨b30, 0, none⟩) 2 2 [.int .i64 o.bits, .int .i64 o.lanes, .int .i64 o.bits, .int .i64 o.lanes], Chunk.box b2 [.int .i64 o.bits, .int .i64 o.lanes] 81, Chunk.box b3 [.int .i64 o.bits, .int .i64 1] 81, Chunk.box b4 [.int .i64 1, .int .i64 1] 81, Chunk.box b5 [.int .i64 64, .int .i64 1] 81, Chunk.box b1 [.int .i64 o.kind, .int .i64 o.bits, .int .i64 o.lanes, .int .i64 o.dst, .slice A_o_4 o.args.length c_o_4, .int .u64 o.imm] 53]
  refine WpD.callS (i := 3) (fuel := 5) (listed' := lst 12 127) (by kernel_rfl) rfl rfl rfl rfl rfl rfl hlr (row_calls) hlr hlr (.cons _ (.cons_cons _ (.cons_cons _ (.cons_cons _ (.cons_cons _ (.cons_cons _ .slnil)))))) ?_
  refine WpD.g (listed' := lst 12 1279) tabOK [7, 10] (by kernel_rfl) rfl hlr hlr (.cons _ (.cons_cons _ (.cons_cons _ (.cons_cons _ (.cons_cons _ (.cons_cons _ .slnil)))))) ?_
  refine WpD.caseE (t := 66) rfl (fun q66 => ?_) (fun q66 => ?_)
  ·refine WpD.g (listed' := lst 12 4095) tabOK [8, 9, 11] (by kernel_rfl) rfl hlr hlr (.cons _ (.cons_cons _ (.cons_cons _ (.cons_cons _ (.cons_cons _ (.cons_cons _ .slnil)))))) ?_
   refine WpD.done (by kernel_rfl) ?_
   refine WpG.ownCap (ci := 0) rfl (fun uz32 => ?_)
   refine WpG.freezeOwn (ci := 0) rfl (fun H32 hH32 fz32 => ?_)
   have rz32 : RdS H32 (some ⟨b30, 0, none⟩) [(o.bits, o.lanes), (o.bits, o.lanes)] := RdS.of_own (H := H) (show RdL H [.int .i64 o.bits, .int .i64 o.lanes, .int .i64 o.bits, .int .i64 o.lanes] [(o.bits, o.lanes), (o.bits, o.lanes)] from RdL_pairs [(o.bits, o.lanes), (o.bits, o.lanes)] ⟨⟨k_o_1, k_o_2⟩, ⟨k_o_1, k_o_2⟩, trivial⟩) (rfl) (by simp) hH32 fz32
   exact WpG.ret tabOK (L' := []) (.tmp rfl (.tmp rfl .nil)) (.cons _ (.cons _ (.cons _ (.cons _ (.cons _ .slnil))))) (takes_ret (by simp [takesD, *]) (by simp [takesOK, *]) (by first | rfl | simp) rz32)
  refine WpD.g (listed' := lst 12 4095) tabOK [8, 9, 11] (by kernel_rfl) rfl hlr hlr (.cons _ (.cons_cons _ (.cons_cons _ (.cons_cons _ (.cons_cons _ (.cons_cons _ .slnil)))))) ?_
  refine WpD.done (by kernel_rfl) ?_
  refine WpG.ownCap (ci := 0) rfl (fun uz33 => ?_)
  refine WpG.freezeOwn (ci := 0) rfl (fun H33 hH33 fz33 => ?_)
  have rz33 : RdS H33 (some ⟨b30, 0, none⟩) [(o.bits, o.lanes), (o.bits, o.lanes)] := RdS.of_own (H := H) (show RdL H [.int .i64 o.bits, .int .i64 o.lanes, .int .i64 o.bits, .int .i64 o.lanes] [(o.bits, o.lanes), (o.bits, o.lanes)] from RdL_pairs [(o.bits, o.lanes), (o.bits, o.lanes)] ⟨⟨k_o_1, k_o_2⟩, ⟨k_o_1, k_o_2⟩, trivial⟩) (rfl) (by simp) hH33 fz33
  exact WpG.ret tabOK (L' := []) (.tmp rfl (.tmp rfl .nil)) (.cons _ (.cons _ (.cons _ (.cons _ (.cons _ .slnil))))) (takes_ret (by simp [takesD, *]) (by simp [takesOK, *]) (by first | rfl | simp) rz33)
 refine WpG.g tabOK 6 rfl ?_
 refine WpG.caseE (t := 54) rfl (fun q54_2 => ?_) (fun q54_2 => ?_)
 ·refine WpG.g tabOK 4 rfl ?_
  refine WpG.draw 12 [Chunk.box b2 [.int .i64 o.bits, .int .i64 o.lanes] 81, Chunk.box b3 [.int .i64 o.bits, .int .i64 1] 81, Chunk.box b4 [.int .i64 1, .int .i64 1] 81, Chunk.box b5 [.int .i64 64, .int .i64 1] 81, Chunk.box b1 [.int .i64 o.kind, .int .i64 o.bits, .int .i64 o.lanes, .int .i64 o.dst, .slice A_o_4 o.args.length c_o_4, .int .u64 o.imm] 53] mixed (by kernel_rfl) ?_
  refine WpD.g (listed' := lst 12 16) tabOK [4] (by kernel_rfl) rfl hlr hlr (.refl _) ?_
  refine WpD.y (i := 0) (fuel := 10) (listed' := lst 12 17) (by kernel_rfl) rfl rfl rfl rfl hlr hlr (.refl _) (RunY.loadBox (ci := 0) tabOK rfl rfl rfl rfl) ?_
  refine WpD.y (i := 1) (fuel := 9) (listed' := lst 12 19) (by kernel_rfl) rfl rfl rfl rfl hlr hlr (.refl _) (RunY.loadBox (ci := 0) tabOK rfl rfl rfl rfl) ?_
  refine WpD.y (i := 5) (fuel := 8) (listed' := lst 12 51) (by kernel_rfl) rfl rfl rfl rfl hlr hlr (.refl _) (RunY.loadBox (ci := 4) tabOK rfl rfl rfl rfl) ?_
  refine WpD.g (listed' := lst 12 115) tabOK [6] (by kernel_rfl) rfl hlr hlr (.refl _) ?_
  refine WpD.f (i := 2) (fuel := 6) (listed' := lst 12 119) (by kernel_rfl) hlr (OpG.buildSlice (xs := [.int .i64 o.bits, .int .i64 o.lanes, .int .i64 o.bits, .int .i64 o.lanes]) tabOK rfl rfl rfl rfl rfl rfl rfl rfl rfl rfl) ?_
  rintro F1 H1 L1 ⟨b34, eF, eH, eL⟩
  subst eF; subst eL; rw [eH]; clear eH H1
  refine ⟨hlr, (.cons _ (.cons_cons _ (.cons_cons _ (.cons_cons _ (.cons_cons _ (.cons_cons _ .slnil)))))), ?_⟩
  change WpD _ _ _ _ _ _ _ _ _ _ _ _ _ _ [Chunk.own 81 2 (some ⟨b34, 0, none⟩) 2 2 [.int .i64 o.bits, .int .i64 o.lanes, .int .i64 o.bits, .int .i64 o.lanes], Chunk.box b2 [.int .i64 o.bits, .int .i64 o.lanes] 81, Chunk.box b3 [.int .i64 o.bits, .int .i64 1] 81, Chunk.box b4 [.int .i64 1, .int .i64 1] 81, Chunk.box b5 [.int .i64 64, .int .i64 1] 81, Chunk.box b1 [.int .i64 o.kind, .int .i64 o.bits, .int .i64 o.lanes, .int .i64 o.dst, .slice A_o_4 o.args.length c_o_4, .int .u64 o.imm] 53]
  refine WpD.callS (i := 3) (fuel := 5) (listed' := lst 12 127) (by kernel_rfl) rfl rfl rfl rfl rfl rfl hlr (row_calls) hlr hlr (.cons _ (.cons_cons _ (.cons_cons _ (.cons_cons _ (.cons_cons _ (.cons_cons _ .slnil)))))) ?_
  refine WpD.g (listed' := lst 12 1279) tabOK [7, 10] (by kernel_rfl) rfl hlr hlr (.cons _ (.cons_cons _ (.cons_cons _ (.cons_cons _ (.cons_cons _ (.cons_cons _ .slnil)))))) ?_
  refine WpD.caseE (t := 66) rfl (fun q66 => ?_) (fun q66 => ?_)
  ·refine WpD.g (listed' := lst 12 4095) tabOK [8, 9, 11] (by kernel_rfl) rfl hlr hlr (.cons _ (.cons_cons _ (.cons_cons _ (.cons_cons _ (.cons_cons _ (.cons_cons _ .slnil)))))) ?_
   refine WpD.done (by kernel_rfl) ?_
   refine WpG.ownCap (ci := 0) rfl (fun uz36 => ?_)
   refine WpG.freezeOwn (ci := 0) rfl (fun H36 hH36 fz36 => ?_)
   have rz36 : RdS H36 (some ⟨b34, 0, none⟩) [(o.bits, o.lanes), (o.bits, o.lanes)] := RdS.of_own (H := H) (show RdL H [.int .i64 o.bits, .int .i64 o.lanes, .int .i64 o.bits, .int .i64 o.lanes] [(o.bits, o.lanes), (o.bits, o.lanes)] from RdL_pairs [(o.bits, o.lanes), (o.bits, o.lanes)] ⟨⟨k_o_1, k_o_2⟩, ⟨k_o_1, k_o_2⟩, trivial⟩) (rfl) (by simp) hH36 fz36
   exact WpG.ret tabOK (L' := []) (.tmp rfl (.tmp rfl .nil)) (.cons _ (.cons _ (.cons _ (.cons _ (.cons _ .slnil))))) (takes_ret (by simp [takesD, *]) (by simp [takesOK, *]) (by first | rfl | simp) rz36)
  refine WpD.g (listed' := lst 12 4095) tabOK [8, 9, 11] (by kernel_rfl) rfl hlr hlr (.cons _ (.cons_cons _ (.cons_cons _ (.cons_cons _ (.cons_cons _ (.cons_cons _ .slnil)))))) ?_
  refine WpD.done (by kernel_rfl) ?_
  refine WpG.ownCap (ci := 0) rfl (fun uz37 => ?_)
  refine WpG.freezeOwn (ci := 0) rfl (fun H37 hH37 fz37 => ?_)
  have rz37 : RdS H37 (some ⟨b34, 0, none⟩) [(o.bits, o.lanes), (o.bits, o.lanes)] := RdS.of_own (H := H) (show RdL H [.int .i64 o.bits, .int .i64 o.lanes, .int .i64 o.bits, .int .i64 o.lanes] [(o.bits, o.lanes), (o.bits, o.lanes)] from RdL_pairs [(o.bits, o.lanes), (o.bits, o.lanes)] ⟨⟨k_o_1, k_o_2⟩, ⟨k_o_1, k_o_2⟩, trivial⟩) (rfl) (by simp) hH37 fz37
  exact WpG.ret tabOK (L' := []) (.tmp rfl (.tmp rfl .nil)) (.cons _ (.cons _ (.cons _ (.cons _ (.cons _ .slnil))))) (takes_ret (by simp [takesD, *]) (by simp [takesOK, *]) (by first | rfl | simp) rz37)
 refine WpG.g tabOK 6 rfl ?_
 refine WpG.caseE (t := 54) rfl (fun q54_3 => ?_) (fun q54_3 => ?_)
 ·refine WpG.g tabOK 4 rfl ?_
  refine WpG.draw 12 [Chunk.box b2 [.int .i64 o.bits, .int .i64 o.lanes] 81, Chunk.box b3 [.int .i64 o.bits, .int .i64 1] 81, Chunk.box b4 [.int .i64 1, .int .i64 1] 81, Chunk.box b5 [.int .i64 64, .int .i64 1] 81, Chunk.box b1 [.int .i64 o.kind, .int .i64 o.bits, .int .i64 o.lanes, .int .i64 o.dst, .slice A_o_4 o.args.length c_o_4, .int .u64 o.imm] 53] mixed (by kernel_rfl) ?_
  refine WpD.g (listed' := lst 12 16) tabOK [4] (by kernel_rfl) rfl hlr hlr (.refl _) ?_
  refine WpD.y (i := 0) (fuel := 10) (listed' := lst 12 17) (by kernel_rfl) rfl rfl rfl rfl hlr hlr (.refl _) (RunY.loadBox (ci := 0) tabOK rfl rfl rfl rfl) ?_
  refine WpD.y (i := 1) (fuel := 9) (listed' := lst 12 19) (by kernel_rfl) rfl rfl rfl rfl hlr hlr (.refl _) (RunY.loadBox (ci := 0) tabOK rfl rfl rfl rfl) ?_
  refine WpD.y (i := 5) (fuel := 8) (listed' := lst 12 51) (by kernel_rfl) rfl rfl rfl rfl hlr hlr (.refl _) (RunY.loadBox (ci := 4) tabOK rfl rfl rfl rfl) ?_
  refine WpD.g (listed' := lst 12 115) tabOK [6] (by kernel_rfl) rfl hlr hlr (.refl _) ?_
  refine WpD.f (i := 2) (fuel := 6) (listed' := lst 12 119) (by kernel_rfl) hlr (OpG.buildSlice (xs := [.int .i64 o.bits, .int .i64 o.lanes, .int .i64 o.bits, .int .i64 o.lanes]) tabOK rfl rfl rfl rfl rfl rfl rfl rfl rfl rfl) ?_
  rintro F1 H1 L1 ⟨b38, eF, eH, eL⟩
  subst eF; subst eL; rw [eH]; clear eH H1
  refine ⟨hlr, (.cons _ (.cons_cons _ (.cons_cons _ (.cons_cons _ (.cons_cons _ (.cons_cons _ .slnil)))))), ?_⟩
  change WpD _ _ _ _ _ _ _ _ _ _ _ _ _ _ [Chunk.own 81 2 (some ⟨b38, 0, none⟩) 2 2 [.int .i64 o.bits, .int .i64 o.lanes, .int .i64 o.bits, .int .i64 o.lanes], Chunk.box b2 [.int .i64 o.bits, .int .i64 o.lanes] 81, Chunk.box b3 [.int .i64 o.bits, .int .i64 1] 81, Chunk.box b4 [.int .i64 1, .int .i64 1] 81, Chunk.box b5 [.int .i64 64, .int .i64 1] 81, Chunk.box b1 [.int .i64 o.kind, .int .i64 o.bits, .int .i64 o.lanes, .int .i64 o.dst, .slice A_o_4 o.args.length c_o_4, .int .u64 o.imm] 53]
  refine WpD.callS (i := 3) (fuel := 5) (listed' := lst 12 127) (by kernel_rfl) rfl rfl rfl rfl rfl rfl hlr (row_calls) hlr hlr (.cons _ (.cons_cons _ (.cons_cons _ (.cons_cons _ (.cons_cons _ (.cons_cons _ .slnil)))))) ?_
  refine WpD.g (listed' := lst 12 1279) tabOK [7, 10] (by kernel_rfl) rfl hlr hlr (.cons _ (.cons_cons _ (.cons_cons _ (.cons_cons _ (.cons_cons _ (.cons_cons _ .slnil)))))) ?_
  refine WpD.caseE (t := 66) rfl (fun q66 => ?_) (fun q66 => ?_)
  ·refine WpD.g (listed' := lst 12 4095) tabOK [8, 9, 11] (by kernel_rfl) rfl hlr hlr (.cons _ (.cons_cons _ (.cons_cons _ (.cons_cons _ (.cons_cons _ (.cons_cons _ .slnil)))))) ?_
   refine WpD.done (by kernel_rfl) ?_
   refine WpG.ownCap (ci := 0) rfl (fun uz40 => ?_)
   refine WpG.freezeOwn (ci := 0) rfl (fun H40 hH40 fz40 => ?_)
   have rz40 : RdS H40 (some ⟨b38, 0, none⟩) [(o.bits, o.lanes), (o.bits, o.lanes)] := RdS.of_own (H := H) (show RdL H [.int .i64 o.bits, .int .i64 o.lanes, .int .i64 o.bits, .int .i64 o.lanes] [(o.bits, o.lanes), (o.bits, o.lanes)] from RdL_pairs [(o.bits, o.lanes), (o.bits, o.lanes)] ⟨⟨k_o_1, k_o_2⟩, ⟨k_o_1, k_o_2⟩, trivial⟩) (rfl) (by simp) hH40 fz40
   exact WpG.ret tabOK (L' := []) (.tmp rfl (.tmp rfl .nil)) (.cons _ (.cons _ (.cons _ (.cons _ (.cons _ .slnil))))) (takes_ret (by simp [takesD, *]) (by simp [takesOK, *]) (by first | rfl | simp) rz40)
  refine WpD.g (listed' := lst 12 4095) tabOK [8, 9, 11] (by kernel_rfl) rfl hlr hlr (.cons _ (.cons_cons _ (.cons_cons _ (.cons_cons _ (.cons_cons _ (.cons_cons _ .slnil)))))) ?_
  refine WpD.done (by kernel_rfl) ?_
  refine WpG.ownCap (ci := 0) rfl (fun uz41 => ?_)
  refine WpG.freezeOwn (ci := 0) rfl (fun H41 hH41 fz41 => ?_)
  have rz41 : RdS H41 (some ⟨b38, 0, none⟩) [(o.bits, o.lanes), (o.bits, o.lanes)] := RdS.of_own (H := H) (show RdL H [.int .i64 o.bits, .int .i64 o.lanes, .int .i64 o.bits, .int .i64 o.lanes] [(o.bits, o.lanes), (o.bits, o.lanes)] from RdL_pairs [(o.bits, o.lanes), (o.bits, o.lanes)] ⟨⟨k_o_1, k_o_2⟩, ⟨k_o_1, k_o_2⟩, trivial⟩) (rfl) (by simp) hH41 fz41
  exact WpG.ret tabOK (L' := []) (.tmp rfl (.tmp rfl .nil)) (.cons _ (.cons _ (.cons _ (.cons _ (.cons _ .slnil))))) (takes_ret (by simp [takesD, *]) (by simp [takesOK, *]) (by first | rfl | simp) rz41)
 refine WpG.g tabOK 5 rfl ?_
 refine WpG.caseE (t := 54) rfl (fun q54_4 => ?_) (fun q54_4 => ?_)
 ·refine WpG.g tabOK 2 rfl ?_
  refine WpG.draw 12 [Chunk.box b2 [.int .i64 o.bits, .int .i64 o.lanes] 81, Chunk.box b3 [.int .i64 o.bits, .int .i64 1] 81, Chunk.box b4 [.int .i64 1, .int .i64 1] 81, Chunk.box b5 [.int .i64 64, .int .i64 1] 81, Chunk.box b1 [.int .i64 o.kind, .int .i64 o.bits, .int .i64 o.lanes, .int .i64 o.dst, .slice A_o_4 o.args.length c_o_4, .int .u64 o.imm] 53] mixed (by kernel_rfl) ?_
  refine WpD.g (listed' := lst 12 16) tabOK [4] (by kernel_rfl) rfl hlr hlr (.refl _) ?_
  refine WpD.y (i := 0) (fuel := 10) (listed' := lst 12 17) (by kernel_rfl) rfl rfl rfl rfl hlr hlr (.refl _) (RunY.loadBox (ci := 0) tabOK rfl rfl rfl rfl) ?_
  refine WpD.y (i := 1) (fuel := 9) (listed' := lst 12 19) (by kernel_rfl) rfl rfl rfl rfl hlr hlr (.refl _) (RunY.loadBox (ci := 0) tabOK rfl rfl rfl rfl) ?_
  refine WpD.y (i := 5) (fuel := 8) (listed' := lst 12 51) (by kernel_rfl) rfl rfl rfl rfl hlr hlr (.refl _) (RunY.loadBox (ci := 4) tabOK rfl rfl rfl rfl) ?_
  refine WpD.g (listed' := lst 12 115) tabOK [6] (by kernel_rfl) rfl hlr hlr (.refl _) ?_
  refine WpD.f (i := 2) (fuel := 6) (listed' := lst 12 119) (by kernel_rfl) hlr (OpG.buildSlice (xs := [.int .i64 o.bits, .int .i64 o.lanes, .int .i64 o.bits, .int .i64 o.lanes]) tabOK rfl rfl rfl rfl rfl rfl rfl rfl rfl rfl) ?_
  rintro F1 H1 L1 ⟨b42, eF, eH, eL⟩
  subst eF; subst eL; rw [eH]; clear eH H1
  refine ⟨hlr, (.cons _ (.cons_cons _ (.cons_cons _ (.cons_cons _ (.cons_cons _ (.cons_cons _ .slnil)))))), ?_⟩
  change WpD _ _ _ _ _ _ _ _ _ _ _ _ _ _ [Chunk.own 81 2 (some ⟨b42, 0, none⟩) 2 2 [.int .i64 o.bits, .int .i64 o.lanes, .int .i64 o.bits, .int .i64 o.lanes], Chunk.box b2 [.int .i64 o.bits, .int .i64 o.lanes] 81, Chunk.box b3 [.int .i64 o.bits, .int .i64 1] 81, Chunk.box b4 [.int .i64 1, .int .i64 1] 81, Chunk.box b5 [.int .i64 64, .int .i64 1] 81, Chunk.box b1 [.int .i64 o.kind, .int .i64 o.bits, .int .i64 o.lanes, .int .i64 o.dst, .slice A_o_4 o.args.length c_o_4, .int .u64 o.imm] 53]
  refine WpD.callS (i := 3) (fuel := 5) (listed' := lst 12 127) (by kernel_rfl) rfl rfl rfl rfl rfl rfl hlr (row_calls) hlr hlr (.cons _ (.cons_cons _ (.cons_cons _ (.cons_cons _ (.cons_cons _ (.cons_cons _ .slnil)))))) ?_
  refine WpD.g (listed' := lst 12 1279) tabOK [7, 10] (by kernel_rfl) rfl hlr hlr (.cons _ (.cons_cons _ (.cons_cons _ (.cons_cons _ (.cons_cons _ (.cons_cons _ .slnil)))))) ?_
  refine WpD.caseE (t := 66) rfl (fun q66 => ?_) (fun q66 => ?_)
  ·refine WpD.g (listed' := lst 12 4095) tabOK [8, 9, 11] (by kernel_rfl) rfl hlr hlr (.cons _ (.cons_cons _ (.cons_cons _ (.cons_cons _ (.cons_cons _ (.cons_cons _ .slnil)))))) ?_
   refine WpD.done (by kernel_rfl) ?_
   refine WpG.ownCap (ci := 0) rfl (fun uz44 => ?_)
   refine WpG.freezeOwn (ci := 0) rfl (fun H44 hH44 fz44 => ?_)
   have rz44 : RdS H44 (some ⟨b42, 0, none⟩) [(o.bits, o.lanes), (o.bits, o.lanes)] := RdS.of_own (H := H) (show RdL H [.int .i64 o.bits, .int .i64 o.lanes, .int .i64 o.bits, .int .i64 o.lanes] [(o.bits, o.lanes), (o.bits, o.lanes)] from RdL_pairs [(o.bits, o.lanes), (o.bits, o.lanes)] ⟨⟨k_o_1, k_o_2⟩, ⟨k_o_1, k_o_2⟩, trivial⟩) (rfl) (by simp) hH44 fz44
   exact WpG.ret tabOK (L' := []) (.tmp rfl (.tmp rfl .nil)) (.cons _ (.cons _ (.cons _ (.cons _ (.cons _ .slnil))))) (takes_ret (by simp [takesD, *]) (by simp [takesOK, *]) (by first | rfl | simp) rz44)
  refine WpD.g (listed' := lst 12 4095) tabOK [8, 9, 11] (by kernel_rfl) rfl hlr hlr (.cons _ (.cons_cons _ (.cons_cons _ (.cons_cons _ (.cons_cons _ (.cons_cons _ .slnil)))))) ?_
  refine WpD.done (by kernel_rfl) ?_
  refine WpG.ownCap (ci := 0) rfl (fun uz45 => ?_)
  refine WpG.freezeOwn (ci := 0) rfl (fun H45 hH45 fz45 => ?_)
  have rz45 : RdS H45 (some ⟨b42, 0, none⟩) [(o.bits, o.lanes), (o.bits, o.lanes)] := RdS.of_own (H := H) (show RdL H [.int .i64 o.bits, .int .i64 o.lanes, .int .i64 o.bits, .int .i64 o.lanes] [(o.bits, o.lanes), (o.bits, o.lanes)] from RdL_pairs [(o.bits, o.lanes), (o.bits, o.lanes)] ⟨⟨k_o_1, k_o_2⟩, ⟨k_o_1, k_o_2⟩, trivial⟩) (rfl) (by simp) hH45 fz45
  exact WpG.ret tabOK (L' := []) (.tmp rfl (.tmp rfl .nil)) (.cons _ (.cons _ (.cons _ (.cons _ (.cons _ .slnil))))) (takes_ret (by simp [takesD, *]) (by simp [takesOK, *]) (by first | rfl | simp) rz45)
 refine WpG.g tabOK 6 rfl ?_
 refine WpG.caseE (t := 69) rfl (fun q69 => ?_) (fun q69 => ?_)
 ·refine WpG.g tabOK 2 rfl ?_
  refine WpG.draw 10 [Chunk.box b2 [.int .i64 o.bits, .int .i64 o.lanes] 81, Chunk.box b3 [.int .i64 o.bits, .int .i64 1] 81, Chunk.box b4 [.int .i64 1, .int .i64 1] 81, Chunk.box b5 [.int .i64 64, .int .i64 1] 81, Chunk.box b1 [.int .i64 o.kind, .int .i64 o.bits, .int .i64 o.lanes, .int .i64 o.dst, .slice A_o_4 o.args.length c_o_4, .int .u64 o.imm] 53] mixed (by kernel_rfl) ?_
  refine WpD.g (listed' := lst 10 32) tabOK [5] (by kernel_rfl) rfl hlr hlr (.refl _) ?_
  refine WpD.y (i := 0) (fuel := 8) (listed' := lst 10 33) (by kernel_rfl) rfl rfl rfl rfl hlr hlr (.refl _) (RunY.loadBox (ci := 2) tabOK rfl rfl rfl rfl) ?_
  refine WpD.y (i := 1) (fuel := 7) (listed' := lst 10 35) (by kernel_rfl) rfl rfl rfl rfl hlr hlr (.refl _) (RunY.loadBox (ci := 0) tabOK rfl rfl rfl rfl) ?_
  refine WpD.y (i := 2) (fuel := 6) (listed' := lst 10 39) (by kernel_rfl) rfl rfl rfl rfl hlr hlr (.refl _) (RunY.loadBox (ci := 0) tabOK rfl rfl rfl rfl) ?_
  refine WpD.y (i := 6) (fuel := 5) (listed' := lst 10 103) (by kernel_rfl) rfl rfl rfl rfl hlr hlr (.refl _) (RunY.loadBox (ci := 4) tabOK rfl rfl rfl rfl) ?_
  refine WpD.g (listed' := lst 10 231) tabOK [7] (by kernel_rfl) rfl hlr hlr (.refl _) ?_
  refine WpD.f (i := 3) (fuel := 3) (listed' := lst 10 239) (by kernel_rfl) hlr (OpG.buildSlice (xs := [.int .i64 1, .int .i64 1, .int .i64 o.bits, .int .i64 o.lanes, .int .i64 o.bits, .int .i64 o.lanes]) tabOK rfl rfl rfl rfl rfl rfl rfl rfl rfl rfl) ?_
  rintro F1 H1 L1 ⟨b46, eF, eH, eL⟩
  subst eF; subst eL; rw [eH]; clear eH H1
  refine ⟨hlr, (.cons _ (.cons_cons _ (.cons_cons _ (.cons_cons _ (.cons_cons _ (.cons_cons _ .slnil)))))), ?_⟩
  change WpD _ _ _ _ _ _ _ _ _ _ _ _ _ _ [Chunk.own 81 2 (some ⟨b46, 0, none⟩) 3 3 [.int .i64 1, .int .i64 1, .int .i64 o.bits, .int .i64 o.lanes, .int .i64 o.bits, .int .i64 o.lanes], Chunk.box b2 [.int .i64 o.bits, .int .i64 o.lanes] 81, Chunk.box b3 [.int .i64 o.bits, .int .i64 1] 81, Chunk.box b4 [.int .i64 1, .int .i64 1] 81, Chunk.box b5 [.int .i64 64, .int .i64 1] 81, Chunk.box b1 [.int .i64 o.kind, .int .i64 o.bits, .int .i64 o.lanes, .int .i64 o.dst, .slice A_o_4 o.args.length c_o_4, .int .u64 o.imm] 53]
  refine WpD.callS (i := 4) (fuel := 2) (listed' := lst 10 255) (by kernel_rfl) rfl rfl rfl rfl rfl rfl hlr (row_calls) hlr hlr (.cons _ (.cons_cons _ (.cons_cons _ (.cons_cons _ (.cons_cons _ (.cons_cons _ .slnil)))))) ?_
  refine WpD.g (listed' := lst 10 1023) tabOK [8, 9] (by kernel_rfl) rfl hlr hlr (.cons _ (.cons_cons _ (.cons_cons _ (.cons_cons _ (.cons_cons _ (.cons_cons _ .slnil)))))) ?_
  refine WpD.done (by kernel_rfl) ?_
  refine WpG.ownCap (ci := 0) rfl (fun uz48 => ?_)
  refine WpG.freezeOwn (ci := 0) rfl (fun H48 hH48 fz48 => ?_)
  have rz48 : RdS H48 (some ⟨b46, 0, none⟩) [((1 : Int), (1 : Int)), (o.bits, o.lanes), (o.bits, o.lanes)] := RdS.of_own (H := H) (show RdL H [.int .i64 1, .int .i64 1, .int .i64 o.bits, .int .i64 o.lanes, .int .i64 o.bits, .int .i64 o.lanes] [((1 : Int), (1 : Int)), (o.bits, o.lanes), (o.bits, o.lanes)] from RdL_pairs [((1 : Int), (1 : Int)), (o.bits, o.lanes), (o.bits, o.lanes)] ⟨⟨(show I64 1 from ⟨by decide, by decide⟩), (show I64 1 from ⟨by decide, by decide⟩)⟩, ⟨k_o_1, k_o_2⟩, ⟨k_o_1, k_o_2⟩, trivial⟩) (rfl) (by simp) hH48 fz48
  exact WpG.ret tabOK (L' := []) (.tmp rfl (.tmp rfl .nil)) (.cons _ (.cons _ (.cons _ (.cons _ (.cons _ .slnil))))) (takes_ret (by simp [takesD, *]) (by simp [takesOK, *]) (by first | rfl | simp) rz48)
 refine WpG.g tabOK 6 rfl ?_
 refine WpG.caseE (t := 79) rfl (fun q79 => ?_) (fun q79 => ?_)
 ·refine WpG.g tabOK 4 rfl ?_
  refine WpG.y rfl rfl rfl rfl (RunY.loadBox (ci := 4) tabOK rfl rfl rfl rfl) ?_
  refine WpG.gw tabOK 2 84 rfl (wrk (x := (if 128 < o.imm then 128 else o.imm)) (by omega) (by omega)) ?_
  refine WpG.g tabOK 1 rfl ?_
  refine WpG.buildSlice (xs := [.int .i64 (if 128 < o.imm then 128 else o.imm), .int .i64 1]) tabOK rfl rfl rfl rfl rfl rfl rfl rfl rfl rfl (fun b49 => ?_)
  refine WpG.callS rfl rfl rfl rfl rfl rfl hlr (row_calls) ?_
  refine WpG.g tabOK 2 rfl ?_
  refine WpG.caseE (t := 89) rfl (fun q89 => ?_) (fun q89 => ?_)
  ·refine WpG.g tabOK 1 rfl ?_
   refine WpG.y rfl rfl rfl rfl (RunY.loadBox (ci := 5) tabOK rfl rfl rfl rfl) ?_
   refine WpG.g tabOK 1 rfl ?_
   refine WpG.y rfl rfl rfl rfl (RunY.loadBox (ci := 5) tabOK rfl rfl rfl rfl) ?_
   refine WpG.gw tabOK 1 94 rfl (wrku (x := o.bits) (by omega) (by omega)) ?_
   refine WpG.g tabOK 3 rfl ?_
   refine WpG.caseD (t := 97) rfl (fun q97 => ?_) (fun q97 => ?_)
   ·refine WpG.g tabOK 1 rfl ?_
    refine WpG.y rfl rfl rfl rfl (RunY.loadBox (ci := 5) tabOK rfl rfl rfl rfl) ?_
    refine WpG.gw tabOK 1 100 rfl (wrk (x := o.imm) (by omega) (by omega)) ?_
    refine WpG.callS rfl rfl rfl rfl rfl rfl hlr (May_calls o.imm) ?_
    refine WpG.g tabOK 4 rfl ?_
    refine WpG.ownCap (ci := 0) rfl (fun uz51 => ?_)
    refine WpG.freezeOwn (ci := 0) rfl (fun H51 hH51 fz51 => ?_)
    have rz51 : RdS H51 (some ⟨b49, 0, none⟩) [((if 128 < o.imm then 128 else o.imm), (1 : Int))] := RdS.of_own (H := H) (show RdL H [.int .i64 (if 128 < o.imm then 128 else o.imm), .int .i64 1] [((if 128 < o.imm then 128 else o.imm), (1 : Int))] from RdL_pairs [((if 128 < o.imm then 128 else o.imm), (1 : Int))] ⟨⟨(minI64 k_o_4), (show I64 1 from ⟨by decide, by decide⟩)⟩, trivial⟩) (rfl) (by simp) hH51 fz51
    exact WpG.ret tabOK (L' := []) (.tmp rfl (.tmp rfl .nil)) (.cons _ (.cons _ (.cons _ (.cons _ (.cons _ .slnil))))) (takes_ret (by simp [takesD, *]) (by simp [takesOK, *]) (by first | rfl | simp) rz51)
   refine WpG.g tabOK 8 rfl ?_
   refine WpG.ownCap (ci := 0) rfl (fun uz52 => ?_)
   refine WpG.freezeOwn (ci := 0) rfl (fun H52 hH52 fz52 => ?_)
   have rz52 : RdS H52 (some ⟨b49, 0, none⟩) [((if 128 < o.imm then 128 else o.imm), (1 : Int))] := RdS.of_own (H := H) (show RdL H [.int .i64 (if 128 < o.imm then 128 else o.imm), .int .i64 1] [((if 128 < o.imm then 128 else o.imm), (1 : Int))] from RdL_pairs [((if 128 < o.imm then 128 else o.imm), (1 : Int))] ⟨⟨(minI64 k_o_4), (show I64 1 from ⟨by decide, by decide⟩)⟩, trivial⟩) (rfl) (by simp) hH52 fz52
   exact WpG.ret tabOK (L' := []) (.tmp rfl (.tmp rfl .nil)) (.cons _ (.cons _ (.cons _ (.cons _ (.cons _ .slnil))))) (takes_ret (by simp [takesD, *]) (by simp [takesOK, *]) (by first | rfl | simp) rz52)
  refine WpG.g tabOK 16 rfl ?_
  refine WpG.ownCap (ci := 0) rfl (fun uz53 => ?_)
  refine WpG.freezeOwn (ci := 0) rfl (fun H53 hH53 fz53 => ?_)
  have rz53 : RdS H53 (some ⟨b49, 0, none⟩) [((if 128 < o.imm then 128 else o.imm), (1 : Int))] := RdS.of_own (H := H) (show RdL H [.int .i64 (if 128 < o.imm then 128 else o.imm), .int .i64 1] [((if 128 < o.imm then 128 else o.imm), (1 : Int))] from RdL_pairs [((if 128 < o.imm then 128 else o.imm), (1 : Int))] ⟨⟨(minI64 k_o_4), (show I64 1 from ⟨by decide, by decide⟩)⟩, trivial⟩) (rfl) (by simp) hH53 fz53
  exact WpG.ret tabOK (L' := []) (.tmp rfl (.tmp rfl .nil)) (.cons _ (.cons _ (.cons _ (.cons _ (.cons _ .slnil))))) (takes_ret (by simp [takesD, *]) (by simp [takesOK, *]) (by first | rfl | simp) rz53)
 refine WpG.g tabOK 6 rfl ?_
 refine WpG.caseE (t := 103) rfl (fun q103 => ?_) (fun q103 => ?_)
 ·refine WpG.g tabOK 4 rfl ?_
  refine WpG.y rfl rfl rfl rfl (RunY.loadBox (ci := 4) tabOK rfl rfl rfl rfl) ?_
  refine WpG.gw tabOK 2 108 rfl (wrk (x := (if 128 < o.imm then 128 else o.imm)) (by omega) (by omega)) ?_
  refine WpG.g tabOK 1 rfl ?_
  refine WpG.buildSlice (xs := [.int .i64 (if 128 < o.imm then 128 else o.imm), .int .i64 1]) tabOK rfl rfl rfl rfl rfl rfl rfl rfl rfl rfl (fun b54 => ?_)
  refine WpG.callS rfl rfl rfl rfl rfl rfl hlr (row_calls) ?_
  refine WpG.g tabOK 2 rfl ?_
  refine WpG.caseE (t := 113) rfl (fun q113 => ?_) (fun q113 => ?_)
  ·refine WpG.g tabOK 1 rfl ?_
   refine WpG.y rfl rfl rfl rfl (RunY.loadBox (ci := 5) tabOK rfl rfl rfl rfl) ?_
   refine WpG.g tabOK 1 rfl ?_
   refine WpG.y rfl rfl rfl rfl (RunY.loadBox (ci := 5) tabOK rfl rfl rfl rfl) ?_
   refine WpG.gw tabOK 1 118 rfl (wrku (x := o.bits) (by omega) (by omega)) ?_
   refine WpG.g tabOK 3 rfl ?_
   refine WpG.caseD (t := 121) rfl (fun q121 => ?_) (fun q121 => ?_)
   ·refine WpG.g tabOK 1 rfl ?_
    refine WpG.y rfl rfl rfl rfl (RunY.loadBox (ci := 5) tabOK rfl rfl rfl rfl) ?_
    refine WpG.g tabOK 3 rfl ?_
    refine WpG.caseD (t := 126) rfl (fun q126 => ?_) (fun q126 => ?_)
    ·refine WpG.g tabOK 1 rfl ?_
     refine WpG.y rfl rfl rfl rfl (RunY.loadBox (ci := 5) tabOK rfl rfl rfl rfl) ?_
     refine WpG.gw tabOK 1 129 rfl (wrk (x := o.imm) (by omega) (by omega)) ?_
     refine WpG.callS rfl rfl rfl rfl rfl rfl hlr (May_calls o.imm) ?_
     refine WpG.g tabOK 4 rfl ?_
     refine WpG.ownCap (ci := 0) rfl (fun uz56 => ?_)
     refine WpG.freezeOwn (ci := 0) rfl (fun H56 hH56 fz56 => ?_)
     have rz56 : RdS H56 (some ⟨b54, 0, none⟩) [((if 128 < o.imm then 128 else o.imm), (1 : Int))] := RdS.of_own (H := H) (show RdL H [.int .i64 (if 128 < o.imm then 128 else o.imm), .int .i64 1] [((if 128 < o.imm then 128 else o.imm), (1 : Int))] from RdL_pairs [((if 128 < o.imm then 128 else o.imm), (1 : Int))] ⟨⟨(minI64 k_o_4), (show I64 1 from ⟨by decide, by decide⟩)⟩, trivial⟩) (rfl) (by simp) hH56 fz56
     exact WpG.ret tabOK (L' := []) (.tmp rfl (.tmp rfl .nil)) (.cons _ (.cons _ (.cons _ (.cons _ (.cons _ .slnil))))) (takes_ret (by simp [takesD, *]) (by simp [takesOK, *]) (by first | rfl | simp) rz56)
    refine WpG.g tabOK 8 rfl ?_
    refine WpG.ownCap (ci := 0) rfl (fun uz57 => ?_)
    refine WpG.freezeOwn (ci := 0) rfl (fun H57 hH57 fz57 => ?_)
    have rz57 : RdS H57 (some ⟨b54, 0, none⟩) [((if 128 < o.imm then 128 else o.imm), (1 : Int))] := RdS.of_own (H := H) (show RdL H [.int .i64 (if 128 < o.imm then 128 else o.imm), .int .i64 1] [((if 128 < o.imm then 128 else o.imm), (1 : Int))] from RdL_pairs [((if 128 < o.imm then 128 else o.imm), (1 : Int))] ⟨⟨(minI64 k_o_4), (show I64 1 from ⟨by decide, by decide⟩)⟩, trivial⟩) (rfl) (by simp) hH57 fz57
    exact WpG.ret tabOK (L' := []) (.tmp rfl (.tmp rfl .nil)) (.cons _ (.cons _ (.cons _ (.cons _ (.cons _ .slnil))))) (takes_ret (by simp [takesD, *]) (by simp [takesOK, *]) (by first | rfl | simp) rz57)
   refine WpG.g tabOK 13 rfl ?_
   refine WpG.ownCap (ci := 0) rfl (fun uz58 => ?_)
   refine WpG.freezeOwn (ci := 0) rfl (fun H58 hH58 fz58 => ?_)
   have rz58 : RdS H58 (some ⟨b54, 0, none⟩) [((if 128 < o.imm then 128 else o.imm), (1 : Int))] := RdS.of_own (H := H) (show RdL H [.int .i64 (if 128 < o.imm then 128 else o.imm), .int .i64 1] [((if 128 < o.imm then 128 else o.imm), (1 : Int))] from RdL_pairs [((if 128 < o.imm then 128 else o.imm), (1 : Int))] ⟨⟨(minI64 k_o_4), (show I64 1 from ⟨by decide, by decide⟩)⟩, trivial⟩) (rfl) (by simp) hH58 fz58
   exact WpG.ret tabOK (L' := []) (.tmp rfl (.tmp rfl .nil)) (.cons _ (.cons _ (.cons _ (.cons _ (.cons _ .slnil))))) (takes_ret (by simp [takesD, *]) (by simp [takesOK, *]) (by first | rfl | simp) rz58)
  refine WpG.g tabOK 21 rfl ?_
  refine WpG.ownCap (ci := 0) rfl (fun uz59 => ?_)
  refine WpG.freezeOwn (ci := 0) rfl (fun H59 hH59 fz59 => ?_)
  have rz59 : RdS H59 (some ⟨b54, 0, none⟩) [((if 128 < o.imm then 128 else o.imm), (1 : Int))] := RdS.of_own (H := H) (show RdL H [.int .i64 (if 128 < o.imm then 128 else o.imm), .int .i64 1] [((if 128 < o.imm then 128 else o.imm), (1 : Int))] from RdL_pairs [((if 128 < o.imm then 128 else o.imm), (1 : Int))] ⟨⟨(minI64 k_o_4), (show I64 1 from ⟨by decide, by decide⟩)⟩, trivial⟩) (rfl) (by simp) hH59 fz59
  exact WpG.ret tabOK (L' := []) (.tmp rfl (.tmp rfl .nil)) (.cons _ (.cons _ (.cons _ (.cons _ (.cons _ .slnil))))) (takes_ret (by simp [takesD, *]) (by simp [takesOK, *]) (by first | rfl | simp) rz59)
 refine WpG.g tabOK 6 rfl ?_
 refine WpG.caseE (t := 132) rfl (fun q132 => ?_) (fun q132 => ?_)
 ·refine WpG.g tabOK 2 rfl ?_
  refine WpG.draw 11 [Chunk.box b2 [.int .i64 o.bits, .int .i64 o.lanes] 81, Chunk.box b3 [.int .i64 o.bits, .int .i64 1] 81, Chunk.box b4 [.int .i64 1, .int .i64 1] 81, Chunk.box b5 [.int .i64 64, .int .i64 1] 81, Chunk.box b1 [.int .i64 o.kind, .int .i64 o.bits, .int .i64 o.lanes, .int .i64 o.dst, .slice A_o_4 o.args.length c_o_4, .int .u64 o.imm] 53] mixed (by kernel_rfl) ?_
  refine WpD.g (listed' := lst 11 8) tabOK [3] (by kernel_rfl) rfl hlr hlr (.refl _) ?_
  refine WpD.y (i := 0) (fuel := 9) (listed' := lst 11 9) (by kernel_rfl) rfl rfl rfl rfl hlr hlr (.refl _) (RunY.loadBox (ci := 3) tabOK rfl rfl rfl rfl) ?_
  refine WpD.y (i := 4) (fuel := 8) (listed' := lst 11 25) (by kernel_rfl) rfl rfl rfl rfl hlr hlr (.refl _) (RunY.loadBox (ci := 4) tabOK rfl rfl rfl rfl) ?_
  refine WpD.g (listed' := lst 11 57) tabOK [5] (by kernel_rfl) rfl hlr hlr (.refl _) ?_
  refine WpD.f (i := 1) (fuel := 6) (listed' := lst 11 59) (by kernel_rfl) hlr (OpG.buildSlice (xs := [.int .i64 64, .int .i64 1]) tabOK rfl rfl rfl rfl rfl rfl rfl rfl rfl rfl) ?_
  rintro F1 H1 L1 ⟨b60, eF, eH, eL⟩
  subst eF; subst eL; rw [eH]; clear eH H1
  refine ⟨hlr, (.cons _ (.cons_cons _ (.cons_cons _ (.cons_cons _ (.cons_cons _ (.cons_cons _ .slnil)))))), ?_⟩
  change WpD _ _ _ _ _ _ _ _ _ _ _ _ _ _ [Chunk.own 81 2 (some ⟨b60, 0, none⟩) 1 1 [.int .i64 64, .int .i64 1], Chunk.box b2 [.int .i64 o.bits, .int .i64 o.lanes] 81, Chunk.box b3 [.int .i64 o.bits, .int .i64 1] 81, Chunk.box b4 [.int .i64 1, .int .i64 1] 81, Chunk.box b5 [.int .i64 64, .int .i64 1] 81, Chunk.box b1 [.int .i64 o.kind, .int .i64 o.bits, .int .i64 o.lanes, .int .i64 o.dst, .slice A_o_4 o.args.length c_o_4, .int .u64 o.imm] 53]
  refine WpD.callS (i := 2) (fuel := 5) (listed' := lst 11 63) (by kernel_rfl) rfl rfl rfl rfl rfl rfl hlr (row_calls) hlr hlr (.cons _ (.cons_cons _ (.cons_cons _ (.cons_cons _ (.cons_cons _ (.cons_cons _ .slnil)))))) ?_
  refine WpD.g (listed' := lst 11 639) tabOK [6, 9] (by kernel_rfl) rfl hlr hlr (.cons _ (.cons_cons _ (.cons_cons _ (.cons_cons _ (.cons_cons _ (.cons_cons _ .slnil)))))) ?_
  refine WpD.caseE (t := 140) rfl (fun q140 => ?_) (fun q140 => ?_)
  ·refine WpD.g (listed' := lst 11 2047) tabOK [7, 8, 10] (by kernel_rfl) rfl hlr hlr (.cons _ (.cons_cons _ (.cons_cons _ (.cons_cons _ (.cons_cons _ (.cons_cons _ .slnil)))))) ?_
   refine WpD.done (by kernel_rfl) ?_
   refine WpG.ownCap (ci := 0) rfl (fun uz62 => ?_)
   refine WpG.freezeOwn (ci := 0) rfl (fun H62 hH62 fz62 => ?_)
   have rz62 : RdS H62 (some ⟨b60, 0, none⟩) [((64 : Int), (1 : Int))] := RdS.of_own (H := H) (show RdL H [.int .i64 64, .int .i64 1] [((64 : Int), (1 : Int))] from RdL_pairs [((64 : Int), (1 : Int))] ⟨⟨(show I64 64 from ⟨by decide, by decide⟩), (show I64 1 from ⟨by decide, by decide⟩)⟩, trivial⟩) (rfl) (by simp) hH62 fz62
   exact WpG.ret tabOK (L' := []) (.tmp rfl (.tmp rfl .nil)) (.cons _ (.cons _ (.cons _ (.cons _ (.cons _ .slnil))))) (takes_ret (by simp [takesD, *]) (by simp [takesOK, *]) (by first | rfl | simp) rz62)
  refine WpD.g (listed' := lst 11 2047) tabOK [7, 8, 10] (by kernel_rfl) rfl hlr hlr (.cons _ (.cons_cons _ (.cons_cons _ (.cons_cons _ (.cons_cons _ (.cons_cons _ .slnil)))))) ?_
  refine WpD.done (by kernel_rfl) ?_
  refine WpG.ownCap (ci := 0) rfl (fun uz63 => ?_)
  refine WpG.freezeOwn (ci := 0) rfl (fun H63 hH63 fz63 => ?_)
  have rz63 : RdS H63 (some ⟨b60, 0, none⟩) [((64 : Int), (1 : Int))] := RdS.of_own (H := H) (show RdL H [.int .i64 64, .int .i64 1] [((64 : Int), (1 : Int))] from RdL_pairs [((64 : Int), (1 : Int))] ⟨⟨(show I64 64 from ⟨by decide, by decide⟩), (show I64 1 from ⟨by decide, by decide⟩)⟩, trivial⟩) (rfl) (by simp) hH63 fz63
  exact WpG.ret tabOK (L' := []) (.tmp rfl (.tmp rfl .nil)) (.cons _ (.cons _ (.cons _ (.cons _ (.cons _ .slnil))))) (takes_ret (by simp [takesD, *]) (by simp [takesOK, *]) (by first | rfl | simp) rz63)
 refine WpG.g tabOK 6 rfl ?_
 refine WpG.caseE (t := 143) rfl (fun q143 => ?_) (fun q143 => ?_)
 ·refine WpG.g tabOK 2 rfl ?_
  refine WpG.draw 12 [Chunk.box b2 [.int .i64 o.bits, .int .i64 o.lanes] 81, Chunk.box b3 [.int .i64 o.bits, .int .i64 1] 81, Chunk.box b4 [.int .i64 1, .int .i64 1] 81, Chunk.box b5 [.int .i64 64, .int .i64 1] 81, Chunk.box b1 [.int .i64 o.kind, .int .i64 o.bits, .int .i64 o.lanes, .int .i64 o.dst, .slice A_o_4 o.args.length c_o_4, .int .u64 o.imm] 53] mixed (by kernel_rfl) ?_
  refine WpD.g (listed' := lst 12 16) tabOK [4] (by kernel_rfl) rfl hlr hlr (.refl _) ?_
  refine WpD.y (i := 0) (fuel := 10) (listed' := lst 12 17) (by kernel_rfl) rfl rfl rfl rfl hlr hlr (.refl _) (RunY.loadBox (ci := 3) tabOK rfl rfl rfl rfl) ?_
  refine WpD.y (i := 1) (fuel := 9) (listed' := lst 12 19) (by kernel_rfl) rfl rfl rfl rfl hlr hlr (.refl _) (RunY.loadBox (ci := 0) tabOK rfl rfl rfl rfl) ?_
  refine WpD.y (i := 5) (fuel := 8) (listed' := lst 12 51) (by kernel_rfl) rfl rfl rfl rfl hlr hlr (.refl _) (RunY.loadBox (ci := 4) tabOK rfl rfl rfl rfl) ?_
  refine WpD.g (listed' := lst 12 115) tabOK [6] (by kernel_rfl) rfl hlr hlr (.refl _) ?_
  refine WpD.f (i := 2) (fuel := 6) (listed' := lst 12 119) (by kernel_rfl) hlr (OpG.buildSlice (xs := [.int .i64 64, .int .i64 1, .int .i64 o.bits, .int .i64 o.lanes]) tabOK rfl rfl rfl rfl rfl rfl rfl rfl rfl rfl) ?_
  rintro F1 H1 L1 ⟨b64, eF, eH, eL⟩
  subst eF; subst eL; rw [eH]; clear eH H1
  refine ⟨hlr, (.cons _ (.cons_cons _ (.cons_cons _ (.cons_cons _ (.cons_cons _ (.cons_cons _ .slnil)))))), ?_⟩
  change WpD _ _ _ _ _ _ _ _ _ _ _ _ _ _ [Chunk.own 81 2 (some ⟨b64, 0, none⟩) 2 2 [.int .i64 64, .int .i64 1, .int .i64 o.bits, .int .i64 o.lanes], Chunk.box b2 [.int .i64 o.bits, .int .i64 o.lanes] 81, Chunk.box b3 [.int .i64 o.bits, .int .i64 1] 81, Chunk.box b4 [.int .i64 1, .int .i64 1] 81, Chunk.box b5 [.int .i64 64, .int .i64 1] 81, Chunk.box b1 [.int .i64 o.kind, .int .i64 o.bits, .int .i64 o.lanes, .int .i64 o.dst, .slice A_o_4 o.args.length c_o_4, .int .u64 o.imm] 53]
  refine WpD.callS (i := 3) (fuel := 5) (listed' := lst 12 127) (by kernel_rfl) rfl rfl rfl rfl rfl rfl hlr (row_calls) hlr hlr (.cons _ (.cons_cons _ (.cons_cons _ (.cons_cons _ (.cons_cons _ (.cons_cons _ .slnil)))))) ?_
  refine WpD.g (listed' := lst 12 1279) tabOK [7, 10] (by kernel_rfl) rfl hlr hlr (.cons _ (.cons_cons _ (.cons_cons _ (.cons_cons _ (.cons_cons _ (.cons_cons _ .slnil)))))) ?_
  refine WpD.caseE (t := 152) rfl (fun q152 => ?_) (fun q152 => ?_)
  ·refine WpD.g (listed' := lst 12 4095) tabOK [8, 9, 11] (by kernel_rfl) rfl hlr hlr (.cons _ (.cons_cons _ (.cons_cons _ (.cons_cons _ (.cons_cons _ (.cons_cons _ .slnil)))))) ?_
   refine WpD.done (by kernel_rfl) ?_
   refine WpG.ownCap (ci := 0) rfl (fun uz66 => ?_)
   refine WpG.freezeOwn (ci := 0) rfl (fun H66 hH66 fz66 => ?_)
   have rz66 : RdS H66 (some ⟨b64, 0, none⟩) [((64 : Int), (1 : Int)), (o.bits, o.lanes)] := RdS.of_own (H := H) (show RdL H [.int .i64 64, .int .i64 1, .int .i64 o.bits, .int .i64 o.lanes] [((64 : Int), (1 : Int)), (o.bits, o.lanes)] from RdL_pairs [((64 : Int), (1 : Int)), (o.bits, o.lanes)] ⟨⟨(show I64 64 from ⟨by decide, by decide⟩), (show I64 1 from ⟨by decide, by decide⟩)⟩, ⟨k_o_1, k_o_2⟩, trivial⟩) (rfl) (by simp) hH66 fz66
   exact WpG.ret tabOK (L' := []) (.tmp rfl (.tmp rfl .nil)) (.cons _ (.cons _ (.cons _ (.cons _ (.cons _ .slnil))))) (takes_ret (by simp [takesD, *]) (by simp [takesOK, *]) (by first | rfl | simp) rz66)
  refine WpD.g (listed' := lst 12 4095) tabOK [8, 9, 11] (by kernel_rfl) rfl hlr hlr (.cons _ (.cons_cons _ (.cons_cons _ (.cons_cons _ (.cons_cons _ (.cons_cons _ .slnil)))))) ?_
  refine WpD.done (by kernel_rfl) ?_
  refine WpG.ownCap (ci := 0) rfl (fun uz67 => ?_)
  refine WpG.freezeOwn (ci := 0) rfl (fun H67 hH67 fz67 => ?_)
  have rz67 : RdS H67 (some ⟨b64, 0, none⟩) [((64 : Int), (1 : Int)), (o.bits, o.lanes)] := RdS.of_own (H := H) (show RdL H [.int .i64 64, .int .i64 1, .int .i64 o.bits, .int .i64 o.lanes] [((64 : Int), (1 : Int)), (o.bits, o.lanes)] from RdL_pairs [((64 : Int), (1 : Int)), (o.bits, o.lanes)] ⟨⟨(show I64 64 from ⟨by decide, by decide⟩), (show I64 1 from ⟨by decide, by decide⟩)⟩, ⟨k_o_1, k_o_2⟩, trivial⟩) (rfl) (by simp) hH67 fz67
  exact WpG.ret tabOK (L' := []) (.tmp rfl (.tmp rfl .nil)) (.cons _ (.cons _ (.cons _ (.cons _ (.cons _ .slnil))))) (takes_ret (by simp [takesD, *]) (by simp [takesOK, *]) (by first | rfl | simp) rz67)
 refine WpG.g tabOK 7 rfl ?_
 refine WpG.caseE (t := 155) rfl (fun q155 => ?_) (fun q155 => ?_)
 ·refine WpG.g tabOK 4 rfl ?_
  refine WpG.draw 16 [Chunk.box b2 [.int .i64 o.bits, .int .i64 o.lanes] 81, Chunk.box b3 [.int .i64 o.bits, .int .i64 1] 81, Chunk.box b4 [.int .i64 1, .int .i64 1] 81, Chunk.box b5 [.int .i64 64, .int .i64 1] 81, Chunk.box b1 [.int .i64 o.kind, .int .i64 o.bits, .int .i64 o.lanes, .int .i64 o.dst, .slice A_o_4 o.args.length c_o_4, .int .u64 o.imm] 53] mixed (by kernel_rfl) ?_
  refine WpD.g (listed' := lst 16 32) tabOK [5] (by kernel_rfl) rfl hlr hlr (.refl _) ?_
  refine WpD.y (i := 0) (fuel := 14) (listed' := lst 16 33) (by kernel_rfl) rfl rfl rfl rfl hlr hlr (.refl _) (RunY.loadBox (ci := 2) tabOK rfl rfl rfl rfl) ?_
  refine WpD.y (i := 1) (fuel := 13) (listed' := lst 16 35) (by kernel_rfl) rfl rfl rfl rfl hlr hlr (.refl _) (RunY.loadBox (ci := 3) tabOK rfl rfl rfl rfl) ?_
  refine WpD.y (i := 2) (fuel := 12) (listed' := lst 16 39) (by kernel_rfl) rfl rfl rfl rfl hlr hlr (.refl _) (RunY.loadBox (ci := 0) tabOK rfl rfl rfl rfl) ?_
  refine WpD.y (i := 6) (fuel := 11) (listed' := lst 16 103) (by kernel_rfl) rfl rfl rfl rfl hlr hlr (.refl _) (RunY.loadBox (ci := 4) tabOK rfl rfl rfl rfl) ?_
  refine WpD.g (listed' := lst 16 231) tabOK [7] (by kernel_rfl) rfl hlr hlr (.refl _) ?_
  refine WpD.f (i := 3) (fuel := 9) (listed' := lst 16 239) (by kernel_rfl) hlr (OpG.buildSlice (xs := [.int .i64 1, .int .i64 1, .int .i64 64, .int .i64 1, .int .i64 o.bits, .int .i64 o.lanes]) tabOK rfl rfl rfl rfl rfl rfl rfl rfl rfl rfl) ?_
  rintro F1 H1 L1 ⟨b68, eF, eH, eL⟩
  subst eF; subst eL; rw [eH]; clear eH H1
  refine ⟨hlr, (.cons _ (.cons_cons _ (.cons_cons _ (.cons_cons _ (.cons_cons _ (.cons_cons _ .slnil)))))), ?_⟩
  change WpD _ _ _ _ _ _ _ _ _ _ _ _ _ _ [Chunk.own 81 2 (some ⟨b68, 0, none⟩) 3 3 [.int .i64 1, .int .i64 1, .int .i64 64, .int .i64 1, .int .i64 o.bits, .int .i64 o.lanes], Chunk.box b2 [.int .i64 o.bits, .int .i64 o.lanes] 81, Chunk.box b3 [.int .i64 o.bits, .int .i64 1] 81, Chunk.box b4 [.int .i64 1, .int .i64 1] 81, Chunk.box b5 [.int .i64 64, .int .i64 1] 81, Chunk.box b1 [.int .i64 o.kind, .int .i64 o.bits, .int .i64 o.lanes, .int .i64 o.dst, .slice A_o_4 o.args.length c_o_4, .int .u64 o.imm] 53]
  refine WpD.callS (i := 4) (fuel := 8) (listed' := lst 16 255) (by kernel_rfl) rfl rfl rfl rfl rfl rfl hlr (row_calls) hlr hlr (.cons _ (.cons_cons _ (.cons_cons _ (.cons_cons _ (.cons_cons _ (.cons_cons _ .slnil)))))) ?_
  refine WpD.g (listed' := lst 16 511) tabOK [8] (by kernel_rfl) rfl hlr hlr (.cons _ (.cons_cons _ (.cons_cons _ (.cons_cons _ (.cons_cons _ (.cons_cons _ .slnil)))))) ?_
  refine WpD.caseE (t := 166) rfl (fun q166 => ?_) (fun q166 => ?_)
  ·refine WpD.g (listed' := lst 16 20479) tabOK [9, 10, 11, 14] (by kernel_rfl) rfl hlr hlr (.cons _ (.cons_cons _ (.cons_cons _ (.cons_cons _ (.cons_cons _ (.cons_cons _ .slnil)))))) ?_
   refine WpD.caseE (t := 169) rfl (fun q169 => ?_) (fun q169 => ?_)
   ·refine WpD.g (listed' := lst 16 65535) tabOK [12, 13, 15] (by kernel_rfl) rfl hlr hlr (.cons _ (.cons_cons _ (.cons_cons _ (.cons_cons _ (.cons_cons _ (.cons_cons _ .slnil)))))) ?_
    refine WpD.done (by kernel_rfl) ?_
    refine WpG.ownCap (ci := 0) rfl (fun uz70 => ?_)
    refine WpG.freezeOwn (ci := 0) rfl (fun H70 hH70 fz70 => ?_)
    have rz70 : RdS H70 (some ⟨b68, 0, none⟩) [((1 : Int), (1 : Int)), ((64 : Int), (1 : Int)), (o.bits, o.lanes)] := RdS.of_own (H := H) (show RdL H [.int .i64 1, .int .i64 1, .int .i64 64, .int .i64 1, .int .i64 o.bits, .int .i64 o.lanes] [((1 : Int), (1 : Int)), ((64 : Int), (1 : Int)), (o.bits, o.lanes)] from RdL_pairs [((1 : Int), (1 : Int)), ((64 : Int), (1 : Int)), (o.bits, o.lanes)] ⟨⟨(show I64 1 from ⟨by decide, by decide⟩), (show I64 1 from ⟨by decide, by decide⟩)⟩, ⟨(show I64 64 from ⟨by decide, by decide⟩), (show I64 1 from ⟨by decide, by decide⟩)⟩, ⟨k_o_1, k_o_2⟩, trivial⟩) (rfl) (by simp) hH70 fz70
    exact WpG.ret tabOK (L' := []) (.tmp rfl (.tmp rfl .nil)) (.cons _ (.cons _ (.cons _ (.cons _ (.cons _ .slnil))))) (takes_ret (by simp [takesD, *]) (by simp [takesOK, *]) (by first | rfl | simp) rz70)
   refine WpD.g (listed' := lst 16 65535) tabOK [12, 13, 15] (by kernel_rfl) rfl hlr hlr (.cons _ (.cons_cons _ (.cons_cons _ (.cons_cons _ (.cons_cons _ (.cons_cons _ .slnil)))))) ?_
   refine WpD.done (by kernel_rfl) ?_
   refine WpG.ownCap (ci := 0) rfl (fun uz71 => ?_)
   refine WpG.freezeOwn (ci := 0) rfl (fun H71 hH71 fz71 => ?_)
   have rz71 : RdS H71 (some ⟨b68, 0, none⟩) [((1 : Int), (1 : Int)), ((64 : Int), (1 : Int)), (o.bits, o.lanes)] := RdS.of_own (H := H) (show RdL H [.int .i64 1, .int .i64 1, .int .i64 64, .int .i64 1, .int .i64 o.bits, .int .i64 o.lanes] [((1 : Int), (1 : Int)), ((64 : Int), (1 : Int)), (o.bits, o.lanes)] from RdL_pairs [((1 : Int), (1 : Int)), ((64 : Int), (1 : Int)), (o.bits, o.lanes)] ⟨⟨(show I64 1 from ⟨by decide, by decide⟩), (show I64 1 from ⟨by decide, by decide⟩)⟩, ⟨(show I64 64 from ⟨by decide, by decide⟩), (show I64 1 from ⟨by decide, by decide⟩)⟩, ⟨k_o_1, k_o_2⟩, trivial⟩) (rfl) (by simp) hH71 fz71
   exact WpG.ret tabOK (L' := []) (.tmp rfl (.tmp rfl .nil)) (.cons _ (.cons _ (.cons _ (.cons _ (.cons _ .slnil))))) (takes_ret (by simp [takesD, *]) (by simp [takesOK, *]) (by first | rfl | simp) rz71)
  refine WpD.g (listed' := lst 16 65535) tabOK [9, 10, 11, 12, 13, 14, 15] (by kernel_rfl) rfl hlr hlr (.cons _ (.cons_cons _ (.cons_cons _ (.cons_cons _ (.cons_cons _ (.cons_cons _ .slnil)))))) ?_
  refine WpD.done (by kernel_rfl) ?_
  refine WpG.ownCap (ci := 0) rfl (fun uz72 => ?_)
  refine WpG.freezeOwn (ci := 0) rfl (fun H72 hH72 fz72 => ?_)
  have rz72 : RdS H72 (some ⟨b68, 0, none⟩) [((1 : Int), (1 : Int)), ((64 : Int), (1 : Int)), (o.bits, o.lanes)] := RdS.of_own (H := H) (show RdL H [.int .i64 1, .int .i64 1, .int .i64 64, .int .i64 1, .int .i64 o.bits, .int .i64 o.lanes] [((1 : Int), (1 : Int)), ((64 : Int), (1 : Int)), (o.bits, o.lanes)] from RdL_pairs [((1 : Int), (1 : Int)), ((64 : Int), (1 : Int)), (o.bits, o.lanes)] ⟨⟨(show I64 1 from ⟨by decide, by decide⟩), (show I64 1 from ⟨by decide, by decide⟩)⟩, ⟨(show I64 64 from ⟨by decide, by decide⟩), (show I64 1 from ⟨by decide, by decide⟩)⟩, ⟨k_o_1, k_o_2⟩, trivial⟩) (rfl) (by simp) hH72 fz72
  exact WpG.ret tabOK (L' := []) (.tmp rfl (.tmp rfl .nil)) (.cons _ (.cons _ (.cons _ (.cons _ (.cons _ .slnil))))) (takes_ret (by simp [takesD, *]) (by simp [takesOK, *]) (by first | rfl | simp) rz72)
 refine WpG.g tabOK 5 rfl ?_
 refine WpG.caseE (t := 155) rfl (fun q155_2 => ?_) (fun q155_2 => ?_)
 ·refine WpG.g tabOK 2 rfl ?_
  refine WpG.draw 16 [Chunk.box b2 [.int .i64 o.bits, .int .i64 o.lanes] 81, Chunk.box b3 [.int .i64 o.bits, .int .i64 1] 81, Chunk.box b4 [.int .i64 1, .int .i64 1] 81, Chunk.box b5 [.int .i64 64, .int .i64 1] 81, Chunk.box b1 [.int .i64 o.kind, .int .i64 o.bits, .int .i64 o.lanes, .int .i64 o.dst, .slice A_o_4 o.args.length c_o_4, .int .u64 o.imm] 53] mixed (by kernel_rfl) ?_
  refine WpD.g (listed' := lst 16 32) tabOK [5] (by kernel_rfl) rfl hlr hlr (.refl _) ?_
  refine WpD.y (i := 0) (fuel := 14) (listed' := lst 16 33) (by kernel_rfl) rfl rfl rfl rfl hlr hlr (.refl _) (RunY.loadBox (ci := 2) tabOK rfl rfl rfl rfl) ?_
  refine WpD.y (i := 1) (fuel := 13) (listed' := lst 16 35) (by kernel_rfl) rfl rfl rfl rfl hlr hlr (.refl _) (RunY.loadBox (ci := 3) tabOK rfl rfl rfl rfl) ?_
  refine WpD.y (i := 2) (fuel := 12) (listed' := lst 16 39) (by kernel_rfl) rfl rfl rfl rfl hlr hlr (.refl _) (RunY.loadBox (ci := 0) tabOK rfl rfl rfl rfl) ?_
  refine WpD.y (i := 6) (fuel := 11) (listed' := lst 16 103) (by kernel_rfl) rfl rfl rfl rfl hlr hlr (.refl _) (RunY.loadBox (ci := 4) tabOK rfl rfl rfl rfl) ?_
  refine WpD.g (listed' := lst 16 231) tabOK [7] (by kernel_rfl) rfl hlr hlr (.refl _) ?_
  refine WpD.f (i := 3) (fuel := 9) (listed' := lst 16 239) (by kernel_rfl) hlr (OpG.buildSlice (xs := [.int .i64 1, .int .i64 1, .int .i64 64, .int .i64 1, .int .i64 o.bits, .int .i64 o.lanes]) tabOK rfl rfl rfl rfl rfl rfl rfl rfl rfl rfl) ?_
  rintro F1 H1 L1 ⟨b73, eF, eH, eL⟩
  subst eF; subst eL; rw [eH]; clear eH H1
  refine ⟨hlr, (.cons _ (.cons_cons _ (.cons_cons _ (.cons_cons _ (.cons_cons _ (.cons_cons _ .slnil)))))), ?_⟩
  change WpD _ _ _ _ _ _ _ _ _ _ _ _ _ _ [Chunk.own 81 2 (some ⟨b73, 0, none⟩) 3 3 [.int .i64 1, .int .i64 1, .int .i64 64, .int .i64 1, .int .i64 o.bits, .int .i64 o.lanes], Chunk.box b2 [.int .i64 o.bits, .int .i64 o.lanes] 81, Chunk.box b3 [.int .i64 o.bits, .int .i64 1] 81, Chunk.box b4 [.int .i64 1, .int .i64 1] 81, Chunk.box b5 [.int .i64 64, .int .i64 1] 81, Chunk.box b1 [.int .i64 o.kind, .int .i64 o.bits, .int .i64 o.lanes, .int .i64 o.dst, .slice A_o_4 o.args.length c_o_4, .int .u64 o.imm] 53]
  refine WpD.callS (i := 4) (fuel := 8) (listed' := lst 16 255) (by kernel_rfl) rfl rfl rfl rfl rfl rfl hlr (row_calls) hlr hlr (.cons _ (.cons_cons _ (.cons_cons _ (.cons_cons _ (.cons_cons _ (.cons_cons _ .slnil)))))) ?_
  refine WpD.g (listed' := lst 16 511) tabOK [8] (by kernel_rfl) rfl hlr hlr (.cons _ (.cons_cons _ (.cons_cons _ (.cons_cons _ (.cons_cons _ (.cons_cons _ .slnil)))))) ?_
  refine WpD.caseE (t := 166) rfl (fun q166 => ?_) (fun q166 => ?_)
  ·refine WpD.g (listed' := lst 16 20479) tabOK [9, 10, 11, 14] (by kernel_rfl) rfl hlr hlr (.cons _ (.cons_cons _ (.cons_cons _ (.cons_cons _ (.cons_cons _ (.cons_cons _ .slnil)))))) ?_
   refine WpD.caseE (t := 169) rfl (fun q169 => ?_) (fun q169 => ?_)
   ·refine WpD.g (listed' := lst 16 65535) tabOK [12, 13, 15] (by kernel_rfl) rfl hlr hlr (.cons _ (.cons_cons _ (.cons_cons _ (.cons_cons _ (.cons_cons _ (.cons_cons _ .slnil)))))) ?_
    refine WpD.done (by kernel_rfl) ?_
    refine WpG.ownCap (ci := 0) rfl (fun uz75 => ?_)
    refine WpG.freezeOwn (ci := 0) rfl (fun H75 hH75 fz75 => ?_)
    have rz75 : RdS H75 (some ⟨b73, 0, none⟩) [((1 : Int), (1 : Int)), ((64 : Int), (1 : Int)), (o.bits, o.lanes)] := RdS.of_own (H := H) (show RdL H [.int .i64 1, .int .i64 1, .int .i64 64, .int .i64 1, .int .i64 o.bits, .int .i64 o.lanes] [((1 : Int), (1 : Int)), ((64 : Int), (1 : Int)), (o.bits, o.lanes)] from RdL_pairs [((1 : Int), (1 : Int)), ((64 : Int), (1 : Int)), (o.bits, o.lanes)] ⟨⟨(show I64 1 from ⟨by decide, by decide⟩), (show I64 1 from ⟨by decide, by decide⟩)⟩, ⟨(show I64 64 from ⟨by decide, by decide⟩), (show I64 1 from ⟨by decide, by decide⟩)⟩, ⟨k_o_1, k_o_2⟩, trivial⟩) (rfl) (by simp) hH75 fz75
    exact WpG.ret tabOK (L' := []) (.tmp rfl (.tmp rfl .nil)) (.cons _ (.cons _ (.cons _ (.cons _ (.cons _ .slnil))))) (takes_ret (by simp [takesD, *]) (by simp [takesOK, *]) (by first | rfl | simp) rz75)
   refine WpD.g (listed' := lst 16 65535) tabOK [12, 13, 15] (by kernel_rfl) rfl hlr hlr (.cons _ (.cons_cons _ (.cons_cons _ (.cons_cons _ (.cons_cons _ (.cons_cons _ .slnil)))))) ?_
   refine WpD.done (by kernel_rfl) ?_
   refine WpG.ownCap (ci := 0) rfl (fun uz76 => ?_)
   refine WpG.freezeOwn (ci := 0) rfl (fun H76 hH76 fz76 => ?_)
   have rz76 : RdS H76 (some ⟨b73, 0, none⟩) [((1 : Int), (1 : Int)), ((64 : Int), (1 : Int)), (o.bits, o.lanes)] := RdS.of_own (H := H) (show RdL H [.int .i64 1, .int .i64 1, .int .i64 64, .int .i64 1, .int .i64 o.bits, .int .i64 o.lanes] [((1 : Int), (1 : Int)), ((64 : Int), (1 : Int)), (o.bits, o.lanes)] from RdL_pairs [((1 : Int), (1 : Int)), ((64 : Int), (1 : Int)), (o.bits, o.lanes)] ⟨⟨(show I64 1 from ⟨by decide, by decide⟩), (show I64 1 from ⟨by decide, by decide⟩)⟩, ⟨(show I64 64 from ⟨by decide, by decide⟩), (show I64 1 from ⟨by decide, by decide⟩)⟩, ⟨k_o_1, k_o_2⟩, trivial⟩) (rfl) (by simp) hH76 fz76
   exact WpG.ret tabOK (L' := []) (.tmp rfl (.tmp rfl .nil)) (.cons _ (.cons _ (.cons _ (.cons _ (.cons _ .slnil))))) (takes_ret (by simp [takesD, *]) (by simp [takesOK, *]) (by first | rfl | simp) rz76)
  refine WpD.g (listed' := lst 16 65535) tabOK [9, 10, 11, 12, 13, 14, 15] (by kernel_rfl) rfl hlr hlr (.cons _ (.cons_cons _ (.cons_cons _ (.cons_cons _ (.cons_cons _ (.cons_cons _ .slnil)))))) ?_
  refine WpD.done (by kernel_rfl) ?_
  refine WpG.ownCap (ci := 0) rfl (fun uz77 => ?_)
  refine WpG.freezeOwn (ci := 0) rfl (fun H77 hH77 fz77 => ?_)
  have rz77 : RdS H77 (some ⟨b73, 0, none⟩) [((1 : Int), (1 : Int)), ((64 : Int), (1 : Int)), (o.bits, o.lanes)] := RdS.of_own (H := H) (show RdL H [.int .i64 1, .int .i64 1, .int .i64 64, .int .i64 1, .int .i64 o.bits, .int .i64 o.lanes] [((1 : Int), (1 : Int)), ((64 : Int), (1 : Int)), (o.bits, o.lanes)] from RdL_pairs [((1 : Int), (1 : Int)), ((64 : Int), (1 : Int)), (o.bits, o.lanes)] ⟨⟨(show I64 1 from ⟨by decide, by decide⟩), (show I64 1 from ⟨by decide, by decide⟩)⟩, ⟨(show I64 64 from ⟨by decide, by decide⟩), (show I64 1 from ⟨by decide, by decide⟩)⟩, ⟨k_o_1, k_o_2⟩, trivial⟩) (rfl) (by simp) hH77 fz77
  exact WpG.ret tabOK (L' := []) (.tmp rfl (.tmp rfl .nil)) (.cons _ (.cons _ (.cons _ (.cons _ (.cons _ .slnil))))) (takes_ret (by simp [takesD, *]) (by simp [takesOK, *]) (by first | rfl | simp) rz77)
 refine WpG.g tabOK 6 rfl ?_
 refine WpG.caseE (t := 172) rfl (fun q172 => ?_) (fun q172 => ?_)
 ·refine WpG.g tabOK 2 rfl ?_
  refine WpG.draw 14 [Chunk.box b2 [.int .i64 o.bits, .int .i64 o.lanes] 81, Chunk.box b3 [.int .i64 o.bits, .int .i64 1] 81, Chunk.box b4 [.int .i64 1, .int .i64 1] 81, Chunk.box b5 [.int .i64 64, .int .i64 1] 81, Chunk.box b1 [.int .i64 o.kind, .int .i64 o.bits, .int .i64 o.lanes, .int .i64 o.dst, .slice A_o_4 o.args.length c_o_4, .int .u64 o.imm] 53] mixed (by kernel_rfl) ?_
  refine WpD.g (listed' := lst 14 64) tabOK [6] (by kernel_rfl) rfl hlr hlr (.refl _) ?_
  refine WpD.y (i := 0) (fuel := 12) (listed' := lst 14 65) (by kernel_rfl) rfl rfl rfl rfl hlr hlr (.refl _) (RunY.loadBox (ci := 2) tabOK rfl rfl rfl rfl) ?_
  refine WpD.y (i := 1) (fuel := 11) (listed' := lst 14 67) (by kernel_rfl) rfl rfl rfl rfl hlr hlr (.refl _) (RunY.loadBox (ci := 0) tabOK rfl rfl rfl rfl) ?_
  refine WpD.y (i := 2) (fuel := 10) (listed' := lst 14 71) (by kernel_rfl) rfl rfl rfl rfl hlr hlr (.refl _) (RunY.loadBox (ci := 0) tabOK rfl rfl rfl rfl) ?_
  refine WpD.y (i := 3) (fuel := 9) (listed' := lst 14 79) (by kernel_rfl) rfl rfl rfl rfl hlr hlr (.refl _) (RunY.loadBox (ci := 0) tabOK rfl rfl rfl rfl) ?_
  refine WpD.y (i := 7) (fuel := 8) (listed' := lst 14 207) (by kernel_rfl) rfl rfl rfl rfl hlr hlr (.refl _) (RunY.loadBox (ci := 4) tabOK rfl rfl rfl rfl) ?_
  refine WpD.g (listed' := lst 14 463) tabOK [8] (by kernel_rfl) rfl hlr hlr (.refl _) ?_
  refine WpD.f (i := 4) (fuel := 6) (listed' := lst 14 479) (by kernel_rfl) hlr (OpG.buildSlice (xs := [.int .i64 1, .int .i64 1, .int .i64 o.bits, .int .i64 o.lanes, .int .i64 o.bits, .int .i64 o.lanes, .int .i64 o.bits, .int .i64 o.lanes]) tabOK rfl rfl rfl rfl rfl rfl rfl rfl rfl rfl) ?_
  rintro F1 H1 L1 ⟨b78, eF, eH, eL⟩
  subst eF; subst eL; rw [eH]; clear eH H1
  refine ⟨hlr, (.cons _ (.cons_cons _ (.cons_cons _ (.cons_cons _ (.cons_cons _ (.cons_cons _ .slnil)))))), ?_⟩
  change WpD _ _ _ _ _ _ _ _ _ _ _ _ _ _ [Chunk.own 81 2 (some ⟨b78, 0, none⟩) 4 4 [.int .i64 1, .int .i64 1, .int .i64 o.bits, .int .i64 o.lanes, .int .i64 o.bits, .int .i64 o.lanes, .int .i64 o.bits, .int .i64 o.lanes], Chunk.box b2 [.int .i64 o.bits, .int .i64 o.lanes] 81, Chunk.box b3 [.int .i64 o.bits, .int .i64 1] 81, Chunk.box b4 [.int .i64 1, .int .i64 1] 81, Chunk.box b5 [.int .i64 64, .int .i64 1] 81, Chunk.box b1 [.int .i64 o.kind, .int .i64 o.bits, .int .i64 o.lanes, .int .i64 o.dst, .slice A_o_4 o.args.length c_o_4, .int .u64 o.imm] 53]
  refine WpD.callS (i := 5) (fuel := 5) (listed' := lst 14 511) (by kernel_rfl) rfl rfl rfl rfl rfl rfl hlr (row_calls) hlr hlr (.cons _ (.cons_cons _ (.cons_cons _ (.cons_cons _ (.cons_cons _ (.cons_cons _ .slnil)))))) ?_
  refine WpD.g (listed' := lst 14 5119) tabOK [9, 12] (by kernel_rfl) rfl hlr hlr (.cons _ (.cons_cons _ (.cons_cons _ (.cons_cons _ (.cons_cons _ (.cons_cons _ .slnil)))))) ?_
  refine WpD.caseE (t := 183) rfl (fun q183 => ?_) (fun q183 => ?_)
  ·refine WpD.g (listed' := lst 14 16383) tabOK [10, 11, 13] (by kernel_rfl) rfl hlr hlr (.cons _ (.cons_cons _ (.cons_cons _ (.cons_cons _ (.cons_cons _ (.cons_cons _ .slnil)))))) ?_
   refine WpD.done (by kernel_rfl) ?_
   refine WpG.ownCap (ci := 0) rfl (fun uz80 => ?_)
   refine WpG.freezeOwn (ci := 0) rfl (fun H80 hH80 fz80 => ?_)
   have rz80 : RdS H80 (some ⟨b78, 0, none⟩) [((1 : Int), (1 : Int)), (o.bits, o.lanes), (o.bits, o.lanes), (o.bits, o.lanes)] := RdS.of_own (H := H) (show RdL H [.int .i64 1, .int .i64 1, .int .i64 o.bits, .int .i64 o.lanes, .int .i64 o.bits, .int .i64 o.lanes, .int .i64 o.bits, .int .i64 o.lanes] [((1 : Int), (1 : Int)), (o.bits, o.lanes), (o.bits, o.lanes), (o.bits, o.lanes)] from RdL_pairs [((1 : Int), (1 : Int)), (o.bits, o.lanes), (o.bits, o.lanes), (o.bits, o.lanes)] ⟨⟨(show I64 1 from ⟨by decide, by decide⟩), (show I64 1 from ⟨by decide, by decide⟩)⟩, ⟨k_o_1, k_o_2⟩, ⟨k_o_1, k_o_2⟩, ⟨k_o_1, k_o_2⟩, trivial⟩) (rfl) (by simp) hH80 fz80
   exact WpG.ret tabOK (L' := []) (.tmp rfl (.tmp rfl .nil)) (.cons _ (.cons _ (.cons _ (.cons _ (.cons _ .slnil))))) (takes_ret (by simp [takesD, *]) (by simp [takesOK, *]) (by first | rfl | simp) rz80)
  refine WpD.g (listed' := lst 14 16383) tabOK [10, 11, 13] (by kernel_rfl) rfl hlr hlr (.cons _ (.cons_cons _ (.cons_cons _ (.cons_cons _ (.cons_cons _ (.cons_cons _ .slnil)))))) ?_
  refine WpD.done (by kernel_rfl) ?_
  refine WpG.ownCap (ci := 0) rfl (fun uz81 => ?_)
  refine WpG.freezeOwn (ci := 0) rfl (fun H81 hH81 fz81 => ?_)
  have rz81 : RdS H81 (some ⟨b78, 0, none⟩) [((1 : Int), (1 : Int)), (o.bits, o.lanes), (o.bits, o.lanes), (o.bits, o.lanes)] := RdS.of_own (H := H) (show RdL H [.int .i64 1, .int .i64 1, .int .i64 o.bits, .int .i64 o.lanes, .int .i64 o.bits, .int .i64 o.lanes, .int .i64 o.bits, .int .i64 o.lanes] [((1 : Int), (1 : Int)), (o.bits, o.lanes), (o.bits, o.lanes), (o.bits, o.lanes)] from RdL_pairs [((1 : Int), (1 : Int)), (o.bits, o.lanes), (o.bits, o.lanes), (o.bits, o.lanes)] ⟨⟨(show I64 1 from ⟨by decide, by decide⟩), (show I64 1 from ⟨by decide, by decide⟩)⟩, ⟨k_o_1, k_o_2⟩, ⟨k_o_1, k_o_2⟩, ⟨k_o_1, k_o_2⟩, trivial⟩) (rfl) (by simp) hH81 fz81
  exact WpG.ret tabOK (L' := []) (.tmp rfl (.tmp rfl .nil)) (.cons _ (.cons _ (.cons _ (.cons _ (.cons _ .slnil))))) (takes_ret (by simp [takesD, *]) (by simp [takesOK, *]) (by first | rfl | simp) rz81)
 refine WpG.g tabOK 6 rfl ?_
 refine WpG.caseE (t := 186) rfl (fun q186 => ?_) (fun q186 => ?_)
 ·refine WpG.g tabOK 2 rfl ?_
  refine WpG.draw 15 [Chunk.box b2 [.int .i64 o.bits, .int .i64 o.lanes] 81, Chunk.box b3 [.int .i64 o.bits, .int .i64 1] 81, Chunk.box b4 [.int .i64 1, .int .i64 1] 81, Chunk.box b5 [.int .i64 64, .int .i64 1] 81, Chunk.box b1 [.int .i64 o.kind, .int .i64 o.bits, .int .i64 o.lanes, .int .i64 o.dst, .slice A_o_4 o.args.length c_o_4, .int .u64 o.imm] 53] mixed (by kernel_rfl) ?_
  refine WpD.g (listed' := lst 15 72) tabOK [3, 6] (by kernel_rfl) rfl hlr hlr (.refl _) ?_
  refine WpD.y (i := 0) (fuel := 12) (listed' := lst 15 73) (by kernel_rfl) rfl rfl rfl rfl hlr hlr (.refl _) (RunY.loadBox (ci := 1) tabOK rfl rfl rfl rfl) ?_
  refine WpD.y (i := 4) (fuel := 11) (listed' := lst 15 89) (by kernel_rfl) rfl rfl rfl rfl hlr hlr (.refl _) (RunY.loadBox (ci := 4) tabOK rfl rfl rfl rfl) ?_
  refine WpD.y (i := 7) (fuel := 10) (listed' := lst 15 217) (by kernel_rfl) rfl rfl rfl rfl hlr hlr (.refl _) (RunY.loadBox (ci := 4) tabOK rfl rfl rfl rfl) ?_
  refine WpD.g (listed' := lst 15 473) tabOK [8] (by kernel_rfl) rfl hlr hlr (.refl _) ?_
  refine WpD.f (i := 1) (fuel := 8) (listed' := lst 15 475) (by kernel_rfl) hlr (OpG.buildSlice (xs := [.int .i64 o.bits, .int .i64 1]) tabOK rfl rfl rfl rfl rfl rfl rfl rfl rfl rfl) ?_
  rintro F1 H1 L1 ⟨b82, eF, eH, eL⟩
  subst eF; subst eL; rw [eH]; clear eH H1
  refine ⟨hlr, (.cons _ (.cons_cons _ (.cons_cons _ (.cons_cons _ (.cons_cons _ (.cons_cons _ .slnil)))))), ?_⟩
  change WpD _ _ _ _ _ _ _ _ _ _ _ _ _ _ [Chunk.own 81 2 (some ⟨b82, 0, none⟩) 1 1 [.int .i64 o.bits, .int .i64 1], Chunk.box b2 [.int .i64 o.bits, .int .i64 o.lanes] 81, Chunk.box b3 [.int .i64 o.bits, .int .i64 1] 81, Chunk.box b4 [.int .i64 1, .int .i64 1] 81, Chunk.box b5 [.int .i64 64, .int .i64 1] 81, Chunk.box b1 [.int .i64 o.kind, .int .i64 o.bits, .int .i64 o.lanes, .int .i64 o.dst, .slice A_o_4 o.args.length c_o_4, .int .u64 o.imm] 53]
  refine WpD.callS (i := 2) (fuel := 7) (listed' := lst 15 479) (by kernel_rfl) rfl rfl rfl rfl rfl rfl hlr (row_calls) hlr hlr (.cons _ (.cons_cons _ (.cons_cons _ (.cons_cons _ (.cons_cons _ (.cons_cons _ .slnil)))))) ?_
  refine WpD.ownCap (ci := 0) rfl (fun uz84 => ?_)
  refine WpD.freezeOwn (ci := 0) rfl (fun H84 hH84 fz84 => ?_)
  have rz84 : RdS H84 (some ⟨b82, 0, none⟩) [(o.bits, (1 : Int))] := RdS.of_own (H := H) (show RdL H [.int .i64 o.bits, .int .i64 1] [(o.bits, (1 : Int))] from RdL_pairs [(o.bits, (1 : Int))] ⟨⟨k_o_1, (show I64 1 from ⟨by decide, by decide⟩)⟩, trivial⟩) (rfl) (by simp) hH84 fz84
  refine WpD.f (i := 5) (fuel := 6) (listed' := lst 15 511) (by kernel_rfl) hlr (OpG.call (Lc := []) rfl rfl rfl rfl rfl rfl (.refl _) (Repeat_pair_of rz84 _ (by omega) (by omega))) ?_
  rintro F1 H1 L1 ⟨_, _, eF, -, ⟨eH, b85, rfl, rfl⟩, eL⟩
  subst eF; subst eL; rw [eH]; clear eH H1
  refine ⟨hH84, (.cons _ (.cons_cons _ (.cons_cons _ (.cons_cons _ (.cons_cons _ (.cons_cons _ .slnil)))))), ?_⟩
  change WpD _ _ _ _ _ _ _ _ _ _ _ _ _ _ [Chunk.own 81 2 (some ⟨b85, 0, none⟩) o.lanes.toNat o.lanes.toNat (flatP (List.replicate o.lanes.toNat (o.bits, (1 : Int)))), Chunk.box b2 [.int .i64 o.bits, .int .i64 o.lanes] 81, Chunk.box b3 [.int .i64 o.bits, .int .i64 1] 81, Chunk.box b4 [.int .i64 1, .int .i64 1] 81, Chunk.box b5 [.int .i64 64, .int .i64 1] 81, Chunk.box b1 [.int .i64 o.kind, .int .i64 o.bits, .int .i64 o.lanes, .int .i64 o.dst, .slice A_o_4 o.args.length c_o_4, .int .u64 o.imm] 53]
  refine WpD.g (listed' := lst 15 9215) tabOK [9, 13] (by kernel_rfl) rfl hlr hH84 (.cons _ (.cons_cons _ (.cons_cons _ (.cons_cons _ (.cons_cons _ (.cons_cons _ .slnil)))))) ?_
  refine WpD.caseE (t := 197) rfl (fun q197 => ?_) (fun q197 => ?_)
  ·refine WpD.g (listed' := lst 15 32767) tabOK [10, 11, 12, 14] (by kernel_rfl) rfl hlr hH84 (.cons _ (.cons_cons _ (.cons_cons _ (.cons_cons _ (.cons_cons _ (.cons_cons _ .slnil)))))) ?_
   refine WpD.done (by kernel_rfl) ?_
   refine WpG.ownCap (ci := 0) rfl (fun uz87 => ?_)
   refine WpG.freezeOwn (ci := 0) rfl (fun H87 hH87 fz87 => ?_)
   have rz87 : RdS H87 (some ⟨b85, 0, none⟩) (List.replicate o.lanes.toNat (o.bits, (1 : Int))) := RdS.of_own (H := H84) (show RdL H84 (flatP (List.replicate o.lanes.toNat (o.bits, (1 : Int)))) (List.replicate o.lanes.toNat (o.bits, (1 : Int))) from RdL_pairs _ (AllP_replicate ⟨k_o_1, show I64 1 from ⟨by decide, by decide⟩⟩ _)) ((by simp)) (by simp; omega) hH87 fz87
   exact WpG.ret tabOK (L' := []) (.tmp rfl (.tmp rfl .nil)) (.cons _ (.cons _ (.cons _ (.cons _ (.cons _ .slnil))))) (takes_ret (by simp [takesD, *]) (by simp [takesOK, *]) (by first | rfl | simp) rz87)
  refine WpD.g (listed' := lst 15 32767) tabOK [10, 11, 12, 14] (by kernel_rfl) rfl hlr hH84 (.cons _ (.cons_cons _ (.cons_cons _ (.cons_cons _ (.cons_cons _ (.cons_cons _ .slnil)))))) ?_
  refine WpD.done (by kernel_rfl) ?_
  refine WpG.ownCap (ci := 0) rfl (fun uz88 => ?_)
  refine WpG.freezeOwn (ci := 0) rfl (fun H88 hH88 fz88 => ?_)
  have rz88 : RdS H88 (some ⟨b85, 0, none⟩) (List.replicate o.lanes.toNat (o.bits, (1 : Int))) := RdS.of_own (H := H84) (show RdL H84 (flatP (List.replicate o.lanes.toNat (o.bits, (1 : Int)))) (List.replicate o.lanes.toNat (o.bits, (1 : Int))) from RdL_pairs _ (AllP_replicate ⟨k_o_1, show I64 1 from ⟨by decide, by decide⟩⟩ _)) ((by simp)) (by simp; omega) hH88 fz88
  exact WpG.ret tabOK (L' := []) (.tmp rfl (.tmp rfl .nil)) (.cons _ (.cons _ (.cons _ (.cons _ (.cons _ .slnil))))) (takes_ret (by simp [takesD, *]) (by simp [takesOK, *]) (by first | rfl | simp) rz88)
 refine WpG.g tabOK 6 rfl ?_
 refine WpG.caseE (t := 201) rfl (fun q201 => ?_) (fun q201 => ?_)
 ·refine WpG.g tabOK 2 rfl ?_
  refine WpG.draw 15 [Chunk.box b2 [.int .i64 o.bits, .int .i64 o.lanes] 81, Chunk.box b3 [.int .i64 o.bits, .int .i64 1] 81, Chunk.box b4 [.int .i64 1, .int .i64 1] 81, Chunk.box b5 [.int .i64 64, .int .i64 1] 81, Chunk.box b1 [.int .i64 o.kind, .int .i64 o.bits, .int .i64 o.lanes, .int .i64 o.dst, .slice A_o_4 o.args.length c_o_4, .int .u64 o.imm] 53] mixed (by kernel_rfl) ?_
  refine WpD.g (listed' := lst 15 24) tabOK [3, 4] (by kernel_rfl) rfl hlr hlr (.refl _) ?_
  refine WpD.y (i := 0) (fuel := 12) (listed' := lst 15 25) (by kernel_rfl) rfl rfl rfl rfl hlr hlr (.refl _) (RunY.loadBox (ci := 0) tabOK rfl rfl rfl rfl) ?_
  refine WpD.f (i := 1) (fuel := 11) (listed' := lst 15 27) (by kernel_rfl) hlr (OpG.buildSlice (xs := [.int .i64 o.bits, .int .i64 o.lanes]) tabOK rfl rfl rfl rfl rfl rfl rfl rfl rfl rfl) ?_
  rintro F1 H1 L1 ⟨b89, eF, eH, eL⟩
  subst eF; subst eL; rw [eH]; clear eH H1
  refine ⟨hlr, (.cons _ (.cons_cons _ (.cons_cons _ (.cons_cons _ (.cons_cons _ (.cons_cons _ .slnil)))))), ?_⟩
  change WpD _ _ _ _ _ _ _ _ _ _ _ _ _ _ [Chunk.own 81 2 (some ⟨b89, 0, none⟩) 1 1 [.int .i64 o.bits, .int .i64 o.lanes], Chunk.box b2 [.int .i64 o.bits, .int .i64 o.lanes] 81, Chunk.box b3 [.int .i64 o.bits, .int .i64 1] 81, Chunk.box b4 [.int .i64 1, .int .i64 1] 81, Chunk.box b5 [.int .i64 64, .int .i64 1] 81, Chunk.box b1 [.int .i64 o.kind, .int .i64 o.bits, .int .i64 o.lanes, .int .i64 o.dst, .slice A_o_4 o.args.length c_o_4, .int .u64 o.imm] 53]
  refine WpD.callS (i := 2) (fuel := 10) (listed' := lst 15 31) (by kernel_rfl) rfl rfl rfl rfl rfl rfl hlr (row_calls) hlr hlr (.cons _ (.cons_cons _ (.cons_cons _ (.cons_cons _ (.cons_cons _ (.cons_cons _ .slnil)))))) ?_
  refine WpD.g (listed' := lst 15 8255) tabOK [5, 13] (by kernel_rfl) rfl hlr hlr (.cons _ (.cons_cons _ (.cons_cons _ (.cons_cons _ (.cons_cons _ (.cons_cons _ .slnil)))))) ?_
  refine WpD.caseBn (t := 208) rfl (fun q208 => ?_) (fun q208 => ?_)
  ·refine WpD.g (listed' := lst 15 8575) tabOK [6, 8] (by kernel_rfl) rfl hlr hlr (.cons _ (.cons_cons _ (.cons_cons _ (.cons_cons _ (.cons_cons _ (.cons_cons _ .slnil)))))) ?_
   refine WpD.y (i := 7) (fuel := 5) (listed' := lst 15 8703) (by kernel_rfl) rfl rfl rfl rfl hlr hlr (.cons _ (.cons_cons _ (.cons_cons _ (.cons_cons _ (.cons_cons _ (.cons_cons _ .slnil)))))) (RunY.loadBox (ci := 4) tabOK rfl rfl rfl rfl) ?_
   refine WpD.y (i := 9) (fuel := 4) (listed' := lst 15 9215) (by kernel_rfl) rfl rfl rfl rfl hlr hlr (.cons _ (.cons_cons _ (.cons_cons _ (.cons_cons _ (.cons_cons _ (.cons_cons _ .slnil)))))) (RunY.loadBox (ci := 4) tabOK rfl rfl rfl rfl) ?_
   refine WpD.gw (listed' := lst 15 10239) tabOK [10] 213 (by kernel_rfl) rfl (wrku (x := o.lanes) (by omega) (by omega)) hlr hlr (.cons _ (.cons_cons _ (.cons_cons _ (.cons_cons _ (.cons_cons _ (.cons_cons _ .slnil)))))) ?_
   refine WpD.g (listed' := lst 15 32767) tabOK [11, 12, 14] (by kernel_rfl) rfl hlr hlr (.cons _ (.cons_cons _ (.cons_cons _ (.cons_cons _ (.cons_cons _ (.cons_cons _ .slnil)))))) ?_
   refine WpD.done (by kernel_rfl) ?_
   refine WpG.ownCap (ci := 0) rfl (fun uz91 => ?_)
   refine WpG.freezeOwn (ci := 0) rfl (fun H91 hH91 fz91 => ?_)
   have rz91 : RdS H91 (some ⟨b89, 0, none⟩) [(o.bits, o.lanes)] := RdS.of_own (H := H) (show RdL H [.int .i64 o.bits, .int .i64 o.lanes] [(o.bits, o.lanes)] from RdL_pairs [(o.bits, o.lanes)] ⟨⟨k_o_1, k_o_2⟩, trivial⟩) (rfl) (by simp) hH91 fz91
   exact WpG.ret tabOK (L' := []) (.tmp rfl (.tmp rfl .nil)) (.cons _ (.cons _ (.cons _ (.cons _ (.cons _ .slnil))))) (takes_ret (by simp [takesD, *]) (by simp [takesOK, *]) (by first | rfl | simp) rz91)
  refine WpD.g (listed' := lst 15 32767) tabOK [6, 7, 8, 9, 10, 11, 12, 14] (by kernel_rfl) rfl hlr hlr (.cons _ (.cons_cons _ (.cons_cons _ (.cons_cons _ (.cons_cons _ (.cons_cons _ .slnil)))))) ?_
  refine WpD.done (by kernel_rfl) ?_
  refine WpG.ownCap (ci := 0) rfl (fun uz92 => ?_)
  refine WpG.freezeOwn (ci := 0) rfl (fun H92 hH92 fz92 => ?_)
  have rz92 : RdS H92 (some ⟨b89, 0, none⟩) [(o.bits, o.lanes)] := RdS.of_own (H := H) (show RdL H [.int .i64 o.bits, .int .i64 o.lanes] [(o.bits, o.lanes)] from RdL_pairs [(o.bits, o.lanes)] ⟨⟨k_o_1, k_o_2⟩, trivial⟩) (rfl) (by simp) hH92 fz92
  exact WpG.ret tabOK (L' := []) (.tmp rfl (.tmp rfl .nil)) (.cons _ (.cons _ (.cons _ (.cons _ (.cons _ .slnil))))) (takes_ret (by simp [takesD, *]) (by simp [takesOK, *]) (by first | rfl | simp) rz92)
 refine WpG.g tabOK 8 rfl ?_
 exact WpG.ret tabOK (L' := []) (.tmp rfl (.tmp rfl .nil)) (.cons _ (.cons _ (.cons _ (.cons _ (.cons _ .slnil))))) (takes_ret (by simp [takesD, *]) (by simp [takesOK, *]) (by first | rfl | simp) (RdS.nil _ _))
end Go.Proofs.YtakameggkkjcpaaGreat
set_option maxRecDepth 4000
namespace Go.Proofs.YtakameggkkjcpaaGreat
open Go Go.RowKit
theorem kMay1_calls {H : Hp} (x : Int) : CallG Tryz.prog 165 [.int .i64 x] H [] (fun v _ L' => v = .bool (!valueOK x) ∧ L' = []) := by
 refine CallG.of Tryz.func165 rfl rfl rfl fun w0 => ?_
 refine WpG.g tabOK 7 rfl ?_
 refine WpG.callS rfl rfl rfl rfl rfl rfl hlr (value_calls x) ?_
 refine WpG.g tabOK 3 rfl ?_
 exact WpG.ret tabOK (L' := []) (.tmp rfl .nil) .slnil ⟨congrArg Value.bool (by rfl), rfl⟩
theorem kMay_calls {H : Hp} {o : OpD} {cs_o : List Value} (rd_o : Rdc.rd H cs_o o) : CallG Tryz.prog 158 [.agg cs_o.toArray] H [] (fun v _ L' => v = .bool (mayO o) ∧ L' = []) := by
 have rd_o' := rd_o; obtain ⟨A_o_4, c_o_4, rfl, u_o_4, r_o_4, k_o_0, k_o_1, k_o_2, k_o_3, k_o_4⟩ := rd_o
 refine CallG.of Tryz.func158 rfl rfl rfl fun w0 => ?_
 refine WpG.g tabOK 2 rfl ?_
 refine WpG.box rfl rfl rfl rfl rfl (fun b1 => ?_)
 refine WpG.g tabOK 6 rfl ?_
 refine WpG.y rfl rfl rfl rfl (RunY.loadBox (ci := 0) tabOK rfl rfl rfl rfl) ?_
 refine WpG.g tabOK 1 rfl ?_
 refine WpG.y rfl rfl rfl rfl (RunY.loadBox (ci := 0) tabOK rfl rfl rfl rfl) ?_
 refine WpG.callS rfl rfl rfl rfl rfl rfl hlr (Shape_calls o.bits o.lanes k_o_1) ?_
 refine WpG.g tabOK 2 rfl ?_
 refine WpG.caseBn (t := 11) rfl (fun q11 => ?_) (fun q11 => ?_)
 ·refine WpG.g tabOK 5 rfl ?_
  exact WpG.ret tabOK (L' := []) (.tmp rfl .nil) (.cons _ .slnil) ⟨congrArg Value.bool (by simp [mayO, any_neg, *]), rfl⟩
 refine WpG.g tabOK 4 rfl ?_
 refine WpG.y rfl rfl rfl rfl (RunY.loadBox (ci := 0) tabOK rfl rfl rfl rfl) ?_
 refine WpG.call0 rfl rfl rfl rfl rfl rfl (takes_calls rd_o' (by simpa using q11)) ?_
 rintro _ H2 _ hH2 ⟨A2, c2, rfl, r2, rfl⟩
 refine WpG.g tabOK 9 rfl ?_
 refine WpG.y rfl rfl rfl rfl (RunY.loadBox (ci := 0) tabOK rfl rfl rfl rfl) ?_
 refine WpG.callS rfl rfl rfl rfl rfl rfl hlr (value_calls o.dst) ?_
 refine WpG.g tabOK 6 rfl ?_
 refine WpG.y rfl rfl rfl rfl (RunY.loadBox (ci := 0) tabOK rfl rfl rfl rfl) ?_
 refine WpG.callS rfl rfl rfl rfl rfl rfl hlr (stores_calls o.kind) ?_
 refine WpG.g tabOK 1 rfl ?_
 refine WpG.caseB (t := 22) rfl (fun q22 => ?_) (fun q22 => ?_)
 ·refine WpG.g tabOK 3 rfl ?_
  refine WpG.y rfl rfl rfl rfl (RunY.loadBox (ci := 0) tabOK rfl rfl rfl rfl) ?_
  refine WpG.g tabOK 7 rfl ?_
  refine WpG.caseB (t := 27) rfl (fun q27 => ?_) (fun q27 => ?_)
  ·refine WpG.g tabOK 3 rfl ?_
   refine WpG.caseE (t := 30) rfl (fun q30 => ?_) (fun q30 => ?_)
   ·refine WpG.g tabOK 3 rfl ?_
    refine WpG.y rfl rfl rfl rfl (RunY.loadBox (ci := 0) tabOK rfl rfl rfl rfl) ?_
    refine WpG.g tabOK 4 rfl ?_
    refine WpG.caseE (t := 38) rfl (fun q38 => ?_) (fun q38 => ?_)
    ·refine WpG.g tabOK 1 rfl ?_
     refine WpG.y rfl rfl rfl rfl (RunY.loadBox (ci := 0) tabOK rfl rfl rfl rfl) ?_
     refine WpG.callS rfl rfl rfl rfl rfl rfl hlr (ContainsFunc_int (r_o_4.mono hH2) (p := fun n => !valueOK n) (fun x _ => kMay1_calls x)) ?_
     refine WpG.g tabOK 4 rfl ?_
     exact WpG.ret tabOK (L' := []) (.tmp rfl .nil) (.cons _ .slnil) ⟨congrArg Value.bool (by simp [mayO, any_neg, *]), rfl⟩
    refine WpG.g tabOK 7 rfl ?_
    exact WpG.ret tabOK (L' := []) (.tmp rfl .nil) (.cons _ .slnil) ⟨congrArg Value.bool (by simp [mayO, any_neg, *]), rfl⟩
   refine WpG.g tabOK 15 rfl ?_
   exact WpG.ret tabOK (L' := []) (.tmp rfl .nil) (.cons _ .slnil) ⟨congrArg Value.bool (by simp [mayO, any_neg, *]), rfl⟩
  refine WpG.g tabOK 18 rfl ?_
  exact WpG.ret tabOK (L' := []) (.tmp rfl .nil) (.cons _ .slnil) ⟨congrArg Value.bool (by simp [mayO, any_neg, *]), rfl⟩
 refine WpG.g tabOK 6 rfl ?_
 refine WpG.caseB (t := 27) rfl (fun q27 => ?_) (fun q27 => ?_)
 ·refine WpG.g tabOK 3 rfl ?_
  refine WpG.caseB (t := 30) rfl (fun q30 => ?_) (fun q30 => ?_)
  ·refine WpG.g tabOK 3 rfl ?_
   refine WpG.y rfl rfl rfl rfl (RunY.loadBox (ci := 0) tabOK rfl rfl rfl rfl) ?_
   refine WpG.g tabOK 4 rfl ?_
   refine WpG.caseE (t := 38) rfl (fun q38 => ?_) (fun q38 => ?_)
   ·refine WpG.g tabOK 1 rfl ?_
    refine WpG.y rfl rfl rfl rfl (RunY.loadBox (ci := 0) tabOK rfl rfl rfl rfl) ?_
    refine WpG.callS rfl rfl rfl rfl rfl rfl hlr (ContainsFunc_int (r_o_4.mono hH2) (p := fun n => !valueOK n) (fun x _ => kMay1_calls x)) ?_
    refine WpG.g tabOK 4 rfl ?_
    exact WpG.ret tabOK (L' := []) (.tmp rfl .nil) (.cons _ .slnil) ⟨congrArg Value.bool (by simp [mayO, any_neg, *]), rfl⟩
   refine WpG.g tabOK 7 rfl ?_
   exact WpG.ret tabOK (L' := []) (.tmp rfl .nil) (.cons _ .slnil) ⟨congrArg Value.bool (by simp [mayO, any_neg, *]), rfl⟩
  refine WpG.g tabOK 15 rfl ?_
  exact WpG.ret tabOK (L' := []) (.tmp rfl .nil) (.cons _ .slnil) ⟨congrArg Value.bool (by simp [mayO, any_neg, *]), rfl⟩
 refine WpG.g tabOK 18 rfl ?_
 exact WpG.ret tabOK (L' := []) (.tmp rfl .nil) (.cons _ .slnil) ⟨congrArg Value.bool (by simp [mayO, any_neg, *]), rfl⟩
theorem kTakes_calls {H : Hp} {o : OpD} {cs_o : List Value} (rd_o : Rdc.rd H cs_o o) : CallG Tryz.prog 160 [.agg cs_o.toArray] H [] (fun v H' L' => ∃ A c, v = .slice A (takesF o).length c ∧ RdS H' A (takesF o) ∧ L' = []) := by
 have rd_o' := rd_o; obtain ⟨A_o_4, c_o_4, rfl, u_o_4, r_o_4, k_o_0, k_o_1, k_o_2, k_o_3, k_o_4⟩ := rd_o
 refine CallG.of Tryz.func160 rfl rfl rfl fun w0 => ?_
 refine WpG.g tabOK 2 rfl ?_
 refine WpG.box rfl rfl rfl rfl rfl (fun b1 => ?_)
 refine WpG.g tabOK 5 rfl ?_
 refine WpG.y rfl rfl rfl rfl (RunY.loadBox (ci := 0) tabOK rfl rfl rfl rfl) ?_
 refine WpG.callS rfl rfl rfl rfl rfl rfl hlr (kMay_calls rd_o') ?_
 refine WpG.g tabOK 2 rfl ?_
 refine WpG.caseBn (t := 7) rfl (fun q7 => ?_) (fun q7 => ?_)
 ·refine WpG.g tabOK 5 rfl ?_
  exact WpG.ret tabOK (L' := []) (.tmp rfl .nil) (.cons _ .slnil) (Takes_ret (by simp [takesF, *]) rfl (RdS.nil _ _))
 refine WpG.g tabOK 4 rfl ?_
 refine WpG.y rfl rfl rfl rfl (RunY.loadBox (ci := 0) tabOK rfl rfl rfl rfl) ?_
 refine WpG.call0 rfl rfl rfl rfl rfl rfl (takes_calls rd_o' (may_shape (by simpa using q7))) ?_
 rintro _ H2 _ hH2 ⟨A2, c2, rfl, r2, rfl⟩
 refine WpG.g tabOK 11 rfl ?_
 exact WpG.ret tabOK (L' := []) (.tmp rfl .nil) (.cons _ .slnil) (Takes_ret (by simp [takesF, *]) rfl r2)
theorem kGives_calls {H : Hp} {o : OpD} {cs_o : List Value} (rd_o : Rdc.rd H cs_o o) : CallG Tryz.prog 143 [.agg cs_o.toArray] H [] (fun v _ L' => v = .tuple #[.int .i64 (givesF o).1, .int .i64 (givesF o).2] ∧ L' = []) := by
 have rd_o' := rd_o; obtain ⟨A_o_4, c_o_4, rfl, u_o_4, r_o_4, k_o_0, k_o_1, k_o_2, k_o_3, k_o_4⟩ := rd_o
 refine CallG.of Tryz.func143 rfl rfl rfl fun w0 => ?_
 refine WpG.g tabOK 2 rfl ?_
 refine WpG.box rfl rfl rfl rfl rfl (fun b1 => ?_)
 refine WpG.g tabOK 7 rfl ?_
 refine WpG.y rfl rfl rfl rfl (RunY.loadBox (ci := 0) tabOK rfl rfl rfl rfl) ?_
 refine WpG.callS rfl rfl rfl rfl rfl rfl hlr (kMay_calls rd_o') ?_
 refine WpG.g tabOK 2 rfl ?_
 refine WpG.caseBn (t := 8) rfl (fun q8 => ?_) (fun q8 => ?_)
 ·refine WpG.g tabOK 12 rfl ?_
  exact WpG.ret tabOK (L' := []) (.tmp rfl (.tmp rfl .nil)) (.cons _ .slnil) (Gives_ret (by first | (simp [givesF, *]; done) | (simp [givesF, *]; decide)) rfl)
 refine WpG.g tabOK 1 rfl ?_
 refine WpG.y rfl rfl rfl rfl (RunY.loadBox (ci := 0) tabOK rfl rfl rfl rfl) ?_
 refine WpG.callS rfl rfl rfl rfl rfl rfl hlr (stores_calls o.kind) ?_
 refine WpG.g tabOK 3 rfl ?_
 refine WpG.caseB (t := 4) rfl (fun q4 => ?_) (fun q4 => ?_)
 ·refine WpG.g tabOK 6 rfl ?_
  exact WpG.ret tabOK (L' := []) (.tmp rfl (.tmp rfl .nil)) (.cons _ .slnil) (Gives_ret (by first | (simp [givesF, *]; done) | (simp [givesF, *]; decide)) rfl)
 refine WpG.g tabOK 4 rfl ?_
 refine WpG.y rfl rfl rfl rfl (RunY.loadBox (ci := 0) tabOK rfl rfl rfl rfl) ?_
 refine WpG.g tabOK 2 rfl ?_
 refine WpG.caseD (t := 17) rfl (fun q17 => ?_) (fun q17 => ?_)
 ·refine WpG.g tabOK 1 rfl ?_
  refine WpG.y rfl rfl rfl rfl (RunY.loadBox (ci := 0) tabOK rfl rfl rfl rfl) ?_
  refine WpG.g tabOK 4 rfl ?_
  refine WpG.caseD (t := 13) rfl (fun q13 => ?_) (fun q13 => ?_)
  ·refine WpG.g tabOK 6 rfl ?_
   exact WpG.ret tabOK (L' := []) (.tmp rfl (.tmp rfl .nil)) (.cons _ .slnil) (Gives_ret (by first | (simp [givesF, *]; done) | (simp [givesF, *]; decide)) rfl)
  refine WpG.g tabOK 4 rfl ?_
  refine WpG.y rfl rfl rfl rfl (RunY.loadBox (ci := 0) tabOK rfl rfl rfl rfl) ?_
  refine WpG.g tabOK 3 rfl ?_
  refine WpG.caseE (t := 22) rfl (fun q22 => ?_) (fun q22 => ?_)
  ·refine WpG.g tabOK 4 rfl ?_
   refine WpG.y rfl rfl rfl rfl (RunY.loadBox (ci := 0) tabOK rfl rfl rfl rfl) ?_
   refine WpG.g tabOK 3 rfl ?_
   exact WpG.ret tabOK (L' := []) (.tmp rfl (.tmp rfl .nil)) (.cons _ .slnil) (Gives_ret (by first | (simp [givesF, *]; done) | (simp [givesF, *]; decide)) rfl)
  refine WpG.g tabOK 4 rfl ?_
  refine WpG.draw 6 [Chunk.box b1 [.int .i64 o.kind, .int .i64 o.bits, .int .i64 o.lanes, .int .i64 o.dst, .slice A_o_4 o.args.length c_o_4, .int .u64 o.imm] 53] mixed (by kernel_rfl) ?_
  refine WpD.g (listed' := lst 6 5) tabOK [0, 2] (by kernel_rfl) rfl hlr hlr (.refl _) ?_
  refine WpD.y (i := 1) (fuel := 3) (listed' := lst 6 7) (by kernel_rfl) rfl rfl rfl rfl hlr hlr (.refl _) (RunY.loadBox (ci := 0) tabOK rfl rfl rfl rfl) ?_
  refine WpD.g (listed' := lst 6 23) tabOK [4] (by kernel_rfl) rfl hlr hlr (.refl _) ?_
  refine WpD.y (i := 3) (fuel := 1) (listed' := lst 6 31) (by kernel_rfl) rfl rfl rfl rfl hlr hlr (.refl _) (RunY.loadBox (ci := 0) tabOK rfl rfl rfl rfl) ?_
  refine WpD.g (listed' := lst 6 63) tabOK [5] (by kernel_rfl) rfl hlr hlr (.refl _) ?_
  refine WpD.done (by kernel_rfl) ?_
  exact WpG.ret tabOK (L' := []) (.tmp rfl (.tmp rfl .nil)) (.cons _ .slnil) (Gives_ret (by first | (simp [givesF, *]; done) | (simp [givesF, *]; decide)) rfl)
 refine WpG.g tabOK 10 rfl ?_
 refine WpG.y rfl rfl rfl rfl (RunY.loadBox (ci := 0) tabOK rfl rfl rfl rfl) ?_
 refine WpG.g tabOK 3 rfl ?_
 refine WpG.caseE (t := 22) rfl (fun q22 => ?_) (fun q22 => ?_)
 ·refine WpG.g tabOK 4 rfl ?_
  refine WpG.y rfl rfl rfl rfl (RunY.loadBox (ci := 0) tabOK rfl rfl rfl rfl) ?_
  refine WpG.g tabOK 3 rfl ?_
  exact WpG.ret tabOK (L' := []) (.tmp rfl (.tmp rfl .nil)) (.cons _ .slnil) (Gives_ret (by first | (simp [givesF, *]; done) | (simp [givesF, *]; decide)) rfl)
 refine WpG.g tabOK 4 rfl ?_
 refine WpG.draw 6 [Chunk.box b1 [.int .i64 o.kind, .int .i64 o.bits, .int .i64 o.lanes, .int .i64 o.dst, .slice A_o_4 o.args.length c_o_4, .int .u64 o.imm] 53] mixed (by kernel_rfl) ?_
 refine WpD.g (listed' := lst 6 5) tabOK [0, 2] (by kernel_rfl) rfl hlr hlr (.refl _) ?_
 refine WpD.y (i := 1) (fuel := 3) (listed' := lst 6 7) (by kernel_rfl) rfl rfl rfl rfl hlr hlr (.refl _) (RunY.loadBox (ci := 0) tabOK rfl rfl rfl rfl) ?_
 refine WpD.g (listed' := lst 6 23) tabOK [4] (by kernel_rfl) rfl hlr hlr (.refl _) ?_
 refine WpD.y (i := 3) (fuel := 1) (listed' := lst 6 31) (by kernel_rfl) rfl rfl rfl rfl hlr hlr (.refl _) (RunY.loadBox (ci := 0) tabOK rfl rfl rfl rfl) ?_
 refine WpD.g (listed' := lst 6 63) tabOK [5] (by kernel_rfl) rfl hlr hlr (.refl _) ?_
 refine WpD.done (by kernel_rfl) ?_
 exact WpG.ret tabOK (L' := []) (.tmp rfl (.tmp rfl .nil)) (.cons _ .slnil) (Gives_ret (by first | (simp [givesF, *]; done) | (simp [givesF, *]; decide)) rfl)
end Go.Proofs.YtakameggkkjcpaaGreat
namespace Go.Proofs.YtakameggkkjcpaaGreat
open Go Go.RowKit
section
variable {P : Program} {T : List TRow} {fn : Func} {w0 : World} {H0 : Hp} {X : List Nat} {k : List Item} {F : Fk} {H : Hp} {L : List Chunk} {R : Ending → World → Prop} {ops : Array Oper} {ty : TypeId} {pos : String} {af : Array Edge} {g : Option (Nat × Bool)} {dst : Option Nat}
theorem WpG.freezeBox {ci b U : Nat} {cs : List Value} (hL : L[ci]? = some (Chunk.box b cs U))
    (h : ∀ H', H.le H' → HCells H' b 0 cs → WpG P fn w0 H0 X k F H' (L.eraseIdx ci) R) : WpG P fn w0 H0 X k F H L R := fun a w ha hs => by
  have hs' := hs.perm (perm_at hL).symm
  have hg : w.heap[b]? = some (.cells cs.toArray U (0, 0)) := hs.chunk hL
  refine h (fun x => if x = b then some (.cells cs.toArray U (0, 0)) else H x) (Hp.le_freeze hs' (b := b) rfl _) (fun j u hu => ?_) a w ha (hs'.freeze (b := b) rfl hg)
  simp only [hcell, if_true, Nat.zero_add]
  simpa using hu
structure Rw where
  A : Option Addr
  c : Nat
  xs : List Int
def iv (x : Int) : Value := .int .i64 x
def Rw.ch (E : Nat) (r : Rw) : Chunk := Chunk.own E 1 r.A r.c r.xs.length (r.xs.map iv)
def Rw.val (r : Rw) : Value := .slice r.A r.xs.length r.c
def Rw.nil : Rw := ⟨none, 0, []⟩
theorem WpG.ownNils (E : Nat) : ∀ (n : Nat) {L : List Chunk}, WpG P fn w0 H0 X k F H ((List.replicate n Rw.nil).map (Rw.ch E) ++ L) R → WpG P fn w0 H0 X k F H L R
  | 0, _, h => h
  | n + 1, _, h => WpG.ownNils E n (WpG.ownNil E 1 h)
theorem WpG.freezeRows (E : Nat) : ∀ (rs : List Rw) {H : Hp} {L : List Chunk}, (∀ r ∈ rs, AllI r.xs ∧ r.xs.length ≤ 140737488355328) →
    (∀ H', H.le H' → (∀ r ∈ rs, RdS H' r.A r.xs ∧ r.xs.length ≤ r.c) → WpG P fn w0 H0 X k F H' L R) → WpG P fn w0 H0 X k F H (rs.map (Rw.ch E) ++ L) R
  | [], H, _, _, h => h H (Hp.le.refl H) (fun r hr => by cases hr)
  | r :: rs, H, L, hI, h => by
    refine WpG.ownCap (ci := 0) rfl (fun hc => ?_)
    refine WpG.freezeOwn (ci := 0) rfl (fun H1 h1 hA => ?_)
    refine WpG.freezeRows E rs (H := H1) (L := L) (fun q hq => hI q (.tail _ hq)) (fun H2 h2 hR => ?_)
    refine h H2 (h1.trans h2) (fun q hq => ?_)
    rcases List.mem_cons.1 hq with rfl | hq
    · refine ⟨RdS.mono h2 (RdS.of_own (H := H) (RdL_ints _ (hI q (.head _)).1) rfl (hI q (.head _)).2 h1 hA), hc⟩
    · exact hR q hq
theorem rows_cell {rs : List Rw} {r : Rw} {t : Nat} (h : rs[t]? = some r) : ∀ (j : Nat) u, [r.val][j]? = some u → (rs.map Rw.val)[0 + t * 1 + j]? = some u := fun j u hu => by
  cases j with
  | zero => simp only [List.getElem?_cons_zero, Option.some.injEq] at hu; subst hu; simp [h]
  | succ j => simp at hu
theorem rows_ch {E t : Nat} {rs : List Rw} {r : Rw} (h : rs[t]? = some r) (a b : Chunk) : (a :: b :: rs.map (Rw.ch E))[t + 2]? = some (Chunk.own E 1 r.A r.c r.xs.length (r.xs.map iv)) := by
  show (rs.map (Rw.ch E))[t]? = _
  rw [List.getElem?_map, h]; rfl
theorem rows_set {E t c' : Nat} {A' : Option Addr} {rs rs' : List Rw} {ys : List Int} (a b : Chunk) (h : rs' = rs.set t ⟨A', c', ys⟩) {n : Nat} (hn : n = ys.length) :
    (a :: b :: rs.map (Rw.ch E)).set (t + 2) (Chunk.own E 1 A' c' n (ys.map iv)) = a :: b :: rs'.map (Rw.ch E) := by
  subst h; subst hn
  show a :: b :: (rs.map (Rw.ch E)).set t _ = _
  rw [List.map_set]; rfl
theorem rows_vals {t c' : Nat} {A' : Option Addr} {rs rs' : List Rw} {ys : List Int} (h : rs' = rs.set t ⟨A', c', ys⟩) {n : Nat} (hn : n = ys.length) :
    (rs.map Rw.val).set (0 + t * 1) (.slice A' n c') = rs'.map Rw.val := by
  subst h; subst hn
  rw [List.map_set, Nat.zero_add, Nat.mul_one]; rfl
theorem RdL_rows {H : Hp} : ∀ (rs : List Rw), (∀ r ∈ rs, RdS H r.A r.xs ∧ r.xs.length ≤ r.c) → RdL H (rs.map Rw.val) (rs.map Rw.xs)
  | [], _ => rfl
  | r :: rs, h => ⟨[r.val], rs.map Rw.val, rfl, ⟨r.A, r.c, rfl, (h r (.head _)).2, (h r (.head _)).1⟩, RdL_rows rs fun q hq => h q (.tail _ hq)⟩
theorem RunY.eqNil (hT : TabOK P T) {t e : Nat} {x y : Operand} {A : Option Addr} {n c : Nat} {tb : TypeId} {r : TRow} (hx : evk F x = some (.slice A n c)) (hy : evk F y = some (.slice none 0 0)) (hr : trow T t = some r) (hk : r.kind = .slice e) :
    RunY P fn w0 H0 X F H L ⟨dst, .binOp .eql t x y tb, ty, pos, af, g⟩ (.bool A.isNone) := fun a w ha hs => by
  have hd := (hT.row hr).slice hk
  have hb : (binOp .eql t (.slice A n c) (.slice none 0 0)).run P w = .ok (.bool A.isNone) w := by
    simp only [binOp]
    simp [run_equal_slice_nil w t e A n c hd]
  simp [execOp, ha.eval hx, ha.eval hy, eqGuard, hb]
theorem WpG.makeSlice0 (hT : TabOK P T) {i : Nat} {rest : List Nat} {d t e n : Nat} {x y : Operand} {kd ky : IntKind} {r q : TRow}
    (ho : ops[i]? = some ⟨some d, .makeSlice t x y, ty, pos, af, g⟩) (hw : wantk ops F g = some true) (hn : Nat.blt d fn.ntmps = true) (hx : evk F x = some (.int kd 0)) (hy : evk F y = some (.int ky (n : Int)))
    (hr : trow T t = some r) (hk : r.kind = .slice e) (hq : trow T e = some q) (hqs : (Nat.ble q.size 64 && Nat.ble q.bytes 65536) = true) (hlen : n ≤ 2147483648)
    (h : ∀ b, WpG P fn w0 H0 X (.inRegion ops rest :: k) ((d, .slice (some ⟨b, 0, none⟩) 0 n) :: F) H (Chunk.own e q.size (some ⟨b, 0, none⟩) n 0 [] :: L) R) : WpG P fn w0 H0 X (.inRegion ops (i :: rest) :: k) F H L R := by
  refine WpG.step (Post := fun F' H' L' => ∃ b, F' = (d, .slice (some ⟨b, 0, none⟩) 0 n) :: F ∧ H' = H ∧ L' = Chunk.own e q.size (some ⟨b, 0, none⟩) n 0 [] :: L) ⟨_, ho, hw, fun a w ha hs => ?_⟩ (by rintro _ _ _ ⟨b, rfl, rfl, rfl⟩; exact h b)
  have hd := (hT.row hr).slice hk
  obtain ⟨ii, hi, hs1, hb1, hz1⟩ := (hT.row hq).info
  simp only [Bool.and_eq_true] at hqs
  have hq1 := Nat.le_of_ble_eq_true hqs.1
  have hq2 := Nat.le_of_ble_eq_true hqs.2
  have hb2 : q.bytes * n ≤ 65536 * 2147483648 := Nat.mul_le_mul hq2 hlen
  have hm := run_make (P := P) w t e ii q.zero hd hi hz1 kd ky 0 n (by omega) (by omega) (by rw [hb1]; omega) (by omega)
  simp only [Int.toNat_natCast, hs1] at hm
  refine .value (v := .slice (some ⟨w.heap.size, 0, none⟩) 0 n) (w' := w.alloc (.cells (madeCells q.zero.cells (n * q.size)) e)) ?_
    ⟨_, _, _, ⟨w.heap.size, rfl, rfl, rfl⟩, ha.put (by simpa [Nat.blt_eq] using hn) _, hs.alloc (c := Chunk.own e q.size (some ⟨w.heap.size, 0, none⟩) n 0 []) (.cells (madeCells q.zero.cells (n * q.size)) e) rfl
      ⟨by simp, .inr ⟨w.heap.size, n, (madeCells q.zero.cells (n * q.size)), rfl, Nat.zero_le _, ?_, Nat.zero_le _, ?_, by simp [size_madeCells], ?_⟩⟩⟩
  · simp only [execOp, ha.eval hx, ha.eval hy, Sem.run_bind, hm]
    simp
  · show (w.heap.push _)[w.heap.size]? = _; simp
  · unfold maxLen; omega
  · simp
theorem AllI_of {A : Option Addr} {l : List Int} (h : RdS H A l) : AllI l := by
  rcases h.2 with rfl | ⟨b, o, rfl, hk⟩
  · trivial
  · clear h
    have : ∀ (j : Nat) x, l[j]? = some x → I64 x := fun j x hj => let ⟨_, h1, _⟩ := hk j x hj; h1.2
    clear hk
    induction l with
    | nil => trivial
    | cons x l ih => exact ⟨this 0 x rfl, ih fun j y hj => this (j + 1) y hj⟩
theorem iv_one (l : List Int) : (l.map iv).all (fun u => u.oneCell') = true := by
  rw [List.all_eq_true]
  intro x hx
  obtain ⟨y, _, rfl⟩ := List.mem_map.1 hx
  rfl
theorem Src.ints {H1 : Hp} {A : Option Addr} {l : List Int} (h : RdS H1 A l) (hH : H1.le H) : Src w0 H0 X H L A l.length (l.map iv) := by
  rcases h.2 with rfl | ⟨b, o, rfl, hk⟩
  · exact .inl ⟨rfl, rfl⟩
  · refine .inr ⟨b, o, rfl, fun w hs j u hu => ?_⟩
    rw [List.getElem?_map] at hu
    cases hj : l[j]? with
    | none => rw [hj] at hu; cases hu
    | some x =>
      rw [hj] at hu
      simp only [Option.map_some, Option.some.injEq] at hu
      subst hu
      obtain ⟨cs, h1, h2⟩ := hk j x hj
      have h3 : HCells H1 b (o + j * 1) cs := h2
      rw [h1.1, Nat.mul_one] at h3
      have := (h3.mono hH) 0 (iv x) rfl
      rw [Nat.add_zero] at this
      exact hs.sub.cell this
theorem RdS.nil_of {α : Type} [Rdc α] {A : Option Addr} {l : List α} (h : RdS H A l) (hA : A.isNone = true) : l = [] := by
  rcases h.2 with e | ⟨b, o, e, _⟩
  · exact e
  · rw [e] at hA; cases hA
end
end Go.Proofs.YtakameggkkjcpaaGreat
namespace Go.Proofs.YtakameggkkjcpaaGreat
open Go Go.RowKit
def edgesFrom : Int → List (List Int) → List (Int × Int)
  | _, [] => []
  | i, r :: s => r.map (fun t => (i, t)) ++ edgesFrom (i + 1) s
def predsOf (E : List (Int × Int)) (t : Nat) : List Int := (E.filter fun e => e.2 == (t : Int)).map (·.1)
def predsD (s : List (List Int)) : List (List Int) := (List.range s.length).map (predsOf (edgesFrom 0 s))
def makeOK (s : List (List Int)) : Bool := !decide ((s.length : Int) < 1) && (!decide ((s.length : Int) > 64) && s.all fun r => risingD s.length r (-1))
def makeD (s : List (List Int)) : GraphD × Int := if makeOK s then (⟨s, predsD s⟩, 0) else (⟨[], []⟩, 5)
theorem predsOf_snoc (E : List (Int × Int)) (i t : Int) (j : Nat) : predsOf (E ++ [(i, t)]) j = if t = (j : Int) then predsOf E j ++ [i] else predsOf E j := by
  unfold predsOf
  rw [List.filter_append, List.map_append]
  by_cases h : t = (j : Int) <;> simp [h]
theorem preds_step {rs rs' : List Rw} {n c' : Nat} {E : List (Int × Int)} {i t : Int} {r : Rw} {A' : Option Addr} (h : rs.map Rw.xs = (List.range n).map (predsOf E)) (hr : rs[t.toNat]? = some r) (h0 : 0 ≤ t) (hs : rs' = rs.set t.toNat ⟨A', c', r.xs ++ [i]⟩) :
    rs'.map Rw.xs = (List.range n).map (predsOf (E ++ [(i, t)])) := by
  subst hs
  have hlt : t.toNat < rs.length := (List.getElem?_eq_some_iff.1 hr).1
  have hl : rs.length = n := by have := congrArg List.length h; simpa using this
  have hx : r.xs = predsOf E t.toNat := by
    have := congrArg (·[t.toNat]?) h
    simp only [List.getElem?_map, hr, List.getElem?_range (show t.toNat < n by omega), Option.map_some, Option.some.injEq] at this
    exact this
  rw [List.map_set, h]
  apply List.ext_getElem?
  intro j
  by_cases hj : j < n
  · rw [List.getElem?_set]
    by_cases e : t.toNat = j
    · subst e
      simp only [if_true, List.length_map, List.length_range, hj, List.getElem?_map, List.getElem?_range hj, Option.map_some, predsOf_snoc]
      rw [if_pos (by omega), hx]
    · simp only [e, if_false, List.getElem?_map, List.getElem?_range hj, Option.map_some, predsOf_snoc]
      rw [if_neg (by omega)]
  · rw [List.getElem?_eq_none (by simp; omega), List.getElem?_eq_none (by simp; omega)]
theorem edges_drop {s : List (List Int)} {i : Int} (h0 : 0 ≤ i) (h1 : i < s.length) : edgesFrom i (s.drop i.toNat) = (nth s i).map (fun t => (i, t)) ++ edgesFrom (i + 1) (s.drop (i + 1).toNat) := by
  rw [drop_nth h0 h1, toNat_succ h0]; rfl
theorem row_of {rs : List Rw} {n : Nat} {E : List (Int × Int)} {t : Int} (h : rs.map Rw.xs = (List.range n).map (predsOf E)) (h0 : 0 ≤ t) (h1 : t < n) : ∃ r, rs[t.toNat]? = some r ∧ r.xs = predsOf E t.toNat := by
  have hl : rs.length = n := by have := congrArg List.length h; simpa using this
  have hlt : t.toNat < rs.length := by omega
  refine ⟨_, List.getElem?_eq_getElem hlt, ?_⟩
  have := congrArg (·[t.toNat]?) h
  simp only [List.getElem?_map, List.getElem?_eq_getElem hlt, List.getElem?_range (show t.toNat < n by omega), Option.map_some, Option.some.injEq] at this
  exact this
theorem predsOf_len (E : List (Int × Int)) (t : Nat) : (predsOf E t).length ≤ E.length := by
  unfold predsOf; rw [List.length_map]; exact List.length_filter_le _ _
theorem AllI_iff : ∀ {l : List Int}, AllI l ↔ ∀ x ∈ l, I64 x
  | [] => by simp [AllI]
  | x :: l => by simp [AllI, AllI_iff (l := l)]
theorem predsOf_all {E : List (Int × Int)} (h : ∀ e ∈ E, I64 e.1) (t : Nat) : AllI (predsOf E t) := by
  rw [AllI_iff]; unfold predsOf
  intro x hx
  obtain ⟨e, he, rfl⟩ := List.mem_map.1 hx
  exact h e (List.mem_filter.1 he).1
theorem rows_all {rs : List Rw} {n : Nat} {E : List (Int × Int)} (h : rs.map Rw.xs = (List.range n).map (predsOf E)) (hE : ∀ e ∈ E, I64 e.1) (hl : E.length ≤ 4096) : ∀ r ∈ rs, AllI r.xs ∧ r.xs.length ≤ 140737488355328 := fun r hr => by
  have : r.xs ∈ rs.map Rw.xs := List.mem_map.2 ⟨r, hr, rfl⟩
  rw [h] at this
  obtain ⟨j, _, e⟩ := List.mem_map.1 this
  rw [← e]
  exact ⟨predsOf_all hE j, by have := predsOf_len E j; omega⟩
theorem rising_lt : ∀ {l : List Int} {n x : Int}, risingD n l x = true → ∀ t ∈ l, x < t ∧ t < n
  | [], _, _, _, t, ht => by cases ht
  | y :: l, n, x, h, t, ht => by
    simp only [risingD] at h
    by_cases h1 : y ≤ x
    · rw [if_pos h1] at h; cases h
    · rw [if_neg h1] at h
      by_cases h2 : y ≥ n
      · rw [if_pos h2] at h; cases h
      · rw [if_neg h2] at h
        rcases List.mem_cons.1 ht with rfl | ht
        · exact ⟨by omega, by omega⟩
        · have := rising_lt h t ht; exact ⟨by omega, this.2⟩
theorem rising_len : ∀ {l : List Int} {n x : Int}, risingD n l x = true → x < n → (l.length : Int) ≤ n - 1 - x
  | [], n, x, _, h => by simp; omega
  | y :: l, n, x, h, hx => by
    simp only [risingD] at h
    by_cases h1 : y ≤ x
    · rw [if_pos h1] at h; cases h
    · rw [if_neg h1] at h
      by_cases h2 : y ≥ n
      · rw [if_pos h2] at h; cases h
      · rw [if_neg h2] at h
        have := rising_len h (by omega)
        simp only [List.length_cons]; omega
theorem makeOK_rows {s : List (List Int)} (h : makeOK s = true) : 1 ≤ s.length ∧ s.length ≤ 64 ∧ ∀ r ∈ s, r.length ≤ 64 ∧ ∀ t ∈ r, 0 ≤ t ∧ t < s.length := by
  simp only [makeOK, Bool.and_eq_true, Bool.not_eq_true', decide_eq_false_iff_not, List.all_eq_true] at h
  refine ⟨by omega, by omega, fun r hr => ?_⟩
  have h3 := h.2.2 r hr
  refine ⟨by have := rising_len h3 (by omega); omega, fun t ht => ?_⟩
  have := rising_lt h3 t ht
  exact ⟨by omega, this.2⟩
def eqLL : List (List Int) → List (List Int) → Bool
  | [], [] => true
  | x :: l, y :: m => eqL x y && eqLL l m
  | _, _ => false
theorem eqLL_eq : ∀ {l m : List (List Int)}, eqLL l m = true ↔ l = m
  | [], [] => by simp [eqLL]
  | [], _ :: _ => by simp [eqLL]
  | _ :: _, [] => by simp [eqLL]
  | x :: l, y :: m => by simp [eqLL, eqL_eq, eqLL_eq]
theorem eqLL_len : ∀ {l m : List (List Int)}, l.length ≠ m.length → eqLL l m = false
  | [], [], h => absurd rfl h
  | [], _ :: _, _ => rfl
  | _ :: _, [], _ => rfl
  | x :: l, y :: m, h => by simp only [eqLL, eqLL_len (l := l) (m := m) (by simpa using h), Bool.and_false]
def mayG (g : GraphD) : Bool := (makeD g.succ).2 == 0 && eqLL (makeD g.succ).1.pred g.pred
theorem take_snoc_nth {α : Type} [Inhabited α] {s : List α} {i : Int} (h0 : 0 ≤ i) (h1 : i < s.length) : s.take (i + 1).toNat = s.take i.toNat ++ [nth s i] := by
  rw [toNat_succ h0, List.take_add_one, nth_get h0 h1]; rfl
theorem make_no {s : List (List Int)} (h : makeOK s = false) : makeD s = (⟨[], []⟩, 5) := by unfold makeD; rw [h]; rfl
theorem make_yes {s : List (List Int)} (h : makeOK s = true) : makeD s = (⟨s, predsD s⟩, 0) := by unfold makeD; rw [h]; rfl
theorem Make_no {s : List (List Int)} {H : Hp} (h : makeOK s = false) : ∃ A c A' c', Value.tuple #[.agg #[.slice none 0 0, .slice none 0 0], .int .i64 5] = .tuple #[.agg #[.slice A (makeD s).1.succ.length c, .slice A' (makeD s).1.pred.length c'], .int .i64 (makeD s).2] ∧
    (makeD s).1.succ.length ≤ c ∧ RdS H A (makeD s).1.succ ∧ (makeD s).1.pred.length ≤ c' ∧ RdS H A' (makeD s).1.pred ∧ ([] : List Chunk) = [] := by
  rw [make_no h]
  exact ⟨none, 0, none, 0, rfl, Nat.le_refl _, RdS.nil _ _, Nat.le_refl _, RdS.nil _ _, rfl⟩
theorem Make_yes {s : List (List Int)} {H : Hp} {B B' : Option Addr} {d d' : Nat} (h : makeOK s = true) (u : s.length ≤ d) (r : RdS H B s) (u' : (predsD s).length ≤ d') (r' : RdS H B' (predsD s)) :
    ∃ A c A' c', Value.tuple #[.agg #[.slice B s.length d, .slice B' (predsD s).length d'], .int .i64 0] = .tuple #[.agg #[.slice A (makeD s).1.succ.length c, .slice A' (makeD s).1.pred.length c'], .int .i64 (makeD s).2] ∧
    (makeD s).1.succ.length ≤ c ∧ RdS H A (makeD s).1.succ ∧ (makeD s).1.pred.length ≤ c' ∧ RdS H A' (makeD s).1.pred ∧ ([] : List Chunk) = [] := by
  rw [make_yes h]
  exact ⟨B, d, B', d', rfl, u, r, u', r', rfl⟩
theorem nth_set {l : List Int} {a k x : Int} (h0 : 0 ≤ a) (h1 : a < l.length) (h2 : 0 ≤ k) : nth (l.set a.toNat x) k = if k = a then x else nth l k := by
  unfold nth
  rw [List.getD_eq_getElem?_getD, List.getD_eq_getElem?_getD, List.getElem?_set]
  by_cases e : k = a
  · subst e
    rw [if_pos rfl, if_pos (by omega), if_pos rfl]; rfl
  · rw [if_neg (by omega), if_neg e]
theorem nth_ext {l m : List Int} (hl : l.length = m.length) (h : ∀ k : Int, 0 ≤ k → k < l.length → nth l k = nth m k) : l = m := by
  apply List.ext_getElem? ; intro j
  by_cases hj : j < l.length
  · have := h j (by omega) (by omega)
    have h1 := nth_get (xs := l) (i := (j : Int)) (by omega) (by omega)
    have h2 := nth_get (xs := m) (i := (j : Int)) (by omega) (by omega)
    rw [Int.toNat_natCast] at h1 h2
    rw [h1, h2, this]
  · rw [List.getElem?_eq_none (by omega), List.getElem?_eq_none (by omega)]
def RevAt (l m : List Int) (i j : Int) : Prop := m.length = l.length ∧ ∀ k : Int, 0 ≤ k → k < l.length → nth m k = if k < i ∨ j < k then nth l (l.length - 1 - k) else nth l k
theorem RevAt.start (l : List Int) : RevAt l l 0 (l.length - 1) := ⟨rfl, fun k h0 h1 => by rw [if_neg (by omega)]⟩
theorem RevAt.step {l m : List Int} {i j : Int} (h : RevAt l m i j) (h0 : 0 ≤ i) (h1 : i < j) (hij : i + j = l.length - 1) : RevAt l ((m.set i.toNat (nth m j)).set j.toNat (nth m i)) (i + 1) (j - 1) := by
  refine ⟨by simp [h.1], fun k k0 k1 => ?_⟩
  have hl := h.1
  rw [nth_set (by omega) (by simp; omega) k0, nth_set h0 (by omega) k0]
  by_cases e : k = j
  · rw [if_pos e, if_pos (by omega), h.2 i h0 (by omega), if_neg (by omega)]
    congr 1; omega
  · rw [if_neg e]
    by_cases e2 : k = i
    · rw [if_pos e2, if_pos (by omega), h.2 j (by omega) (by omega), if_neg (by omega)]
      congr 1; omega
    · rw [if_neg e2, h.2 k k0 k1]
      by_cases c : k < i ∨ j < k
      · rw [if_pos c, if_pos (by omega)]
      · rw [if_neg c, if_neg (by omega)]
theorem nth_reverse {l : List Int} {k : Int} (h0 : 0 ≤ k) (h1 : k < l.length) : nth l.reverse k = nth l (l.length - 1 - k) := by
  unfold nth
  rw [List.getD_eq_getElem?_getD, List.getD_eq_getElem?_getD, List.getElem?_reverse (by omega)]
  congr 2; omega
theorem RevAt.done {l m : List Int} {i j : Int} (h : RevAt l m i j) (h1 : ¬ i < j) (hij : i + j = l.length - 1) : m = l.reverse := by
  refine nth_ext (by rw [List.length_reverse, h.1]) fun k k0 k1 => ?_
  rw [h.1] at k1
  rw [h.2 k k0 k1, nth_reverse k0 k1]
  by_cases c : k < i ∨ j < k
  · rw [if_pos c]
  · rw [if_neg c]; congr 1; omega
theorem preds_start (n : Nat) : (List.replicate n Rw.nil).map Rw.xs = (List.range n).map (predsOf []) := by
  rw [List.map_replicate]
  apply List.ext_getElem?
  intro j
  by_cases hj : j < n
  · simp [hj, predsOf, Rw.nil]
  · rw [List.getElem?_eq_none (by simp; omega), List.getElem?_eq_none (by simp; omega)]
theorem preds_ret {s l : List (List Int)} {A : Option Addr} {n c : Nat} {H : Hp} (e : predsD s = l) (hn : n = l.length) (hc : n ≤ c) (hr : RdS H A l) :
    ∃ A' c', Value.slice A n c = .slice A' (predsD s).length c' ∧ (predsD s).length ≤ c' ∧ RdS H A' (predsD s) ∧ ([] : List Chunk) = [] := ⟨A, c, by rw [e, hn], by rw [e, ← hn]; exact hc, e ▸ hr, rfl⟩
end Go.Proofs.YtakameggkkjcpaaGreat
set_option maxRecDepth 4000
namespace Go.Proofs.YtakameggkkjcpaaGreat
open Go Go.RowKit
theorem IndexFunc_list {H : Hp} {A : Option Addr} {c : Nat} {l : List (List Int)} (hl : RdS H A l) {g : Nat} {first cap : Array Value} {p : List Int → Bool} (hf : ∀ x, x ∈ l → ∀ A c, x.length ≤ c → RdS H A x → CallG Tryz.prog g (first.toList ++ ([.slice A x.length c] ++ cap.toList)) H [] fun u _ L' => u = .bool (p x) ∧ L' = []) : CallG Tryz.prog 100 [.slice A l.length c, .func (.func g) first cap] H [] (fun v _ L' => v = .int .i64 (idxFrom p l 0) ∧ L' = []) := by
 have bl := hl.1
 refine CallG.of Tryz.func100 rfl rfl rfl fun w0 => ?_
 refine WpG.g tabOK 13 rfl ?_
 refine WpG.wk (WpG.ind1 (fun (i : Int) => ⟨(l.length - i).toNat, [(0, .slice A l.length c), (1, .func (.func g) first cap), (7, .int .i64 (l.length : Int)), (8, .int .i64 i)], H, [], 0 ≤ i ∧ i ≤ l.length ∧ idxFrom p l 0 = idxFrom p (l.drop i.toNat) i⟩) ?_ 0 ⟨by omega, by omega, rfl⟩) rfl
 intro i inv ih1
 obtain ⟨i0, i1, i2⟩ := inv
 refine WpG.g tabOK 5 rfl ?_
 refine WpG.caseD (t := 9) rfl (fun q9 => ?_) (fun q9 => ?_)
 ·refine WpG.g tabOK 14 rfl ?_
  refine WpG.indexR tabOK rfl rfl rfl rfl rfl rfl rfl rfl rfl hl (by omega) (by omega) ?_
  rintro x1 hx1 b1 o1 _ ⟨A1, c1, rfl, u1, r1⟩ hc1
  refine WpG.y rfl rfl rfl rfl (RunY.loadH tabOK hc1 hlr rfl rfl rfl rfl) ?_
  refine WpG.callS rfl rfl rfl rfl rfl rfl hlr (hf x1 (by rw [hx1]; exact nth_mem i0 q9) _ _ u1 r1) ?_
  refine WpG.g tabOK 1 rfl ?_
  refine WpG.caseB (t := 16) rfl (fun q16 => ?_) (fun q16 => ?_)
  ·refine WpG.g tabOK 6 rfl ?_
   exact WpG.ret tabOK (L' := []) (.tmp rfl .nil) .slnil ⟨congrArg (Value.int .i64) (by clear ih1; rw [i2, drop_nth i0 q9, ← hx1]; simp only [idxFrom]; rw [if_pos q16]), rfl⟩
  refine WpG.gw tabOK 5 18 rfl (wrk (x := i + 1) (by omega) (by omega)) ?_
  refine WpG.g tabOK 3 rfl ?_
  refine WpG.wk (ih1 (i + 1) ?_ ?_) rfl
  ·dsimp only
   omega
  clear ih1
  refine ⟨by omega, by omega, ?_⟩
  rw [i2, drop_nth i0 q9, toNat_succ i0, ← hx1]; simp only [idxFrom]; rw [if_neg (by simp [q16])]
 refine WpG.g tabOK 6 rfl ?_
 exact WpG.ret tabOK (L' := []) (.tmp rfl .nil) .slnil ⟨congrArg (Value.int .i64) (by clear ih1; rw [i2, drop_end i0 q9]; rfl), rfl⟩
theorem ContainsFunc_list {H : Hp} {A : Option Addr} {c : Nat} {l : List (List Int)} (hl : RdS H A l) {g : Nat} {first cap : Array Value} {p : List Int → Bool} (hf : ∀ x, x ∈ l → ∀ A c, x.length ≤ c → RdS H A x → CallG Tryz.prog g (first.toList ++ ([.slice A x.length c] ++ cap.toList)) H [] fun u _ L' => u = .bool (p x) ∧ L' = []) : CallG Tryz.prog 71 [.slice A l.length c, .func (.func g) first cap] H [] (fun v _ L' => v = .bool (l.any p) ∧ L' = []) := by
 refine CallG.of Tryz.func71 rfl rfl rfl fun w0 => ?_
 refine WpG.g tabOK 8 rfl ?_
 refine WpG.callS rfl rfl rfl rfl rfl rfl hlr (IndexFunc_list hl hf) ?_
 refine WpG.g tabOK 3 rfl ?_
 exact WpG.ret tabOK (L' := []) (.tmp rfl .nil) .slnil ⟨congrArg Value.bool (by rw [Bool.eq_iff_iff, decide_eq_true_iff]; exact idxFrom_ge p l 0 (by omega)), rfl⟩
theorem preds_calls {H : Hp} {A : Option Addr} {c : Nat} {s : List (List Int)} (hs : RdS H A s) (hn : s.length ≤ 64) (hb : ∀ r ∈ s, r.length ≤ 64 ∧ ∀ t ∈ r, 0 ≤ t ∧ t < s.length) : CallG Tryz.prog 75 [.slice A s.length c] H [] (fun v H' L' => ∃ A c, v = .slice A (predsD s).length c ∧ (predsD s).length ≤ c ∧ RdS H' A (predsD s) ∧ L' = []) := by
 refine CallG.of Tryz.func75 rfl rfl rfl fun w0 => ?_
 refine WpG.g tabOK 8 rfl ?_
 refine WpG.makeSlice (n := s.length) tabOK rfl rfl rfl rfl rfl rfl rfl rfl rfl (by omega) (fun b1 => ?_)
 refine WpG.g tabOK 11 rfl ?_
 refine WpG.ownNils 3 s.length (WpG.permL (L' := (Chunk.own 22 1 (some ⟨b1, 0, none⟩) s.length s.length (List.replicate s.length (.slice none 0 0)) :: (List.replicate s.length Rw.nil).map (Rw.ch 3))) (List.perm_append_comm (l₁ := [Chunk.own 22 1 (some ⟨b1, 0, none⟩) s.length s.length (List.replicate s.length (.slice none 0 0))]) (l₂ := (List.replicate s.length Rw.nil).map (Rw.ch 3))) ?_)
 refine WpG.setL (L' := (Chunk.own 22 1 (some ⟨b1, 0, none⟩) s.length s.length ((List.replicate s.length Rw.nil).map Rw.val) :: (List.replicate s.length Rw.nil).map (Rw.ch 3))) (by rw [List.map_replicate (f := Rw.val)]; rfl) ?_
 refine WpG.wk (WpG.ind3 (fun (i : Int) (E : List (Int × Int)) (rs : List Rw) => ⟨(s.length - i).toNat, [(3, .slice (some ⟨b1, 0, none⟩) s.length s.length), (11, .slice A s.length c), (12, .int .i64 (s.length : Int)), (13, .int .i64 i)], H, (Chunk.own 22 1 (some ⟨b1, 0, none⟩) s.length s.length (rs.map Rw.val) :: rs.map (Rw.ch 3)), 0 ≤ i ∧ i ≤ s.length ∧ edgesFrom 0 s = E ++ edgesFrom i (s.drop i.toNat) ∧ rs.map Rw.xs = (List.range s.length).map (predsOf E) ∧ (E.length : Int) ≤ i * 64 ∧ ∀ e ∈ E, I64 e.1⟩) ?_ 0 [] (List.replicate s.length Rw.nil) ⟨by omega, by omega, rfl, preds_start _, by simp, by simp⟩) rfl
 intro i E rs inv ih1
 obtain ⟨i0, i1, i2, i3, i4, i5⟩ := inv
 refine WpG.g tabOK 5 rfl ?_
 refine WpG.caseD (t := 14) rfl (fun q14 => ?_) (fun q14 => ?_)
 ·refine WpG.g tabOK 7 rfl ?_
  refine WpG.indexR tabOK rfl rfl rfl rfl rfl rfl rfl rfl rfl hs (by omega) (by omega) ?_
  rintro x3 hx3 b3 o3 _ ⟨A3, c3, rfl, u3, r3⟩ hc3
  refine WpG.y rfl rfl rfl rfl (RunY.loadH tabOK hc3 hlr rfl rfl rfl rfl) ?_
  refine WpG.g tabOK 11 rfl ?_
  refine WpG.wk (WpG.ind3 (fun (j : Int) (E : List (Int × Int)) (rs : List Rw) => ⟨(x3.length - j).toNat, [(3, .slice (some ⟨b1, 0, none⟩) s.length s.length), (4, .int .i64 i), (11, .slice A s.length c), (12, .int .i64 (s.length : Int)), (13, .int .i64 i), (18, .slice A3 x3.length c3), (19, .int .i64 (x3.length : Int)), (20, .int .i64 j)], H, (Chunk.own 22 1 (some ⟨b1, 0, none⟩) s.length s.length (rs.map Rw.val) :: rs.map (Rw.ch 3)), 0 ≤ j ∧ j ≤ x3.length ∧ edgesFrom 0 s = E ++ ((x3.drop j.toNat).map (fun t => (i, t)) ++ edgesFrom (i + 1) (s.drop (i + 1).toNat)) ∧ rs.map Rw.xs = (List.range s.length).map (predsOf E) ∧ (E.length : Int) ≤ i * 64 + j ∧ ∀ e ∈ E, I64 e.1⟩) ?_ 0 E rs ⟨by omega, by omega, by rw [i2, edges_drop i0 q14, ← hx3]; rfl, i3, by simpa using i4, i5⟩) rfl
  intro j E rs inv ih2
  obtain ⟨j0, j1, j2, j3, j4, j5⟩ := inv
  have hb1 := hb x3 (hx3 ▸ nth_mem i0 q14)
  have b2 := hb1.2
  refine WpG.g tabOK 5 rfl ?_
  refine WpG.caseD (t := 21) rfl (fun q21 => ?_) (fun q21 => ?_)
  ·refine WpG.g tabOK 6 rfl ?_
   refine WpG.indexR tabOK rfl rfl rfl rfl rfl rfl rfl rfl rfl r3 (by omega) (by omega) ?_
   rintro x4 hx4 b4 o4 _ ⟨rfl, k4⟩ hc4
   refine WpG.y rfl rfl rfl rfl (RunY.loadH tabOK hc4 hlr rfl rfl rfl rfl) ?_
   refine WpG.g tabOK 7 rfl ?_
   refine WpG.y rfl rfl rfl rfl (RunY.indexAddr tabOK rfl rfl rfl rfl rfl (b2 _ (hx4 ▸ nth_mem j0 q21)).1 (b2 _ (hx4 ▸ nth_mem j0 q21)).2) ?_
   obtain ⟨r, hr, hrx⟩ := row_of j3 (b2 _ (hx4 ▸ nth_mem j0 q21)).1 (b2 _ (hx4 ▸ nth_mem j0 q21)).2
   refine WpG.y rfl rfl rfl rfl (RunY.loadOwn (ci := 0) (cs := [Rw.val r]) tabOK rfl rfl rfl rfl rfl (rows_cell hr)) ?_
   refine WpG.g tabOK 1 rfl ?_
   refine WpG.buildSlice (xs := [.int .i64 i]) tabOK rfl rfl rfl rfl rfl rfl rfl rfl rfl rfl (fun b5 => ?_)
   refine WpG.append (ci := x4.toNat + 2) (xs := r.xs.map iv) tabOK rfl rfl rfl rfl rfl rfl rfl rfl rfl (rows_ch hr _ _) rfl rfl (Src.own (ci := 0) rfl) (by have := predsOf_len E x4.toNat; rw [hrx]; omega) (fun A' c' => ?_)
   obtain ⟨rs', hrs⟩ : ∃ rs', rs' = rs.set x4.toNat ⟨A', c', r.xs ++ [i]⟩ := ⟨_, rfl⟩
   refine WpG.setL (L' := (Chunk.own 3 1 (some ⟨b5, 0, none⟩) 1 1 [.int .i64 i] :: Chunk.own 22 1 (some ⟨b1, 0, none⟩) s.length s.length (rs.map Rw.val) :: rs'.map (Rw.ch 3))) (by rw [← rows_set _ _ hrs (n := r.xs.length + 1) (by simp), List.map_append]; rfl) ?_
   refine WpG.dropL (L' := (Chunk.own 22 1 (some ⟨b1, 0, none⟩) s.length s.length (rs.map Rw.val) :: rs'.map (Rw.ch 3))) (.cons _ (List.Sublist.refl _)) ?_
   refine WpG.y rfl rfl rfl rfl (RunY.indexAddr tabOK rfl rfl rfl rfl rfl (b2 _ (hx4 ▸ nth_mem j0 q21)).1 (b2 _ (hx4 ▸ nth_mem j0 q21)).2) ?_
   refine WpG.storeOwn (ci := 0) tabOK rfl rfl rfl rfl rfl rfl rfl rfl (putAt_one (by simp only [List.length_map]; have := (List.getElem?_eq_some_iff.1 hr).1; show 0 + x4.toNat * 1 < _; omega)) ?_
   refine WpG.setL (L' := (Chunk.own 22 1 (some ⟨b1, 0, none⟩) s.length s.length (rs'.map Rw.val) :: rs'.map (Rw.ch 3))) (by rw [← rows_vals hrs (n := r.xs.length + 1) (by simp)]; rfl) ?_
   refine WpG.gw tabOK 4 34 rfl (wrk (x := j + 1) (by omega) (by omega)) ?_
   refine WpG.g tabOK 3 rfl ?_
   refine WpG.wk (ih2 (j + 1) (E ++ [(i, x4)]) rs' ?_ ?_) rfl
   ·dsimp only
    omega
   clear ih1 ih2
   refine ⟨by omega, by omega, ?_, preds_step j3 hr (b2 _ (hx4 ▸ nth_mem j0 q21)).1 hrs, by simp only [List.length_append, List.length_cons, List.length_nil]; omega, ?_⟩
   ·rw [j2, drop_nth j0 q21, ← hx4, toNat_succ j0, List.map_cons, List.append_assoc]; rfl
   ·intro e he; rcases List.mem_append.1 he with h | h
    ·exact j5 e h
    ·rw [List.mem_singleton.1 h]; exact ⟨by omega, by omega⟩
  refine WpG.gw tabOK 5 35 rfl (wrk (x := i + 1) (by omega) (by omega)) ?_
  refine WpG.g tabOK 3 rfl ?_
  refine WpG.wk (ih1 (i + 1) E rs ?_ ?_) rfl
  ·dsimp only
   omega
  clear ih1 ih2
  exact ⟨by omega, by omega, by rw [j2, drop_end j0 q21]; rfl, j3, by omega, j5⟩
 refine WpG.g tabOK 7 rfl ?_
 refine WpG.permL (L' := rs.map (Rw.ch 3) ++ [Chunk.own 22 1 (some ⟨b1, 0, none⟩) s.length s.length (rs.map Rw.val)]) (List.perm_append_comm (l₁ := rs.map (Rw.ch 3)) (l₂ := [Chunk.own 22 1 (some ⟨b1, 0, none⟩) s.length s.length (rs.map Rw.val)])) ?_
 refine WpG.freezeRows 3 rs (rows_all i3 i5 (by omega)) (fun Hr hHr hR => ?_)
 refine WpG.ownCap (ci := 0) rfl (fun uz7 => ?_)
 refine WpG.freezeOwn (ci := 0) rfl (fun H7 hH7 fz7 => ?_)
 have rz7 : RdS H7 (some ⟨b1, 0, none⟩) (rs.map Rw.xs) := RdS.of_own (H := Hr) (show RdL Hr (rs.map Rw.val) (rs.map Rw.xs) from RdL_rows rs hR) ((by rw [i3]; simp)) (by rw [i3]; simp; omega) hH7 fz7
 exact WpG.ret tabOK (L' := []) (.tmp rfl .nil) .slnil (preds_ret (by rw [i3, predsD, i2, drop_end i0 q14]; simp [edgesFrom]) (by rw [i3]; simp) uz7 rz7)
theorem Clone_calls {H : Hp} {A : Option Addr} {c : Nat} {l : List Int} (hl : RdS H A l) (hn : l.length ≤ 1048576) : CallG Tryz.prog 74 [.slice A l.length c] H [] (fun v H' L' => H' = H ∧ ∃ A' c', v = .slice A' l.length c' ∧ L' = [Chunk.own 3 1 A' c' l.length (l.map iv)]) := by
 refine CallG.of Tryz.func74 rfl rfl rfl fun w0 => ?_
 refine WpG.g tabOK 8 rfl ?_
 refine WpG.y rfl rfl rfl rfl (RunY.eqNil tabOK rfl rfl rfl rfl) ?_
 refine WpG.g tabOK 1 rfl ?_
 refine WpG.caseB (t := 4) rfl (fun q4 => ?_) (fun q4 => ?_)
 ·refine WpG.g tabOK 5 rfl ?_
  refine WpG.ownNil 3 1 ?_
  exact WpG.ret tabOK (L' := [Chunk.own 3 1 none 0 0 []]) (.tmp rfl .nil) (.cons_cons _ .slnil) ⟨rfl, none, 0, by rw [hl.nil_of q4]; rfl, by rw [hl.nil_of q4]; rfl⟩
 refine WpG.g tabOK 4 rfl ?_
 refine WpG.buildSlice (xs := []) tabOK rfl rfl rfl rfl rfl rfl rfl rfl rfl rfl (fun b1 => ?_)
 refine WpG.g tabOK 1 rfl ?_
 refine WpG.append (ci := 0) tabOK rfl rfl rfl rfl rfl rfl rfl rfl rfl rfl (by simp) (iv_one _) (Src.ints hl hlr) (by omega) (fun A3 c4 => ?_)
 refine WpG.g tabOK 2 rfl ?_
 exact WpG.ret tabOK (L' := [Chunk.own 3 1 A3 c4 (0 + l.length) ([] ++ l.map iv)]) (.tmp rfl .nil) (.cons_cons _ .slnil) ⟨rfl, _, _, by rw [Nat.zero_add]; rfl, by rw [Nat.zero_add]; rfl⟩
theorem Make1_calls {H : Hp} {A : Option Addr} {c b : Nat} {l : List Int} (hl : RdS H A l) {n : Int} (hb : HCells H b 0 [.int .i64 n]) : CallG Tryz.prog 72 [.slice A l.length c, .pointer (some ⟨b, 0, none⟩)] H [] (fun v _ L' => v = .bool (!risingD n l (-1)) ∧ L' = []) := by
 refine CallG.of Tryz.func72 rfl rfl rfl fun w0 => ?_
 refine WpG.g tabOK 7 rfl ?_
 refine WpG.y rfl rfl rfl rfl (RunY.loadH tabOK hb hlr rfl rfl rfl rfl) ?_
 refine WpG.callS rfl rfl rfl rfl rfl rfl hlr (rising_calls hl n) ?_
 refine WpG.g tabOK 3 rfl ?_
 exact WpG.ret tabOK (L' := []) (.tmp rfl .nil) .slnil ⟨congrArg Value.bool (by rfl), rfl⟩
theorem Make_calls {H : Hp} {A : Option Addr} {c : Nat} {s : List (List Int)} (hs : RdS H A s) : CallG Tryz.prog 41 [.slice A s.length c] H [] (fun v H' L' => ∃ A c A' c', v = .tuple #[.agg #[.slice A (makeD s).1.succ.length c, .slice A' (makeD s).1.pred.length c'], .int .i64 (makeD s).2] ∧ (makeD s).1.succ.length ≤ c ∧ RdS H' A (makeD s).1.succ ∧ (makeD s).1.pred.length ≤ c' ∧ RdS H' A' (makeD s).1.pred ∧ L' = []) := by
 have bs := hs.1
 refine CallG.of Tryz.func41 rfl rfl rfl fun w0 => ?_
 refine WpG.g tabOK 2 rfl ?_
 refine WpG.alloc tabOK rfl rfl rfl rfl rfl (fun b1 => ?_)
 refine WpG.g tabOK 6 rfl ?_
 refine WpG.alloc tabOK rfl rfl rfl rfl rfl (fun b2 => ?_)
 refine WpG.storeBox (ci := 0) (cs' := [.int .i64 (s.length : Int)]) tabOK rfl rfl rfl rfl rfl rfl rfl rfl rfl ?_
 refine WpG.freezeBox (ci := 0) rfl (fun H3 hH3 hc3 => ?_)
 refine WpG.g tabOK 4 rfl ?_
 refine WpG.y rfl rfl rfl rfl (RunY.loadH tabOK hc3 hlr rfl rfl rfl rfl) ?_
 refine WpG.g tabOK 2 rfl ?_
 refine WpG.caseD (t := 12) rfl (fun q12 => ?_) (fun q12 => ?_)
 ·refine WpG.g tabOK 13 rfl ?_
  refine WpG.storeBox (ci := 0) (cs' := [.slice none 0 0, .slice none 0 0]) tabOK rfl rfl rfl rfl rfl rfl rfl rfl rfl ?_
  refine WpG.g tabOK 2 rfl ?_
  exact WpG.ret tabOK (L' := []) (.cell (ci := 0) rfl rfl rfl rfl (.tmp rfl .nil)) (.cons _ .slnil) (Make_no (by simp [makeOK, *]))
 refine WpG.y rfl rfl rfl rfl (RunY.loadH tabOK hc3 hlr rfl rfl rfl rfl) ?_
 refine WpG.g tabOK 3 rfl ?_
 refine WpG.caseD (t := 16) rfl (fun q16 => ?_) (fun q16 => ?_)
 ·refine WpG.g tabOK 9 rfl ?_
  refine WpG.storeBox (ci := 0) (cs' := [.slice none 0 0, .slice none 0 0]) tabOK rfl rfl rfl rfl rfl rfl rfl rfl rfl ?_
  refine WpG.g tabOK 2 rfl ?_
  exact WpG.ret tabOK (L' := []) (.cell (ci := 0) rfl rfl rfl rfl (.tmp rfl .nil)) (.cons _ .slnil) (Make_no (by simp [makeOK, *]))
 refine WpG.g tabOK 2 rfl ?_
 refine WpG.callS rfl rfl rfl rfl rfl rfl hlr (ContainsFunc_list (hs.mono hH3) (p := fun r => !risingD s.length r (-1)) (fun x _ A c _ hr => Make1_calls hr hc3)) ?_
 refine WpG.g tabOK 2 rfl ?_
 refine WpG.caseB (t := 20) rfl (fun q20 => ?_) (fun q20 => ?_)
 ·refine WpG.g tabOK 4 rfl ?_
  refine WpG.storeBox (ci := 0) (cs' := [.slice none 0 0, .slice none 0 0]) tabOK rfl rfl rfl rfl rfl rfl rfl rfl rfl ?_
  refine WpG.g tabOK 2 rfl ?_
  exact WpG.ret tabOK (L' := []) (.cell (ci := 0) rfl rfl rfl rfl (.tmp rfl .nil)) (.cons _ .slnil) (Make_no (by simp only [makeOK, decide_eq_false q12, decide_eq_false q16, Bool.not_false, Bool.true_and]; simpa [any_neg] using q20))
 have hok : makeOK s = true := by simp only [makeOK, decide_eq_false q12, decide_eq_false q16, Bool.not_false, Bool.true_and]; simpa [any_neg] using q20
 refine WpG.g tabOK 4 rfl ?_
 refine WpG.y rfl rfl rfl rfl (RunY.loadH tabOK hc3 hlr rfl rfl rfl rfl) ?_
 refine WpG.makeSlice0 (n := s.length) tabOK rfl rfl rfl rfl rfl rfl rfl rfl rfl (by omega) (fun b4 => ?_)
 refine WpG.g tabOK 11 rfl ?_
 refine WpG.wk (WpG.ind6 (fun (i : Int) (A5 : Option Addr) (n5 : Nat) (c5 : Nat) (cs : List Value) (G : Hp) => ⟨(s.length - i).toNat, [(2, .pointer (some ⟨b1, 0, none⟩)), (5, .slice A5 n5 c5), (24, .slice A s.length c), (25, .int .i64 (s.length : Int)), (26, .int .i64 i)], G, [Chunk.own 22 1 A5 c5 n5 cs, Chunk.box b1 [.slice none 0 0, .slice none 0 0] 46], 0 ≤ i ∧ i ≤ s.length ∧ n5 = i ∧ H3.le G ∧ RdL G cs (s.take i.toNat)⟩) ?_ 0 (some ⟨b4, 0, none⟩) 0 s.length [] H3 ⟨by omega, by omega, by simp, Hp.le.refl _, rfl⟩) rfl
 intro i A5 n5 c5 cs G inv ih1
 obtain ⟨i0, i1, i2, i3, i4⟩ := inv
 refine WpG.g tabOK 5 rfl ?_
 refine WpG.caseD (t := 27) rfl (fun q27 => ?_) (fun q27 => ?_)
 ·refine WpG.g tabOK 6 rfl ?_
  refine WpG.indexR tabOK rfl rfl rfl rfl rfl rfl rfl rfl rfl hs (by omega) (by omega) ?_
  rintro x6 hx6 b6 o6 _ ⟨A6, c6, rfl, u6, r6⟩ hc6
  have hr6 := ((makeOK_rows hok).2.2 x6 (hx6 ▸ nth_mem i0 q27)).1
  refine WpG.y rfl rfl rfl rfl (RunY.loadH tabOK hc6 (hH3.trans i3) rfl rfl rfl rfl) ?_
  refine WpG.g tabOK 5 rfl ?_
  refine WpG.call0 rfl rfl rfl rfl rfl rfl (Clone_calls (r6.mono (hH3.trans i3)) (by omega)) ?_
  rintro _ H1 _ - ⟨eH, A7, c7, rfl, rfl⟩
  rw [eH]; clear eH H1
  refine WpG.ownCap (ci := 0) rfl (fun uz8 => ?_)
  refine WpG.freezeOwn (ci := 0) rfl (fun H8 hH8 fz8 => ?_)
  have rz8 : RdS H8 A7 x6 := RdS.of_own (H := G) (show RdL G (x6.map iv) x6 from RdL_ints _ (AllI_of (r6.mono (hH3.trans i3)))) (rfl) (by omega) hH8 fz8
  refine WpG.buildSlice (xs := [.slice A7 x6.length c7]) tabOK rfl rfl rfl rfl rfl rfl rfl rfl rfl rfl (fun b9 => ?_)
  refine WpG.append (ci := 1) tabOK rfl rfl rfl rfl rfl rfl rfl rfl rfl rfl rfl rfl (Src.own (ci := 0) rfl) (by omega) (fun A11 c12 => ?_)
  refine WpG.dropL (L' := [Chunk.own 22 1 A11 c12 (n5 + 1) (cs ++ [.slice A7 x6.length c7]), Chunk.box b1 [.slice none 0 0, .slice none 0 0] 46]) (.cons _ (.cons_cons _ (.cons_cons _ .slnil))) ?_
  refine WpG.gw tabOK 5 35 rfl (wrk (x := i + 1) (by omega) (by omega)) ?_
  refine WpG.g tabOK 3 rfl ?_
  refine WpG.wk (ih1 (i + 1) A11 (n5 + 1) c12 (cs ++ [.slice A7 x6.length c7]) H8 ?_ ?_) rfl
  ·dsimp only
   omega
  clear ih1
  exact ⟨by omega, by omega, by omega, i3.trans hH8, by rw [take_snoc_nth i0 q27, ← hx6]; exact (i4.mono hH8).snoc ⟨_, _, rfl, uz8, rz8⟩⟩
 obtain rfl : n5 = s.length := by omega
 refine WpG.g tabOK 6 rfl ?_
 refine WpG.ownCap (ci := 0) rfl (fun uz13 => ?_)
 refine WpG.freezeOwn (ci := 0) rfl (fun H13 hH13 fz13 => ?_)
 have rz13 : RdS H13 A5 s := RdS.of_own (H := G) (show RdL G cs s from by have h := i4; rw [List.take_of_length_le (by omega)] at h; exact h) ((by omega)) (by omega) hH13 fz13
 refine WpG.call0 rfl rfl rfl rfl rfl rfl (preds_calls rz13 (makeOK_rows hok).2.1 (makeOK_rows hok).2.2) ?_
 rintro _ H14 _ hH14 ⟨A14, c14, rfl, u14, r14, rfl⟩
 refine WpG.g tabOK 1 rfl ?_
 refine WpG.storeBox (ci := 0) (cs' := [.slice A5 s.length c5, .slice A14 ((predsD s).length) c14]) tabOK rfl rfl rfl rfl rfl rfl rfl rfl rfl ?_
 refine WpG.g tabOK 2 rfl ?_
 exact WpG.ret tabOK (L' := []) (.cell (ci := 0) rfl rfl rfl rfl (.tmp rfl .nil)) (.cons _ .slnil) (by have z := Make_yes hok uz13 (rz13.mono hH14) u14 r14; exact z)
theorem EqualFunc_calls {H : Hp} {A A' : Option Addr} {c c' : Nat} {l m : List (List Int)} (hl : RdS H A l) (hm : RdS H A' m) : CallG Tryz.prog 91 [.slice A l.length c, .slice A' m.length c', .func (.func 92) #[] #[]] H [] (fun v _ L' => v = .bool (eqLL l m) ∧ L' = []) := by
 have bl := hl.1; have bm := hm.1
 refine CallG.of Tryz.func91 rfl rfl rfl fun w0 => ?_
 refine WpG.g tabOK 13 rfl ?_
 refine WpG.caseN (t := 14) rfl (fun q14 => ?_) (fun q14 => ?_)
 ·refine WpG.g tabOK 5 rfl ?_
  exact WpG.ret tabOK (L' := []) (.tmp rfl .nil) .slnil ⟨congrArg Value.bool (by exact (eqLL_len (by omega)).symm), rfl⟩
 refine WpG.g tabOK 11 rfl ?_
 refine WpG.wk (WpG.ind1 (fun (i : Int) => ⟨(l.length - i).toNat, [(1, .slice A' m.length c'), (2, .func (.func 92) #[] #[]), (15, .slice A l.length c), (16, .int .i64 (l.length : Int)), (17, .int .i64 i)], H, [], 0 ≤ i ∧ i ≤ l.length ∧ eqLL l m = eqLL (l.drop i.toNat) (m.drop i.toNat)⟩) ?_ 0 ⟨by omega, by omega, rfl⟩) rfl
 intro i inv ih1
 obtain ⟨i0, i1, i2⟩ := inv
 refine WpG.g tabOK 5 rfl ?_
 refine WpG.caseD (t := 18) rfl (fun q18 => ?_) (fun q18 => ?_)
 ·refine WpG.g tabOK 7 rfl ?_
  refine WpG.indexR tabOK rfl rfl rfl rfl rfl rfl rfl rfl rfl hl (by omega) (by omega) ?_
  rintro x1 hx1 b1 o1 _ ⟨A1, c1, rfl, u1, r1⟩ hc1
  refine WpG.y rfl rfl rfl rfl (RunY.loadH tabOK hc1 hlr rfl rfl rfl rfl) ?_
  refine WpG.g tabOK 7 rfl ?_
  refine WpG.indexR tabOK rfl rfl rfl rfl rfl rfl rfl rfl rfl hm (by omega) (by omega) ?_
  rintro x2 hx2 b2 o2 _ ⟨A2, c2, rfl, u2, r2⟩ hc2
  refine WpG.y rfl rfl rfl rfl (RunY.loadH tabOK hc2 hlr rfl rfl rfl rfl) ?_
  refine WpG.g tabOK 7 rfl ?_
  refine WpG.callS rfl rfl rfl rfl rfl rfl hlr (Equal_calls r1 r2) ?_
  refine WpG.g tabOK 2 rfl ?_
  refine WpG.caseBn (t := 30) rfl (fun q30 => ?_) (fun q30 => ?_)
  ·refine WpG.g tabOK 5 rfl ?_
   exact WpG.ret tabOK (L' := []) (.tmp rfl .nil) .slnil ⟨congrArg Value.bool (by clear ih1; rw [i2, drop_nth i0 q18, drop_nth i0 (by omega), ← hx1, ← hx2]; simp only [eqLL, q30, Bool.false_and]), rfl⟩
  refine WpG.gw tabOK 5 31 rfl (wrk (x := i + 1) (by omega) (by omega)) ?_
  refine WpG.g tabOK 3 rfl ?_
  refine WpG.wk (ih1 (i + 1) ?_ ?_) rfl
  ·dsimp only
   omega
  clear ih1
  refine ⟨by omega, by omega, ?_⟩
  rw [i2, drop_nth i0 q18, drop_nth i0 (by omega), ← hx1, ← hx2, toNat_succ i0]; simp only [eqLL, q30, Bool.true_and]
 refine WpG.g tabOK 6 rfl ?_
 exact WpG.ret tabOK (L' := []) (.tmp rfl .nil) .slnil ⟨congrArg Value.bool (by clear ih1; rw [i2, drop_end i0 q18, drop_end i0 (by omega)]; rfl), rfl⟩
theorem gMay_calls {H : Hp} {gr : GraphD} {cs_gr : List Value} (rd_gr : Rdc.rd H cs_gr gr) : CallG Tryz.prog 54 [.agg cs_gr.toArray] H [] (fun v _ L' => v = .bool (mayG gr) ∧ L' = []) := by
 have rd_gr' := rd_gr; obtain ⟨A_gr_0, c_gr_0, A_gr_1, c_gr_1, rfl, u_gr_0, r_gr_0, u_gr_1, r_gr_1⟩ := rd_gr
 refine CallG.of Tryz.func54 rfl rfl rfl fun w0 => ?_
 refine WpG.g tabOK 2 rfl ?_
 refine WpG.box rfl rfl rfl rfl rfl (fun b1 => ?_)
 refine WpG.g tabOK 5 rfl ?_
 refine WpG.y rfl rfl rfl rfl (RunY.loadBox (ci := 0) tabOK rfl rfl rfl rfl) ?_
 refine WpG.call0 rfl rfl rfl rfl rfl rfl (Make_calls r_gr_0) ?_
 rintro _ H2 _ hH2 ⟨A2, c2, B2, d2, rfl, ua2, ra2, ub2, rb2, rfl⟩
 refine WpG.g tabOK 3 rfl ?_
 refine WpG.alloc tabOK rfl rfl rfl rfl rfl (fun b3 => ?_)
 refine WpG.storeBox (ci := 0) (cs' := [.slice A2 ((makeD gr.succ).1.succ.length) c2, .slice B2 ((makeD gr.succ).1.pred.length) d2]) tabOK rfl rfl rfl rfl rfl rfl rfl rfl rfl ?_
 refine WpG.g tabOK 7 rfl ?_
 refine WpG.caseE (t := 13) rfl (fun q13 => ?_) (fun q13 => ?_)
 ·refine WpG.g tabOK 1 rfl ?_
  refine WpG.y rfl rfl rfl rfl (RunY.loadBox (ci := 0) tabOK rfl rfl rfl rfl) ?_
  refine WpG.g tabOK 1 rfl ?_
  refine WpG.y rfl rfl rfl rfl (RunY.loadBox (ci := 1) tabOK rfl rfl rfl rfl) ?_
  refine WpG.callS rfl rfl rfl rfl rfl rfl hlr (EqualFunc_calls rb2 (r_gr_1.mono hH2)) ?_
  refine WpG.g tabOK 3 rfl ?_
  exact WpG.ret tabOK (L' := []) (.tmp rfl .nil) (.cons _ (.cons _ .slnil)) ⟨congrArg Value.bool (by simp [mayG, *]), rfl⟩
 refine WpG.g tabOK 8 rfl ?_
 exact WpG.ret tabOK (L' := []) (.tmp rfl .nil) (.cons _ (.cons _ .slnil)) ⟨congrArg Value.bool (by simp [mayG, *]), rfl⟩
end Go.Proofs.YtakameggkkjcpaaGreat
namespace Go.Proofs.YtakameggkkjcpaaGreat
open Go Go.RowKit
section
variable {P : Program} {ops : Array Oper} {Q : Exit → Act → World → Prop} {md : Region.Mode} {S S' : World → Prop}
def wpAnyP (P : Program) (md : Region.Mode) (ops : Array Oper) (Q : Exit → Act → World → Prop) (S : World → Prop) (stop : Nat) : Nat → Array Bool → Act → World → Prop
  | 0, listed, a, w => Region.ready md ops listed = [] ∧ Q .normal a w
  | fuel + 1, listed, a, w =>
    (Region.ready md ops listed = [] → Q .normal a w) ∧
    ∀ i ∈ Region.ready md ops listed, wpOp P ops Q i (fun a' w' => ((listed.setIfInBounds i true).getD stop true = false → S w') ∧ wpAnyP P md ops Q S stop fuel (listed.setIfInBounds i true) a' w') a w
theorem wpAny_of_phase {stop : Nat} : ∀ (fuel : Nat) (listed : Array Bool) (a : Act) (w : World), wpAnyP P md ops Q S stop fuel listed a w → wpAny P md ops Q fuel listed a w
  | 0, _, _, _, h => h
  | fuel + 1, _, _, _, h => ⟨h.1, fun i hi => wpOp_mono (fun a' w' h' => wpAny_of_phase fuel _ a' w' h'.2) (h.2 i hi)⟩
theorem getD_stop {listed : Array Bool} {i stop : Nat} (h : listed.getD stop true = true) : (listed.setIfInBounds i true).getD stop true = true := by
  by_cases hij : i = stop
  · subst hij
    by_cases hlt : i < listed.size
    · simp [hlt]
    · simp [hlt]
  · rw [getD_set_ne true hij]; exact h
theorem getD_self {listed : Array Bool} {i : Nat} : (listed.setIfInBounds i true).getD i true = true := by
  by_cases hlt : i < listed.size
  · simp [hlt]
  · simp [hlt]
theorem wpAnyP_of_held {stop : Nat} : ∀ (fuel : Nat) (listed : Array Bool) (a : Act) (w : World), listed.getD stop true = true → wpAnyH P md ops Q S' fuel listed a w → wpAnyP P md ops Q S stop fuel listed a w
  | 0, _, _, _, _, h => h
  | fuel + 1, listed, _, _, hst, h => ⟨h.1, fun i hi => wpOp_mono (fun a' w' h' => ⟨fun h0 => (by rw [getD_stop hst] at h0; cases h0), wpAnyP_of_held fuel _ a' w' (getD_stop hst) h'.2⟩) (h.2 i hi)⟩
def waits (ops : Array Oper) (md : Region.Mode) (stop i : Nat) : Bool := !Nat.beq stop i && ((ops[stop]?.map fun o => o.after.any fun e => Region.binds md e && Nat.beq e.on i).getD false)
theorem waits_spec {stop i : Nat} (h : waits ops md stop i = true) : stop ≠ i ∧ ∃ o, ops[stop]? = some o ∧ ∃ e ∈ o.after, Region.binds md e = true ∧ e.on = i := by
  simp only [waits, Bool.and_eq_true, Bool.not_eq_true'] at h
  refine ⟨fun e => ?_, ?_⟩
  · subst e; have := h.1; simp at this
  · cases ho : ops[stop]? with
    | none => rw [ho] at h; simp at h
    | some o =>
      rw [ho] at h
      simp only [Option.map_some, Option.getD_some, Array.any_eq_true'] at h
      obtain ⟨e, he, hb⟩ := h.2
      simp only [Bool.and_eq_true] at hb
      exact ⟨o, rfl, e, he, hb.1, Nat.eq_of_beq_eq_true hb.2⟩
theorem wpAnyP_first {stop i : Nat} {oi : Oper} {v : Value} (hi : ops[i]? = some oi) (hsel : ∀ (j : Nat) (o : Oper) cs b, ops[j]? = some o → o.op ≠ .select cs b)
    (hQ : ∀ c a w, Q (.panic c) (a.put oi.dst v) w → Q (.panic c) a w) (hst : stop ≠ i) (hwt : ∃ o, ops[stop]? = some o ∧ ∃ e ∈ o.after, Region.binds md e = true ∧ e.on = i) :
    ∀ (fuel : Nat) (listed : Array Bool) (a : Act) (w : World),
      (∀ j oj, ops[j]? = some oj → j ≠ i → listed.getD j true = false → (∀ e ∈ oj.after, Region.binds md e = true → e.on ≠ i) → oi.apart ops oj = true) →
      i ∈ Region.ready md ops listed → YieldsIf P ops S oi v a → S w → listed.getD stop true = false →
      wpAnyP P md ops Q S stop fuel (listed.setIfInBounds i true) (a.put oi.dst v) w → wpAnyP P md ops Q S stop (fuel + 1) listed a w := by
  intro fuel
  induction fuel with
  | zero =>
    intro listed a w _ hr hy hS _ H
    refine ⟨fun h => (by rw [h] at hr; cases hr), fun j hj => ?_⟩
    by_cases hji : j = i
    · subst hji; exact hy.wpOp hi hS ⟨fun _ => hS, H⟩
    · have := ready_mono hj hji
      rw [H.1] at this
      cases this
  | succ fuel ih =>
    intro listed a w hfree hr hy hS hls H
    refine ⟨fun h => (by rw [h] at hr; cases hr), fun j hj => ?_⟩
    by_cases hji : j = i
    · subst hji; exact hy.wpOp hi hS ⟨fun _ => hS, H⟩
    · have h1 := H.2 j (ready_mono hj hji)
      obtain ⟨hjun, oj, hoj, hall⟩ := mem_ready.1 hj
      have hnot : ∀ e ∈ oj.after, Region.binds md e = true → e.on ≠ i := fun e he hb heq => by
        have h1 := hall e he hb
        have h0 := (mem_ready.1 hr).1
        rw [heq] at h1
        rcases Nat.lt_or_ge i listed.size with h' | h'
        · simp [h'] at h0 h1; rw [h0] at h1; cases h1
        · simp [Array.getElem?_eq_none h'] at h1
      have hjs : j ≠ stop := fun e => by
        subst e
        obtain ⟨o, ho, e, he, hb, heq⟩ := hwt
        rw [hoj] at ho; cases ho
        exact hnot e he hb heq
      have h2 := wpOp_putIf hoj (hfree j oj hoj hji hjun hnot) (fun cs b => hsel i oi cs b hi) (fun cs b => hsel j oj cs b hoj) hQ hy h1
      have hfree' : ∀ k ok, ops[k]? = some ok → k ≠ i → (listed.setIfInBounds j true).getD k true = false →
          (∀ e ∈ ok.after, Region.binds md e = true → e.on ≠ i) → oi.apart ops ok = true := fun k ok hk hki hun hno => by
        refine hfree k ok hk hki ?_ hno
        by_cases hjk : j = k
        · subst hjk; exact hjun
        · rw [getD_set_ne true hjk] at hun; exact hun
      have hls' : (listed.setIfInBounds j true).getD stop true = false := by rw [getD_set_ne true hjs]; exact hls
      have hls2 : ((listed.setIfInBounds i true).setIfInBounds j true).getD stop true = false := by rw [getD_set_ne true hjs, getD_set_ne true (Ne.symm hst)]; exact hls
      refine wpOp_mono (fun a' w' h3 => ⟨fun _ => h3.2.1 hls2, ih (listed.setIfInBounds j true) a' w' hfree' (ready_mono hr (Ne.symm hji)) h3.1 (h3.2.1 hls2) hls' ?_⟩) h2
      rw [Array.setIfInBounds_comm _ _ hji]
      exact h3.2.2
theorem wpAnyP_pure {stop i : Nat} {oi : Oper} {v : Value} (hi : ops[i]? = some oi) (hsel : ∀ (j : Nat) (o : Oper) cs b, ops[j]? = some o → o.op ≠ .select cs b)
    (hQ : ∀ c a w, Q (.panic c) (a.put oi.dst v) w → Q (.panic c) a w) (hst : stop ≠ i) :
    ∀ (fuel : Nat) (listed : Array Bool) (a : Act) (w : World),
      (∀ j oj, ops[j]? = some oj → j ≠ i → listed.getD j true = false → (∀ e ∈ oj.after, Region.binds md e = true → e.on ≠ i) → oi.apart ops oj = true) →
      i ∈ Region.ready md ops listed → YieldsIf P ops (fun _ => True) oi v a → (listed.getD stop true = false → S w) →
      wpAnyP P md ops Q S stop fuel (listed.setIfInBounds i true) (a.put oi.dst v) w → wpAnyP P md ops Q S stop (fuel + 1) listed a w := by
  intro fuel
  induction fuel with
  | zero =>
    intro listed a w _ hr hy hS H
    refine ⟨fun h => (by rw [h] at hr; cases hr), fun j hj => ?_⟩
    by_cases hji : j = i
    · subst hji; exact hy.wpOp hi trivial ⟨fun h0 => hS (by rw [getD_set_ne true (Ne.symm hst)] at h0; exact h0), H⟩
    · have := ready_mono hj hji
      rw [H.1] at this
      cases this
  | succ fuel ih =>
    intro listed a w hfree hr hy hS H
    refine ⟨fun h => (by rw [h] at hr; cases hr), fun j hj => ?_⟩
    by_cases hji : j = i
    · subst hji; exact hy.wpOp hi trivial ⟨fun h0 => hS (by rw [getD_set_ne true (Ne.symm hst)] at h0; exact h0), H⟩
    · have h1 := H.2 j (ready_mono hj hji)
      obtain ⟨hjun, oj, hoj, hall⟩ := mem_ready.1 hj
      have hnot : ∀ e ∈ oj.after, Region.binds md e = true → e.on ≠ i := fun e he hb heq => by
        have h1 := hall e he hb
        have h0 := (mem_ready.1 hr).1
        rw [heq] at h1
        rcases Nat.lt_or_ge i listed.size with h' | h'
        · simp [h'] at h0 h1; rw [h0] at h1; cases h1
        · simp [Array.getElem?_eq_none h'] at h1
      have h2 := wpOp_putIf hoj (hfree j oj hoj hji hjun hnot) (fun cs b => hsel i oi cs b hi) (fun cs b => hsel j oj cs b hoj) hQ hy h1
      have hfree' : ∀ k ok, ops[k]? = some ok → k ≠ i → (listed.setIfInBounds j true).getD k true = false →
          (∀ e ∈ ok.after, Region.binds md e = true → e.on ≠ i) → oi.apart ops ok = true := fun k ok hk hki hun hno => by
        refine hfree k ok hk hki ?_ hno
        by_cases hjk : j = k
        · subst hjk; exact hjun
        · rw [getD_set_ne true hjk] at hun; exact hun
      have hK : ∀ w', (((listed.setIfInBounds i true).setIfInBounds j true).getD stop true = false → S w') → (listed.setIfInBounds j true).getD stop true = false → S w' := fun w' h h0 => h (by rw [← Array.setIfInBounds_comm _ _ hji, getD_set_ne true (Ne.symm hst)]; exact h0)
      refine wpOp_mono (fun a' w' h3 => ⟨hK w' h3.2.1, ih (listed.setIfInBounds j true) a' w' hfree' (ready_mono hr (Ne.symm hji)) h3.1 (hK w' h3.2.1) ?_⟩) h2
      rw [Array.setIfInBounds_comm _ _ hji]
      exact h3.2.2
theorem wp_region_phase {id stop : Nat} {a : Act} {w : World} (hm : P.follows .mixedOrders = true)
    (h : wpAnyP P .any ops Q S stop ops.size (Array.replicate ops.size false) a { w with drawn := w.drawn + 1 }) : (Code.region id ops true).wp P Q a w :=
  wp_region_any hm (wpAny_of_phase _ _ _ _ h)
end
section
variable {P : Program} {T : List TRow} {fn : Func} {w0 : World} {H0 : Hp} {X : List Nat} {k : List Item} {F : Fk} {H : Hp} {L : List Chunk} {R : Ending → World → Prop} {Hs : Hp} {Ls Ls' : List Chunk} {ops : Array Oper} {fuel stop : Nat} {listed listed' : Array Bool}
variable {ty : TypeId} {pos : String} {af : Array Edge} {g : Option (Nat × Bool)} {dst : Option Nat}
def WpE (P : Program) (fn : Func) (w0 : World) (H0 : Hp) (X : List Nat) (k : List Item) (R : Ending → World → Prop) (Hs : Hp) (Ls : List Chunk) (ops : Array Oper) (stop fuel : Nat) (listed : Array Bool) (F : Fk) (H : Hp) (L : List Chunk) : Prop :=
  ∀ a w, Agrees fn.ntmps F a → SH w0 H0 X w H L → wpAnyP P .any ops (QD P fn k R) (fun w => SH w0 H0 X w Hs Ls) stop fuel listed a w
theorem WpG.drawE {id : Nat} (n stop : Nat) (Ls : List Chunk) (hm : P.follows .mixedOrders = true) (hn : (ops.size == n && Array.replicate n false == lst n 0) = true) (h : WpE P fn w0 H0 X k R H Ls ops stop n (lst n 0) F H L) : WpG P fn w0 H0 X (.code (.region id ops true) :: k) F H L R := fun a w ha hs =>
  WpS.of_wp (Code.wp_mono (fun e a w hq => by cases e <;> exact hq) (wp_region_phase (Q := QD P fn k R) (stop := stop) hm (by
    simp only [Bool.and_eq_true] at hn
    have h1 : ops.size = n := by simpa using hn.1
    have h2 := beq_iff_eq.1 hn.2
    rw [h1, h2]
    exact h a _ ha hs.drawn)))
def echk (ops : Array Oper) (listed : Array Bool) (stop i : Nat) : Bool := dchk ops listed i && (waits ops .any stop i && !listed.getD stop true)
def pchk (ops : Array Oper) (listed : Array Bool) (stop i : Nat) : Bool := dchk ops listed i && !Nat.beq stop i
def echks (ops : Array Oper) (stop : Nat) (listed : Array Bool) : List Nat → Bool
  | [] => true
  | i :: is => pchk ops listed stop i && echks ops stop (listed.setIfInBounds i true) is
theorem WpE.pure_ {i d : Nat} {o : Oper} {v : Value} (hchk : pchk ops listed stop i = true) (ho : ops[i]? = some o) (hw : wantk ops F o.guard = some true) (hd : o.dst = some d) (hn : Nat.blt d fn.ntmps = true)
    (h0 : H0.le Hs) (hH : Hs.le H) (hL : Ls.Sublist L) (hy : ∀ (a : Act) (w : World), Agrees fn.ntmps F a → (execOp a.eval o).run P w = .ok (.value v) w)
    (h : WpE P fn w0 H0 X k R Hs Ls ops stop fuel (listed.setIfInBounds i true) ((d, v) :: F) H L) : WpE P fn w0 H0 X k R Hs Ls ops stop (fuel + 1) listed F H L := fun a w ha hs => by
  simp only [pchk, dchk, Bool.and_eq_true, Bool.not_eq_true'] at hchk
  have h1 : stop ≠ i := fun e => by subst e; have := hchk.2; simp at this
  exact wpAnyP_pure ho (Region.noSelect_spec hchk.1.1) (fun _ _ _ h => h) h1 fuel listed a w (Region.free_spec ho hchk.1.2.1) (by simpa using hchk.1.2.2) (.inl ⟨wantk_spec ha hw, fun w _ => hy a w ha⟩) (fun _ => hs.less h0 hH hL)
    (by rw [hd]; exact h _ w (ha.put (by simpa [Nat.blt_eq] using hn) v) hs)
theorem WpE.take {i d : Nat} {o : Oper} {v : Value} (hchk : echk ops listed stop i = true) (ho : ops[i]? = some o) (hw : wantk ops F o.guard = some true) (hd : o.dst = some d) (hn : Nat.blt d fn.ntmps = true)
    (h0 : H0.le Hs) (hH : Hs.le H) (hL : Ls.Sublist L) (hy : ∀ (a : Act) (w : World), Agrees fn.ntmps F a → SH w0 H0 X w Hs Ls → (execOp a.eval o).run P w = .ok (.value v) w)
    (h : WpE P fn w0 H0 X k R Hs Ls ops stop fuel (listed.setIfInBounds i true) ((d, v) :: F) H L) : WpE P fn w0 H0 X k R Hs Ls ops stop (fuel + 1) listed F H L := fun a w ha hs => by
  simp only [echk, dchk, Bool.and_eq_true, Bool.not_eq_true'] at hchk
  obtain ⟨h1, h2⟩ := waits_spec hchk.2.1
  exact wpAnyP_first ho (Region.noSelect_spec hchk.1.1) (fun _ _ _ h => h) h1 h2 fuel listed a w (Region.free_spec ho hchk.1.2.1) (by simpa using hchk.1.2.2) (.inl ⟨wantk_spec ha hw, fun w hw' => hy a w ha hw'⟩) (hs.less h0 hH hL) hchk.2.2
    (by rw [hd]; exact h _ w (ha.put (by simpa [Nat.blt_eq] using hn) v) hs)
theorem WpE.skip {i d : Nat} {o : Oper} (hchk : pchk ops listed stop i = true) (ho : ops[i]? = some o) (hw : wantk ops F o.guard = some false) (hd : o.dst = some d) (hn : Nat.blt d fn.ntmps = true)
    (h0 : H0.le Hs) (hH : Hs.le H) (hL : Ls.Sublist L)
    (h : WpE P fn w0 H0 X k R Hs Ls ops stop fuel (listed.setIfInBounds i true) ((d, undef) :: F) H L) : WpE P fn w0 H0 X k R Hs Ls ops stop (fuel + 1) listed F H L := fun a w ha hs => by
  simp only [pchk, dchk, Bool.and_eq_true, Bool.not_eq_true'] at hchk
  have h1 : stop ≠ i := fun e => by subst e; have := hchk.2; simp at this
  exact wpAnyP_pure ho (Region.noSelect_spec hchk.1.1) (fun _ _ _ h => h) h1 fuel listed a w (Region.free_spec ho hchk.1.2.1) (by simpa using hchk.1.2.2) (.inr ⟨wantk_spec ha hw, rfl⟩) (fun _ => hs.less h0 hH hL)
    (by rw [hd]; exact h _ w (ha.put (by simpa [Nat.blt_eq] using hn) undef) hs)
def RunP (P : Program) (fn : Func) (F : Fk) (o : Oper) (v : Value) : Prop := ∀ (a : Act) (w : World), Agrees fn.ntmps F a → (execOp a.eval o).run P w = .ok (.value v) w
theorem RunP.indexAddr (hT : TabOK P T) {t : Nat} {x y : Operand} {b off n c e : Nat} {kd : IntKind} {j : Int} {r q : TRow} (hx : evk F x = some (.slice (some ⟨b, off, none⟩) n c)) (hy : evk F y = some (.int kd j))
    (hr : trow T t = some r) (hk : r.kind = .slice e) (hq : trow T e = some q) (h0 : 0 ≤ j) (h1 : j < n) : RunP P fn F ⟨dst, .indexAddr t x y, ty, pos, af, g⟩ (.pointer (some ⟨b, off + j.toNat * q.size, none⟩)) := fun a w ha => by
  have hd := (hT.row hr).slice hk
  have hadd : (⟨b, off, none⟩ : Addr).add (j.toNat * q.size) = ⟨b, off + j.toNat * q.size, none⟩ := by
    unfold Addr.add
    split <;> simp_all
  simp only [execOp, ha.eval hx, ha.eval hy, Instr.indexAt, asIntOf, Sem.run_bind, Sem.run_pure, run_underlying hd, Result.andThen_ok, (hT.row hq).run_size, h0, h1, and_self, if_true, hadd]
theorem WpE.p {i d : Nat} {o : Oper} {v : Value} (hchk : (pchk ops listed stop i && (listed.setIfInBounds i true == listed')) = true) (ho : ops[i]? = some o) (hw : wantk ops F o.guard = some true) (hd : o.dst = some d) (hn : Nat.blt d fn.ntmps = true)
    (h0 : H0.le Hs) (hH : Hs.le H) (hL : Ls.Sublist L) (hr : RunP P fn F o v)
    (h : WpE P fn w0 H0 X k R Hs Ls ops stop fuel listed' ((d, v) :: F) H L) : WpE P fn w0 H0 X k R Hs Ls ops stop (fuel + 1) listed F H L := by
  simp only [Bool.and_eq_true] at hchk
  exact WpE.pure_ hchk.1 ho hw hd hn h0 hH hL hr ((beq_iff_eq.1 hchk.2) ▸ h)
theorem WpE.y {i d : Nat} {o : Oper} {v : Value} (hchk : (echk ops listed stop i && (listed.setIfInBounds i true == listed')) = true) (ho : ops[i]? = some o) (hw : wantk ops F o.guard = some true) (hd : o.dst = some d) (hn : Nat.blt d fn.ntmps = true)
    (h0 : H0.le Hs) (hH : Hs.le H) (hL : Ls.Sublist L) (hr : RunY P fn w0 H0 X F Hs Ls o v)
    (h : WpE P fn w0 H0 X k R Hs Ls ops stop fuel listed' ((d, v) :: F) H L) : WpE P fn w0 H0 X k R Hs Ls ops stop (fuel + 1) listed F H L := by
  simp only [Bool.and_eq_true] at hchk
  exact WpE.take hchk.1 ho hw hd hn h0 hH hL hr ((beq_iff_eq.1 hchk.2) ▸ h)
theorem WpE.gos (hT : TabOK P T) (h0 : H0.le Hs) (hH : Hs.le H) (hL : Ls.Sublist L) : ∀ (is : List Nat) {listed : Array Bool} {F F' : Fk}, echks ops stop listed is = true → dvals T fn.ntmps ops is F = some F' →
    WpE P fn w0 H0 X k R Hs Ls ops stop fuel (dlist listed is) F' H L → WpE P fn w0 H0 X k R Hs Ls ops stop (fuel + is.length) listed F H L
  | [], _, _, _, _, hv, h => by simp only [dvals, Option.some.injEq] at hv; subst hv; exact h
  | i :: is, listed, F, F', hc, hv, h => by
    simp only [echks, Bool.and_eq_true] at hc
    simp only [dvals] at hv
    split at hv
    · rename_i o ho
      split at hv
      · rename_i hw
        split at hv
        · rename_i d hd
          cases hb : Nat.blt d fn.ntmps with
          | false => rw [hb] at hv; cases hv
          | true =>
            rw [hb] at hv
            simp only [cond_true] at hv
            split at hv
            · rename_i v hpv
              exact WpE.pure_ hc.1 ho hw hd hb h0 hH hL (fun a w ha => pop_spec hT ha hpv w) (WpE.gos hT h0 hH hL is hc.2 hv h)
            · cases hv
        · cases hv
      · rename_i hw
        split at hv
        · rename_i d hd
          cases hb : Nat.blt d fn.ntmps with
          | false => rw [hb] at hv; cases hv
          | true =>
            rw [hb] at hv
            simp only [cond_true] at hv
            exact WpE.skip hc.1 ho hw hd hb h0 hH hL (WpE.gos hT h0 hH hL is hc.2 hv h)
        · cases hv
      · cases hv
    · cases hv
theorem WpE.go (hT : TabOK P T) (is : List Nat) (G : Fk) {F' : Fk} (hc : (echks ops stop listed is && (dlist listed is == listed')) = true) (hv : dvals T fn.ntmps ops is F = some F') (hG : Known F' G) (h0 : H0.le Hs) (hH : Hs.le H) (hL : Ls.Sublist L)
    (h : WpE P fn w0 H0 X k R Hs Ls ops stop fuel listed' G H L) : WpE P fn w0 H0 X k R Hs Ls ops stop (fuel + is.length) listed F H L := by
  simp only [Bool.and_eq_true] at hc
  exact WpE.gos hT h0 hH hL is hc.1 hv (fun a w ha hs => ((beq_iff_eq.1 hc.2) ▸ h) a w (ha.weaken hG.all) hs)
theorem WpE.gg (hT : TabOK P T) (is : List Nat) {F' : Fk} (hc : (echks ops stop listed is && (dlist listed is == listed')) = true) (hv : dvals T fn.ntmps ops is F = some F') (h0 : H0.le Hs) (hH : Hs.le H) (hL : Ls.Sublist L)
    (h : WpE P fn w0 H0 X k R Hs Ls ops stop fuel listed' F' H L) : WpE P fn w0 H0 X k R Hs Ls ops stop (fuel + is.length) listed F H L := by
  simp only [Bool.and_eq_true] at hc
  exact WpE.gos hT h0 hH hL is hc.1 hv ((beq_iff_eq.1 hc.2) ▸ h)
theorem WpE.gw (hT : TabOK P T) (is : List Nat) (t : Nat) {v : Value} {F' : Fk} (hc : (echks ops stop listed is && (dlist listed is == listed')) = true) (hv : dvals T fn.ntmps ops is F = some F') (hw : look F' t = some v) (h0 : H0.le Hs) (hH : Hs.le H) (hL : Ls.Sublist L)
    (h : WpE P fn w0 H0 X k R Hs Ls ops stop fuel listed' ((t, v) :: F') H L) : WpE P fn w0 H0 X k R Hs Ls ops stop (fuel + is.length) listed F H L := by
  simp only [Bool.and_eq_true] at hc
  exact WpE.gos hT h0 hH hL is hc.1 hv (fun a w ha hs => ((beq_iff_eq.1 hc.2) ▸ h) a w (ha.also hw) hs)
theorem WpE.halt {Post : Fk → Hp → List Chunk → Prop} (Ls' : List Chunk) (hchk : ((Region.ready .any ops listed == [stop]) && (listed.setIfInBounds stop true == listed')) = true) (hs : OpG P fn w0 H0 X ops stop F H L Post)
    (h : ∀ F' H' L', Post F' H' L' → WpD P fn w0 H0 X k R Hs Ls' ops fuel listed' F' H' L') : WpE P fn w0 H0 X k R Hs Ls ops stop (fuel + 1) listed F H L := fun a w ha hsh => by
  simp only [Bool.and_eq_true] at hchk
  obtain ⟨o, ho, hw, h1⟩ := hs
  have hr : Region.ready .any ops listed = [stop] := by simpa using hchk.1
  refine ⟨fun h0 => (by rw [h0] at hr; cases hr), fun j hj => ?_⟩
  rw [hr, List.mem_singleton] at hj
  subst hj
  refine OpS.wpOp ho (wantk_spec ha hw) ?_
  have hK : ∀ a' w', (∃ F' H' L', Post F' H' L' ∧ Agrees fn.ntmps F' a' ∧ SH w0 H0 X w' H' L') → ((listed.setIfInBounds j true).getD j true = false → SH w0 H0 X w' Hs Ls) ∧ wpAnyP P .any ops (QD P fn k R) (fun w => SH w0 H0 X w Hs Ls) j fuel (listed.setIfInBounds j true) a' w' := by
    rintro a' w' ⟨F', H', L', hp, ha', hs'⟩
    refine ⟨fun h0 => (by rw [getD_self] at h0; cases h0), wpAnyP_of_held (S' := fun w => SH w0 H0 X w Hs Ls') fuel _ a' w' getD_self ?_⟩
    rw [beq_iff_eq.1 hchk.2]
    exact h F' H' L' hp a' w' ha' hs'
  cases h1 a w ha hsh with
  | value hr h => exact .value hr (hK _ _ h)
  | skip hr h => exact .skip hr (hK _ _ h)
  | call hr Q hc h => exact .call hr Q hc fun v w'' hq => hK _ _ (h v w'' hq)
theorem WpD.join {σ : Type} {fuel' : Nat} {F' : Fk} {H' : Hp} {L' : List Chunk} (listed' : Array Bool) (Fs : σ → Fk) (Ls1 : σ → List Chunk) (h : (∀ s, WpD P fn w0 H0 X k R Hs Ls ops fuel' listed' (Fs s) H (Ls1 s)) → WpD P fn w0 H0 X k R Hs Ls ops fuel listed F' H' L')
    (K : ∀ s, WpD P fn w0 H0 X k R Hs Ls ops fuel' listed' (Fs s) H (Ls1 s)) : WpD P fn w0 H0 X k R Hs Ls ops fuel listed F' H' L' := h K
theorem RdS.drop {α : Type} [Rdc α] {H : Hp} {b o : Nat} {xs : List α} (h : RdS H (some ⟨b, o, none⟩) xs) (n : Nat) : RdS H (some ⟨b, o + n * Rdc.sz α, none⟩) (xs.drop n) := by
  refine ⟨by have := h.1; simp; omega, ?_⟩
  rcases h.2 with rfl | ⟨b', o', e, hk⟩
  · exact .inl (by simp)
  · simp only [Option.some.injEq, Addr.mk.injEq, and_true] at e
    obtain ⟨rfl, rfl⟩ := e
    refine .inr ⟨b, _, rfl, fun i x hx => ?_⟩
    rw [List.getElem?_drop] at hx
    obtain ⟨cs, h1, h2⟩ := hk (n + i) x hx
    exact ⟨cs, h1, by rwa [Nat.add_mul, ← Nat.add_assoc] at h2⟩
theorem WpG.sliceR {α : Type} [Inhabited α] [Rdc α] (hT : TabOK P T) {i : Nat} {rest : List Nat} {d t e c : Nat} {x y : Operand} {A : Option Addr} {kd : IntKind} {j : Int} {r q : TRow} {xs : List α} {H1 : Hp}
    (ho : ops[i]? = some ⟨some d, .slice t x (some y) none none, ty, pos, af, g⟩) (hw : wantk ops F g = some true) (hn : Nat.blt d fn.ntmps = true) (hx : evk F x = some (.slice A xs.length c)) (hy : evk F y = some (.int kd j))
    (hr : trow T t = some r) (hk : r.kind = .slice e) (hq : trow T e = some q) (hsz : Rdc.sz α = q.size) (hR : RdS H1 A xs) (h0 : 0 ≤ j) (h1 : j ≤ xs.length) (hc : xs.length ≤ c)
    (h : ∀ A', RdS H1 A' (xs.drop j.toNat) → WpG P fn w0 H0 X (.inRegion ops rest :: k) ((d, .slice A' (xs.drop j.toNat).length (c - j.toNat)) :: F) H L R) : WpG P fn w0 H0 X (.inRegion ops (i :: rest) :: k) F H L R := by
  have hd := (hT.row hr).slice hk
  have hle : j.toNat ≤ c := by omega
  rcases hR.2 with rfl | ⟨b, o, rfl, _⟩
  · have hj : j = 0 := by simp at h1; omega
    subst hj
    refine WpG.y ho hw rfl hn (v := .slice (if c = 0 then A else A.map (·.add (0 * q.size))) 0 (c - 0)) (fun a w ha hs => ?_) (h _ (by simpa using RdS.nil H1 _))
    simp [execOp, ha.eval hx, ha.eval hy, Instr.sliceAt, Instr.slice, Instr.sliceBounds, Instr.sliceBound, asIntOf, run_underlying hd, (hT.row hq).run_size]
  · have hadd : (⟨b, o, none⟩ : Addr).add (j.toNat * q.size) = ⟨b, o + j.toNat * q.size, none⟩ := by
      unfold Addr.add
      split <;> simp_all
    have hrun : ∀ A', (if c = j.toNat then some ⟨b, o, none⟩ else some ⟨b, o + j.toNat * q.size, none⟩) = A' → RunY P fn w0 H0 X F H L ⟨some d, .slice t x (some y) none none, ty, pos, af, g⟩ (.slice A' (xs.drop j.toNat).length (c - j.toNat)) := fun A' e a w ha hs => by
      subst e
      simp [execOp, ha.eval hx, ha.eval hy, Instr.sliceAt, Instr.slice, Instr.sliceBounds, Instr.sliceBound, asIntOf, run_underlying hd, (hT.row hq).run_size, h0, h1, hadd]
    by_cases e : c = j.toNat
    · refine WpG.y ho hw rfl hn (hrun (some ⟨b, o, none⟩) (if_pos e)) (h _ ?_)
      rw [List.drop_eq_nil_of_le (by omega)]
      exact RdS.nil H1 _
    · exact WpG.y ho hw rfl hn (hrun (some ⟨b, o + j.toNat * q.size, none⟩) (if_neg e)) (h _ (hsz ▸ hR.drop _))
theorem partOf_at {r : TRow} {cs : List Value} {off : Nat} {v : Value} (h1 : r.size = 1) (h2 : r.kind.agg = false) (hv : cs[off]? = some v) : partOf r cs off = some v := by
  have hlt := (List.getElem?_eq_some_iff.1 hv).1
  unfold partOf
  rw [h1, h2, show Nat.ble (off + 1) cs.length = true from Nat.ble_eq_true_of_le (by omega)]
  rw [List.drop_eq_getElem_cons hlt]
  simp only [List.take_succ_cons, List.take_zero, cond_true]
  rw [List.getElem?_eq_getElem hlt] at hv
  simpa [mkv] using hv
theorem arr_at {α : Type} [Inhabited α] {f : α → Value} {xs : List α} {j : Int} (h0 : 0 ≤ j) (h1 : j < xs.length) : (xs.map f)[0 + j.toNat * 1]? = some (f (nth xs j)) := by
  rw [Nat.zero_add, Nat.mul_one, List.getElem?_map, nth_get h0 h1]; rfl
theorem arr_set {α : Type} {f : α → Value} {xs : List α} {j : Int} (x : α) : (xs.map f).set (0 + j.toNat * 1) (f x) = (xs.set j.toNat x).map f := by
  rw [Nat.zero_add, Nat.mul_one, List.map_set]
theorem own_int {l : List Int} {j : Int} (h0 : 0 ≤ j) (h1 : j < l.length) : ∀ (q : Nat) u, [iv (nth l j)][q]? = some u → (l.map iv)[0 + j.toNat * 1 + q]? = some u := fun q u hu => by
  cases q with
  | zero => simp only [List.getElem?_cons_zero, Option.some.injEq] at hu; subst hu; exact arr_at h0 h1
  | succ q => simp at hu
theorem own_lt {α : Type} {f : α → Value} {xs : List α} {j : Int} (h0 : 0 ≤ j) (h1 : j < xs.length) : 0 + j.toNat * 1 < (xs.map f).length := by
  rw [List.length_map]; omega
theorem WpG.truncOwn {ci E sz n m c : Nat} {A : Option Addr} {xs : List Value} (hL : L[ci]? = some (Chunk.own E sz A c n xs)) (hm : m ≤ n) (h : WpG P fn w0 H0 X k F H (L.set ci (Chunk.own E sz A c m (xs.take (m * sz)))) R) : WpG P fn w0 H0 X k F H L R := fun a w ha hs => by
  have hown : w.ownsRow 0 E sz (.slice A n c) n xs := hs.chunk hL
  have hnew : (Chunk.own E sz A c m (xs.take (m * sz))).holds w := by
    have hle : m * sz ≤ n * sz := Nat.mul_le_mul_right _ hm
    refine ⟨by rw [List.length_take, hown.1]; omega, ?_⟩
    rcases hown.2 with ⟨e0, hn0⟩ | ⟨g', cap, cur, e0, hb, hg, hnc, hcm, hcs, htake⟩
    · simp only [Value.slice.injEq] at e0
      have : m = 0 := by omega
      subst this
      exact .inl ⟨by rw [e0.1, e0.2.2], rfl⟩
    · simp only [Value.slice.injEq, true_and] at e0
      obtain ⟨rfl, rfl⟩ := e0
      exact .inr ⟨g', c, cur, rfl, hb, hg, by omega, hcm, hcs, by rw [← htake, List.take_take, Nat.min_eq_left hle]⟩
  have hbk : (Chunk.own E sz A c m (xs.take (m * sz))).blk = (Chunk.own E sz A c n xs).blk := by
    cases A <;> rfl
  exact h a w ha (hs.write hL hbk (Chg.refl _ _) hnew)
def Frz (L : List Chunk) (H : Hp) (H1 : Hp) : Prop := H.le H1 ∧ ∃ w, Sub H1 w ∧ (∀ c ∈ L, c.holds w) ∧ ∀ b ∈ blks L, H1 b = w.heap[b]?
theorem Frz.own {H1 : Hp} {ci E sz n c : Nat} {A : Option Addr} {xs : List Value} (h : Frz L H H1) (hL : L[ci]? = some (Chunk.own E sz A c n xs)) : (A = none ∧ n = 0) ∨ ∃ b, A = some ⟨b, 0, none⟩ ∧ HCells H1 b 0 xs := by
  obtain ⟨_, w, _, hh, hb⟩ := h
  have hown : w.ownsRow 0 E sz (.slice A n c) n xs := hh _ (List.mem_of_getElem? hL)
  rcases hown.2 with ⟨e0, hn0⟩ | ⟨g', cap, cur, e0, _, hg, hnc, hcm, hcs, htake⟩
  · simp only [Value.slice.injEq] at e0
    exact .inl ⟨e0.1, hn0⟩
  · simp only [Value.slice.injEq, true_and] at e0
    obtain ⟨rfl, rfl⟩ := e0
    refine .inr ⟨g', rfl, fun j u hu => ?_⟩
    have h1 : H1 g' = some (.cells cur E (0, 0)) := by rw [hb g' (mem_blks (List.mem_of_getElem? hL) rfl)]; exact hg
    simp only [hcell, h1, Nat.zero_add]
    rw [← htake, List.getElem?_take] at hu
    split at hu
    · simpa using hu
    · cases hu
theorem Frz.box {H1 : Hp} {ci b U : Nat} {cs : List Value} (h : Frz L H H1) (hL : L[ci]? = some (Chunk.box b cs U)) : HCells H1 b 0 cs := by
  obtain ⟨_, w, _, hh, hb⟩ := h
  have hg : w.heap[b]? = some (.cells cs.toArray U (0, 0)) := hh _ (List.mem_of_getElem? hL)
  intro j u hu
  have h1 : H1 b = some (.cells cs.toArray U (0, 0)) := by rw [hb b (mem_blks (List.mem_of_getElem? hL) rfl)]; exact hg
  simp only [hcell, h1, Nat.zero_add]
  simpa using hu
theorem OpG.callF {i : Nat} {d : Nat} {gi : FuncId} {f : Operand} {xs : Array Operand} {ts : Array TypeId} {first cap : Array Value} {vs args : List Value} {v : Value}
    (ho : ops[i]? = some ⟨some d, .call ⟨.value f, xs, ts⟩, ty, pos, af, g⟩) (hw : wantk ops F g = some true) (hn : Nat.blt d fn.ntmps = true) (hf : evk F f = some (.func (.func gi) first cap)) (hx : evs F xs.toList = some vs)
    (hargs : first.toList ++ (vs ++ cap.toList) = args) (hcal : Callee P gi) (hc : ∀ H1, Frz L H H1 → CallG P gi args H1 [] fun u _ L' => u = v ∧ L' = []) :
    OpG P fn w0 H0 X ops i F H L fun F' H' L' => F' = (d, v) :: F ∧ H' = H ∧ L' = L := ⟨_, ho, hw, fun a w ha hs => by
  let H1 : Hp := fun b => if b ∈ blks L then w.heap[b]? else H b
  have hle : H.le H1 := fun b o hb => by
    show (if b ∈ blks L then w.heap[b]? else H b) = some o
    split
    · rename_i hm; have := (hs.own b hm).2; rw [hb] at this; cases this
    · exact hb
  have hsub : Sub H1 w := fun b o hb => by
    have hb' : (if b ∈ blks L then w.heap[b]? else H b) = some o := hb
    split at hb'
    · exact hb'
    · exact hs.sub b o hb'
  have hfrz : Frz L H H1 := ⟨hle, w, hsub, hs.holds, fun b hb => if_pos hb⟩
  have hp : Pre w H1 [] := ⟨hsub, by simp, by simp [blks], by simp [blks]⟩
  refine .call (hargs ▸ run_callValue hcal (ha.eval hf) (ha.evs hx) w) (fun u w' => u = v ∧ Chg [] w w') (((hc H1 hfrz).2 w hp).mono ?_) ?_
  · rintro e w' ⟨u, H', L', rfl, h1, rfl, rfl⟩
    exact ⟨_, rfl, rfl, h1.chg⟩
  · rintro _ w' ⟨rfl, h1⟩
    refine ⟨_, _, _, ⟨rfl, rfl, rfl⟩, ha.put (by simpa [Nat.blt_eq] using hn) _, ?_⟩
    refine SH.frame (Lc := []) (Lc' := []) (H := H) hs ⟨h1, fun b o hb => ?_, Hp.le.refl _, fun b h => .inl h, by simp, by simp [blks], by simp [blks]⟩
    have := hs.sub b o hb
    rw [h1.block b (lt_of_get this) (by simp)]
    exact this⟩
theorem WpG.callF {i : Nat} {rest : List Nat} {d : Nat} {gi : FuncId} {f : Operand} {xs : Array Operand} {ts : Array TypeId} {first cap : Array Value} {vs args : List Value} {v : Value}
    (ho : ops[i]? = some ⟨some d, .call ⟨.value f, xs, ts⟩, ty, pos, af, g⟩) (hw : wantk ops F g = some true) (hn : Nat.blt d fn.ntmps = true) (hf : evk F f = some (.func (.func gi) first cap)) (hx : evs F xs.toList = some vs)
    (hargs : first.toList ++ (vs ++ cap.toList) = args) (hcal : Callee P gi) (hc : ∀ H1, Frz L H H1 → CallG P gi args H1 [] fun u _ L' => u = v ∧ L' = [])
    (h : WpG P fn w0 H0 X (.inRegion ops rest :: k) ((d, v) :: F) H L R) : WpG P fn w0 H0 X (.inRegion ops (i :: rest) :: k) F H L R :=
  WpG.step (OpG.callF ho hw hn hf hx hargs hcal hc) (by rintro _ _ _ ⟨rfl, rfl, rfl⟩; exact h)
end
end Go.Proofs.YtakameggkkjcpaaGreat
namespace Go.Proofs.YtakameggkkjcpaaGreat
open Go Go.RowKit
structure OrderP (succ : List (List Int)) (root : Int) (ord : List Int) : Prop where
  nodup : ord.Nodup
  head : ∃ tl, ord = root :: tl
  range : ∀ x ∈ ord, 0 ≤ x ∧ x < succ.length
  closed : ∀ x ∈ ord, ∀ y ∈ nth succ x, y ∈ ord
  parent : ∀ l1 y l2, ord = l1 ++ y :: l2 → y = root ∨ ∃ p ∈ l1, y ∈ nth succ p
structure OInv (succ : List (List Int)) (root : Int) (stk out : List Int) (seen : List Bool) (next : List Int) : Prop where
  lseen : seen.length = 64
  lnext : next.length = 64
  range : ∀ x ∈ stk ++ out, 0 ≤ x ∧ x < succ.length
  nodup : (stk ++ out).Nodup
  seen_ : ∀ x : Int, 0 ≤ x → x < succ.length → (nth seen x = true ↔ x ∈ stk ++ out)
  head : (∃ tl, stk = root :: tl) ∨ (stk = [] ∧ ∃ l, out = l ++ [root])
  chain : ∀ l1 a b l2, stk = l1 ++ a :: b :: l2 → b ∈ nth succ a
  closed : ∀ x ∈ out, ∀ y ∈ nth succ x, y ∈ stk ++ out
  next_ : ∀ x : Int, 0 ≤ x → x < succ.length → 0 ≤ nth next x ∧ nth next x ≤ (nth succ x).length
  done : ∀ x ∈ stk, ∀ j : Int, 0 ≤ j → j < nth next x → nth (nth succ x) j ∈ stk ++ out
  zero : ∀ x : Int, 0 ≤ x → x < succ.length → x ∉ stk ++ out → nth next x = 0
  parent : ∀ l1 y l2, out = l1 ++ y :: l2 → y = root ∨ ∃ p, (p ∈ stk ∨ p ∈ l2) ∧ y ∈ nth succ p
def Rows (succ : List (List Int)) : Prop := succ.length ≤ 64 ∧ ∀ r ∈ succ, r.length ≤ 64 ∧ ∀ t ∈ r, 0 ≤ t ∧ t < succ.length
theorem Rows.at_ {succ : List (List Int)} (h : Rows succ) {x : Int} (h0 : 0 ≤ x) (h1 : x < succ.length) {j : Int} (k0 : 0 ≤ j) (k1 : j < (nth succ x).length) : 0 ≤ nth (nth succ x) j ∧ nth (nth succ x) j < succ.length :=
  (h.2 _ (nth_mem h0 h1)).2 _ (nth_mem k0 k1)
theorem nth_setB {l : List Bool} {a k : Int} {x : Bool} (h0 : 0 ≤ a) (h1 : a < l.length) (h2 : 0 ≤ k) : nth (l.set a.toNat x) k = if k = a then x else nth l k := by
  unfold nth
  rw [List.getD_eq_getElem?_getD, List.getD_eq_getElem?_getD, List.getElem?_set]
  by_cases e : k = a
  · subst e
    rw [if_pos rfl, if_pos (by omega), if_pos rfl]; rfl
  · rw [if_neg (by omega), if_neg e]
theorem nth_replicate {n : Nat} {x : Int} {k : Int} (h0 : 0 ≤ k) (h1 : k < n) : nth (List.replicate n x) k = x := by
  unfold nth; rw [List.getD_eq_getElem?_getD, List.getElem?_replicate, if_pos (by omega)]; rfl
theorem nth_replicateB {n : Nat} {x : Bool} {k : Int} (h0 : 0 ≤ k) (h1 : k < n) : nth (List.replicate n x) k = x := by
  unfold nth; rw [List.getD_eq_getElem?_getD, List.getElem?_replicate, if_pos (by omega)]; rfl
theorem OInv.start {succ : List (List Int)} {root : Int} (hr : Rows succ) (h0 : 0 ≤ root) (h1 : root < succ.length) : OInv succ root [root] [] ((List.replicate 64 false).set root.toNat true) (List.replicate 64 0) where
  lseen := by simp
  lnext := by simp
  range := by intro x hx; simp at hx; subst hx; exact ⟨h0, h1⟩
  nodup := by simp
  seen_ := by
    intro x x0 x1
    have := hr.1
    rw [nth_setB h0 (by simp; omega) x0, nth_replicateB x0 (by omega)]
    simp
  head := .inl ⟨[], rfl⟩
  chain := by intro l1 a b l2 h; have := congrArg List.length h; simp at this; omega
  closed := by simp
  next_ := by intro x x0 x1; have := hr.1; rw [nth_replicate x0 (by omega)]; omega
  done := by intro x hx j j0 j1; simp at hx; subst hx; have := hr.1; rw [nth_replicate h0 (by omega)] at j1; omega
  zero := by intro x x0 x1 _; have := hr.1; exact nth_replicate x0 (by omega)
  parent := by intro l1 y l2 h; have := congrArg List.length h; simp at this
theorem mem_snoc_top {pre : List Int} {x : Int} : x ∈ pre ++ [x] := by simp
theorem OInv.top {succ : List (List Int)} {root x : Int} {pre out : List Int} {seen : List Bool} {next : List Int} (h : OInv succ root (pre ++ [x]) out seen next) : 0 ≤ x ∧ x < succ.length :=
  h.range x (List.mem_append_left _ mem_snoc_top)
theorem OInv.skip {succ : List (List Int)} {root x : Int} {pre out : List Int} {seen : List Bool} {next : List Int} (hr : Rows succ) (h : OInv succ root (pre ++ [x]) out seen next) (hn : nth next x < (nth succ x).length) (hs : nth seen (nth (nth succ x) (nth next x)) = true) :
    OInv succ root (pre ++ [x]) out seen (next.set x.toNat (nth next x + 1)) := by
  have hx := h.top
  have hnx := h.next_ x hx.1 hx.2
  have hlen := hr.1
  have hy := hr.at_ hx.1 hx.2 hnx.1 hn
  refine { h with lnext := by simp [h.lnext], next_ := fun z z0 z1 => ?_, done := fun z hz j j0 j1 => ?_, zero := fun z z0 z1 hz => ?_ }
  · rw [nth_set hx.1 (by rw [h.lnext]; omega) z0]
    split
    · rename_i e; subst e; omega
    · exact h.next_ z z0 z1
  · have hzr := h.range z (List.mem_append_left _ hz)
    rw [nth_set hx.1 (by rw [h.lnext]; omega) hzr.1] at j1
    split at j1
    · rename_i e; subst e
      by_cases ej : j = nth next z
      · subst ej; exact (h.seen_ _ hy.1 hy.2).1 hs
      · exact h.done z hz j j0 (by omega)
    · exact h.done z hz j j0 j1
  · rw [nth_set hx.1 (by rw [h.lnext]; omega) z0]
    rw [if_neg (fun e => hz (by rw [e]; exact List.mem_append_left _ mem_snoc_top))]
    exact h.zero z z0 z1 hz
theorem OInv.push {succ : List (List Int)} {root x y : Int} {pre out : List Int} {seen : List Bool} {next : List Int} (hr : Rows succ) (h : OInv succ root (pre ++ [x]) out seen next) (hn : nth next x < (nth succ x).length) (hy' : y = nth (nth succ x) (nth next x)) (hs : nth seen y = false) :
    OInv succ root (pre ++ [x] ++ [y]) out (seen.set y.toNat true) (next.set x.toNat (nth next x + 1)) := by
  have hx := h.top
  have hnx := h.next_ x hx.1 hx.2
  have hlen := hr.1
  have hy := hr.at_ hx.1 hx.2 hnx.1 hn
  rw [← hy'] at hy
  have hyn : y ∉ pre ++ [x] ++ out := fun hm => by
    have := (h.seen_ y hy.1 hy.2).2 hm
    rw [hs] at this; cases this
  have hmem : ∀ z, z ∈ pre ++ [x] ++ [y] ++ out ↔ z = y ∨ z ∈ pre ++ [x] ++ out := fun z => by
    simp only [List.mem_append, List.mem_singleton]
    constructor
    · rintro (((h1 | h1) | h1) | h1)
      · exact .inr (.inl (.inl h1))
      · exact .inr (.inl (.inr h1))
      · exact .inl h1
      · exact .inr (.inr h1)
    · rintro (h1 | (h1 | h1) | h1)
      · exact .inl (.inr h1)
      · exact .inl (.inl (.inl h1))
      · exact .inl (.inl (.inr h1))
      · exact .inr h1
  refine { lseen := by simp [h.lseen], lnext := by simp [h.lnext], range := fun z hz => ?_, nodup := ?_, seen_ := fun z z0 z1 => ?_, head := ?_, chain := fun l1 a b l2 e => ?_, closed := fun z hz w hw => ?_, next_ := fun z z0 z1 => ?_, done := fun z hz j j0 j1 => ?_, zero := fun z z0 z1 hz => ?_, parent := fun l1 z l2 e => ?_ }
  · rcases (hmem z).1 hz with rfl | hz
    · exact hy
    · exact h.range z hz
  · have hp : (y :: (pre ++ [x] ++ out)).Nodup := List.nodup_cons.2 ⟨hyn, h.nodup⟩
    refine (List.Perm.nodup_iff ?_).1 hp
    have : (pre ++ [x] ++ [y] ++ out).Perm ([y] ++ (pre ++ [x]) ++ out) := List.Perm.append_right _ List.perm_append_comm
    exact (by simpa using this.symm)
  · rw [nth_setB hy.1 (by rw [h.lseen]; omega) z0, hmem]
    by_cases e : z = y
    · rw [if_pos e]; simp [e]
    · rw [if_neg e, h.seen_ z z0 z1]; simp [e]
  · rcases h.head with ⟨tl, e⟩ | ⟨e, _⟩
    · exact .inl ⟨tl ++ [y], by rw [e]; rfl⟩
    · simp at e
  · rcases List.eq_nil_or_concat l2 with rfl | ⟨l3, c, rfl⟩
    · have e' : pre ++ [x] ++ [y] = l1 ++ [a] ++ [b] := by rw [e]; simp
      have e1 := List.append_inj' e' rfl
      have e2 := List.append_inj' e1.1 rfl
      simp only [List.cons.injEq, and_true] at e1 e2
      rw [← e1.2, ← e2.2, hy']
      exact nth_mem hnx.1 hn
    · have e' : pre ++ [x] ++ [y] = (l1 ++ a :: b :: l3) ++ [c] := by rw [e]; simp
      have e1 := List.append_inj' e' rfl
      exact h.chain l1 a b l3 e1.1
  · exact (hmem w).2 (.inr (h.closed z hz w hw))
  · rw [nth_set hx.1 (by rw [h.lnext]; omega) z0]
    split
    · rename_i e; subst e; omega
    · exact h.next_ z z0 z1
  · rcases List.mem_append.1 hz with hz | hz
    · have hzr := h.range z (List.mem_append_left _ hz)
      rw [nth_set hx.1 (by rw [h.lnext]; omega) hzr.1] at j1
      split at j1
      · rename_i e; subst e
        by_cases ej : j = nth next z
        · subst ej; rw [← hy']; exact (hmem y).2 (.inl rfl)
        · exact (hmem _).2 (.inr (h.done z hz j j0 (by omega)))
      · exact (hmem _).2 (.inr (h.done z hz j j0 j1))
    · rw [List.mem_singleton.1 hz] at j1 ⊢
      rw [nth_set hx.1 (by rw [h.lnext]; omega) hy.1, if_neg (fun e => hyn (by rw [e]; exact List.mem_append_left _ mem_snoc_top)), h.zero y hy.1 hy.2 hyn] at j1
      omega
  · have hz' : z ∉ pre ++ [x] ++ out := fun hm => hz ((hmem z).2 (.inr hm))
    rw [nth_set hx.1 (by rw [h.lnext]; omega) z0, if_neg (fun e => hz' (by rw [e]; exact List.mem_append_left _ mem_snoc_top))]
    exact h.zero z z0 z1 hz'
  · rcases h.parent l1 z l2 e with h1 | ⟨p, h1 | h1, h2⟩
    · exact .inl h1
    · exact .inr ⟨p, .inl (List.mem_append_left _ h1), h2⟩
    · exact .inr ⟨p, .inr h1, h2⟩
theorem OInv.pop {succ : List (List Int)} {root x : Int} {pre out : List Int} {seen : List Bool} {next : List Int} (h : OInv succ root (pre ++ [x]) out seen next) (hn : ¬ nth next x < (nth succ x).length) :
    OInv succ root pre (out ++ [x]) seen next := by
  have hx := h.top
  have hnx := h.next_ x hx.1 hx.2
  have hmem : ∀ z, z ∈ pre ++ (out ++ [x]) ↔ z ∈ pre ++ [x] ++ out := fun z => by
    simp only [List.mem_append, List.mem_singleton]
    constructor
    · rintro (h1 | h1 | h1)
      · exact .inl (.inl h1)
      · exact .inr h1
      · exact .inl (.inr h1)
    · rintro ((h1 | h1) | h1)
      · exact .inl h1
      · exact .inr (.inr h1)
      · exact .inr (.inl h1)
  refine { lseen := h.lseen, lnext := h.lnext, range := fun z hz => h.range z ((hmem z).1 hz), nodup := ?_, seen_ := fun z z0 z1 => (by rw [hmem]; exact h.seen_ z z0 z1), head := ?_, chain := fun l1 a b l2 e => (h.chain l1 a b (l2 ++ [x]) (by rw [e]; simp)), closed := fun z hz w hw => ?_, next_ := h.next_, done := fun z hz j j0 j1 => (hmem _).2 (h.done z (List.mem_append_left _ hz) j j0 j1), zero := fun z z0 z1 hz => h.zero z z0 z1 (fun hm => hz ((hmem z).2 hm)), parent := fun l1 z l2 e => ?_ }
  · refine (List.Perm.nodup_iff ?_).1 h.nodup
    rw [List.append_assoc]
    exact List.Perm.append_left _ List.perm_append_comm
  · rcases h.head with ⟨tl, e⟩ | ⟨e, _⟩
    · cases pre with
      | nil =>
        simp only [List.nil_append, List.cons.injEq] at e
        exact .inr ⟨rfl, out, by rw [e.1]⟩
      | cons a pre =>
        simp only [List.cons_append, List.cons.injEq] at e
        exact .inl ⟨pre, by rw [e.1]⟩
    · simp at e
  · refine (hmem w).2 ?_
    rcases List.mem_append.1 hz with hz | hz
    · exact h.closed z hz w hw
    · rw [List.mem_singleton.1 hz] at hw
      obtain ⟨j, hj, rfl⟩ := List.mem_iff_getElem.1 hw
      have := h.done x mem_snoc_top (j : Int) (by omega) (by omega)
      have e2 := nth_get (xs := nth succ x) (i := (j : Int)) (by omega) (by omega)
      rw [Int.toNat_natCast, List.getElem?_eq_getElem hj] at e2
      simp only [Option.some.injEq] at e2
      rw [e2]; exact this
  · rcases List.eq_nil_or_concat l2 with rfl | ⟨l3, c, rfl⟩
    · have e' : out ++ [x] = l1 ++ [z] := e
      have e1 := List.append_inj' e' rfl
      simp only [List.cons.injEq, and_true] at e1
      rcases List.eq_nil_or_concat pre with rfl | ⟨pr, a, rfl⟩
      · rcases h.head with ⟨tl, e⟩ | ⟨e, _⟩
        · simp only [List.nil_append, List.cons.injEq] at e
          exact .inl (by rw [← e1.2, e.1])
        · simp at e
      · refine .inr ⟨a, .inl (by simp), ?_⟩
        rw [← e1.2]
        exact h.chain pr a x [] (by simp)
    · have e' : out ++ [x] = (l1 ++ z :: l3) ++ [c] := by rw [e]; simp
      have e1 := List.append_inj' e' rfl
      simp only [List.cons.injEq, and_true] at e1
      rcases h.parent l1 z l3 e1.1 with h1 | ⟨p, h1 | h1, h2⟩
      · exact .inl h1
      · rcases List.mem_append.1 h1 with h1 | h1
        · exact .inr ⟨p, .inl h1, h2⟩
        · exact .inr ⟨p, .inr (by rw [List.mem_singleton.1 h1, e1.2]; simp), h2⟩
      · exact .inr ⟨p, .inr (by simp [h1]), h2⟩
theorem OInv.finish {succ : List (List Int)} {root : Int} {out : List Int} {seen : List Bool} {next : List Int} (h : OInv succ root [] out seen next) : OrderP succ root out.reverse where
  nodup := (List.Perm.nodup_iff (List.reverse_perm out)).2 (by simpa using h.nodup)
  head := by
    rcases h.head with ⟨tl, e⟩ | ⟨_, l, e⟩
    · cases e
    · exact ⟨l.reverse, by rw [e]; simp⟩
  range := fun x hx => h.range x (by simpa using hx)
  closed := fun x hx y hy => by have := h.closed x (by simpa using hx) y hy; simpa using this
  parent := fun l1 y l2 e => by
    have e' : out = l2.reverse ++ y :: l1.reverse := by
      have := congrArg List.reverse e
      simpa using this
    rcases h.parent _ _ _ e' with h1 | ⟨p, h1 | h1, h2⟩
    · exact .inl h1
    · cases h1
    · exact .inr ⟨p, by simpa using h1, h2⟩
theorem top_of {stk : List Int} (h : stk ≠ []) {n : Nat} (hn : n = stk.length) : ∃ pre x, stk = pre ++ [x] ∧ x = nth stk ((n : Int) - 1) := by
  subst hn
  refine ⟨stk.dropLast, stk.getLast h, (List.dropLast_concat_getLast h).symm, ?_⟩
  have hl : 1 ≤ stk.length := by cases stk with | nil => exact absurd rfl h | cons a l => simp
  have := nth_get (xs := stk) (i := ((stk.length : Int) - 1)) (by omega) (by omega)
  rw [show ((stk.length : Int) - 1).toNat = stk.length - 1 from by omega, List.getElem?_eq_getElem (by omega)] at this
  simp only [Option.some.injEq] at this
  rw [← this, List.getLast_eq_getElem]
theorem may_rows {gr : GraphD} (h : mayG gr = true) : 1 ≤ gr.succ.length ∧ Rows gr.succ := by
  simp only [mayG, Bool.and_eq_true, beq_iff_eq] at h
  have hok : makeOK gr.succ = true := by
    cases hk : makeOK gr.succ with
    | true => rfl
    | false => rw [make_no hk] at h; simp at h
  have := makeOK_rows hok
  exact ⟨this.1, this.2.1, this.2.2⟩
theorem take_pre {stk pre : List Int} {x : Int} (h : stk = pre ++ [x]) {n : Nat} (hn : n = stk.length) : stk.take ((n : Int) - 1).toNat = pre := by
  subst hn; subst h
  rw [show (((pre ++ [x]).length : Int) - 1).toNat = pre.length from by simp]
  exact List.take_left' rfl
def pot (succ : List (List Int)) (next : List Int) : Nat := ((List.range succ.length).map fun (i : Nat) => (nth succ (i : Int)).length - (nth next (i : Int)).toNat).sum
theorem sum_upd {f g : Nat → Nat} {x : Nat} : ∀ {n : Nat}, x < n → (∀ i, i ≠ x → f i = g i) → f x = g x + 1 → ((List.range n).map f).sum = ((List.range n).map g).sum + 1
  | 0, h, _, _ => by omega
  | n + 1, h, he, hx => by
    rw [List.range_succ, List.map_append, List.map_append, List.sum_append, List.sum_append]
    by_cases e : x = n
    · subst e
      have : (List.range x).map f = (List.range x).map g := List.map_congr_left fun i hi => he i (by have := List.mem_range.1 hi; omega)
      rw [this]; simp [hx]; omega
    · have := sum_upd (n := n) (by omega) he hx
      rw [this, List.map_singleton, List.map_singleton, he n (Ne.symm e)]; omega
theorem pot_step {succ : List (List Int)} {next : List Int} {x : Int} (h0 : 0 ≤ x) (h1 : x < succ.length) (hl : x < next.length) (hn0 : 0 ≤ nth next x) (hn : nth next x < (nth succ x).length) : pot succ next = pot succ (next.set x.toNat (nth next x + 1)) + 1 := by
  unfold pot
  refine sum_upd (x := x.toNat) (by omega) (fun i hi => ?_) ?_
  · rw [nth_set h0 hl (by omega), if_neg (by omega)]
  · rw [nth_set h0 hl (by omega), if_pos (by omega)]
    rw [show ((x.toNat : Nat) : Int) = x from by omega]
    omega
theorem nodup_lt : ∀ (n : Nat) (l : List Nat), l.Nodup → (∀ x ∈ l, x < n) → l.length ≤ n
  | 0, l, _, h => by
    cases l with
    | nil => simp
    | cons x l => have := h x (.head _); omega
  | n + 1, l, hn, h => by
    have h1 := nodup_lt n (l.erase n) (hn.erase n) (fun x hx => by
      have := (hn.mem_erase_iff).1 hx
      have := h x this.2
      omega)
    rw [List.length_erase] at h1
    split at h1 <;> omega
theorem OInv.len {succ : List (List Int)} {root : Int} {stk out : List Int} {seen : List Bool} {next : List Int} (h : OInv succ root stk out seen next) : stk.length + out.length ≤ succ.length := by
  have hnd : ((stk ++ out).map Int.toNat).Nodup := by
    refine List.pairwise_map.2 (List.Pairwise.imp_of_mem ?_ h.nodup)
    intro x y hx hy e e2
    have h1 := h.range x hx
    have h2 := h.range y hy
    exact e (by omega)
  have := nodup_lt succ.length _ hnd (fun x hx => by
    obtain ⟨y, hy, rfl⟩ := List.mem_map.1 hx
    have := h.range y hy
    omega)
  simpa using this
end Go.Proofs.YtakameggkkjcpaaGreat
set_option maxRecDepth 4000
namespace Go.Proofs.YtakameggkkjcpaaGreat
open Go Go.RowKit
theorem Reverse_calls {H : Hp} {b c : Nat} {l : List Int} (hn : l.length ≤ 1048576) : CallG Tryz.prog 105 [.slice (some ⟨b, 0, none⟩) l.length c] H [Chunk.own 3 1 (some ⟨b, 0, none⟩) c l.length (l.map iv)] (fun v H' L' => H' = H ∧ v = .tuple #[] ∧ L' = [Chunk.own 3 1 (some ⟨b, 0, none⟩) c l.length (l.reverse.map iv)]) := by
 refine CallG.of Tryz.func105 rfl rfl rfl fun w0 => ?_
 refine WpG.gw tabOK 5 6 rfl (wrk (x := (l.length : Int) - 1) (by omega) (by omega)) ?_
 refine WpG.g tabOK 5 rfl ?_
 refine WpG.wk (WpG.ind3 (fun (i : Int) (j : Int) (m : List Int) => ⟨(j - i + 2).toNat, [(0, .slice (some ⟨b, 0, none⟩) l.length c), (2, .int .i64 i), (3, .int .i64 j)], H, [Chunk.own 3 1 (some ⟨b, 0, none⟩) c l.length (m.map iv)], 0 ≤ i ∧ i + j = l.length - 1 ∧ i ≤ j + 2 ∧ RevAt l m i j⟩) ?_ 0 ((l.length : Int) - 1) l ⟨by omega, by omega, by omega, RevAt.start l⟩) rfl
 intro i j m inv ih1
 obtain ⟨i0, i1, i2, i3⟩ := inv
 have hm := i3.1
 refine WpG.g tabOK 7 rfl ?_
 refine WpG.caseD (t := 9) rfl (fun q9 => ?_) (fun q9 => ?_)
 ·refine WpG.g tabOK 4 rfl ?_
  refine WpG.drawE 16 13 [Chunk.own 3 1 (some ⟨b, 0, none⟩) c l.length (m.map iv)] mixed (by kernel_rfl) ?_
  refine WpE.gg (listed' := lst 16 831) tabOK [0, 1, 2, 3, 4, 5, 8, 9] (by kernel_rfl) rfl hlr hlr (.refl _) ?_
  refine WpE.p (i := 6) (fuel := 7) (listed' := lst 16 895) (by kernel_rfl) rfl rfl rfl rfl hlr hlr (.refl _) (RunP.indexAddr tabOK rfl rfl rfl rfl rfl (by omega) (by omega)) ?_
  refine WpE.y (i := 7) (fuel := 6) (listed' := lst 16 1023) (by kernel_rfl) rfl rfl rfl rfl hlr hlr (.refl _) (RunY.loadOwn (ci := 0) (cs := [iv (nth m j)]) tabOK rfl rfl rfl rfl rfl (own_int (by omega) (by omega))) ?_
  refine WpE.p (i := 10) (fuel := 5) (listed' := lst 16 2047) (by kernel_rfl) rfl rfl rfl rfl hlr hlr (.refl _) (RunP.indexAddr tabOK rfl rfl rfl rfl rfl (by omega) (by omega)) ?_
  refine WpE.y (i := 11) (fuel := 4) (listed' := lst 16 4095) (by kernel_rfl) rfl rfl rfl rfl hlr hlr (.refl _) (RunY.loadOwn (ci := 0) (cs := [iv (nth m i)]) tabOK rfl rfl rfl rfl rfl (own_int (by omega) (by omega))) ?_
  refine WpE.p (i := 12) (fuel := 3) (listed' := lst 16 8191) (by kernel_rfl) rfl rfl rfl rfl hlr hlr (.refl _) (RunP.indexAddr tabOK rfl rfl rfl rfl rfl (by omega) (by omega)) ?_
  refine WpE.halt [] (fuel := 2) (listed' := lst 16 16383) (by kernel_rfl) (OpG.storeOwn (ci := 0) tabOK rfl rfl rfl rfl rfl rfl rfl rfl (putAt_one (own_lt (by omega) (by omega)))) ?_
  rintro F1 H1 L1 ⟨eF, eH, eL⟩
  subst eF; subst eL; rw [eH]; clear eH H1
  refine WpD.setL (L' := [Chunk.own 3 1 (some ⟨b, 0, none⟩) c l.length ((m.set i.toNat (nth m j)).map iv)]) (by rw [← arr_set (f := iv) (xs := m) (j := i) (nth m j)]; rfl) ?_
  refine WpD.y (i := 14) (fuel := 1) (listed' := lst 16 32767) (by kernel_rfl) rfl rfl rfl rfl hlr hlr (.cons _ .slnil) (RunY.indexAddr tabOK rfl rfl rfl rfl rfl (by omega) (by omega)) ?_
  refine WpD.f (i := 15) (fuel := 0) (listed' := lst 16 65535) (by kernel_rfl) hlr (OpG.storeOwn (ci := 0) tabOK rfl rfl rfl rfl rfl rfl rfl rfl (putAt_one (own_lt (by omega) (by rw [List.length_set]; omega)))) ?_
  rintro F1 H1 L1 ⟨eF, eH, eL⟩
  subst eF; subst eL; rw [eH]; clear eH H1
  refine ⟨hlr, (.cons _ .slnil), ?_⟩
  refine WpD.setL (L' := [Chunk.own 3 1 (some ⟨b, 0, none⟩) c l.length (((m.set i.toNat (nth m j)).set j.toNat (nth m i)).map iv)]) (by rw [← arr_set (f := iv) (xs := m.set i.toNat (nth m j)) (j := j) (nth m i)]; rfl) ?_
  refine WpD.done (by kernel_rfl) ?_
  refine WpG.gw tabOK 4 11 rfl (wrk (x := i + 1) (by omega) (by omega)) ?_
  refine WpG.gw tabOK 2 13 rfl (wrk (x := j - 1) (by omega) (by omega)) ?_
  refine WpG.g tabOK 4 rfl ?_
  refine WpG.wk (ih1 (i + 1) (j - 1) ((m.set i.toNat (nth m j)).set j.toNat (nth m i)) ?_ ?_) rfl
  ·dsimp only
   omega
  clear ih1
  exact ⟨by omega, by omega, by omega, i3.step i0 q9 i1⟩
 refine WpG.g tabOK 2 rfl ?_
 exact WpG.done tabOK (L' := [Chunk.own 3 1 (some ⟨b, 0, none⟩) c l.length (m.map iv)]) .nil (.cons_cons _ .slnil) ⟨rfl, rfl, by rw [← i3.done q9 i1]⟩
theorem Reverse_n {H : Hp} {b c n : Nat} {l : List Int} (hn : n = l.length) (hl : l.length ≤ 1048576) : CallG Tryz.prog 105 [.slice (some ⟨b, 0, none⟩) n c] H [Chunk.own 3 1 (some ⟨b, 0, none⟩) c n (l.map iv)] (fun v H' L' => H' = H ∧ v = .tuple #[] ∧ L' = [Chunk.own 3 1 (some ⟨b, 0, none⟩) c n (l.reverse.map iv)]) := by
 subst hn
 exact Reverse_calls hl
theorem Order_calls {H : Hp} {gr : GraphD} {cs_gr : List Value} (rd_gr : Rdc.rd H cs_gr gr) (root : Int) (hm : mayG gr = true) (h0 : 0 ≤ root) (h1 : root < gr.succ.length) : CallG Tryz.prog 88 [.agg cs_gr.toArray, .int .i64 root] H [] (fun v H' L' => H' = H ∧ ∃ b c ord, v = .slice (some ⟨b, 0, none⟩) ord.length c ∧ OrderP gr.succ root ord ∧ L' = [Chunk.own 3 1 (some ⟨b, 0, none⟩) c ord.length (ord.map iv)]) := by
 have rd_gr' := rd_gr; obtain ⟨A_gr_0, c_gr_0, A_gr_1, c_gr_1, rfl, u_gr_0, r_gr_0, u_gr_1, r_gr_1⟩ := rd_gr
 have hR := (may_rows hm).2
 have hn64 := hR.1
 refine CallG.of Tryz.func88 rfl rfl rfl fun w0 => ?_
 refine WpG.g tabOK 2 rfl ?_
 refine WpG.box rfl rfl rfl rfl rfl (fun b1 => ?_)
 refine WpG.g tabOK 6 rfl ?_
 refine WpG.y rfl rfl rfl rfl (RunY.loadBox (ci := 0) tabOK rfl rfl rfl rfl) ?_
 refine WpG.callS rfl rfl rfl rfl rfl rfl hlr (gMay_calls rd_gr') ?_
 refine WpG.g tabOK 2 rfl ?_
 refine WpG.caseBn (t := 14) rfl (fun q14 => ?_) (fun q14 => ?_)
 ·rw [hm] at q14; cases q14
 refine WpG.g tabOK 4 rfl ?_
 refine WpG.caseD (t := 18) rfl (fun q18 => ?_) (fun q18 => ?_)
 ·exfalso; omega
 refine WpG.g tabOK 2 rfl ?_
 refine WpG.y rfl rfl rfl rfl (RunY.loadBox (ci := 0) tabOK rfl rfl rfl rfl) ?_
 refine WpG.g tabOK 4 rfl ?_
 refine WpG.caseD (t := 24) rfl (fun q24 => ?_) (fun q24 => ?_)
 ·exfalso; omega
 refine WpG.g tabOK 4 rfl ?_
 refine WpG.alloc tabOK rfl rfl rfl rfl rfl (fun b2 => ?_)
 refine WpG.setL (L' := [Chunk.box b2 ((List.replicate 64 false).map Value.bool) 93, Chunk.box b1 [.slice A_gr_0 gr.succ.length c_gr_0, .slice A_gr_1 gr.pred.length c_gr_1] 46]) rfl ?_
 refine WpG.g tabOK 3 rfl ?_
 refine WpG.alloc tabOK rfl rfl rfl rfl rfl (fun b3 => ?_)
 refine WpG.setL (L' := [Chunk.box b3 ((List.replicate 64 (0 : Int)).map iv) 131, Chunk.box b2 ((List.replicate 64 false).map Value.bool) 93, Chunk.box b1 [.slice A_gr_0 gr.succ.length c_gr_0, .slice A_gr_1 gr.pred.length c_gr_1] 46]) rfl ?_
 refine WpG.g tabOK 8 rfl ?_
 refine WpG.buildSlice (xs := [.int .i64 root]) tabOK rfl rfl rfl rfl rfl rfl rfl rfl rfl rfl (fun b4 => ?_)
 refine WpG.g tabOK 5 rfl ?_
 refine WpG.y rfl rfl rfl rfl (RunY.indexArr tabOK rfl rfl rfl rfl rfl (by omega) (by omega)) ?_
 refine WpG.storeBox (ci := 2) tabOK rfl rfl rfl rfl rfl rfl rfl rfl (putAt_one (own_lt (by omega) (by simp; omega))) ?_
 refine WpG.setL (L' := [Chunk.own 3 1 (some ⟨b4, 0, none⟩) 1 1 [.int .i64 root], Chunk.box b3 ((List.replicate 64 (0 : Int)).map iv) 131, Chunk.box b2 (((List.replicate 64 false).set root.toNat true).map Value.bool) 93, Chunk.box b1 [.slice A_gr_0 gr.succ.length c_gr_0, .slice A_gr_1 gr.pred.length c_gr_1] 46]) (by rw [← arr_set (f := Value.bool) (xs := List.replicate 64 false) (j := root) true]; rfl) ?_
 refine WpG.g tabOK 3 rfl ?_
 refine WpG.ownNil 3 1 ?_
 refine WpG.setL (L' := [Chunk.own 3 1 none 0 0 (([] : List Int).map iv), Chunk.own 3 1 (some ⟨b4, 0, none⟩) 1 1 ([root].map iv), Chunk.box b3 ((List.replicate 64 (0 : Int)).map iv) 131, Chunk.box b2 (((List.replicate 64 false).set root.toNat true).map Value.bool) 93, Chunk.box b1 [.slice A_gr_0 gr.succ.length c_gr_0, .slice A_gr_1 gr.pred.length c_gr_1] 46]) rfl ?_
 refine WpG.wk (WpG.ind10 (fun (stk : List Int) (out : List Int) (seen : List Bool) (next : List Int) (AS : Option Addr) (nS : Nat) (cS : Nat) (AO : Option Addr) (nO : Nat) (cO : Nat) => ⟨2 * pot gr.succ next + stk.length, [(2, .pointer (some ⟨b1, 0, none⟩)), (5, .pointer (some ⟨b2, 0, none⟩)), (6, .pointer (some ⟨b3, 0, none⟩)), (7, .slice AO nO cO), (8, .slice AS nS cS)], H, [Chunk.own 3 1 AO cO nO (out.map iv), Chunk.own 3 1 AS cS nS (stk.map iv), Chunk.box b3 (next.map iv) 131, Chunk.box b2 (seen.map Value.bool) 93, Chunk.box b1 [.slice A_gr_0 gr.succ.length c_gr_0, .slice A_gr_1 gr.pred.length c_gr_1] 46], OInv gr.succ root stk out seen next ∧ nS = stk.length ∧ nO = out.length ∧ stk ≠ []⟩) ?_ [root] [] ((List.replicate 64 false).set root.toNat true) (List.replicate 64 (0 : Int)) (some ⟨b4, 0, none⟩) 1 1 none 0 0 ⟨OInv.start hR h0 h1, rfl, rfl, by simp⟩) rfl
 intro stk out seen next AS nS cS AO nO cO inv ihG0
 obtain ⟨i0, i1, i2, i3⟩ := inv
 refine WpG.ownCap (ci := 1) rfl (fun hcap => ?_)
 obtain ⟨pre, x, hst, hx⟩ := top_of i3 i1
 have hpl : stk.length = pre.length + 1 := by rw [hst]; simp
 have hxr := (hst ▸ i0 : OInv gr.succ root (pre ++ [x]) out seen next).top
 have hsl := i0.lseen
 have hlen := i0.len
 refine WpG.gw tabOK 6 32 rfl (wrk (x := (nS : Int) - 1) (by omega) (by omega)) ?_
 refine WpG.ownForm (ci := 1) rfl (by omega) (fun b6 eb6 => ?_)
 subst eb6
 refine WpG.y rfl rfl rfl rfl (RunY.indexAddr tabOK rfl rfl rfl rfl rfl (by omega) (by omega)) ?_
 refine WpG.y rfl rfl rfl rfl (RunY.loadOwn (ci := 1) (cs := [iv x]) tabOK rfl rfl rfl rfl rfl (by rw [hx]; exact own_int (by omega) (by omega))) ?_
 refine WpG.g tabOK 5 rfl ?_
 refine WpG.wk (WpG.ind1 (fun (nx : List Int) => ⟨pot gr.succ nx, [(2, .pointer (some ⟨b1, 0, none⟩)), (5, .pointer (some ⟨b2, 0, none⟩)), (6, .pointer (some ⟨b3, 0, none⟩)), (7, .slice AO nO cO), (8, .slice (some ⟨b6, 0, none⟩) nS cS), (9, .int .i64 x)], H, [Chunk.own 3 1 AO cO nO (out.map iv), Chunk.own 3 1 (some ⟨b6, 0, none⟩) cS nS (stk.map iv), Chunk.box b3 (nx.map iv) 131, Chunk.box b2 (seen.map Value.bool) 93, Chunk.box b1 [.slice A_gr_0 gr.succ.length c_gr_0, .slice A_gr_1 gr.pred.length c_gr_1] 46], OInv gr.succ root stk out seen nx ∧ pot gr.succ nx ≤ pot gr.succ next⟩) ?_ next ⟨i0, Nat.le_refl _⟩) rfl
 intro nx inv ih1
 obtain ⟨j0, j1⟩ := inv
 have hnl := j0.lnext
 have hnx := j0.next_ x hxr.1 hxr.2
 have hrl := (hR.2 _ (nth_mem hxr.1 hxr.2)).1
 refine WpG.g tabOK 2 rfl ?_
 refine WpG.draw 10 [Chunk.own 3 1 AO cO nO (out.map iv), Chunk.own 3 1 (some ⟨b6, 0, none⟩) cS nS (stk.map iv), Chunk.box b3 (nx.map iv) 131, Chunk.box b2 (seen.map Value.bool) 93, Chunk.box b1 [.slice A_gr_0 gr.succ.length c_gr_0, .slice A_gr_1 gr.pred.length c_gr_1] 46] mixed (by kernel_rfl) ?_
 refine WpD.g (listed' := lst 10 41) tabOK [0, 3, 5] (by kernel_rfl) rfl hlr hlr (.refl _) ?_
 refine WpD.y (i := 1) (fuel := 6) (listed' := lst 10 43) (by kernel_rfl) rfl rfl rfl rfl hlr hlr (.refl _) (RunY.indexArr tabOK rfl rfl rfl rfl rfl (by omega) (by omega)) ?_
 refine WpD.y (i := 2) (fuel := 5) (listed' := lst 10 47) (by kernel_rfl) rfl rfl rfl rfl hlr hlr (.refl _) (RunY.loadBox (ci := 2) tabOK rfl rfl rfl (partOf_at rfl rfl (arr_at (f := iv) (by omega) (by omega)))) ?_
 refine WpD.y (i := 4) (fuel := 4) (listed' := lst 10 63) (by kernel_rfl) rfl rfl rfl rfl hlr hlr (.refl _) (RunY.loadBox (ci := 4) tabOK rfl rfl rfl rfl) ?_
 refine WpD.indexR (i := 6) (fuel := 3) (listed' := lst 10 127) tabOK (by kernel_rfl) rfl rfl rfl rfl rfl rfl rfl rfl rfl hlr hlr (.refl _) r_gr_0 (by omega) (by omega) ?_
 rintro x7 hx7 b7 o7 _ ⟨A7, c7, rfl, u7, r7⟩ hc7
 have hl7 : (x7.length : Int) = (nth gr.succ x).length := by rw [hx7]
 refine WpD.y (i := 7) (fuel := 2) (listed' := lst 10 255) (by kernel_rfl) rfl rfl rfl rfl hlr hlr (.refl _) (RunY.loadH tabOK hc7 hlr rfl rfl rfl rfl) ?_
 refine WpD.g (listed' := lst 10 1023) tabOK [8, 9] (by kernel_rfl) rfl hlr hlr (.refl _) ?_
 refine WpD.done (by kernel_rfl) ?_
 refine WpG.caseD (t := 44) rfl (fun q44 => ?_) (fun q44 => ?_)
 ·refine WpG.g tabOK 4 rfl ?_
  refine WpG.draw 11 [Chunk.own 3 1 AO cO nO (out.map iv), Chunk.own 3 1 (some ⟨b6, 0, none⟩) cS nS (stk.map iv), Chunk.box b3 (nx.map iv) 131, Chunk.box b2 (seen.map Value.bool) 93, Chunk.box b1 [.slice A_gr_0 gr.succ.length c_gr_0, .slice A_gr_1 gr.pred.length c_gr_1] 46] mixed (by kernel_rfl) ?_
  refine WpD.g (listed' := lst 11 37) tabOK [0, 2, 5] (by kernel_rfl) rfl hlr hlr (.refl _) ?_
  refine WpD.y (i := 1) (fuel := 7) (listed' := lst 11 39) (by kernel_rfl) rfl rfl rfl rfl hlr hlr (.refl _) (RunY.loadBox (ci := 4) tabOK rfl rfl rfl rfl) ?_
  refine WpD.indexR (i := 3) (fuel := 6) (listed' := lst 11 47) tabOK (by kernel_rfl) rfl rfl rfl rfl rfl rfl rfl rfl rfl hlr hlr (.refl _) r_gr_0 (by omega) (by omega) ?_
  rintro x8 hx8 b8 o8 _ ⟨A8, c8, rfl, u8, r8⟩ hc8
  have hl8 : (x8.length : Int) = (nth gr.succ x).length := by rw [hx8]
  refine WpD.y (i := 4) (fuel := 5) (listed' := lst 11 63) (by kernel_rfl) rfl rfl rfl rfl hlr hlr (.refl _) (RunY.loadH tabOK hc8 hlr rfl rfl rfl rfl) ?_
  refine WpD.y (i := 6) (fuel := 4) (listed' := lst 11 127) (by kernel_rfl) rfl rfl rfl rfl hlr hlr (.refl _) (RunY.indexArr tabOK rfl rfl rfl rfl rfl (by omega) (by omega)) ?_
  refine WpD.y (i := 7) (fuel := 3) (listed' := lst 11 255) (by kernel_rfl) rfl rfl rfl rfl hlr hlr (.refl _) (RunY.loadBox (ci := 2) tabOK rfl rfl rfl (partOf_at rfl rfl (arr_at (f := iv) (by omega) (by omega)))) ?_
  refine WpD.indexR (i := 8) (fuel := 2) (listed' := lst 11 511) tabOK (by kernel_rfl) rfl rfl rfl rfl rfl rfl rfl rfl rfl hlr hlr (.refl _) r8 (by omega) (by omega) ?_
  rintro x9 hx9 b9 o9 _ ⟨rfl, k9⟩ hc9
  have hyx : x9 = nth (nth gr.succ x) (nth nx x) := by rw [hx9, hx8]
  have hy : 0 ≤ x9 ∧ x9 < gr.succ.length := by rw [hyx]; exact hR.at_ hxr.1 hxr.2 hnx.1 (by omega)
  refine WpD.y (i := 9) (fuel := 1) (listed' := lst 11 1023) (by kernel_rfl) rfl rfl rfl rfl hlr hlr (.refl _) (RunY.loadH tabOK hc9 hlr rfl rfl rfl rfl) ?_
  refine WpD.g (listed' := lst 11 2047) tabOK [10] (by kernel_rfl) rfl hlr hlr (.refl _) ?_
  refine WpD.done (by kernel_rfl) ?_
  refine WpG.g tabOK 3 rfl ?_
  refine WpG.y rfl rfl rfl rfl (RunY.indexArr tabOK rfl rfl rfl rfl rfl (by omega) (by omega)) ?_
  refine WpG.y rfl rfl rfl rfl (RunY.loadBox (ci := 2) tabOK rfl rfl rfl (partOf_at rfl rfl (arr_at (f := iv) (by omega) (by omega)))) ?_
  refine WpG.gw tabOK 1 58 rfl (wrk (x := (nth nx x) + 1) (by omega) (by omega)) ?_
  refine WpG.y rfl rfl rfl rfl (RunY.indexArr tabOK rfl rfl rfl rfl rfl (by omega) (by omega)) ?_
  refine WpG.storeBox (ci := 2) tabOK rfl rfl rfl rfl rfl rfl rfl rfl (putAt_one (own_lt (by omega) (by omega))) ?_
  refine WpG.setL (L' := [Chunk.own 3 1 AO cO nO (out.map iv), Chunk.own 3 1 (some ⟨b6, 0, none⟩) cS nS (stk.map iv), Chunk.box b3 ((nx.set x.toNat ((nth nx x) + 1)).map iv) 131, Chunk.box b2 (seen.map Value.bool) 93, Chunk.box b1 [.slice A_gr_0 gr.succ.length c_gr_0, .slice A_gr_1 gr.pred.length c_gr_1] 46]) (by rw [← arr_set (f := iv) (xs := nx) (j := x) ((nth nx x) + 1)]; rfl) ?_
  refine WpG.g tabOK 4 rfl ?_
  refine WpG.y rfl rfl rfl rfl (RunY.indexArr tabOK rfl rfl rfl rfl rfl (by omega) (by omega)) ?_
  refine WpG.y rfl rfl rfl rfl (RunY.loadBox (ci := 3) tabOK rfl rfl rfl (partOf_at rfl rfl (arr_at (f := Value.bool) (by omega) (by omega)))) ?_
  refine WpG.g tabOK 2 rfl ?_
  refine WpG.caseBn (t := 63) rfl (fun q63 => ?_) (fun q63 => ?_)
  ·refine WpG.g tabOK 4 rfl ?_
   refine WpG.y rfl rfl rfl rfl (RunY.indexArr tabOK rfl rfl rfl rfl rfl (by omega) (by omega)) ?_
   refine WpG.storeBox (ci := 3) tabOK rfl rfl rfl rfl rfl rfl rfl rfl (putAt_one (own_lt (by omega) (by omega))) ?_
   refine WpG.setL (L' := [Chunk.own 3 1 AO cO nO (out.map iv), Chunk.own 3 1 (some ⟨b6, 0, none⟩) cS nS (stk.map iv), Chunk.box b3 ((nx.set x.toNat ((nth nx x) + 1)).map iv) 131, Chunk.box b2 ((seen.set x9.toNat true).map Value.bool) 93, Chunk.box b1 [.slice A_gr_0 gr.succ.length c_gr_0, .slice A_gr_1 gr.pred.length c_gr_1] 46]) (by rw [← arr_set (f := Value.bool) (xs := seen) (j := x9) true]; rfl) ?_
   refine WpG.g tabOK 5 rfl ?_
   refine WpG.buildSlice (xs := [.int .i64 x9]) tabOK rfl rfl rfl rfl rfl rfl rfl rfl rfl rfl (fun b10 => ?_)
   refine WpG.append (ci := 2) tabOK rfl rfl rfl rfl rfl rfl rfl rfl rfl rfl rfl rfl (Src.own (ci := 0) rfl) (by omega) (fun A12 c13 => ?_)
   refine WpG.dropL (L' := [Chunk.own 3 1 AO cO nO (out.map iv), Chunk.own 3 1 A12 c13 (nS + 1) ((stk.map iv) ++ [.int .i64 x9]), Chunk.box b3 ((nx.set x.toNat ((nth nx x) + 1)).map iv) 131, Chunk.box b2 ((seen.set x9.toNat true).map Value.bool) 93, Chunk.box b1 [.slice A_gr_0 gr.succ.length c_gr_0, .slice A_gr_1 gr.pred.length c_gr_1] 46]) (.cons _ (.cons_cons _ (.cons_cons _ (.cons_cons _ (.cons_cons _ (.cons_cons _ .slnil)))))) ?_
   refine WpG.setL (L' := [Chunk.own 3 1 AO cO nO (out.map iv), Chunk.own 3 1 A12 c13 (nS + 1) ((stk ++ [x9]).map iv), Chunk.box b3 ((nx.set x.toNat ((nth nx x) + 1)).map iv) 131, Chunk.box b2 ((seen.set x9.toNat true).map Value.bool) 93, Chunk.box b1 [.slice A_gr_0 gr.succ.length c_gr_0, .slice A_gr_1 gr.pred.length c_gr_1] 46]) (by rw [List.map_append]; rfl) ?_
   refine WpG.g tabOK 3 rfl ?_
   refine WpG.g tabOK 2 rfl ?_
   refine WpG.wk (ihG0 (stk ++ [x9]) out (seen.set x9.toNat true) (nx.set x.toNat ((nth nx x) + 1)) A12 (nS + 1) c13 AO nO cO ?_ ?_) rfl
   ·dsimp only
    have h := pot_step hxr.1 hxr.2 (by omega) hnx.1 (by omega : nth nx x < (nth gr.succ x).length); simp only [List.length_append, List.length_cons, List.length_nil]; omega
   clear ihG0 ih1
   exact ⟨by rw [hst]; exact OInv.push hR (hst ▸ j0) (by omega) hyx q63, by simp; omega, i2, by simp⟩
  refine WpG.g tabOK 4 rfl ?_
  refine WpG.wk (ih1 (nx.set x.toNat ((nth nx x) + 1)) ?_ ?_) rfl
  ·dsimp only
   have h := pot_step hxr.1 hxr.2 (by omega) hnx.1 (by omega : nth nx x < (nth gr.succ x).length); omega
  clear ihG0 ih1
  exact ⟨by rw [hst]; exact OInv.skip hR (hst ▸ j0) (by omega) (by rw [← hyx]; exact q63), by have h := pot_step hxr.1 hxr.2 (by omega) hnx.1 (by omega : nth nx x < (nth gr.succ x).length); omega⟩
 refine WpG.g tabOK 6 rfl ?_
 refine WpG.buildSlice (xs := [.int .i64 x]) tabOK rfl rfl rfl rfl rfl rfl rfl rfl rfl rfl (fun b14 => ?_)
 refine WpG.append (ci := 1) tabOK rfl rfl rfl rfl rfl rfl rfl rfl rfl rfl rfl rfl (Src.own (ci := 0) rfl) (by omega) (fun A16 c17 => ?_)
 refine WpG.dropL (L' := [Chunk.own 3 1 A16 c17 (nO + 1) ((out.map iv) ++ [.int .i64 x]), Chunk.own 3 1 (some ⟨b6, 0, none⟩) cS nS (stk.map iv), Chunk.box b3 (nx.map iv) 131, Chunk.box b2 (seen.map Value.bool) 93, Chunk.box b1 [.slice A_gr_0 gr.succ.length c_gr_0, .slice A_gr_1 gr.pred.length c_gr_1] 46]) (.cons _ (.cons_cons _ (.cons_cons _ (.cons_cons _ (.cons_cons _ (.cons_cons _ .slnil)))))) ?_
 refine WpG.setL (L' := [Chunk.own 3 1 A16 c17 (nO + 1) ((out ++ [x]).map iv), Chunk.own 3 1 (some ⟨b6, 0, none⟩) cS nS (stk.map iv), Chunk.box b3 (nx.map iv) 131, Chunk.box b2 (seen.map Value.bool) 93, Chunk.box b1 [.slice A_gr_0 gr.succ.length c_gr_0, .slice A_gr_1 gr.pred.length c_gr_1] 46]) (by rw [List.map_append]; rfl) ?_
 refine WpG.gw tabOK 8 77 rfl (wrk (x := (nS : Int) - 1) (by omega) (by omega)) ?_
 refine WpG.y rfl rfl rfl rfl (RunY.sliceTo tabOK rfl rfl rfl rfl rfl (by omega) (by omega)) ?_
 refine WpG.truncOwn (ci := 1) (m := ((nS : Int) - 1).toNat) rfl (by omega) ?_
 refine WpG.setL (L' := [Chunk.own 3 1 A16 c17 (nO + 1) ((out ++ [x]).map iv), Chunk.own 3 1 (some ⟨b6, 0, none⟩) cS (((nS : Int) - 1).toNat) ((stk.take ((nS : Int) - 1).toNat).map iv), Chunk.box b3 (nx.map iv) 131, Chunk.box b2 (seen.map Value.bool) 93, Chunk.box b1 [.slice A_gr_0 gr.succ.length c_gr_0, .slice A_gr_1 gr.pred.length c_gr_1] 46]) (by rw [List.map_take, Nat.mul_one]; rfl) ?_
 refine WpG.g tabOK 9 rfl ?_
 refine WpG.caseD (t := 81) rfl (fun q81 => ?_) (fun q81 => ?_)
 ·refine WpG.g tabOK 2 rfl ?_
  refine WpG.g tabOK 2 rfl ?_
  refine WpG.wk (ihG0 (stk.take ((nS : Int) - 1).toNat) (out ++ [x]) seen nx (some ⟨b6, 0, none⟩) (((nS : Int) - 1).toNat) cS A16 (nO + 1) c17 ?_ ?_) rfl
  ·dsimp only
   rw [take_pre hst i1]; omega
  clear ihG0 ih1
  exact ⟨by rw [take_pre hst i1]; exact OInv.pop (hst ▸ j0) (by omega), by rw [take_pre hst i1]; omega, by simp; omega, by
   rw [take_pre hst i1]; intro e; rw [e] at hpl; simp at hpl; omega⟩
 have hnr : nO + 1 = ((out ++ [x]).reverse).length := by simp; omega
 have hp0 : pre = [] := List.eq_nil_of_length_eq_zero (by omega)
 have hO : OInv gr.succ root [] (out ++ [x]) seen nx := by
  have z : OInv gr.succ root pre (out ++ [x]) seen nx := OInv.pop (hst ▸ j0) (by omega)
  rw [hp0] at z; exact z
 refine WpG.g tabOK 5 rfl ?_
 refine WpG.ownForm (ci := 0) rfl (by omega) (fun b18 eb18 => ?_)
 subst eb18
 refine WpG.call1 (ci := 0) rfl rfl rfl rfl rfl rfl rfl (Reverse_n (l := out ++ [x]) (by simp; omega) (by have := i0.len; simp; omega)) ?_
 rintro _ H1 _ - ⟨eH, rfl, rfl⟩
 rw [eH]; clear eH H1
 refine WpG.setL (L' := [Chunk.own 3 1 (some ⟨b18, 0, none⟩) c17 (nO + 1) ((out ++ [x]).reverse.map iv), Chunk.own 3 1 (some ⟨b6, 0, none⟩) cS (((nS : Int) - 1).toNat) ((stk.take ((nS : Int) - 1).toNat).map iv), Chunk.box b3 (nx.map iv) 131, Chunk.box b2 (seen.map Value.bool) 93, Chunk.box b1 [.slice A_gr_0 gr.succ.length c_gr_0, .slice A_gr_1 gr.pred.length c_gr_1] 46]) rfl ?_
 refine WpG.g tabOK 6 rfl ?_
 exact WpG.ret tabOK (L' := [Chunk.own 3 1 (some ⟨b18, 0, none⟩) c17 (nO + 1) ((out ++ [x]).reverse.map iv)]) (.tmp rfl .nil) (.cons_cons _ (.cons _ (.cons _ (.cons _ (.cons _ .slnil))))) ⟨rfl, b18, c17, (out ++ [x]).reverse, by rw [hnr]; rfl, hO.finish, by rw [hnr]⟩
end Go.Proofs.YtakameggkkjcpaaGreat
namespace Go.Proofs.YtakameggkkjcpaaGreat
def itT (T : Nat → Nat) : Nat → Nat → Nat
  | 0, z => z
  | k + 1, z => itT T k (T z)
def Dt (T : Nat → Nat) (z y : Nat) : Prop := ∃ k, itT T k z = y
structure Par (T : Nat → Nat) : Prop where
  zero : T 0 = 0
  lt : ∀ z, 0 < z → T z < z
theorem Dt.refl (T : Nat → Nat) (z : Nat) : Dt T z z := ⟨0, rfl⟩
theorem Dt.up {T : Nat → Nat} {z y : Nat} (h : Dt T (T z) y) : Dt T z y := let ⟨k, e⟩ := h; ⟨k + 1, e⟩
theorem itT_zero {T : Nat → Nat} (h : Par T) : ∀ k, itT T k 0 = 0
  | 0 => rfl
  | k + 1 => by show itT T k (T 0) = 0; rw [h.zero]; exact itT_zero h k
theorem Dt.iff {T : Nat → Nat} (h : Par T) {z y : Nat} : Dt T z y ↔ y = z ∨ (0 < z ∧ Dt T (T z) y) := by
  constructor
  · rintro ⟨k, e⟩
    cases k with
    | zero => exact .inl e.symm
    | succ k =>
      by_cases hz : 0 < z
      · exact .inr ⟨hz, k, e⟩
      · have : z = 0 := by omega
        subst this
        rw [itT_zero h] at e
        exact .inl e.symm
  · rintro (rfl | ⟨_, h⟩)
    · exact Dt.refl T y
    · exact h.up
theorem Dt.le {T : Nat → Nat} (h : Par T) {y : Nat} : ∀ {z : Nat}, Dt T z y → y ≤ z := by
  intro z
  induction z using Nat.strongRecOn with
  | _ z ih =>
    intro hd
    rcases (Dt.iff h).1 hd with rfl | ⟨hz, hd⟩
    · exact Nat.le_refl _
    · have := ih (T z) (h.lt z hz) hd; have := h.lt z hz; omega
theorem Dt.trans {T : Nat → Nat} (h : Par T) {y w : Nat} : ∀ {z : Nat}, Dt T z y → Dt T y w → Dt T z w := by
  intro z
  induction z using Nat.strongRecOn with
  | _ z ih =>
    intro hd hw
    rcases (Dt.iff h).1 hd with rfl | ⟨hz, hd⟩
    · exact hw
    · exact (ih (T z) (h.lt z hz) hd hw).up
theorem Dt.chain {T : Nat → Nat} (h : Par T) {y w : Nat} : ∀ {z : Nat}, Dt T z y → Dt T z w → w ≤ y → Dt T y w := by
  intro z
  induction z using Nat.strongRecOn with
  | _ z ih =>
    intro hy hw hle
    rcases (Dt.iff h).1 hy with rfl | ⟨hz, hy⟩
    · exact hw
    · have h1 := hy.le h
      have h2 := h.lt z hz
      rcases (Dt.iff h).1 hw with rfl | ⟨_, hw⟩
      · omega
      · exact ih (T z) h2 hy hw hle
theorem Dt.root {T : Nat → Nat} (h : Par T) : ∀ z, Dt T z 0 := by
  intro z
  induction z using Nat.strongRecOn with
  | _ z ih =>
    by_cases hz : 0 < z
    · exact (ih (T z) (h.lt z hz)).up
    · have : z = 0 := by omega
      subst this; exact Dt.refl T 0
def upd (T : Nat → Nat) (x c : Nat) : Nat → Nat := fun z => if z = x then c else T z
theorem Par.upd {T : Nat → Nat} (h : Par T) {x c : Nat} (hx : 0 < x) (hc : c < x) : Par (upd T x c) :=
  ⟨by unfold Go.Proofs.YtakameggkkjcpaaGreat.upd; rw [if_neg (by omega)]; exact h.zero, fun z hz => by
    unfold Go.Proofs.YtakameggkkjcpaaGreat.upd
    split
    · omega
    · exact h.lt z hz⟩
theorem Dt.upd_no {T : Nat → Nat} (h : Par T) {x c y : Nat} (hx : 0 < x) (hc : c < x) : ∀ {z : Nat}, ¬ Dt T z x → (Dt (upd T x c) z y ↔ Dt T z y) := by
  have h' := h.upd hx hc
  intro z
  induction z using Nat.strongRecOn with
  | _ z ih =>
    intro hn
    have hne : z ≠ x := fun e => hn (e ▸ Dt.refl T z)
    have e : Go.Proofs.YtakameggkkjcpaaGreat.upd T x c z = T z := if_neg hne
    rw [Dt.iff h', Dt.iff h, e]
    by_cases hz : 0 < z
    · rw [ih (T z) (h.lt z hz) fun hd => hn hd.up]
    · simp [hz]
theorem Dt.upd_yes {T : Nat → Nat} (h : Par T) {x c y : Nat} (hx : 0 < x) (hc : c < x) : ∀ {z : Nat}, Dt T z x → (Dt (upd T x c) z y ↔ (Dt T z y ∧ x ≤ y) ∨ Dt T c y) := by
  have h' := h.upd hx hc
  have hcx : ¬ Dt T c x := fun hd => by have := hd.le h; omega
  intro z
  induction z using Nat.strongRecOn with
  | _ z ih =>
    intro hz
    by_cases e : z = x
    · subst e
      have e1 : Go.Proofs.YtakameggkkjcpaaGreat.upd T z c z = c := if_pos rfl
      rw [Dt.iff h', e1, Dt.upd_no h hx hc hcx]
      constructor
      · rintro (rfl | ⟨_, hd⟩)
        · exact .inl ⟨Dt.refl T y, Nat.le_refl _⟩
        · exact .inr hd
      · rintro (⟨hd, hle⟩ | hd)
        · have := hd.le h; exact .inl (by omega)
        · exact .inr ⟨hx, hd⟩
    · rcases (Dt.iff h).1 hz with e2 | ⟨hz0, hz1⟩
      · exact absurd e2.symm e
      · have e1 : Go.Proofs.YtakameggkkjcpaaGreat.upd T x c z = T z := if_neg e
        rw [Dt.iff h', e1, ih (T z) (h.lt z hz0) hz1, Dt.iff h (z := z)]
        have hxz := hz.le h
        constructor
        · rintro (rfl | ⟨_, ⟨hd, hle⟩ | hd⟩)
          · exact .inl ⟨.inl rfl, by omega⟩
          · exact .inl ⟨.inr ⟨hz0, hd⟩, hle⟩
          · exact .inr hd
        · rintro (⟨rfl | ⟨_, hd⟩, hle⟩ | hd)
          · exact .inl rfl
          · exact .inr ⟨hz0, .inl ⟨hd, hle⟩⟩
          · exact .inr ⟨hz0, .inr hd⟩
inductive Pth (pr : Nat → Nat → Prop) (lo : Nat) : Nat → Nat → Prop
  | refl {a : Nat} : lo ≤ a → Pth pr lo a a
  | step {a b c : Nat} : Pth pr lo a b → pr c b → lo ≤ c → Pth pr lo a c
theorem Pth.mono {pr : Nat → Nat → Prop} {lo lo' a b : Nat} (hl : lo' ≤ lo) (h : Pth pr lo a b) : Pth pr lo' a b := by
  induction h with
  | refl h => exact .refl (by omega)
  | step _ hp hc ih => exact .step ih hp (by omega)
theorem Pth.trans {pr : Nat → Nat → Prop} {lo a b c : Nat} (h : Pth pr lo a b) (k : Pth pr lo b c) : Pth pr lo a c := by
  induction k with
  | refl _ => exact h
  | step _ hp hc ih => exact .step ih hp hc
inductive Av (pr : Nat → Nat → Prop) (y : Nat) : Nat → Prop
  | root : y ≠ 0 → Av pr y 0
  | step {p z : Nat} : Av pr y p → pr z p → z ≠ y → Av pr y z
theorem Av.along {pr : Nat → Nat → Prop} {y lo a b : Nat} (h : Pth pr lo a b) (hy : y < lo) (ha : Av pr y a) : Av pr y b := by
  induction h with
  | refl _ => exact ha
  | step _ hp hc ih => exact .step ih hp (by omega)
structure DInv (pr : Nat → Nat → Prop) (T : Nat → Nat) (i : Nat) (D0 : Nat → Nat → Prop) : Prop where
  par : Par T
  pos : 0 < i
  a : ∀ z, z < i → ∀ y, Dt T z y → D0 z y
  b : ∀ z, z < i → ∀ y, D0 z y → y ≠ z → ∀ p, pr z p → p + 1 < i → D0 p y
  c : ∀ z, z < i → ∀ y, D0 z y → ¬ Dt T z y → ¬ D0 (i - 1) y ∧ ∀ m, Dt T z m → m < y → D0 (i - 1) m
  k : ∀ z, 0 < z → z < i → ∀ y, (∀ p, pr z p → p < i → Dt T p y) → Dt T (T z) y
  path : ∀ z, z < i → ∀ x, Dt T z x → Pth pr x x z
  dom : ∀ z, z < i → ∀ y, ¬ Av pr y z → Dt T z y
theorem DInv.start {pr : Nat → Nat → Prop} {T : Nat → Nat} (h : Par T) : DInv pr T 1 (Dt T) where
  par := h
  pos := by omega
  a := fun _ _ _ h => h
  b := fun z hz y hd hne => by
    have : z = 0 := by omega
    subst this
    have := hd.le h
    omega
  c := fun _ _ _ h h' => absurd h h'
  k := fun z h0 h1 => by omega
  path := fun z hz x hd => by
    have : z = 0 := by omega
    subst this
    have hx := hd.le h
    have : x = 0 := by omega
    subst this
    exact .refl (Nat.le_refl _)
  dom := fun z hz y hn => by
    have : z = 0 := by omega
    subst this
    by_cases hy : y = 0
    · subst hy; exact Dt.refl T 0
    · exact absurd (Av.root hy) hn
theorem DInv.better {pr : Nat → Nat → Prop} {T : Nat → Nat} {i : Nat} {D0 : Nat → Nat → Prop} (h : DInv pr T i D0) (rpo : ∀ z, 0 < z → z < i → ∃ p, p < z ∧ pr z p) {x c : Nat} (hx0 : 0 < x) (hxi : x < i)
    (hc : ∀ y, Dt T c y ↔ ∀ p, pr x p → p < i → Dt T p y) : Dt T (T x) c ∧ DInv pr (upd T x c) i D0 := by
  have hP := h.par
  obtain ⟨p0, hp0, hp0r⟩ := rpo x hx0 hxi
  have hcp : ∀ p, pr x p → p < i → Dt T p c := (hc c).1 (Dt.refl T c)
  have hcx : c < x := by have := (hcp p0 hp0r (by omega)).le hP; omega
  have hcT : Dt T (T x) c := h.k x hx0 hxi c hcp
  have hP' := hP.upd hx0 hcx
  have hsub : ∀ z, ∀ y, Dt (upd T x c) z y → Dt T z y := fun z y hd => by
    by_cases hz : Dt T z x
    · rcases (Dt.upd_yes hP hx0 hcx hz).1 hd with ⟨h1, _⟩ | h1
      · exact h1
      · exact hz.trans hP (Dt.up (hcT.trans hP h1))
    · exact (Dt.upd_no hP hx0 hcx hz).1 hd
  have hlost : ∀ z y, Dt T z y → ¬ Dt (upd T x c) z y → Dt T z x ∧ y < x ∧ Dt T x y ∧ ¬ Dt T c y := fun z y hd hn => by
    by_cases hz : Dt T z x
    · have h1 : ¬ ((Dt T z y ∧ x ≤ y) ∨ Dt T c y) := fun h1 => hn ((Dt.upd_yes hP hx0 hcx hz).2 h1)
      have hlt : y < x := by
        by_cases hle : x ≤ y
        · exact absurd (.inl ⟨hd, hle⟩) h1
        · omega
      exact ⟨hz, hlt, hz.chain hP hd (by omega), fun h2 => h1 (.inr h2)⟩
    · exact absurd ((Dt.upd_no hP hx0 hcx hz).2 hd) hn
  have hpred : ∀ y, y < x → Dt T x y → ¬ Dt T c y → ¬ D0 (i - 1) y ∧ ∀ m, Dt T c m → m < y → D0 (i - 1) m := fun y hy hxy hcy => by
    have hex : ∃ q, pr x q ∧ q < i ∧ ¬ Dt T q y := by
      apply Classical.byContradiction
      intro hno
      exact hcy ((hc y).2 fun p hp hpi => Classical.byContradiction fun hn => hno ⟨p, hp, hpi, hn⟩)
    obtain ⟨q, hq, hqi, hqy⟩ := hex
    have hcq := hcp q hq hqi
    by_cases hqv : q + 1 < i
    · have h0 : D0 q y := h.b x hxi y (h.a x hxi y hxy) (by omega) q hq hqv
      have := h.c q hqi y h0 hqy
      exact ⟨this.1, fun m hm hmy => this.2 m (hcq.trans hP hm) hmy⟩
    · have hqe : q = i - 1 := by omega
      subst hqe
      by_cases h0 : D0 (i - 1) y
      · exact absurd h0 (h.c (i - 1) hqi y h0 hqy).1
      · exact ⟨h0, fun m hm _ => h.a (i - 1) hqi m (hcq.trans hP hm)⟩
  refine ⟨hcT, hP', h.pos, fun z hz y hd => h.a z hz y (hsub z y hd), h.b, fun z hz y h0 hn => ?_, fun z hz0 hzi y hy => ?_, fun z hz w hd => ?_, fun z hz y hn => ?_⟩
  · by_cases hd : Dt T z y
    · obtain ⟨hzx, hlt, hxy, hcy⟩ := hlost z y hd hn
      have h1 := hpred y hlt hxy hcy
      refine ⟨h1.1, fun m hm hmy => ?_⟩
      rcases (Dt.upd_yes hP hx0 hcx hzx).1 hm with ⟨_, h2⟩ | h2
      · omega
      · exact h1.2 m h2 hmy
    · have h1 := h.c z hz y h0 hd
      exact ⟨h1.1, fun m hm hmy => h1.2 m (hsub z m hm) hmy⟩
  · by_cases e : z = x
    · subst e
      have e1 : upd T z c z = c := if_pos rfl
      rw [e1, Dt.upd_no hP hx0 hcx (fun hd => by have := hd.le hP; omega)]
      exact (hc y).2 fun p hp hpi => hsub p y (hy p hp hpi)
    · have e1 : upd T x c z = T z := if_neg e
      rw [e1]
      have hTy : Dt T (T z) y := h.k z hz0 hzi y fun p hp hpi => hsub p y (hy p hp hpi)
      apply Classical.byContradiction
      intro hn
      obtain ⟨hzx, hlt, hxy, hcy⟩ := hlost (T z) y hTy hn
      have h1 := hpred y hlt hxy hcy
      obtain ⟨p, hp, hpr⟩ := rpo z hz0 hzi
      have hpy := hy p hpr (by omega)
      have hpx : ¬ Dt T p x := fun hd => by
        rcases (Dt.upd_yes hP hx0 hcx hd).1 hpy with ⟨_, h2⟩ | h2
        · omega
        · exact hcy h2
      have hzx' : Dt T z x := hzx.up
      have hne : x ≠ z := Ne.symm e
      have h0 : D0 p x := h.b z hzi x (h.a z hzi x hzx') hne p hpr (by omega)
      have := (h.c p (by omega) x h0 hpx).2 y (hsub p y hpy) hlt
      exact h1.1 this
  · by_cases hzx : Dt T z x
    · rcases (Dt.upd_yes hP hx0 hcx hzx).1 hd with ⟨h1, _⟩ | h1
      · exact h.path z hz w h1
      · have hw := h1.le hP
        have hp0i : p0 < i := by omega
        have h2 := h.path p0 hp0i w ((hcp p0 hp0r hp0i).trans hP h1)
        have h3 : Pth pr w w x := .step h2 hp0r (by omega)
        exact h3.trans ((h.path z hz x hzx).mono (by omega))
    · exact h.path z hz w ((Dt.upd_no hP hx0 hcx hzx).1 hd)
  · have hd := h.dom z hz y hn
    apply Classical.byContradiction
    intro hn'
    obtain ⟨hzx, hlt, hxy, hcy⟩ := hlost z y hd hn'
    have hav : Av pr y x := by
      apply Classical.byContradiction
      intro hna
      refine hcy ((hc y).2 fun p hp hpi => h.dom p hpi y fun hap => hna (.step hap hp (by omega)))
    exact hn (Av.along (h.path z hz x hzx) hlt hav)
theorem DInv.more {pr : Nat → Nat → Prop} {T : Nat → Nat} {i : Nat} {D0 : Nat → Nat → Prop} (h : DInv pr T i D0) {c : Nat} (rpo : ∃ p, p < i ∧ pr i p)
    (hst : ∀ z, 0 < z → z < i → ∀ y, Dt T (T z) y ↔ ∀ p, pr z p → p < i → Dt T p y)
    (hc : ∀ y, Dt T c y ↔ ∀ p, pr i p → p < i → Dt T p y) : DInv pr (upd T i c) (i + 1) (Dt (upd T i c)) := by
  have hP := h.par
  obtain ⟨p0, hp0, hp0r⟩ := rpo
  have hcp : ∀ p, pr i p → p < i → Dt T p c := (hc c).1 (Dt.refl T c)
  have hci : c < i := by have := (hcp p0 hp0r hp0).le hP; omega
  have hP' := hP.upd h.pos hci
  have hold : ∀ z, z < i → ∀ y, Dt (upd T i c) z y ↔ Dt T z y := fun z hz y => Dt.upd_no hP h.pos hci (fun hd => by have := hd.le hP; omega)
  have hnew : ∀ y, Dt (upd T i c) i y ↔ y = i ∨ Dt T c y := fun y => by
    rw [Dt.iff hP', show upd T i c i = c from if_pos rfl, hold c hci]
    simp [h.pos]
  have hup : ∀ z, z ≠ i → upd T i c z = T z := fun z hz => if_neg hz
  refine ⟨hP', by omega, fun _ _ _ h => h, fun z hz y hd hne p hp hpi => ?_, fun _ _ _ h h' => absurd h h', fun z hz0 hzi y hy => ?_, fun z hz w hd => ?_, fun z hz y hn => ?_⟩
  · have hpi' : p < i := by omega
    rw [hold p hpi']
    by_cases e : z = i
    · subst e
      rcases (hnew y).1 hd with h1 | h1
      · exact absurd h1 hne
      · exact (hc y).1 h1 p hp hpi'
    · have hzi : z < i := by omega
      rw [hold z hzi] at hd
      rcases (Dt.iff hP).1 hd with h1 | ⟨hz0, h1⟩
      · exact absurd h1 hne
      · exact (hst z hz0 hzi y).1 h1 p hp hpi'
  · by_cases e : z = i
    · subst e
      rw [show upd T z c z = c from if_pos rfl, hold c hci]
      exact (hc y).2 fun p hp hpi => (hold p hpi y).1 (hy p hp (by omega))
    · have hzi' : z < i := by omega
      rw [hup z e]
      have hTz := hP.lt z hz0
      rw [hold (T z) (by omega)]
      exact (hst z hz0 hzi' y).2 fun p hp hpi => (hold p hpi y).1 (hy p hp (by omega))
  · by_cases e : z = i
    · subst e
      rcases (hnew w).1 hd with rfl | h1
      · exact .refl (Nat.le_refl _)
      · have hw := h1.le hP
        exact .step (h.path p0 hp0 w ((hcp p0 hp0r hp0).trans hP h1)) hp0r (by omega)
    · exact h.path z (by omega) w ((hold z (by omega) w).1 hd)
  · by_cases e : z = i
    · subst e
      refine (hnew y).2 ?_
      by_cases hy : y = z
      · exact .inl hy
      · exact .inr ((hc y).2 fun p hp hpi => h.dom p hpi y fun hap => hn (.step hap hp (Ne.symm hy)))
    · exact (hold z (by omega) y).2 (h.dom z (by omega) y hn)
theorem DInv.right {pr : Nat → Nat → Prop} {T : Nat → Nat} {m : Nat} {D0 : Nat → Nat → Prop} (h : DInv pr T m D0) (hm : ∀ z p, pr z p → p < m → z < m)
    (hst : ∀ z, 0 < z → z < m → ∀ y, Dt T (T z) y ↔ ∀ p, pr z p → p < m → Dt T p y) : ∀ z, z < m → ∀ y, Dt T z y ↔ ¬ Av pr y z := by
  intro z hz y
  refine ⟨fun hd ha => ?_, h.dom z hz y⟩
  have key : ∀ z, Av pr y z → z < m ∧ ¬ Dt T z y := fun z ha => by
    induction ha with
    | root hy => exact ⟨h.pos, fun hd => hy (by have := hd.le h.par; omega)⟩
    | @step p z _ hp hne ih =>
      have hzm := hm z p hp ih.1
      refine ⟨hzm, fun hd => ?_⟩
      rcases (Dt.iff h.par).1 hd with h1 | ⟨hz0, h1⟩
      · exact hne h1.symm
      · exact ih.2 ((hst z hz0 hzm y).1 h1 p hp ih.1)
  exact (key z ha).2 hd
end Go.Proofs.YtakameggkkjcpaaGreat
namespace Go.Proofs.YtakameggkkjcpaaGreat
open Go Go.RowKit
structure TA (tr at_ ord : List Int) (T : Nat → Nat) (i n : Nat) : Prop where
  par : Par T
  n64 : n ≤ 64
  ltr : tr.length = n
  lat : at_.length = n
  rng : ∀ k, k < i → 0 ≤ nth ord (k : Int) ∧ nth ord (k : Int) < n
  tree : ∀ k, k < i → nth tr (nth ord (k : Int)) = nth ord (T k : Int)
  place : ∀ k, k < i → nth at_ (nth ord (k : Int)) = k
theorem TA.inj {tr at_ ord : List Int} {T : Nat → Nat} {i n : Nat} (h : TA tr at_ ord T i n) {j k : Nat} (hj : j < i) (hk : k < i) (e : nth ord (j : Int) = nth ord (k : Int)) : j = k := by
  have h1 := h.place j hj
  have h2 := h.place k hk
  rw [e] at h1
  omega
theorem TA.up {tr at_ ord : List Int} {T : Nat → Nat} {i n : Nat} (h : TA tr at_ ord T i n) {k : Nat} (hk : k < i) : T k < i := by
  by_cases h0 : 0 < k
  · have := h.par.lt k h0; omega
  · have : k = 0 := by omega
    subst this; rw [h.par.zero]; exact hk
theorem nca_left {T : Nat → Nat} (h : Par T) {a b c : Nat} (hc : ∀ y, Dt T c y ↔ Dt T a y ∧ Dt T b y) (hlt : b < a) : ∀ y, Dt T c y ↔ Dt T (T a) y ∧ Dt T b y := fun y => by
  rw [hc y]
  refine and_congr_left fun hb => ?_
  rw [Dt.iff h]
  have := hb.le h
  constructor
  · rintro (rfl | ⟨_, h1⟩)
    · omega
    · exact h1
  · exact fun h1 => .inr ⟨by omega, h1⟩
theorem nca_right {T : Nat → Nat} (h : Par T) {a b c : Nat} (hc : ∀ y, Dt T c y ↔ Dt T a y ∧ Dt T b y) (hlt : a < b) : ∀ y, Dt T c y ↔ Dt T a y ∧ Dt T (T b) y := fun y => by
  rw [and_comm]
  exact nca_left h (fun y => by rw [and_comm]; exact hc y) hlt y
theorem nca_same {T : Nat → Nat} (h : Par T) {a c : Nat} (hc : ∀ y, Dt T c y ↔ Dt T a y ∧ Dt T a y) : a = c := by
  have h1 := ((hc c).1 (Dt.refl T c)).1.le h
  have h2 := ((hc a).2 ⟨Dt.refl T a, Dt.refl T a⟩).le h
  omega
theorem nca_ex {T : Nat → Nat} (h : Par T) : ∀ (s a b : Nat), a + b = s → ∃ c, ∀ y, Dt T c y ↔ Dt T a y ∧ Dt T b y := by
  intro s
  induction s using Nat.strongRecOn with
  | _ s ih =>
    intro a b hs
    by_cases e : a = b
    · subst e; exact ⟨a, fun y => by simp⟩
    · by_cases hlt : b < a
      · obtain ⟨c, hc⟩ := ih (T a + b) (by have := h.lt a (by omega); omega) (T a) b rfl
        refine ⟨c, fun y => ?_⟩
        rw [hc y]
        refine and_congr_left fun hb => ?_
        have := hb.le h
        rw [Dt.iff h (z := a)]
        exact ⟨fun h1 => .inr ⟨by omega, h1⟩, fun h1 => by rcases h1 with rfl | ⟨_, h1⟩; omega; exact h1⟩
      · obtain ⟨c, hc⟩ := ih (a + T b) (by have := h.lt b (by omega); omega) a (T b) rfl
        refine ⟨c, fun y => ?_⟩
        rw [hc y]
        refine and_congr_right fun hb => ?_
        have := hb.le h
        rw [Dt.iff h (z := b)]
        exact ⟨fun h1 => .inr ⟨by omega, h1⟩, fun h1 => by rcases h1 with rfl | ⟨_, h1⟩; omega; exact h1⟩
theorem ord_len {succ : List (List Int)} {root : Int} {ord : List Int} (h : OrderP succ root ord) : ord.length ≤ succ.length := by
  have hnd : (ord.map Int.toNat).Nodup := by
    refine List.pairwise_map.2 (List.Pairwise.imp_of_mem ?_ h.nodup)
    intro x y hx hy e e2
    have h1 := h.range x hx
    have h2 := h.range y hy
    exact e (by omega)
  have := nodup_lt succ.length _ hnd (fun x hx => by
    obtain ⟨y, hy, rfl⟩ := List.mem_map.1 hx
    have := h.range y hy
    omega)
  simpa using this
theorem ord_all {succ : List (List Int)} {root : Int} {ord : List Int} (h : OrderP succ root ord) (hn : succ.length ≤ 64) : AllI ord := by
  rw [AllI_iff]
  intro x hx
  have := h.range x hx
  exact ⟨by omega, by omega⟩
def prO (succ : List (List Int)) (ord : List Int) (x p : Nat) : Prop := x < ord.length ∧ p < ord.length ∧ nth ord (x : Int) ∈ nth succ (nth ord (p : Int))
def msum (T : Nat → Nat) (v : Nat) : Nat := ((List.range v).map T).sum
theorem msum_better {T : Nat → Nat} {v x c : Nat} (hx : x < v) (hc : c < T x) : msum (upd T x c) v < msum T v := by
  unfold msum
  induction v with
  | zero => omega
  | succ v ih =>
    rw [List.range_succ, List.map_append, List.map_append, List.sum_append, List.sum_append]
    by_cases e : x = v
    · subst e
      have : (List.range x).map (upd T x c) = (List.range x).map T := List.map_congr_left fun i hi => if_neg (by have := List.mem_range.1 hi; omega)
      rw [this]
      simp [upd]; omega
    · have h1 := ih (by omega)
      have h2 : upd T x c v = T v := if_neg (by omega)
      simp only [List.map_cons, List.map_nil, h2]
      omega
theorem msum_more {T : Nat → Nat} {v c : Nat} : msum (upd T v c) (v + 1) = msum T v + c := by
  unfold msum
  rw [List.range_succ, List.map_append, List.sum_append]
  have : (List.range v).map (upd T v c) = (List.range v).map T := List.map_congr_left fun i hi => if_neg (by have := List.mem_range.1 hi; omega)
  rw [this]; simp [upd]
structure TInv (succ : List (List Int)) (ord tl al : List Int) (T : Nat → Nat) (v : Nat) (D0 : Nat → Nat → Prop) : Prop where
  ta : TA tl al ord T v succ.length
  dom : DInv (prO succ ord) T v D0
  le : v ≤ ord.length
  wait : ∀ k : Nat, v ≤ k → k < ord.length → nth tl (nth ord (k : Int)) = -2
  none_ : ∀ x : Int, 0 ≤ x → x < succ.length → x ∉ ord → nth tl x = -2
def Stable (succ : List (List Int)) (ord : List Int) (T : Nat → Nat) (v z : Nat) : Prop := z < v ∧ ∀ y, Dt T (T z) y ↔ ∀ p, prO succ ord z p → p < v → Dt T p y
def BestOf (ord tl : List Int) (T : Nat → Nat) (v : Nat) (P : List Int) (best : Int) : Prop :=
  (best = -2 ∧ ∀ p : Nat, p < v → nth ord (p : Int) ∉ P) ∨ ∃ c, c < v ∧ best = nth ord (c : Int) ∧ ∀ y, Dt T c y ↔ ∀ p : Nat, p < v → nth ord (p : Int) ∈ P → Dt T p y
theorem may_pred {gr : GraphD} (h : mayG gr = true) : gr.pred = predsD gr.succ := by
  simp only [mayG, Bool.and_eq_true, beq_iff_eq] at h
  cases hk : makeOK gr.succ with
  | true => have := eqLL_eq.1 h.2; rw [make_yes hk] at this; exact this.symm
  | false => rw [make_no hk] at h; simp at h
theorem may_plen {gr : GraphD} (h : mayG gr = true) : gr.pred.length = gr.succ.length := by rw [may_pred h]; simp [predsD]
end Go.Proofs.YtakameggkkjcpaaGreat
namespace Go.Proofs.YtakameggkkjcpaaGreat
open Go Go.RowKit
theorem AllI_set {l : List Int} {k : Nat} {x : Int} (h : AllI l) (hx : I64 x) : AllI (l.set k x) := by
  rw [AllI_iff] at *
  intro y hy
  rcases List.mem_or_eq_of_mem_set hy with h1 | rfl
  · exact h y h1
  · exact hx
theorem AllI_rep {n : Nat} {x : Int} (hx : I64 x) : AllI (List.replicate n x) := by
  rw [AllI_iff]
  intro y hy
  rw [(List.mem_replicate.1 hy).2]; exact hx
theorem OrderP.at_ {succ : List (List Int)} {root : Int} {ord : List Int} (h : OrderP succ root ord) {k : Int} (h0 : 0 ≤ k) (h1 : k < ord.length) : 0 ≤ nth ord k ∧ nth ord k < succ.length := h.range _ (nth_mem h0 h1)
theorem OrderP.inj {succ : List (List Int)} {root : Int} {ord : List Int} (h : OrderP succ root ord) {j k : Int} (j0 : 0 ≤ j) (j1 : j < ord.length) (k0 : 0 ≤ k) (k1 : k < ord.length) (e : nth ord j = nth ord k) : j = k := by
  have h1 := nth_get j0 j1
  have h2 := nth_get k0 k1
  have a : j.toNat < ord.length := by omega
  have b : k.toNat < ord.length := by omega
  rw [List.getElem?_eq_getElem a] at h1
  rw [List.getElem?_eq_getElem b] at h2
  simp only [Option.some.injEq] at h1 h2
  have hp := List.pairwise_iff_getElem.1 h.nodup
  have hne : ¬ j.toNat < k.toNat := fun hlt => hp _ _ a b hlt (by rw [h1, h2, e])
  have hne2 : ¬ k.toNat < j.toNat := fun hlt => hp _ _ b a hlt (by rw [h1, h2, e])
  omega
theorem OrderP.root {succ : List (List Int)} {root : Int} {ord : List Int} (h : OrderP succ root ord) : nth ord 0 = root := by
  obtain ⟨tl, rfl⟩ := h.head
  rfl
theorem OrderP.mem {ord : List Int} {x : Int} (h : x ∈ ord) : ∃ k : Nat, k < ord.length ∧ x = nth ord (k : Int) := by
  obtain ⟨j, hj, rfl⟩ := List.mem_iff_getElem.1 h
  refine ⟨j, hj, ?_⟩
  have := nth_get (xs := ord) (i := (j : Int)) (by omega) (by omega)
  rw [Int.toNat_natCast, List.getElem?_eq_getElem hj] at this
  simpa using this
theorem nth_drop1 {l : List Int} {j : Int} (h0 : 0 ≤ j) {w : Nat} (hw : (w : Int) = j + 1) : nth (l.drop 1) j = nth l (w : Int) := by
  unfold nth
  rw [List.getD_eq_getElem?_getD, List.getD_eq_getElem?_getD, List.getElem?_drop]
  congr 2; omega
theorem OrderP.behind {succ : List (List Int)} {root : Int} {ord : List Int} (h : OrderP succ root ord) {w : Nat} (h0 : 0 < w) (h1 : w < ord.length) : ∃ p, p < w ∧ prO succ ord w p := by
  have hd : ord = ord.take w ++ nth ord (w : Int) :: ord.drop (w + 1) := by
    have := drop_nth (xs := ord) (i := (w : Int)) (by omega) (by omega)
    rw [Int.toNat_natCast] at this
    rw [← this, List.take_append_drop]
  rcases h.parent _ _ _ hd with e | ⟨p, hp, hpm⟩
  · have := h.inj (j := (w : Int)) (k := 0) (by omega) (by omega) (by omega) (by omega) (by rw [e, h.root])
    omega
  · obtain ⟨k, hk, e⟩ := OrderP.mem hp
    simp only [List.length_take] at hk
    have e2 : nth (ord.take w) (k : Int) = nth ord (k : Int) := by
      unfold nth
      rw [List.getD_eq_getElem?_getD, List.getD_eq_getElem?_getD, List.getElem?_take, if_pos (by omega)]
    rw [e2] at e
    exact ⟨k, by omega, h1, by omega, e ▸ hpm⟩
theorem places_start (ord : List Int) (n : Nat) : (0 : Int) ≤ 0 ∧ (0 : Int) ≤ ord.length ∧ AllI (List.replicate n 0) ∧ (List.replicate n (0 : Int)).length = n ∧ ∀ k : Nat, (k : Int) < 0 → nth (List.replicate n (0 : Int)) (nth ord (k : Int)) = k :=
  ⟨by omega, by omega, AllI_rep ⟨by decide, by decide⟩, by simp, fun k hk => by omega⟩
theorem places_step {succ : List (List Int)} {root : Int} {ord al : List Int} (hO : OrderP succ root ord) (hn : succ.length ≤ 64) {i x : Int} (i0 : 0 ≤ i) (i1 : i < ord.length) (h2 : AllI al) (h3 : al.length = succ.length) (h4 : ∀ k : Nat, (k : Int) < i → nth al (nth ord (k : Int)) = k) (hx : x = nth ord i) :
    0 ≤ i + 1 ∧ i + 1 ≤ ord.length ∧ AllI (al.set x.toNat i) ∧ (al.set x.toNat i).length = succ.length ∧ ∀ k : Nat, (k : Int) < i + 1 → nth (al.set x.toNat i) (nth ord (k : Int)) = k := by
  subst hx
  have hol := ord_len hO
  have hr := hO.at_ i0 i1
  refine ⟨by omega, by omega, AllI_set h2 ⟨by omega, by omega⟩, by simp [h3], fun k hk => ?_⟩
  have hk0 := hO.at_ (k := (k : Int)) (by omega) (by omega)
  rw [nth_set hr.1 (by omega) hk0.1]
  split
  · rename_i e
    exact (hO.inj (by omega) (by omega) i0 i1 e).symm
  · rename_i e
    refine h4 k ?_
    by_cases e2 : (k : Int) = i
    · rw [e2] at e; exact absurd rfl e
    · omega
theorem TInv.start {succ : List (List Int)} {root : Int} {ord al : List Int} (hO : OrderP succ root ord) (hn : succ.length ≤ 64) (h3 : al.length = succ.length) (h4 : ∀ k : Nat, (k : Int) < ord.length → nth al (nth ord (k : Int)) = k) (h0 : 0 ≤ root) (h1 : root < succ.length) :
    TInv succ ord ((List.replicate succ.length (-2)).set root.toNat root) al (fun _ => 0) 1 (Dt fun _ => 0) := by
  have hP : Par (fun _ => 0) := ⟨rfl, fun z hz => hz⟩
  have hl : 1 ≤ ord.length := by obtain ⟨tl, e⟩ := hO.head; rw [e]; simp
  have hr := hO.root
  refine ⟨⟨hP, hn, by simp, h3, fun k hk => hO.at_ (by omega) (by omega), fun k hk => ?_, fun k hk => h4 k (by omega)⟩, DInv.start hP, hl, fun k hk hk2 => ?_, fun x x0 x1 hx => ?_⟩
  · have : k = 0 := by omega
    subst this
    show nth _ (nth ord 0) = nth ord 0
    rw [hr, nth_set h0 (by simp; omega) h0, if_pos rfl]
  · have hk0 := hO.at_ (k := (k : Int)) (by omega) (by omega)
    rw [nth_set h0 (by simp; omega) hk0.1, if_neg, nth_replicate hk0.1 (by omega)]
    intro e
    have := hO.inj (j := (k : Int)) (k := 0) (by omega) (by omega) (by omega) (by omega) (by rw [e, hr])
    omega
  · rw [nth_set h0 (by simp; omega) x0, if_neg, nth_replicate x0 (by omega)]
    intro e
    obtain ⟨tl, e2⟩ := hO.head
    exact hx (by rw [e, e2]; simp)
theorem TInv.taken {succ : List (List Int)} {ord tl al : List Int} {T : Nat → Nat} {v : Nat} {D0 : Nat → Nat → Prop} (h : TInv succ ord tl al T v D0) {x : Int} (x0 : 0 ≤ x) (x1 : x < succ.length) (hx : nth tl x ≠ -2) : ∃ k, k < v ∧ x = nth ord (k : Int) := by
  by_cases hm : x ∈ ord
  · obtain ⟨k, hk, e⟩ := OrderP.mem hm
    refine ⟨k, ?_, e⟩
    apply Classical.byContradiction
    intro hn
    exact hx (e ▸ h.wait k (by omega) hk)
  · exact absurd (h.none_ x x0 x1 hm) hx
theorem TInv.not_taken {succ : List (List Int)} {ord tl al : List Int} {T : Nat → Nat} {v : Nat} {D0 : Nat → Nat → Prop} (h : TInv succ ord tl al T v D0) {x : Int} (hx : nth tl x = -2) : ∀ k : Nat, k < v → nth ord (k : Int) ≠ x := fun k hk e => by
  have h1 := h.ta.tree k hk
  rw [e, hx] at h1
  have := h.ta.rng (T k) (h.ta.up hk)
  omega
theorem BestOf.start (ord tl : List Int) (T : Nat → Nat) (v : Nat) (P : List Int) : BestOf ord tl T v (P.take 0) (-2) := .inl ⟨rfl, fun p _ => by simp⟩
theorem BestOf.skip {ord tl : List Int} {T : Nat → Nat} {v : Nat} {P : List Int} {best x : Int} (h : BestOf ord tl T v P best) (hx : ∀ k : Nat, k < v → nth ord (k : Int) ≠ x) : BestOf ord tl T v (P ++ [x]) best := by
  have hm : ∀ p : Nat, p < v → (nth ord (p : Int) ∈ P ++ [x] ↔ nth ord (p : Int) ∈ P) := fun p hp => by
    simp only [List.mem_append, List.mem_singleton]
    exact ⟨fun h1 => h1.resolve_right (hx p hp), .inl⟩
  rcases h with ⟨e, h⟩ | ⟨c, hc, e, h⟩
  · exact .inl ⟨e, fun p hp h1 => h p hp ((hm p hp).1 h1)⟩
  · refine .inr ⟨c, hc, e, fun y => (h y).trans ⟨fun h1 p hp h2 => h1 p hp ((hm p hp).1 h2), fun h1 p hp h2 => h1 p hp ((hm p hp).2 h2)⟩⟩
theorem BestOf.put {ord tl : List Int} {T : Nat → Nat} {v : Nat} {P : List Int} {best x : Int} (h : BestOf ord tl T v P best) (hi : ∀ j k : Nat, j < v → k < v → nth ord (j : Int) = nth ord (k : Int) → j = k) {k : Nat} (hk : k < v) (hx : x = nth ord (k : Int)) (hb : best = -2) (hpos : ∀ j : Nat, j < v → 0 ≤ nth ord (j : Int)) : BestOf ord tl T v (P ++ [x]) x := by
  rcases h with ⟨e, h⟩ | ⟨c, hc, e, h⟩
  · refine .inr ⟨k, hk, hx, fun y => ⟨fun hd p hp hm => ?_, fun hd => hd k hk (by rw [hx]; simp)⟩⟩
    rcases List.mem_append.1 hm with h1 | h1
    · exact absurd h1 (h p hp)
    · rw [hi p k hp hk (by rw [List.mem_singleton.1 h1, hx])]; exact hd
  · have := hpos c hc; omega
theorem BestOf.meet {ord tl : List Int} {T : Nat → Nat} {v : Nat} {P : List Int} {x : Int} (hi : ∀ j k : Nat, j < v → k < v → nth ord (j : Int) = nth ord (k : Int) → j = k) {c k m : Nat} (hc : ∀ y, Dt T c y ↔ ∀ p : Nat, p < v → nth ord (p : Int) ∈ P → Dt T p y) (hk : k < v) (hx : x = nth ord (k : Int))
    (hm : ∀ y, Dt T m y ↔ Dt T c y ∧ Dt T k y) (hmv : m < v) : BestOf ord tl T v (P ++ [x]) (nth ord (m : Int)) := by
  refine .inr ⟨m, hmv, rfl, fun y => ?_⟩
  rw [hm y, hc y]
  constructor
  · rintro ⟨h1, h2⟩ p hp hpm
    rcases List.mem_append.1 hpm with h3 | h3
    · exact h1 p hp h3
    · rw [hi p k hp hk (by rw [List.mem_singleton.1 h3, hx])]; exact h2
  · intro h1
    exact ⟨fun p hp hpm => h1 p hp (List.mem_append_left _ hpm), h1 k hk (by rw [hx]; simp)⟩
theorem BestOf.all {succ : List (List Int)} {root : Int} {ord tl al : List Int} {T : Nat → Nat} {v : Nat} {D0 : Nat → Nat → Prop} {P : List Int} {best : Int} (hO : OrderP succ root ord) (h : TInv succ ord tl al T v D0) {w : Nat} (w0 : 0 < w) (w1 : w < ord.length) (wv : w ≤ v)
    (hP : ∀ p : Int, p ∈ P ↔ 0 ≤ p ∧ p < succ.length ∧ nth ord (w : Int) ∈ nth succ p) (hB : BestOf ord tl T v P best) :
    ∃ c, c < v ∧ best = nth ord (c : Int) ∧ ∀ y, Dt T c y ↔ ∀ p, prO succ ord w p → p < v → Dt T p y := by
  have hle := h.le
  have hpr : ∀ p : Nat, p < v → (nth ord (p : Int) ∈ P ↔ prO succ ord w p) := fun p hp => by
    have := hO.at_ (k := (p : Int)) (by omega) (by omega)
    rw [hP]
    exact ⟨fun h1 => ⟨w1, by omega, h1.2.2⟩, fun h1 => ⟨this.1, this.2, h1.2.2⟩⟩
  rcases hB with ⟨_, hn⟩ | ⟨c, hc, e, hc2⟩
  · obtain ⟨p, hp, hpp⟩ := hO.behind w0 w1
    exact absurd ((hpr p (by omega)).2 hpp) (hn p (by omega))
  · exact ⟨c, hc, e, fun y => (hc2 y).trans ⟨fun h1 p hp hpv => h1 p hpv ((hpr p hpv).2 hp), fun h1 p hpv hp => h1 p ((hpr p hpv).1 hp) hpv⟩⟩
theorem TInv.step {succ : List (List Int)} {root : Int} {ord tl al : List Int} {T : Nat → Nat} {v : Nat} {D0 : Nat → Nat → Prop} (hO : OrderP succ root ord) (hat : ∀ k : Nat, k < ord.length → nth al (nth ord (k : Int)) = k) (h : TInv succ ord tl al T v D0) {w : Nat} (w0 : 0 < w) (w1 : w < ord.length) (wv : w ≤ v)
    (hst : ∀ z : Nat, 0 < z → z < w → Stable succ ord T v z) {c : Nat} (hcv : c < v) (hc : ∀ y, Dt T c y ↔ ∀ p, prO succ ord w p → p < v → Dt T p y) (hne : nth tl (nth ord (w : Int)) ≠ nth ord (c : Int)) :
    ∃ T' v' D0', TInv succ ord (tl.set (nth ord (w : Int)).toNat (nth ord (c : Int))) al T' v' D0' ∧ (ord.length - v') * 65 + msum T' v' < (ord.length - v) * 65 + msum T v := by
  have hle := h.le
  have hol := ord_len hO
  have hn64 := h.ta.n64
  have hwr := hO.at_ (k := (w : Int)) (by omega) (by omega)
  have hset : ∀ k : Nat, k < ord.length → nth (tl.set (nth ord (w : Int)).toNat (nth ord (c : Int))) (nth ord (k : Int)) = if k = w then nth ord (c : Int) else nth tl (nth ord (k : Int)) := fun k hk => by
    have hk0 := hO.at_ (k := (k : Int)) (by omega) (by omega)
    rw [nth_set hwr.1 (by rw [h.ta.ltr]; exact hwr.2) hk0.1]
    by_cases e : k = w
    · subst e; simp
    · rw [if_neg e, if_neg]
      intro e2
      have := hO.inj (by omega) (by omega) (by omega) (by omega) e2
      omega
  have hnone : ∀ x : Int, 0 ≤ x → x < succ.length → x ∉ ord → nth (tl.set (nth ord (w : Int)).toNat (nth ord (c : Int))) x = -2 := fun x x0 x1 hx => by
    rw [nth_set hwr.1 (by rw [h.ta.ltr]; exact hwr.2) x0, if_neg]
    · exact h.none_ x x0 x1 hx
    · intro e
      exact hx (e ▸ nth_mem (xs := ord) (i := (w : Int)) (by omega) (by omega))
  by_cases hwv : w < v
  · obtain ⟨h1, h2⟩ := h.dom.better (fun z z0 z1 => hO.behind z0 (by omega)) w0 hwv hc
    have hcT : c < T w := by
      have := h1.le h.dom.par
      by_cases e : c = T w
      · subst e; exact absurd (h.ta.tree w hwv) hne
      · omega
    have hcw : c < w := by have := h.dom.par.lt w w0; omega
    refine ⟨upd T w c, v, D0, ⟨⟨h2.par, h.ta.n64, by simp [h.ta.ltr], h.ta.lat, h.ta.rng, fun k hk => ?_, h.ta.place⟩, h2, h.le, fun k hk hk2 => ?_, hnone⟩, by have := msum_better hwv hcT; omega⟩
    · rw [hset k (by omega)]
      by_cases e : k = w
      · subst e; rw [if_pos rfl, show upd T k c k = c from if_pos rfl]
      · rw [if_neg e, show upd T w c k = T k from if_neg e]; exact h.ta.tree k hk
    · rw [hset k hk2, if_neg (by omega)]; exact h.wait k hk hk2
  · have hwe : w = v := by omega
    subst hwe
    have h2 := h.dom.more (hO.behind w0 w1) (fun z z0 z1 => (hst z z0 z1).2) hc
    refine ⟨upd T w c, w + 1, _, ⟨⟨h2.par, h.ta.n64, by simp [h.ta.ltr], h.ta.lat, fun k hk => hO.at_ (by omega) (by omega), fun k hk => ?_, fun k hk => hat k (by omega)⟩, h2, by omega, fun k hk hk2 => ?_, hnone⟩, ?_⟩
    · rw [hset k (by omega)]
      by_cases e : k = w
      · subst e; rw [if_pos rfl, show upd T k c k = c from if_pos rfl]
      · rw [if_neg e, show upd T w c k = T k from if_neg e]; exact h.ta.tree k (by omega)
    · rw [hset k hk2, if_neg (by omega)]; exact h.wait k (by omega) hk2
    · rw [msum_more]
      have : (ord.length - w) = (ord.length - (w + 1)) + 1 := by omega
      rw [this, Nat.add_mul]; omega
theorem TInv.same {succ : List (List Int)} {root : Int} {ord tl al : List Int} {T : Nat → Nat} {v : Nat} {D0 : Nat → Nat → Prop} (hO : OrderP succ root ord) (h : TInv succ ord tl al T v D0) {w : Nat} (w1 : w < ord.length)
    {c : Nat} (hcv : c < v) (hc : ∀ y, Dt T c y ↔ ∀ p, prO succ ord w p → p < v → Dt T p y) (he : nth tl (nth ord (w : Int)) = nth ord (c : Int)) : Stable succ ord T v w := by
  have hle := h.le
  have hwv : w < v := by
    apply Classical.byContradiction
    intro hn
    have h1 := h.wait w (by omega) w1
    have h2 := h.ta.rng c hcv
    omega
  have h1 := h.ta.tree w hwv
  rw [he] at h1
  have h2 := h.ta.inj hcv (h.ta.up hwv) h1
  exact ⟨hwv, fun y => by rw [← h2]; exact hc y⟩
theorem mem_edges : ∀ {s : List (List Int)} {k i t : Int}, (i, t) ∈ edgesFrom k s ↔ ∃ j : Nat, j < s.length ∧ i = k + j ∧ t ∈ nth s (j : Int)
  | [], k, i, t => by simp [edgesFrom]
  | r :: s, k, i, t => by
    simp only [edgesFrom, List.mem_append, List.mem_map, Prod.mk.injEq, mem_edges (s := s)]
    constructor
    · rintro (⟨u, hu, rfl, rfl⟩ | ⟨j, hj, e, ht⟩)
      · exact ⟨0, by simp, by omega, hu⟩
      · refine ⟨j + 1, by simp; omega, by omega, ?_⟩
        have : nth (r :: s) ((j + 1 : Nat) : Int) = nth s (j : Int) := by unfold nth; rfl
        rw [this]; exact ht
    · rintro ⟨j, hj, e, ht⟩
      cases j with
      | zero => exact .inl ⟨t, ht, by omega, rfl⟩
      | succ j =>
        refine .inr ⟨j, by simp at hj; omega, by omega, ?_⟩
        have : nth (r :: s) ((j + 1 : Nat) : Int) = nth s (j : Int) := by unfold nth; rfl
        rw [this] at ht; exact ht
theorem mem_preds {gr : GraphD} (h : mayG gr = true) {x : Int} (x0 : 0 ≤ x) (x1 : x < gr.succ.length) (p : Int) : p ∈ nth gr.pred x ↔ 0 ≤ p ∧ p < gr.succ.length ∧ x ∈ nth gr.succ p := by
  rw [may_pred h]
  have e : nth (predsD gr.succ) x = predsOf (edgesFrom 0 gr.succ) x.toNat := by
    unfold nth predsD
    rw [List.getD_eq_getElem?_getD, List.getElem?_map, List.getElem?_range (by omega)]; rfl
  rw [e]
  unfold predsOf
  simp only [List.mem_map, List.mem_filter, beq_iff_eq]
  constructor
  · rintro ⟨⟨i, t⟩, ⟨hm, ht⟩, rfl⟩
    obtain ⟨j, hj, e1, e2⟩ := mem_edges.1 hm
    simp only at ht e1 ⊢
    have : t = x := by omega
    subst this
    rw [show i = (j : Int) from by omega]
    exact ⟨by omega, by omega, e2⟩
  · rintro ⟨p0, p1, hx⟩
    refine ⟨(p, x), ⟨mem_edges.2 ⟨p.toNat, by omega, by omega, ?_⟩, by simp only; omega⟩, rfl⟩
    rw [show ((p.toNat : Nat) : Int) = p from by omega]
    exact hx
end Go.Proofs.YtakameggkkjcpaaGreat

/- Part 5 of the proof: A hammock that can be merged is one, and costs as many as its blocks between have; what is none costs nothing, and can't be merged: 'HammockCosts' answers true at every input. No conditions. -/
import Derived.Test.YtakameggkkjcpaaGreatCK4
import Derived.Laws.StructEq
set_option linter.unusedVariables false
set_option linter.unusedSimpArgs false
set_option maxRecDepth 4000
namespace Go.Proofs.YtakameggkkjcpaaGreat
open Go Go.RowKit
theorem rPath_calls {H : Hp} {A : Option Addr} {c : Nat} {tree : List Int} (ht : RdS H A tree) (h64 : tree.length ≤ 64) (a : Int) : CallG Tryz.prog 86 [.slice A tree.length c, .int .i64 a] H [] (fun v H' L' => ∃ A' c', v = .slice A' (pathD tree a).length c' ∧ (pathD tree a).length ≤ c' ∧ RdS H' A' (pathD tree a) ∧ L' = []) := by
 refine CallG.of Tryz.func86 rfl rfl rfl fun w0 => ?_
 refine WpG.g tabOK 11 rfl ?_
 refine WpG.ownNil 3 1 ?_
 refine WpG.wk (WpG.ind5 (fun (x : Int) (A5 : Option Addr) (n5 : Nat) (c5 : Nat) (l : List Int) => ⟨(tree.length - n5), [(0, .slice A tree.length c), (1, .int .i64 x), (5, .slice A5 n5 c5)], H, [Chunk.own 3 1 A5 c5 n5 (l.map iv)], n5 = l.length ∧ (pathD tree a = onto l (pathF tree (tree.length - l.length) x)) ∧ AllI l⟩) ?_ a none 0 0 [] ⟨rfl, by unfold onto pathD; simp, trivial⟩) rfl
 intro x A5 n5 c5 l inv ih1
 obtain ⟨p1, p2, p3⟩ := inv
 refine WpG.g tabOK 2 rfl ?_
 apply WpG.join (G := [(0, .slice A tree.length c), (1, .int .i64 x), (5, .slice A5 n5 c5), (20, .bool (((decide ((n5 : Int) < (tree.length : Int))) && (decide (x ≥ 0))) && (decide (x < (tree.length : Int)))))])
 ·intro nx1
  refine WpG.g tabOK 1 rfl ?_
  refine WpG.g tabOK 6 rfl ?_
  refine WpG.caseD (t := 11) rfl (fun q11 => ?_) (fun q11 => ?_)
  ·refine WpG.g tabOK 4 rfl ?_
   refine WpG.caseD (t := 15) rfl (fun q15 => ?_) (fun q15 => ?_)
   ·refine WpG.g tabOK 6 rfl ?_
    exact nx1.weak ⟨rfl, rfl, rfl, bq (by simp [q11, q15]), trivial⟩
   refine WpG.g tabOK 6 rfl ?_
   exact nx1.weak ⟨rfl, rfl, rfl, bq (by simp [q11, q15]), trivial⟩
  refine WpG.g tabOK 10 rfl ?_
  exact nx1.weak ⟨rfl, rfl, rfl, bq (by simp [q11]), trivial⟩
 refine WpG.caseB (t := 20) rfl (fun q20 => ?_) (fun q20 => ?_)
 ·have q20' := q20; simp only [Bool.or_eq_true, Bool.and_eq_true, beq_iff_eq, bne_iff_ne, decide_eq_true_eq, Bool.not_eq_true] at q20'
  refine WpG.g tabOK 7 rfl ?_
  refine WpG.buildSlice (xs := [.int .i64 x]) tabOK rfl rfl rfl rfl rfl rfl rfl rfl rfl rfl (fun b2 => ?_)
  refine WpG.append (ci := 1) tabOK rfl rfl rfl rfl rfl rfl rfl rfl rfl rfl rfl rfl (Src.own (ci := 0) rfl) (by omega) (fun A4 c5 => ?_)
  refine WpG.dropL (L' := [Chunk.own 3 1 A4 c5 (n5 + 1) ((l.map iv) ++ [.int .i64 x])]) (.cons _ (.cons_cons _ .slnil)) ?_
  refine WpG.setL (L' := [Chunk.own 3 1 A4 c5 (n5 + 1) ((l ++ [x]).map iv)]) (by rw [List.map_append]; rfl) ?_
  refine WpG.g tabOK 7 rfl ?_
  refine WpG.indexR tabOK rfl rfl rfl rfl rfl rfl rfl rfl rfl ht (by omega) (by omega) ?_
  rintro x6 hx6 b6 o6 _ ⟨rfl, k6⟩ hc6
  obtain rfl : x6 = (nth tree x) := hx6
  refine WpG.y rfl rfl rfl rfl (RunY.loadH tabOK hc6 hlr rfl rfl rfl rfl) ?_
  refine WpG.g tabOK 2 rfl ?_
  refine WpG.caseE (t := 29) rfl (fun q29 => ?_) (fun q29 => ?_)
  ·refine WpG.g tabOK 6 rfl ?_
   refine WpG.ownCap (ci := 0) rfl (fun uz7 => ?_)
   refine WpG.freezeOwn (ci := 0) rfl (fun H7 hH7 fz7 => ?_)
   have rz7 : RdS H7 A4 (l ++ [x]) := RdS.of_own (H := H) (show RdL H ((l ++ [x]).map iv) (l ++ [x]) from RdL_ints _ (AllI_app p3 ⟨⟨by omega, by omega⟩, trivial⟩)) ((by simp; omega)) (by simp; omega) hH7 fz7
   exact WpG.ret tabOK (L' := []) (.tmp rfl .nil) .slnil (path_ret (path_top_ p2 (by omega) (by omega) q29) (by simp; omega) uz7 rz7)
  refine WpG.g tabOK 5 rfl ?_
  refine WpG.indexR tabOK rfl rfl rfl rfl rfl rfl rfl rfl rfl ht (by omega) (by omega) ?_
  rintro x8 hx8 b8 o8 _ ⟨rfl, k8⟩ hc8
  obtain rfl : x8 = (nth tree x) := hx8
  refine WpG.y rfl rfl rfl rfl (RunY.loadH tabOK hc8 hlr rfl rfl rfl rfl) ?_
  refine WpG.g tabOK 4 rfl ?_
  refine WpG.wk (ih1 (nth tree x) A4 (n5 + 1) c5 (l ++ [x]) ?_ ?_) rfl
  ·dsimp only
   omega
  clear ih1
  exact ⟨by simp; omega, path_go p2 (by omega) (by omega) q29, AllI_app p3 ⟨⟨by omega, by omega⟩, trivial⟩⟩
 have q20' := q20; simp only [Bool.or_eq_false_iff, Bool.and_eq_false_iff, beq_eq_false_iff_ne, bne_eq_false_iff_eq, decide_eq_false_iff_not, Bool.not_eq_false] at q20'
 refine WpG.g tabOK 6 rfl ?_
 exact WpG.ret tabOK (L' := []) (.tmp rfl .nil) (.cons _ .slnil) ⟨none, 0, by rw [path_end p2 (by omega)]; rfl, by rw [path_end p2 (by omega)]; exact Nat.le_refl _, by rw [path_end p2 (by omega)]; exact RdS.nil _ _, rfl⟩
theorem rRight_calls {H : Hp} {A : Option Addr} {c : Nat} {tree : List Int} (ht : RdS H A tree) (h64 : tree.length ≤ 64) : CallG Tryz.prog 85 [.slice A tree.length c] H [] (fun v H' L' => v = .bool (rightD tree) ∧ L' = []) := by
 refine CallG.of Tryz.func85 rfl rfl rfl fun w0 => ?_
 refine WpG.g tabOK 15 rfl ?_
 refine WpG.wk (WpG.ind3 (fun (i : Int) (tops : Int) (G : Hp) => ⟨(tree.length - i).toNat, [(0, .slice A tree.length c), (3, .int .i64 tops), (4, .int .i64 i)], G, [], 0 ≤ i ∧ i ≤ tree.length ∧ (rightD tree = rightF tree (tree.drop i.toNat) i tops) ∧ 0 ≤ tops ∧ tops ≤ i ∧ H.le G⟩) ?_ 0 0 H ⟨Int.le_refl 0, by omega, rfl, Int.le_refl 0, Int.le_refl 0, Hp.le.refl _⟩) rfl
 intro i tops G inv ih1
 obtain ⟨i0, i1, i2, i3, i5, i4⟩ := inv
 refine WpG.g tabOK 8 rfl ?_
 refine WpG.caseD (t := 8) rfl (fun q8 => ?_) (fun q8 => ?_)
 ·refine WpG.g tabOK 9 rfl ?_
  refine WpG.indexR tabOK rfl rfl rfl rfl rfl rfl rfl rfl rfl ht (by omega) (by omega) ?_
  rintro x1 hx1 b1 o1 _ ⟨rfl, k1⟩ hc1
  obtain rfl : x1 = (nth tree i) := hx1
  refine WpG.y rfl rfl rfl rfl (RunY.loadH tabOK hc1 i4 rfl rfl rfl rfl) ?_
  refine WpG.g tabOK 2 rfl ?_
  refine WpG.caseE (t := 15) rfl (fun q15 => ?_) (fun q15 => ?_)
  ·refine WpG.gw tabOK 4 17 rfl (wrk (x := tops + 1) (by omega) (by omega)) ?_
   refine WpG.g tabOK 6 rfl ?_
   refine WpG.indexR tabOK rfl rfl rfl rfl rfl rfl rfl rfl rfl ht (by omega) (by omega) ?_
   rintro x2 hx2 b2 o2 _ ⟨rfl, k2⟩ hc2
   obtain rfl : x2 = (nth tree i) := hx2
   refine WpG.y rfl rfl rfl rfl (RunY.loadH tabOK hc2 i4 rfl rfl rfl rfl) ?_
   refine WpG.g tabOK 2 rfl ?_
   refine WpG.caseN (t := 23) rfl (fun q23 => ?_) (fun q23 => ?_)
   ·refine WpG.g tabOK 2 rfl ?_
    refine WpG.call0 rfl rfl rfl rfl rfl rfl (rPath_calls (ht.mono i4) h64 i) ?_
    rintro _ H3 _ hH3 ⟨A3, c3, rfl, u3, r3, rfl⟩
    refine WpG.g tabOK 4 rfl ?_
    refine WpG.caseE (t := 29) rfl (fun q29 => ?_) (fun q29 => ?_)
    ·refine WpG.g tabOK 5 rfl ?_
     exact WpG.ret tabOK (L' := []) (.tmp rfl .nil) .slnil ⟨congrArg Value.bool (by clear ih1; exact right_no i2 i0 q8 q23 (List.eq_nil_of_length_eq_zero (by omega))), rfl⟩
    refine WpG.gw tabOK 6 10 rfl (wrk (x := i + 1) (by omega) (by omega)) ?_
    refine WpG.g tabOK 3 rfl ?_
    refine WpG.wk (ih1 (i + 1) (tops + 1) H3 ?_ ?_) rfl
    ·dsimp only
     omega
    clear ih1
    exact ⟨by omega, by omega, by have z := right_step i2 i0 q8 (.inr (by intro e; rw [e] at q29; exact q29 rfl)); rw [if_pos q15] at z; exact z, by omega, by omega, i4.trans hH3⟩
   refine WpG.gw tabOK 13 10 rfl (wrk (x := i + 1) (by omega) (by omega)) ?_
   refine WpG.g tabOK 3 rfl ?_
   refine WpG.wk (ih1 (i + 1) (tops + 1) G ?_ ?_) rfl
   ·dsimp only
    omega
   clear ih1
   exact ⟨by omega, by omega, by have z := right_step i2 i0 q8 (.inl q23); rw [if_pos q15] at z; exact z, by omega, by omega, i4⟩
  refine WpG.g tabOK 6 rfl ?_
  refine WpG.indexR tabOK rfl rfl rfl rfl rfl rfl rfl rfl rfl ht (by omega) (by omega) ?_
  rintro x4 hx4 b4 o4 _ ⟨rfl, k4⟩ hc4
  obtain rfl : x4 = (nth tree i) := hx4
  refine WpG.y rfl rfl rfl rfl (RunY.loadH tabOK hc4 i4 rfl rfl rfl rfl) ?_
  refine WpG.g tabOK 2 rfl ?_
  refine WpG.caseN (t := 23) rfl (fun q23 => ?_) (fun q23 => ?_)
  ·refine WpG.g tabOK 2 rfl ?_
   refine WpG.call0 rfl rfl rfl rfl rfl rfl (rPath_calls (ht.mono i4) h64 i) ?_
   rintro _ H5 _ hH5 ⟨A5, c5, rfl, u5, r5, rfl⟩
   refine WpG.g tabOK 4 rfl ?_
   refine WpG.caseE (t := 29) rfl (fun q29 => ?_) (fun q29 => ?_)
   ·refine WpG.g tabOK 5 rfl ?_
    exact WpG.ret tabOK (L' := []) (.tmp rfl .nil) .slnil ⟨congrArg Value.bool (by clear ih1; exact right_no i2 i0 q8 q23 (List.eq_nil_of_length_eq_zero (by omega))), rfl⟩
   refine WpG.gw tabOK 6 10 rfl (wrk (x := i + 1) (by omega) (by omega)) ?_
   refine WpG.g tabOK 3 rfl ?_
   refine WpG.wk (ih1 (i + 1) tops H5 ?_ ?_) rfl
   ·dsimp only
    omega
   clear ih1
   exact ⟨by omega, by omega, by have z := right_step i2 i0 q8 (.inr (by intro e; rw [e] at q29; exact q29 rfl)); rw [if_neg q15] at z; exact z, by omega, by omega, i4.trans hH5⟩
  refine WpG.gw tabOK 13 10 rfl (wrk (x := i + 1) (by omega) (by omega)) ?_
  refine WpG.g tabOK 3 rfl ?_
  refine WpG.wk (ih1 (i + 1) tops G ?_ ?_) rfl
  ·dsimp only
   omega
  clear ih1
  exact ⟨by omega, by omega, by have z := right_step i2 i0 q8 (.inl q23); rw [if_neg q15] at z; exact z, by omega, by omega, i4⟩
 refine WpG.g tabOK 8 rfl ?_
 exact WpG.ret tabOK (L' := []) (.tmp rfl .nil) .slnil ⟨congrArg Value.bool (by clear ih1; exact right_end i2 i0 q8), rfl⟩
theorem rMeet_calls {H : Hp} {A : Option Addr} {c : Nat} {tree : List Int} (ht : RdS H A tree) (h64 : tree.length ≤ 64) (a b : Int) : CallG Tryz.prog 50 [.slice A tree.length c, .int .i64 a, .int .i64 b] H [] (fun v _ L' => v = .int .i64 (meetR tree a b) ∧ L' = []) := by
 refine CallG.of Tryz.func50 rfl rfl rfl fun w0 => ?_
 refine WpG.g tabOK 8 rfl ?_
 refine WpG.callS rfl rfl rfl rfl rfl rfl hlr (rRight_calls ht h64) ?_
 refine WpG.g tabOK 2 rfl ?_
 refine WpG.caseBn (t := 12) rfl (fun q12 => ?_) (fun q12 => ?_)
 ·refine WpG.g tabOK 5 rfl ?_
  exact WpG.ret tabOK (L' := []) (.tmp rfl .nil) .slnil ⟨congrArg (Value.int .i64) (by unfold meetR; rw [if_neg (nt q12)]), rfl⟩
 refine WpG.g tabOK 6 rfl ?_
 refine WpG.call0 rfl rfl rfl rfl rfl rfl (rPath_calls ht h64 a) ?_
 rintro _ H1 _ hH1 ⟨A1, c1, rfl, u1, r1, rfl⟩
 refine WpG.g tabOK 6 rfl ?_
 refine WpG.call0 rfl rfl rfl rfl rfl rfl (rPath_calls (ht.mono hH1) h64 b) ?_
 rintro _ H2 _ hH2 ⟨A2, c2, rfl, u2, r2, rfl⟩
 refine WpG.g tabOK 9 rfl ?_
 have hpl := r1.1
 refine WpG.wk (WpG.ind1 (fun (i : Int) => ⟨((pathD tree a).length - i).toNat, [(7, .slice A1 ((pathD tree a).length) c1), (8, .slice A2 ((pathD tree b).length) c2), (9, .int .i64 i)], H2, [], 0 ≤ i ∧ i ≤ (pathD tree a).length ∧ meetR tree a b = firstIn ((pathD tree a).drop i.toNat) (pathD tree b)⟩) ?_ 0 ⟨by omega, by omega, by unfold meetR; rw [if_pos q12]; rfl⟩) rfl
 intro i inv ih1
 obtain ⟨i0, i1, i2⟩ := inv
 refine WpG.g tabOK 8 rfl ?_
 refine WpG.caseD (t := 22) rfl (fun q22 => ?_) (fun q22 => ?_)
 ·refine WpG.g tabOK 9 rfl ?_
  refine WpG.indexR tabOK rfl rfl rfl rfl rfl rfl rfl rfl rfl r1 (by omega) (by omega) ?_
  rintro x3 hx3 b3 o3 _ ⟨rfl, k3⟩ hc3
  obtain rfl : x3 = (nth (pathD tree a) i) := hx3
  refine WpG.y rfl rfl rfl rfl (RunY.loadH tabOK hc3 hH2 rfl rfl rfl rfl) ?_
  refine WpG.callS rfl rfl rfl rfl rfl rfl hlr (rHas_calls r2 (nth (pathD tree a) i)) ?_
  refine WpG.g tabOK 1 rfl ?_
  refine WpG.caseB (t := 30) rfl (fun q30 => ?_) (fun q30 => ?_)
  ·refine WpG.g tabOK 5 rfl ?_
   refine WpG.indexR tabOK rfl rfl rfl rfl rfl rfl rfl rfl rfl r1 (by omega) (by omega) ?_
   rintro x4 hx4 b4 o4 _ ⟨rfl, k4⟩ hc4
   obtain rfl : x4 = (nth (pathD tree a) i) := hx4
   refine WpG.y rfl rfl rfl rfl (RunY.loadH tabOK hc4 hH2 rfl rfl rfl rfl) ?_
   refine WpG.g tabOK 2 rfl ?_
   exact WpG.ret tabOK (L' := []) (.tmp rfl .nil) .slnil ⟨congrArg (Value.int .i64) (by clear ih1; exact first_yes i2 i0 q22 q30), rfl⟩
  refine WpG.gw tabOK 6 24 rfl (wrk (x := i + 1) (by omega) (by omega)) ?_
  refine WpG.g tabOK 3 rfl ?_
  refine WpG.wk (ih1 (i + 1) ?_ ?_) rfl
  ·dsimp only
   omega
  clear ih1
  exact ⟨by omega, by omega, first_step i2 i0 q22 q30⟩
 refine WpG.g tabOK 6 rfl ?_
 exact WpG.ret tabOK (L' := []) (.tmp rfl .nil) .slnil ⟨congrArg (Value.int .i64) (by clear ih1; exact first_no i2 i0 q22), rfl⟩
end Go.Proofs.YtakameggkkjcpaaGreat
namespace Go.Proofs.YtakameggkkjcpaaGreat
open Go Go.RowKit
section
variable {S : List (List Int)} {tl : List Int}
open Classical in
noncomputable def domN (S : List (List Int)) (x : Int) : Nat := ((List.range S.length).filter fun (y : Nat) => decide (¬ RchN S 0 (y : Int) x)).length
theorem filter_lt {p q : Nat → Bool} : ∀ (l : List Nat) (a : Nat), a ∈ l → (∀ x ∈ l, q x = true → p x = true) → p a = true → q a = false → (l.filter q).length < (l.filter p).length
  | [], a, h, _, _, _ => by cases h
  | x :: l, a, h, hs, hp, hq => by
    have hle : ∀ l : List Nat, (∀ x ∈ l, q x = true → p x = true) → (l.filter q).length ≤ (l.filter p).length := fun l => by
      induction l with
      | nil => intro _; simp
      | cons y l ih =>
        intro h
        have h1 := ih fun z hz => h z (.tail _ hz)
        have h2 := h y (.head _)
        simp only [List.filter_cons]
        by_cases e : q y = true
        · rw [if_pos e, if_pos (h2 e)]; simp only [List.length_cons]; omega
        · rw [if_neg e]; split <;> (try simp only [List.length_cons]) <;> omega
    rcases List.mem_cons.1 h with e | h
    · subst e
      have h1 := hle l fun z hz => hs z (.tail _ hz)
      simp only [List.filter_cons, hp, if_true, hq, Bool.false_eq_true, if_false, List.length_cons]; omega
    · have h1 := filter_lt l a h (fun z hz => hs z (.tail _ hz)) hp hq
      have h2 := hs x (.head _)
      simp only [List.filter_cons]
      by_cases e : q x = true
      · rw [if_pos e, if_pos (h2 e)]; simp only [List.length_cons]; omega
      · rw [if_neg e]; split <;> (try simp only [List.length_cons]) <;> omega
theorem domN_up (h : TreeP S 0 tl) {x : Int} (hx : RchN S 0 (-1) x) (h0 : x ≠ 0) : domN S (nth tl x) < domN S x := by
  obtain ⟨h1, h2, h3⟩ := h.up x hx h0
  have hr := h.range x hx
  unfold domN
  refine filter_lt _ x.toNat (List.mem_range.2 (by omega)) (fun y hy hq => ?_) ?_ ?_
  · simp only [decide_eq_true_eq] at hq ⊢
    intro hc
    by_cases e : (y : Int) = x
    · rw [e] at hc; exact hc.ne rfl
    · exact hq ((h3 y e).1 hc)
  · simp only [decide_eq_true_eq]
    rw [show ((x.toNat : Nat) : Int) = x from by omega]
    exact fun hc => hc.ne rfl
  · simp only [decide_eq_false_iff_not, Classical.not_not]
    rw [show ((x.toNat : Nat) : Int) = x from by omega]
    exact h2
theorem domN_pos {x : Int} (h0 : 0 ≤ x) (h1 : x < S.length) : 1 ≤ domN S x := by
  unfold domN
  refine List.length_pos_of_mem (a := x.toNat) (List.mem_filter.2 ⟨List.mem_range.2 (by omega), ?_⟩)
  simp only [decide_eq_true_eq]
  rw [show ((x.toNat : Nat) : Int) = x from by omega]
  exact fun hc => hc.ne rfl
theorem domN_le (x : Int) : domN S x ≤ S.length := by
  unfold domN
  exact Nat.le_trans (List.length_filter_le _ _) (by simp)
theorem depth_reach (h : TreeP S 0 tl) : ∀ (k : Nat) {x n : Int}, RchN S 0 (-1) x → domN S x ≤ k + 1 → 0 ≤ n → 0 ≤ depthF tl (k + 1) n x
  | k, x, n, hx, hk, hn => by
    have hr := h.range x hx
    have hl := h.len
    rw [depthF_succ, if_neg (by omega)]
    by_cases h0 : x = 0
    · rw [h0, h.top, if_pos rfl]; exact hn
    · obtain ⟨h1, h2, h3⟩ := h.up x hx h0
      have hr1 := h.range _ h1
      rw [if_neg (by omega)]
      have hd := domN_up h hx h0
      have hp := domN_pos (S := S) hr1.1 hr1.2
      match k, hk with
      | 0, hk => omega
      | k + 1, hk => exact depth_reach h k h1 (by omega) (by omega)
theorem depth_reached (h : TreeP S 0 tl) {x : Int} (hx : RchN S 0 (-1) x) : 0 ≤ depthD tl x := by
  have hr := h.range x hx
  have hl := h.len
  have hd := domN_le (S := S) x
  unfold depthD
  obtain ⟨k, hk⟩ : ∃ k, tl.length = k + 1 := ⟨tl.length - 1, by omega⟩
  rw [hk]; exact depth_reach h k hx (by omega) (Int.le_refl 0)
theorem depth_not (h : TreeP S 0 tl) {x : Int} (h0 : 0 ≤ x) (h1 : x < S.length) (hx : ¬ RchN S 0 (-1) x) : depthD tl x < 0 := by
  have hn := h.none_ x h0 h1 hx
  have hl := h.len
  unfold depthD
  obtain ⟨k, hk⟩ : ∃ k, tl.length = k + 1 := ⟨tl.length - 1, by omega⟩
  rw [hk, depthF_succ, if_neg (by omega), hn, if_neg (by decide)]
  cases k with
  | zero => simp [depthF]
  | succ k => rw [depthF_succ, if_pos (by omega)]; decide
theorem rightF_yes (tree : List Int) : ∀ (l : List Int) (a tops : Int), (∀ k : Int, 0 ≤ k → k < l.length → nth l k = -2 ∨ 0 ≤ depthD tree (a + k)) → tops + l.count (-1) = 1 → rightF tree l a tops = true
  | [], a, tops, _, h => by simpa [rightF] using h
  | x :: l, a, tops, hs, h => by
    simp only [rightF]
    have hx := hs 0 (by omega) (by simp)
    rw [if_neg (fun hc => by
      rcases hx with e | e
      · exact hc.1 e
      · rw [Int.add_zero] at e; omega)]
    refine rightF_yes tree l (a + 1) _ (fun k k0 k1 => ?_) ?_
    · have := hs (k + 1) (by omega) (by simp; omega)
      rw [show a + (k + 1) = a + 1 + k from by omega] at this
      have e : nth (x :: l) (k + 1) = nth l k := by unfold nth; rw [toNat_succ k0]; rfl
      rw [e] at this; exact this
    · rw [List.count_cons] at h
      by_cases e : x = -1
      · rw [if_pos e]; simp [e] at h; omega
      · rw [if_neg e]; simp [e] at h; omega
theorem tree_right (h : TreeP S 0 tl) (hS : 0 < S.length) : rightD tl = true := by
  have hl := h.len
  have ht := h.top
  unfold rightD
  refine rightF_yes tl tl 0 0 (fun k k0 k1 => ?_) ?_
  · rw [Int.zero_add]
    by_cases hx : RchN S 0 (-1) k
    · exact .inr (depth_reached h hx)
    · exact .inl (h.none_ k k0 (by omega) hx)
  · match tl, hl, ht, h with
    | [], hl, _, _ => simp at hl; omega
    | x :: l, hl, ht, h =>
      have hx : x = -1 := ht
      have : l.count (-1) = 0 := by
        rw [List.count_eq_zero]
        intro hm
        obtain ⟨j, hj, e⟩ := List.mem_iff_getElem.1 hm
        have e2 : nth (x :: l) ((j : Int) + 1) = -1 := by
          unfold nth; rw [toNat_succ (by omega)]
          show (x :: l).getD (j + 1) default = -1
          simp [hj, e]
        have hj2 : ((j : Int) + 1) < S.length := by simp at hl; omega
        by_cases hx : RchN S 0 (-1) ((j : Int) + 1)
        · have := h.range _ (h.up _ hx (by omega)).1; omega
        · have := h.none_ _ (by omega) hj2 hx; omega
      rw [List.count_cons, this, hx]; rfl
theorem reach_over (h : TreeP S 0 tl) {x : Int} (h0 : 0 ≤ x) (h1 : x < S.length) : overD tl x x = true ↔ RchN S 0 (-1) x := by
  have hr := tree_right h (by omega)
  constructor
  · intro ho
    unfold overD at ho
    simp only [Bool.and_eq_true] at ho
    have := in_two ho.1
    apply Classical.byContradiction
    intro hx
    have := depth_not h h0 h1 hx
    omega
  · intro hx
    have hd := depth_reached h hx
    have hi : inD tl [x, x] = true := by
      unfold inD; rw [hr]; simp; omega
    unfold overD meetD
    rw [if_pos hi, hi, meet_same]; simp
end
def mostD (lv : Int) : Int := if lv = 0 then 17 else if lv = 1 then 20 else 22
theorem of_bad_ {lv : Int} {o : OpD} (l0 : 0 ≤ lv) (l1 : lv ≤ 2) : ofOpD lv o = !(!mayO o || decide (o.kind > mostD lv) || (decide (lv < 2) && decide (o.lanes > 1))) := by
  unfold ofOpD mostD
  by_cases hm : mayO o = true
  · have hk := may_kind hm
    rw [hm]
    have : lv = 0 ∨ lv = 1 ∨ lv = 2 := by omega
    rcases this with rfl | rfl | rfl
    · by_cases a : o.lanes > 1 <;> by_cases b : o.kind > 17 <;> by_cases c : o.kind > 20 <;> simp [a, b, c] <;> omega
    · by_cases a : o.lanes > 1 <;> by_cases c : o.kind > 20 <;> simp [a, c]
    · simp; omega
  · have hm' : mayO o = false := by simpa using hm
    rw [hm']; simp
theorem of_t {lv : Int} {o : OpD} (l0 : 0 ≤ lv) (l1 : lv ≤ 2) (h : (!mayO o || decide (o.kind > mostD lv) || (decide (lv < 2) && decide (o.lanes > 1))) = true) : ofOpD lv o = false := by rw [of_bad_ l0 l1, h]; rfl
theorem of_f {lv : Int} {o : OpD} (l0 : 0 ≤ lv) (l1 : lv ≤ 2) (h : (!mayO o || decide (o.kind > mostD lv) || (decide (lv < 2) && decide (o.lanes > 1))) = false) : ofOpD lv o = true := by rw [of_bad_ l0 l1, h]; rfl
def typA (lv : Int) (b : BlockD) : Bool := b.phis.all (fun p => mayW p.bits) && b.ops.all (fun o => ofOpD lv o)
theorem typed_all (f : FuncD) (lv : Int) : typedD f lv = (mayW f.ret && (f.params.all mayW && f.blocks.all (typA lv))) := by
  unfold typedD
  rw [any_not]
  congr 3
  funext b
  unfold typedB typA
  rw [any_not, any_not]
theorem typ_p {lv : Int} {b : BlockD} (h : b.phis.all (fun p => mayW p.bits) = false) : typA lv b = false := by unfold typA; rw [h]; rfl
theorem typ_o {lv : Int} {b : BlockD} (h : b.ops.all (fun o => ofOpD lv o) = false) : typA lv b = false := by unfold typA; rw [h]; simp
theorem typ_y {lv : Int} {b : BlockD} (h1 : b.phis.all (fun p => mayW p.bits) = true) (h : b.ops.all (fun o => ofOpD lv o) = true) : typA lv b = true := by unfold typA; rw [h, h1]; rfl
theorem typed1 {f : FuncD} {lv : Int} (h : f.params.all mayW = false) : false = typedD f lv := by rw [typed_all, h]; simp
theorem typed2 {f : FuncD} {lv : Int} (h : f.blocks.all (typA lv) = false) : false = typedD f lv := by rw [typed_all, h]; simp
theorem typed3 {f : FuncD} {lv : Int} (h : f.params.all mayW = true) (h2 : f.blocks.all (typA lv) = true) : mayW f.ret = typedD f lv := by rw [typed_all, h, h2]; simp
def badB (bs : List Bool) (i : Int) (e : EndD) : Bool := !(nth bs i) || ((e.kind == 1 || e.kind == 3) && e.arg != 0)
theorem fitR_no {f : FuncD} {g : GraphD} {tl : List Int} {bs : List Bool} {i : Int} {r : Bool} (h : r = fitFrom g tl i (f.blocks.drop i.toNat)) (ht : TreeP g.succ 0 tl) (hx : RExact g.succ 0 (-1) bs) (hl : g.succ.length = f.blocks.length) (i0 : 0 ≤ i) (i1 : i < f.blocks.length) (hb : badB bs i (nth f.blocks i).en = true) : false = r := by
  refine (fit_no h i0 i1 rfl ?_).symm
  unfold badB at hb
  simp only [Bool.or_eq_true, Bool.not_eq_true'] at hb
  rcases hb with hb | hb
  · left
    cases ho : overD tl i i with
    | false => rfl
    | true =>
      have := (hx.2 i i0 (by omega)).2 ((reach_over ht i0 (by omega)).1 ho)
      rw [hb] at this; cases this
  · right; right
    unfold endFit; rw [hb]; rfl
theorem fitR_go {f : FuncD} {g : GraphD} {tl : List Int} {bs : List Bool} {i : Int} {r : Bool} (h : r = fitFrom g tl i (f.blocks.drop i.toNat)) (ht : TreeP g.succ 0 tl) (hx : RExact g.succ 0 (-1) bs) (hl : g.succ.length = f.blocks.length) (i0 : 0 ≤ i) (i1 : i < f.blocks.length) (hb : badB bs i (nth f.blocks i).en = false)
    (hp : (nth f.blocks i).phis.all (phiFit (nth g.pred i)) = true) : r = fitFrom g tl (i + 1) (f.blocks.drop (i + 1).toNat) := by
  unfold badB at hb
  simp only [Bool.or_eq_false_iff, Bool.not_eq_false'] at hb
  refine fit_go h i0 i1 rfl ((reach_over ht i0 (by omega)).2 ((hx.2 i i0 (by omega)).1 hb.1)) hp ?_
  unfold endFit; rw [hb.2]; rfl
def FitTo (f : FuncD) (m : Int) : Prop := ∀ x : Int, 0 ≤ x → x < m → RchN (ofD f).1.succ 0 (-1) x ∧ (nth f.blocks x).phis.all (phiFit (nth (ofD f).1.pred x)) = true
def FitAll (f : FuncD) : Prop := FitTo f f.blocks.length
theorem FitTo.zero {f : FuncD} : FitTo f 0 := fun x x0 x1 => by omega
theorem FitTo.step {f : FuncD} {bs : List Bool} {i : Int} (h : FitTo f i) (hx : RExact (ofD f).1.succ 0 (-1) bs) (hl : (ofD f).1.succ.length = f.blocks.length) (i0 : 0 ≤ i) (i1 : i < f.blocks.length) (hb : badB bs i (nth f.blocks i).en = false) (hp : (nth f.blocks i).phis.all (phiFit (nth (ofD f).1.pred i)) = true) : FitTo f (i + 1) := fun x x0 x1 => by
  by_cases e : x = i
  · subst e
    unfold badB at hb
    simp only [Bool.or_eq_false_iff, Bool.not_eq_false'] at hb
    exact ⟨(hx.2 x i0 (by omega)).1 hb.1, hp⟩
  · exact h x x0 (by omega)
theorem FitTo.all {f : FuncD} {i : Int} (h : FitTo f i) (hi : ¬ i < f.blocks.length) : FitAll f := fun x x0 x1 => h x x0 (by omega)
theorem phiR_no {pd : List Int} {p : PhiD} (h : (pd.length : Int) = 0 ∨ eqL p.frm pd = false ∨ (p.args.length : Int) ≠ pd.length) : phiFit pd p = false := by
  by_cases h2 : eqL p.frm pd = true
  · have e := eqL_eq.1 h2
    subst e
    rcases h with h | h | h
    · exact phiFit_no (.inl h)
    · exact phiFit_no (.inr (.inl h))
    · exact phiFit_no (.inr (.inr h))
  · exact phiFit_no (.inr (.inl (by simpa using h2)))
theorem phiR_yes {pd : List Int} {p : PhiD} (h : (pd.length : Int) ≠ 0) (h2 : eqL p.frm pd = true) (h3 : (p.args.length : Int) = pd.length) : phiFit pd p = true := by
  have e := eqL_eq.1 h2
  subst e
  exact phiFit_yes h h2 h3
theorem of_rows {f : FuncD} (h : (ofD f).2 = 0) : Rows (ofD f).1.succ ∧ (ofD f).1.succ.length = f.blocks.length ∧ (ofD f).1.pred.length = f.blocks.length ∧ 0 < f.blocks.length ∧ mayG (ofD f).1 = true := by
  obtain ⟨h1, h2, h3, h4, _⟩ := of_ok h
  have hr := makeOK_rows h2
  refine ⟨?_, ?_, ?_, ?_, h4⟩
  · rw [h3]; exact ⟨hr.2.1, hr.2.2⟩
  · rw [h3]; simp
  · rw [h3]; simp [predsD]
  · have := hr.1; rw [List.length_map] at this; omega
end Go.Proofs.YtakameggkkjcpaaGreat
set_option maxRecDepth 4000
namespace Go.Proofs.YtakameggkkjcpaaGreat
open Go Go.RowKit
theorem rTyped_calls {H : Hp} {f : FuncD} {cs_f : List Value} (rd_f : Rdc.rd H cs_f f) (lv : Int) (l0 : 0 ≤ lv) (l1 : lv ≤ 2) : CallG Tryz.prog 44 [.agg cs_f.toArray, .int .i64 lv] H [] (fun v _ L' => v = .bool (typedD f lv) ∧ L' = []) := by
 have rd_f' := rd_f; obtain ⟨A_f_0, c_f_0, A_f_2, c_f_2, rfl, u_f_0, r_f_0, u_f_2, r_f_2, k_f_0⟩ := rd_f
 have bf := r_f_2.1; have bp := r_f_0.1
 refine CallG.of Tryz.func44 rfl rfl rfl fun w0 => ?_
 refine WpG.g tabOK 2 rfl ?_
 refine WpG.box rfl rfl rfl rfl rfl (fun b1 => ?_)
 refine WpG.freezeBox (ci := 0) rfl (fun H2 hH2 hc2 => ?_)
 refine WpG.g tabOK 9 rfl ?_
 refine WpG.wk (WpG.ind1 (fun (a : Int) => ⟨(f.params.length - a).toNat, [(1, .int .i64 lv), (2, .pointer (some ⟨b1, 0, none⟩)), (5, .int .i64 a)], H2, [], 0 ≤ a ∧ a ≤ f.params.length ∧ f.params.all mayW = (f.params.drop a.toNat).all mayW⟩) ?_ 0 ⟨by omega, by omega, rfl⟩) rfl
 intro a inv ih1
 obtain ⟨a0, a1, a2⟩ := inv
 refine WpG.g tabOK 5 rfl ?_
 refine WpG.y rfl rfl rfl rfl (RunY.loadH tabOK (hc2.sub 0 1) hlr rfl rfl rfl rfl) ?_
 refine WpG.g tabOK 3 rfl ?_
 refine WpG.caseD (t := 15) rfl (fun q15 => ?_) (fun q15 => ?_)
 ·refine WpG.g tabOK 7 rfl ?_
  refine WpG.y rfl rfl rfl rfl (RunY.loadH tabOK (hc2.sub 0 1) hlr rfl rfl rfl rfl) ?_
  refine WpG.g tabOK 1 rfl ?_
  refine WpG.indexR tabOK rfl rfl rfl rfl rfl rfl rfl rfl rfl r_f_0 (by omega) (by omega) ?_
  rintro x3 hx3 b3 o3 _ ⟨rfl, k3⟩ hc3
  obtain rfl : x3 = (nth f.params a) := hx3
  refine WpG.y rfl rfl rfl rfl (RunY.loadH tabOK hc3 hH2 rfl rfl rfl rfl) ?_
  refine WpG.callS rfl rfl rfl rfl rfl rfl hlr (rMayW_calls (nth f.params a)) ?_
  refine WpG.g tabOK 2 rfl ?_
  refine WpG.caseBn (t := 24) rfl (fun q24 => ?_) (fun q24 => ?_)
  ·refine WpG.g tabOK 5 rfl ?_
   exact WpG.ret tabOK (L' := []) (.tmp rfl .nil) .slnil ⟨congrArg Value.bool (by clear ih1; exact typed1 (all_no a2 a0 q15 rfl q24)), rfl⟩
  refine WpG.gw tabOK 6 17 rfl (wrk (x := a + 1) (by omega) (by omega)) ?_
  refine WpG.g tabOK 3 rfl ?_
  refine WpG.wk (ih1 (a + 1) ?_ ?_) rfl
  ·dsimp only
   omega
  clear ih1
  exact ⟨by omega, by omega, all_step a2 a0 q15 rfl q24⟩
 refine WpG.g tabOK 9 rfl ?_
 refine WpG.wk (WpG.ind1 (fun (i : Int) => ⟨(f.blocks.length - i).toNat, [(1, .int .i64 lv), (2, .pointer (some ⟨b1, 0, none⟩)), (6, .int .i64 i)], H2, [], 0 ≤ i ∧ i ≤ f.blocks.length ∧ f.blocks.all (typA lv) = (f.blocks.drop i.toNat).all (typA lv)⟩) ?_ 0 ⟨by omega, by omega, rfl⟩) rfl
 intro i inv ih2
 obtain ⟨i0, i1, i2⟩ := inv
 refine WpG.g tabOK 5 rfl ?_
 refine WpG.y rfl rfl rfl rfl (RunY.loadH tabOK (hc2.sub 2 1) hlr rfl rfl rfl rfl) ?_
 refine WpG.g tabOK 3 rfl ?_
 refine WpG.caseD (t := 29) rfl (fun q29 => ?_) (fun q29 => ?_)
 ·refine WpG.g tabOK 11 rfl ?_
  refine WpG.wk (WpG.ind1 (fun (j : Int) => ⟨((nth f.blocks i).phis.length - j).toNat, [(1, .int .i64 lv), (2, .pointer (some ⟨b1, 0, none⟩)), (6, .int .i64 i), (7, .int .i64 j)], H2, [], 0 ≤ j ∧ j ≤ (nth f.blocks i).phis.length ∧ (nth f.blocks i).phis.all (fun p => mayW p.bits) = ((nth f.blocks i).phis.drop j.toNat).all (fun p => mayW p.bits)⟩) ?_ 0 ⟨by omega, by omega, rfl⟩) rfl
  intro j inv ih3
  obtain ⟨j0, j1, j2⟩ := inv
  refine WpG.g tabOK 5 rfl ?_
  refine WpG.y rfl rfl rfl rfl (RunY.loadH tabOK (hc2.sub 2 1) hlr rfl rfl rfl rfl) ?_
  refine WpG.g tabOK 1 rfl ?_
  refine WpG.indexR tabOK rfl rfl rfl rfl rfl rfl rfl rfl rfl r_f_2 (by omega) (by omega) ?_
  rintro x4 hx4 b4 o4 cs4 rd4 hc4
  have rd4' := rd4; obtain ⟨A4_0, c4_0, A4_1, c4_1, A4_4, c4_4, rfl, u4_0, r4_0, u4_1, r4_1, u4_4, r4_4, k4_0, k4_1⟩ := rd4
  have bz4_0 := r4_0.1
  have bz4_1 := r4_1.1
  have bz4_4 := r4_4.1
  obtain rfl : x4 = (nth f.blocks i) := hx4
  refine WpG.g tabOK 1 rfl ?_
  refine WpG.y rfl rfl rfl rfl (RunY.loadH tabOK (hc4.sub 0 1) hH2 rfl rfl rfl rfl) ?_
  refine WpG.g tabOK 3 rfl ?_
  refine WpG.caseD (t := 40) rfl (fun q40 => ?_) (fun q40 => ?_)
  ·refine WpG.g tabOK 7 rfl ?_
   refine WpG.y rfl rfl rfl rfl (RunY.loadH tabOK (hc2.sub 2 1) hlr rfl rfl rfl rfl) ?_
   refine WpG.g tabOK 1 rfl ?_
   refine WpG.indexR tabOK rfl rfl rfl rfl rfl rfl rfl rfl rfl r_f_2 (by omega) (by omega) ?_
   rintro x5 hx5 b5 o5 cs5 rd5 hc5
   have rd5' := rd5; obtain ⟨A5_0, c5_0, A5_1, c5_1, A5_4, c5_4, rfl, u5_0, r5_0, u5_1, r5_1, u5_4, r5_4, k5_0, k5_1⟩ := rd5
   have bz5_0 := r5_0.1
   have bz5_1 := r5_1.1
   have bz5_4 := r5_4.1
   obtain rfl : x5 = (nth f.blocks i) := hx5
   refine WpG.g tabOK 1 rfl ?_
   refine WpG.y rfl rfl rfl rfl (RunY.loadH tabOK (hc5.sub 0 1) hH2 rfl rfl rfl rfl) ?_
   refine WpG.g tabOK 1 rfl ?_
   refine WpG.indexR tabOK rfl rfl rfl rfl rfl rfl rfl rfl rfl r5_0 (by omega) (by omega) ?_
   rintro x6 hx6 b6 o6 cs6 rd6 hc6
   have rd6' := rd6; obtain ⟨A6_2, c6_2, A6_3, c6_3, rfl, u6_2, r6_2, u6_3, r6_3, k6_0, k6_1⟩ := rd6
   have bz6_2 := r6_2.1
   have bz6_3 := r6_3.1
   obtain rfl : x6 = (nth ((nth f.blocks i).phis) j) := hx6
   refine WpG.g tabOK 1 rfl ?_
   refine WpG.y rfl rfl rfl rfl (RunY.loadH tabOK (hc6.sub 0 1) hH2 rfl rfl rfl rfl) ?_
   refine WpG.callS rfl rfl rfl rfl rfl rfl hlr (rMayW_calls ((nth ((nth f.blocks i).phis) j).bits)) ?_
   refine WpG.g tabOK 2 rfl ?_
   refine WpG.caseBn (t := 54) rfl (fun q54 => ?_) (fun q54 => ?_)
   ·refine WpG.g tabOK 5 rfl ?_
    exact WpG.ret tabOK (L' := []) (.tmp rfl .nil) .slnil ⟨congrArg Value.bool (by clear ih1 ih2 ih3; exact typed2 (all_no i2 i0 q29 rfl (typ_p (all_no j2 j0 q40 rfl q54)))), rfl⟩
   refine WpG.gw tabOK 6 42 rfl (wrk (x := j + 1) (by omega) (by omega)) ?_
   refine WpG.g tabOK 3 rfl ?_
   refine WpG.wk (ih3 (j + 1) ?_ ?_) rfl
   ·dsimp only
    omega
   clear ih1 ih2 ih3
   exact ⟨by omega, by omega, all_step j2 j0 q40 rfl q54⟩
  refine WpG.g tabOK 8 rfl ?_
  refine WpG.wk (WpG.ind1 (fun (k : Int) => ⟨((nth f.blocks i).ops.length - k).toNat, [(1, .int .i64 lv), (2, .pointer (some ⟨b1, 0, none⟩)), (6, .int .i64 i), (8, .int .i64 k)], H2, [], 0 ≤ k ∧ k ≤ (nth f.blocks i).ops.length ∧ (nth f.blocks i).ops.all (fun o => ofOpD lv o) = ((nth f.blocks i).ops.drop k.toNat).all (fun o => ofOpD lv o)⟩) ?_ 0 ⟨by omega, by omega, rfl⟩) rfl
  intro k inv ih4
  obtain ⟨k0, k1, k2⟩ := inv
  refine WpG.g tabOK 5 rfl ?_
  refine WpG.y rfl rfl rfl rfl (RunY.loadH tabOK (hc2.sub 2 1) hlr rfl rfl rfl rfl) ?_
  refine WpG.g tabOK 1 rfl ?_
  refine WpG.indexR tabOK rfl rfl rfl rfl rfl rfl rfl rfl rfl r_f_2 (by omega) (by omega) ?_
  rintro x7 hx7 b7 o7 cs7 rd7 hc7
  have rd7' := rd7; obtain ⟨A7_0, c7_0, A7_1, c7_1, A7_4, c7_4, rfl, u7_0, r7_0, u7_1, r7_1, u7_4, r7_4, k7_0, k7_1⟩ := rd7
  have bz7_0 := r7_0.1
  have bz7_1 := r7_1.1
  have bz7_4 := r7_4.1
  obtain rfl : x7 = (nth f.blocks i) := hx7
  refine WpG.g tabOK 1 rfl ?_
  refine WpG.y rfl rfl rfl rfl (RunY.loadH tabOK (hc7.sub 1 1) hH2 rfl rfl rfl rfl) ?_
  refine WpG.g tabOK 3 rfl ?_
  refine WpG.caseD (t := 63) rfl (fun q63 => ?_) (fun q63 => ?_)
  ·refine WpG.g tabOK 7 rfl ?_
   refine WpG.y rfl rfl rfl rfl (RunY.loadH tabOK (hc2.sub 2 1) hlr rfl rfl rfl rfl) ?_
   refine WpG.g tabOK 1 rfl ?_
   refine WpG.indexR tabOK rfl rfl rfl rfl rfl rfl rfl rfl rfl r_f_2 (by omega) (by omega) ?_
   rintro x8 hx8 b8 o8 cs8 rd8 hc8
   have rd8' := rd8; obtain ⟨A8_0, c8_0, A8_1, c8_1, A8_4, c8_4, rfl, u8_0, r8_0, u8_1, r8_1, u8_4, r8_4, k8_0, k8_1⟩ := rd8
   have bz8_0 := r8_0.1
   have bz8_1 := r8_1.1
   have bz8_4 := r8_4.1
   obtain rfl : x8 = (nth f.blocks i) := hx8
   refine WpG.g tabOK 1 rfl ?_
   refine WpG.y rfl rfl rfl rfl (RunY.loadH tabOK (hc8.sub 1 1) hH2 rfl rfl rfl rfl) ?_
   refine WpG.g tabOK 1 rfl ?_
   refine WpG.indexR tabOK rfl rfl rfl rfl rfl rfl rfl rfl rfl r8_1 (by omega) (by omega) ?_
   rintro x9 hx9 b9 o9 cs9 rd9 hc9
   have rd9' := rd9; obtain ⟨A9_4, c9_4, rfl, u9_4, r9_4, k9_0, k9_1, k9_2, k9_3, k9_4⟩ := rd9
   have bz9_4 := r9_4.1
   obtain rfl : x9 = (nth ((nth f.blocks i).ops) k) := hx9
   refine WpG.y rfl rfl rfl rfl (RunY.loadH tabOK hc9 hH2 rfl rfl rfl rfl) ?_
   refine WpG.alloc tabOK rfl rfl rfl rfl rfl (fun b10 => ?_)
   refine WpG.storeBox (ci := 0) (cs' := [.int .i64 ((nth ((nth f.blocks i).ops) k).kind), .int .i64 ((nth ((nth f.blocks i).ops) k).bits), .int .i64 ((nth ((nth f.blocks i).ops) k).lanes), .int .i64 ((nth ((nth f.blocks i).ops) k).dst), .slice A9_4 ((nth ((nth f.blocks i).ops) k).args.length) c9_4, .int .u64 ((nth ((nth f.blocks i).ops) k).imm)]) tabOK rfl rfl rfl rfl rfl rfl rfl rfl rfl ?_
   refine WpG.freezeBox (ci := 0) rfl (fun H11 hH11 hc11 => ?_)
   refine WpG.g tabOK 11 rfl ?_
   apply WpG.joinP (True) (G := [(1, .int .i64 lv), (2, .pointer (some ⟨b1, 0, none⟩)), (6, .int .i64 i), (8, .int .i64 k), (9, .pointer (some ⟨b10, 0, none⟩)), (10, .int .i64 (if lv = 1 then 20 else 22))])
   ·intro nx12
    refine WpG.caseE (t := 76) rfl (fun q76 => ?_) (fun q76 => ?_)
    ·refine WpG.g tabOK 4 rfl ?_
     exact (nx12 (trivial)).weak ⟨rfl, rfl, rfl, rfl, rfl, (congrArg (fun x => some (Value.int .i64 x)) (if_pos q76).symm), trivial⟩
    refine WpG.g tabOK 2 rfl ?_
    exact (nx12 (trivial)).weak ⟨rfl, rfl, rfl, rfl, rfl, (congrArg (fun x => some (Value.int .i64 x)) (if_neg q76).symm), trivial⟩
   intro _
   refine WpG.g tabOK 6 rfl ?_
   apply WpG.joinP (True) (G := [(1, .int .i64 lv), (2, .pointer (some ⟨b1, 0, none⟩)), (6, .int .i64 i), (8, .int .i64 k), (9, .pointer (some ⟨b10, 0, none⟩)), (10, .int .i64 (mostD lv))])
   ·intro nx13
    refine WpG.caseE (t := 78) rfl (fun q78 => ?_) (fun q78 => ?_)
    ·refine WpG.g tabOK 4 rfl ?_
     exact (nx13 (trivial)).weak ⟨rfl, rfl, rfl, rfl, rfl, (congrArg (fun x => some (Value.int .i64 x)) (if_pos q78).symm), trivial⟩
    refine WpG.g tabOK 2 rfl ?_
    exact (nx13 (trivial)).weak ⟨rfl, rfl, rfl, rfl, rfl, (congrArg (fun x => some (Value.int .i64 x)) (if_neg q78).symm), trivial⟩
   intro _
   refine WpG.g tabOK 1 rfl ?_
   apply WpG.join (G := [(1, .int .i64 lv), (2, .pointer (some ⟨b1, 0, none⟩)), (6, .int .i64 i), (8, .int .i64 k), (96, .bool (((!(mayO (nth ((nth f.blocks i).ops) k))) || (decide (((nth ((nth f.blocks i).ops) k).kind) > (mostD lv)))) || ((decide (lv < 2)) && (decide (((nth ((nth f.blocks i).ops) k).lanes) > 1)))))])
   ·intro nx14
    refine WpG.g tabOK 1 rfl ?_
    refine WpG.y rfl rfl rfl rfl (RunY.loadH tabOK hc11 hlr rfl rfl rfl rfl) ?_
    refine WpG.callS rfl rfl rfl rfl rfl rfl hlr (rMayO_calls (Rdc.mono (hH2.trans hH11) rd9')) ?_
    refine WpG.g tabOK 2 rfl ?_
    refine WpG.caseBn (t := 82) rfl (fun q82 => ?_) (fun q82 => ?_)
    ·refine WpG.g tabOK 15 rfl ?_
     exact nx14.weak ⟨rfl, rfl, rfl, rfl, bq (by simp [q82]), trivial⟩
    refine WpG.g tabOK 1 rfl ?_
    refine WpG.y rfl rfl rfl rfl (RunY.loadH tabOK (hc11.sub 0 1) hlr rfl rfl rfl rfl) ?_
    refine WpG.g tabOK 4 rfl ?_
    refine WpG.caseD (t := 88) rfl (fun q88 => ?_) (fun q88 => ?_)
    ·refine WpG.g tabOK 9 rfl ?_
     exact nx14.weak ⟨rfl, rfl, rfl, rfl, bq (by simp [q82, q88]), trivial⟩
    refine WpG.g tabOK 3 rfl ?_
    refine WpG.caseD (t := 91) rfl (fun q91 => ?_) (fun q91 => ?_)
    ·refine WpG.g tabOK 1 rfl ?_
     refine WpG.y rfl rfl rfl rfl (RunY.loadH tabOK (hc11.sub 2 1) hlr rfl rfl rfl rfl) ?_
     refine WpG.g tabOK 4 rfl ?_
     exact nx14.weak ⟨rfl, rfl, rfl, rfl, bq (by simp [q82, q88, q91]), trivial⟩
    refine WpG.g tabOK 6 rfl ?_
    exact nx14.weak ⟨rfl, rfl, rfl, rfl, bq (by simp [q82, q88, q91]), trivial⟩
   refine WpG.caseB (t := 96) rfl (fun q96 => ?_) (fun q96 => ?_)
   ·refine WpG.g tabOK 5 rfl ?_
    exact WpG.ret tabOK (L' := []) (.tmp rfl .nil) .slnil ⟨congrArg Value.bool (by clear ih1 ih2 ih3 ih4; exact typed2 (all_no i2 i0 q29 rfl (typ_o (all_no k2 k0 q63 rfl (of_t l0 l1 q96))))), rfl⟩
   refine WpG.gw tabOK 6 65 rfl (wrk (x := k + 1) (by omega) (by omega)) ?_
   refine WpG.g tabOK 3 rfl ?_
   refine WpG.lessH hH2 hH11 ?_
   refine WpG.wk (ih4 (k + 1) ?_ ?_) rfl
   ·dsimp only
    omega
   clear ih1 ih2 ih3 ih4
   exact ⟨by omega, by omega, all_step k2 k0 q63 rfl (of_f l0 l1 q96)⟩
  refine WpG.gw tabOK 6 31 rfl (wrk (x := i + 1) (by omega) (by omega)) ?_
  refine WpG.g tabOK 3 rfl ?_
  refine WpG.wk (ih2 (i + 1) ?_ ?_) rfl
  ·dsimp only
   omega
  clear ih1 ih2 ih3 ih4
  exact ⟨by omega, by omega, all_step i2 i0 q29 rfl (typ_y (all_end j2 j0 q40) (all_end k2 k0 q63))⟩
 refine WpG.g tabOK 5 rfl ?_
 refine WpG.y rfl rfl rfl rfl (RunY.loadH tabOK (hc2.sub 1 1) hlr rfl rfl rfl rfl) ?_
 refine WpG.callS rfl rfl rfl rfl rfl rfl hlr (rMayW_calls f.ret) ?_
 refine WpG.g tabOK 2 rfl ?_
 exact WpG.ret tabOK (L' := []) (.tmp rfl .nil) .slnil ⟨congrArg Value.bool (by clear ih1 ih2; exact typed3 (all_end a2 a0 q15) (all_end i2 i0 q29)), rfl⟩
set_option maxHeartbeats 1000000 in
theorem rShapeF_calls {H : Hp} {f : FuncD} {cs_f : List Value} (rd_f : Rdc.rd H cs_f f) : CallG Tryz.prog 43 [.agg cs_f.toArray] H [] (fun v H' L' => ∃ b, v = .bool b ∧ ((ofD f).2 ≠ 0 → b = false) ∧ ((ofD f).2 = 0 → ∀ tl, TreeP (ofD f).1.succ 0 tl → b = shapeW f tl) ∧ (b = true → FitAll f) ∧ L' = []) := by
 have rd_f' := rd_f; obtain ⟨A_f_0, c_f_0, A_f_2, c_f_2, rfl, u_f_0, r_f_0, u_f_2, r_f_2, k_f_0⟩ := rd_f
 have bf := r_f_2.1
 refine CallG.of Tryz.func43 rfl rfl rfl fun w0 => ?_
 refine WpG.g tabOK 2 rfl ?_
 refine WpG.box rfl rfl rfl rfl rfl (fun b1 => ?_)
 refine WpG.freezeBox (ci := 0) rfl (fun H2 hH2 hc2 => ?_)
 refine WpG.g tabOK 4 rfl ?_
 refine WpG.y rfl rfl rfl rfl (RunY.loadH tabOK hc2 hlr rfl rfl rfl rfl) ?_
 refine WpG.call0 rfl rfl rfl rfl rfl rfl (rOf_calls (Rdc.mono hH2 rd_f')) ?_
 rintro _ H3 _ hH3 ⟨A3, c3, B3, d3, rfl, ua3, ra3, ub3, rb3, rfl⟩
 refine WpG.g tabOK 3 rfl ?_
 refine WpG.alloc tabOK rfl rfl rfl rfl rfl (fun b4 => ?_)
 refine WpG.storeBox (ci := 0) (cs' := [.slice A3 ((ofD f).1.succ.length) c3, .slice B3 ((ofD f).1.pred.length) d3]) tabOK rfl rfl rfl rfl rfl rfl rfl rfl rfl ?_
 refine WpG.freezeBox (ci := 0) rfl (fun H5 hH5 hc5 => ?_)
 refine WpG.g tabOK 8 rfl ?_
 refine WpG.caseN (t := 15) rfl (fun q15 => ?_) (fun q15 => ?_)
 ·refine WpG.g tabOK 5 rfl ?_
  exact WpG.ret tabOK (L' := []) (.tmp rfl .nil) .slnil ⟨_, rfl, fun _ => rfl, fun h => absurd h q15, (fun h => by cases h), rfl⟩
 refine WpG.g tabOK 4 rfl ?_
 refine WpG.y rfl rfl rfl rfl (RunY.loadH tabOK hc5 hlr rfl rfl rfl rfl) ?_
 have hrw := of_rows q15
 refine WpG.call0 rfl rfl rfl rfl rfl rfl (rReach_calls (Rdc.mono hH5 ⟨_, _, _, _, rfl, ua3, ra3, ub3, rb3⟩) 0 (-1) hrw.1 (by omega) (by have := hrw.2.1; have := hrw.2.2.2.1; omega)) ?_
 rintro _ H6 _ hH6 ⟨A6, c6, bs, hx, rfl, u6, r6, rfl⟩
 have hl := hx.1
 have hl2 := hrw.2.1; have hl3 := hrw.2.2.1
 refine WpG.g tabOK 9 rfl ?_
 refine WpG.wk (WpG.ind1 (fun (i : Int) => ⟨(f.blocks.length - i).toNat, [(1, .pointer (some ⟨b1, 0, none⟩)), (3, .pointer (some ⟨b4, 0, none⟩)), (5, .slice A6 bs.length c6), (6, .int .i64 i)], H6, [], 0 ≤ i ∧ i ≤ f.blocks.length ∧ (∀ tl, TreeP (ofD f).1.succ 0 tl → shapeW f tl = fitFrom (ofD f).1 tl i (f.blocks.drop i.toNat)) ∧ FitTo f i⟩) ?_ 0 ⟨by omega, by omega, fun tl _ => rfl, FitTo.zero⟩) rfl
 intro i inv ih1
 obtain ⟨i0, i1, i2, i3⟩ := inv
 refine WpG.g tabOK 5 rfl ?_
 refine WpG.y rfl rfl rfl rfl (RunY.loadH tabOK (hc2.sub 2 1) ((hH3.trans hH5).trans hH6) rfl rfl rfl rfl) ?_
 refine WpG.g tabOK 3 rfl ?_
 refine WpG.caseD (t := 22) rfl (fun q22 => ?_) (fun q22 => ?_)
 ·refine WpG.g tabOK 7 rfl ?_
  refine WpG.y rfl rfl rfl rfl (RunY.loadH tabOK (hc2.sub 2 1) ((hH3.trans hH5).trans hH6) rfl rfl rfl rfl) ?_
  refine WpG.g tabOK 1 rfl ?_
  refine WpG.indexR tabOK rfl rfl rfl rfl rfl rfl rfl rfl rfl r_f_2 (by omega) (by omega) ?_
  rintro x7 hx7 b7 o7 cs7 rd7 hc7
  have rd7' := rd7; obtain ⟨A7_0, c7_0, A7_1, c7_1, A7_4, c7_4, rfl, u7_0, r7_0, u7_1, r7_1, u7_4, r7_4, k7_0, k7_1⟩ := rd7
  have bz7_0 := r7_0.1
  have bz7_1 := r7_1.1
  have bz7_4 := r7_4.1
  obtain rfl : x7 = (nth f.blocks i) := hx7
  refine WpG.y rfl rfl rfl rfl (RunY.loadH tabOK hc7 (((hH2.trans hH3).trans hH5).trans hH6) rfl rfl rfl rfl) ?_
  refine WpG.alloc tabOK rfl rfl rfl rfl rfl (fun b8 => ?_)
  refine WpG.storeBox (ci := 0) (cs' := [.slice A7_0 ((nth f.blocks i).phis.length) c7_0, .slice A7_1 ((nth f.blocks i).ops.length) c7_1, .int .i64 ((nth f.blocks i).en.kind), .int .i64 ((nth f.blocks i).en.arg), .slice A7_4 ((nth f.blocks i).en.to.length) c7_4]) tabOK rfl rfl rfl rfl rfl rfl rfl rfl rfl ?_
  refine WpG.freezeBox (ci := 0) rfl (fun H9 hH9 hc9 => ?_)
  refine WpG.g tabOK 3 rfl ?_
  apply WpG.join (G := [(1, .pointer (some ⟨b1, 0, none⟩)), (3, .pointer (some ⟨b4, 0, none⟩)), (5, .slice A6 bs.length c6), (6, .int .i64 i), (7, .pointer (some ⟨b8, 0, none⟩)), (52, .bool ((!(nth bs i)) || (((((nth f.blocks i).en.kind) == 1) || (((nth f.blocks i).en.kind) == 3)) && (((nth f.blocks i).en.arg) != 0))))])
  ·intro nx10
   refine WpG.g tabOK 1 rfl ?_
   refine WpG.g tabOK 2 rfl ?_
   refine WpG.indexR tabOK rfl rfl rfl rfl rfl rfl rfl rfl rfl r6 (by omega) (by omega) ?_
   rintro x11 hx11 b11 o11 _ rfl hc11
   obtain rfl : x11 = (nth bs i) := hx11
   refine WpG.y rfl rfl rfl rfl (RunY.loadH tabOK hc11 hH9 rfl rfl rfl rfl) ?_
   refine WpG.g tabOK 2 rfl ?_
   refine WpG.caseBn (t := 35) rfl (fun q35 => ?_) (fun q35 => ?_)
   ·refine WpG.g tabOK 18 rfl ?_
    exact nx10.weak ⟨rfl, rfl, rfl, rfl, rfl, bq (by simp [q35]), trivial⟩
   refine WpG.g tabOK 2 rfl ?_
   refine WpG.y rfl rfl rfl rfl (RunY.loadH tabOK (hc9.sub 2 1) hlr rfl rfl rfl rfl) ?_
   refine WpG.g tabOK 2 rfl ?_
   refine WpG.caseE (t := 40) rfl (fun q40 => ?_) (fun q40 => ?_)
   ·refine WpG.g tabOK 8 rfl ?_
    refine WpG.y rfl rfl rfl rfl (RunY.loadH tabOK (hc9.sub 3 1) hlr rfl rfl rfl rfl) ?_
    refine WpG.g tabOK 4 rfl ?_
    exact nx10.weak ⟨rfl, rfl, rfl, rfl, rfl, bq (by simp [q35, q40]), trivial⟩
   refine WpG.g tabOK 2 rfl ?_
   refine WpG.y rfl rfl rfl rfl (RunY.loadH tabOK (hc9.sub 2 1) hlr rfl rfl rfl rfl) ?_
   refine WpG.g tabOK 3 rfl ?_
   refine WpG.caseE (t := 46) rfl (fun q46 => ?_) (fun q46 => ?_)
   ·refine WpG.g tabOK 2 rfl ?_
    refine WpG.y rfl rfl rfl rfl (RunY.loadH tabOK (hc9.sub 3 1) hlr rfl rfl rfl rfl) ?_
    refine WpG.g tabOK 4 rfl ?_
    exact nx10.weak ⟨rfl, rfl, rfl, rfl, rfl, bq (by simp [q35, q40, nb q40, q46]), trivial⟩
   refine WpG.g tabOK 7 rfl ?_
   exact nx10.weak ⟨rfl, rfl, rfl, rfl, rfl, bq (by simp [q35, q40, nb q40, q46, nb q46]), trivial⟩
  refine WpG.caseB (t := 52) rfl (fun q52 => ?_) (fun q52 => ?_)
  ·refine WpG.g tabOK 5 rfl ?_
   exact WpG.ret tabOK (L' := []) (.tmp rfl .nil) .slnil ⟨_, rfl, fun h => absurd q15 h, fun _ tl ht => fitR_no (i2 tl ht) ht hx hl2 i0 q22 q52, (fun h => by cases h), rfl⟩
  refine WpG.g tabOK 8 rfl ?_
  refine WpG.wk (WpG.ind1 (fun (j : Int) => ⟨((nth f.blocks i).phis.length - j).toNat, [(1, .pointer (some ⟨b1, 0, none⟩)), (3, .pointer (some ⟨b4, 0, none⟩)), (5, .slice A6 bs.length c6), (6, .int .i64 i), (7, .pointer (some ⟨b8, 0, none⟩)), (8, .int .i64 j)], H9, [], 0 ≤ j ∧ j ≤ (nth f.blocks i).phis.length ∧ (nth f.blocks i).phis.all (phiFit (nth (ofD f).1.pred i)) = ((nth f.blocks i).phis.drop j.toNat).all (phiFit (nth (ofD f).1.pred i))⟩) ?_ 0 ⟨by omega, by omega, rfl⟩) rfl
  intro j inv ih2
  obtain ⟨j0, j1, j2⟩ := inv
  refine WpG.g tabOK 5 rfl ?_
  refine WpG.y rfl rfl rfl rfl (RunY.loadH tabOK (hc9.sub 0 1) hlr rfl rfl rfl rfl) ?_
  refine WpG.g tabOK 3 rfl ?_
  refine WpG.caseD (t := 57) rfl (fun q57 => ?_) (fun q57 => ?_)
  ·refine WpG.g tabOK 5 rfl ?_
   refine WpG.draw 38 [] mixed (by kernel_rfl) ?_
   refine WpD.g (listed' := lst 38 5) tabOK [0, 2] (by kernel_rfl) rfl ((((hH2.trans hH3).trans hH5).trans hH6).trans hH9) hlr .slnil ?_
   refine WpD.y (i := 1) (fuel := 35) (listed' := lst 38 7) (by kernel_rfl) rfl rfl rfl rfl ((((hH2.trans hH3).trans hH5).trans hH6).trans hH9) hlr .slnil (RunY.loadH tabOK (hc5.sub 1 1) (hH6.trans hH9) rfl rfl rfl rfl) ?_
   refine WpD.indexR (i := 3) (fuel := 34) (listed' := lst 38 15) tabOK (by kernel_rfl) rfl rfl rfl rfl rfl rfl rfl rfl rfl ((((hH2.trans hH3).trans hH5).trans hH6).trans hH9) hlr .slnil rb3 (by omega) (by omega) ?_
   rintro x12 hx12 b12 o12 _ ⟨A12, c12, rfl, u12, r12⟩ hc12
   have bz12 := r12.1
   obtain rfl : x12 = (nth ((ofD f).1.pred) i) := hx12
   refine WpD.y (i := 4) (fuel := 33) (listed' := lst 38 31) (by kernel_rfl) rfl rfl rfl rfl ((((hH2.trans hH3).trans hH5).trans hH6).trans hH9) hlr .slnil (RunY.loadH tabOK hc12 ((hH5.trans hH6).trans hH9) rfl rfl rfl rfl) ?_
   refine WpD.g (listed' := lst 38 255) tabOK [5, 6, 7] (by kernel_rfl) rfl ((((hH2.trans hH3).trans hH5).trans hH6).trans hH9) hlr .slnil ?_
   refine WpD.caseE (t := 67) rfl (fun q67 => ?_) (fun q67 => ?_)
   ·refine WpD.g (listed' := lst 38 274877906943) tabOK [8, 9, 10, 11, 12, 13, 14, 15, 16, 17, 18, 19, 20, 21, 22, 23, 24, 25, 26, 27, 28, 29, 30, 31, 32, 33, 34, 35, 36, 37] (by kernel_rfl) rfl ((((hH2.trans hH3).trans hH5).trans hH6).trans hH9) hlr .slnil ?_
    refine WpD.done (by kernel_rfl) ?_
    refine WpG.g tabOK 5 rfl ?_
    exact WpG.ret tabOK (L' := []) (.tmp rfl .nil) .slnil ⟨_, rfl, fun h => absurd q15 h, fun _ tl ht => (fit_no (i2 tl ht) i0 q22 rfl (.inr (.inl (all_no j2 j0 q57 rfl (phiR_no (.inl q67)))))).symm, (fun h => by cases h), rfl⟩
   refine WpD.g (listed' := lst 38 83455) tabOK [8, 10, 14, 16] (by kernel_rfl) rfl ((((hH2.trans hH3).trans hH5).trans hH6).trans hH9) hlr .slnil ?_
   refine WpD.y (i := 9) (fuel := 25) (listed' := lst 38 83967) (by kernel_rfl) rfl rfl rfl rfl ((((hH2.trans hH3).trans hH5).trans hH6).trans hH9) hlr .slnil (RunY.loadH tabOK (hc9.sub 0 1) hlr rfl rfl rfl rfl) ?_
   refine WpD.indexR (i := 11) (fuel := 24) (listed' := lst 38 86015) tabOK (by kernel_rfl) rfl rfl rfl rfl rfl rfl rfl rfl rfl ((((hH2.trans hH3).trans hH5).trans hH6).trans hH9) hlr .slnil r7_0 (by omega) (by omega) ?_
   rintro x13 hx13 b13 o13 cs13 rd13 hc13
   have rd13' := rd13; obtain ⟨A13_2, c13_2, A13_3, c13_3, rfl, u13_2, r13_2, u13_3, r13_3, k13_0, k13_1⟩ := rd13
   have bz13_2 := r13_2.1
   have bz13_3 := r13_3.1
   obtain rfl : x13 = (nth ((nth f.blocks i).phis) j) := hx13
   refine WpD.g (listed' := lst 38 90111) tabOK [12] (by kernel_rfl) rfl ((((hH2.trans hH3).trans hH5).trans hH6).trans hH9) hlr .slnil ?_
   refine WpD.y (i := 13) (fuel := 22) (listed' := lst 38 98303) (by kernel_rfl) rfl rfl rfl rfl ((((hH2.trans hH3).trans hH5).trans hH6).trans hH9) hlr .slnil (RunY.loadH tabOK (hc13.sub 2 1) ((((hH2.trans hH3).trans hH5).trans hH6).trans hH9) rfl rfl rfl rfl) ?_
   refine WpD.y (i := 15) (fuel := 21) (listed' := lst 38 131071) (by kernel_rfl) rfl rfl rfl rfl ((((hH2.trans hH3).trans hH5).trans hH6).trans hH9) hlr .slnil (RunY.loadH tabOK (hc5.sub 1 1) (hH6.trans hH9) rfl rfl rfl rfl) ?_
   refine WpD.indexR (i := 17) (fuel := 20) (listed' := lst 38 262143) tabOK (by kernel_rfl) rfl rfl rfl rfl rfl rfl rfl rfl rfl ((((hH2.trans hH3).trans hH5).trans hH6).trans hH9) hlr .slnil rb3 (by omega) (by omega) ?_
   rintro x14 hx14 b14 o14 _ ⟨A14, c14, rfl, u14, r14⟩ hc14
   have bz14 := r14.1
   obtain rfl : x14 = (nth ((ofD f).1.pred) i) := hx14
   refine WpD.y (i := 18) (fuel := 19) (listed' := lst 38 524287) (by kernel_rfl) rfl rfl rfl rfl ((((hH2.trans hH3).trans hH5).trans hH6).trans hH9) hlr .slnil (RunY.loadH tabOK hc14 ((hH5.trans hH6).trans hH9) rfl rfl rfl rfl) ?_
   refine WpD.callS (i := 19) (fuel := 18) (listed' := lst 38 1048575) (by kernel_rfl) rfl rfl rfl rfl rfl rfl hlr (rInts_calls (r13_2.mono ((((hH2.trans hH3).trans hH5).trans hH6).trans hH9)) (r14.mono ((hH5.trans hH6).trans hH9))) ((((hH2.trans hH3).trans hH5).trans hH6).trans hH9) hlr .slnil ?_
   refine WpD.g (listed' := lst 38 8388607) tabOK [20, 21, 22] (by kernel_rfl) rfl ((((hH2.trans hH3).trans hH5).trans hH6).trans hH9) hlr .slnil ?_
   refine WpD.caseBn (t := 82) rfl (fun q82 => ?_) (fun q82 => ?_)
   ·refine WpD.g (listed' := lst 38 274877906943) tabOK [23, 24, 25, 26, 27, 28, 29, 30, 31, 32, 33, 34, 35, 36, 37] (by kernel_rfl) rfl ((((hH2.trans hH3).trans hH5).trans hH6).trans hH9) hlr .slnil ?_
    refine WpD.done (by kernel_rfl) ?_
    refine WpG.g tabOK 5 rfl ?_
    exact WpG.ret tabOK (L' := []) (.tmp rfl .nil) .slnil ⟨_, rfl, fun h => absurd q15 h, fun _ tl ht => (fit_no (i2 tl ht) i0 q22 rfl (.inr (.inl (all_no j2 j0 q57 rfl (phiR_no (.inr (.inl q82))))))).symm, (fun h => by cases h), rfl⟩
   refine WpD.g (listed' := lst 38 5419040767) tabOK [23, 25, 30, 32] (by kernel_rfl) rfl ((((hH2.trans hH3).trans hH5).trans hH6).trans hH9) hlr .slnil ?_
   refine WpD.y (i := 24) (fuel := 10) (listed' := lst 38 5435817983) (by kernel_rfl) rfl rfl rfl rfl ((((hH2.trans hH3).trans hH5).trans hH6).trans hH9) hlr .slnil (RunY.loadH tabOK (hc9.sub 0 1) hlr rfl rfl rfl rfl) ?_
   refine WpD.indexR (i := 26) (fuel := 9) (listed' := lst 38 5502926847) tabOK (by kernel_rfl) rfl rfl rfl rfl rfl rfl rfl rfl rfl ((((hH2.trans hH3).trans hH5).trans hH6).trans hH9) hlr .slnil r7_0 (by omega) (by omega) ?_
   rintro x15 hx15 b15 o15 cs15 rd15 hc15
   have rd15' := rd15; obtain ⟨A15_2, c15_2, A15_3, c15_3, rfl, u15_2, r15_2, u15_3, r15_3, k15_0, k15_1⟩ := rd15
   have bz15_2 := r15_2.1
   have bz15_3 := r15_3.1
   obtain rfl : x15 = (nth ((nth f.blocks i).phis) j) := hx15
   refine WpD.g (listed' := lst 38 5637144575) tabOK [27] (by kernel_rfl) rfl ((((hH2.trans hH3).trans hH5).trans hH6).trans hH9) hlr .slnil ?_
   refine WpD.y (i := 28) (fuel := 7) (listed' := lst 38 5905580031) (by kernel_rfl) rfl rfl rfl rfl ((((hH2.trans hH3).trans hH5).trans hH6).trans hH9) hlr .slnil (RunY.loadH tabOK (hc15.sub 3 1) ((((hH2.trans hH3).trans hH5).trans hH6).trans hH9) rfl rfl rfl rfl) ?_
   refine WpD.g (listed' := lst 38 6442450943) tabOK [29] (by kernel_rfl) rfl ((((hH2.trans hH3).trans hH5).trans hH6).trans hH9) hlr .slnil ?_
   refine WpD.y (i := 31) (fuel := 5) (listed' := lst 38 8589934591) (by kernel_rfl) rfl rfl rfl rfl ((((hH2.trans hH3).trans hH5).trans hH6).trans hH9) hlr .slnil (RunY.loadH tabOK (hc5.sub 1 1) (hH6.trans hH9) rfl rfl rfl rfl) ?_
   refine WpD.indexR (i := 33) (fuel := 4) (listed' := lst 38 17179869183) tabOK (by kernel_rfl) rfl rfl rfl rfl rfl rfl rfl rfl rfl ((((hH2.trans hH3).trans hH5).trans hH6).trans hH9) hlr .slnil rb3 (by omega) (by omega) ?_
   rintro x16 hx16 b16 o16 _ ⟨A16, c16, rfl, u16, r16⟩ hc16
   have bz16 := r16.1
   obtain rfl : x16 = (nth ((ofD f).1.pred) i) := hx16
   refine WpD.y (i := 34) (fuel := 3) (listed' := lst 38 34359738367) (by kernel_rfl) rfl rfl rfl rfl ((((hH2.trans hH3).trans hH5).trans hH6).trans hH9) hlr .slnil (RunY.loadH tabOK hc16 ((hH5.trans hH6).trans hH9) rfl rfl rfl rfl) ?_
   refine WpD.g (listed' := lst 38 274877906943) tabOK [35, 36, 37] (by kernel_rfl) rfl ((((hH2.trans hH3).trans hH5).trans hH6).trans hH9) hlr .slnil ?_
   refine WpD.done (by kernel_rfl) ?_
   refine WpG.caseN (t := 97) rfl (fun q97 => ?_) (fun q97 => ?_)
   ·refine WpG.g tabOK 5 rfl ?_
    exact WpG.ret tabOK (L' := []) (.tmp rfl .nil) .slnil ⟨_, rfl, fun h => absurd q15 h, fun _ tl ht => (fit_no (i2 tl ht) i0 q22 rfl (.inr (.inl (all_no j2 j0 q57 rfl (phiR_no (.inr (.inr q97))))))).symm, (fun h => by cases h), rfl⟩
   refine WpG.gw tabOK 6 59 rfl (wrk (x := j + 1) (by omega) (by omega)) ?_
   refine WpG.g tabOK 3 rfl ?_
   refine WpG.wk (ih2 (j + 1) ?_ ?_) rfl
   ·dsimp only
    omega
   clear ih1 ih2
   exact ⟨by omega, by omega, all_step j2 j0 q57 rfl (phiR_yes (by omega) (by assumption) (by omega))⟩
  refine WpG.gw tabOK 6 24 rfl (wrk (x := i + 1) (by omega) (by omega)) ?_
  refine WpG.g tabOK 3 rfl ?_
  refine WpG.lessH (((hH2.trans hH3).trans hH5).trans hH6) hH9 ?_
  refine WpG.wk (ih1 (i + 1) ?_ ?_) rfl
  ·dsimp only
   omega
  clear ih1 ih2
  exact ⟨by omega, by omega, fun tl ht => fitR_go (i2 tl ht) ht hx hl2 i0 q22 q52 (all_end j2 j0 q57), i3.step hx hl2 i0 q22 q52 (all_end j2 j0 q57)⟩
 refine WpG.g tabOK 6 rfl ?_
 exact WpG.ret tabOK (L' := []) (.tmp rfl .nil) .slnil ⟨_, rfl, fun h => absurd q15 h, fun _ tl ht => by rw [i2 tl ht, drop_end i0 q22]; rfl, (fun _ => i3.all q22), rfl⟩
end Go.Proofs.YtakameggkkjcpaaGreat
namespace Go.Proofs.YtakameggkkjcpaaGreat
open Go Go.RowKit
structure DefR where
  v : Int
  blk : Int
  pos : Int
  bits : Int
  lanes : Int
  deriving Inhabited
def IR (d : DefR) : Prop := I64 d.v ∧ I64 d.blk ∧ I64 d.pos ∧ I64 d.bits ∧ I64 d.lanes
instance : Rdc DefR where
  sz := 5
  rd _ vs x := vs = [.int .i64 x.v, .int .i64 x.blk, .int .i64 x.pos, .int .i64 x.bits, .int .i64 x.lanes] ∧ I64 x.v ∧ I64 x.blk ∧ I64 x.pos ∧ I64 x.bits ∧ I64 x.lanes
  len h := by rw [h.1]; rfl
  mono _ h := h
  one h := by rw [h.1]; rfl
def flatR (l : List DefR) : List Value := l.flatMap fun x => [.int .i64 x.v, .int .i64 x.blk, .int .i64 x.pos, .int .i64 x.bits, .int .i64 x.lanes]
theorem flatR_snoc (l : List DefR) (x : DefR) : flatR (l ++ [x]) = flatR l ++ [.int .i64 x.v, .int .i64 x.blk, .int .i64 x.pos, .int .i64 x.bits, .int .i64 x.lanes] := by simp [flatR]
def AllR (l : List DefR) : Prop := ∀ d ∈ l, IR d
theorem AllR_nil : AllR [] := fun d h => by cases h
theorem AllR_snoc {l : List DefR} {x : DefR} (h : AllR l) (hx : IR x) : AllR (l ++ [x]) := fun d hd => (List.mem_append.1 hd).elim (h d) fun h => by rw [List.mem_singleton.1 h]; exact hx
theorem RdL_defs {H : Hp} : ∀ (l : List DefR), AllR l → RdL H (flatR l) l
  | [], _ => rfl
  | x :: l, h => ⟨[.int .i64 x.v, .int .i64 x.blk, .int .i64 x.pos, .int .i64 x.bits, .int .i64 x.lanes], flatR l, rfl, ⟨rfl, h x (.head _)⟩, RdL_defs l fun d hd => h d (.tail _ hd)⟩
theorem i64s {x : Int} (h0 : 0 ≤ x) (h1 : x ≤ 9223372036854775807) : I64 x := ⟨by omega, by omega⟩
theorem I64_1 : I64 1 := ⟨by decide, by decide⟩
theorem I64_0 : I64 0 := ⟨by decide, by decide⟩
theorem I64_m : I64 (-1) := ⟨by decide, by decide⟩
theorem I64_k : I64 1000 := ⟨by decide, by decide⟩
theorem le_app {α : Type} {a b c : List α} (h : a = b ++ c) : b.length ≤ a.length := by rw [h, List.length_append]; omega
def parR : Int → List Int → List DefR
  | _, [] => []
  | i, b :: l => ⟨i + 1, -1, 0, b, 1⟩ :: parR (i + 1) l
def toR (p : PutD) : DefR := ⟨p.v, p.d.blk, p.d.pos, p.d.bits, p.d.lanes⟩
def defsR (f : FuncD) : List DefR := parR 0 f.params ++ (allPuts 0 f.blocks).map toR
theorem parR_step {r out T : List DefR} {ps : List Int} {a : Int} (h : r = out ++ (parR a (ps.drop a.toNat) ++ T)) (h0 : 0 ≤ a) (h1 : a < ps.length) : r = (out ++ [⟨a + 1, -1, 0, nth ps a, 1⟩]) ++ (parR (a + 1) (ps.drop (a + 1).toNat) ++ T) := by
  rw [h, drop_nth h0 h1, toNat_succ h0, List.append_assoc]; rfl
theorem parR_end {r out T : List DefR} {ps : List Int} {a : Int} (h : r = out ++ (parR a (ps.drop a.toNat) ++ T)) (h0 : 0 ≤ a) (h1 : ¬ a < ps.length) : r = out ++ T := by
  rw [h, drop_end h0 h1]; rfl
theorem allR_in {r out : List DefR} {bs : List BlockD} {i : Int} (h : r = out ++ (allPuts i (bs.drop i.toNat)).map toR) (h0 : 0 ≤ i) (h1 : i < bs.length) :
    r = out ++ ((phiPuts i ((nth bs i).phis.drop (0 : Int).toNat)).map toR ++ ((opsPuts i 0 (nth bs i).ops).map toR ++ (allPuts (i + 1) (bs.drop (i + 1).toNat)).map toR)) := by
  rw [h, drop_nth h0 h1, toNat_succ h0]
  show out ++ List.map toR (phiPuts i (nth bs i).phis ++ (opsPuts i 0 (nth bs i).ops ++ allPuts (i + 1) _)) = _
  rw [List.map_append, List.map_append]; rfl
theorem phiR_step {r out T : List DefR} {i j : Int} {ps : List PhiD} (h : r = out ++ ((phiPuts i (ps.drop j.toNat)).map toR ++ T)) (h0 : 0 ≤ j) (h1 : j < ps.length) : r = (out ++ [⟨(nth ps j).dst, i, -1, (nth ps j).bits, 1⟩]) ++ ((phiPuts i (ps.drop (j + 1).toNat)).map toR ++ T) := by
  rw [h, drop_nth h0 h1, toNat_succ h0, List.append_assoc]; rfl
theorem phiR_end {r out T : List DefR} {i j : Int} {ps : List PhiD} (h : r = out ++ ((phiPuts i (ps.drop j.toNat)).map toR ++ T)) (h0 : 0 ≤ j) (h1 : ¬ j < ps.length) : r = out ++ T := by
  rw [h, drop_end h0 h1]; rfl
theorem opR_yes {r out T : List DefR} {i k : Int} {os : List OpD} (h : r = out ++ ((opsPuts i k (os.drop k.toNat)).map toR ++ T)) (h0 : 0 ≤ k) (h1 : k < os.length) (hg : (givesF (nth os k)).1 > 0) :
    r = (out ++ [⟨(nth os k).dst, i, k, (givesF (nth os k)).1, (givesF (nth os k)).2⟩]) ++ ((opsPuts i (k + 1) (os.drop (k + 1).toNat)).map toR ++ T) := by
  rw [h, drop_nth h0 h1, toNat_succ h0, List.append_assoc]
  show out ++ (List.map toR ((if (givesF (nth os k)).1 > 0 then _ else _) ++ _) ++ T) = _
  rw [if_pos hg]; rfl
theorem opR_no {r out T : List DefR} {i k : Int} {os : List OpD} (h : r = out ++ ((opsPuts i k (os.drop k.toNat)).map toR ++ T)) (h0 : 0 ≤ k) (h1 : k < os.length) (hg : ¬ (givesF (nth os k)).1 > 0) :
    r = out ++ ((opsPuts i (k + 1) (os.drop (k + 1).toNat)).map toR ++ T) := by
  rw [h, drop_nth h0 h1, toNat_succ h0]
  show out ++ (List.map toR ((if (givesF (nth os k)).1 > 0 then _ else _) ++ _) ++ T) = _
  rw [if_neg hg]; rfl
theorem opR_end {r out T : List DefR} {i k : Int} {os : List OpD} (h : r = out ++ ((opsPuts i k (os.drop k.toNat)).map toR ++ T)) (h0 : 0 ≤ k) (h1 : ¬ k < os.length) : r = out ++ T := by
  rw [h, drop_end h0 h1]; rfl
theorem all_done {r out : List DefR} {bs : List BlockD} {i : Int} (h : r = out ++ (allPuts i (bs.drop i.toNat)).map toR) (h0 : 0 ≤ i) (h1 : ¬ i < bs.length) : out = r := by
  rw [h, drop_end h0 h1]; simp [allPuts]
theorem gives_I64 {o : OpD} (h1 : I64 o.bits) (h2 : I64 o.lanes) : I64 (givesF o).1 ∧ I64 (givesF o).2 := by
  have e : I64 1 := ⟨by decide, by decide⟩
  have z : I64 0 := ⟨by decide, by decide⟩
  unfold givesF
  repeat' split
  · exact ⟨z, z⟩
  · exact ⟨e, e⟩
  · exact ⟨h1, e⟩
  · exact ⟨h1, h2⟩
theorem rows_ret {H : Hp} {A : Option Addr} {n c : Nat} {l l' : List DefR} (e : l = l') (hn : n = l.length) (hc : n ≤ c) (r : RdS H A l) : ∃ A' c', Value.slice A n c = .slice A' l'.length c' ∧ l'.length ≤ c' ∧ RdS H A' l' ∧ ([] : List Chunk) = [] := by
  subst e; subst hn; exact ⟨A, c, rfl, hc, r, rfl⟩
def toU (a : AskD) : DefR := ⟨a.v, a.bl, if a.pos = 1048576 then 1000 else a.pos, a.s1, a.s2⟩
def usesR (f : FuncD) : List DefR := (asksF f).map toU
abbrev rest2 (ret i : Int) (b : BlockD) (T : List AskD) : List DefR := ((opsAsks i 0 b.ops ++ (endAsks ret i b.en ++ T))).map toU
theorem useR_in {r out : List DefR} {ret : Int} {bs : List BlockD} {i : Int} (h : r = out ++ (allAsks ret i (bs.drop i.toNat)).map toU) (h0 : 0 ≤ i) (h1 : i < bs.length) :
    r = out ++ ((((nth bs i).phis.drop (0 : Int).toNat).flatMap phiAsks).map toU ++ rest2 ret i (nth bs i) (allAsks ret (i + 1) (bs.drop (i + 1).toNat))) := by
  rw [h, drop_nth h0 h1, toNat_succ h0]
  show out ++ List.map toU (((nth bs i).phis.flatMap phiAsks ++ (opsAsks i 0 (nth bs i).ops ++ endAsks ret i (nth bs i).en)) ++ allAsks ret (i + 1) _) = _
  unfold rest2
  rw [List.append_assoc, List.append_assoc, List.map_append]; rfl
theorem useP_in {r out T : List DefR} {ps : List PhiD} {j : Int} (h : r = out ++ (((ps.drop j.toNat).flatMap phiAsks).map toU ++ T)) (h0 : 0 ≤ j) (h1 : j < ps.length) :
    r = out ++ (((phiAsks (nth ps j)).drop (0 : Int).toNat).map toU ++ (((ps.drop (j + 1).toNat).flatMap phiAsks).map toU ++ T)) := by
  rw [h, drop_nth h0 h1, toNat_succ h0, List.flatMap_cons, List.map_append, List.append_assoc]; rfl
theorem useA_step {r out T : List DefR} {p : PhiD} {q : Int} (h : r = out ++ (((phiAsks p).drop q.toNat).map toU ++ T)) (h0 : 0 ≤ q) (h1 : q < p.args.length) (h2 : q < p.frm.length) :
    r = (out ++ [⟨nth p.args q, nth p.frm q, 1000, p.bits, 1⟩]) ++ (((phiAsks p).drop (q + 1).toNat).map toU ++ T) := by
  unfold phiAsks at h ⊢
  rw [h, zipA_drop _ h0 h1 h2, List.append_assoc]; rfl
theorem useA_end {r out T : List DefR} {p : PhiD} {q : Int} (h : r = out ++ (((phiAsks p).drop q.toNat).map toU ++ T)) (hl : p.args.length = p.frm.length) (h0 : 0 ≤ q) (h1 : ¬ q < p.args.length) : r = out ++ T := by
  rw [h, List.drop_eq_nil_of_le (by unfold phiAsks; rw [zipA_len _ _ _ (by omega)]; omega)]; rfl
theorem useP_end {r out T : List DefR} {ps : List PhiD} {j : Int} (h : r = out ++ (((ps.drop j.toNat).flatMap phiAsks).map toU ++ T)) (h0 : 0 ≤ j) (h1 : ¬ j < ps.length) : r = out ++ T := by
  rw [h, drop_end h0 h1]; rfl
theorem rest2_eq (ret i : Int) (b : BlockD) (T : List AskD) : rest2 ret i b T = (opsAsks i 0 (b.ops.drop (0 : Int).toNat)).map toU ++ (endAsks ret i b.en ++ T).map toU := by unfold rest2; rw [List.map_append]; rfl
theorem useO_in {r out T : List DefR} {os : List OpD} {i k : Int} (h : r = out ++ ((opsAsks i k (os.drop k.toNat)).map toU ++ T)) (h0 : 0 ≤ k) (h1 : k < os.length) :
    r = out ++ (((opAsks i k (nth os k)).drop (0 : Int).toNat).map toU ++ ((opsAsks i (k + 1) (os.drop (k + 1).toNat)).map toU ++ T)) := by
  rw [h, drop_nth h0 h1, toNat_succ h0]
  show out ++ (List.map toU (opAsks i k (nth os k) ++ opsAsks i (k + 1) _) ++ T) = _
  rw [List.map_append, List.append_assoc]; rfl
theorem useT_step {r out T : List DefR} {o : OpD} {i k q : Int} (h : r = out ++ (((opAsks i k o).drop q.toNat).map toU ++ T)) (hk : k < 1048576) (h0 : 0 ≤ q) (h1 : q < o.args.length) (h2 : q < (takesF o).length) :
    r = (out ++ [⟨nth o.args q, i, k, (nth (takesF o) q).1, (nth (takesF o) q).2⟩]) ++ (((opAsks i k o).drop (q + 1).toNat).map toU ++ T) := by
  unfold opAsks at h ⊢
  rw [h, zipA_drop _ h0 h1 h2, List.append_assoc]
  show out ++ (toU ⟨nth o.args q, (nth (takesF o) q).1, (nth (takesF o) q).2, i, k⟩ :: _) = _
  unfold toU
  simp only [show ¬ k = 1048576 from by omega, if_false]; rfl
theorem takesR_le (o : OpD) : (takesF o).length ≤ o.args.length := by
  unfold takesF; split
  · rename_i h; rw [may_len h]; exact Nat.le_refl _
  · simp
theorem useT_end {r out T : List DefR} {o : OpD} {i k q : Int} (h : r = out ++ (((opAsks i k o).drop q.toNat).map toU ++ T)) (h0 : 0 ≤ q) (h1 : ¬ q < (takesF o).length) : r = out ++ T := by
  rw [h, List.drop_eq_nil_of_le (by unfold opAsks; rw [zipA_len' _ _ _ (takesR_le o)]; omega)]; rfl
theorem useO_end {r out T : List DefR} {os : List OpD} {i k : Int} (h : r = out ++ ((opsAsks i k (os.drop k.toNat)).map toU ++ T)) (h0 : 0 ≤ k) (h1 : ¬ k < os.length) : r = out ++ T := by
  rw [h, drop_end h0 h1]; rfl
theorem useE_0 {r out : List DefR} {T : List AskD} {ret i : Int} {e : EndD} (h : r = out ++ (endAsks ret i e ++ T).map toU) (hr : ret ≠ 0) (hk : e.kind = 0) : r = (out ++ [⟨e.arg, i, 1000, ret, 1⟩]) ++ T.map toU := by
  rw [h]; unfold endAsks endBits; rw [if_pos hk, if_neg hr, List.append_assoc]; rfl
theorem useE_2 {r out : List DefR} {T : List AskD} {ret i : Int} {e : EndD} (h : r = out ++ (endAsks ret i e ++ T).map toU) (hk : e.kind = 2) : r = (out ++ [⟨e.arg, i, 1000, 1, 1⟩]) ++ T.map toU := by
  rw [h]; unfold endAsks endBits; rw [if_neg (show ¬ e.kind = 0 by omega), if_pos hk, if_neg (show ¬ (1 : Int) = 0 by decide), List.append_assoc]; rfl
theorem useE_n {r out : List DefR} {T : List AskD} {ret i : Int} {e : EndD} (h : r = out ++ (endAsks ret i e ++ T).map toU) (h0 : e.kind ≠ 0) (h2 : e.kind ≠ 2) : r = out ++ T.map toU := by
  rw [h]; unfold endAsks endBits; rw [if_neg h0, if_neg h2, if_pos rfl]; rfl
theorem useR_done {r out : List DefR} {ret : Int} {bs : List BlockD} {i : Int} (h : r = out ++ (allAsks ret i (bs.drop i.toNat)).map toU) (h0 : 0 ≤ i) (h1 : ¬ i < bs.length) : out = r := by
  rw [h, drop_end h0 h1]; simp [allAsks]
def findR (l : List DefR) (v : Int) : Int := idxFrom (fun d => d.v == v) l 0
end Go.Proofs.YtakameggkkjcpaaGreat
set_option maxRecDepth 4000
namespace Go.Proofs.YtakameggkkjcpaaGreat
open Go Go.RowKit
set_option maxHeartbeats 1000000 in
theorem rDefs_calls {H : Hp} {f : FuncD} {cs_f : List Value} (rd_f : Rdc.rd H cs_f f) (hb : (defsR f).length ≤ 2147483000) : CallG Tryz.prog 45 [.agg cs_f.toArray] H [] (fun v H' L' => ∃ A c, v = .slice A (defsR f).length c ∧ (defsR f).length ≤ c ∧ RdS H' A (defsR f) ∧ L' = []) := by
 have rd_f' := rd_f; obtain ⟨A_f_0, c_f_0, A_f_2, c_f_2, rfl, u_f_0, r_f_0, u_f_2, r_f_2, k_f_0⟩ := rd_f
 have bf := r_f_2.1; have bp := r_f_0.1
 refine CallG.of Tryz.func45 rfl rfl rfl fun w0 => ?_
 refine WpG.g tabOK 2 rfl ?_
 refine WpG.box rfl rfl rfl rfl rfl (fun b1 => ?_)
 refine WpG.freezeBox (ci := 0) rfl (fun H2 hH2 hc2 => ?_)
 refine WpG.g tabOK 13 rfl ?_
 refine WpG.ownNil 83 5 ?_
 refine WpG.wk (WpG.ind5 (fun (a : Int) (A5 : Option Addr) (n5 : Nat) (c5 : Nat) (l1 : List DefR) => ⟨(f.params.length - a).toNat, [(1, .pointer (some ⟨b1, 0, none⟩)), (3, .slice A5 n5 c5), (4, .int .i64 a)], H2, [Chunk.own 83 5 A5 c5 n5 (flatR l1)], 0 ≤ a ∧ a ≤ f.params.length ∧ (defsR f = l1 ++ (parR a (f.params.drop a.toNat) ++ (allPuts 0 f.blocks).map toR)) ∧ n5 = l1.length ∧ AllR l1⟩) ?_ 0 none 0 0 ([] : List DefR) ⟨by omega, by omega, rfl, rfl, AllR_nil⟩) rfl
 intro a A5 n5 c5 l1 inv ih1
 obtain ⟨a0, a1, a2, a3, a4⟩ := inv
 have hle := le_app a2
 refine WpG.g tabOK 5 rfl ?_
 refine WpG.y rfl rfl rfl rfl (RunY.loadH tabOK (hc2.sub 0 1) hlr rfl rfl rfl rfl) ?_
 refine WpG.g tabOK 3 rfl ?_
 refine WpG.caseD (t := 15) rfl (fun q15 => ?_) (fun q15 => ?_)
 ·refine WpG.gw tabOK 8 20 rfl (wrk (x := a + 1) (by omega) (by omega)) ?_
  refine WpG.g tabOK 1 rfl ?_
  refine WpG.y rfl rfl rfl rfl (RunY.loadH tabOK (hc2.sub 0 1) hlr rfl rfl rfl rfl) ?_
  refine WpG.g tabOK 1 rfl ?_
  refine WpG.indexR tabOK rfl rfl rfl rfl rfl rfl rfl rfl rfl r_f_0 (by omega) (by omega) ?_
  rintro x3 hx3 b3 o3 _ ⟨rfl, k3⟩ hc3
  obtain rfl : x3 = (nth f.params a) := hx3
  refine WpG.y rfl rfl rfl rfl (RunY.loadH tabOK hc3 hH2 rfl rfl rfl rfl) ?_
  refine WpG.g tabOK 2 rfl ?_
  refine WpG.buildSlice (xs := [.int .i64 (a + 1), .int .i64 (-1), .int .i64 0, .int .i64 (nth f.params a), .int .i64 1]) tabOK rfl rfl rfl rfl rfl rfl rfl rfl rfl rfl (fun b4 => ?_)
  refine WpG.append (ci := 1) tabOK rfl rfl rfl rfl rfl rfl rfl rfl rfl rfl rfl rfl (Src.own (ci := 0) rfl) (by omega) (fun A6 c7 => ?_)
  refine WpG.dropL (L' := [Chunk.own 83 5 A6 c7 (n5 + 1) ((flatR l1) ++ [.int .i64 (a + 1), .int .i64 (-1), .int .i64 0, .int .i64 (nth f.params a), .int .i64 1])]) (.cons _ (.cons_cons _ .slnil)) ?_
  refine WpG.setL (L' := [Chunk.own 83 5 A6 c7 (n5 + 1) (flatR (l1 ++ [(⟨a + 1, (-1), 0, (nth f.params a), 1⟩ : DefR)]))]) (by rw [flatR_snoc]) ?_
  refine WpG.gw tabOK 6 17 rfl (wrk (x := a + 1) (by omega) (by omega)) ?_
  refine WpG.g tabOK 3 rfl ?_
  refine WpG.wk (ih1 (a + 1) A6 (n5 + 1) c7 (l1 ++ [(⟨a + 1, (-1), 0, (nth f.params a), 1⟩ : DefR)]) ?_ ?_) rfl
  ·dsimp only
   omega
  clear ih1
  exact ⟨by omega, by omega, parR_step a2 a0 q15, by rw [List.length_append, ← a3]; rfl, AllR_snoc a4 ⟨i64s (x := a + 1) (by omega) (by omega), I64_m, I64_0, k3, I64_1⟩⟩
 refine WpG.g tabOK 9 rfl ?_
 refine WpG.wk (WpG.ind5 (fun (i : Int) (A6 : Option Addr) (n6 : Nat) (c6 : Nat) (l2 : List DefR) => ⟨(f.blocks.length - i).toNat, [(1, .pointer (some ⟨b1, 0, none⟩)), (3, .slice A6 n6 c6), (5, .int .i64 i)], H2, [Chunk.own 83 5 A6 c6 n6 (flatR l2)], 0 ≤ i ∧ i ≤ f.blocks.length ∧ (defsR f = l2 ++ (allPuts i (f.blocks.drop i.toNat)).map toR) ∧ n6 = l2.length ∧ AllR l2⟩) ?_ 0 A5 n5 c5 l1 ⟨by omega, by omega, parR_end a2 a0 q15, a3, a4⟩) rfl
 intro i A6 n6 c6 l2 inv ih2
 obtain ⟨i0, i1, b2, b3, b4⟩ := inv
 refine WpG.g tabOK 5 rfl ?_
 refine WpG.y rfl rfl rfl rfl (RunY.loadH tabOK (hc2.sub 2 1) hlr rfl rfl rfl rfl) ?_
 refine WpG.g tabOK 3 rfl ?_
 refine WpG.caseD (t := 34) rfl (fun q34 => ?_) (fun q34 => ?_)
 ·refine WpG.g tabOK 7 rfl ?_
  refine WpG.y rfl rfl rfl rfl (RunY.loadH tabOK (hc2.sub 2 1) hlr rfl rfl rfl rfl) ?_
  refine WpG.g tabOK 1 rfl ?_
  refine WpG.indexR tabOK rfl rfl rfl rfl rfl rfl rfl rfl rfl r_f_2 (by omega) (by omega) ?_
  rintro x8 hx8 b8 o8 cs8 rd8 hc8
  have rd8' := rd8; obtain ⟨A8_0, c8_0, A8_1, c8_1, A8_4, c8_4, rfl, u8_0, r8_0, u8_1, r8_1, u8_4, r8_4, k8_0, k8_1⟩ := rd8
  have bz8_0 := r8_0.1
  have bz8_1 := r8_1.1
  have bz8_4 := r8_4.1
  obtain rfl : x8 = (nth f.blocks i) := hx8
  refine WpG.y rfl rfl rfl rfl (RunY.loadH tabOK hc8 hH2 rfl rfl rfl rfl) ?_
  refine WpG.alloc tabOK rfl rfl rfl rfl rfl (fun b9 => ?_)
  refine WpG.storeBox (ci := 0) (cs' := [.slice A8_0 ((nth f.blocks i).phis.length) c8_0, .slice A8_1 ((nth f.blocks i).ops.length) c8_1, .int .i64 ((nth f.blocks i).en.kind), .int .i64 ((nth f.blocks i).en.arg), .slice A8_4 ((nth f.blocks i).en.to.length) c8_4]) tabOK rfl rfl rfl rfl rfl rfl rfl rfl rfl ?_
  refine WpG.freezeBox (ci := 0) rfl (fun H10 hH10 hc10 => ?_)
  refine WpG.g tabOK 8 rfl ?_
  refine WpG.wk (WpG.ind5 (fun (j : Int) (A7 : Option Addr) (n7 : Nat) (c7 : Nat) (l3 : List DefR) => ⟨((nth f.blocks i).phis.length - j).toNat, [(1, .pointer (some ⟨b1, 0, none⟩)), (3, .slice A7 n7 c7), (5, .int .i64 i), (6, .pointer (some ⟨b9, 0, none⟩)), (7, .int .i64 j)], H10, [Chunk.own 83 5 A7 c7 n7 (flatR l3)], 0 ≤ j ∧ j ≤ (nth f.blocks i).phis.length ∧ (defsR f = l3 ++ ((phiPuts i ((nth f.blocks i).phis.drop j.toNat)).map toR ++ ((opsPuts i 0 (nth f.blocks i).ops).map toR ++ (allPuts (i + 1) (f.blocks.drop (i + 1).toNat)).map toR))) ∧ n7 = l3.length ∧ AllR l3⟩) ?_ 0 A6 n6 c6 l2 ⟨by omega, by omega, allR_in b2 i0 q34, b3, b4⟩) rfl
  intro j A7 n7 c7 l3 inv ih3
  obtain ⟨j0, j1, d2, d3, d4⟩ := inv
  have hle := le_app d2
  refine WpG.g tabOK 5 rfl ?_
  refine WpG.y rfl rfl rfl rfl (RunY.loadH tabOK (hc10.sub 0 1) hlr rfl rfl rfl rfl) ?_
  refine WpG.g tabOK 3 rfl ?_
  refine WpG.caseD (t := 46) rfl (fun q46 => ?_) (fun q46 => ?_)
  ·refine WpG.g tabOK 4 rfl ?_
   refine WpG.draw 19 [] mixed (by kernel_rfl) ?_
   refine WpD.g (listed' := lst 19 1419) tabOK [0, 1, 3, 7, 8, 10] (by kernel_rfl) rfl (hH2.trans hH10) hlr (.cons _ .slnil) ?_
   refine WpD.y (i := 2) (fuel := 12) (listed' := lst 19 1423) (by kernel_rfl) rfl rfl rfl rfl (hH2.trans hH10) hlr (.cons _ .slnil) (RunY.loadH tabOK (hc10.sub 0 1) hlr rfl rfl rfl rfl) ?_
   refine WpD.indexR (i := 4) (fuel := 11) (listed' := lst 19 1439) tabOK (by kernel_rfl) rfl rfl rfl rfl rfl rfl rfl rfl rfl (hH2.trans hH10) hlr (.cons _ .slnil) r8_0 (by omega) (by omega) ?_
   rintro x11 hx11 b11 o11 cs11 rd11 hc11
   have rd11' := rd11; obtain ⟨A11_2, c11_2, A11_3, c11_3, rfl, u11_2, r11_2, u11_3, r11_3, k11_0, k11_1⟩ := rd11
   have bz11_2 := r11_2.1
   have bz11_3 := r11_3.1
   obtain rfl : x11 = (nth ((nth f.blocks i).phis) j) := hx11
   refine WpD.g (listed' := lst 19 1471) tabOK [5] (by kernel_rfl) rfl (hH2.trans hH10) hlr (.cons _ .slnil) ?_
   refine WpD.y (i := 6) (fuel := 9) (listed' := lst 19 1535) (by kernel_rfl) rfl rfl rfl rfl (hH2.trans hH10) hlr (.cons _ .slnil) (RunY.loadH tabOK (hc11.sub 1 1) (hH2.trans hH10) rfl rfl rfl rfl) ?_
   refine WpD.y (i := 9) (fuel := 8) (listed' := lst 19 2047) (by kernel_rfl) rfl rfl rfl rfl (hH2.trans hH10) hlr (.cons _ .slnil) (RunY.loadH tabOK (hc10.sub 0 1) hlr rfl rfl rfl rfl) ?_
   refine WpD.indexR (i := 11) (fuel := 7) (listed' := lst 19 4095) tabOK (by kernel_rfl) rfl rfl rfl rfl rfl rfl rfl rfl rfl (hH2.trans hH10) hlr (.cons _ .slnil) r8_0 (by omega) (by omega) ?_
   rintro x12 hx12 b12 o12 cs12 rd12 hc12
   have rd12' := rd12; obtain ⟨A12_2, c12_2, A12_3, c12_3, rfl, u12_2, r12_2, u12_3, r12_3, k12_0, k12_1⟩ := rd12
   have bz12_2 := r12_2.1
   have bz12_3 := r12_3.1
   obtain rfl : x12 = (nth ((nth f.blocks i).phis) j) := hx12
   refine WpD.g (listed' := lst 19 8191) tabOK [12] (by kernel_rfl) rfl (hH2.trans hH10) hlr (.cons _ .slnil) ?_
   refine WpD.y (i := 13) (fuel := 5) (listed' := lst 19 16383) (by kernel_rfl) rfl rfl rfl rfl (hH2.trans hH10) hlr (.cons _ .slnil) (RunY.loadH tabOK (hc12.sub 0 1) (hH2.trans hH10) rfl rfl rfl rfl) ?_
   refine WpD.g (listed' := lst 19 65535) tabOK [14, 15] (by kernel_rfl) rfl (hH2.trans hH10) hlr (.cons _ .slnil) ?_
   refine WpD.f (i := 16) (fuel := 2) (listed' := lst 19 131071) (by kernel_rfl) (hH2.trans hH10) (OpG.buildSlice (xs := [.int .i64 ((nth ((nth f.blocks i).phis) j).dst), .int .i64 i, .int .i64 (-1), .int .i64 ((nth ((nth f.blocks i).phis) j).bits), .int .i64 1]) tabOK rfl rfl rfl rfl rfl rfl rfl rfl rfl rfl) ?_
   rintro F1 H1 L1 ⟨b13, eF, eH, eL⟩
   subst eF; subst eL; rw [eH]; clear eH H1
   refine ⟨hlr, (.cons _ (.cons _ .slnil)), ?_⟩
   change WpD _ _ _ _ _ _ _ _ _ _ _ _ _ _ [Chunk.own 83 5 (some ⟨b13, 0, none⟩) 1 1 [.int .i64 ((nth ((nth f.blocks i).phis) j).dst), .int .i64 i, .int .i64 (-1), .int .i64 ((nth ((nth f.blocks i).phis) j).bits), .int .i64 1], Chunk.own 83 5 A7 c7 n7 (flatR l3)]
   refine WpD.f (i := 17) (fuel := 1) (listed' := lst 19 262143) (by kernel_rfl) (hH2.trans hH10) (OpG.append (ci := 1) tabOK rfl rfl rfl rfl rfl rfl rfl rfl rfl rfl rfl rfl (Src.own (ci := 0) rfl) (by omega)) ?_
   rintro F1 H1 L1 ⟨A15, c16, eF, eH, eL⟩
   subst eF; subst eL; rw [eH]; clear eH H1
   refine ⟨hlr, (.cons _ (.cons _ .slnil)), ?_⟩
   change WpD _ _ _ _ _ _ _ _ _ _ _ _ _ _ [Chunk.own 83 5 (some ⟨b13, 0, none⟩) 1 1 [.int .i64 ((nth ((nth f.blocks i).phis) j).dst), .int .i64 i, .int .i64 (-1), .int .i64 ((nth ((nth f.blocks i).phis) j).bits), .int .i64 1], Chunk.own 83 5 A15 c16 (n7 + 1) ((flatR l3) ++ [.int .i64 ((nth ((nth f.blocks i).phis) j).dst), .int .i64 i, .int .i64 (-1), .int .i64 ((nth ((nth f.blocks i).phis) j).bits), .int .i64 1])]
   refine WpD.setL (L' := [Chunk.own 83 5 (some ⟨b13, 0, none⟩) 1 1 [.int .i64 ((nth ((nth f.blocks i).phis) j).dst), .int .i64 i, .int .i64 (-1), .int .i64 ((nth ((nth f.blocks i).phis) j).bits), .int .i64 1], Chunk.own 83 5 A15 c16 (n7 + 1) (flatR (l3 ++ [(⟨(nth ((nth f.blocks i).phis) j).dst, i, (-1), (nth ((nth f.blocks i).phis) j).bits, 1⟩ : DefR)]))]) (by rw [flatR_snoc]) ?_
   refine WpD.g (listed' := lst 19 524287) tabOK [18] (by kernel_rfl) rfl (hH2.trans hH10) hlr (.cons _ (.cons _ .slnil)) ?_
   refine WpD.done (by kernel_rfl) ?_
   refine WpG.gw tabOK 4 48 rfl (wrk (x := j + 1) (by omega) (by omega)) ?_
   refine WpG.g tabOK 3 rfl ?_
   refine WpG.dropL (L' := [Chunk.own 83 5 A15 c16 (n7 + 1) (flatR (l3 ++ [(⟨(nth ((nth f.blocks i).phis) j).dst, i, (-1), (nth ((nth f.blocks i).phis) j).bits, 1⟩ : DefR)]))]) (.cons _ (.cons_cons _ .slnil)) ?_
   refine WpG.wk (ih3 (j + 1) A15 (n7 + 1) c16 (l3 ++ [(⟨(nth ((nth f.blocks i).phis) j).dst, i, (-1), (nth ((nth f.blocks i).phis) j).bits, 1⟩ : DefR)]) ?_ ?_) rfl
   ·dsimp only
    omega
   clear ih1 ih2 ih3
   exact ⟨by omega, by omega, phiR_step d2 j0 q46, by rw [List.length_append, ← d3]; rfl, AllR_snoc d4 ⟨k11_1, i64s (x := i) (by omega) (by omega), I64_m, k11_0, I64_1⟩⟩
  refine WpG.g tabOK 8 rfl ?_
  refine WpG.wk (WpG.ind5 (fun (k : Int) (A8 : Option Addr) (n8 : Nat) (c8 : Nat) (l4 : List DefR) => ⟨((nth f.blocks i).ops.length - k).toNat, [(1, .pointer (some ⟨b1, 0, none⟩)), (3, .slice A8 n8 c8), (5, .int .i64 i), (6, .pointer (some ⟨b9, 0, none⟩)), (8, .int .i64 k)], H10, [Chunk.own 83 5 A8 c8 n8 (flatR l4)], 0 ≤ k ∧ k ≤ (nth f.blocks i).ops.length ∧ (defsR f = l4 ++ ((opsPuts i k ((nth f.blocks i).ops.drop k.toNat)).map toR ++ (allPuts (i + 1) (f.blocks.drop (i + 1).toNat)).map toR)) ∧ n8 = l4.length ∧ AllR l4⟩) ?_ 0 A7 n7 c7 l3 ⟨by omega, by omega, phiR_end d2 j0 q46, d3, d4⟩) rfl
  intro k A8 n8 c8 l4 inv ih4
  obtain ⟨k0, k1, e2, e3, e4⟩ := inv
  have hle := le_app e2
  refine WpG.g tabOK 5 rfl ?_
  refine WpG.y rfl rfl rfl rfl (RunY.loadH tabOK (hc10.sub 1 1) hlr rfl rfl rfl rfl) ?_
  refine WpG.g tabOK 3 rfl ?_
  refine WpG.caseD (t := 71) rfl (fun q71 => ?_) (fun q71 => ?_)
  ·refine WpG.g tabOK 7 rfl ?_
   refine WpG.y rfl rfl rfl rfl (RunY.loadH tabOK (hc10.sub 1 1) hlr rfl rfl rfl rfl) ?_
   refine WpG.g tabOK 1 rfl ?_
   refine WpG.indexR tabOK rfl rfl rfl rfl rfl rfl rfl rfl rfl r8_1 (by omega) (by omega) ?_
   rintro x17 hx17 b17 o17 cs17 rd17 hc17
   have rd17' := rd17; obtain ⟨A17_4, c17_4, rfl, u17_4, r17_4, k17_0, k17_1, k17_2, k17_3, k17_4⟩ := rd17
   have bz17_4 := r17_4.1
   obtain rfl : x17 = (nth ((nth f.blocks i).ops) k) := hx17
   refine WpG.y rfl rfl rfl rfl (RunY.loadH tabOK hc17 (hH2.trans hH10) rfl rfl rfl rfl) ?_
   refine WpG.callS rfl rfl rfl rfl rfl rfl hlr (rGives_calls (Rdc.mono (hH2.trans hH10) rd17')) ?_
   refine WpG.g tabOK 11 rfl ?_
   refine WpG.caseD (t := 84) rfl (fun q84 => ?_) (fun q84 => ?_)
   ·refine WpG.g tabOK 4 rfl ?_
    refine WpG.y rfl rfl rfl rfl (RunY.loadH tabOK (hc10.sub 1 1) hlr rfl rfl rfl rfl) ?_
    refine WpG.g tabOK 1 rfl ?_
    refine WpG.indexR tabOK rfl rfl rfl rfl rfl rfl rfl rfl rfl r8_1 (by omega) (by omega) ?_
    rintro x18 hx18 b18 o18 cs18 rd18 hc18
    have rd18' := rd18; obtain ⟨A18_4, c18_4, rfl, u18_4, r18_4, k18_0, k18_1, k18_2, k18_3, k18_4⟩ := rd18
    have bz18_4 := r18_4.1
    obtain rfl : x18 = (nth ((nth f.blocks i).ops) k) := hx18
    refine WpG.g tabOK 1 rfl ?_
    refine WpG.y rfl rfl rfl rfl (RunY.loadH tabOK (hc18.sub 3 1) (hH2.trans hH10) rfl rfl rfl rfl) ?_
    refine WpG.g tabOK 6 rfl ?_
    refine WpG.buildSlice (xs := [.int .i64 ((nth ((nth f.blocks i).ops) k).dst), .int .i64 i, .int .i64 k, .int .i64 ((givesF (nth ((nth f.blocks i).ops) k)).1), .int .i64 ((givesF (nth ((nth f.blocks i).ops) k)).2)]) tabOK rfl rfl rfl rfl rfl rfl rfl rfl rfl rfl (fun b19 => ?_)
    refine WpG.append (ci := 1) tabOK rfl rfl rfl rfl rfl rfl rfl rfl rfl rfl rfl rfl (Src.own (ci := 0) rfl) (by omega) (fun A21 c22 => ?_)
    refine WpG.dropL (L' := [Chunk.own 83 5 A21 c22 (n8 + 1) ((flatR l4) ++ [.int .i64 ((nth ((nth f.blocks i).ops) k).dst), .int .i64 i, .int .i64 k, .int .i64 ((givesF (nth ((nth f.blocks i).ops) k)).1), .int .i64 ((givesF (nth ((nth f.blocks i).ops) k)).2)])]) (.cons _ (.cons_cons _ .slnil)) ?_
    refine WpG.setL (L' := [Chunk.own 83 5 A21 c22 (n8 + 1) (flatR (l4 ++ [(⟨(nth ((nth f.blocks i).ops) k).dst, i, k, (givesF (nth ((nth f.blocks i).ops) k)).1, (givesF (nth ((nth f.blocks i).ops) k)).2⟩ : DefR)]))]) (by rw [flatR_snoc]) ?_
    refine WpG.gw tabOK 6 73 rfl (wrk (x := k + 1) (by omega) (by omega)) ?_
    refine WpG.g tabOK 3 rfl ?_
    refine WpG.wk (ih4 (k + 1) A21 (n8 + 1) c22 (l4 ++ [(⟨(nth ((nth f.blocks i).ops) k).dst, i, k, (givesF (nth ((nth f.blocks i).ops) k)).1, (givesF (nth ((nth f.blocks i).ops) k)).2⟩ : DefR)]) ?_ ?_) rfl
    ·dsimp only
     omega
    clear ih1 ih2 ih3 ih4
    exact ⟨by omega, by omega, opR_yes e2 k0 q71 q84, by rw [List.length_append, ← e3]; rfl, AllR_snoc e4 ⟨k17_3, i64s (x := i) (by omega) (by omega), i64s (x := k) (by omega) (by omega), (gives_I64 k17_1 k17_2).1, (gives_I64 k17_1 k17_2).2⟩⟩
   refine WpG.gw tabOK 6 73 rfl (wrk (x := k + 1) (by omega) (by omega)) ?_
   refine WpG.g tabOK 3 rfl ?_
   refine WpG.wk (ih4 (k + 1) A8 n8 c8 l4 ?_ ?_) rfl
   ·dsimp only
    omega
   clear ih1 ih2 ih3 ih4
   exact ⟨by omega, by omega, opR_no e2 k0 q71 q84, e3, e4⟩
  refine WpG.gw tabOK 6 36 rfl (wrk (x := i + 1) (by omega) (by omega)) ?_
  refine WpG.g tabOK 3 rfl ?_
  refine WpG.lessH hH2 hH10 ?_
  refine WpG.wk (ih2 (i + 1) A8 n8 c8 l4 ?_ ?_) rfl
  ·dsimp only
   omega
  clear ih1 ih2 ih3 ih4
  exact ⟨by omega, by omega, opR_end e2 k0 q71, e3, e4⟩
 refine WpG.g tabOK 7 rfl ?_
 refine WpG.ownCap (ci := 0) rfl (fun uz23 => ?_)
 refine WpG.freezeOwn (ci := 0) rfl (fun H23 hH23 fz23 => ?_)
 have rz23 : RdS H23 A6 l2 := RdS.of_own (H := H2) (show RdL H2 (flatR l2) l2 from RdL_defs _ b4) (b3) (by have := le_app b2; omega) hH23 fz23
 exact WpG.ret tabOK (L' := []) (.tmp rfl .nil) .slnil (rows_ret (all_done b2 i0 q34) b3 uz23 rz23)
theorem rFind_calls {H : Hp} {A : Option Addr} {c : Nat} {l : List DefR} (hl : RdS H A l) (w : Int) : CallG Tryz.prog 47 [.slice A l.length c, .int .i64 w] H [] (fun v _ L' => v = .int .i64 (findR l w) ∧ L' = []) := by
 have bl := hl.1
 refine CallG.of Tryz.func47 rfl rfl rfl fun w0 => ?_
 refine WpG.g tabOK 11 rfl ?_
 refine WpG.wk (WpG.ind1 (fun (i : Int) => ⟨(l.length - i).toNat, [(0, .slice A l.length c), (1, .int .i64 w), (5, .int .i64 i)], H, [], 0 ≤ i ∧ i ≤ l.length ∧ findR l w = idxFrom (fun d => d.v == w) (l.drop i.toNat) i⟩) ?_ 0 ⟨by omega, by omega, rfl⟩) rfl
 intro i inv ih1
 obtain ⟨i0, i1, i2⟩ := inv
 refine WpG.g tabOK 8 rfl ?_
 refine WpG.caseD (t := 9) rfl (fun q9 => ?_) (fun q9 => ?_)
 ·refine WpG.g tabOK 8 rfl ?_
  refine WpG.indexR tabOK rfl rfl rfl rfl rfl rfl rfl rfl rfl hl (by omega) (by omega) ?_
  rintro x1 hx1 b1 o1 cs1 rd1 hc1
  have rd1' := rd1; obtain ⟨rfl, k1_0, k1_1, k1_2, k1_3, k1_4⟩ := rd1
  obtain rfl : x1 = (nth l i) := hx1
  refine WpG.g tabOK 1 rfl ?_
  refine WpG.y rfl rfl rfl rfl (RunY.loadH tabOK (hc1.sub 0 1) hlr rfl rfl rfl rfl) ?_
  refine WpG.g tabOK 3 rfl ?_
  refine WpG.caseE (t := 18) rfl (fun q18 => ?_) (fun q18 => ?_)
  ·refine WpG.g tabOK 6 rfl ?_
   exact WpG.ret tabOK (L' := []) (.tmp rfl .nil) .slnil ⟨congrArg (Value.int .i64) (by clear ih1; rw [i2, drop_nth i0 q9]; simp only [idxFrom]; rw [if_pos (by simp [q18])]), rfl⟩
  refine WpG.gw tabOK 6 11 rfl (wrk (x := i + 1) (by omega) (by omega)) ?_
  refine WpG.g tabOK 3 rfl ?_
  refine WpG.wk (ih1 (i + 1) ?_ ?_) rfl
  ·dsimp only
   omega
  clear ih1
  refine ⟨by omega, by omega, ?_⟩
  rw [i2, drop_nth i0 q9, toNat_succ i0]; simp only [idxFrom]; rw [if_neg (by simp [q18])]
 refine WpG.g tabOK 6 rfl ?_
 exact WpG.ret tabOK (L' := []) (.tmp rfl .nil) .slnil ⟨congrArg (Value.int .i64) (by clear ih1; rw [i2, drop_end i0 q9]; rfl), rfl⟩
end Go.Proofs.YtakameggkkjcpaaGreat
set_option maxRecDepth 4000
namespace Go.Proofs.YtakameggkkjcpaaGreat
open Go Go.RowKit
set_option maxHeartbeats 2000000 in
theorem rUses_calls {H : Hp} {f : FuncD} {cs_f : List Value} (rd_f : Rdc.rd H cs_f f) (hb : (usesR f).length ≤ 2147483000) (hr : f.ret ≠ 0) (hp : ∀ x ∈ f.blocks, ∀ p ∈ x.phis, p.args.length = p.frm.length) (hk : ∀ x ∈ f.blocks, x.ops.length ≤ 512) : CallG Tryz.prog 48 [.agg cs_f.toArray] H [] (fun v H' L' => ∃ A c, v = .slice A (usesR f).length c ∧ (usesR f).length ≤ c ∧ RdS H' A (usesR f) ∧ L' = []) := by
 have rd_f' := rd_f; obtain ⟨A_f_0, c_f_0, A_f_2, c_f_2, rfl, u_f_0, r_f_0, u_f_2, r_f_2, k_f_0⟩ := rd_f
 have bf := r_f_2.1
 refine CallG.of Tryz.func48 rfl rfl rfl fun w0 => ?_
 refine WpG.g tabOK 2 rfl ?_
 refine WpG.box rfl rfl rfl rfl rfl (fun b1 => ?_)
 refine WpG.freezeBox (ci := 0) rfl (fun H2 hH2 hc2 => ?_)
 refine WpG.g tabOK 13 rfl ?_
 refine WpG.ownNil 87 5 ?_
 refine WpG.wk (WpG.ind6 (fun (i : Int) (A1 : Option Addr) (n1 : Nat) (c1 : Nat) (l1 : List DefR) (G : Hp) => ⟨(f.blocks.length - i).toNat, [(1, .pointer (some ⟨b1, 0, none⟩)), (3, .slice A1 n1 c1), (4, .int .i64 i)], G, [Chunk.own 87 5 A1 c1 n1 (flatR l1)], 0 ≤ i ∧ i ≤ f.blocks.length ∧ (usesR f = l1 ++ (allAsks f.ret i (f.blocks.drop i.toNat)).map toU) ∧ n1 = l1.length ∧ AllR l1 ∧ H2.le G⟩) ?_ 0 none 0 0 ([] : List DefR) H2 ⟨by omega, by omega, rfl, rfl, AllR_nil, Hp.le.refl _⟩) rfl
 intro i A1 n1 c1 l1 G inv ih1
 obtain ⟨i0, i1, i2, i3, i4, i5⟩ := inv
 have hle := le_app i2
 refine WpG.g tabOK 5 rfl ?_
 refine WpG.y rfl rfl rfl rfl (RunY.loadH tabOK (hc2.sub 2 1) i5 rfl rfl rfl rfl) ?_
 refine WpG.g tabOK 3 rfl ?_
 refine WpG.caseD (t := 16) rfl (fun q16 => ?_) (fun q16 => ?_)
 ·refine WpG.g tabOK 7 rfl ?_
  refine WpG.y rfl rfl rfl rfl (RunY.loadH tabOK (hc2.sub 2 1) i5 rfl rfl rfl rfl) ?_
  refine WpG.g tabOK 1 rfl ?_
  refine WpG.indexR tabOK rfl rfl rfl rfl rfl rfl rfl rfl rfl r_f_2 (by omega) (by omega) ?_
  rintro x3 hx3 b3 o3 cs3 rd3 hc3
  have rd3' := rd3; obtain ⟨A3_0, c3_0, A3_1, c3_1, A3_4, c3_4, rfl, u3_0, r3_0, u3_1, r3_1, u3_4, r3_4, k3_0, k3_1⟩ := rd3
  have bz3_0 := r3_0.1
  have bz3_1 := r3_1.1
  have bz3_4 := r3_4.1
  obtain rfl : x3 = (nth f.blocks i) := hx3
  refine WpG.y rfl rfl rfl rfl (RunY.loadH tabOK hc3 (hH2.trans i5) rfl rfl rfl rfl) ?_
  refine WpG.alloc tabOK rfl rfl rfl rfl rfl (fun b4 => ?_)
  refine WpG.storeBox (ci := 0) (cs' := [.slice A3_0 ((nth f.blocks i).phis.length) c3_0, .slice A3_1 ((nth f.blocks i).ops.length) c3_1, .int .i64 ((nth f.blocks i).en.kind), .int .i64 ((nth f.blocks i).en.arg), .slice A3_4 ((nth f.blocks i).en.to.length) c3_4]) tabOK rfl rfl rfl rfl rfl rfl rfl rfl rfl ?_
  refine WpG.freezeBox (ci := 0) rfl (fun H5 hH5 hc5 => ?_)
  refine WpG.g tabOK 8 rfl ?_
  refine WpG.wk (WpG.ind6 (fun (j : Int) (A2 : Option Addr) (n2 : Nat) (c2 : Nat) (l2 : List DefR) (G2 : Hp) => ⟨((nth f.blocks i).phis.length - j).toNat, [(1, .pointer (some ⟨b1, 0, none⟩)), (3, .slice A2 n2 c2), (4, .int .i64 i), (5, .pointer (some ⟨b4, 0, none⟩)), (6, .int .i64 j)], G2, [Chunk.own 87 5 A2 c2 n2 (flatR l2)], 0 ≤ j ∧ j ≤ (nth f.blocks i).phis.length ∧ (usesR f = l2 ++ ((((nth f.blocks i).phis.drop j.toNat).flatMap phiAsks).map toU ++ rest2 f.ret i (nth f.blocks i) (allAsks f.ret (i + 1) (f.blocks.drop (i + 1).toNat)))) ∧ n2 = l2.length ∧ AllR l2 ∧ H5.le G2⟩) ?_ 0 A1 n1 c1 l1 H5 ⟨by omega, by omega, useR_in i2 i0 q16, i3, i4, Hp.le.refl _⟩) rfl
  intro j A2 n2 c2 l2 G2 inv ih2
  obtain ⟨j0, j1, j2, j3, j4, j5⟩ := inv
  refine WpG.g tabOK 5 rfl ?_
  refine WpG.y rfl rfl rfl rfl (RunY.loadH tabOK (hc5.sub 0 1) j5 rfl rfl rfl rfl) ?_
  refine WpG.g tabOK 3 rfl ?_
  refine WpG.caseD (t := 28) rfl (fun q28 => ?_) (fun q28 => ?_)
  ·refine WpG.g tabOK 7 rfl ?_
   refine WpG.y rfl rfl rfl rfl (RunY.loadH tabOK (hc5.sub 0 1) j5 rfl rfl rfl rfl) ?_
   refine WpG.g tabOK 1 rfl ?_
   refine WpG.indexR tabOK rfl rfl rfl rfl rfl rfl rfl rfl rfl r3_0 (by omega) (by omega) ?_
   rintro x6 hx6 b6 o6 cs6 rd6 hc6
   have rd6' := rd6; obtain ⟨A6_2, c6_2, A6_3, c6_3, rfl, u6_2, r6_2, u6_3, r6_3, k6_0, k6_1⟩ := rd6
   have bz6_2 := r6_2.1
   have bz6_3 := r6_3.1
   obtain rfl : x6 = (nth ((nth f.blocks i).phis) j) := hx6
   refine WpG.y rfl rfl rfl rfl (RunY.loadH tabOK hc6 (((hH2.trans i5).trans hH5).trans j5) rfl rfl rfl rfl) ?_
   refine WpG.alloc tabOK rfl rfl rfl rfl rfl (fun b7 => ?_)
   refine WpG.storeBox (ci := 0) (cs' := [.int .i64 ((nth ((nth f.blocks i).phis) j).bits), .int .i64 ((nth ((nth f.blocks i).phis) j).dst), .slice A6_2 ((nth ((nth f.blocks i).phis) j).frm.length) c6_2, .slice A6_3 ((nth ((nth f.blocks i).phis) j).args.length) c6_3]) tabOK rfl rfl rfl rfl rfl rfl rfl rfl rfl ?_
   refine WpG.freezeBox (ci := 0) rfl (fun H8 hH8 hc8 => ?_)
   refine WpG.g tabOK 7 rfl ?_
   refine WpG.wk (WpG.ind5 (fun (q : Int) (A3 : Option Addr) (n3 : Nat) (c3 : Nat) (l3 : List DefR) => ⟨((nth (nth f.blocks i).phis j).args.length - q).toNat, [(1, .pointer (some ⟨b1, 0, none⟩)), (3, .slice A3 n3 c3), (4, .int .i64 i), (5, .pointer (some ⟨b4, 0, none⟩)), (6, .int .i64 j), (7, .pointer (some ⟨b7, 0, none⟩)), (8, .int .i64 q)], H8, [Chunk.own 87 5 A3 c3 n3 (flatR l3)], 0 ≤ q ∧ q ≤ (nth (nth f.blocks i).phis j).args.length ∧ (usesR f = l3 ++ (((phiAsks (nth (nth f.blocks i).phis j)).drop q.toNat).map toU ++ ((((nth f.blocks i).phis.drop (j + 1).toNat).flatMap phiAsks).map toU ++ rest2 f.ret i (nth f.blocks i) (allAsks f.ret (i + 1) (f.blocks.drop (i + 1).toNat))))) ∧ n3 = l3.length ∧ AllR l3⟩) ?_ 0 A2 n2 c2 l2 ⟨by omega, by omega, useP_in j2 j0 q28, j3, j4⟩) rfl
   intro q A3 n3 c3 l3 inv ih3
   obtain ⟨d0, d1, d2, d3, d4⟩ := inv
   have hle := le_app d2
   refine WpG.g tabOK 5 rfl ?_
   refine WpG.y rfl rfl rfl rfl (RunY.loadH tabOK (hc8.sub 3 1) hlr rfl rfl rfl rfl) ?_
   refine WpG.g tabOK 3 rfl ?_
   refine WpG.caseD (t := 40) rfl (fun q40 => ?_) (fun q40 => ?_)
   ·have hq := hp _ (nth_mem i0 q16) _ (nth_mem j0 q28)
    refine WpG.g tabOK 4 rfl ?_
    refine WpG.draw 18 [] mixed (by kernel_rfl) ?_
    refine WpD.g (listed' := lst 18 2379) tabOK [0, 1, 3, 6, 8, 11] (by kernel_rfl) rfl ((((hH2.trans i5).trans hH5).trans j5).trans hH8) hlr (.cons _ .slnil) ?_
    refine WpD.y (i := 2) (fuel := 11) (listed' := lst 18 2383) (by kernel_rfl) rfl rfl rfl rfl ((((hH2.trans i5).trans hH5).trans j5).trans hH8) hlr (.cons _ .slnil) (RunY.loadH tabOK (hc8.sub 3 1) hlr rfl rfl rfl rfl) ?_
    refine WpD.indexR (i := 4) (fuel := 10) (listed' := lst 18 2399) tabOK (by kernel_rfl) rfl rfl rfl rfl rfl rfl rfl rfl rfl ((((hH2.trans i5).trans hH5).trans j5).trans hH8) hlr (.cons _ .slnil) r6_3 (by omega) (by omega) ?_
    rintro x9 hx9 b9 o9 _ ⟨rfl, k9⟩ hc9
    obtain rfl : x9 = (nth ((nth ((nth f.blocks i).phis) j).args) q) := hx9
    refine WpD.y (i := 5) (fuel := 9) (listed' := lst 18 2431) (by kernel_rfl) rfl rfl rfl rfl ((((hH2.trans i5).trans hH5).trans j5).trans hH8) hlr (.cons _ .slnil) (RunY.loadH tabOK hc9 ((((hH2.trans i5).trans hH5).trans j5).trans hH8) rfl rfl rfl rfl) ?_
    refine WpD.y (i := 7) (fuel := 8) (listed' := lst 18 2559) (by kernel_rfl) rfl rfl rfl rfl ((((hH2.trans i5).trans hH5).trans j5).trans hH8) hlr (.cons _ .slnil) (RunY.loadH tabOK (hc8.sub 2 1) hlr rfl rfl rfl rfl) ?_
    refine WpD.indexR (i := 9) (fuel := 7) (listed' := lst 18 3071) tabOK (by kernel_rfl) rfl rfl rfl rfl rfl rfl rfl rfl rfl ((((hH2.trans i5).trans hH5).trans j5).trans hH8) hlr (.cons _ .slnil) r6_2 (by omega) (by omega) ?_
    rintro x10 hx10 b10 o10 _ ⟨rfl, k10⟩ hc10
    obtain rfl : x10 = (nth ((nth ((nth f.blocks i).phis) j).frm) q) := hx10
    refine WpD.y (i := 10) (fuel := 6) (listed' := lst 18 4095) (by kernel_rfl) rfl rfl rfl rfl ((((hH2.trans i5).trans hH5).trans j5).trans hH8) hlr (.cons _ .slnil) (RunY.loadH tabOK hc10 ((((hH2.trans i5).trans hH5).trans j5).trans hH8) rfl rfl rfl rfl) ?_
    refine WpD.y (i := 12) (fuel := 5) (listed' := lst 18 8191) (by kernel_rfl) rfl rfl rfl rfl ((((hH2.trans i5).trans hH5).trans j5).trans hH8) hlr (.cons _ .slnil) (RunY.loadH tabOK (hc8.sub 0 1) hlr rfl rfl rfl rfl) ?_
    refine WpD.g (listed' := lst 18 32767) tabOK [13, 14] (by kernel_rfl) rfl ((((hH2.trans i5).trans hH5).trans j5).trans hH8) hlr (.cons _ .slnil) ?_
    refine WpD.f (i := 15) (fuel := 2) (listed' := lst 18 65535) (by kernel_rfl) ((((hH2.trans i5).trans hH5).trans j5).trans hH8) (OpG.buildSlice (xs := [.int .i64 (nth ((nth ((nth f.blocks i).phis) j).args) q), .int .i64 (nth ((nth ((nth f.blocks i).phis) j).frm) q), .int .i64 1000, .int .i64 ((nth ((nth f.blocks i).phis) j).bits), .int .i64 1]) tabOK rfl rfl rfl rfl rfl rfl rfl rfl rfl rfl) ?_
    rintro F1 H1 L1 ⟨b11, eF, eH, eL⟩
    subst eF; subst eL; rw [eH]; clear eH H1
    refine ⟨hlr, (.cons _ (.cons _ .slnil)), ?_⟩
    change WpD _ _ _ _ _ _ _ _ _ _ _ _ _ _ [Chunk.own 87 5 (some ⟨b11, 0, none⟩) 1 1 [.int .i64 (nth ((nth ((nth f.blocks i).phis) j).args) q), .int .i64 (nth ((nth ((nth f.blocks i).phis) j).frm) q), .int .i64 1000, .int .i64 ((nth ((nth f.blocks i).phis) j).bits), .int .i64 1], Chunk.own 87 5 A3 c3 n3 (flatR l3)]
    refine WpD.f (i := 16) (fuel := 1) (listed' := lst 18 131071) (by kernel_rfl) ((((hH2.trans i5).trans hH5).trans j5).trans hH8) (OpG.append (ci := 1) tabOK rfl rfl rfl rfl rfl rfl rfl rfl rfl rfl rfl rfl (Src.own (ci := 0) rfl) (by omega)) ?_
    rintro F1 H1 L1 ⟨A13, c14, eF, eH, eL⟩
    subst eF; subst eL; rw [eH]; clear eH H1
    refine ⟨hlr, (.cons _ (.cons _ .slnil)), ?_⟩
    change WpD _ _ _ _ _ _ _ _ _ _ _ _ _ _ [Chunk.own 87 5 (some ⟨b11, 0, none⟩) 1 1 [.int .i64 (nth ((nth ((nth f.blocks i).phis) j).args) q), .int .i64 (nth ((nth ((nth f.blocks i).phis) j).frm) q), .int .i64 1000, .int .i64 ((nth ((nth f.blocks i).phis) j).bits), .int .i64 1], Chunk.own 87 5 A13 c14 (n3 + 1) ((flatR l3) ++ [.int .i64 (nth ((nth ((nth f.blocks i).phis) j).args) q), .int .i64 (nth ((nth ((nth f.blocks i).phis) j).frm) q), .int .i64 1000, .int .i64 ((nth ((nth f.blocks i).phis) j).bits), .int .i64 1])]
    refine WpD.setL (L' := [Chunk.own 87 5 (some ⟨b11, 0, none⟩) 1 1 [.int .i64 (nth ((nth ((nth f.blocks i).phis) j).args) q), .int .i64 (nth ((nth ((nth f.blocks i).phis) j).frm) q), .int .i64 1000, .int .i64 ((nth ((nth f.blocks i).phis) j).bits), .int .i64 1], Chunk.own 87 5 A13 c14 (n3 + 1) (flatR (l3 ++ [(⟨(nth ((nth ((nth f.blocks i).phis) j).args) q), (nth ((nth ((nth f.blocks i).phis) j).frm) q), 1000, (nth ((nth f.blocks i).phis) j).bits, 1⟩ : DefR)]))]) (by rw [flatR_snoc]) ?_
    refine WpD.g (listed' := lst 18 262143) tabOK [17] (by kernel_rfl) rfl ((((hH2.trans i5).trans hH5).trans j5).trans hH8) hlr (.cons _ (.cons _ .slnil)) ?_
    refine WpD.done (by kernel_rfl) ?_
    refine WpG.gw tabOK 4 42 rfl (wrk (x := q + 1) (by omega) (by omega)) ?_
    refine WpG.g tabOK 3 rfl ?_
    refine WpG.dropL (L' := [Chunk.own 87 5 A13 c14 (n3 + 1) (flatR (l3 ++ [(⟨(nth ((nth ((nth f.blocks i).phis) j).args) q), (nth ((nth ((nth f.blocks i).phis) j).frm) q), 1000, (nth ((nth f.blocks i).phis) j).bits, 1⟩ : DefR)]))]) (.cons _ (.cons_cons _ .slnil)) ?_
    refine WpG.wk (ih3 (q + 1) A13 (n3 + 1) c14 (l3 ++ [(⟨(nth ((nth ((nth f.blocks i).phis) j).args) q), (nth ((nth ((nth f.blocks i).phis) j).frm) q), 1000, (nth ((nth f.blocks i).phis) j).bits, 1⟩ : DefR)]) ?_ ?_) rfl
    ·dsimp only
     omega
    clear ih1 ih2 ih3
    exact ⟨by omega, by omega, useA_step d2 d0 q40 (by omega), by rw [List.length_append, ← d3]; rfl, AllR_snoc d4 ⟨k9, k10, I64_k, k6_0, I64_1⟩⟩
   refine WpG.gw tabOK 6 30 rfl (wrk (x := j + 1) (by omega) (by omega)) ?_
   refine WpG.g tabOK 3 rfl ?_
   refine WpG.wk (ih2 (j + 1) A3 n3 c3 l3 H8 ?_ ?_) rfl
   ·dsimp only
    omega
   clear ih1 ih2 ih3
   exact ⟨by omega, by omega, useA_end d2 (hp _ (nth_mem i0 q16) _ (nth_mem j0 q28)) d0 q40, d3, d4, j5.trans hH8⟩
  refine WpG.g tabOK 9 rfl ?_
  refine WpG.wk (WpG.ind6 (fun (k : Int) (A4 : Option Addr) (n4 : Nat) (c4 : Nat) (l4 : List DefR) (G4 : Hp) => ⟨((nth f.blocks i).ops.length - k).toNat, [(1, .pointer (some ⟨b1, 0, none⟩)), (3, .slice A4 n4 c4), (4, .int .i64 i), (5, .pointer (some ⟨b4, 0, none⟩)), (9, .int .i64 k)], G4, [Chunk.own 87 5 A4 c4 n4 (flatR l4)], 0 ≤ k ∧ k ≤ (nth f.blocks i).ops.length ∧ (usesR f = l4 ++ ((opsAsks i k ((nth f.blocks i).ops.drop k.toNat)).map toU ++ (endAsks f.ret i (nth f.blocks i).en ++ (allAsks f.ret (i + 1) (f.blocks.drop (i + 1).toNat))).map toU)) ∧ n4 = l4.length ∧ AllR l4 ∧ G2.le G4⟩) ?_ 0 A2 n2 c2 l2 G2 ⟨by omega, by omega, by rw [← rest2_eq]; exact useP_end j2 j0 q28, j3, j4, Hp.le.refl _⟩) rfl
  intro k A4 n4 c4 l4 G4 inv ih4
  obtain ⟨k0, k1, k2, k3, k4, k5⟩ := inv
  have hle := le_app k2
  refine WpG.g tabOK 5 rfl ?_
  refine WpG.y rfl rfl rfl rfl (RunY.loadH tabOK (hc5.sub 1 1) (j5.trans k5) rfl rfl rfl rfl) ?_
  refine WpG.g tabOK 3 rfl ?_
  refine WpG.caseD (t := 64) rfl (fun q64 => ?_) (fun q64 => ?_)
  ·have hk5 := hk _ (nth_mem i0 q16)
   refine WpG.g tabOK 7 rfl ?_
   refine WpG.y rfl rfl rfl rfl (RunY.loadH tabOK (hc5.sub 1 1) (j5.trans k5) rfl rfl rfl rfl) ?_
   refine WpG.g tabOK 1 rfl ?_
   refine WpG.indexR tabOK rfl rfl rfl rfl rfl rfl rfl rfl rfl r3_1 (by omega) (by omega) ?_
   rintro x15 hx15 b15 o15 cs15 rd15 hc15
   have rd15' := rd15; obtain ⟨A15_4, c15_4, rfl, u15_4, r15_4, k15_0, k15_1, k15_2, k15_3, k15_4⟩ := rd15
   have bz15_4 := r15_4.1
   obtain rfl : x15 = (nth ((nth f.blocks i).ops) k) := hx15
   refine WpG.y rfl rfl rfl rfl (RunY.loadH tabOK hc15 ((((hH2.trans i5).trans hH5).trans j5).trans k5) rfl rfl rfl rfl) ?_
   refine WpG.call0 rfl rfl rfl rfl rfl rfl (rTakes_calls (Rdc.mono ((((hH2.trans i5).trans hH5).trans j5).trans k5) rd15')) ?_
   rintro _ H16 _ hH16 ⟨A16, c16, rfl, r16, rfl⟩
   refine WpG.g tabOK 8 rfl ?_
   refine WpG.wk (WpG.ind5 (fun (u : Int) (A5 : Option Addr) (n5 : Nat) (c5 : Nat) (l5 : List DefR) => ⟨((takesF (nth (nth f.blocks i).ops k)).length - u).toNat, [(1, .pointer (some ⟨b1, 0, none⟩)), (3, .slice A5 n5 c5), (4, .int .i64 i), (5, .pointer (some ⟨b4, 0, none⟩)), (9, .int .i64 k), (10, .slice A16 ((takesF (nth ((nth f.blocks i).ops) k)).length) c16), (11, .int .i64 u)], H16, [Chunk.own 87 5 A5 c5 n5 (flatR l5)], 0 ≤ u ∧ u ≤ (takesF (nth (nth f.blocks i).ops k)).length ∧ (usesR f = l5 ++ (((opAsks i k (nth (nth f.blocks i).ops k)).drop u.toNat).map toU ++ ((opsAsks i (k + 1) ((nth f.blocks i).ops.drop (k + 1).toNat)).map toU ++ (endAsks f.ret i (nth f.blocks i).en ++ (allAsks f.ret (i + 1) (f.blocks.drop (i + 1).toNat))).map toU))) ∧ n5 = l5.length ∧ AllR l5⟩) ?_ 0 A4 n4 c4 l4 ⟨by omega, by omega, useO_in k2 k0 q64, k3, k4⟩) rfl
   intro u A5 n5 c5 l5 inv ih5
   obtain ⟨e0, e1, e2, e3, e4⟩ := inv
   have hle := le_app e2
   refine WpG.g tabOK 8 rfl ?_
   refine WpG.caseD (t := 76) rfl (fun q76 => ?_) (fun q76 => ?_)
   ·have htl := takesR_le (nth (nth f.blocks i).ops k)
    refine WpG.g tabOK 4 rfl ?_
    refine WpG.draw 20 [] mixed (by kernel_rfl) ?_
    refine WpD.g (listed' := lst 20 15499) tabOK [0, 1, 3, 7, 10, 11, 12, 13] (by kernel_rfl) rfl (((((hH2.trans i5).trans hH5).trans j5).trans k5).trans hH16) hlr (.cons _ .slnil) ?_
    refine WpD.y (i := 2) (fuel := 11) (listed' := lst 20 15503) (by kernel_rfl) rfl rfl rfl rfl (((((hH2.trans i5).trans hH5).trans j5).trans k5).trans hH16) hlr (.cons _ .slnil) (RunY.loadH tabOK (hc5.sub 1 1) ((j5.trans k5).trans hH16) rfl rfl rfl rfl) ?_
    refine WpD.indexR (i := 4) (fuel := 10) (listed' := lst 20 15519) tabOK (by kernel_rfl) rfl rfl rfl rfl rfl rfl rfl rfl rfl (((((hH2.trans i5).trans hH5).trans j5).trans k5).trans hH16) hlr (.cons _ .slnil) r3_1 (by omega) (by omega) ?_
    rintro x17 hx17 b17 o17 cs17 rd17 hc17
    have rd17' := rd17; obtain ⟨A17_4, c17_4, rfl, u17_4, r17_4, k17_0, k17_1, k17_2, k17_3, k17_4⟩ := rd17
    have bz17_4 := r17_4.1
    obtain rfl : x17 = (nth ((nth f.blocks i).ops) k) := hx17
    refine WpD.g (listed' := lst 20 15551) tabOK [5] (by kernel_rfl) rfl (((((hH2.trans i5).trans hH5).trans j5).trans k5).trans hH16) hlr (.cons _ .slnil) ?_
    refine WpD.y (i := 6) (fuel := 8) (listed' := lst 20 15615) (by kernel_rfl) rfl rfl rfl rfl (((((hH2.trans i5).trans hH5).trans j5).trans k5).trans hH16) hlr (.cons _ .slnil) (RunY.loadH tabOK (hc17.sub 4 1) (((((hH2.trans i5).trans hH5).trans j5).trans k5).trans hH16) rfl rfl rfl rfl) ?_
    refine WpD.indexR (i := 8) (fuel := 7) (listed' := lst 20 15871) tabOK (by kernel_rfl) rfl rfl rfl rfl rfl rfl rfl rfl rfl (((((hH2.trans i5).trans hH5).trans j5).trans k5).trans hH16) hlr (.cons _ .slnil) r17_4 (by omega) (by omega) ?_
    rintro x18 hx18 b18 o18 _ ⟨rfl, k18⟩ hc18
    obtain rfl : x18 = (nth ((nth ((nth f.blocks i).ops) k).args) u) := hx18
    refine WpD.y (i := 9) (fuel := 6) (listed' := lst 20 16383) (by kernel_rfl) rfl rfl rfl rfl (((((hH2.trans i5).trans hH5).trans j5).trans k5).trans hH16) hlr (.cons _ .slnil) (RunY.loadH tabOK hc18 (((((hH2.trans i5).trans hH5).trans j5).trans k5).trans hH16) rfl rfl rfl rfl) ?_
    refine WpD.indexR (i := 14) (fuel := 5) (listed' := lst 20 32767) tabOK (by kernel_rfl) rfl rfl rfl rfl rfl rfl rfl rfl rfl (((((hH2.trans i5).trans hH5).trans j5).trans k5).trans hH16) hlr (.cons _ .slnil) r16 (by omega) (by omega) ?_
    rintro x19 hx19 b19 o19 cs19 rd19 hc19
    have rd19' := rd19; obtain ⟨rfl, k19_0, k19_1⟩ := rd19
    obtain rfl : x19 = (nth (takesF (nth ((nth f.blocks i).ops) k)) u) := hx19
    refine WpD.y (i := 15) (fuel := 4) (listed' := lst 20 65535) (by kernel_rfl) rfl rfl rfl rfl (((((hH2.trans i5).trans hH5).trans j5).trans k5).trans hH16) hlr (.cons _ .slnil) (RunY.loadH tabOK hc19 hlr rfl rfl rfl rfl) ?_
    refine WpD.g (listed' := lst 20 131071) tabOK [16] (by kernel_rfl) rfl (((((hH2.trans i5).trans hH5).trans j5).trans k5).trans hH16) hlr (.cons _ .slnil) ?_
    refine WpD.f (i := 17) (fuel := 2) (listed' := lst 20 262143) (by kernel_rfl) (((((hH2.trans i5).trans hH5).trans j5).trans k5).trans hH16) (OpG.buildSlice (xs := [.int .i64 (nth ((nth ((nth f.blocks i).ops) k).args) u), .int .i64 i, .int .i64 k, .int .i64 ((nth (takesF (nth ((nth f.blocks i).ops) k)) u).1), .int .i64 ((nth (takesF (nth ((nth f.blocks i).ops) k)) u).2)]) tabOK rfl rfl rfl rfl rfl rfl rfl rfl rfl rfl) ?_
    rintro F1 H1 L1 ⟨b20, eF, eH, eL⟩
    subst eF; subst eL; rw [eH]; clear eH H1
    refine ⟨hlr, (.cons _ (.cons _ .slnil)), ?_⟩
    change WpD _ _ _ _ _ _ _ _ _ _ _ _ _ _ [Chunk.own 87 5 (some ⟨b20, 0, none⟩) 1 1 [.int .i64 (nth ((nth ((nth f.blocks i).ops) k).args) u), .int .i64 i, .int .i64 k, .int .i64 ((nth (takesF (nth ((nth f.blocks i).ops) k)) u).1), .int .i64 ((nth (takesF (nth ((nth f.blocks i).ops) k)) u).2)], Chunk.own 87 5 A5 c5 n5 (flatR l5)]
    refine WpD.f (i := 18) (fuel := 1) (listed' := lst 20 524287) (by kernel_rfl) (((((hH2.trans i5).trans hH5).trans j5).trans k5).trans hH16) (OpG.append (ci := 1) tabOK rfl rfl rfl rfl rfl rfl rfl rfl rfl rfl rfl rfl (Src.own (ci := 0) rfl) (by omega)) ?_
    rintro F1 H1 L1 ⟨A22, c23, eF, eH, eL⟩
    subst eF; subst eL; rw [eH]; clear eH H1
    refine ⟨hlr, (.cons _ (.cons _ .slnil)), ?_⟩
    change WpD _ _ _ _ _ _ _ _ _ _ _ _ _ _ [Chunk.own 87 5 (some ⟨b20, 0, none⟩) 1 1 [.int .i64 (nth ((nth ((nth f.blocks i).ops) k).args) u), .int .i64 i, .int .i64 k, .int .i64 ((nth (takesF (nth ((nth f.blocks i).ops) k)) u).1), .int .i64 ((nth (takesF (nth ((nth f.blocks i).ops) k)) u).2)], Chunk.own 87 5 A22 c23 (n5 + 1) ((flatR l5) ++ [.int .i64 (nth ((nth ((nth f.blocks i).ops) k).args) u), .int .i64 i, .int .i64 k, .int .i64 ((nth (takesF (nth ((nth f.blocks i).ops) k)) u).1), .int .i64 ((nth (takesF (nth ((nth f.blocks i).ops) k)) u).2)])]
    refine WpD.setL (L' := [Chunk.own 87 5 (some ⟨b20, 0, none⟩) 1 1 [.int .i64 (nth ((nth ((nth f.blocks i).ops) k).args) u), .int .i64 i, .int .i64 k, .int .i64 ((nth (takesF (nth ((nth f.blocks i).ops) k)) u).1), .int .i64 ((nth (takesF (nth ((nth f.blocks i).ops) k)) u).2)], Chunk.own 87 5 A22 c23 (n5 + 1) (flatR (l5 ++ [(⟨(nth ((nth ((nth f.blocks i).ops) k).args) u), i, k, (nth (takesF (nth ((nth f.blocks i).ops) k)) u).1, (nth (takesF (nth ((nth f.blocks i).ops) k)) u).2⟩ : DefR)]))]) (by rw [flatR_snoc]) ?_
    refine WpD.g (listed' := lst 20 1048575) tabOK [19] (by kernel_rfl) rfl (((((hH2.trans i5).trans hH5).trans j5).trans k5).trans hH16) hlr (.cons _ (.cons _ .slnil)) ?_
    refine WpD.done (by kernel_rfl) ?_
    refine WpG.gw tabOK 4 78 rfl (wrk (x := u + 1) (by omega) (by omega)) ?_
    refine WpG.g tabOK 3 rfl ?_
    refine WpG.dropL (L' := [Chunk.own 87 5 A22 c23 (n5 + 1) (flatR (l5 ++ [(⟨(nth ((nth ((nth f.blocks i).ops) k).args) u), i, k, (nth (takesF (nth ((nth f.blocks i).ops) k)) u).1, (nth (takesF (nth ((nth f.blocks i).ops) k)) u).2⟩ : DefR)]))]) (.cons _ (.cons_cons _ .slnil)) ?_
    refine WpG.wk (ih5 (u + 1) A22 (n5 + 1) c23 (l5 ++ [(⟨(nth ((nth ((nth f.blocks i).ops) k).args) u), i, k, (nth (takesF (nth ((nth f.blocks i).ops) k)) u).1, (nth (takesF (nth ((nth f.blocks i).ops) k)) u).2⟩ : DefR)]) ?_ ?_) rfl
    ·dsimp only
     omega
    clear ih1 ih2 ih4 ih5
    exact ⟨by omega, by omega, useT_step e2 (by omega) e0 (by omega) q76, by rw [List.length_append, ← e3]; rfl, AllR_snoc e4 ⟨k18, i64s (x := i) (by omega) (by omega), i64s (x := k) (by omega) (by omega), k19_0, k19_1⟩⟩
   refine WpG.gw tabOK 6 66 rfl (wrk (x := k + 1) (by omega) (by omega)) ?_
   refine WpG.g tabOK 3 rfl ?_
   refine WpG.wk (ih4 (k + 1) A5 n5 c5 l5 H16 ?_ ?_) rfl
   ·dsimp only
    omega
   clear ih1 ih2 ih4 ih5
   exact ⟨by omega, by omega, useT_end e2 e0 q76, e3, e4, k5.trans hH16⟩
  refine WpG.g tabOK 7 rfl ?_
  refine WpG.y rfl rfl rfl rfl (RunY.loadH tabOK (hc5.sub 2 1) (j5.trans k5) rfl rfl rfl rfl) ?_
  refine WpG.g tabOK 2 rfl ?_
  refine WpG.caseE (t := 101) rfl (fun q101 => ?_) (fun q101 => ?_)
  ·refine WpG.g tabOK 5 rfl ?_
   refine WpG.y rfl rfl rfl rfl (RunY.loadH tabOK (hc5.sub 3 1) (j5.trans k5) rfl rfl rfl rfl) ?_
   refine WpG.g tabOK 2 rfl ?_
   refine WpG.y rfl rfl rfl rfl (RunY.loadH tabOK (hc2.sub 1 1) (((i5.trans hH5).trans j5).trans k5) rfl rfl rfl rfl) ?_
   refine WpG.g tabOK 2 rfl ?_
   refine WpG.buildSlice (xs := [.int .i64 ((nth f.blocks i).en.arg), .int .i64 i, .int .i64 1000, .int .i64 f.ret, .int .i64 1]) tabOK rfl rfl rfl rfl rfl rfl rfl rfl rfl rfl (fun b24 => ?_)
   refine WpG.append (ci := 1) tabOK rfl rfl rfl rfl rfl rfl rfl rfl rfl rfl rfl rfl (Src.own (ci := 0) rfl) (by omega) (fun A26 c27 => ?_)
   refine WpG.dropL (L' := [Chunk.own 87 5 A26 c27 (n4 + 1) ((flatR l4) ++ [.int .i64 ((nth f.blocks i).en.arg), .int .i64 i, .int .i64 1000, .int .i64 f.ret, .int .i64 1])]) (.cons _ (.cons_cons _ .slnil)) ?_
   refine WpG.setL (L' := [Chunk.own 87 5 A26 c27 (n4 + 1) (flatR (l4 ++ [(⟨(nth f.blocks i).en.arg, i, 1000, f.ret, 1⟩ : DefR)]))]) (by rw [flatR_snoc]) ?_
   refine WpG.g tabOK 6 rfl ?_
   refine WpG.y rfl rfl rfl rfl (RunY.loadH tabOK (hc5.sub 2 1) (j5.trans k5) rfl rfl rfl rfl) ?_
   refine WpG.g tabOK 2 rfl ?_
   refine WpG.caseE (t := 116) rfl (fun q116 => ?_) (fun q116 => ?_)
   ·exfalso; omega
   refine WpG.gw tabOK 6 18 rfl (wrk (x := i + 1) (by omega) (by omega)) ?_
   refine WpG.g tabOK 3 rfl ?_
   refine WpG.wk (ih1 (i + 1) A26 (n4 + 1) c27 (l4 ++ [(⟨(nth f.blocks i).en.arg, i, 1000, f.ret, 1⟩ : DefR)]) G4 ?_ ?_) rfl
   ·dsimp only
    omega
   clear ih1 ih2 ih4
   exact ⟨by omega, by omega, useE_0 (useO_end k2 k0 q64) hr q101, by rw [List.length_append, ← k3]; rfl, AllR_snoc k4 ⟨k3_1, i64s (x := i) (by omega) (by omega), I64_k, k_f_0, I64_1⟩, i5.trans (hH5.trans (j5.trans k5))⟩
  refine WpG.g tabOK 6 rfl ?_
  refine WpG.y rfl rfl rfl rfl (RunY.loadH tabOK (hc5.sub 2 1) (j5.trans k5) rfl rfl rfl rfl) ?_
  refine WpG.g tabOK 2 rfl ?_
  refine WpG.caseE (t := 116) rfl (fun q116 => ?_) (fun q116 => ?_)
  ·refine WpG.g tabOK 5 rfl ?_
   refine WpG.y rfl rfl rfl rfl (RunY.loadH tabOK (hc5.sub 3 1) (j5.trans k5) rfl rfl rfl rfl) ?_
   refine WpG.g tabOK 3 rfl ?_
   refine WpG.buildSlice (xs := [.int .i64 ((nth f.blocks i).en.arg), .int .i64 i, .int .i64 1000, .int .i64 1, .int .i64 1]) tabOK rfl rfl rfl rfl rfl rfl rfl rfl rfl rfl (fun b28 => ?_)
   refine WpG.append (ci := 1) tabOK rfl rfl rfl rfl rfl rfl rfl rfl rfl rfl rfl rfl (Src.own (ci := 0) rfl) (by omega) (fun A30 c31 => ?_)
   refine WpG.dropL (L' := [Chunk.own 87 5 A30 c31 (n4 + 1) ((flatR l4) ++ [.int .i64 ((nth f.blocks i).en.arg), .int .i64 i, .int .i64 1000, .int .i64 1, .int .i64 1])]) (.cons _ (.cons_cons _ .slnil)) ?_
   refine WpG.setL (L' := [Chunk.own 87 5 A30 c31 (n4 + 1) (flatR (l4 ++ [(⟨(nth f.blocks i).en.arg, i, 1000, 1, 1⟩ : DefR)]))]) (by rw [flatR_snoc]) ?_
   refine WpG.gw tabOK 6 18 rfl (wrk (x := i + 1) (by omega) (by omega)) ?_
   refine WpG.g tabOK 3 rfl ?_
   refine WpG.wk (ih1 (i + 1) A30 (n4 + 1) c31 (l4 ++ [(⟨(nth f.blocks i).en.arg, i, 1000, 1, 1⟩ : DefR)]) G4 ?_ ?_) rfl
   ·dsimp only
    omega
   clear ih1 ih2 ih4
   exact ⟨by omega, by omega, useE_2 (useO_end k2 k0 q64) q116, by rw [List.length_append, ← k3]; rfl, AllR_snoc k4 ⟨k3_1, i64s (x := i) (by omega) (by omega), I64_k, I64_1, I64_1⟩, i5.trans (hH5.trans (j5.trans k5))⟩
  refine WpG.gw tabOK 6 18 rfl (wrk (x := i + 1) (by omega) (by omega)) ?_
  refine WpG.g tabOK 3 rfl ?_
  refine WpG.wk (ih1 (i + 1) A4 n4 c4 l4 G4 ?_ ?_) rfl
  ·dsimp only
   omega
  clear ih1 ih2 ih4
  exact ⟨by omega, by omega, useE_n (useO_end k2 k0 q64) q101 q116, k3, k4, i5.trans (hH5.trans (j5.trans k5))⟩
 refine WpG.g tabOK 7 rfl ?_
 refine WpG.ownCap (ci := 0) rfl (fun uz32 => ?_)
 refine WpG.freezeOwn (ci := 0) rfl (fun H32 hH32 fz32 => ?_)
 have rz32 : RdS H32 A1 l1 := RdS.of_own (H := G) (show RdL G (flatR l1) l1 from RdL_defs _ i4) (i3) (by have := le_app i2; omega) hH32 fz32
 exact WpG.ret tabOK (L' := []) (.tmp rfl .nil) .slnil (rows_ret (useR_done i2 i0 q16) i3 uz32 rz32)
end Go.Proofs.YtakameggkkjcpaaGreat
namespace Go.Proofs.YtakameggkkjcpaaGreat
open Go Go.RowKit
def toD (d : DefR) : DefD := ⟨d.blk, d.pos, d.bits, d.lanes⟩
def msR (l : List DefR) : List (Int × DefD) := l.map fun d => (d.v, toD d)
def vsR (l : List DefR) : List Int := l.map (·.v)
theorem msR_keys (l : List DefR) : keysOf (msR l) = vsR l := by simp [keysOf, msR, vsR]
theorem msR_snoc (l : List DefR) (d : DefR) : msR (l ++ [d]) = msR l ++ [(d.v, toD d)] := by simp [msR]
theorem mput_app {α : Type} {k : Int} (v : α) : ∀ {ms : List (Int × α)}, k ∉ keysOf ms → mput ms k v = ms ++ [(k, v)]
  | [], _ => rfl
  | (a, x) :: l, h => by
    simp only [keysOf, List.map_cons, List.mem_cons, not_or] at h
    simp only [mput, if_neg (Ne.symm h.1), List.cons_append]
    rw [mput_app v (ms := l) h.2]
theorem par_eq : ∀ (l : List Int) (pre : List DefR) (i : Int), (∀ d ∈ pre, d.v ≤ i) → parPuts (msR pre) i l = msR (pre ++ parR i l)
  | [], pre, i, _ => by simp [parPuts, parR]
  | b :: l, pre, i, h => by
    have hk : i + 1 ∉ keysOf (msR pre) := fun hm => by
      rw [msR_keys] at hm
      obtain ⟨d, hd, e⟩ := List.mem_map.1 hm
      have := h d hd; omega
    have e : mput (msR pre) (i + 1) ⟨-1, 0, b, 1⟩ = msR (pre ++ [⟨i + 1, -1, 0, b, 1⟩]) := by rw [mput_app _ hk, msR_snoc]; rfl
    show parPuts (mput (msR pre) (i + 1) ⟨-1, 0, b, 1⟩) (i + 1) l = _
    rw [e, par_eq l _ (i + 1) (fun d hd => ?_), List.append_assoc]
    · rfl
    · rcases List.mem_append.1 hd with hd | hd
      · have := h d hd; omega
      · rw [List.mem_singleton.1 hd]; exact Int.le_refl _
def PhiGood (l : List PutD) : Prop := ∀ p ∈ l, p.phi = true → 1 ≤ p.v ∧ p.v ≤ 1023
theorem put_some : ∀ (l : List PutD) (pre : List DefR) (ms : List (Int × DefD)), (vsR pre).Nodup → putAll (msR pre) l = some ms → ms = msR (pre ++ l.map toR) ∧ PhiGood l ∧ (vsR (pre ++ l.map toR)).Nodup
  | [], pre, ms, hn, h => by
    simp only [putAll, Option.some.injEq] at h
    rw [List.map_nil, List.append_nil]
    exact ⟨h.symm, (fun p hp => by cases hp), hn⟩
  | p :: l, pre, ms, hn, h => by
    simp only [putAll] at h
    split at h
    · cases h
    · rename_i hb
      have hk : p.v ∉ keysOf (msR pre) := fun hm => hb (.inr (by
        cases hg : mget (msR pre) p.v with
        | none => exact absurd hm (mget_none.1 hg)
        | some d => rfl))
      have e : mput (msR pre) p.v p.d = msR (pre ++ [toR p]) := by rw [mput_app _ hk, msR_snoc]; rfl
      rw [e] at h
      have hn' : (vsR (pre ++ [toR p])).Nodup := by
        rw [msR_keys] at hk
        unfold vsR at hk ⊢
        rw [List.map_append]
        refine List.nodup_append.2 ⟨hn, by simp, fun x hx y hy exy => ?_⟩
        simp at hy
        subst exy; subst hy; exact hk hx
      obtain ⟨h1, h2, h3⟩ := put_some l _ ms hn' h
      rw [List.append_assoc] at h1 h3
      refine ⟨h1, fun q hq hp => ?_, h3⟩
      rcases List.mem_cons.1 hq with rfl | hq
      · refine ⟨?_, ?_⟩ <;> (apply Classical.byContradiction; intro hc; exact hb (.inl ⟨hp, by omega⟩))
      · exact h2 q hq hp
theorem put_none : ∀ (l : List PutD) (pre : List DefR), PhiGood l → (vsR (pre ++ l.map toR)).Nodup → putAll (msR pre) l = some (msR (pre ++ l.map toR))
  | [], pre, _, _ => by rw [List.map_nil, List.append_nil]; rfl
  | p :: l, pre, hg, hn => by
    have hk : p.v ∉ keysOf (msR pre) := fun hm => by
      rw [msR_keys] at hm
      unfold vsR at hn hm
      rw [List.map_append] at hn
      exact (List.nodup_append.1 hn).2.2 _ hm p.v (by simp [toR]) rfl
    have e : mput (msR pre) p.v p.d = msR (pre ++ [toR p]) := by rw [mput_app _ hk, msR_snoc]; rfl
    have hb : ¬ ((p.phi = true ∧ (p.v < 1 ∨ p.v > 1023)) ∨ (mget (msR pre) p.v).isSome = true) := by
      rintro (⟨h1, h2⟩ | h1)
      · have := hg p (.head _) h1; omega
      · rw [mget_none.2 hk] at h1; cases h1
    simp only [putAll]
    rw [if_neg hb, e, put_none l (pre ++ [toR p]) (fun q hq => hg q (.tail _ hq)) (by rw [List.append_assoc]; exact hn), List.append_assoc]
    rfl
theorem parR_vs : ∀ (l : List Int) (i : Int), (∀ d ∈ parR i l, i + 1 ≤ d.v ∧ d.v ≤ i + l.length ∧ d.blk = -1 ∧ d.pos = 0) ∧ (vsR (parR i l)).Nodup
  | [], i => ⟨fun d h => (by cases h), by simp [parR, vsR]⟩
  | b :: l, i => by
    obtain ⟨h1, h2⟩ := parR_vs l (i + 1)
    refine ⟨fun d hd => ?_, ?_⟩
    · rcases List.mem_cons.1 hd with rfl | hd
      · simp; omega
      · have := h1 d hd; simp only [List.length_cons]; omega
    · show ((i + 1) :: vsR (parR (i + 1) l)).Nodup
      refine List.nodup_cons.2 ⟨fun hm => ?_, h2⟩
      obtain ⟨d, hd, e⟩ := List.mem_map.1 hm
      have := h1 d hd; omega
theorem defs_some {f : FuncD} {ms : List (Int × DefD)} (h : defsD f = some ms) : ms = msR (defsR f) ∧ PhiGood (allPuts 0 f.blocks) ∧ (vsR (defsR f)).Nodup := by
  unfold defsD at h
  have e := par_eq f.params [] 0 (fun d hd => by cases hd)
  rw [show ([] : List (Int × DefD)) = msR [] from rfl, e] at h
  exact put_some _ _ _ (parR_vs f.params 0).2 h
theorem defs_yes {f : FuncD} (h1 : PhiGood (allPuts 0 f.blocks)) (h2 : (vsR (defsR f)).Nodup) : defsD f = some (msR (defsR f)) := by
  unfold defsD
  have e := par_eq f.params [] 0 (fun d hd => by cases hd)
  rw [show ([] : List (Int × DefD)) = msR [] from rfl, e]
  exact put_none _ _ h1 h2
theorem opsPuts_ok (i : Int) : ∀ (l : List OpD) (k : Int), ∀ p ∈ opsPuts i k l, p.phi = false ∧ valueOK p.v = true ∧ p.d.blk = i ∧ k ≤ p.d.pos ∧ p.d.pos < k + l.length
  | [], _, p, h => by cases h
  | o :: l, k, p, h => by
    simp only [opsPuts] at h
    simp only [List.length_cons]
    rcases List.mem_append.1 h with h | h
    · split at h
      · rename_i hg
        simp only [List.mem_singleton] at h; subst h
        refine ⟨rfl, ?_, rfl, Int.le_refl _, by simp; omega⟩
        unfold givesF at hg
        by_cases hm : (!mayO o || storesK o.kind) = true
        · rw [if_pos hm] at hg; simp at hg
        · simp only [Bool.or_eq_true, Bool.not_eq_true', not_or, Bool.not_eq_false, Bool.not_eq_true] at hm
          have h1 := hm.1
          simp only [mayO, Bool.and_eq_true] at h1
          have h2 := h1.2.2.1
          rw [if_neg (by simp [hm.2])] at h2
          exact h2
      · cases h
    · have := opsPuts_ok i l (k + 1) p h
      exact ⟨this.1, this.2.1, this.2.2.1, by omega, by omega⟩
theorem allPuts_ok : ∀ (bs : List BlockD) (i : Int), (∀ x ∈ bs, x.ops.length ≤ 512) → ∀ p ∈ allPuts i bs, (p.phi = true ∨ valueOK p.v = true) ∧ i ≤ p.d.blk ∧ p.d.blk < i + bs.length ∧ -1 ≤ p.d.pos ∧ p.d.pos < 512
  | [], _, _, p, h => by cases h
  | b :: l, i, hb, p, h => by
    simp only [allPuts] at h
    simp only [List.length_cons]
    rcases List.mem_append.1 h with h | h
    · unfold phiPuts at h
      obtain ⟨q, _, rfl⟩ := List.mem_map.1 h
      exact ⟨.inl rfl, by simp, by simp; omega, by simp, by simp⟩
    · rcases List.mem_append.1 h with h | h
      · have h1 := opsPuts_ok i b.ops 0 p h
        have h2 := hb b (.head _)
        exact ⟨.inr h1.2.1, by omega, by omega, by omega, by omega⟩
      · have h1 := allPuts_ok l (i + 1) (fun x hx => hb x (.tail _ hx)) p h
        exact ⟨h1.1, by omega, by omega, by omega, by omega⟩
theorem defsR_ok {f : FuncD} (hp : f.params.length ≤ 16) (hb : ∀ x ∈ f.blocks, x.ops.length ≤ 512) (hg : PhiGood (allPuts 0 f.blocks)) : ∀ d ∈ defsR f, valueOK d.v = true := fun d hd => by
  unfold defsR at hd
  rcases List.mem_append.1 hd with hd | hd
  · have := (parR_vs f.params 0).1 d hd
    unfold valueOK; simp; omega
  · obtain ⟨p, hp, rfl⟩ := List.mem_map.1 hd
    have h1 := allPuts_ok f.blocks 0 hb p hp
    show valueOK p.v = true
    rcases h1.1 with h2 | h2
    · have := hg p hp h2; unfold valueOK; simp; omega
    · exact h2
theorem defsR_at {f : FuncD} (hb : ∀ x ∈ f.blocks, x.ops.length ≤ 512) : ∀ d ∈ defsR f, (d.blk = -1 ∨ (0 ≤ d.blk ∧ d.blk < f.blocks.length)) ∧ -1 ≤ d.pos ∧ d.pos < 512 := fun d hd => by
  unfold defsR at hd
  rcases List.mem_append.1 hd with hd | hd
  · have := (parR_vs f.params 0).1 d hd; omega
  · obtain ⟨p, hp, rfl⟩ := List.mem_map.1 hd
    have h1 := allPuts_ok f.blocks 0 hb p hp
    show (p.d.blk = -1 ∨ _) ∧ -1 ≤ p.d.pos ∧ p.d.pos < 512
    have : (toR p).blk = p.d.blk := rfl
    rw [this]
    omega
theorem idx_mget (w : Int) : ∀ (l : List DefR) (i : Int), 0 ≤ i → (idxFrom (fun d => d.v == w) l i = -1 ∧ mget (msR l) w = none) ∨ (i ≤ idxFrom (fun d => d.v == w) l i ∧ idxFrom (fun d => d.v == w) l i < i + l.length ∧ (nth l (idxFrom (fun d => d.v == w) l i - i)).v = w ∧ mget (msR l) w = some (toD (nth l (idxFrom (fun d => d.v == w) l i - i))))
  | [], i, _ => .inl ⟨rfl, rfl⟩
  | d :: l, i, h0 => by
    by_cases e : d.v = w
    · right
      have e1 : idxFrom (fun d => d.v == w) (d :: l) i = i := by simp [idxFrom, e]
      rw [e1, Int.sub_self]
      refine ⟨Int.le_refl _, by simp; omega, e, ?_⟩
      show mget ((d.v, toD d) :: msR l) w = some (toD d)
      simp [mget, e]
    · have e1 : idxFrom (fun d => d.v == w) (d :: l) i = idxFrom (fun d => d.v == w) l (i + 1) := by simp [idxFrom, e]
      have e2 : mget (msR (d :: l)) w = mget (msR l) w := by show mget ((d.v, toD d) :: msR l) w = _; simp [mget, e]
      rw [e1, e2]
      rcases idx_mget w l (i + 1) (by omega) with h | ⟨h1, h2, h3, h4⟩
      · exact .inl h
      · right
        have e3 : nth (d :: l) (idxFrom (fun d => d.v == w) l (i + 1) - i) = nth l (idxFrom (fun d => d.v == w) l (i + 1) - (i + 1)) := by
          unfold nth
          rw [show (idxFrom (fun d => d.v == w) l (i + 1) - i).toNat = (idxFrom (fun d => d.v == w) l (i + 1) - (i + 1)).toNat + 1 from by omega]; rfl
        rw [e3]
        exact ⟨by omega, by simp only [List.length_cons]; omega, h3, h4⟩
theorem find_no {l : List DefR} {w : Int} (h : findR l w < 0) : mget (msR l) w = none := by
  unfold findR at h
  rcases idx_mget w l 0 (Int.le_refl 0) with h1 | h1
  · exact h1.2
  · omega
theorem find_yes {l : List DefR} {w : Int} (h : ¬ findR l w < 0) : 0 ≤ findR l w ∧ findR l w < l.length ∧ (nth l (findR l w)).v = w ∧ mget (msR l) w = some (toD (nth l (findR l w))) := by
  unfold findR at h ⊢
  rcases idx_mget w l 0 (Int.le_refl 0) with h1 | h1
  · omega
  · rw [Int.sub_zero] at h1
    exact ⟨h1.1, by omega, h1.2.2⟩
theorem nth_nat {α : Type} [Inhabited α] {l : List α} {i : Nat} (h : i < l.length) : nth l (i : Int) = l[i] := by
  unfold nth
  rw [show ((i : Int)).toNat = i from by omega]; simp [h]
def DOK (l : List DefR) (n : Int) : Prop := ∀ x : Int, 0 ≤ x → x < n → valueOK (nth l x).v = true ∧ findR l (nth l x).v = x
theorem DOK.zero {l : List DefR} : DOK l 0 := fun x x0 x1 => by omega
theorem DOK.step {l : List DefR} {i : Int} (h : DOK l i) (hb : (!(valueOK (nth l i).v) || !(findR l (nth l i).v == i)) = false) : DOK l (i + 1) := fun x x0 x1 => by
  simp only [Bool.or_eq_false_iff, Bool.not_eq_false', beq_iff_eq] at hb
  by_cases e : x = i
  · subst e; exact hb
  · exact h x x0 (by omega)
theorem DOK.nodup {l : List DefR} (h : DOK l l.length) : (vsR l).Nodup := by
  unfold vsR
  rw [List.Nodup, List.pairwise_iff_getElem]
  intro i j hi hj hij e
  simp only [List.length_map] at hi hj
  simp only [List.getElem_map] at e
  have h1 := (h i (by omega) (by omega)).2
  have h2 := (h j (by omega) (by omega)).2
  rw [nth_nat hi] at h1
  rw [nth_nat hj] at h2
  rw [e, h2] at h1
  omega
theorem DOK.good {f : FuncD} (h : DOK (defsR f) (defsR f).length) : PhiGood (allPuts 0 f.blocks) := fun p hp _ => by
  have hm : toR p ∈ defsR f := by unfold defsR; exact List.mem_append_right _ (List.mem_map.2 ⟨p, hp, rfl⟩)
  obtain ⟨j, hj, e⟩ := List.mem_iff_getElem.1 hm
  have := (h j (by omega) (by omega)).1
  rw [nth_nat hj, e] at this
  unfold valueOK at this
  simp at this
  exact this
theorem DOK.defs {f : FuncD} {i : Int} (h : DOK (defsR f) i) (h1 : ¬ i < (defsR f).length) : defsD f = some (msR (defsR f)) := by
  have h' : DOK (defsR f) (defsR f).length := fun x x0 x1 => h x x0 (by omega)
  exact defs_yes h'.good h'.nodup
theorem DOK.none_ {f : FuncD} {i : Int} (hp : f.params.length ≤ 16) (hb : ∀ x ∈ f.blocks, x.ops.length ≤ 512) (h0 : 0 ≤ i) (h1 : i < (defsR f).length) (hq : (!(valueOK (nth (defsR f) i).v) || !(findR (defsR f) (nth (defsR f) i).v == i)) = true) : defsD f = none := by
  cases hd : defsD f with
  | none => rfl
  | some ms =>
    exfalso
    obtain ⟨-, h2, h3⟩ := defs_some hd
    have hv := defsR_ok hp hb h2 _ (nth_mem h0 h1)
    rw [hv] at hq
    simp only [Bool.not_true, Bool.false_or, Bool.not_eq_true', beq_eq_false_iff_ne, ne_eq] at hq
    have hy : ¬ findR (defsR f) (nth (defsR f) i).v < 0 := fun hn => by
      have := find_no hn
      rw [mget_none, msR_keys] at this
      exact this (List.mem_map.2 ⟨_, nth_mem h0 h1, rfl⟩)
    obtain ⟨a1, a2, a3, -⟩ := find_yes hy
    refine hq ?_
    have e : (vsR (defsR f))[(findR (defsR f) (nth (defsR f) i).v).toNat]? = (vsR (defsR f))[i.toNat]? := by
      unfold vsR
      rw [List.getElem?_map, List.getElem?_map, nth_get a1 a2, nth_get h0 h1, Option.map_some, Option.map_some, a3]
    have hlen : i.toNat < (vsR (defsR f)).length := by unfold vsR; rw [List.length_map]; omega
    have := (List.getElem?_inj (by unfold vsR; rw [List.length_map]; omega) h3).1 e
    omega
theorem nth_uses {f : FuncD} {i : Int} (h0 : 0 ≤ i) (h1 : i < (usesR f).length) : nth (usesR f) i = toU (nth (asksF f) i) ∧ i < (asksF f).length := by
  have hl : (usesR f).length = (asksF f).length := by simp [usesR]
  have h2 : i < (asksF f).length := by omega
  refine ⟨?_, h2⟩
  have e := nth_get h0 h1
  unfold usesR at e
  rw [List.getElem?_map, nth_get h0 h2, Option.map_some, Option.some.injEq] at e
  exact e.symm
theorem uses_len (f : FuncD) : (usesR f).length = (asksF f).length := by simp [usesR]
theorem first_go {ask : AskF} {l : List AskD} {i r : Int} (h : r = firstA ask (l.drop i.toNat)) (h0 : 0 ≤ i) (h1 : i < l.length) (h2 : ask (nth l i).v (nth l i).s1 (nth l i).s2 (nth l i).bl (nth l i).pos = 0) : r = firstA ask (l.drop (i + 1).toNat) := by
  rw [drop_nth h0 h1] at h
  rw [toNat_succ h0]; exact firstA_no h h2
theorem first_at {ask : AskF} {l : List AskD} {i r c : Int} (h : r = firstA ask (l.drop i.toNat)) (h0 : 0 ≤ i) (h1 : i < l.length) (h2 : ask (nth l i).v (nth l i).s1 (nth l i).s2 (nth l i).bl (nth l i).pos = c) (hc : c ≠ 0) : r = c := by
  rw [drop_nth h0 h1] at h
  rw [firstA_yes h (by rw [h2]; exact hc), h2]
theorem first_end {ask : AskF} {l : List AskD} {i r : Int} (h : r = firstA ask (l.drop i.toNat)) (h0 : 0 ≤ i) (h1 : ¬ i < l.length) : r = 0 := by
  rw [h, drop_end h0 h1]; rfl
section
variable {f : FuncD} {i : Int}
abbrev foundAll (f : FuncD) (n : Int) : Prop := ∀ x : Int, 0 ≤ x → x < n → ¬ findR (defsR f) (nth (usesR f) x).v < 0
theorem found_step (h : foundAll f i) (hq : ¬ findR (defsR f) (nth (usesR f) i).v < 0) : foundAll f (i + 1) := fun x x0 x1 => by
  by_cases e : x = i
  · subst e; exact hq
  · exact h x x0 (by omega)
theorem found_end (h : foundAll f i) (h1 : ¬ i < (usesR f).length) : foundAll f (usesR f).length := fun x x0 x1 => h x x0 (by omega)
theorem def_yes {r : Int} (h : r = firstA (askDef (msR (defsR f))) ((asksF f).drop i.toNat)) (h0 : 0 ≤ i) (h1 : i < (usesR f).length) (hq : ¬ findR (defsR f) (nth (usesR f) i).v < 0) : r = firstA (askDef (msR (defsR f))) ((asksF f).drop (i + 1).toNat) := by
  obtain ⟨e, h2⟩ := nth_uses h0 h1
  refine first_go h h0 h2 ?_
  rw [e] at hq
  have := (find_yes hq).2.2.2
  have e2 : (toU (nth (asksF f) i)).v = (nth (asksF f) i).v := rfl
  rw [e2] at this
  unfold askDef; rw [this]; rfl
theorem def_no {r : Int} (h : r = firstA (askDef (msR (defsR f))) ((asksF f).drop i.toNat)) (h0 : 0 ≤ i) (h1 : i < (usesR f).length) (hq : findR (defsR f) (nth (usesR f) i).v < 0) : r = 7 := by
  obtain ⟨e, h2⟩ := nth_uses h0 h1
  refine first_at h h0 h2 ?_ (by decide)
  rw [e] at hq
  have := find_no hq
  have e2 : (toU (nth (asksF f) i)).v = (nth (asksF f) i).v := rfl
  rw [e2] at this
  unfold askDef; rw [this]; rfl
theorem mget_found {w : Int} (hq : ¬ findR (defsR f) w < 0) : (mget (msR (defsR f)) w).getD ⟨0, 0, 0, 0⟩ = toD (nth (defsR f) (findR (defsR f) w)) := by rw [(find_yes hq).2.2.2]; rfl
theorem shp_eq (h0 : 0 ≤ i) (h1 : i < (usesR f).length) (hq : ¬ findR (defsR f) (nth (usesR f) i).v < 0) : askShape (msR (defsR f)) (nth (asksF f) i).v (nth (asksF f) i).s1 (nth (asksF f) i).s2 (nth (asksF f) i).bl (nth (asksF f) i).pos =
    if (!(decide ((nth (defsR f) (findR (defsR f) (nth (usesR f) i).v)).bits = (nth (usesR f) i).bits) && decide ((nth (defsR f) (findR (defsR f) (nth (usesR f) i).v)).lanes = (nth (usesR f) i).lanes))) = true then 6 else 0 := by
  obtain ⟨e, h2⟩ := nth_uses h0 h1
  rw [e] at hq ⊢
  have hm := mget_found hq
  have e2 : (toU (nth (asksF f) i)).v = (nth (asksF f) i).v := rfl
  rw [e2] at hm ⊢
  unfold askShape
  rw [hm]
  show (if (nth (defsR f) _).bits = (nth (asksF f) i).s1 ∧ (nth (defsR f) _).lanes = (nth (asksF f) i).s2 then (0 : Int) else 6) = if (!(decide ((nth (defsR f) _).bits = (nth (asksF f) i).s1) && decide ((nth (defsR f) _).lanes = (nth (asksF f) i).s2))) = true then 6 else 0
  by_cases a : (nth (defsR f) (findR (defsR f) (nth (asksF f) i).v)).bits = (nth (asksF f) i).s1 <;> by_cases b : (nth (defsR f) (findR (defsR f) (nth (asksF f) i).v)).lanes = (nth (asksF f) i).s2 <;> simp [a, b]
theorem shp_yes {r : Int} (h : r = firstA (askShape (msR (defsR f))) ((asksF f).drop i.toNat)) (h0 : 0 ≤ i) (h1 : i < (usesR f).length) (hf : ¬ findR (defsR f) (nth (usesR f) i).v < 0)
    (hq : (!(decide ((nth (defsR f) (findR (defsR f) (nth (usesR f) i).v)).bits = (nth (usesR f) i).bits) && decide ((nth (defsR f) (findR (defsR f) (nth (usesR f) i).v)).lanes = (nth (usesR f) i).lanes))) = false) : r = firstA (askShape (msR (defsR f))) ((asksF f).drop (i + 1).toNat) := by
  refine first_go h h0 (nth_uses h0 h1).2 ?_
  rw [shp_eq h0 h1 hf, hq]; rfl
theorem shp_no {r : Int} (h : r = firstA (askShape (msR (defsR f))) ((asksF f).drop i.toNat)) (h0 : 0 ≤ i) (h1 : i < (usesR f).length) (hf : ¬ findR (defsR f) (nth (usesR f) i).v < 0)
    (hq : (!(decide ((nth (defsR f) (findR (defsR f) (nth (usesR f) i).v)).bits = (nth (usesR f) i).bits) && decide ((nth (defsR f) (findR (defsR f) (nth (usesR f) i).v)).lanes = (nth (usesR f) i).lanes))) = true) : r = 6 := by
  refine first_at h h0 (nth_uses h0 h1).2 ?_ (by decide)
  rw [shp_eq h0 h1 hf, hq]; rfl
end
structure Bnd (f : FuncD) : Prop where
  b0 : 1 ≤ f.blocks.length
  b1 : f.blocks.length ≤ 64
  p1 : f.params.length ≤ 16
  sz : sizeF f ≤ 512
  ok : ∀ b ∈ f.blocks, blockOK b = true
theorem bnd_of {f : FuncD} (h : mayF f = true) : Bnd f := by
  simp only [mayF, Bool.and_eq_true, Bool.not_eq_true', decide_eq_false_iff_not] at h
  exact ⟨by omega, by omega, by omega, by omega, fun b hb => List.all_eq_true.1 h.2.2.2.2.2.2 b hb⟩
theorem sum_mem {α : Type} (g : α → Int) : ∀ (l : List α), (∀ x ∈ l, 0 ≤ g x) → 0 ≤ (l.map g).sum ∧ ∀ x ∈ l, g x ≤ (l.map g).sum
  | [], _ => ⟨by simp, fun x h => by cases h⟩
  | a :: l, h => by
    obtain ⟨h1, h2⟩ := sum_mem g l fun x hx => h x (.tail _ hx)
    have h0 := h a (.head _)
    simp only [List.map_cons, List.sum_cons]
    refine ⟨by omega, fun x hx => ?_⟩
    rcases List.mem_cons.1 hx with rfl | hx
    · omega
    · have := h2 x hx; omega
theorem Bnd.ops {f : FuncD} (h : Bnd f) : ∀ x ∈ f.blocks, x.ops.length ≤ 512 := fun x hx => by
  have h1 := (sum_mem blockSz f.blocks fun y _ => by unfold blockSz; omega).2 x hx
  have h2 := h.sz
  unfold sizeF at h2
  have h3 : (x.ops.length : Int) ≤ blockSz x := by unfold blockSz; omega
  have := h.b0
  omega
theorem opsPuts_len (i : Int) : ∀ (l : List OpD) (k : Int), (opsPuts i k l).length ≤ l.length
  | [], _ => Nat.le_refl _
  | o :: l, k => by
    have := opsPuts_len i l (k + 1)
    simp only [opsPuts, List.length_append, List.length_cons]
    split <;> simp <;> omega
theorem allPuts_len : ∀ (bs : List BlockD) (i : Int), ((allPuts i bs).length : Int) ≤ (bs.map blockSz).sum
  | [], _ => by simp [allPuts]
  | b :: l, i => by
    have h1 := allPuts_len l (i + 1)
    have h2 := opsPuts_len i b.ops 0
    simp only [allPuts, List.length_append, List.map_cons, List.sum_cons, phiPuts, List.length_map]
    unfold blockSz
    unfold blockSz at h1
    omega
theorem parR_len : ∀ (l : List Int) (i : Int), (parR i l).length = l.length
  | [], _ => rfl
  | _ :: l, i => by simp [parR, parR_len l]
theorem Bnd.defs {f : FuncD} (h : Bnd f) : (defsR f).length ≤ 2147483000 := by
  have h1 := allPuts_len f.blocks 0
  have h2 := h.sz
  have h3 := h.p1
  unfold sizeF at h2
  unfold defsR
  rw [List.length_append, parR_len, List.length_map]
  omega
theorem opsAsks_len (i : Int) : ∀ (l : List OpD) (k : Int), (∀ o ∈ l, o.args.length ≤ 64) → (opsAsks i k l).length ≤ 64 * l.length
  | [], _, _ => Nat.le_refl _
  | o :: l, k, h => by
    have h1 := opsAsks_len i l (k + 1) fun x hx => h x (.tail _ hx)
    have h2 := h o (.head _)
    have h3 := takes_le o
    have h4 : (opAsks i k o).length = (takesF o).length := zipA_len' _ _ _ h3
    simp only [opsAsks, List.length_append, List.length_cons]
    omega
theorem phiAsks_len : ∀ (l : List PhiD), (∀ p ∈ l, p.args.length ≤ 64) → (l.flatMap phiAsks).length ≤ 64 * l.length
  | [], _ => Nat.le_refl _
  | p :: l, h => by
    have h1 := phiAsks_len l fun x hx => h x (.tail _ hx)
    have h2 := h p (.head _)
    have h3 : (phiAsks p).length ≤ p.args.length := by
      unfold phiAsks
      rcases Nat.le_total p.args.length p.frm.length with hh | hh
      · rw [zipA_len _ _ _ hh]; exact Nat.le_refl _
      · rw [zipA_len' _ _ _ hh]; exact hh
    simp only [List.flatMap_cons, List.length_append, List.length_cons]
    omega
theorem allAsks_len (ret : Int) : ∀ (bs : List BlockD) (i : Int), (∀ b ∈ bs, blockOK b = true) → ((allAsks ret i bs).length : Int) ≤ 64 * (bs.map blockSz).sum + bs.length
  | [], _, _ => by simp [allAsks]
  | b :: l, i, h => by
    have h1 := allAsks_len ret l (i + 1) fun x hx => h x (.tail _ hx)
    have hb := h b (.head _)
    unfold blockOK at hb
    simp only [Bool.and_eq_true] at hb
    have h2 := opsAsks_len i b.ops 0 fun o ho => by
      have := List.all_eq_true.1 hb.2.1 o ho
      simp only [opOK, Bool.and_eq_true, List.all_cons, listOK, decide_eq_true_eq] at this
      exact this.2.1.1
    have h3 := phiAsks_len b.phis fun p hp => by
      have := List.all_eq_true.1 hb.1 p hp
      simp only [phiOK, Bool.and_eq_true, List.all_cons, listOK, decide_eq_true_eq] at this
      exact this.2.2.1.1
    have h4 : (endAsks ret i b.en).length ≤ 1 := by unfold endAsks; split <;> simp
    simp only [allAsks, blkAsks, List.length_append, List.map_cons, List.sum_cons, List.length_cons]
    unfold blockSz
    unfold blockSz at h1
    omega
theorem Bnd.uses {f : FuncD} (h : Bnd f) : (usesR f).length ≤ 2147483000 := by
  have h1 := allAsks_len f.ret f.blocks 0 h.ok
  have h2 := h.sz
  have h3 := h.b1
  unfold sizeF at h2
  rw [uses_len]
  unfold asksF
  omega
theorem typed_ret {f : FuncD} {lv : Int} (h : typedD f lv = true) : f.ret ≠ 0 := by
  unfold typedD at h
  simp only [Bool.and_eq_true] at h
  rcases mayW_cases h.1 with h | h | h | h | h <;> omega
theorem fit_phis {f : FuncD} (h : FitAll f) : ∀ x ∈ f.blocks, ∀ p ∈ x.phis, p.args.length = p.frm.length := fun x hx p hp => by
  obtain ⟨j, hj, e⟩ := List.mem_iff_getElem.1 hx
  have h1 := (h j (by omega) (by omega)).2
  rw [nth_nat hj, e] at h1
  have h2 := List.all_eq_true.1 h1 p hp
  unfold phiFit at h2
  simp only [Bool.and_eq_true, beq_iff_eq] at h2
  omega
theorem edges_rng : ∀ (s : List (List Int)) (i : Int), ∀ e ∈ edgesFrom i s, i ≤ e.1 ∧ e.1 < i + s.length
  | [], _, e, h => by cases h
  | r :: s, i, e, h => by
    simp only [edgesFrom] at h
    simp only [List.length_cons]
    rcases List.mem_append.1 h with h | h
    · obtain ⟨t, _, rfl⟩ := List.mem_map.1 h; simp; omega
    · have := edges_rng s (i + 1) e h; omega
theorem preds_rng {s : List (List Int)} {x t : Int} (h : t ∈ nth (predsD s) x) : 0 ≤ t ∧ t < s.length := by
  unfold nth predsD at h
  rw [List.getD_eq_getElem?_getD, List.getElem?_map] at h
  cases hr : (List.range s.length)[x.toNat]? with
  | none => rw [hr] at h; simp at h; cases h
  | some n =>
    rw [hr] at h
    simp only [Option.map_some, Option.getD_some, predsOf] at h
    obtain ⟨e, he, rfl⟩ := List.mem_map.1 h
    have := edges_rng s 0 e (List.mem_filter.1 he).1
    omega
theorem zipA_mem {α β γ : Type} (g : α → β → γ) : ∀ (l : List α) (m : List β) (z : γ), z ∈ zipA g l m → ∃ a ∈ l, ∃ b ∈ m, z = g a b
  | [], _, z, h => by simp [zipA] at h
  | _ :: _, [], z, h => by simp [zipA] at h
  | a :: l, b :: m, z, h => by
    simp only [zipA] at h
    rcases List.mem_cons.1 h with rfl | h
    · exact ⟨a, .head _, b, .head _, rfl⟩
    · obtain ⟨a', ha, b', hb, e⟩ := zipA_mem g l m z h
      exact ⟨a', .tail _ ha, b', .tail _ hb, e⟩
theorem opsAsks_at (i : Int) : ∀ (l : List OpD) (k : Int), ∀ a ∈ opsAsks i k l, a.bl = i
  | [], _, a, h => by cases h
  | o :: l, k, a, h => by
    simp only [opsAsks] at h
    rcases List.mem_append.1 h with h | h
    · obtain ⟨_, _, _, _, rfl⟩ := zipA_mem _ _ _ _ h; rfl
    · exact opsAsks_at i l (k + 1) a h
theorem allAsks_at (ret : Int) (n : Int) : ∀ (bs : List BlockD) (i : Int), 0 ≤ i → i + bs.length ≤ n → (∀ x ∈ bs, ∀ p ∈ x.phis, ∀ t ∈ p.frm, 0 ≤ t ∧ t < n) → ∀ a ∈ allAsks ret i bs, 0 ≤ a.bl ∧ a.bl < n
  | [], _, _, _, _, a, h => by cases h
  | b :: l, i, h0, hn, hp, a, h => by
    simp only [allAsks, blkAsks] at h
    simp only [List.length_cons] at hn
    rcases List.mem_append.1 h with h | h
    · rcases List.mem_append.1 h with h | h
      · obtain ⟨p, hpm, ha⟩ := List.mem_flatMap.1 h
        obtain ⟨_, _, t, ht, rfl⟩ := zipA_mem _ _ _ _ ha
        exact hp b (.head _) p hpm t ht
      · rcases List.mem_append.1 h with h | h
        · have := opsAsks_at i b.ops 0 a h; omega
        · unfold endAsks at h
          split at h
          · cases h
          · rw [List.mem_singleton.1 h]; exact ⟨h0, by show i < n; omega⟩
    · exact allAsks_at ret n l (i + 1) (by omega) (by omega) (fun x hx => hp x (.tail _ hx)) a h
theorem asks_bl {f : FuncD} (hof : (ofD f).2 = 0) (h : FitAll f) : ∀ a ∈ asksF f, 0 ≤ a.bl ∧ a.bl < f.blocks.length := by
  refine allAsks_at f.ret f.blocks.length f.blocks 0 (by omega) (by omega) fun x hx p hp t ht => ?_
  obtain ⟨j, hj, e⟩ := List.mem_iff_getElem.1 hx
  have h1 := (h j (by omega) (by omega)).2
  rw [nth_nat hj, e] at h1
  have h2 := List.all_eq_true.1 h1 p hp
  unfold phiFit at h2
  simp only [Bool.and_eq_true] at h2
  have h3 := eqL_eq.1 h2.2.1
  rw [h3] at ht
  obtain ⟨_, _, h4, _⟩ := of_ok hof
  rw [h4] at ht
  have := preds_rng ht
  rw [List.length_map] at this
  exact this
theorem fit_in {f : FuncD} {tl : List Int} (hof : (ofD f).2 = 0) (h : FitAll f) (ht : TreeP (ofD f).1.succ 0 tl) {a b : Int} (a0 : 0 ≤ a) (a1 : a < f.blocks.length) (b0 : 0 ≤ b) (b1 : b < f.blocks.length) : inD tl [a, b] = true := by
  have hr := of_rows hof
  have h1 := tree_right ht (by omega)
  have h2 := depth_reached ht (h a a0 a1).1
  have h3 := depth_reached ht (h b b0 b1).1
  unfold inD
  rw [h1]
  simp; omega
theorem place_eq {f : FuncD} {tl : List Int} {i : Int} (hB : Bnd f) (hof : (ofD f).2 = 0) (h : FitAll f) (ht : TreeP (ofD f).1.succ 0 tl) (h0 : 0 ≤ i) (h1 : i < (usesR f).length) (hf : ¬ findR (defsR f) (nth (usesR f) i).v < 0) {d u : DefR} (hd : d = nth (defsR f) (findR (defsR f) (nth (usesR f) i).v)) (hu : u = nth (usesR f) i) :
    askPlace (msR (defsR f)) tl (nth (asksF f) i).v (nth (asksF f) i).s1 (nth (asksF f) i).s2 (nth (asksF f) i).bl (nth (asksF f) i).pos =
      if (decide (d.blk < 0) || ((d.blk == u.blk) && decide (d.pos < u.pos))) = true then 0 else if ((d.blk == u.blk) || !(meetR tl d.blk u.blk == d.blk)) = true then 7 else 0 := by
  obtain ⟨e, h2⟩ := nth_uses h0 h1
  have hm := mget_found hf
  have hw : (nth (usesR f) i).v = (nth (asksF f) i).v := by rw [e]; rfl
  rw [hw] at hm hd
  rw [hw] at hf
  have hdm := (defsR_at hB.ops) d (by rw [hd]; exact nth_mem (find_yes hf).1 (find_yes hf).2.1)
  have hbl := asks_bl hof h _ (nth_mem h0 h2)
  unfold askPlace
  rw [hm, ← hd]
  have eu : u.blk = (nth (asksF f) i).bl := by rw [hu, e]; rfl
  have ep : (d.pos < u.pos) ↔ (d.pos < (nth (asksF f) i).pos) := by
    have e2 : u.pos = if (nth (asksF f) i).pos = 1048576 then 1000 else (nth (asksF f) i).pos := by rw [hu, e]; rfl
    rw [e2]
    split
    · rename_i h9; rw [h9]; omega
    · exact Iff.rfl
  unfold placeOK
  show (if (decide (d.blk < 0) || (decide (d.blk = _) && decide (d.pos < _)) || (!decide (d.blk = _) && overD tl d.blk _)) = true then (0 : Int) else 7) = _
  rw [eu]
  by_cases c1 : d.blk < 0
  · simp [c1]
  · by_cases c2 : d.blk = (nth (asksF f) i).bl
    · by_cases c3 : d.pos < (nth (asksF f) i).pos
      · simp [c1, c2, c3, ep.2 c3]
      · have c3' : ¬ d.pos < u.pos := fun hc => c3 (ep.1 hc)
        simp [c1, c2, c3, c3']
    · have hin := fit_in hof h ht (a := d.blk) (b := (nth (asksF f) i).bl) (by omega) (by omega) hbl.1 hbl.2
      rw [overR hin]
      by_cases c4 : overD tl d.blk (nth (asksF f) i).bl = true
      · simp [c1, c2, c4]
      · simp [c1, c2, c4]
theorem plc_go {f : FuncD} {tl : List Int} {i r : Int} (hr : r = firstA (askPlace (msR (defsR f)) tl) ((asksF f).drop i.toNat)) (hB : Bnd f) (hof : (ofD f).2 = 0) (h : FitAll f) (ht : TreeP (ofD f).1.succ 0 tl) (h0 : 0 ≤ i) (h1 : i < (usesR f).length) (hf : ¬ findR (defsR f) (nth (usesR f) i).v < 0) {d u : DefR} (hd : d = nth (defsR f) (findR (defsR f) (nth (usesR f) i).v)) (hu : u = nth (usesR f) i)
    (hq : (decide (d.blk < 0) || ((d.blk == u.blk) && decide (d.pos < u.pos))) = true ∨ ((d.blk == u.blk) || !(meetR tl d.blk u.blk == d.blk)) = false) : r = firstA (askPlace (msR (defsR f)) tl) ((asksF f).drop (i + 1).toNat) := by
  refine first_go hr h0 (nth_uses h0 h1).2 ?_
  rw [place_eq hB hof h ht h0 h1 hf hd hu]
  rcases hq with hq | hq
  · rw [if_pos hq]
  · rw [hq]; simp
theorem plc_no {f : FuncD} {tl : List Int} {i r : Int} (hr : r = firstA (askPlace (msR (defsR f)) tl) ((asksF f).drop i.toNat)) (hB : Bnd f) (hof : (ofD f).2 = 0) (h : FitAll f) (ht : TreeP (ofD f).1.succ 0 tl) (h0 : 0 ≤ i) (h1 : i < (usesR f).length) (hf : ¬ findR (defsR f) (nth (usesR f) i).v < 0) {d u : DefR} (hd : d = nth (defsR f) (findR (defsR f) (nth (usesR f) i).v)) (hu : u = nth (usesR f) i)
    (hq : (decide (d.blk < 0) || ((d.blk == u.blk) && decide (d.pos < u.pos))) = false) (hq2 : ((d.blk == u.blk) || !(meetR tl d.blk u.blk == d.blk)) = true) : r = 7 := by
  refine first_at hr h0 (nth_uses h0 h1).2 ?_ (by decide)
  rw [place_eq hB hof h ht h0 h1 hf hd hu, hq, hq2]; rfl
def RefIs (f : FuncD) (lv e : Int) : Prop := ((lv < 0 ∨ lv > 2) → e = 1) ∧ (¬ (lv < 0 ∨ lv > 2) → ∀ tl, TreeGood f tl → e = codeOf f lv tl)
theorem RefIs.same {f : FuncD} {lv e e' : Int} (h : RefIs f lv e) (h' : CheckIs f lv e') : e' = e := by
  unfold CheckIs at h'
  by_cases hl : lv < 0 ∨ lv > 2
  · rw [if_pos hl] at h'; rw [h', h.1 hl]
  · rw [if_neg hl] at h'
    obtain ⟨tl, ht, rfl⟩ := h'
    exact (h.2 hl tl ht).symm
section
variable {f : FuncD} {lv : Int}
theorem ref1 (h : lv < 0 ∨ lv > 2) : RefIs f lv 1 := ⟨fun _ => rfl, fun h2 => absurd h h2⟩
theorem ref4 (hl : ¬ (lv < 0 ∨ lv > 2)) (h : mayF f = false) : RefIs f lv 4 := ⟨fun h2 => absurd h2 hl, fun _ tl ht => by unfold codeOf; rw [if_pos h]⟩
theorem ref5 (hl : ¬ (lv < 0 ∨ lv > 2)) (h : mayF f = true) {b : Bool} (h2 : (ofD f).2 ≠ 0 → b = false) (h3 : (ofD f).2 = 0 → ∀ tl, TreeP (ofD f).1.succ 0 tl → b = shapeW f tl) (hb : b = false) : RefIs f lv 5 := ⟨fun h2 => absurd h2 hl, fun _ tl ht => by
  unfold codeOf
  rw [if_neg (by rw [h]; simp)]
  by_cases ho : (ofD f).2 = 0
  · rw [if_neg (by simp [ho]), if_pos (by rw [← h3 ho tl (ht h ho)]; exact hb)]
  · rw [if_pos ho]⟩
theorem of0 {b : Bool} (h2 : (ofD f).2 ≠ 0 → b = false) (hb : b = true) : (ofD f).2 = 0 := Classical.byContradiction fun hc => by rw [h2 hc] at hb; cases hb
variable (hl : ¬ (lv < 0 ∨ lv > 2)) (h : mayF f = true) (ho : (ofD f).2 = 0) (h3 : ∀ tl, TreeP (ofD f).1.succ 0 tl → shapeW f tl = true)
include hl h ho h3
theorem ref6 (h4 : typedD f lv = false) : RefIs f lv 6 := ⟨fun h2 => absurd h2 hl, fun _ tl ht => by
  unfold codeOf; rw [if_neg (by rw [h]; simp), if_neg (by simp [ho]), if_neg (by simp [h3 tl (ht h ho)]), if_pos h4]⟩
theorem ref7 (h4 : typedD f lv = true) (h5 : defsD f = none) : RefIs f lv 7 := ⟨fun h2 => absurd h2 hl, fun _ tl ht => by
  unfold codeOf; rw [if_neg (by rw [h]; simp), if_neg (by simp [ho]), if_neg (by simp [h3 tl (ht h ho)]), if_neg (by simp [h4]), h5]⟩
theorem ref_ms {e : Int} (h4 : typedD f lv = true) (h5 : defsD f = some (msR (defsR f))) (he : ∀ tl, TreeP (ofD f).1.succ 0 tl → e = if firstA (askDef (msR (defsR f))) (asksF f) ≠ 0 then firstA (askDef (msR (defsR f))) (asksF f) else if firstA (askShape (msR (defsR f))) (asksF f) ≠ 0 then firstA (askShape (msR (defsR f))) (asksF f) else firstA (askPlace (msR (defsR f)) tl) (asksF f)) : RefIs f lv e := ⟨fun h2 => absurd h2 hl, fun _ tl ht => by
  unfold codeOf; rw [if_neg (by rw [h]; simp), if_neg (by simp [ho]), if_neg (by simp [h3 tl (ht h ho)]), if_neg (by simp [h4]), h5]
  exact he tl (ht h ho)⟩
theorem ref_d (h4 : typedD f lv = true) (h5 : defsD f = some (msR (defsR f))) (h6 : firstA (askDef (msR (defsR f))) (asksF f) = 7) : RefIs f lv 7 := ref_ms hl h ho h3 h4 h5 fun tl ht => by rw [h6]; rfl
theorem ref_s (h4 : typedD f lv = true) (h5 : defsD f = some (msR (defsR f))) (h6 : firstA (askDef (msR (defsR f))) (asksF f) = 0) (h7 : firstA (askShape (msR (defsR f))) (asksF f) = 6) : RefIs f lv 6 := ref_ms hl h ho h3 h4 h5 fun tl ht => by rw [h6, h7]; rfl
theorem ref_p {e : Int} (h4 : typedD f lv = true) (h5 : defsD f = some (msR (defsR f))) (h6 : firstA (askDef (msR (defsR f))) (asksF f) = 0) (h7 : firstA (askShape (msR (defsR f))) (asksF f) = 0) (h8 : ∀ tl, TreeP (ofD f).1.succ 0 tl → firstA (askPlace (msR (defsR f)) tl) (asksF f) = e) : RefIs f lv e := ref_ms hl h ho h3 h4 h5 fun tl ht => by rw [h6, h7, h8 tl ht]; rfl
end
end Go.Proofs.YtakameggkkjcpaaGreat
set_option maxRecDepth 4000
namespace Go.Proofs.YtakameggkkjcpaaGreat
open Go Go.RowKit
set_option maxHeartbeats 1000000 in
theorem rCheck_calls {H : Hp} {f : FuncD} {cs_f : List Value} (rd_f : Rdc.rd H cs_f f) (lv : Int) : CallG Tryz.prog 20 [.agg cs_f.toArray, .int .i64 lv] H [] (fun v H' L' => ∃ e, v = .int .i64 e ∧ RefIs f lv e ∧ L' = []) := by
 have rd_f' := rd_f; obtain ⟨A_f_0, c_f_0, A_f_2, c_f_2, rfl, u_f_0, r_f_0, u_f_2, r_f_2, k_f_0⟩ := rd_f
 have bf := r_f_2.1
 refine CallG.of Tryz.func20 rfl rfl rfl fun w0 => ?_
 refine WpG.g tabOK 2 rfl ?_
 refine WpG.box rfl rfl rfl rfl rfl (fun b1 => ?_)
 refine WpG.freezeBox (ci := 0) rfl (fun H2 hH2 hc2 => ?_)
 refine WpG.g tabOK 4 rfl ?_
 apply WpG.join (G := [(1, .int .i64 lv), (2, .pointer (some ⟨b1, 0, none⟩)), (21, .bool ((decide (lv < 0)) || (decide (lv > 2))))])
 ·intro nx3
  refine WpG.g tabOK 1 rfl ?_
  refine WpG.g tabOK 3 rfl ?_
  refine WpG.caseD (t := 18) rfl (fun q18 => ?_) (fun q18 => ?_)
  ·refine WpG.g tabOK 4 rfl ?_
   exact nx3.weak ⟨rfl, rfl, bq (by first | (simp [q18]; done) | (rw [Bool.eq_iff_iff]; simp only [Bool.or_eq_true, Bool.and_eq_true, decide_eq_true_eq, beq_iff_eq, eq_self, true_iff, Bool.false_eq_true, false_iff]; omega)), trivial⟩
  refine WpG.g tabOK 4 rfl ?_
  exact nx3.weak ⟨rfl, rfl, bq (by first | (simp [q18]; done) | (rw [Bool.eq_iff_iff]; simp only [Bool.or_eq_true, Bool.and_eq_true, decide_eq_true_eq, beq_iff_eq, eq_self, true_iff, Bool.false_eq_true, false_iff]; omega)), trivial⟩
 refine WpG.caseB (t := 21) rfl (fun q21 => ?_) (fun q21 => ?_)
 ·refine WpG.g tabOK 5 rfl ?_
  exact WpG.ret tabOK (L' := []) (.tmp rfl .nil) .slnil ⟨_, rfl, ref1 (by simpa using q21), rfl⟩
 have hl : ¬ (lv < 0 ∨ lv > 2) := by simpa using q21
 refine WpG.g tabOK 5 rfl ?_
 refine WpG.y rfl rfl rfl rfl (RunY.loadH tabOK hc2 hlr rfl rfl rfl rfl) ?_
 refine WpG.callS rfl rfl rfl rfl rfl rfl hlr (rMayF_calls (Rdc.mono hH2 rd_f')) ?_
 refine WpG.g tabOK 2 rfl ?_
 refine WpG.caseBn (t := 24) rfl (fun q24 => ?_) (fun q24 => ?_)
 ·refine WpG.g tabOK 5 rfl ?_
  exact WpG.ret tabOK (L' := []) (.tmp rfl .nil) .slnil ⟨_, rfl, ref4 hl q24, rfl⟩
 have hB := bnd_of q24; have hbd := hB.defs; have hbu := hB.uses
 refine WpG.g tabOK 5 rfl ?_
 refine WpG.y rfl rfl rfl rfl (RunY.loadH tabOK hc2 hlr rfl rfl rfl rfl) ?_
 refine WpG.call0 rfl rfl rfl rfl rfl rfl (rShapeF_calls (Rdc.mono hH2 rd_f')) ?_
 rintro _ H4 _ hH4 ⟨bS, rfl, hs1, hs2, hs3, rfl⟩
 refine WpG.g tabOK 2 rfl ?_
 refine WpG.caseBn (t := 27) rfl (fun q27 => ?_) (fun q27 => ?_)
 ·refine WpG.g tabOK 5 rfl ?_
  exact WpG.ret tabOK (L' := []) (.tmp rfl .nil) .slnil ⟨_, rfl, ref5 hl q24 hs1 hs2 q27, rfl⟩
 have hof := of0 hs1 q27; have hfa := hs3 q27; have hsw : ∀ tl, TreeP (ofD f).1.succ 0 tl → shapeW f tl = true := fun tl ht => by rw [← hs2 hof tl ht]; exact q27
 refine WpG.g tabOK 5 rfl ?_
 refine WpG.y rfl rfl rfl rfl (RunY.loadH tabOK hc2 hH4 rfl rfl rfl rfl) ?_
 refine WpG.g tabOK 1 rfl ?_
 refine WpG.callS rfl rfl rfl rfl rfl rfl hlr (rTyped_calls (Rdc.mono (hH2.trans hH4) rd_f') lv (by omega) (by omega)) ?_
 refine WpG.g tabOK 2 rfl ?_
 refine WpG.caseBn (t := 31) rfl (fun q31 => ?_) (fun q31 => ?_)
 ·refine WpG.g tabOK 5 rfl ?_
  exact WpG.ret tabOK (L' := []) (.tmp rfl .nil) .slnil ⟨_, rfl, ref6 hl q24 hof hsw q31, rfl⟩
 refine WpG.g tabOK 4 rfl ?_
 refine WpG.y rfl rfl rfl rfl (RunY.loadH tabOK hc2 hH4 rfl rfl rfl rfl) ?_
 refine WpG.call0 rfl rfl rfl rfl rfl rfl (rDefs_calls (Rdc.mono (hH2.trans hH4) rd_f') hB.defs) ?_
 rintro _ H5 _ hH5 ⟨A5, c5, rfl, u5, r5, rfl⟩
 refine WpG.g tabOK 9 rfl ?_
 refine WpG.wk (WpG.ind1 (fun (i : Int) => ⟨((defsR f).length - i).toNat, [(2, .pointer (some ⟨b1, 0, none⟩)), (5, .slice A5 ((defsR f).length) c5), (6, .int .i64 i)], H5, [], 0 ≤ i ∧ i ≤ (defsR f).length ∧ DOK (defsR f) i⟩) ?_ 0 ⟨by omega, by omega, DOK.zero⟩) rfl
 intro i inv ih1
 obtain ⟨i0, i1, i2⟩ := inv
 refine WpG.g tabOK 8 rfl ?_
 refine WpG.caseD (t := 37) rfl (fun q37 => ?_) (fun q37 => ?_)
 ·refine WpG.g tabOK 5 rfl ?_
  apply WpG.join (G := [(2, .pointer (some ⟨b1, 0, none⟩)), (5, .slice A5 ((defsR f).length) c5), (6, .int .i64 i), (57, .bool ((!(valueOK ((nth (defsR f) i).v))) || ((findR (defsR f) ((nth (defsR f) i).v)) != i)))])
  ·intro nx6
   refine WpG.g tabOK 1 rfl ?_
   refine WpG.g tabOK 2 rfl ?_
   refine WpG.indexR tabOK rfl rfl rfl rfl rfl rfl rfl rfl rfl r5 (by omega) (by omega) ?_
   rintro x7 hx7 b7 o7 cs7 rd7 hc7
   have rd7' := rd7; obtain ⟨rfl, k7_0, k7_1, k7_2, k7_3, k7_4⟩ := rd7
   obtain rfl : x7 = (nth (defsR f) i) := hx7
   refine WpG.g tabOK 1 rfl ?_
   refine WpG.y rfl rfl rfl rfl (RunY.loadH tabOK (hc7.sub 0 1) hlr rfl rfl rfl rfl) ?_
   refine WpG.callS rfl rfl rfl rfl rfl rfl hlr (rvalue_calls ((nth (defsR f) i).v)) ?_
   refine WpG.g tabOK 2 rfl ?_
   refine WpG.caseBn (t := 47) rfl (fun q47 => ?_) (fun q47 => ?_)
   ·refine WpG.g tabOK 11 rfl ?_
    exact nx6.weak ⟨rfl, rfl, rfl, bq (by first | (simp [q47]; done) | (rw [Bool.eq_iff_iff]; simp only [Bool.or_eq_true, Bool.and_eq_true, decide_eq_true_eq, beq_iff_eq, eq_self, true_iff, Bool.false_eq_true, false_iff]; omega)), trivial⟩
   refine WpG.g tabOK 3 rfl ?_
   refine WpG.indexR tabOK rfl rfl rfl rfl rfl rfl rfl rfl rfl r5 (by omega) (by omega) ?_
   rintro x8 hx8 b8 o8 cs8 rd8 hc8
   have rd8' := rd8; obtain ⟨rfl, k8_0, k8_1, k8_2, k8_3, k8_4⟩ := rd8
   obtain rfl : x8 = (nth (defsR f) i) := hx8
   refine WpG.g tabOK 1 rfl ?_
   refine WpG.y rfl rfl rfl rfl (RunY.loadH tabOK (hc8.sub 0 1) hlr rfl rfl rfl rfl) ?_
   refine WpG.callS rfl rfl rfl rfl rfl rfl hlr (rFind_calls r5 ((nth (defsR f) i).v)) ?_
   refine WpG.g tabOK 4 rfl ?_
   exact nx6.weak ⟨rfl, rfl, rfl, bq (by first | (simp [q47]; done) | (rw [Bool.eq_iff_iff]; simp only [Bool.or_eq_true, Bool.and_eq_true, decide_eq_true_eq, beq_iff_eq, eq_self, true_iff, Bool.false_eq_true, false_iff]; omega)), trivial⟩
  refine WpG.caseB (t := 57) rfl (fun q57 => ?_) (fun q57 => ?_)
  ·refine WpG.g tabOK 5 rfl ?_
   exact WpG.ret tabOK (L' := []) (.tmp rfl .nil) .slnil ⟨_, rfl, ref7 hl q24 hof hsw q31 (DOK.none_ hB.p1 hB.ops i0 q37 q57), rfl⟩
  refine WpG.gw tabOK 6 39 rfl (wrk (x := i + 1) (by omega) (by omega)) ?_
  refine WpG.g tabOK 3 rfl ?_
  refine WpG.wk (ih1 (i + 1) ?_ ?_) rfl
  ·dsimp only
   omega
  clear ih1
  exact ⟨by omega, by omega, i2.step q57⟩
 have hds := i2.defs q37
 refine WpG.g tabOK 4 rfl ?_
 refine WpG.y rfl rfl rfl rfl (RunY.loadH tabOK hc2 (hH4.trans hH5) rfl rfl rfl rfl) ?_
 refine WpG.call0 rfl rfl rfl rfl rfl rfl (rUses_calls (Rdc.mono ((hH2.trans hH4).trans hH5) rd_f') hB.uses (typed_ret q31) (fit_phis hfa) hB.ops) ?_
 rintro _ H9 _ hH9 ⟨A9, c9, rfl, u9, r9, rfl⟩
 refine WpG.g tabOK 9 rfl ?_
 refine WpG.wk (WpG.ind1 (fun (j : Int) => ⟨((usesR f).length - j).toNat, [(2, .pointer (some ⟨b1, 0, none⟩)), (5, .slice A5 ((defsR f).length) c5), (7, .slice A9 ((usesR f).length) c9), (8, .int .i64 j)], H9, [], 0 ≤ j ∧ j ≤ (usesR f).length ∧ (firstA (askDef (msR (defsR f))) (asksF f) = firstA (askDef (msR (defsR f))) ((asksF f).drop j.toNat)) ∧ foundAll f j⟩) ?_ 0 ⟨by omega, by omega, rfl, fun x x0 x1 => by exfalso; omega⟩) rfl
 intro j inv ih2
 obtain ⟨j0, j1, j2, j3⟩ := inv
 refine WpG.g tabOK 8 rfl ?_
 refine WpG.caseD (t := 63) rfl (fun q63 => ?_) (fun q63 => ?_)
 ·refine WpG.g tabOK 9 rfl ?_
  refine WpG.indexR tabOK rfl rfl rfl rfl rfl rfl rfl rfl rfl r9 (by omega) (by omega) ?_
  rintro x10 hx10 b10 o10 cs10 rd10 hc10
  have rd10' := rd10; obtain ⟨rfl, k10_0, k10_1, k10_2, k10_3, k10_4⟩ := rd10
  obtain rfl : x10 = (nth (usesR f) j) := hx10
  refine WpG.g tabOK 1 rfl ?_
  refine WpG.y rfl rfl rfl rfl (RunY.loadH tabOK (hc10.sub 0 1) hlr rfl rfl rfl rfl) ?_
  refine WpG.callS rfl rfl rfl rfl rfl rfl hlr (rFind_calls (r5.mono hH9) ((nth (usesR f) j).v)) ?_
  refine WpG.g tabOK 2 rfl ?_
  refine WpG.caseD (t := 73) rfl (fun q73 => ?_) (fun q73 => ?_)
  ·refine WpG.g tabOK 5 rfl ?_
   exact WpG.ret tabOK (L' := []) (.tmp rfl .nil) .slnil ⟨_, rfl, ref_d hl q24 hof hsw q31 hds (def_no j2 j0 q63 q73), rfl⟩
  refine WpG.gw tabOK 6 65 rfl (wrk (x := j + 1) (by omega) (by omega)) ?_
  refine WpG.g tabOK 3 rfl ?_
  refine WpG.wk (ih2 (j + 1) ?_ ?_) rfl
  ·dsimp only
   omega
  clear ih1 ih2
  exact ⟨by omega, by omega, def_yes j2 j0 q63 q73, found_step j3 q73⟩
 have hfd := found_end j3 q63; have hdz := first_end j2 j0 (by rw [← uses_len]; exact q63)
 refine WpG.g tabOK 9 rfl ?_
 refine WpG.wk (WpG.ind1 (fun (k : Int) => ⟨((usesR f).length - k).toNat, [(2, .pointer (some ⟨b1, 0, none⟩)), (5, .slice A5 ((defsR f).length) c5), (7, .slice A9 ((usesR f).length) c9), (9, .int .i64 k)], H9, [], 0 ≤ k ∧ k ≤ (usesR f).length ∧ (firstA (askShape (msR (defsR f))) (asksF f) = firstA (askShape (msR (defsR f))) ((asksF f).drop k.toNat))⟩) ?_ 0 ⟨by omega, by omega, rfl⟩) rfl
 intro k inv ih3
 obtain ⟨k0, k1, k2⟩ := inv
 refine WpG.g tabOK 8 rfl ?_
 refine WpG.caseD (t := 77) rfl (fun q77 => ?_) (fun q77 => ?_)
 ·have hfy := find_yes (hfd k k0 q77)
  refine WpG.g tabOK 5 rfl ?_
  refine WpG.draw 17 [] mixed (by kernel_rfl) ?_
  refine WpD.g (listed' := lst 17 6159) tabOK [0, 1, 2, 3, 11, 12] (by kernel_rfl) rfl (((hH2.trans hH4).trans hH5).trans hH9) hlr .slnil ?_
  refine WpD.indexR (i := 4) (fuel := 10) (listed' := lst 17 6175) tabOK (by kernel_rfl) rfl rfl rfl rfl rfl rfl rfl rfl rfl (((hH2.trans hH4).trans hH5).trans hH9) hlr .slnil r9 (by omega) (by omega) ?_
  rintro x11 hx11 b11 o11 cs11 rd11 hc11
  have rd11' := rd11; obtain ⟨rfl, k11_0, k11_1, k11_2, k11_3, k11_4⟩ := rd11
  obtain rfl : x11 = (nth (usesR f) k) := hx11
  refine WpD.g (listed' := lst 17 6207) tabOK [5] (by kernel_rfl) rfl (((hH2.trans hH4).trans hH5).trans hH9) hlr .slnil ?_
  refine WpD.y (i := 6) (fuel := 8) (listed' := lst 17 6271) (by kernel_rfl) rfl rfl rfl rfl (((hH2.trans hH4).trans hH5).trans hH9) hlr .slnil (RunY.loadH tabOK (hc11.sub 0 1) hlr rfl rfl rfl rfl) ?_
  refine WpD.indexR (i := 13) (fuel := 7) (listed' := lst 17 14463) tabOK (by kernel_rfl) rfl rfl rfl rfl rfl rfl rfl rfl rfl (((hH2.trans hH4).trans hH5).trans hH9) hlr .slnil r9 (by omega) (by omega) ?_
  rintro x12 hx12 b12 o12 cs12 rd12 hc12
  have rd12' := rd12; obtain ⟨rfl, k12_0, k12_1, k12_2, k12_3, k12_4⟩ := rd12
  obtain rfl : x12 = (nth (usesR f) k) := hx12
  refine WpD.g (listed' := lst 17 30847) tabOK [14] (by kernel_rfl) rfl (((hH2.trans hH4).trans hH5).trans hH9) hlr .slnil ?_
  refine WpD.y (i := 15) (fuel := 5) (listed' := lst 17 63615) (by kernel_rfl) rfl rfl rfl rfl (((hH2.trans hH4).trans hH5).trans hH9) hlr .slnil (RunY.loadH tabOK (hc12.sub 3 2) hlr rfl rfl rfl rfl) ?_
  refine WpD.callS (i := 7) (fuel := 4) (listed' := lst 17 63743) (by kernel_rfl) rfl rfl rfl rfl rfl rfl hlr (rFind_calls (r5.mono hH9) ((nth (usesR f) k).v)) (((hH2.trans hH4).trans hH5).trans hH9) hlr .slnil ?_
  refine WpD.indexR (i := 8) (fuel := 3) (listed' := lst 17 63999) tabOK (by kernel_rfl) rfl rfl rfl rfl rfl rfl rfl rfl rfl (((hH2.trans hH4).trans hH5).trans hH9) hlr .slnil r5 (by omega) (by omega) ?_
  rintro x13 hx13 b13 o13 cs13 rd13 hc13
  have rd13' := rd13; obtain ⟨rfl, k13_0, k13_1, k13_2, k13_3, k13_4⟩ := rd13
  obtain rfl : x13 = (nth (defsR f) (findR (defsR f) ((nth (usesR f) k).v))) := hx13
  refine WpD.g (listed' := lst 17 64511) tabOK [9] (by kernel_rfl) rfl (((hH2.trans hH4).trans hH5).trans hH9) hlr .slnil ?_
  refine WpD.y (i := 10) (fuel := 1) (listed' := lst 17 65535) (by kernel_rfl) rfl rfl rfl rfl (((hH2.trans hH4).trans hH5).trans hH9) hlr .slnil (RunY.loadH tabOK (hc13.sub 3 2) hH9 rfl rfl rfl rfl) ?_
  refine WpD.y (i := 16) (fuel := 0) (listed' := lst 17 131071) (by kernel_rfl) rfl rfl rfl rfl (((hH2.trans hH4).trans hH5).trans hH9) hlr .slnil (RunY.nePair tabOK rfl rfl rfl rfl rfl rfl rfl (by kernel_rfl)) ?_
  refine WpD.done (by kernel_rfl) ?_
  refine WpG.caseBn (t := 96) rfl (fun q96 => ?_) (fun q96 => ?_)
  ·refine WpG.g tabOK 5 rfl ?_
   exact WpG.ret tabOK (L' := []) (.tmp rfl .nil) .slnil ⟨_, rfl, ref_s hl q24 hof hsw q31 hds hdz (shp_no k2 k0 q77 (hfd k k0 q77) (by rw [q96]; rfl)), rfl⟩
  refine WpG.gw tabOK 6 79 rfl (wrk (x := k + 1) (by omega) (by omega)) ?_
  refine WpG.g tabOK 3 rfl ?_
  refine WpG.wk (ih3 (k + 1) ?_ ?_) rfl
  ·dsimp only
   omega
  clear ih1 ih2 ih3
  exact ⟨by omega, by omega, shp_yes k2 k0 q77 (hfd k k0 q77) (by rw [q96]; rfl)⟩
 have hsz := first_end k2 k0 (by rw [← uses_len]; exact q77)
 refine WpG.g tabOK 4 rfl ?_
 refine WpG.y rfl rfl rfl rfl (RunY.loadH tabOK hc2 ((hH4.trans hH5).trans hH9) rfl rfl rfl rfl) ?_
 refine WpG.call0 rfl rfl rfl rfl rfl rfl (rOf_calls (Rdc.mono (((hH2.trans hH4).trans hH5).trans hH9) rd_f')) ?_
 rintro _ H14 _ hH14 ⟨A14, c14, B14, d14, rfl, ua14, ra14, ub14, rb14, rfl⟩
 refine WpG.g tabOK 3 rfl ?_
 refine WpG.alloc tabOK rfl rfl rfl rfl rfl (fun b15 => ?_)
 refine WpG.storeBox (ci := 0) (cs' := [.slice A14 ((ofD f).1.succ.length) c14, .slice B14 ((ofD f).1.pred.length) d14]) tabOK rfl rfl rfl rfl rfl rfl rfl rfl rfl ?_
 refine WpG.freezeBox (ci := 0) rfl (fun H16 hH16 hc16 => ?_)
 refine WpG.g tabOK 4 rfl ?_
 refine WpG.y rfl rfl rfl rfl (RunY.loadH tabOK hc16 hlr rfl rfl rfl rfl) ?_
 have hrw := of_rows hof
 refine WpG.call0 rfl rfl rfl rfl rfl rfl (rTree_calls (Rdc.mono hH16 ⟨_, _, _, _, rfl, ua14, ra14, ub14, rb14⟩) 0 hrw.2.2.2.2 hrw.1 (Int.le_refl 0) (by have := hrw.2.1; have := hrw.2.2.2.1; omega)) ?_
 rintro _ H17 _ hH17 ⟨At, ct, out, hol, hot, rfl, uout, rout, rfl⟩
 have h64 : out.length ≤ 64 := by have := hB.b1; have := hrw.2.1; omega
 refine WpG.g tabOK 9 rfl ?_
 refine WpG.wk (WpG.ind1 (fun (m : Int) => ⟨((usesR f).length - m).toNat, [(5, .slice A5 ((defsR f).length) c5), (7, .slice A9 ((usesR f).length) c9), (12, .slice At out.length ct), (13, .int .i64 m)], H17, [], 0 ≤ m ∧ m ≤ (usesR f).length ∧ ∀ tl, TreeP (ofD f).1.succ 0 tl → (firstA (askPlace (msR (defsR f)) tl) (asksF f) = firstA (askPlace (msR (defsR f)) tl) ((asksF f).drop m.toNat))⟩) ?_ 0 ⟨by omega, by omega, fun tl _ => rfl⟩) rfl
 intro m inv ih4
 obtain ⟨m0, m1, m2⟩ := inv
 refine WpG.g tabOK 8 rfl ?_
 refine WpG.caseD (t := 107) rfl (fun q107 => ?_) (fun q107 => ?_)
 ·have hfy := find_yes (hfd m m0 q107)
  refine WpG.g tabOK 8 rfl ?_
  refine WpG.indexR tabOK rfl rfl rfl rfl rfl rfl rfl rfl rfl r9 (by omega) (by omega) ?_
  rintro x18 hx18 b18 o18 cs18 rd18 hc18
  have rd18' := rd18; obtain ⟨rfl, k18_0, k18_1, k18_2, k18_3, k18_4⟩ := rd18
  obtain rfl : x18 = (nth (usesR f) m) := hx18
  refine WpG.y rfl rfl rfl rfl (RunY.loadH tabOK hc18 ((hH14.trans hH16).trans hH17) rfl rfl rfl rfl) ?_
  refine WpG.alloc tabOK rfl rfl rfl rfl rfl (fun b19 => ?_)
  refine WpG.storeBox (ci := 0) (cs' := [.int .i64 ((nth (usesR f) m).v), .int .i64 ((nth (usesR f) m).blk), .int .i64 ((nth (usesR f) m).pos), .int .i64 ((nth (usesR f) m).bits), .int .i64 ((nth (usesR f) m).lanes)]) tabOK rfl rfl rfl rfl rfl rfl rfl rfl rfl ?_
  refine WpG.freezeBox (ci := 0) rfl (fun H20 hH20 hc20 => ?_)
  refine WpG.g tabOK 6 rfl ?_
  refine WpG.y rfl rfl rfl rfl (RunY.loadH tabOK (hc20.sub 0 1) hlr rfl rfl rfl rfl) ?_
  refine WpG.callS rfl rfl rfl rfl rfl rfl hlr (rFind_calls (r5.mono ((((hH9.trans hH14).trans hH16).trans hH17).trans hH20)) ((nth (usesR f) m).v)) ?_
  refine WpG.indexR tabOK rfl rfl rfl rfl rfl rfl rfl rfl rfl r5 (by omega) (by omega) ?_
  rintro x21 hx21 b21 o21 cs21 rd21 hc21
  have rd21' := rd21; obtain ⟨rfl, k21_0, k21_1, k21_2, k21_3, k21_4⟩ := rd21
  obtain rfl : x21 = (nth (defsR f) (findR (defsR f) ((nth (usesR f) m).v))) := hx21
  refine WpG.y rfl rfl rfl rfl (RunY.loadH tabOK hc21 ((((hH9.trans hH14).trans hH16).trans hH17).trans hH20) rfl rfl rfl rfl) ?_
  refine WpG.alloc tabOK rfl rfl rfl rfl rfl (fun b22 => ?_)
  refine WpG.storeBox (ci := 0) (cs' := [.int .i64 ((nth (defsR f) (findR (defsR f) ((nth (usesR f) m).v))).v), .int .i64 ((nth (defsR f) (findR (defsR f) ((nth (usesR f) m).v))).blk), .int .i64 ((nth (defsR f) (findR (defsR f) ((nth (usesR f) m).v))).pos), .int .i64 ((nth (defsR f) (findR (defsR f) ((nth (usesR f) m).v))).bits), .int .i64 ((nth (defsR f) (findR (defsR f) ((nth (usesR f) m).v))).lanes)]) tabOK rfl rfl rfl rfl rfl rfl rfl rfl rfl ?_
  refine WpG.freezeBox (ci := 0) rfl (fun H23 hH23 hc23 => ?_)
  refine WpG.g tabOK 3 rfl ?_
  apply WpG.join (G := [(5, .slice A5 ((defsR f).length) c5), (7, .slice A9 ((usesR f).length) c9), (12, .slice At out.length ct), (13, .int .i64 m), (14, .pointer (some ⟨b19, 0, none⟩)), (15, .pointer (some ⟨b22, 0, none⟩)), (137, .bool ((decide (((nth (defsR f) (findR (defsR f) ((nth (usesR f) m).v))).blk) < 0)) || ((((nth (defsR f) (findR (defsR f) ((nth (usesR f) m).v))).blk) == ((nth (usesR f) m).blk)) && (decide (((nth (defsR f) (findR (defsR f) ((nth (usesR f) m).v))).pos) < ((nth (usesR f) m).pos))))))])
  ·intro nx24
   refine WpG.g tabOK 1 rfl ?_
   refine WpG.g tabOK 1 rfl ?_
   refine WpG.y rfl rfl rfl rfl (RunY.loadH tabOK (hc23.sub 1 1) hlr rfl rfl rfl rfl) ?_
   refine WpG.g tabOK 2 rfl ?_
   refine WpG.caseD (t := 124) rfl (fun q124 => ?_) (fun q124 => ?_)
   ·refine WpG.g tabOK 14 rfl ?_
    exact nx24.weak ⟨rfl, rfl, rfl, rfl, rfl, rfl, bq (by first | (simp [q124]; done) | (rw [Bool.eq_iff_iff]; simp only [Bool.or_eq_true, Bool.and_eq_true, decide_eq_true_eq, beq_iff_eq, eq_self, true_iff, Bool.false_eq_true, false_iff]; omega)), trivial⟩
   refine WpG.g tabOK 1 rfl ?_
   refine WpG.y rfl rfl rfl rfl (RunY.loadH tabOK (hc23.sub 1 1) hlr rfl rfl rfl rfl) ?_
   refine WpG.g tabOK 1 rfl ?_
   refine WpG.y rfl rfl rfl rfl (RunY.loadH tabOK (hc20.sub 1 1) hH23 rfl rfl rfl rfl) ?_
   refine WpG.g tabOK 2 rfl ?_
   refine WpG.caseE (t := 130) rfl (fun q130 => ?_) (fun q130 => ?_)
   ·refine WpG.g tabOK 1 rfl ?_
    refine WpG.y rfl rfl rfl rfl (RunY.loadH tabOK (hc23.sub 2 1) hlr rfl rfl rfl rfl) ?_
    refine WpG.g tabOK 1 rfl ?_
    refine WpG.y rfl rfl rfl rfl (RunY.loadH tabOK (hc20.sub 2 1) hH23 rfl rfl rfl rfl) ?_
    refine WpG.g tabOK 4 rfl ?_
    exact nx24.weak ⟨rfl, rfl, rfl, rfl, rfl, rfl, bq (by first | (simp [q124, q130]; done) | (rw [Bool.eq_iff_iff]; simp only [Bool.or_eq_true, Bool.and_eq_true, decide_eq_true_eq, beq_iff_eq, eq_self, true_iff, Bool.false_eq_true, false_iff]; omega)), trivial⟩
   refine WpG.g tabOK 8 rfl ?_
   exact nx24.weak ⟨rfl, rfl, rfl, rfl, rfl, rfl, bq (by first | (simp [q124, q130, nb q130]; done) | (rw [Bool.eq_iff_iff]; simp only [Bool.or_eq_true, Bool.and_eq_true, decide_eq_true_eq, beq_iff_eq, eq_self, true_iff, Bool.false_eq_true, false_iff]; omega)), trivial⟩
  refine WpG.caseB (t := 137) rfl (fun q137 => ?_) (fun q137 => ?_)
  ·refine WpG.gw tabOK 5 109 rfl (wrk (x := m + 1) (by omega) (by omega)) ?_
   refine WpG.g tabOK 3 rfl ?_
   refine WpG.lessH ((((((hH2.trans hH4).trans hH5).trans hH9).trans hH14).trans hH16).trans hH17) (hH20.trans hH23) ?_
   refine WpG.wk (ih4 (m + 1) ?_ ?_) rfl
   ·dsimp only
    omega
   clear ih1 ih2 ih3 ih4
   exact ⟨by omega, by omega, fun tl ht => plc_go (m2 tl ht) hB hof hfa ht m0 q107 (hfd m m0 q107) rfl rfl (.inl q137)⟩
  refine WpG.g tabOK 3 rfl ?_
  refine WpG.draw 16 [] mixed (by kernel_rfl) ?_
  refine WpD.g (listed' := lst 16 5) tabOK [0, 2] (by kernel_rfl) rfl ((((((((hH2.trans hH4).trans hH5).trans hH9).trans hH14).trans hH16).trans hH17).trans hH20).trans hH23) hlr .slnil ?_
  refine WpD.y (i := 1) (fuel := 13) (listed' := lst 16 7) (by kernel_rfl) rfl rfl rfl rfl ((((((((hH2.trans hH4).trans hH5).trans hH9).trans hH14).trans hH16).trans hH17).trans hH20).trans hH23) hlr .slnil (RunY.loadH tabOK (hc23.sub 1 1) hlr rfl rfl rfl rfl) ?_
  refine WpD.y (i := 3) (fuel := 12) (listed' := lst 16 15) (by kernel_rfl) rfl rfl rfl rfl ((((((((hH2.trans hH4).trans hH5).trans hH9).trans hH14).trans hH16).trans hH17).trans hH20).trans hH23) hlr .slnil (RunY.loadH tabOK (hc20.sub 1 1) hH23 rfl rfl rfl rfl) ?_
  refine WpD.g (listed' := lst 16 63) tabOK [4, 5] (by kernel_rfl) rfl ((((((((hH2.trans hH4).trans hH5).trans hH9).trans hH14).trans hH16).trans hH17).trans hH20).trans hH23) hlr .slnil ?_
  refine WpD.caseE (t := 143) rfl (fun q143 => ?_) (fun q143 => ?_)
  ·refine WpD.g (listed' := lst 16 65535) tabOK [6, 7, 8, 9, 10, 11, 12, 13, 14, 15] (by kernel_rfl) rfl ((((((((hH2.trans hH4).trans hH5).trans hH9).trans hH14).trans hH16).trans hH17).trans hH20).trans hH23) hlr .slnil ?_
   refine WpD.done (by kernel_rfl) ?_
   refine WpG.g tabOK 5 rfl ?_
   exact WpG.ret tabOK (L' := []) (.tmp rfl .nil) .slnil ⟨_, rfl, ref_p hl q24 hof hsw q31 hds hdz hsz (fun tl ht => plc_no (m2 tl ht) hB hof hfa ht m0 q107 (hfd m m0 q107) rfl rfl q137 (by simp [q143])), rfl⟩
  refine WpD.g (listed' := lst 16 4863) tabOK [6, 7, 9, 12] (by kernel_rfl) rfl ((((((((hH2.trans hH4).trans hH5).trans hH9).trans hH14).trans hH16).trans hH17).trans hH20).trans hH23) hlr .slnil ?_
  refine WpD.y (i := 8) (fuel := 5) (listed' := lst 16 5119) (by kernel_rfl) rfl rfl rfl rfl ((((((((hH2.trans hH4).trans hH5).trans hH9).trans hH14).trans hH16).trans hH17).trans hH20).trans hH23) hlr .slnil (RunY.loadH tabOK (hc23.sub 1 1) hlr rfl rfl rfl rfl) ?_
  refine WpD.y (i := 10) (fuel := 4) (listed' := lst 16 6143) (by kernel_rfl) rfl rfl rfl rfl ((((((((hH2.trans hH4).trans hH5).trans hH9).trans hH14).trans hH16).trans hH17).trans hH20).trans hH23) hlr .slnil (RunY.loadH tabOK (hc20.sub 1 1) hH23 rfl rfl rfl rfl) ?_
  refine WpD.y (i := 13) (fuel := 3) (listed' := lst 16 14335) (by kernel_rfl) rfl rfl rfl rfl ((((((((hH2.trans hH4).trans hH5).trans hH9).trans hH14).trans hH16).trans hH17).trans hH20).trans hH23) hlr .slnil (RunY.loadH tabOK (hc23.sub 1 1) hlr rfl rfl rfl rfl) ?_
  refine WpD.callS (i := 11) (fuel := 2) (listed' := lst 16 16383) (by kernel_rfl) rfl rfl rfl rfl rfl rfl hlr (rMeet_calls (rout.mono (hH20.trans hH23)) h64 ((nth (defsR f) (findR (defsR f) ((nth (usesR f) m).v))).blk) ((nth (usesR f) m).blk)) ((((((((hH2.trans hH4).trans hH5).trans hH9).trans hH14).trans hH16).trans hH17).trans hH20).trans hH23) hlr .slnil ?_
  refine WpD.g (listed' := lst 16 65535) tabOK [14, 15] (by kernel_rfl) rfl ((((((((hH2.trans hH4).trans hH5).trans hH9).trans hH14).trans hH16).trans hH17).trans hH20).trans hH23) hlr .slnil ?_
  refine WpD.done (by kernel_rfl) ?_
  refine WpG.caseN (t := 153) rfl (fun q153 => ?_) (fun q153 => ?_)
  ·refine WpG.g tabOK 5 rfl ?_
   exact WpG.ret tabOK (L' := []) (.tmp rfl .nil) .slnil ⟨_, rfl, ref_p hl q24 hof hsw q31 hds hdz hsz (fun tl ht => plc_no (m2 tl ht) hB hof hfa ht m0 q107 (hfd m m0 q107) rfl rfl q137 (by have e := hot tl ht; subst e; simp [q153])), rfl⟩
  refine WpG.gw tabOK 6 109 rfl (wrk (x := m + 1) (by omega) (by omega)) ?_
  refine WpG.g tabOK 3 rfl ?_
  refine WpG.lessH ((((((hH2.trans hH4).trans hH5).trans hH9).trans hH14).trans hH16).trans hH17) (hH20.trans hH23) ?_
  refine WpG.wk (ih4 (m + 1) ?_ ?_) rfl
  ·dsimp only
   omega
  clear ih1 ih2 ih3 ih4
  exact ⟨by omega, by omega, fun tl ht => plc_go (m2 tl ht) hB hof hfa ht m0 q107 (hfd m m0 q107) rfl rfl (.inr (by have e := hot tl ht; subst e; simp [q143, q153]))⟩
 refine WpG.g tabOK 6 rfl ?_
 exact WpG.ret tabOK (L' := []) (.tmp rfl .nil) .slnil ⟨_, rfl, ref_p hl q24 hof hsw q31 hds hdz hsz (fun tl ht => first_end (m2 tl ht) m0 (by rw [← uses_len]; exact q107)), rfl⟩
end Go.Proofs.YtakameggkkjcpaaGreat
namespace Go.Proofs.YtakameggkkjcpaaGreat
open Go Go.RowKit
structure Right (f : FuncD) (lv : Int) (tl : List Int) : Prop where
  may : mayF f = true
  of_ : (ofD f).2 = 0
  tree : TreeP (ofD f).1.succ 0 tl
  shape : shapeW f tl = true
  typ : typedD f lv = true
  defs : defsD f = some (msR (defsR f))
  good : PhiGood (allPuts 0 f.blocks)
  nodup : (vsR (defsR f)).Nodup
  ask : firstA (askDef (msR (defsR f))) (asksF f) = 0
  shp : firstA (askShape (msR (defsR f))) (asksF f) = 0
  plc : firstA (askPlace (msR (defsR f)) tl) (asksF f) = 0
theorem code_right {f : FuncD} {lv : Int} (h : CodeIs f lv 0) : ∃ tl, Right f lv tl := by
  obtain ⟨tl, ht, h⟩ := h
  unfold codeOf at h
  split at h
  · cases h
  · split at h
    · cases h
    · split at h
      · cases h
      · split at h
        · cases h
        · rename_i h1 h2 h3 h4
          cases hd : defsD f with
          | none => rw [hd] at h; cases h
          | some ms =>
            rw [hd] at h
            obtain ⟨e, hg, hn⟩ := defs_some hd
            subst e
            have h1 : mayF f = true := by simpa using h1
            have h2 : (ofD f).2 = 0 := by simpa using h2
            have h3 : shapeW f tl = true := by simpa using h3
            have h4 : typedD f lv = true := by simpa using h4
            simp only at h
            split at h
            · rename_i h5; exact absurd h.symm h5
            · rename_i h5
              split at h
              · rename_i h6; exact absurd h.symm h6
              · rename_i h6
                exact ⟨tl, h1, h2, ht h1 h2, h3, h4, hd, hg, hn, by simpa using h5, by simpa using h6, h.symm⟩
end Go.Proofs.YtakameggkkjcpaaGreat
namespace Go.Proofs.YtakameggkkjcpaaGreat
open Go Go.RowKit
structure HamD where
  at_ : Int
  thn : Int
  els : Int
  join : Int
  deriving Inhabited, DecidableEq
instance : Rdc HamD where
  sz := 4
  rd _ vs x := vs = [.int .i64 x.at_, .int .i64 x.thn, .int .i64 x.els, .int .i64 x.join] ∧ I64 x.at_ ∧ I64 x.thn ∧ I64 x.els ∧ I64 x.join
  len h := by rw [h.1]; rfl
  mono _ h := h
  one h := by rw [h.1]; rfl
abbrev hamV (h : HamD) : Value := .agg #[.int .i64 h.at_, .int .i64 h.thn, .int .i64 h.els, .int .i64 h.join]
def flatH (l : List HamD) : List Value := l.flatMap fun x => [.int .i64 x.at_, .int .i64 x.thn, .int .i64 x.els, .int .i64 x.join]
theorem flatH_snoc (l : List HamD) (x : HamD) : flatH (l ++ [x]) = flatH l ++ [.int .i64 x.at_, .int .i64 x.thn, .int .i64 x.els, .int .i64 x.join] := by simp [flatH]
def IH (x : HamD) : Prop := I64 x.at_ ∧ I64 x.thn ∧ I64 x.els ∧ I64 x.join
def AllH (l : List HamD) : Prop := ∀ d ∈ l, IH d
theorem AllH_nil : AllH [] := fun d h => by cases h
theorem AllH_snoc {l : List HamD} {x : HamD} (h : AllH l) (hx : IH x) : AllH (l ++ [x]) := fun d hd => (List.mem_append.1 hd).elim (h d) fun h => by rw [List.mem_singleton.1 h]; exact hx
theorem RdL_hams {H : Hp} : ∀ (l : List HamD), AllH l → RdL H (flatH l) l
  | [], _ => rfl
  | x :: l, h => ⟨[.int .i64 x.at_, .int .i64 x.thn, .int .i64 x.els, .int .i64 x.join], flatH l, rfl, ⟨rfl, h x (.head _)⟩, RdL_hams l fun d hd => h d (.tail _ hd)⟩
def noneH : HamD := ⟨0, 0, 0, 0⟩
structure GG (f : FuncD) (gr : GraphD) : Prop where
  pl : gr.pred.length = f.blocks.length
  goes : ∀ b ∈ f.blocks, goesD b.en.kind = b.en.to.length
  rng : ∀ b ∈ f.blocks, ∀ t ∈ b.en.to, 1 ≤ t ∧ t < f.blocks.length
theorem GG.of {f : FuncD} (h : (ofD f).2 = 0) : GG f (ofD f).1 := by
  obtain ⟨_, _, _, _, _, h1, _, h2⟩ := of_ok h
  refine ⟨h1, fun b hb => ?_, fun b hb t ht => ?_⟩
  · have := List.all_eq_true.1 h2 b hb
    simp only [ofOK, Bool.and_eq_true, beq_iff_eq] at this
    exact this.1
  · have := List.all_eq_true.1 h2 b hb
    simp only [ofOK, Bool.and_eq_true, Bool.not_eq_true', List.any_eq_false] at this
    have := this.2 t ht
    simp only [Bool.or_eq_true, decide_eq_true_eq, not_or] at this
    omega
theorem GG.one {f : FuncD} {gr : GraphD} (h : GG f gr) {i : Int} (h0 : 0 ≤ i) (h1 : i < f.blocks.length) (hk : (nth f.blocks i).en.kind = 1) : (nth f.blocks i).en.to.length = 1 := by
  have := h.goes _ (nth_mem h0 h1)
  rw [hk] at this
  have e : goesD 1 = 1 := rfl
  omega
theorem GG.two {f : FuncD} {gr : GraphD} (h : GG f gr) {i : Int} (h0 : 0 ≤ i) (h1 : i < f.blocks.length) (hk : (nth f.blocks i).en.kind = 2) : (nth f.blocks i).en.to.length = 2 ∧ 1 ≤ nth (nth f.blocks i).en.to 0 ∧ nth (nth f.blocks i).en.to 0 < f.blocks.length ∧ 1 ≤ nth (nth f.blocks i).en.to 1 ∧ nth (nth f.blocks i).en.to 1 < f.blocks.length := by
  have := h.goes _ (nth_mem h0 h1)
  rw [hk] at this
  have e : goesD 2 = 2 := rfl
  have hl : (nth f.blocks i).en.to.length = 2 := by omega
  have r0 := h.rng _ (nth_mem h0 h1) _ (nth_mem (xs := (nth f.blocks i).en.to) (i := 0) (by omega) (by omega))
  have r1 := h.rng _ (nth_mem h0 h1) _ (nth_mem (xs := (nth f.blocks i).en.to) (i := 1) (by omega) (by omega))
  exact ⟨hl, r0.1, r0.2, r1.1, r1.2⟩
def betweenD (f : FuncD) (gr : GraphD) (a x j : Int) : Bool :=
  if x < 0 ∨ x ≥ f.blocks.length then false else eqL (nth gr.pred x) [a] && (((nth f.blocks x).phis.length : Int) == 0 && ((nth f.blocks x).en.kind == 1 && nth (nth f.blocks x).en.to 0 == j))
def sideD (f : FuncD) (gr : GraphD) (a to x j : Int) : Bool := if x = -1 then to == j else x == to && betweenD f gr a x j
def outH (f : FuncD) (h : HamD) : Prop := h.at_ < 0 ∨ h.at_ ≥ f.blocks.length ∨ h.join < 0 ∨ h.join ≥ f.blocks.length ∨ h.join = h.at_ ∨ (h.thn = -1 ∧ h.els = -1)
instance (f : FuncD) (h : HamD) : Decidable (outH f h) := by unfold outH; infer_instance
def isD (f : FuncD) (gr : GraphD) (h : HamD) : Bool :=
  if outH f h then false else (nth f.blocks h.at_).en.kind == 2 && (nth (nth f.blocks h.at_).en.to 0 != nth (nth f.blocks h.at_).en.to 1 &&
    (sideD f gr h.at_ (nth (nth f.blocks h.at_).en.to 0) h.thn h.join && sideD f gr h.at_ (nth (nth f.blocks h.at_).en.to 1) h.els h.join))
def onD (f : FuncD) (x : Int) : Int := if 0 < (nth f.blocks x).en.to.length then nth (nth f.blocks x).en.to 0 else -1
abbrev to0 (f : FuncD) (a : Int) : Int := nth (nth f.blocks a).en.to 0
abbrev to1 (f : FuncD) (a : Int) : Int := nth (nth f.blocks a).en.to 1
def way0 (f : FuncD) (a : Int) : HamD := ⟨a, to0 f a, to1 f a, onD f (to0 f a)⟩
def way1 (f : FuncD) (a : Int) : HamD := ⟨a, to0 f a, -1, to1 f a⟩
def way2 (f : FuncD) (a : Int) : HamD := ⟨a, -1, to1 f a, to0 f a⟩
def findD (f : FuncD) (gr : GraphD) (a : Int) : HamD × Bool :=
  if (nth f.blocks a).en.kind = 2 then
    if isD f gr (way0 f a) = true then (way0 f a, true) else if isD f gr (way1 f a) = true then (way1 f a, true) else if isD f gr (way2 f a) = true then (way2 f a, true) else (noneH, false)
  else (noneH, false)
open Classical in
noncomputable def okF (f : FuncD) : Bool := decide (CodeIs f 2 0)
theorem okF_of {f : FuncD} {e : Int} (h : CodeIs f 2 e) : (e == 0) = okF f := by
  unfold okF
  by_cases e0 : e = 0
  · subst e0; simp [h]
  · have : ¬ CodeIs f 2 0 := fun h' => e0 (h.same h')
    simp [e0, this]
theorem okF_yes {f : FuncD} (h : okF f = true) : CodeIs f 2 0 := by
  unfold okF at h; simpa using h
theorem ok_check {f : FuncD} {e : Int} (h : CheckIs f 2 e) : (e == 0) = okF f := okF_of (check_at h (by decide) (by decide))
def HasT (f : FuncD) : Prop := ∃ tl, TreeGood f tl
theorem hasT_of {f : FuncD} {e : Int} (h : CodeIs f 2 e) : HasT f := ⟨_, h.choose_spec.1⟩
theorem okF_gg {f : FuncD} (h : okF f = true) : GG f (ofD f).1 ∧ Bnd f ∧ ∃ tl, Right f 2 tl := by
  obtain ⟨tl, hR⟩ := code_right (okF_yes h)
  exact ⟨GG.of hR.of_, bnd_of hR.may, tl, hR⟩
noncomputable def isH (f : FuncD) (h : HamD) : Bool := okF f && isD f (ofD f).1 h
noncomputable def findH (f : FuncD) (a : Int) : HamD × Bool := if okF f = true ∧ 0 ≤ a ∧ a < f.blocks.length then findD f (ofD f).1 a else (noneH, false)
def opsD (f : FuncD) (h : HamD) : List OpD := (if h.thn = -1 then [] else (nth f.blocks h.thn).ops) ++ (if h.els = -1 then [] else (nth f.blocks h.els).ops)
noncomputable def costH (f : FuncD) (h : HamD) : Int := if isH f h = true then (opsD f h).length else 0
def dearO (o : OpD) : Bool := decide (o.lanes > 1) || decide (o.kind > 20)
noncomputable def mergesH (f : FuncD) (h : HamD) : Bool := isH f h && !(opsD f h).any dearO
def allTo (f : FuncD) (gr : GraphD) : Nat → List HamD
  | 0 => []
  | i + 1 => allTo f gr i ++ (if (findD f gr (i : Int)).2 = true then [(findD f gr (i : Int)).1] else [])
noncomputable def allH (f : FuncD) : List HamD := if okF f = true then allTo f (ofD f).1 f.blocks.length else []
theorem allTo_yes {f : FuncD} {gr : GraphD} {i : Int} (h0 : 0 ≤ i) (h : (findD f gr i).2 = true) : allTo f gr (i + 1).toNat = allTo f gr i.toNat ++ [(findD f gr i).1] := by
  rw [toNat_succ h0]
  show allTo f gr i.toNat ++ (if (findD f gr (i.toNat : Int)).2 = true then _ else _) = _
  rw [show ((i.toNat : Nat) : Int) = i from by omega, if_pos h]
theorem allTo_no {f : FuncD} {gr : GraphD} {i : Int} (h0 : 0 ≤ i) (h : (findD f gr i).2 = false) : allTo f gr (i + 1).toNat = allTo f gr i.toNat := by
  rw [toNat_succ h0]
  show allTo f gr i.toNat ++ (if (findD f gr (i.toNat : Int)).2 = true then _ else _) = _
  rw [show ((i.toNat : Nat) : Int) = i from by omega, if_neg (by rw [h]; simp), List.append_nil]
theorem allTo_len (f : FuncD) (gr : GraphD) : ∀ i : Nat, (allTo f gr i).length ≤ i
  | 0 => Nat.le_refl 0
  | i + 1 => by
    have := allTo_len f gr i
    show (allTo f gr i ++ _).length ≤ _
    rw [List.length_append]
    split <;> simp <;> omega
section
variable {f : FuncD} {gr : GraphD} {h : HamD}
theorem is_in (hi : isD f gr h = true) : ¬ outH f h ∧ (nth f.blocks h.at_).en.kind = 2 ∧ to0 f h.at_ ≠ to1 f h.at_ ∧ sideD f gr h.at_ (to0 f h.at_) h.thn h.join = true ∧ sideD f gr h.at_ (to1 f h.at_) h.els h.join = true := by
  unfold isD at hi
  split at hi
  · cases hi
  · rename_i ho
    simp only [Bool.and_eq_true, beq_iff_eq, bne_iff_ne] at hi
    exact ⟨ho, hi.1, hi.2.1, hi.2.2.1, hi.2.2.2⟩
theorem side_or {a to x j : Int} (hs : sideD f gr a to x j = true) : (x = -1 ∧ to = j) ∨ (x = to ∧ 0 ≤ x ∧ x < f.blocks.length ∧ nth gr.pred x = [a] ∧ (nth f.blocks x).phis = [] ∧ (nth f.blocks x).en.kind = 1 ∧ nth (nth f.blocks x).en.to 0 = j) := by
  unfold sideD at hs
  split at hs
  · rename_i e; exact .inl ⟨e, by simpa using hs⟩
  · simp only [Bool.and_eq_true, beq_iff_eq] at hs
    obtain ⟨e, hb⟩ := hs
    unfold betweenD at hb
    split at hb
    · cases hb
    · simp only [Bool.and_eq_true, beq_iff_eq] at hb
      exact .inr ⟨e, by omega, by omega, eqL_eq.1 hb.1, List.eq_nil_of_length_eq_zero (by omega), hb.2.2.1, hb.2.2.2⟩
def hamS (f : FuncD) (a s j : Int) : HamD := ⟨a, if s = 2 then -1 else to0 f a, if s = 1 then -1 else to1 f a, j⟩
def NoS (f : FuncD) (gr : GraphD) (a s : Int) : Prop := ∀ j : Int, 0 ≤ j → j < f.blocks.length → isD f gr (hamS f a s j) = false
theorem find_is {a : Int} (h : (findD f gr a).2 = true) : isD f gr (findD f gr a).1 = true ∧ (findD f gr a).1.at_ = a := by
  unfold findD at h ⊢
  split at h
  · rename_i hk
    rw [if_pos hk]
    split at h
    · rename_i h1; rw [if_pos h1]; exact ⟨h1, rfl⟩
    · rename_i h1
      rw [if_neg h1]
      split at h
      · rename_i h2; rw [if_pos h2]; exact ⟨h2, rfl⟩
      · rename_i h2
        rw [if_neg h2]
        split at h
        · rename_i h3; rw [if_pos h3]; exact ⟨h3, rfl⟩
        · cases h
  · cases h
theorem is_thn (hi : isD f gr h = true) : h.thn = -1 ∨ (0 ≤ h.thn ∧ h.thn < f.blocks.length ∧ nth gr.pred h.thn = [h.at_] ∧ h.thn = to0 f h.at_) := by
  rcases side_or (is_in hi).2.2.2.1 with ⟨e, _⟩ | ⟨e, x0, x1, p, _⟩
  · exact .inl e
  · exact .inr ⟨x0, x1, p, e⟩
theorem is_els (hi : isD f gr h = true) : h.els = -1 ∨ (0 ≤ h.els ∧ h.els < f.blocks.length ∧ nth gr.pred h.els = [h.at_] ∧ h.els = to1 f h.at_) := by
  rcases side_or (is_in hi).2.2.2.2 with ⟨e, _⟩ | ⟨e, x0, x1, p, _⟩
  · exact .inl e
  · exact .inr ⟨x0, x1, p, e⟩
theorem is_IH (hn : f.blocks.length ≤ 64) (hi : isD f gr h = true) : IH h := by
  have ho := (is_in hi).1
  unfold outH at ho
  have h1 := is_thn hi
  have h2 := is_els hi
  refine ⟨⟨?_, ?_⟩, ⟨?_, ?_⟩, ⟨?_, ?_⟩, ?_, ?_⟩ <;> omega
theorem apart {a b : HamD} (ha : isH f a = true) (hb : isH f b = true) (hne : b.at_ ≠ a.at_) : ((decide (a.thn ≥ 0) && (a.thn == b.thn || a.thn == b.els)) || (decide (a.els ≥ 0) && (a.els == b.thn || a.els == b.els))) = false := by
  unfold isH at ha hb
  simp only [Bool.and_eq_true] at ha hb
  have t1 := is_thn ha.2
  have t2 := is_els ha.2
  have t3 := is_thn hb.2
  have t4 := is_els hb.2
  have key : ∀ x y : Int, x ≥ 0 → (x = -1 ∨ (0 ≤ x ∧ x < f.blocks.length ∧ nth (ofD f).1.pred x = [a.at_])) → (y = -1 ∨ (0 ≤ y ∧ y < f.blocks.length ∧ nth (ofD f).1.pred y = [b.at_])) → (x == y) = false := by
    intro x y x0 hx hy
    rw [beq_eq_false_iff_ne]
    rintro rfl
    rcases hx with hx | hx
    · omega
    · rcases hy with hy | hy
      · omega
      · have e := hx.2.2.symm.trans hy.2.2
        simp at e
        exact hne e.symm
  have w1 : a.thn = -1 ∨ (0 ≤ a.thn ∧ a.thn < f.blocks.length ∧ nth (ofD f).1.pred a.thn = [a.at_]) := t1.imp id fun h => ⟨h.1, h.2.1, h.2.2.1⟩
  have w2 : a.els = -1 ∨ (0 ≤ a.els ∧ a.els < f.blocks.length ∧ nth (ofD f).1.pred a.els = [a.at_]) := t2.imp id fun h => ⟨h.1, h.2.1, h.2.2.1⟩
  have w3 : b.thn = -1 ∨ (0 ≤ b.thn ∧ b.thn < f.blocks.length ∧ nth (ofD f).1.pred b.thn = [b.at_]) := t3.imp id fun h => ⟨h.1, h.2.1, h.2.2.1⟩
  have w4 : b.els = -1 ∨ (0 ≤ b.els ∧ b.els < f.blocks.length ∧ nth (ofD f).1.pred b.els = [b.at_]) := t4.imp id fun h => ⟨h.1, h.2.1, h.2.2.1⟩
  by_cases c1 : a.thn ≥ 0 <;> by_cases c2 : a.els ≥ 0 <;> simp only [c1, c2, decide_true, decide_false, Bool.true_and, Bool.false_and, Bool.or_false, Bool.false_or]
  · rw [key _ _ c1 w1 w3, key _ _ c1 w1 w4, key _ _ c2 w2 w3, key _ _ c2 w2 w4]; rfl
  · rw [key _ _ c1 w1 w3, key _ _ c1 w1 w4]; rfl
  · rw [key _ _ c2 w2 w3, key _ _ c2 w2 w4]; rfl
theorem cost_len {h : HamD} (hi : isH f h = true) : costH f h = (opsD f h).length := by unfold costH; rw [if_pos hi]
theorem is_gg {h : HamD} (hi : isH f h = true) : okF f = true ∧ isD f (ofD f).1 h = true := by
  unfold isH at hi; simpa using hi
def sideLen (f : FuncD) (x : Int) : Int := if x ≥ 0 then (nth f.blocks x).ops.length else 0
theorem cost_two {h : HamD} (hi : isH f h = true) : costH f h = sideLen f h.thn + sideLen f h.els := by
  have hd := (is_gg hi).2
  rw [cost_len hi]
  unfold opsD sideLen
  rw [List.length_append]
  rcases is_thn hd with e | ⟨e0, _⟩ <;> rcases is_els hd with e2 | ⟨e20, _⟩
  · rw [if_pos e, if_pos e2, if_neg (by omega), if_neg (by omega)]; rfl
  · rw [if_pos e, if_neg (by omega : ¬ h.els = -1), if_neg (by omega : ¬ h.thn ≥ 0), if_pos (by omega)]; simp
  · rw [if_neg (by omega : ¬ h.thn = -1), if_pos e2, if_pos (by omega : h.thn ≥ 0), if_neg (by omega)]; simp
  · rw [if_neg (by omega : ¬ h.thn = -1), if_neg (by omega : ¬ h.els = -1), if_pos (by omega : h.thn ≥ 0), if_pos (by omega)]; simp
theorem cost_none {h : HamD} (hi : isH f h = false) : costH f h = 0 := by unfold costH; rw [if_neg (by rw [hi]; simp)]
theorem plain_merges {h : HamD} {tl : List Int} (hR : Right f 1 tl) : mergesH f h = isH f h := by
  unfold mergesH
  cases hi : isH f h with
  | false => rfl
  | true =>
    have hd := (is_gg hi).2
    have ht := hR.typ
    rw [typed_all] at ht
    simp only [Bool.and_eq_true] at ht
    have key : ∀ x : Int, (x = -1 ∨ (0 ≤ x ∧ x < f.blocks.length)) → ((if x = -1 then [] else (nth f.blocks x).ops) : List OpD).any dearO = false := by
      intro x hx
      split
      · rfl
      · rw [List.any_eq_false]
        intro o ho
        have h2 := List.all_eq_true.1 ht.2.2 _ (nth_mem (xs := f.blocks) (i := x) (by omega) (by omega))
        unfold typA at h2
        simp only [Bool.and_eq_true] at h2
        have h3 := List.all_eq_true.1 h2.2 o ho
        unfold ofOpD at h3
        split at h3
        · cases h3
        · rename_i h4
          unfold dearO
          simp; omega
    unfold opsD
    rw [List.any_append, key h.thn ((is_thn hd).imp id fun h => ⟨h.1, h.2.1⟩), key h.els ((is_els hd).imp id fun h => ⟨h.1, h.2.1⟩)]; rfl
theorem isH_no {h : HamD} (hok : okF f = true) (hq : isH f h = false) : isD f (ofD f).1 h = false := by unfold isH at hq; rw [hok] at hq; simpa using hq
def NoTo (f : FuncD) (gr : GraphD) (a s j : Int) : Prop := ∀ y : Int, 0 ≤ y → y < j → isD f gr (hamS f a s y) = false
theorem NoTo.step {a s j : Int} {h' : HamD} (h : NoTo f (ofD f).1 a s j) (hok : okF f = true) (e : hamS f a s j = h') (hq : isH f h' = false) : NoTo f (ofD f).1 a s (j + 1) := fun y y0 y1 => by
  by_cases ey : y = j
  · subst ey; rw [e]; exact isH_no hok hq
  · exact h y y0 (by omega)
def NoUp (f : FuncD) (gr : GraphD) (a s : Int) : Prop := ∀ t : Int, 0 ≤ t → t < s → NoS f gr a t
theorem NoUp.step {a s j : Int} (h : NoUp f gr a s) (hj : NoTo f gr a s j) (hn : ¬ j < f.blocks.length) : NoUp f gr a (s + 1) := fun t t0 t1 => by
  by_cases et : t = s
  · subst et; exact fun y y0 y1 => hj y y0 (by omega)
  · exact h t t0 (by omega)
end
end Go.Proofs.YtakameggkkjcpaaGreat
namespace Go.Proofs.YtakameggkkjcpaaGreat
open Go Go.RowKit Go.ChangeShapes Go.WideShapes
variable {W : World}
theorem dHam : Dec Tryz.prog W 27 HamD := fun HH enc fuel cs x h hw => by
  obtain ⟨hl, hf⟩ := dec_fields Tryz.underlying27 h hw
  have hl' : cs.length = 4 := hl.trans (by kernel_rfl)
  obtain ⟨f0, y0, t0, w0⟩ := hf 0 _ rfl
  obtain ⟨n0, e0, -, k0⟩ := DataW.trod_int Tryz.underlying3 t0
  have c0 := one_of e0
  obtain ⟨f1, y1, t1, w1⟩ := hf 1 _ rfl
  obtain ⟨n1, e1, -, k1⟩ := DataW.trod_int Tryz.underlying3 t1
  have c1 := one_of e1
  obtain ⟨f2, y2, t2, w2⟩ := hf 2 _ rfl
  obtain ⟨n2, e2, -, k2⟩ := DataW.trod_int Tryz.underlying3 t2
  have c2 := one_of e2
  obtain ⟨f3, y3, t3, w3⟩ := hf 3 _ rfl
  obtain ⟨n3, e3, -, k3⟩ := DataW.trod_int Tryz.underlying3 t3
  have c3 := one_of e3
  exact ⟨⟨n0, n1, n2, n3⟩, list4 hl' c0 c1 c2 c3, wf64 k0, wf64 k1, wf64 k2, wf64 k3⟩
theorem weights_two {HH : Type} {P : Program} {s t : Nat} {ts : List Nat} {c d : DataW HH} {ds : List (DataW HH)} (h : (DataW.weightsEach P (s :: t :: ts) (c :: d :: ds)).all (fun x => decide (x ≤ reachBytes)) = true) : ∀ n ∈ DataW.weights P t d, n ≤ reachBytes := fun n hn => by
  have := List.all_eq_true.1 h n (by rw [DataW.weightsEach]; exact List.mem_append_right _ (by rw [DataW.weightsEach]; exact List.mem_append_left _ hn))
  simpa using this
end Go.Proofs.YtakameggkkjcpaaGreat
namespace Go.Proofs.YtakameggkkjcpaaGreat
open Go Go.RowKit
section
variable {P : Program} {T : List TRow} {fn : Func} {w0 : World} {H0 : Hp} {X : List Nat} {F : Fk} {H : Hp} {L : List Chunk} {ty : TypeId} {pos : String} {af : Array Edge} {g : Option (Nat × Bool)} {dst : Option Nat}
def quadB (a b c d a' b' c' d' : Int) : Bool := (a == a') && ((b == b') && ((c == c') && (d == d')))
def isQuad (P : Program) (t e : Nat) : Bool := (P.fieldsOf t).toList.map (fun f => (f.name == "_", f.type, f.offset)) == [(false, e, 0), (false, e, 1), (false, e, 2), (false, e, 3)]
theorem run_equal_quad (hT : TabOK P T) {t e : Nat} {q : TRow} (ht : P.underlying t = some (.struct (P.fieldsOf t))) (hp : P.stoodInHeld t = false) (hf : isQuad P t e = true) (hq : trow T e = some q) (hqk : q.kind = .int .i64) (hqs : q.size = 1) (a b c d a' b' c' d' : Int) (w : World) :
    (Op.equalIn 10000 t (.agg #[.int .i64 a, .int .i64 b, .int .i64 c, .int .i64 d]) (.agg #[.int .i64 a', .int .i64 b', .int .i64 c', .int .i64 d'])).run P w = .ok (quadB a b c d a' b' c' d') w := by
  have hi := (hT.row hq).int hqk
  have hpt : ∀ (xs : List Value) (off : Nat) (x : Int) w, partOf q xs off = some (.int .i64 x) → (part e xs.toArray off).run P w = .ok (.int .i64 x) w := fun xs off x w h => (hT.row hq).part h w
  have heq : ∀ (x y : Int) w, (Op.equalIn 9999 e (.int .i64 x) (.int .i64 y)).run P w = .ok (x == y) w := fun x y w => run_equalIn_int w 9998 e .i64 .i64 x y hi
  rw [run_equalIn_struct w 9999 t _ _ ht hp]
  have hf' := eq_of_beq hf
  generalize (P.fieldsOf t).toList = fs at hf'
  rcases fs with _ | ⟨f0, _ | ⟨f1, _ | ⟨f2, _ | ⟨f3, _ | ⟨f4, fs⟩⟩⟩⟩⟩ <;> try (simp at hf'; done)
  · simp only [List.map_cons, List.map_nil, List.cons.injEq, Prod.mk.injEq, and_true, beq_eq_false_iff_ne, ne_eq] at hf'
    obtain ⟨⟨n0, t0, o0⟩, ⟨n1, t1, o1⟩, ⟨n2, t2, o2⟩, n3, t3, o3⟩ := hf'
    have po : ∀ (x y z u : Int) (w : World), (part e #[.int .i64 x, .int .i64 y, .int .i64 z, .int .i64 u] 0).run P w = .ok (.int .i64 x) w ∧ (part e #[.int .i64 x, .int .i64 y, .int .i64 z, .int .i64 u] 1).run P w = .ok (.int .i64 y) w ∧ (part e #[.int .i64 x, .int .i64 y, .int .i64 z, .int .i64 u] 2).run P w = .ok (.int .i64 z) w ∧ (part e #[.int .i64 x, .int .i64 y, .int .i64 z, .int .i64 u] 3).run P w = .ok (.int .i64 u) w := fun x y z u w =>
      ⟨hpt [.int .i64 x, .int .i64 y, .int .i64 z, .int .i64 u] 0 x w (by simp [partOf, hqs, hqk, TK.agg, mkv]; rfl), hpt [.int .i64 x, .int .i64 y, .int .i64 z, .int .i64 u] 1 y w (by simp [partOf, hqs, hqk, TK.agg, mkv]; rfl), hpt [.int .i64 x, .int .i64 y, .int .i64 z, .int .i64 u] 2 z w (by simp [partOf, hqs, hqk, TK.agg, mkv]; rfl), hpt [.int .i64 x, .int .i64 y, .int .i64 z, .int .i64 u] 3 u w (by simp [partOf, hqs, hqk, TK.agg, mkv]; rfl)⟩
    have p1 := po a b c d
    have p2 := po a' b' c' d'
    have step : ∀ (f : Field) (fs : List Field) (xs ys : Array Value) (x y : Int) (w : World), ¬ f.name = "_" → f.type = e → (∀ w, (part e xs f.offset).run P w = .ok (.int .i64 x) w) → (∀ w, (part e ys f.offset).run P w = .ok (.int .i64 y) w) → (Op.eqFields 9999 xs ys (f :: fs)).run P w = bif x == y then (Op.eqFields 9999 xs ys fs).run P w else .ok false w := by
      intro f fs xs ys x y w hn ht hx hy
      simp only [Op.eqFields, hn, not_false_eq_true, ne_eq, if_true, ht, Sem.run_bind, hx, hy, Result.andThen_ok, heq]
      cases x == y <;> simp
    rw [step f0 _ _ _ a a' w n0 t0 (fun w => by rw [o0]; exact (p1 w).1) (fun w => by rw [o0]; exact (p2 w).1), step f1 _ _ _ b b' w n1 t1 (fun w => by rw [o1]; exact (p1 w).2.1) (fun w => by rw [o1]; exact (p2 w).2.1),
      step f2 _ _ _ c c' w n2 t2 (fun w => by rw [o2]; exact (p1 w).2.2.1) (fun w => by rw [o2]; exact (p2 w).2.2.1), step f3 _ _ _ d d' w n3 t3 (fun w => by rw [o3]; exact (p1 w).2.2.2) (fun w => by rw [o3]; exact (p2 w).2.2.2)]
    unfold quadB
    cases a == a' <;> cases b == b' <;> cases c == c' <;> cases d == d' <;> simp [Op.eqFields]
theorem RunY.eqQuad (hT : TabOK P T) {t ty' e : Nat} {x y : Operand} {q : TRow} {a b c d a' b' c' d' : Int} (hx : evk F x = some (.agg #[.int .i64 a, .int .i64 b, .int .i64 c, .int .i64 d])) (hy : evk F y = some (.agg #[.int .i64 a', .int .i64 b', .int .i64 c', .int .i64 d']))
    (hq : trow T e = some q) (hqk : q.kind = .int .i64) (hqs : q.size = 1) (ht : P.underlying t = some (.struct (P.fieldsOf t))) (hp : P.stoodInHeld t = false) (hf : isQuad P t e = true) (hg : P.eqGuardType P.depth t = false) : RunY P fn w0 H0 X F H L ⟨dst, .binOp .eql t x y ty', ty, pos, af, g⟩ (.bool (quadB a b c d a' b' c' d')) := fun act w ha _ => by
  have h1 := run_eqGuard_agg (P := P) (w := w) .eql t x y #[.int .i64 a, .int .i64 b, .int .i64 c, .int .i64 d] #[.int .i64 a', .int .i64 b', .int .i64 c', .int .i64 d'] hg
  simp [execOp, ha.eval hx, ha.eval hy, h1, run_eql_struct, run_equal_quad (P := P) hT ht hp hf hq hqk hqs]
end
theorem HCells.app {H : Hp} {b o : Nat} {cs ds : List Value} (h : HCells H b o cs) (h2 : HCells H b (o + cs.length) ds) : HCells H b o (cs ++ ds) := fun j u hu => by
  rw [List.getElem?_append] at hu
  split at hu
  · exact h j u hu
  · rename_i hj
    have := h2 (j - cs.length) u hu
    rwa [show o + cs.length + (j - cs.length) = o + j from by omega] at this
theorem cells_of {α : Type} [Rdc α] {H : Hp} {b : Nat} : ∀ (xs : List α) (o : Nat), (∀ (i : Nat) x, xs[i]? = some x → ∃ cs, Rdc.rd H cs x ∧ HCells H b (o + i * Rdc.sz α) cs) → ∃ cs, RdL H cs xs ∧ HCells H b o cs
  | [], o, _ => ⟨[], rfl, HCells.nil _ _ _⟩
  | x :: l, o, h => by
    obtain ⟨c0, r0, k0⟩ := h 0 x rfl
    obtain ⟨cs, r1, k1⟩ := cells_of l (o + Rdc.sz α) fun i y hy => by
      have := h (i + 1) y (by simpa using hy)
      rwa [show o + (i + 1) * Rdc.sz α = o + Rdc.sz α + i * Rdc.sz α from by rw [Nat.add_mul, Nat.one_mul]; omega] at this
    rw [Nat.zero_mul, Nat.add_zero] at k0
    exact ⟨c0 ++ cs, ⟨c0, cs, rfl, r0, r1⟩, k0.app (by rw [Rdc.len r0]; exact k1)⟩
theorem RdS.cells {α : Type} [Rdc α] {H : Hp} {A : Option Addr} {xs : List α} (h : RdS H A xs) : ∃ cs, RdL H cs xs ∧ ((xs = [] ∧ cs = []) ∨ ∃ b o, A = some ⟨b, o, none⟩ ∧ HCells H b o cs) := by
  rcases h.2 with rfl | ⟨b, o, e, k⟩
  · exact ⟨[], rfl, .inl ⟨rfl, rfl⟩⟩
  · obtain ⟨cs, h1, h2⟩ := cells_of xs o k
    exact ⟨cs, h1, .inr ⟨b, o, e, h2⟩⟩
section
variable {P : Program} {T : List TRow} {fn : Func} {w0 : World} {H0 : Hp} {X : List Nat} {k : List Item} {F : Fk} {H : Hp} {L : List Chunk} {R : Ending → World → Prop} {ops : Array Oper}
theorem WpG.appendR {α : Type} [Rdc α] (hT : TabOK P T) {i : Nat} {rest : List Nat} {d t e ci : Nat} {x y : Operand} {ty : TypeId} {pos : String} {af : Array Edge} {g : Option (Nat × Bool)} {A B : Option Addr} {n c c2 : Nat} {xs : List Value} {ys : List α} {r q : TRow} {H1 : Hp}
    (ho : ops[i]? = some ⟨some d, .call ⟨.builtin .append, #[x, y], #[t, t]⟩, ty, pos, af, g⟩) (hw : wantk ops F g = some true) (hn : Nat.blt d fn.ntmps = true) (hx : evk F x = some (.slice A n c)) (hy : evk F y = some (.slice B ys.length c2))
    (hr : trow T t = some r) (hk : r.kind = .slice e) (hq : trow T e = some q) (hbz : (Nat.ble q.bytes 65536 && Nat.blt 0 q.size && Nat.beq (cellsL q.zero).length q.size) = true)
    (hL : L[ci]? = some (Chunk.own e q.size A c n xs)) (hsz : Rdc.sz α = q.size) (hR : RdS H1 B ys) (hH : H1.le H) (hlen : n + ys.length ≤ 2147483648)
    (h : ∀ A' c' cs, RdL H cs ys → WpG P fn w0 H0 X (.inRegion ops rest :: k) ((d, .slice A' (n + ys.length) c') :: F) H (L.set ci (Chunk.own e q.size A' c' (n + ys.length) (xs ++ cs))) R) : WpG P fn w0 H0 X (.inRegion ops (i :: rest) :: k) F H L R := by
  obtain ⟨cs, h1, h2⟩ := (hR.mono hH).cells
  refine WpG.append hT ho hw hn hx hy hr hk hq hbz hL (hsz ▸ h1.len) h1.one ?_ hlen fun A' c' => h A' c' cs h1
  rcases h2 with ⟨rfl, rfl⟩ | ⟨b, o, rfl, hc⟩
  · exact .inl ⟨rfl, rfl⟩
  · exact Src.hp hc (Hp.le.refl _)
end
theorem rows_retG {α : Type} [Rdc α] {H : Hp} {A : Option Addr} {n c : Nat} {l l' : List α} (e : l = l') (hn : n = l.length) (hc : n ≤ c) (r : RdS H A l) : ∃ A' c', Value.slice A n c = .slice A' l'.length c' ∧ l'.length ≤ c' ∧ RdS H A' l' ∧ ([] : List Chunk) = [] := by
  subst e; subst hn; exact ⟨A, c, rfl, hc, r, rfl⟩
end Go.Proofs.YtakameggkkjcpaaGreat
set_option maxRecDepth 4000
namespace Go.Proofs.YtakameggkkjcpaaGreat
open Go Go.RowKit
theorem hBetween_calls {H : Hp} {f : FuncD} {cs_f : List Value} (rd_f : Rdc.rd H cs_f f) {gr : GraphD} {cs_gr : List Value} (rd_gr : Rdc.rd H cs_gr gr) (hg : GG f gr) (a x j : Int) (ha : I64 a) : CallG Tryz.prog 96 [.agg cs_f.toArray, .agg cs_gr.toArray, .int .i64 a, .int .i64 x, .int .i64 j] H [] (fun v _ L' => v = .bool (betweenD f gr a x j) ∧ L' = []) := by
 have rd_f' := rd_f; obtain ⟨A_f_0, c_f_0, A_f_2, c_f_2, rfl, u_f_0, r_f_0, u_f_2, r_f_2, k_f_0⟩ := rd_f
 have rd_gr' := rd_gr; obtain ⟨A_gr_0, c_gr_0, A_gr_1, c_gr_1, rfl, u_gr_0, r_gr_0, u_gr_1, r_gr_1⟩ := rd_gr
 have bf := r_f_2.1; have hgp := hg.pl
 refine CallG.of Tryz.func96 rfl rfl rfl fun w0 => ?_
 refine WpG.g tabOK 2 rfl ?_
 refine WpG.box rfl rfl rfl rfl rfl (fun b1 => ?_)
 refine WpG.freezeBox (ci := 0) rfl (fun H2 hH2 hc2 => ?_)
 refine WpG.box rfl rfl rfl rfl rfl (fun b3 => ?_)
 refine WpG.freezeBox (ci := 0) rfl (fun H4 hH4 hc4 => ?_)
 refine WpG.g tabOK 4 rfl ?_
 apply WpG.join (G := [(2, .int .i64 a), (3, .int .i64 x), (4, .int .i64 j), (5, .pointer (some ⟨b1, 0, none⟩)), (6, .pointer (some ⟨b3, 0, none⟩)), (20, .bool ((decide (x < 0)) || (decide (x ≥ (f.blocks.length : Int)))))])
 ·intro nx5
  refine WpG.g tabOK 1 rfl ?_
  refine WpG.g tabOK 3 rfl ?_
  refine WpG.caseD (t := 14) rfl (fun q14 => ?_) (fun q14 => ?_)
  ·refine WpG.g tabOK 7 rfl ?_
   exact nx5.weak ⟨rfl, rfl, rfl, rfl, rfl, bq (by simp [q14]), trivial⟩
  refine WpG.g tabOK 2 rfl ?_
  refine WpG.y rfl rfl rfl rfl (RunY.loadH tabOK (hc2.sub 2 1) hH4 rfl rfl rfl rfl) ?_
  refine WpG.g tabOK 4 rfl ?_
  exact nx5.weak ⟨rfl, rfl, rfl, rfl, rfl, bq (by simp [q14]), trivial⟩
 refine WpG.caseB (t := 20) rfl (fun q20 => ?_) (fun q20 => ?_)
 ·have hx : x < 0 ∨ x ≥ f.blocks.length := by simpa using q20
  refine WpG.g tabOK 5 rfl ?_
  exact WpG.ret tabOK (L' := []) (.tmp rfl .nil) .slnil ⟨congrArg Value.bool (by unfold betweenD; rw [if_pos hx]), rfl⟩
 have hx : ¬ (x < 0 ∨ x ≥ f.blocks.length) := by simpa using q20
 refine WpG.g tabOK 5 rfl ?_
 refine WpG.y rfl rfl rfl rfl (RunY.loadH tabOK (hc2.sub 2 1) hH4 rfl rfl rfl rfl) ?_
 refine WpG.g tabOK 1 rfl ?_
 refine WpG.indexR tabOK rfl rfl rfl rfl rfl rfl rfl rfl rfl r_f_2 (by omega) (by omega) ?_
 rintro x6 hx6 b6 o6 cs6 rd6 hc6
 have rd6' := rd6; obtain ⟨A6_0, c6_0, A6_1, c6_1, A6_4, c6_4, rfl, u6_0, r6_0, u6_1, r6_1, u6_4, r6_4, k6_0, k6_1⟩ := rd6
 have bz6_0 := r6_0.1
 have bz6_1 := r6_1.1
 have bz6_4 := r6_4.1
 obtain rfl : x6 = (nth f.blocks x) := hx6
 refine WpG.y rfl rfl rfl rfl (RunY.loadH tabOK hc6 (hH2.trans hH4) rfl rfl rfl rfl) ?_
 refine WpG.alloc tabOK rfl rfl rfl rfl rfl (fun b7 => ?_)
 refine WpG.storeBox (ci := 0) (cs' := [.slice A6_0 ((nth f.blocks x).phis.length) c6_0, .slice A6_1 ((nth f.blocks x).ops.length) c6_1, .int .i64 ((nth f.blocks x).en.kind), .int .i64 ((nth f.blocks x).en.arg), .slice A6_4 ((nth f.blocks x).en.to.length) c6_4]) tabOK rfl rfl rfl rfl rfl rfl rfl rfl rfl ?_
 refine WpG.freezeBox (ci := 0) rfl (fun H8 hH8 hc8 => ?_)
 refine WpG.g tabOK 4 rfl ?_
 refine WpG.y rfl rfl rfl rfl (RunY.loadH tabOK (hc4.sub 1 1) hH8 rfl rfl rfl rfl) ?_
 refine WpG.g tabOK 1 rfl ?_
 refine WpG.indexR tabOK rfl rfl rfl rfl rfl rfl rfl rfl rfl r_gr_1 (by omega) (by omega) ?_
 rintro x9 hx9 b9 o9 _ ⟨A9, c9, rfl, u9, r9⟩ hc9
 have bz9 := r9.1
 obtain rfl : x9 = (nth gr.pred x) := hx9
 refine WpG.y rfl rfl rfl rfl (RunY.loadH tabOK hc9 ((hH2.trans hH4).trans hH8) rfl rfl rfl rfl) ?_
 refine WpG.g tabOK 1 rfl ?_
 refine WpG.buildSlice (xs := [.int .i64 a]) tabOK rfl rfl rfl rfl rfl rfl rfl rfl rfl rfl (fun b10 => ?_)
 refine WpG.ownCap (ci := 0) rfl (fun uz12 => ?_)
 refine WpG.freezeOwn (ci := 0) rfl (fun H12 hH12 fz12 => ?_)
 have rz12 : RdS H12 (some ⟨b10, 0, none⟩) [a] := RdS.of_own (H := H8) (show RdL H8 [.int .i64 a] [a] from RdL_ints [a] ⟨ha, trivial⟩) (rfl) (by simp) hH12 fz12
 refine WpG.callS rfl rfl rfl rfl rfl rfl hlr (have z := Equal_calls (r9.mono (((hH2.trans hH4).trans hH8).trans hH12)) rz12; z) ?_
 refine WpG.lessH ((hH2.trans hH4).trans hH8) hH12 ?_
 refine WpG.g tabOK 1 rfl ?_
 refine WpG.caseB (t := 34) rfl (fun q34 => ?_) (fun q34 => ?_)
 ·refine WpG.g tabOK 1 rfl ?_
  refine WpG.y rfl rfl rfl rfl (RunY.loadH tabOK (hc8.sub 0 1) hlr rfl rfl rfl rfl) ?_
  refine WpG.g tabOK 4 rfl ?_
  refine WpG.caseE (t := 40) rfl (fun q40 => ?_) (fun q40 => ?_)
  ·refine WpG.g tabOK 2 rfl ?_
   refine WpG.y rfl rfl rfl rfl (RunY.loadH tabOK (hc8.sub 2 1) hlr rfl rfl rfl rfl) ?_
   refine WpG.g tabOK 3 rfl ?_
   refine WpG.caseE (t := 46) rfl (fun q46 => ?_) (fun q46 => ?_)
   ·have hl1 := hg.one (by omega) (by omega) q46
    refine WpG.g tabOK 2 rfl ?_
    refine WpG.y rfl rfl rfl rfl (RunY.loadH tabOK (hc8.sub 4 1) hlr rfl rfl rfl rfl) ?_
    refine WpG.indexR tabOK rfl rfl rfl rfl rfl rfl rfl rfl rfl r6_4 (by omega) (by omega) ?_
    rintro x13 hx13 b13 o13 _ ⟨rfl, k13⟩ hc13
    obtain rfl : x13 = (nth ((nth f.blocks x).en.to) 0) := hx13
    refine WpG.y rfl rfl rfl rfl (RunY.loadH tabOK hc13 ((hH2.trans hH4).trans hH8) rfl rfl rfl rfl) ?_
    refine WpG.g tabOK 5 rfl ?_
    exact WpG.ret tabOK (L' := []) (.tmp rfl .nil) .slnil ⟨congrArg Value.bool (by unfold betweenD; rw [if_neg hx]; simp [q34, q40, q46]), rfl⟩
   refine WpG.g tabOK 10 rfl ?_
   exact WpG.ret tabOK (L' := []) (.tmp rfl .nil) .slnil ⟨congrArg Value.bool (by unfold betweenD; rw [if_neg hx, q34, q40, beq_false_of_ne q46]; rfl), rfl⟩
  refine WpG.g tabOK 16 rfl ?_
  exact WpG.ret tabOK (L' := []) (.tmp rfl .nil) .slnil ⟨congrArg Value.bool (by unfold betweenD; rw [if_neg hx, q34, beq_false_of_ne q40]; rfl), rfl⟩
 refine WpG.g tabOK 22 rfl ?_
 exact WpG.ret tabOK (L' := []) (.tmp rfl .nil) .slnil ⟨congrArg Value.bool (by unfold betweenD; rw [if_neg hx]; simp [q34]), rfl⟩
theorem hSide_calls {H : Hp} {f : FuncD} {cs_f : List Value} (rd_f : Rdc.rd H cs_f f) {gr : GraphD} {cs_gr : List Value} (rd_gr : Rdc.rd H cs_gr gr) (hg : GG f gr) (a to_ x j : Int) (ha : I64 a) : CallG Tryz.prog 63 [.agg cs_f.toArray, .agg cs_gr.toArray, .int .i64 a, .int .i64 to_, .int .i64 x, .int .i64 j] H [] (fun v _ L' => v = .bool (sideD f gr a to_ x j) ∧ L' = []) := by
 have rd_f' := rd_f; obtain ⟨A_f_0, c_f_0, A_f_2, c_f_2, rfl, u_f_0, r_f_0, u_f_2, r_f_2, k_f_0⟩ := rd_f
 have rd_gr' := rd_gr; obtain ⟨A_gr_0, c_gr_0, A_gr_1, c_gr_1, rfl, u_gr_0, r_gr_0, u_gr_1, r_gr_1⟩ := rd_gr
 have bf := r_f_2.1; have hgp := hg.pl
 refine CallG.of Tryz.func63 rfl rfl rfl fun w0 => ?_
 refine WpG.g tabOK 2 rfl ?_
 refine WpG.box rfl rfl rfl rfl rfl (fun b1 => ?_)
 refine WpG.freezeBox (ci := 0) rfl (fun H2 hH2 hc2 => ?_)
 refine WpG.box rfl rfl rfl rfl rfl (fun b3 => ?_)
 refine WpG.freezeBox (ci := 0) rfl (fun H4 hH4 hc4 => ?_)
 refine WpG.g tabOK 8 rfl ?_
 refine WpG.caseE (t := 14) rfl (fun q14 => ?_) (fun q14 => ?_)
 ·refine WpG.g tabOK 8 rfl ?_
  exact WpG.ret tabOK (L' := []) (.tmp rfl .nil) .slnil ⟨congrArg Value.bool (by unfold sideD; rw [if_pos q14]), rfl⟩
 refine WpG.g tabOK 3 rfl ?_
 apply WpG.join (G := [(12, .bool ((x == to_) && (betweenD f gr a x j)))])
 ·intro nx5
  refine WpG.g tabOK 1 rfl ?_
  refine WpG.g tabOK 4 rfl ?_
  refine WpG.caseE (t := 21) rfl (fun q21 => ?_) (fun q21 => ?_)
  ·refine WpG.y rfl rfl rfl rfl (RunY.loadH tabOK hc2 hH4 rfl rfl rfl rfl) ?_
   refine WpG.y rfl rfl rfl rfl (RunY.loadH tabOK hc4 hlr rfl rfl rfl rfl) ?_
   refine WpG.g tabOK 3 rfl ?_
   refine WpG.callS rfl rfl rfl rfl rfl rfl hlr (hBetween_calls (Rdc.mono (hH2.trans hH4) rd_f') (Rdc.mono (hH2.trans hH4) rd_gr') hg a x j ha) ?_
   refine WpG.g tabOK 3 rfl ?_
   exact nx5.weak ⟨bq (by simp [q21]), trivial⟩
  refine WpG.g tabOK 9 rfl ?_
  exact nx5.weak ⟨bq (by simp [q21, nb q21]), trivial⟩
 exact WpG.ret tabOK (L' := []) (.tmp rfl .nil) .slnil ⟨congrArg Value.bool (by unfold sideD; rw [if_neg q14]), rfl⟩
theorem hIs_calls {H : Hp} {f : FuncD} {cs_f : List Value} (rd_f : Rdc.rd H cs_f f) {gr : GraphD} {cs_gr : List Value} (rd_gr : Rdc.rd H cs_gr gr) (hg : GG f gr) (h : HamD) (ha : I64 h.at_) : CallG Tryz.prog 29 [.agg cs_f.toArray, .agg cs_gr.toArray, hamV h] H [] (fun v _ L' => v = .bool (isD f gr h) ∧ L' = []) := by
 have rd_f' := rd_f; obtain ⟨A_f_0, c_f_0, A_f_2, c_f_2, rfl, u_f_0, r_f_0, u_f_2, r_f_2, k_f_0⟩ := rd_f
 have rd_gr' := rd_gr; obtain ⟨A_gr_0, c_gr_0, A_gr_1, c_gr_1, rfl, u_gr_0, r_gr_0, u_gr_1, r_gr_1⟩ := rd_gr
 have bf := r_f_2.1; have hgp := hg.pl
 refine CallG.of Tryz.func29 rfl rfl rfl fun w0 => ?_
 refine WpG.g tabOK 2 rfl ?_
 refine WpG.box rfl rfl rfl rfl rfl (fun b1 => ?_)
 refine WpG.freezeBox (ci := 0) rfl (fun H2 hH2 hc2 => ?_)
 refine WpG.box rfl rfl rfl rfl rfl (fun b3 => ?_)
 refine WpG.freezeBox (ci := 0) rfl (fun H4 hH4 hc4 => ?_)
 refine WpG.box rfl rfl rfl rfl rfl (fun b5 => ?_)
 refine WpG.freezeBox (ci := 0) rfl (fun H6 hH6 hc6 => ?_)
 refine WpG.g tabOK 5 rfl ?_
 refine WpG.y rfl rfl rfl rfl (RunY.loadH tabOK (hc2.sub 2 1) (hH4.trans hH6) rfl rfl rfl rfl) ?_
 refine WpG.g tabOK 5 rfl ?_
 apply WpG.join (G := [(3, .pointer (some ⟨b1, 0, none⟩)), (4, .pointer (some ⟨b3, 0, none⟩)), (5, .pointer (some ⟨b5, 0, none⟩)), (48, .bool ((((((decide (h.at_ < 0)) || (decide (h.at_ ≥ (f.blocks.length : Int)))) || (decide (h.join < 0))) || (decide (h.join ≥ (f.blocks.length : Int)))) || (h.join == h.at_)) || ((h.thn == (-1)) && (h.els == (-1)))))])
 ·intro nx7
  refine WpG.g tabOK 1 rfl ?_
  refine WpG.g tabOK 1 rfl ?_
  refine WpG.y rfl rfl rfl rfl (RunY.loadH tabOK (hc6.sub 0 1) hlr rfl rfl rfl rfl) ?_
  refine WpG.g tabOK 2 rfl ?_
  refine WpG.caseD (t := 15) rfl (fun q15 => ?_) (fun q15 => ?_)
  ·refine WpG.g tabOK 34 rfl ?_
   exact nx7.weak ⟨rfl, rfl, rfl, bq (by simp [q15]), trivial⟩
  refine WpG.g tabOK 1 rfl ?_
  refine WpG.y rfl rfl rfl rfl (RunY.loadH tabOK (hc6.sub 0 1) hlr rfl rfl rfl rfl) ?_
  refine WpG.g tabOK 4 rfl ?_
  refine WpG.caseD (t := 21) rfl (fun q21 => ?_) (fun q21 => ?_)
  ·refine WpG.g tabOK 28 rfl ?_
   exact nx7.weak ⟨rfl, rfl, rfl, bq (by simp [q15, q21]), trivial⟩
  refine WpG.g tabOK 1 rfl ?_
  refine WpG.y rfl rfl rfl rfl (RunY.loadH tabOK (hc6.sub 3 1) hlr rfl rfl rfl rfl) ?_
  refine WpG.g tabOK 3 rfl ?_
  refine WpG.caseD (t := 26) rfl (fun q26 => ?_) (fun q26 => ?_)
  ·refine WpG.g tabOK 23 rfl ?_
   exact nx7.weak ⟨rfl, rfl, rfl, bq (by simp [q15, q21, q26]), trivial⟩
  refine WpG.g tabOK 1 rfl ?_
  refine WpG.y rfl rfl rfl rfl (RunY.loadH tabOK (hc6.sub 3 1) hlr rfl rfl rfl rfl) ?_
  refine WpG.g tabOK 4 rfl ?_
  refine WpG.caseD (t := 32) rfl (fun q32 => ?_) (fun q32 => ?_)
  ·refine WpG.g tabOK 17 rfl ?_
   exact nx7.weak ⟨rfl, rfl, rfl, bq (by simp [q15, q21, q26, q32]), trivial⟩
  refine WpG.g tabOK 1 rfl ?_
  refine WpG.y rfl rfl rfl rfl (RunY.loadH tabOK (hc6.sub 3 1) hlr rfl rfl rfl rfl) ?_
  refine WpG.g tabOK 1 rfl ?_
  refine WpG.y rfl rfl rfl rfl (RunY.loadH tabOK (hc6.sub 0 1) hlr rfl rfl rfl rfl) ?_
  refine WpG.g tabOK 3 rfl ?_
  refine WpG.caseE (t := 39) rfl (fun q39 => ?_) (fun q39 => ?_)
  ·refine WpG.g tabOK 10 rfl ?_
   exact nx7.weak ⟨rfl, rfl, rfl, bq (by simp [q15, q21, q26, q32, q39]), trivial⟩
  refine WpG.g tabOK 1 rfl ?_
  refine WpG.y rfl rfl rfl rfl (RunY.loadH tabOK (hc6.sub 1 1) hlr rfl rfl rfl rfl) ?_
  refine WpG.g tabOK 2 rfl ?_
  refine WpG.caseE (t := 43) rfl (fun q43 => ?_) (fun q43 => ?_)
  ·refine WpG.g tabOK 1 rfl ?_
   refine WpG.y rfl rfl rfl rfl (RunY.loadH tabOK (hc6.sub 2 1) hlr rfl rfl rfl rfl) ?_
   refine WpG.g tabOK 4 rfl ?_
   exact nx7.weak ⟨rfl, rfl, rfl, bq (by simp [q15, q21, q26, q32, q39, nb q39, q43]), trivial⟩
  refine WpG.g tabOK 6 rfl ?_
  exact nx7.weak ⟨rfl, rfl, rfl, bq (by simp [q15, q21, q26, q32, q39, nb q39, q43, nb q43]), trivial⟩
 refine WpG.caseB (t := 48) rfl (fun q48 => ?_) (fun q48 => ?_)
 ·have ho : outH f h := by unfold outH; simp at q48; omega
  refine WpG.g tabOK 5 rfl ?_
  exact WpG.ret tabOK (L' := []) (.tmp rfl .nil) .slnil ⟨congrArg Value.bool (by unfold isD; rw [if_pos ho]), rfl⟩
 have ho : ¬ outH f h := by unfold outH; simp at q48; omega
 have ho2 : 0 ≤ h.at_ ∧ h.at_ < f.blocks.length := by unfold outH at ho; omega
 refine WpG.g tabOK 5 rfl ?_
 refine WpG.y rfl rfl rfl rfl (RunY.loadH tabOK (hc2.sub 2 1) (hH4.trans hH6) rfl rfl rfl rfl) ?_
 refine WpG.g tabOK 1 rfl ?_
 refine WpG.y rfl rfl rfl rfl (RunY.loadH tabOK (hc6.sub 0 1) hlr rfl rfl rfl rfl) ?_
 refine WpG.indexR tabOK rfl rfl rfl rfl rfl rfl rfl rfl rfl r_f_2 (by omega) (by omega) ?_
 rintro x8 hx8 b8 o8 cs8 rd8 hc8
 have rd8' := rd8; obtain ⟨A8_0, c8_0, A8_1, c8_1, A8_4, c8_4, rfl, u8_0, r8_0, u8_1, r8_1, u8_4, r8_4, k8_0, k8_1⟩ := rd8
 have bz8_0 := r8_0.1
 have bz8_1 := r8_1.1
 have bz8_4 := r8_4.1
 obtain rfl : x8 = (nth f.blocks h.at_) := hx8
 refine WpG.g tabOK 1 rfl ?_
 refine WpG.y rfl rfl rfl rfl (RunY.loadH tabOK (hc8.sub 2 3) ((hH2.trans hH4).trans hH6) rfl rfl rfl rfl) ?_
 refine WpG.alloc tabOK rfl rfl rfl rfl rfl (fun b9 => ?_)
 refine WpG.storeBox (ci := 0) (cs' := [.int .i64 ((nth f.blocks h.at_).en.kind), .int .i64 ((nth f.blocks h.at_).en.arg), .slice A8_4 ((nth f.blocks h.at_).en.to.length) c8_4]) tabOK rfl rfl rfl rfl rfl rfl rfl rfl rfl ?_
 refine WpG.freezeBox (ci := 0) rfl (fun H10 hH10 hc10 => ?_)
 refine WpG.g tabOK 2 rfl ?_
 refine WpG.draw 45 [] mixed (by kernel_rfl) ?_
 refine WpD.g (listed' := lst 45 1) tabOK [0] (by kernel_rfl) rfl (((hH2.trans hH4).trans hH6).trans hH10) hlr .slnil ?_
 refine WpD.y (i := 1) (fuel := 43) (listed' := lst 45 3) (by kernel_rfl) rfl rfl rfl rfl (((hH2.trans hH4).trans hH6).trans hH10) hlr .slnil (RunY.loadH tabOK (hc10.sub 0 1) hlr rfl rfl rfl rfl) ?_
 refine WpD.g (listed' := lst 45 15) tabOK [2, 3] (by kernel_rfl) rfl (((hH2.trans hH4).trans hH6).trans hH10) hlr .slnil ?_
 refine WpD.caseE (t := 59) rfl (fun q59 => ?_) (fun q59 => ?_)
 ·have ht2 := hg.two ho2.1 ho2.2 q59
  refine WpD.g (listed' := lst 45 287) tabOK [4, 8] (by kernel_rfl) rfl (((hH2.trans hH4).trans hH6).trans hH10) hlr .slnil ?_
  refine WpD.y (i := 5) (fuel := 38) (listed' := lst 45 319) (by kernel_rfl) rfl rfl rfl rfl (((hH2.trans hH4).trans hH6).trans hH10) hlr .slnil (RunY.loadH tabOK (hc10.sub 2 1) hlr rfl rfl rfl rfl) ?_
  refine WpD.indexR (i := 6) (fuel := 37) (listed' := lst 45 383) tabOK (by kernel_rfl) rfl rfl rfl rfl rfl rfl rfl rfl rfl (((hH2.trans hH4).trans hH6).trans hH10) hlr .slnil r8_4 (by omega) (by omega) ?_
  rintro x11 hx11 b11 o11 _ ⟨rfl, k11⟩ hc11
  obtain rfl : x11 = (nth ((nth f.blocks h.at_).en.to) 0) := hx11
  refine WpD.y (i := 7) (fuel := 36) (listed' := lst 45 511) (by kernel_rfl) rfl rfl rfl rfl (((hH2.trans hH4).trans hH6).trans hH10) hlr .slnil (RunY.loadH tabOK hc11 (((hH2.trans hH4).trans hH6).trans hH10) rfl rfl rfl rfl) ?_
  refine WpD.y (i := 9) (fuel := 35) (listed' := lst 45 1023) (by kernel_rfl) rfl rfl rfl rfl (((hH2.trans hH4).trans hH6).trans hH10) hlr .slnil (RunY.loadH tabOK (hc10.sub 2 1) hlr rfl rfl rfl rfl) ?_
  refine WpD.indexR (i := 10) (fuel := 34) (listed' := lst 45 2047) tabOK (by kernel_rfl) rfl rfl rfl rfl rfl rfl rfl rfl rfl (((hH2.trans hH4).trans hH6).trans hH10) hlr .slnil r8_4 (by omega) (by omega) ?_
  rintro x12 hx12 b12 o12 _ ⟨rfl, k12⟩ hc12
  obtain rfl : x12 = (nth ((nth f.blocks h.at_).en.to) 1) := hx12
  refine WpD.y (i := 11) (fuel := 33) (listed' := lst 45 4095) (by kernel_rfl) rfl rfl rfl rfl (((hH2.trans hH4).trans hH6).trans hH10) hlr .slnil (RunY.loadH tabOK hc12 (((hH2.trans hH4).trans hH6).trans hH10) rfl rfl rfl rfl) ?_
  refine WpD.g (listed' := lst 45 32767) tabOK [12, 13, 14] (by kernel_rfl) rfl (((hH2.trans hH4).trans hH6).trans hH10) hlr .slnil ?_
  refine WpD.caseN (t := 70) rfl (fun q70 => ?_) (fun q70 => ?_)
  ·refine WpD.g (listed' := lst 45 42631167) tabOK [17, 19, 23, 25] (by kernel_rfl) rfl (((hH2.trans hH4).trans hH6).trans hH10) hlr .slnil ?_
   refine WpD.y (i := 15) (fuel := 25) (listed' := lst 45 42663935) (by kernel_rfl) rfl rfl rfl rfl (((hH2.trans hH4).trans hH6).trans hH10) hlr .slnil (RunY.loadH tabOK hc2 ((hH4.trans hH6).trans hH10) rfl rfl rfl rfl) ?_
   refine WpD.y (i := 16) (fuel := 24) (listed' := lst 45 42729471) (by kernel_rfl) rfl rfl rfl rfl (((hH2.trans hH4).trans hH6).trans hH10) hlr .slnil (RunY.loadH tabOK hc4 (hH6.trans hH10) rfl rfl rfl rfl) ?_
   refine WpD.y (i := 18) (fuel := 23) (listed' := lst 45 42991615) (by kernel_rfl) rfl rfl rfl rfl (((hH2.trans hH4).trans hH6).trans hH10) hlr .slnil (RunY.loadH tabOK (hc6.sub 0 1) hH10 rfl rfl rfl rfl) ?_
   refine WpD.y (i := 20) (fuel := 22) (listed' := lst 45 44040191) (by kernel_rfl) rfl rfl rfl rfl (((hH2.trans hH4).trans hH6).trans hH10) hlr .slnil (RunY.loadH tabOK (hc10.sub 2 1) hlr rfl rfl rfl rfl) ?_
   refine WpD.indexR (i := 21) (fuel := 21) (listed' := lst 45 46137343) tabOK (by kernel_rfl) rfl rfl rfl rfl rfl rfl rfl rfl rfl (((hH2.trans hH4).trans hH6).trans hH10) hlr .slnil r8_4 (by omega) (by omega) ?_
   rintro x13 hx13 b13 o13 _ ⟨rfl, k13⟩ hc13
   obtain rfl : x13 = (nth ((nth f.blocks h.at_).en.to) 0) := hx13
   refine WpD.y (i := 22) (fuel := 20) (listed' := lst 45 50331647) (by kernel_rfl) rfl rfl rfl rfl (((hH2.trans hH4).trans hH6).trans hH10) hlr .slnil (RunY.loadH tabOK hc13 (((hH2.trans hH4).trans hH6).trans hH10) rfl rfl rfl rfl) ?_
   refine WpD.y (i := 24) (fuel := 19) (listed' := lst 45 67108863) (by kernel_rfl) rfl rfl rfl rfl (((hH2.trans hH4).trans hH6).trans hH10) hlr .slnil (RunY.loadH tabOK (hc6.sub 1 1) hH10 rfl rfl rfl rfl) ?_
   refine WpD.y (i := 26) (fuel := 18) (listed' := lst 45 134217727) (by kernel_rfl) rfl rfl rfl rfl (((hH2.trans hH4).trans hH6).trans hH10) hlr .slnil (RunY.loadH tabOK (hc6.sub 3 1) hH10 rfl rfl rfl rfl) ?_
   refine WpD.callS (i := 27) (fuel := 17) (listed' := lst 45 268435455) (by kernel_rfl) rfl rfl rfl rfl rfl rfl hlr (hSide_calls (Rdc.mono (((hH2.trans hH4).trans hH6).trans hH10) rd_f') (Rdc.mono (((hH2.trans hH4).trans hH6).trans hH10) rd_gr') hg h.at_ (nth ((nth f.blocks h.at_).en.to) 0) h.thn h.join ha) (((hH2.trans hH4).trans hH6).trans hH10) hlr .slnil ?_
   refine WpD.g (listed' := lst 45 1073741823) tabOK [28, 29] (by kernel_rfl) rfl (((hH2.trans hH4).trans hH6).trans hH10) hlr .slnil ?_
   refine WpD.caseB (t := 85) rfl (fun q85 => ?_) (fun q85 => ?_)
   ·refine WpD.g (listed' := lst 45 1396938113023) tabOK [32, 34, 38, 40] (by kernel_rfl) rfl (((hH2.trans hH4).trans hH6).trans hH10) hlr .slnil ?_
    refine WpD.y (i := 30) (fuel := 10) (listed' := lst 45 1398011854847) (by kernel_rfl) rfl rfl rfl rfl (((hH2.trans hH4).trans hH6).trans hH10) hlr .slnil (RunY.loadH tabOK hc2 ((hH4.trans hH6).trans hH10) rfl rfl rfl rfl) ?_
    refine WpD.y (i := 31) (fuel := 9) (listed' := lst 45 1400159338495) (by kernel_rfl) rfl rfl rfl rfl (((hH2.trans hH4).trans hH6).trans hH10) hlr .slnil (RunY.loadH tabOK hc4 (hH6.trans hH10) rfl rfl rfl rfl) ?_
    refine WpD.y (i := 33) (fuel := 8) (listed' := lst 45 1408749273087) (by kernel_rfl) rfl rfl rfl rfl (((hH2.trans hH4).trans hH6).trans hH10) hlr .slnil (RunY.loadH tabOK (hc6.sub 0 1) hH10 rfl rfl rfl rfl) ?_
    refine WpD.y (i := 35) (fuel := 7) (listed' := lst 45 1443109011455) (by kernel_rfl) rfl rfl rfl rfl (((hH2.trans hH4).trans hH6).trans hH10) hlr .slnil (RunY.loadH tabOK (hc10.sub 2 1) hlr rfl rfl rfl rfl) ?_
    refine WpD.indexR (i := 36) (fuel := 6) (listed' := lst 45 1511828488191) tabOK (by kernel_rfl) rfl rfl rfl rfl rfl rfl rfl rfl rfl (((hH2.trans hH4).trans hH6).trans hH10) hlr .slnil r8_4 (by omega) (by omega) ?_
    rintro x14 hx14 b14 o14 _ ⟨rfl, k14⟩ hc14
    obtain rfl : x14 = (nth ((nth f.blocks h.at_).en.to) 1) := hx14
    refine WpD.y (i := 37) (fuel := 5) (listed' := lst 45 1649267441663) (by kernel_rfl) rfl rfl rfl rfl (((hH2.trans hH4).trans hH6).trans hH10) hlr .slnil (RunY.loadH tabOK hc14 (((hH2.trans hH4).trans hH6).trans hH10) rfl rfl rfl rfl) ?_
    refine WpD.y (i := 39) (fuel := 4) (listed' := lst 45 2199023255551) (by kernel_rfl) rfl rfl rfl rfl (((hH2.trans hH4).trans hH6).trans hH10) hlr .slnil (RunY.loadH tabOK (hc6.sub 2 1) hH10 rfl rfl rfl rfl) ?_
    refine WpD.y (i := 41) (fuel := 3) (listed' := lst 45 4398046511103) (by kernel_rfl) rfl rfl rfl rfl (((hH2.trans hH4).trans hH6).trans hH10) hlr .slnil (RunY.loadH tabOK (hc6.sub 3 1) hH10 rfl rfl rfl rfl) ?_
    refine WpD.callS (i := 42) (fuel := 2) (listed' := lst 45 8796093022207) (by kernel_rfl) rfl rfl rfl rfl rfl rfl hlr (hSide_calls (Rdc.mono (((hH2.trans hH4).trans hH6).trans hH10) rd_f') (Rdc.mono (((hH2.trans hH4).trans hH6).trans hH10) rd_gr') hg h.at_ (nth ((nth f.blocks h.at_).en.to) 1) h.els h.join ha) (((hH2.trans hH4).trans hH6).trans hH10) hlr .slnil ?_
    refine WpD.g (listed' := lst 45 35184372088831) tabOK [43, 44] (by kernel_rfl) rfl (((hH2.trans hH4).trans hH6).trans hH10) hlr .slnil ?_
    refine WpD.done (by kernel_rfl) ?_
    exact WpG.ret tabOK (L' := []) (.tmp rfl .nil) .slnil ⟨congrArg Value.bool (by unfold isD; rw [if_neg ho]; simp [q59, q70, q85]), rfl⟩
   refine WpD.g (listed' := lst 45 35184372088831) tabOK [30, 31, 32, 33, 34, 35, 36, 37, 38, 39, 40, 41, 42, 43, 44] (by kernel_rfl) rfl (((hH2.trans hH4).trans hH6).trans hH10) hlr .slnil ?_
   refine WpD.done (by kernel_rfl) ?_
   exact WpG.ret tabOK (L' := []) (.tmp rfl .nil) .slnil ⟨congrArg Value.bool (by unfold isD; rw [if_neg ho]; simp [q59, q70, q85]), rfl⟩
  refine WpD.g (listed' := lst 45 35184372088831) tabOK [15, 16, 17, 18, 19, 20, 21, 22, 23, 24, 25, 26, 27, 28, 29, 30, 31, 32, 33, 34, 35, 36, 37, 38, 39, 40, 41, 42, 43, 44] (by kernel_rfl) rfl (((hH2.trans hH4).trans hH6).trans hH10) hlr .slnil ?_
  refine WpD.done (by kernel_rfl) ?_
  exact WpG.ret tabOK (L' := []) (.tmp rfl .nil) .slnil ⟨congrArg Value.bool (by unfold isD; rw [if_neg ho]; simp [q59, q70]), rfl⟩
 refine WpD.g (listed' := lst 45 35184372088831) tabOK [4, 5, 6, 7, 8, 9, 10, 11, 12, 13, 14, 15, 16, 17, 18, 19, 20, 21, 22, 23, 24, 25, 26, 27, 28, 29, 30, 31, 32, 33, 34, 35, 36, 37, 38, 39, 40, 41, 42, 43, 44] (by kernel_rfl) rfl (((hH2.trans hH4).trans hH6).trans hH10) hlr .slnil ?_
 refine WpD.done (by kernel_rfl) ?_
 exact WpG.ret tabOK (L' := []) (.tmp rfl .nil) .slnil ⟨congrArg Value.bool (by unfold isD; rw [if_neg ho]; simp [q59]), rfl⟩
theorem hOn_calls {H : Hp} {f : FuncD} {cs_f : List Value} (rd_f : Rdc.rd H cs_f f) (x : Int) (h0 : 0 ≤ x) (h1 : x < f.blocks.length) : CallG Tryz.prog 60 [.agg cs_f.toArray, .int .i64 x] H [] (fun v _ L' => v = .int .i64 (onD f x) ∧ L' = []) := by
 have rd_f' := rd_f; obtain ⟨A_f_0, c_f_0, A_f_2, c_f_2, rfl, u_f_0, r_f_0, u_f_2, r_f_2, k_f_0⟩ := rd_f
 have bf := r_f_2.1
 refine CallG.of Tryz.func60 rfl rfl rfl fun w0 => ?_
 refine WpG.g tabOK 2 rfl ?_
 refine WpG.box rfl rfl rfl rfl rfl (fun b1 => ?_)
 refine WpG.freezeBox (ci := 0) rfl (fun H2 hH2 hc2 => ?_)
 refine WpG.g tabOK 6 rfl ?_
 refine WpG.y rfl rfl rfl rfl (RunY.loadH tabOK (hc2.sub 2 1) hlr rfl rfl rfl rfl) ?_
 refine WpG.g tabOK 1 rfl ?_
 refine WpG.indexR tabOK rfl rfl rfl rfl rfl rfl rfl rfl rfl r_f_2 (by omega) (by omega) ?_
 rintro x3 hx3 b3 o3 cs3 rd3 hc3
 have rd3' := rd3; obtain ⟨A3_0, c3_0, A3_1, c3_1, A3_4, c3_4, rfl, u3_0, r3_0, u3_1, r3_1, u3_4, r3_4, k3_0, k3_1⟩ := rd3
 have bz3_0 := r3_0.1
 have bz3_1 := r3_1.1
 have bz3_4 := r3_4.1
 obtain rfl : x3 = (nth f.blocks x) := hx3
 refine WpG.g tabOK 2 rfl ?_
 refine WpG.y rfl rfl rfl rfl (RunY.loadH tabOK (hc3.sub 4 1) hH2 rfl rfl rfl rfl) ?_
 refine WpG.g tabOK 8 rfl ?_
 refine WpG.caseD (t := 15) rfl (fun q15 => ?_) (fun q15 => ?_)
 ·refine WpG.g tabOK 4 rfl ?_
  refine WpG.indexR tabOK rfl rfl rfl rfl rfl rfl rfl rfl rfl r3_4 (by omega) (by omega) ?_
  rintro x4 hx4 b4 o4 _ ⟨rfl, k4⟩ hc4
  obtain rfl : x4 = (nth ((nth f.blocks x).en.to) 0) := hx4
  refine WpG.y rfl rfl rfl rfl (RunY.loadH tabOK hc4 hH2 rfl rfl rfl rfl) ?_
  refine WpG.g tabOK 2 rfl ?_
  exact WpG.ret tabOK (L' := []) (.tmp rfl .nil) .slnil ⟨congrArg (Value.int .i64) (by unfold onD; rw [if_pos (by omega)]), rfl⟩
 refine WpG.g tabOK 6 rfl ?_
 exact WpG.ret tabOK (L' := []) (.tmp rfl .nil) .slnil ⟨congrArg (Value.int .i64) (by unfold onD; rw [if_neg (by omega)]), rfl⟩
end Go.Proofs.YtakameggkkjcpaaGreat
set_option maxRecDepth 4000
namespace Go.Proofs.YtakameggkkjcpaaGreat
open Go Go.RowKit
theorem hRight_calls {H : Hp} {f : FuncD} {cs_f : List Value} (rd_f : Rdc.rd H cs_f f) : CallG Tryz.prog 27 [.agg cs_f.toArray] H [] (fun v H' L' => HasT f ∧ ((okF f = false ∧ v = .tuple #[.agg #[.slice none 0 0, .slice none 0 0], .bool false]) ∨ (okF f = true ∧ ∃ A c A' c', v = .tuple #[.agg #[.slice A (ofD f).1.succ.length c, .slice A' (ofD f).1.pred.length c'], .bool true] ∧ (ofD f).1.succ.length ≤ c ∧ RdS H' A (ofD f).1.succ ∧ (ofD f).1.pred.length ≤ c' ∧ RdS H' A' (ofD f).1.pred)) ∧ L' = []) := by
 have rd_f' := rd_f; obtain ⟨A_f_0, c_f_0, A_f_2, c_f_2, rfl, u_f_0, r_f_0, u_f_2, r_f_2, k_f_0⟩ := rd_f
 refine CallG.of Tryz.func27 rfl rfl rfl fun w0 => ?_
 refine WpG.g tabOK 2 rfl ?_
 refine WpG.box rfl rfl rfl rfl rfl (fun b1 => ?_)
 refine WpG.freezeBox (ci := 0) rfl (fun H2 hH2 hc2 => ?_)
 refine WpG.alloc tabOK rfl rfl rfl rfl rfl (fun b3 => ?_)
 refine WpG.g tabOK 5 rfl ?_
 refine WpG.y rfl rfl rfl rfl (RunY.loadH tabOK hc2 hlr rfl rfl rfl rfl) ?_
 refine WpG.call0 rfl rfl rfl rfl rfl rfl (Check_calls u_f_0 (r_f_0.mono hH2) u_f_2 (r_f_2.mono hH2) k_f_0 2) ?_
 rintro _ H4 _ hH4 ⟨e1, rfl, hc1, rfl⟩
 refine WpG.g tabOK 2 rfl ?_
 refine WpG.caseN (t := 8) rfl (fun q8 => ?_) (fun q8 => ?_)
 ·refine WpG.g tabOK 4 rfl ?_
  refine WpG.storeBox (ci := 0) (cs' := [.slice none 0 0, .slice none 0 0]) tabOK rfl rfl rfl rfl rfl rfl rfl rfl rfl ?_
  refine WpG.g tabOK 2 rfl ?_
  exact WpG.ret tabOK (L' := []) (.cell (ci := 0) rfl rfl rfl rfl (.tmp rfl .nil)) (.cons _ .slnil) ⟨hasT_of (check_at hc1 (by decide) (by decide)), .inl ⟨by rw [← ok_check hc1]; simpa using q8, rfl⟩, rfl⟩
 refine WpG.g tabOK 4 rfl ?_
 refine WpG.y rfl rfl rfl rfl (RunY.loadH tabOK hc2 hH4 rfl rfl rfl rfl) ?_
 refine WpG.call0 rfl rfl rfl rfl rfl rfl (Of_calls (Rdc.mono (hH2.trans hH4) rd_f')) ?_
 rintro _ H5 _ hH5 ⟨A5, c5, B5, d5, rfl, ua5, ra5, ub5, rb5, rfl⟩
 refine WpG.g tabOK 3 rfl ?_
 refine WpG.alloc tabOK rfl rfl rfl rfl rfl (fun b6 => ?_)
 refine WpG.storeBox (ci := 0) (cs' := [.slice A5 ((ofD f).1.succ.length) c5, .slice B5 ((ofD f).1.pred.length) d5]) tabOK rfl rfl rfl rfl rfl rfl rfl rfl rfl ?_
 refine WpG.g tabOK 4 rfl ?_
 refine WpG.y rfl rfl rfl rfl (RunY.loadBox (ci := 0) tabOK rfl rfl rfl rfl) ?_
 refine WpG.storeBox (ci := 1) (cs' := [.slice A5 ((ofD f).1.succ.length) c5, .slice B5 ((ofD f).1.pred.length) d5]) tabOK rfl rfl rfl rfl rfl rfl rfl rfl rfl ?_
 refine WpG.g tabOK 2 rfl ?_
 exact WpG.ret tabOK (L' := []) (.cell (ci := 1) rfl rfl rfl rfl (.tmp rfl .nil)) (.cons _ (.cons _ .slnil)) ⟨hasT_of (check_at hc1 (by decide) (by decide)), .inr ⟨by rw [← ok_check hc1]; simpa using q8, _, _, _, _, rfl, ua5, ra5, ub5, rb5⟩, rfl⟩
theorem hFind1_calls {H : Hp} {f : FuncD} {A_f_0 A_f_2 : Option Addr} {c_f_0 c_f_2 : Nat} (u_f_0 : f.params.length ≤ c_f_0) (r_f_0 : RdS H A_f_0 f.params) (u_f_2 : f.blocks.length ≤ c_f_2) (r_f_2 : RdS H A_f_2 f.blocks) (k_f_0 : I64 f.ret) {b5 b9 b10 : Nat} {a t u : Int} (h5 : HCells H b5 0 [.int .i64 a]) (h9 : HCells H b9 0 [.int .i64 t]) (h10 : HCells H b10 0 [.int .i64 u]) {b3 : Nat} (h3 : HCells H b3 0 [.slice A_f_0 f.params.length c_f_0, .int .i64 f.ret, .slice A_f_2 f.blocks.length c_f_2]) (t0 : 0 ≤ t) (t1 : t < f.blocks.length) : CallG Tryz.prog 59 [.pointer (some ⟨b5, 0, none⟩), .pointer (some ⟨b9, 0, none⟩), .pointer (some ⟨b10, 0, none⟩), .pointer (some ⟨b3, 0, none⟩)] H [] (fun v _ L' => v = hamV ⟨a, t, u, onD f t⟩ ∧ L' = []) := by
 have rd_f' : Rdc.rd H [.slice A_f_0 f.params.length c_f_0, .int .i64 f.ret, .slice A_f_2 f.blocks.length c_f_2] f := ⟨_, _, _, _, rfl, u_f_0, r_f_0, u_f_2, r_f_2, k_f_0⟩
 have bs := r_f_2.1; have bsp := r_f_0.1
 refine CallG.of Tryz.func59 rfl rfl rfl fun w0 => ?_
 refine WpG.g tabOK 2 rfl ?_
 refine WpG.alloc tabOK rfl rfl rfl rfl rfl (fun b1 => ?_)
 refine WpG.g tabOK 2 rfl ?_
 refine WpG.draw 8 [] mixed (by kernel_rfl) ?_
 refine WpD.y (i := 0) (fuel := 7) (listed' := lst 8 1) (by kernel_rfl) rfl rfl rfl rfl hlr hlr (.cons _ .slnil) (RunY.loadH tabOK h5 hlr rfl rfl rfl rfl) ?_
 refine WpD.y (i := 1) (fuel := 6) (listed' := lst 8 3) (by kernel_rfl) rfl rfl rfl rfl hlr hlr (.cons _ .slnil) (RunY.loadH tabOK h9 hlr rfl rfl rfl rfl) ?_
 refine WpD.y (i := 2) (fuel := 5) (listed' := lst 8 7) (by kernel_rfl) rfl rfl rfl rfl hlr hlr (.cons _ .slnil) (RunY.loadH tabOK h10 hlr rfl rfl rfl rfl) ?_
 refine WpD.y (i := 3) (fuel := 4) (listed' := lst 8 15) (by kernel_rfl) rfl rfl rfl rfl hlr hlr (.cons _ .slnil) (RunY.loadH tabOK h3 hlr rfl rfl rfl rfl) ?_
 refine WpD.y (i := 4) (fuel := 3) (listed' := lst 8 31) (by kernel_rfl) rfl rfl rfl rfl hlr hlr (.cons _ .slnil) (RunY.loadH tabOK h9 hlr rfl rfl rfl rfl) ?_
 refine WpD.callS (i := 5) (fuel := 2) (listed' := lst 8 63) (by kernel_rfl) rfl rfl rfl rfl rfl rfl hlr (hOn_calls rd_f' t t0 t1) hlr hlr (.cons _ .slnil) ?_
 refine WpD.g (listed' := lst 8 127) tabOK [6] (by kernel_rfl) rfl hlr hlr (.cons _ .slnil) ?_
 refine WpD.f (i := 7) (fuel := 0) (listed' := lst 8 255) (by kernel_rfl) hlr (OpG.storeBox (ci := 0) (cs' := [.int .i64 a, .int .i64 t, .int .i64 u, .int .i64 (onD f t)]) tabOK rfl rfl rfl rfl rfl rfl rfl rfl rfl) ?_
 rintro F1 H1 L1 ⟨eF, eH, eL⟩
 subst eF; subst eL; rw [eH]; clear eH H1
 refine ⟨hlr, (.cons _ .slnil), ?_⟩
 change WpD _ _ _ _ _ _ _ _ _ _ _ _ _ _ [Chunk.box b1 [.int .i64 a, .int .i64 t, .int .i64 u, .int .i64 (onD f t)] 27]
 refine WpD.done (by kernel_rfl) ?_
 exact WpG.ret tabOK (L' := []) (.cell (ci := 0) rfl rfl rfl rfl .nil) (.cons _ .slnil) ⟨rfl, rfl⟩
theorem hFind2_calls {H : Hp} {b5 b9 b10 : Nat} {a t u : Int} (h5 : HCells H b5 0 [.int .i64 a]) (h9 : HCells H b9 0 [.int .i64 t]) (h10 : HCells H b10 0 [.int .i64 u]) : CallG Tryz.prog 61 [.pointer (some ⟨b5, 0, none⟩), .pointer (some ⟨b9, 0, none⟩), .pointer (some ⟨b10, 0, none⟩)] H [] (fun v _ L' => v = hamV ⟨a, t, -1, u⟩ ∧ L' = []) := by
 refine CallG.of Tryz.func61 rfl rfl rfl fun w0 => ?_
 refine WpG.g tabOK 2 rfl ?_
 refine WpG.alloc tabOK rfl rfl rfl rfl rfl (fun b1 => ?_)
 refine WpG.g tabOK 3 rfl ?_
 refine WpG.y rfl rfl rfl rfl (RunY.loadH tabOK h5 hlr rfl rfl rfl rfl) ?_
 refine WpG.y rfl rfl rfl rfl (RunY.loadH tabOK h9 hlr rfl rfl rfl rfl) ?_
 refine WpG.y rfl rfl rfl rfl (RunY.loadH tabOK h10 hlr rfl rfl rfl rfl) ?_
 refine WpG.g tabOK 1 rfl ?_
 refine WpG.storeBox (ci := 0) (cs' := [.int .i64 a, .int .i64 t, .int .i64 (-1), .int .i64 u]) tabOK rfl rfl rfl rfl rfl rfl rfl rfl rfl ?_
 refine WpG.g tabOK 1 rfl ?_
 exact WpG.ret tabOK (L' := []) (.cell (ci := 0) rfl rfl rfl rfl .nil) (.cons _ .slnil) ⟨rfl, rfl⟩
theorem hFind3_calls {H : Hp} {b5 b9 b10 : Nat} {a t u : Int} (h5 : HCells H b5 0 [.int .i64 a]) (h9 : HCells H b9 0 [.int .i64 t]) (h10 : HCells H b10 0 [.int .i64 u]) : CallG Tryz.prog 62 [.pointer (some ⟨b5, 0, none⟩), .pointer (some ⟨b9, 0, none⟩), .pointer (some ⟨b10, 0, none⟩)] H [] (fun v _ L' => v = hamV ⟨a, -1, t, u⟩ ∧ L' = []) := by
 refine CallG.of Tryz.func62 rfl rfl rfl fun w0 => ?_
 refine WpG.g tabOK 2 rfl ?_
 refine WpG.alloc tabOK rfl rfl rfl rfl rfl (fun b1 => ?_)
 refine WpG.g tabOK 3 rfl ?_
 refine WpG.y rfl rfl rfl rfl (RunY.loadH tabOK h5 hlr rfl rfl rfl rfl) ?_
 refine WpG.y rfl rfl rfl rfl (RunY.loadH tabOK h9 hlr rfl rfl rfl rfl) ?_
 refine WpG.y rfl rfl rfl rfl (RunY.loadH tabOK h10 hlr rfl rfl rfl rfl) ?_
 refine WpG.g tabOK 1 rfl ?_
 refine WpG.storeBox (ci := 0) (cs' := [.int .i64 a, .int .i64 (-1), .int .i64 t, .int .i64 u]) tabOK rfl rfl rfl rfl rfl rfl rfl rfl rfl ?_
 refine WpG.g tabOK 1 rfl ?_
 exact WpG.ret tabOK (L' := []) (.cell (ci := 0) rfl rfl rfl rfl .nil) (.cons _ .slnil) ⟨rfl, rfl⟩
set_option maxHeartbeats 1000000 in
theorem hFind_calls {H : Hp} {f : FuncD} {cs_f : List Value} (rd_f : Rdc.rd H cs_f f) {gr : GraphD} {cs_gr : List Value} (rd_gr : Rdc.rd H cs_gr gr) (hg : GG f gr) (a : Int) (ha : I64 a) (a0 : 0 ≤ a) (a1 : a < f.blocks.length) : CallG Tryz.prog 28 [.agg cs_f.toArray, .agg cs_gr.toArray, .int .i64 a] H [] (fun v _ L' => v = .tuple #[hamV (findD f gr a).1, .bool (findD f gr a).2] ∧ L' = []) := by
 have rd_f' := rd_f; obtain ⟨A_f_0, c_f_0, A_f_2, c_f_2, rfl, u_f_0, r_f_0, u_f_2, r_f_2, k_f_0⟩ := rd_f
 have rd_gr' := rd_gr; obtain ⟨A_gr_0, c_gr_0, A_gr_1, c_gr_1, rfl, u_gr_0, r_gr_0, u_gr_1, r_gr_1⟩ := rd_gr
 have bf := r_f_2.1; have hgp := hg.pl
 refine CallG.of Tryz.func28 rfl rfl rfl fun w0 => ?_
 refine WpG.g tabOK 2 rfl ?_
 refine WpG.box rfl rfl rfl rfl rfl (fun b1 => ?_)
 refine WpG.freezeBox (ci := 0) rfl (fun H2 hH2 hc2 => ?_)
 refine WpG.box rfl rfl rfl rfl rfl (fun b3 => ?_)
 refine WpG.freezeBox (ci := 0) rfl (fun H4 hH4 hc4 => ?_)
 refine WpG.box rfl rfl rfl rfl rfl (fun b5 => ?_)
 refine WpG.freezeBox (ci := 0) rfl (fun H6 hH6 hc6 => ?_)
 refine WpG.alloc tabOK rfl rfl rfl rfl rfl (fun b7 => ?_)
 refine WpG.g tabOK 5 rfl ?_
 refine WpG.y rfl rfl rfl rfl (RunY.loadH tabOK (hc2.sub 2 1) (hH4.trans hH6) rfl rfl rfl rfl) ?_
 refine WpG.y rfl rfl rfl rfl (RunY.loadH tabOK hc6 hlr rfl rfl rfl rfl) ?_
 refine WpG.indexR tabOK rfl rfl rfl rfl rfl rfl rfl rfl rfl r_f_2 (by omega) (by omega) ?_
 rintro x8 hx8 b8 o8 cs8 rd8 hc8
 have rd8' := rd8; obtain ⟨A8_0, c8_0, A8_1, c8_1, A8_4, c8_4, rfl, u8_0, r8_0, u8_1, r8_1, u8_4, r8_4, k8_0, k8_1⟩ := rd8
 have bz8_0 := r8_0.1
 have bz8_1 := r8_1.1
 have bz8_4 := r8_4.1
 obtain rfl : x8 = (nth f.blocks a) := hx8
 refine WpG.g tabOK 1 rfl ?_
 refine WpG.y rfl rfl rfl rfl (RunY.loadH tabOK (hc8.sub 2 3) ((hH2.trans hH4).trans hH6) rfl rfl rfl rfl) ?_
 refine WpG.alloc tabOK rfl rfl rfl rfl rfl (fun b9 => ?_)
 refine WpG.storeBox (ci := 0) (cs' := [.int .i64 ((nth f.blocks a).en.kind), .int .i64 ((nth f.blocks a).en.arg), .slice A8_4 ((nth f.blocks a).en.to.length) c8_4]) tabOK rfl rfl rfl rfl rfl rfl rfl rfl rfl ?_
 refine WpG.freezeBox (ci := 0) rfl (fun H10 hH10 hc10 => ?_)
 refine WpG.g tabOK 5 rfl ?_
 refine WpG.y rfl rfl rfl rfl (RunY.loadH tabOK (hc10.sub 0 1) hlr rfl rfl rfl rfl) ?_
 refine WpG.g tabOK 2 rfl ?_
 refine WpG.caseN (t := 23) rfl (fun q23 => ?_) (fun q23 => ?_)
 ·refine WpG.g tabOK 4 rfl ?_
  refine WpG.storeBox (ci := 0) (cs' := [.int .i64 0, .int .i64 0, .int .i64 0, .int .i64 0]) tabOK rfl rfl rfl rfl rfl rfl rfl rfl rfl ?_
  refine WpG.g tabOK 2 rfl ?_
  exact WpG.ret tabOK (L' := []) (.cell (ci := 0) rfl rfl rfl rfl (.tmp rfl .nil)) (.cons _ .slnil) ⟨by rw [show findD f gr a = (noneH, false) from by unfold findD; rw [if_neg q23]]; rfl, rfl⟩
 have ht2 := hg.two a0 a1 q23
 refine WpG.g tabOK 3 rfl ?_
 refine WpG.draw 12 [Chunk.box b7 [.int .i64 0, .int .i64 0, .int .i64 0, .int .i64 0] 27] mixed (by kernel_rfl) ?_
 refine WpD.g (listed' := lst 12 17) tabOK [0, 4] (by kernel_rfl) rfl (((hH2.trans hH4).trans hH6).trans hH10) hlr (.refl _) ?_
 refine WpD.y (i := 1) (fuel := 9) (listed' := lst 12 19) (by kernel_rfl) rfl rfl rfl rfl (((hH2.trans hH4).trans hH6).trans hH10) hlr (.refl _) (RunY.loadH tabOK (hc10.sub 2 1) hlr rfl rfl rfl rfl) ?_
 refine WpD.indexR (i := 2) (fuel := 8) (listed' := lst 12 23) tabOK (by kernel_rfl) rfl rfl rfl rfl rfl rfl rfl rfl rfl (((hH2.trans hH4).trans hH6).trans hH10) hlr (.refl _) r8_4 (by omega) (by omega) ?_
 rintro x11 hx11 b11 o11 _ ⟨rfl, k11⟩ hc11
 obtain rfl : x11 = (nth ((nth f.blocks a).en.to) 0) := hx11
 refine WpD.y (i := 3) (fuel := 7) (listed' := lst 12 31) (by kernel_rfl) rfl rfl rfl rfl (((hH2.trans hH4).trans hH6).trans hH10) hlr (.refl _) (RunY.loadH tabOK hc11 (((hH2.trans hH4).trans hH6).trans hH10) rfl rfl rfl rfl) ?_
 refine WpD.y (i := 5) (fuel := 6) (listed' := lst 12 63) (by kernel_rfl) rfl rfl rfl rfl (((hH2.trans hH4).trans hH6).trans hH10) hlr (.refl _) (RunY.loadH tabOK (hc10.sub 2 1) hlr rfl rfl rfl rfl) ?_
 refine WpD.indexR (i := 6) (fuel := 5) (listed' := lst 12 127) tabOK (by kernel_rfl) rfl rfl rfl rfl rfl rfl rfl rfl rfl (((hH2.trans hH4).trans hH6).trans hH10) hlr (.refl _) r8_4 (by omega) (by omega) ?_
 rintro x12 hx12 b12 o12 _ ⟨rfl, k12⟩ hc12
 obtain rfl : x12 = (nth ((nth f.blocks a).en.to) 1) := hx12
 refine WpD.y (i := 7) (fuel := 4) (listed' := lst 12 255) (by kernel_rfl) rfl rfl rfl rfl (((hH2.trans hH4).trans hH6).trans hH10) hlr (.refl _) (RunY.loadH tabOK hc12 (((hH2.trans hH4).trans hH6).trans hH10) rfl rfl rfl rfl) ?_
 refine WpD.allocs (listed' := lst 12 1023) tabOK [⟨8, 9, 3, [.int .i64 0]⟩, ⟨9, 10, 3, [.int .i64 0]⟩] ⟨⟨_, _, _, _, rfl, rfl, rfl, rfl⟩, ⟨_, _, _, _, rfl, rfl, rfl, rfl⟩, trivial⟩ (by kernel_rfl) (by decide) (by decide) (((hH2.trans hH4).trans hH6).trans hH10) hlr (.refl _) ?_
 rintro l hl
 obtain ⟨b13, b14, rfl⟩ : ∃ b13 b14 : Nat, l = [(⟨8, 9, 3, [.int .i64 0]⟩, b13), (⟨9, 10, 3, [.int .i64 0]⟩, b14)] := by
  match l, hl with | [(x0, y0), (x1, y1)], hl => simp only [List.map_cons, List.map_nil, List.cons.injEq, and_true] at hl; obtain ⟨rfl, rfl⟩ := hl; exact ⟨_, _, rfl⟩
 change WpD _ _ _ _ _ _ _ _ _ _ _ _ ([(9, .pointer (some ⟨b13, 0, none⟩)), (10, .pointer (some ⟨b14, 0, none⟩))] ++ _) _ [Chunk.box b13 [.int .i64 0] 3, Chunk.box b14 [.int .i64 0] 3, Chunk.box b7 [.int .i64 0, .int .i64 0, .int .i64 0, .int .i64 0] 27]
 refine WpD.f (i := 10) (fuel := 1) (listed' := lst 12 2047) (by kernel_rfl) (((hH2.trans hH4).trans hH6).trans hH10) (OpG.storeBox (ci := 0) (cs' := [.int .i64 (nth ((nth f.blocks a).en.to) 0)]) tabOK rfl rfl rfl rfl rfl rfl rfl rfl rfl) ?_
 rintro F1 H1 L1 ⟨eF, eH, eL⟩
 subst eF; subst eL; rw [eH]; clear eH H1
 refine ⟨hlr, (.cons _ (.cons _ (.cons_cons _ .slnil))), ?_⟩
 change WpD _ _ _ _ _ _ _ _ _ _ _ _ _ _ [Chunk.box b13 [.int .i64 (nth ((nth f.blocks a).en.to) 0)] 3, Chunk.box b14 [.int .i64 0] 3, Chunk.box b7 [.int .i64 0, .int .i64 0, .int .i64 0, .int .i64 0] 27]
 refine WpD.f (i := 11) (fuel := 0) (listed' := lst 12 4095) (by kernel_rfl) (((hH2.trans hH4).trans hH6).trans hH10) (OpG.storeBox (ci := 1) (cs' := [.int .i64 (nth ((nth f.blocks a).en.to) 1)]) tabOK rfl rfl rfl rfl rfl rfl rfl rfl rfl) ?_
 rintro F1 H1 L1 ⟨eF, eH, eL⟩
 subst eF; subst eL; rw [eH]; clear eH H1
 refine ⟨hlr, (.cons _ (.cons _ (.cons_cons _ .slnil))), ?_⟩
 change WpD _ _ _ _ _ _ _ _ _ _ _ _ _ _ [Chunk.box b13 [.int .i64 (nth ((nth f.blocks a).en.to) 0)] 3, Chunk.box b14 [.int .i64 (nth ((nth f.blocks a).en.to) 1)] 3, Chunk.box b7 [.int .i64 0, .int .i64 0, .int .i64 0, .int .i64 0] 27]
 refine WpD.done (by kernel_rfl) ?_
 refine WpG.g tabOK 5 rfl ?_
 refine WpG.freezeBox (ci := 0) rfl (fun H15 hH15 hc15 => ?_)
 refine WpG.freezeBox (ci := 0) rfl (fun H16 hH16 hc16 => ?_)
 refine WpG.buildSlice (xs := [.func (.func 59) #[] #[.pointer (some ⟨b5, 0, none⟩), .pointer (some ⟨b13, 0, none⟩), .pointer (some ⟨b14, 0, none⟩), .pointer (some ⟨b1, 0, none⟩)], .func (.func 61) #[] #[.pointer (some ⟨b5, 0, none⟩), .pointer (some ⟨b13, 0, none⟩), .pointer (some ⟨b14, 0, none⟩)], .func (.func 62) #[] #[.pointer (some ⟨b5, 0, none⟩), .pointer (some ⟨b14, 0, none⟩), .pointer (some ⟨b13, 0, none⟩)]]) tabOK rfl rfl rfl rfl rfl rfl rfl rfl rfl rfl (fun b17 => ?_)
 refine WpG.g tabOK 11 rfl ?_
 refine WpG.g tabOK 11 rfl ?_
 refine WpG.y rfl rfl rfl rfl (RunY.indexAddr tabOK rfl rfl rfl rfl rfl (by decide) (by decide)) ?_
 refine WpG.y rfl rfl rfl rfl (RunY.loadOwn (ci := 0) (cs := [.func (.func 59) #[] #[.pointer (some ⟨b5, 0, none⟩), .pointer (some ⟨b13, 0, none⟩), .pointer (some ⟨b14, 0, none⟩), .pointer (some ⟨b1, 0, none⟩)]]) tabOK rfl rfl rfl rfl rfl (own_cell1 rfl)) ?_
 refine WpG.g tabOK 5 rfl ?_
 refine WpG.callS rfl rfl rfl rfl rfl rfl hlr (hFind1_calls u_f_0 (r_f_0.mono (((((hH2.trans hH4).trans hH6).trans hH10).trans hH15).trans hH16)) u_f_2 (r_f_2.mono (((((hH2.trans hH4).trans hH6).trans hH10).trans hH15).trans hH16)) k_f_0 (hc6.mono ((hH10.trans hH15).trans hH16)) (hc15.mono hH16) hc16 (hc2.mono ((((hH4.trans hH6).trans hH10).trans hH15).trans hH16)) (by omega) (by omega)) ?_
 refine WpG.alloc tabOK rfl rfl rfl rfl rfl (fun b19 => ?_)
 refine WpG.storeBox (ci := 0) (cs' := [.int .i64 a, .int .i64 (nth (nth f.blocks a).en.to 0), .int .i64 (nth (nth f.blocks a).en.to 1), .int .i64 (onD f (nth (nth f.blocks a).en.to 0))]) tabOK rfl rfl rfl rfl rfl rfl rfl rfl rfl ?_
 refine WpG.g tabOK 3 rfl ?_
 refine WpG.y rfl rfl rfl rfl (RunY.loadH tabOK hc2 ((((hH4.trans hH6).trans hH10).trans hH15).trans hH16) rfl rfl rfl rfl) ?_
 refine WpG.y rfl rfl rfl rfl (RunY.loadH tabOK hc4 (((hH6.trans hH10).trans hH15).trans hH16) rfl rfl rfl rfl) ?_
 refine WpG.y rfl rfl rfl rfl (RunY.loadBox (ci := 0) tabOK rfl rfl rfl rfl) ?_
 refine WpG.callS rfl rfl rfl rfl rfl rfl hlr (hIs_calls (Rdc.mono (((((hH2.trans hH4).trans hH6).trans hH10).trans hH15).trans hH16) rd_f') (Rdc.mono (((((hH2.trans hH4).trans hH6).trans hH10).trans hH15).trans hH16) rd_gr') hg ⟨a, (nth (nth f.blocks a).en.to 0), (nth (nth f.blocks a).en.to 1), (onD f (nth (nth f.blocks a).en.to 0))⟩ ha) ?_
 refine WpG.g tabOK 1 rfl ?_
 refine WpG.caseB (t := 48) rfl (fun q48 => ?_) (fun q48 => ?_)
 ·refine WpG.g tabOK 3 rfl ?_
  refine WpG.y rfl rfl rfl rfl (RunY.loadBox (ci := 0) tabOK rfl rfl rfl rfl) ?_
  refine WpG.storeBox (ci := 2) (cs' := [.int .i64 a, .int .i64 (nth (nth f.blocks a).en.to 0), .int .i64 (nth (nth f.blocks a).en.to 1), .int .i64 (onD f (nth (nth f.blocks a).en.to 0))]) tabOK rfl rfl rfl rfl rfl rfl rfl rfl rfl ?_
  refine WpG.g tabOK 2 rfl ?_
  exact WpG.ret tabOK (L' := []) (.cell (ci := 2) rfl rfl rfl rfl (.tmp rfl .nil)) (.cons _ (.cons _ (.cons _ .slnil))) ⟨by rw [show findD f gr a = (way0 f a, true) from by unfold findD; rw [if_pos q23, if_pos (show isD f gr (way0 f a) = true from q48)]]; rfl, rfl⟩
 refine WpG.gw tabOK 5 50 (v := .int .i64 1) rfl rfl ?_
 refine WpG.g tabOK 3 rfl ?_
 refine WpG.g tabOK 11 rfl ?_
 refine WpG.y rfl rfl rfl rfl (RunY.indexAddr tabOK rfl rfl rfl rfl rfl (by decide) (by decide)) ?_
 refine WpG.y rfl rfl rfl rfl (RunY.loadOwn (ci := 1) (cs := [.func (.func 61) #[] #[.pointer (some ⟨b5, 0, none⟩), .pointer (some ⟨b13, 0, none⟩), .pointer (some ⟨b14, 0, none⟩)]]) tabOK rfl rfl rfl rfl rfl (own_cell1 rfl)) ?_
 refine WpG.g tabOK 5 rfl ?_
 refine WpG.callS rfl rfl rfl rfl rfl rfl hlr (hFind2_calls (hc6.mono ((hH10.trans hH15).trans hH16)) (hc15.mono hH16) hc16) ?_
 refine WpG.alloc tabOK rfl rfl rfl rfl rfl (fun b20 => ?_)
 refine WpG.storeBox (ci := 0) (cs' := [.int .i64 a, .int .i64 (nth (nth f.blocks a).en.to 0), .int .i64 (-1), .int .i64 (nth (nth f.blocks a).en.to 1)]) tabOK rfl rfl rfl rfl rfl rfl rfl rfl rfl ?_
 refine WpG.g tabOK 3 rfl ?_
 refine WpG.y rfl rfl rfl rfl (RunY.loadH tabOK hc2 ((((hH4.trans hH6).trans hH10).trans hH15).trans hH16) rfl rfl rfl rfl) ?_
 refine WpG.y rfl rfl rfl rfl (RunY.loadH tabOK hc4 (((hH6.trans hH10).trans hH15).trans hH16) rfl rfl rfl rfl) ?_
 refine WpG.y rfl rfl rfl rfl (RunY.loadBox (ci := 0) tabOK rfl rfl rfl rfl) ?_
 refine WpG.callS rfl rfl rfl rfl rfl rfl hlr (hIs_calls (Rdc.mono (((((hH2.trans hH4).trans hH6).trans hH10).trans hH15).trans hH16) rd_f') (Rdc.mono (((((hH2.trans hH4).trans hH6).trans hH10).trans hH15).trans hH16) rd_gr') hg ⟨a, (nth (nth f.blocks a).en.to 0), (-1), (nth (nth f.blocks a).en.to 1)⟩ ha) ?_
 refine WpG.g tabOK 1 rfl ?_
 refine WpG.caseB (t := 48) rfl (fun q48_2 => ?_) (fun q48_2 => ?_)
 ·refine WpG.g tabOK 3 rfl ?_
  refine WpG.y rfl rfl rfl rfl (RunY.loadBox (ci := 0) tabOK rfl rfl rfl rfl) ?_
  refine WpG.storeBox (ci := 3) (cs' := [.int .i64 a, .int .i64 (nth (nth f.blocks a).en.to 0), .int .i64 (-1), .int .i64 (nth (nth f.blocks a).en.to 1)]) tabOK rfl rfl rfl rfl rfl rfl rfl rfl rfl ?_
  refine WpG.g tabOK 2 rfl ?_
  exact WpG.ret tabOK (L' := []) (.cell (ci := 3) rfl rfl rfl rfl (.tmp rfl .nil)) (.cons _ (.cons _ (.cons _ (.cons _ .slnil)))) ⟨by rw [show findD f gr a = (way1 f a, true) from by unfold findD; rw [if_pos q23, if_neg (show ¬ isD f gr (way0 f a) = true from by rw [show isD f gr (way0 f a) = false from q48]; simp), if_pos (show isD f gr (way1 f a) = true from q48_2)]]; rfl, rfl⟩
 refine WpG.gw tabOK 5 50 (v := .int .i64 2) rfl rfl ?_
 refine WpG.g tabOK 3 rfl ?_
 refine WpG.g tabOK 11 rfl ?_
 refine WpG.y rfl rfl rfl rfl (RunY.indexAddr tabOK rfl rfl rfl rfl rfl (by decide) (by decide)) ?_
 refine WpG.y rfl rfl rfl rfl (RunY.loadOwn (ci := 2) (cs := [.func (.func 62) #[] #[.pointer (some ⟨b5, 0, none⟩), .pointer (some ⟨b14, 0, none⟩), .pointer (some ⟨b13, 0, none⟩)]]) tabOK rfl rfl rfl rfl rfl (own_cell1 rfl)) ?_
 refine WpG.g tabOK 5 rfl ?_
 refine WpG.callS rfl rfl rfl rfl rfl rfl hlr (hFind3_calls (hc6.mono ((hH10.trans hH15).trans hH16)) hc16 (hc15.mono hH16)) ?_
 refine WpG.alloc tabOK rfl rfl rfl rfl rfl (fun b21 => ?_)
 refine WpG.storeBox (ci := 0) (cs' := [.int .i64 a, .int .i64 (-1), .int .i64 (nth (nth f.blocks a).en.to 1), .int .i64 (nth (nth f.blocks a).en.to 0)]) tabOK rfl rfl rfl rfl rfl rfl rfl rfl rfl ?_
 refine WpG.g tabOK 3 rfl ?_
 refine WpG.y rfl rfl rfl rfl (RunY.loadH tabOK hc2 ((((hH4.trans hH6).trans hH10).trans hH15).trans hH16) rfl rfl rfl rfl) ?_
 refine WpG.y rfl rfl rfl rfl (RunY.loadH tabOK hc4 (((hH6.trans hH10).trans hH15).trans hH16) rfl rfl rfl rfl) ?_
 refine WpG.y rfl rfl rfl rfl (RunY.loadBox (ci := 0) tabOK rfl rfl rfl rfl) ?_
 refine WpG.callS rfl rfl rfl rfl rfl rfl hlr (hIs_calls (Rdc.mono (((((hH2.trans hH4).trans hH6).trans hH10).trans hH15).trans hH16) rd_f') (Rdc.mono (((((hH2.trans hH4).trans hH6).trans hH10).trans hH15).trans hH16) rd_gr') hg ⟨a, (-1), (nth (nth f.blocks a).en.to 1), (nth (nth f.blocks a).en.to 0)⟩ ha) ?_
 refine WpG.g tabOK 1 rfl ?_
 refine WpG.caseB (t := 48) rfl (fun q48_3 => ?_) (fun q48_3 => ?_)
 ·refine WpG.g tabOK 3 rfl ?_
  refine WpG.y rfl rfl rfl rfl (RunY.loadBox (ci := 0) tabOK rfl rfl rfl rfl) ?_
  refine WpG.storeBox (ci := 4) (cs' := [.int .i64 a, .int .i64 (-1), .int .i64 (nth (nth f.blocks a).en.to 1), .int .i64 (nth (nth f.blocks a).en.to 0)]) tabOK rfl rfl rfl rfl rfl rfl rfl rfl rfl ?_
  refine WpG.g tabOK 2 rfl ?_
  exact WpG.ret tabOK (L' := []) (.cell (ci := 4) rfl rfl rfl rfl (.tmp rfl .nil)) (.cons _ (.cons _ (.cons _ (.cons _ (.cons _ .slnil))))) ⟨by rw [show findD f gr a = (way2 f a, true) from by unfold findD; rw [if_pos q23, if_neg (show ¬ isD f gr (way0 f a) = true from by rw [show isD f gr (way0 f a) = false from q48]; simp), if_neg (show ¬ isD f gr (way1 f a) = true from by rw [show isD f gr (way1 f a) = false from q48_2]; simp), if_pos (show isD f gr (way2 f a) = true from q48_3)]]; rfl, rfl⟩
 refine WpG.gw tabOK 5 50 (v := .int .i64 3) rfl rfl ?_
 refine WpG.g tabOK 3 rfl ?_
 refine WpG.g tabOK 10 rfl ?_
 refine WpG.storeBox (ci := 4) (cs' := [.int .i64 0, .int .i64 0, .int .i64 0, .int .i64 0]) tabOK rfl rfl rfl rfl rfl rfl rfl rfl rfl ?_
 refine WpG.g tabOK 2 rfl ?_
 exact WpG.ret tabOK (L' := []) (.cell (ci := 4) rfl rfl rfl rfl (.tmp rfl .nil)) (.cons _ (.cons _ (.cons _ (.cons _ (.cons _ .slnil))))) ⟨by rw [show findD f gr a = (noneH, false) from by unfold findD; rw [if_pos q23, if_neg (show ¬ isD f gr (way0 f a) = true from by rw [show isD f gr (way0 f a) = false from q48]; simp), if_neg (show ¬ isD f gr (way1 f a) = true from by rw [show isD f gr (way1 f a) = false from q48_2]; simp), if_neg (show ¬ isD f gr (way2 f a) = true from by rw [show isD f gr (way2 f a) = false from q48_3]; simp)]]; rfl, rfl⟩
end Go.Proofs.YtakameggkkjcpaaGreat
set_option maxRecDepth 4000
namespace Go.Proofs.YtakameggkkjcpaaGreat
open Go Go.RowKit
theorem HFind_calls {H : Hp} {f : FuncD} {cs_f : List Value} (rd_f : Rdc.rd H cs_f f) (a : Int) (ha : I64 a) : CallG Tryz.prog 10 [.agg cs_f.toArray, .int .i64 a] H [] (fun v _ L' => v = .tuple #[hamV (findH f a).1, .bool (findH f a).2] ∧ HasT f ∧ L' = []) := by
 have rd_f' := rd_f; obtain ⟨A_f_0, c_f_0, A_f_2, c_f_2, rfl, u_f_0, r_f_0, u_f_2, r_f_2, k_f_0⟩ := rd_f
 have bf := r_f_2.1
 refine CallG.of Tryz.func10 rfl rfl rfl fun w0 => ?_
 refine WpG.g tabOK 2 rfl ?_
 refine WpG.box rfl rfl rfl rfl rfl (fun b1 => ?_)
 refine WpG.freezeBox (ci := 0) rfl (fun H2 hH2 hc2 => ?_)
 refine WpG.alloc tabOK rfl rfl rfl rfl rfl (fun b3 => ?_)
 refine WpG.g tabOK 4 rfl ?_
 refine WpG.y rfl rfl rfl rfl (RunY.loadH tabOK hc2 hlr rfl rfl rfl rfl) ?_
 refine WpG.call0 rfl rfl rfl rfl rfl rfl (hRight_calls (Rdc.mono hH2 rd_f')) ?_
 rintro _ H4 L1 hH4 ⟨hT, (⟨hok, rfl⟩ | ⟨hok, Ag, cg, Ag', cg', rfl, uga, rga, ugb, rgb⟩), rfl⟩
 ·have hg := True.intro
  refine WpG.g tabOK 3 rfl ?_
  refine WpG.alloc tabOK rfl rfl rfl rfl rfl (fun b5 => ?_)
  refine WpG.storeBox (ci := 0) (cs' := [.slice none 0 0, .slice none 0 0]) tabOK rfl rfl rfl rfl rfl rfl rfl rfl rfl ?_
  refine WpG.freezeBox (ci := 0) rfl (fun H6 hH6 hc6 => ?_)
  refine WpG.g tabOK 4 rfl ?_
  apply WpG.join (G := [(1, .int .i64 a), (2, .pointer (some ⟨b1, 0, none⟩)), (4, .pointer (some ⟨b3, 0, none⟩)), (6, .pointer (some ⟨b5, 0, none⟩)), (25, .bool true)])
  ·intro nx7
   refine WpG.g tabOK 1 rfl ?_
   refine WpG.g tabOK 14 rfl ?_
   exact nx7.weak ⟨rfl, rfl, rfl, rfl, rfl, trivial⟩
  refine WpG.g tabOK 4 rfl ?_
  refine WpG.storeBox (ci := 0) (cs' := [.int .i64 0, .int .i64 0, .int .i64 0, .int .i64 0]) tabOK rfl rfl rfl rfl rfl rfl rfl rfl rfl ?_
  refine WpG.g tabOK 2 rfl ?_
  exact WpG.ret tabOK (L' := []) (.cell (ci := 0) rfl rfl rfl rfl (.tmp rfl .nil)) (.cons _ .slnil) ⟨by rw [show findH f a = (noneH, false) from by unfold findH; rw [if_neg (by simp [hok])]]; rfl, hT, rfl⟩
 have hg := (okF_gg hok).1; have hB := (okF_gg hok).2.1
 refine WpG.g tabOK 3 rfl ?_
 refine WpG.alloc tabOK rfl rfl rfl rfl rfl (fun b8 => ?_)
 refine WpG.storeBox (ci := 0) (cs' := [.slice Ag ((ofD f).1.succ.length) cg, .slice Ag' ((ofD f).1.pred.length) cg']) tabOK rfl rfl rfl rfl rfl rfl rfl rfl rfl ?_
 refine WpG.freezeBox (ci := 0) rfl (fun H9 hH9 hc9 => ?_)
 refine WpG.g tabOK 4 rfl ?_
 apply WpG.join (G := [(1, .int .i64 a), (2, .pointer (some ⟨b1, 0, none⟩)), (4, .pointer (some ⟨b3, 0, none⟩)), (6, .pointer (some ⟨b8, 0, none⟩)), (25, .bool ((decide (a < 0)) || (decide (a ≥ (f.blocks.length : Int)))))])
 ·intro nx10
  refine WpG.g tabOK 1 rfl ?_
  refine WpG.g tabOK 7 rfl ?_
  refine WpG.caseD (t := 19) rfl (fun q19 => ?_) (fun q19 => ?_)
  ·refine WpG.g tabOK 7 rfl ?_
   exact nx10.weak ⟨rfl, rfl, rfl, rfl, bq (by simp [q19]), trivial⟩
  refine WpG.g tabOK 2 rfl ?_
  refine WpG.y rfl rfl rfl rfl (RunY.loadH tabOK (hc2.sub 2 1) (hH4.trans hH9) rfl rfl rfl rfl) ?_
  refine WpG.g tabOK 4 rfl ?_
  exact nx10.weak ⟨rfl, rfl, rfl, rfl, bq (by simp [q19]), trivial⟩
 refine WpG.caseB (t := 25) rfl (fun q25 => ?_) (fun q25 => ?_)
 ·have hx : a < 0 ∨ a ≥ f.blocks.length := by simpa using q25
  refine WpG.g tabOK 4 rfl ?_
  refine WpG.storeBox (ci := 0) (cs' := [.int .i64 0, .int .i64 0, .int .i64 0, .int .i64 0]) tabOK rfl rfl rfl rfl rfl rfl rfl rfl rfl ?_
  refine WpG.g tabOK 2 rfl ?_
  exact WpG.ret tabOK (L' := []) (.cell (ci := 0) rfl rfl rfl rfl (.tmp rfl .nil)) (.cons _ .slnil) ⟨by rw [show findH f a = (noneH, false) from by unfold findH; rw [if_neg (by omega)]]; rfl, hT, rfl⟩
 have hx : ¬ (a < 0 ∨ a ≥ f.blocks.length) := by simpa using q25
 refine WpG.g tabOK 4 rfl ?_
 refine WpG.y rfl rfl rfl rfl (RunY.loadH tabOK hc2 (hH4.trans hH9) rfl rfl rfl rfl) ?_
 refine WpG.y rfl rfl rfl rfl (RunY.loadH tabOK hc9 hlr rfl rfl rfl rfl) ?_
 refine WpG.g tabOK 1 rfl ?_
 refine WpG.callS rfl rfl rfl rfl rfl rfl hlr (hFind_calls (Rdc.mono ((hH2.trans hH4).trans hH9) rd_f') (Rdc.mono hH9 ⟨_, _, _, _, rfl, uga, rga, ugb, rgb⟩) hg a ha (by omega) (by omega)) ?_
 refine WpG.g tabOK 2 rfl ?_
 refine WpG.storeBox (ci := 0) (cs' := [.int .i64 ((findD f (ofD f).1 a).1.at_), .int .i64 ((findD f (ofD f).1 a).1.thn), .int .i64 ((findD f (ofD f).1 a).1.els), .int .i64 ((findD f (ofD f).1 a).1.join)]) tabOK rfl rfl rfl rfl rfl rfl rfl rfl rfl ?_
 refine WpG.g tabOK 2 rfl ?_
 exact WpG.ret tabOK (L' := []) (.cell (ci := 0) rfl rfl rfl rfl (.tmp rfl .nil)) (.cons _ .slnil) ⟨by rw [show findH f a = findD f (ofD f).1 a from by unfold findH; exact if_pos ⟨hok, by omega, by omega⟩]; rfl, hT, rfl⟩
theorem HIs_calls {H : Hp} {f : FuncD} {cs_f : List Value} (rd_f : Rdc.rd H cs_f f) (h : HamD) (ha : I64 h.at_) : CallG Tryz.prog 12 [.agg cs_f.toArray, hamV h] H [] (fun v _ L' => v = .bool (isH f h) ∧ HasT f ∧ L' = []) := by
 have rd_f' := rd_f; obtain ⟨A_f_0, c_f_0, A_f_2, c_f_2, rfl, u_f_0, r_f_0, u_f_2, r_f_2, k_f_0⟩ := rd_f
 have bf := r_f_2.1
 refine CallG.of Tryz.func12 rfl rfl rfl fun w0 => ?_
 refine WpG.g tabOK 2 rfl ?_
 refine WpG.box rfl rfl rfl rfl rfl (fun b1 => ?_)
 refine WpG.freezeBox (ci := 0) rfl (fun H2 hH2 hc2 => ?_)
 refine WpG.box rfl rfl rfl rfl rfl (fun b3 => ?_)
 refine WpG.freezeBox (ci := 0) rfl (fun H4 hH4 hc4 => ?_)
 refine WpG.g tabOK 4 rfl ?_
 refine WpG.y rfl rfl rfl rfl (RunY.loadH tabOK hc2 hH4 rfl rfl rfl rfl) ?_
 refine WpG.call0 rfl rfl rfl rfl rfl rfl (hRight_calls (Rdc.mono (hH2.trans hH4) rd_f')) ?_
 rintro _ H5 L1 hH5 ⟨hT, (⟨hok, rfl⟩ | ⟨hok, Ag, cg, Ag', cg', rfl, uga, rga, ugb, rgb⟩), rfl⟩
 ·have hg := True.intro
  refine WpG.g tabOK 3 rfl ?_
  refine WpG.alloc tabOK rfl rfl rfl rfl rfl (fun b6 => ?_)
  refine WpG.storeBox (ci := 0) (cs' := [.slice none 0 0, .slice none 0 0]) tabOK rfl rfl rfl rfl rfl rfl rfl rfl rfl ?_
  refine WpG.freezeBox (ci := 0) rfl (fun H7 hH7 hc7 => ?_)
  refine WpG.g tabOK 13 rfl ?_
  exact WpG.ret tabOK (L' := []) (.tmp rfl .nil) .slnil ⟨congrArg Value.bool (by unfold isH; rw [hok]; rfl), hT, rfl⟩
 have hg := (okF_gg hok).1; have hB := (okF_gg hok).2.1
 refine WpG.g tabOK 3 rfl ?_
 refine WpG.alloc tabOK rfl rfl rfl rfl rfl (fun b8 => ?_)
 refine WpG.storeBox (ci := 0) (cs' := [.slice Ag ((ofD f).1.succ.length) cg, .slice Ag' ((ofD f).1.pred.length) cg']) tabOK rfl rfl rfl rfl rfl rfl rfl rfl rfl ?_
 refine WpG.freezeBox (ci := 0) rfl (fun H9 hH9 hc9 => ?_)
 refine WpG.g tabOK 3 rfl ?_
 apply WpG.join (G := [(4, .bool (isD f ((ofD f).1) ⟨h.at_, h.thn, h.els, h.join⟩))])
 ·intro nx10
  refine WpG.g tabOK 1 rfl ?_
  refine WpG.g tabOK 2 rfl ?_
  refine WpG.y rfl rfl rfl rfl (RunY.loadH tabOK hc2 ((hH4.trans hH5).trans hH9) rfl rfl rfl rfl) ?_
  refine WpG.y rfl rfl rfl rfl (RunY.loadH tabOK hc9 hlr rfl rfl rfl rfl) ?_
  refine WpG.y rfl rfl rfl rfl (RunY.loadH tabOK hc4 (hH5.trans hH9) rfl rfl rfl rfl) ?_
  refine WpG.callS rfl rfl rfl rfl rfl rfl hlr (hIs_calls (Rdc.mono (((hH2.trans hH4).trans hH5).trans hH9) rd_f') (Rdc.mono hH9 ⟨_, _, _, _, rfl, uga, rga, ugb, rgb⟩) hg ⟨h.at_, h.thn, h.els, h.join⟩ ha) ?_
  refine WpG.g tabOK 3 rfl ?_
  exact nx10.weak ⟨rfl, trivial⟩
 exact WpG.ret tabOK (L' := []) (.tmp rfl .nil) .slnil ⟨congrArg Value.bool (by unfold isH; rw [hok]; rfl), hT, rfl⟩
set_option maxHeartbeats 1000000 in
theorem HAll_calls {H : Hp} {f : FuncD} {cs_f : List Value} (rd_f : Rdc.rd H cs_f f) : CallG Tryz.prog 18 [.agg cs_f.toArray] H [] (fun v H' L' => HasT f ∧ ∃ A c, v = .slice A (allH f).length c ∧ (allH f).length ≤ c ∧ RdS H' A (allH f) ∧ L' = []) := by
 have rd_f' := rd_f; obtain ⟨A_f_0, c_f_0, A_f_2, c_f_2, rfl, u_f_0, r_f_0, u_f_2, r_f_2, k_f_0⟩ := rd_f
 have bf := r_f_2.1
 refine CallG.of Tryz.func18 rfl rfl rfl fun w0 => ?_
 refine WpG.g tabOK 2 rfl ?_
 refine WpG.box rfl rfl rfl rfl rfl (fun b1 => ?_)
 refine WpG.freezeBox (ci := 0) rfl (fun H2 hH2 hc2 => ?_)
 refine WpG.g tabOK 5 rfl ?_
 refine WpG.y rfl rfl rfl rfl (RunY.loadH tabOK hc2 hlr rfl rfl rfl rfl) ?_
 refine WpG.call0 rfl rfl rfl rfl rfl rfl (hRight_calls (Rdc.mono hH2 rd_f')) ?_
 rintro _ H3 L1 hH3 ⟨hT, (⟨hok, rfl⟩ | ⟨hok, Ag, cg, Ag', cg', rfl, uga, rga, ugb, rgb⟩), rfl⟩
 ·have hg := True.intro
  refine WpG.g tabOK 3 rfl ?_
  refine WpG.alloc tabOK rfl rfl rfl rfl rfl (fun b4 => ?_)
  refine WpG.storeBox (ci := 0) (cs' := [.slice none 0 0, .slice none 0 0]) tabOK rfl rfl rfl rfl rfl rfl rfl rfl rfl ?_
  refine WpG.freezeBox (ci := 0) rfl (fun H5 hH5 hc5 => ?_)
  refine WpG.g tabOK 13 rfl ?_
  exact WpG.ret tabOK (L' := []) (.tmp rfl .nil) .slnil ⟨hT, none, 0, by rw [show allH f = [] from by unfold allH; rw [if_neg (by rw [hok]; simp)]]; rfl, by rw [show allH f = [] from by unfold allH; rw [if_neg (by rw [hok]; simp)]]; exact Nat.le_refl 0, by rw [show allH f = [] from by unfold allH; rw [if_neg (by rw [hok]; simp)]]; exact RdS.nil _ _, rfl⟩
 have hg := (okF_gg hok).1; have hB := (okF_gg hok).2.1
 refine WpG.g tabOK 3 rfl ?_
 refine WpG.alloc tabOK rfl rfl rfl rfl rfl (fun b6 => ?_)
 refine WpG.storeBox (ci := 0) (cs' := [.slice Ag ((ofD f).1.succ.length) cg, .slice Ag' ((ofD f).1.pred.length) cg']) tabOK rfl rfl rfl rfl rfl rfl rfl rfl rfl ?_
 refine WpG.freezeBox (ci := 0) rfl (fun H7 hH7 hc7 => ?_)
 refine WpG.g tabOK 20 rfl ?_
 refine WpG.y rfl rfl rfl rfl (RunY.loadH tabOK (hc2.sub 2 1) (hH3.trans hH7) rfl rfl rfl rfl) ?_
 refine WpG.g tabOK 5 rfl ?_
 refine WpG.ownNil 27 4 ?_
 refine WpG.wk (WpG.ind5 (fun (i : Int) (A1 : Option Addr) (n1 : Nat) (c1 : Nat) (l1 : List HamD) => ⟨(f.blocks.length - i).toNat, [(1, .pointer (some ⟨b1, 0, none⟩)), (3, .pointer (some ⟨b6, 0, none⟩)), (5, .slice A1 n1 c1), (18, .int .i64 (f.blocks.length : Int)), (19, .int .i64 i)], H7, [Chunk.own 27 4 A1 c1 n1 (flatH l1)], 0 ≤ i ∧ i ≤ f.blocks.length ∧ l1 = allTo f (ofD f).1 i.toNat ∧ n1 = l1.length ∧ AllH l1⟩) ?_ 0 none 0 0 [] ⟨by omega, by omega, rfl, rfl, AllH_nil⟩) rfl
 intro i A1 n1 c1 l1 inv ih1
 obtain ⟨i0, i1, i2, i3, i4⟩ := inv
 have hb1 := hB.b1; have hle : l1.length ≤ i.toNat := by rw [i2]; exact allTo_len f (ofD f).1 i.toNat
 refine WpG.g tabOK 5 rfl ?_
 refine WpG.caseD (t := 20) rfl (fun q20 => ?_) (fun q20 => ?_)
 ·refine WpG.g tabOK 11 rfl ?_
  refine WpG.y rfl rfl rfl rfl (RunY.loadH tabOK hc2 (hH3.trans hH7) rfl rfl rfl rfl) ?_
  refine WpG.y rfl rfl rfl rfl (RunY.loadH tabOK hc7 hlr rfl rfl rfl rfl) ?_
  refine WpG.g tabOK 1 rfl ?_
  refine WpG.callS rfl rfl rfl rfl rfl rfl hlr (hFind_calls (Rdc.mono ((hH2.trans hH3).trans hH7) rd_f') (Rdc.mono hH7 ⟨_, _, _, _, rfl, uga, rga, ugb, rgb⟩) hg i (i64s i0 (by omega)) i0 (by omega)) ?_
  refine WpG.g tabOK 3 rfl ?_
  refine WpG.alloc tabOK rfl rfl rfl rfl rfl (fun b8 => ?_)
  refine WpG.storeBox (ci := 0) (cs' := [.int .i64 ((findD f (ofD f).1 i).1.at_), .int .i64 ((findD f (ofD f).1 i).1.thn), .int .i64 ((findD f (ofD f).1 i).1.els), .int .i64 ((findD f (ofD f).1 i).1.join)]) tabOK rfl rfl rfl rfl rfl rfl rfl rfl rfl ?_
  refine WpG.g tabOK 8 rfl ?_
  refine WpG.caseBn (t := 30) rfl (fun q30 => ?_) (fun q30 => ?_)
  ·refine WpG.gw tabOK 4 35 rfl (wrk (x := i + 1) (by omega) (by omega)) ?_
   refine WpG.g tabOK 3 rfl ?_
   refine WpG.dropL (L' := [Chunk.own 27 4 A1 c1 n1 (flatH l1)]) (.cons _ (.cons_cons _ .slnil)) ?_
   refine WpG.wk (ih1 (i + 1) A1 n1 c1 l1 ?_ ?_) rfl
   ·dsimp only
    omega
   clear ih1
   exact ⟨by omega, by omega, by rw [allTo_no i0 q30]; exact i2, i3, i4⟩
  refine WpG.g tabOK 4 rfl ?_
  refine WpG.y rfl rfl rfl rfl (RunY.loadBox (ci := 0) tabOK rfl rfl rfl rfl) ?_
  refine WpG.buildSlice (xs := [.int .i64 ((findD f (ofD f).1 i).1.at_), .int .i64 ((findD f (ofD f).1 i).1.thn), .int .i64 ((findD f (ofD f).1 i).1.els), .int .i64 ((findD f (ofD f).1 i).1.join)]) tabOK rfl rfl rfl rfl rfl rfl rfl rfl rfl rfl (fun b9 => ?_)
  refine WpG.append (ci := 2) tabOK rfl rfl rfl rfl rfl rfl rfl rfl rfl rfl rfl rfl (Src.own (ci := 0) rfl) (by omega) (fun A11 c12 => ?_)
  refine WpG.dropL (L' := [Chunk.box b8 [.int .i64 ((findD f (ofD f).1 i).1.at_), .int .i64 ((findD f (ofD f).1 i).1.thn), .int .i64 ((findD f (ofD f).1 i).1.els), .int .i64 ((findD f (ofD f).1 i).1.join)] 27, Chunk.own 27 4 A11 c12 (n1 + 1) ((flatH l1) ++ [.int .i64 ((findD f (ofD f).1 i).1.at_), .int .i64 ((findD f (ofD f).1 i).1.thn), .int .i64 ((findD f (ofD f).1 i).1.els), .int .i64 ((findD f (ofD f).1 i).1.join)])]) (.cons _ (.cons_cons _ (.cons_cons _ .slnil))) ?_
  refine WpG.setL (L' := [Chunk.box b8 [.int .i64 ((findD f (ofD f).1 i).1.at_), .int .i64 ((findD f (ofD f).1 i).1.thn), .int .i64 ((findD f (ofD f).1 i).1.els), .int .i64 ((findD f (ofD f).1 i).1.join)] 27, Chunk.own 27 4 A11 c12 (n1 + 1) (flatH (l1 ++ [(⟨(findD f (ofD f).1 i).1.at_, (findD f (ofD f).1 i).1.thn, (findD f (ofD f).1 i).1.els, (findD f (ofD f).1 i).1.join⟩ : HamD)]))]) (by rw [flatH_snoc]) ?_
  refine WpG.gw tabOK 5 35 rfl (wrk (x := i + 1) (by omega) (by omega)) ?_
  refine WpG.g tabOK 3 rfl ?_
  refine WpG.dropL (L' := [Chunk.own 27 4 A11 c12 (n1 + 1) (flatH (l1 ++ [(⟨(findD f (ofD f).1 i).1.at_, (findD f (ofD f).1 i).1.thn, (findD f (ofD f).1 i).1.els, (findD f (ofD f).1 i).1.join⟩ : HamD)]))]) (.cons _ (.cons_cons _ .slnil)) ?_
  refine WpG.wk (ih1 (i + 1) A11 (n1 + 1) c12 (l1 ++ [(⟨(findD f (ofD f).1 i).1.at_, (findD f (ofD f).1 i).1.thn, (findD f (ofD f).1 i).1.els, (findD f (ofD f).1 i).1.join⟩ : HamD)]) ?_ ?_) rfl
  ·dsimp only
   omega
  clear ih1
  exact ⟨by omega, by omega, by rw [allTo_yes i0 q30, ← i2], by rw [List.length_append, ← i3]; rfl, AllH_snoc i4 (is_IH hb1 (find_is q30).1)⟩
 refine WpG.g tabOK 7 rfl ?_
 refine WpG.ownCap (ci := 0) rfl (fun uz13 => ?_)
 refine WpG.freezeOwn (ci := 0) rfl (fun H13 hH13 fz13 => ?_)
 have rz13 : RdS H13 A1 l1 := RdS.of_own (H := H7) (show RdL H7 (flatH l1) l1 from RdL_hams _ i4) (i3) (by have := allTo_len f (ofD f).1 i.toNat; rw [← i2] at this; omega) hH13 fz13
 exact WpG.ret tabOK (L' := []) (.tmp rfl .nil) .slnil ⟨hT, rows_retG (by rw [i2]; unfold allH; rw [if_pos hok, show i.toNat = f.blocks.length from by omega]) i3 uz13 rz13⟩
end Go.Proofs.YtakameggkkjcpaaGreat
set_option maxRecDepth 4000
namespace Go.Proofs.YtakameggkkjcpaaGreat
open Go Go.RowKit
theorem hOps_calls {H : Hp} {f : FuncD} {cs_f : List Value} (rd_f : Rdc.rd H cs_f f) (h : HamD) (hi1 : I64 h.thn) (hi2 : I64 h.els) (ho1 : h.thn = -1 ∨ (0 ≤ h.thn ∧ h.thn < f.blocks.length)) (ho2 : h.els = -1 ∨ (0 ≤ h.els ∧ h.els < f.blocks.length)) (hbo : ∀ x ∈ f.blocks, x.ops.length ≤ 512) : CallG Tryz.prog 33 [.agg cs_f.toArray, hamV h] H [] (fun v H' L' => ∃ A c, v = .slice A (opsD f h).length c ∧ (opsD f h).length ≤ c ∧ RdS H' A (opsD f h) ∧ L' = []) := by
 have rd_f' := rd_f; obtain ⟨A_f_0, c_f_0, A_f_2, c_f_2, rfl, u_f_0, r_f_0, u_f_2, r_f_2, k_f_0⟩ := rd_f
 have bf := r_f_2.1
 refine CallG.of Tryz.func33 rfl rfl rfl fun w0 => ?_
 refine WpG.g tabOK 2 rfl ?_
 refine WpG.box rfl rfl rfl rfl rfl (fun b1 => ?_)
 refine WpG.freezeBox (ci := 0) rfl (fun H2 hH2 hc2 => ?_)
 refine WpG.box rfl rfl rfl rfl rfl (fun b3 => ?_)
 refine WpG.freezeBox (ci := 0) rfl (fun H4 hH4 hc4 => ?_)
 refine WpG.g tabOK 10 rfl ?_
 refine WpG.y rfl rfl rfl rfl (RunY.loadH tabOK (hc4.sub 1 1) hlr rfl rfl rfl rfl) ?_
 refine WpG.g tabOK 1 rfl ?_
 refine WpG.y rfl rfl rfl rfl (RunY.loadH tabOK (hc4.sub 2 1) hlr rfl rfl rfl rfl) ?_
 refine WpG.buildSlice (xs := [.int .i64 h.thn, .int .i64 h.els]) tabOK rfl rfl rfl rfl rfl rfl rfl rfl rfl rfl (fun b5 => ?_)
 refine WpG.g tabOK 5 rfl ?_
 refine WpG.g tabOK 11 rfl ?_
 refine WpG.y rfl rfl rfl rfl (RunY.indexAddr tabOK rfl rfl rfl rfl rfl (by decide) (by decide)) ?_
 refine WpG.y rfl rfl rfl rfl (RunY.loadOwn (ci := 0) (cs := [.int .i64 h.thn]) tabOK rfl rfl rfl rfl rfl (own_cell1 rfl)) ?_
 refine WpG.g tabOK 7 rfl ?_
 refine WpG.caseN (t := 19) rfl (fun q19 => ?_) (fun q19 => ?_)
 ·have hbthn := hbo _ (nth_mem (xs := f.blocks) (i := h.thn) (by omega) (by omega))
  refine WpG.g tabOK 4 rfl ?_
  refine WpG.y rfl rfl rfl rfl (RunY.loadH tabOK (hc2.sub 2 1) hH4 rfl rfl rfl rfl) ?_
  refine WpG.g tabOK 1 rfl ?_
  refine WpG.indexR tabOK rfl rfl rfl rfl rfl rfl rfl rfl rfl r_f_2 (by omega) (by omega) ?_
  rintro x7 hx7 b7 o7 cs7 rd7 hc7
  have rd7' := rd7; obtain ⟨A7_0, c7_0, A7_1, c7_1, A7_4, c7_4, rfl, u7_0, r7_0, u7_1, r7_1, u7_4, r7_4, k7_0, k7_1⟩ := rd7
  have bz7_0 := r7_0.1
  have bz7_1 := r7_1.1
  have bz7_4 := r7_4.1
  obtain rfl : x7 = (nth f.blocks h.thn) := hx7
  refine WpG.g tabOK 1 rfl ?_
  refine WpG.y rfl rfl rfl rfl (RunY.loadH tabOK (hc7.sub 1 1) (hH2.trans hH4) rfl rfl rfl rfl) ?_
  refine WpG.ownNil 53 6 ?_
  refine WpG.appendR (ci := 0) tabOK rfl rfl rfl rfl rfl rfl rfl rfl rfl rfl rfl r7_1 (hH2.trans hH4) (by omega) (fun A9 c10 cs11 hcs11 => ?_)
  refine WpG.gw tabOK 5 28 (v := .int .i64 1) rfl rfl ?_
  refine WpG.g tabOK 3 rfl ?_
  refine WpG.g tabOK 11 rfl ?_
  refine WpG.y rfl rfl rfl rfl (RunY.indexAddr tabOK rfl rfl rfl rfl rfl (by decide) (by decide)) ?_
  refine WpG.y rfl rfl rfl rfl (RunY.loadOwn (ci := 1) (cs := [.int .i64 h.els]) tabOK rfl rfl rfl rfl rfl (own_cell1 rfl)) ?_
  refine WpG.g tabOK 7 rfl ?_
  refine WpG.caseN (t := 19) rfl (fun q19_2 => ?_) (fun q19_2 => ?_)
  ·have hbels := hbo _ (nth_mem (xs := f.blocks) (i := h.els) (by omega) (by omega))
   refine WpG.g tabOK 4 rfl ?_
   refine WpG.y rfl rfl rfl rfl (RunY.loadH tabOK (hc2.sub 2 1) hH4 rfl rfl rfl rfl) ?_
   refine WpG.g tabOK 1 rfl ?_
   refine WpG.indexR tabOK rfl rfl rfl rfl rfl rfl rfl rfl rfl r_f_2 (by omega) (by omega) ?_
   rintro x12 hx12 b12 o12 cs12 rd12 hc12
   have rd12' := rd12; obtain ⟨A12_0, c12_0, A12_1, c12_1, A12_4, c12_4, rfl, u12_0, r12_0, u12_1, r12_1, u12_4, r12_4, k12_0, k12_1⟩ := rd12
   have bz12_0 := r12_0.1
   have bz12_1 := r12_1.1
   have bz12_4 := r12_4.1
   obtain rfl : x12 = (nth f.blocks h.els) := hx12
   refine WpG.g tabOK 1 rfl ?_
   refine WpG.y rfl rfl rfl rfl (RunY.loadH tabOK (hc12.sub 1 1) (hH2.trans hH4) rfl rfl rfl rfl) ?_
   refine WpG.appendR (ci := 0) tabOK rfl rfl rfl rfl rfl rfl rfl rfl rfl rfl rfl r12_1 (hH2.trans hH4) (by omega) (fun A13 c14 cs15 hcs15 => ?_)
   refine WpG.gw tabOK 5 28 (v := .int .i64 2) rfl rfl ?_
   refine WpG.g tabOK 3 rfl ?_
   refine WpG.g tabOK 12 rfl ?_
   refine WpG.ownCap (ci := 0) rfl (fun uz16 => ?_)
   refine WpG.freezeOwn (ci := 0) rfl (fun H16 hH16 fz16 => ?_)
   have rz16 : RdS H16 A13 ((nth f.blocks h.thn).ops ++ ((nth f.blocks h.els).ops)) := RdS.of_own (H := H4) (show RdL H4 (cs11 ++ cs15) ((nth f.blocks h.thn).ops ++ ((nth f.blocks h.els).ops)) from (RdL.append hcs11 hcs15)) ((by simp)) (by (try simp only [List.length_append]); omega) hH16 fz16
   exact WpG.ret tabOK (L' := []) (.tmp rfl .nil) (.cons _ .slnil) (rows_retG (by rw [show opsD f h = (nth f.blocks h.thn).ops ++ (nth f.blocks h.els).ops from by unfold opsD; rw [if_neg q19, if_neg q19_2]]) (by simp) uz16 rz16)
  refine WpG.gw tabOK 5 28 (v := .int .i64 2) rfl rfl ?_
  refine WpG.g tabOK 3 rfl ?_
  refine WpG.g tabOK 12 rfl ?_
  refine WpG.ownCap (ci := 0) rfl (fun uz17 => ?_)
  refine WpG.freezeOwn (ci := 0) rfl (fun H17 hH17 fz17 => ?_)
  have rz17 : RdS H17 A9 ((nth f.blocks h.thn).ops) := RdS.of_own (H := H4) (show RdL H4 cs11 ((nth f.blocks h.thn).ops) from hcs11) ((by simp)) (by (try simp only [List.length_append]); omega) hH17 fz17
  exact WpG.ret tabOK (L' := []) (.tmp rfl .nil) (.cons _ .slnil) (rows_retG (by rw [show opsD f h = (nth f.blocks h.thn).ops from by unfold opsD; rw [if_neg q19, if_pos q19_2]; simp]) (by simp) uz17 rz17)
 refine WpG.gw tabOK 5 28 (v := .int .i64 1) rfl rfl ?_
 refine WpG.g tabOK 3 rfl ?_
 refine WpG.g tabOK 11 rfl ?_
 refine WpG.y rfl rfl rfl rfl (RunY.indexAddr tabOK rfl rfl rfl rfl rfl (by decide) (by decide)) ?_
 refine WpG.y rfl rfl rfl rfl (RunY.loadOwn (ci := 0) (cs := [.int .i64 h.els]) tabOK rfl rfl rfl rfl rfl (own_cell1 rfl)) ?_
 refine WpG.g tabOK 7 rfl ?_
 refine WpG.caseN (t := 19) rfl (fun q19_2 => ?_) (fun q19_2 => ?_)
 ·have hbels := hbo _ (nth_mem (xs := f.blocks) (i := h.els) (by omega) (by omega))
  refine WpG.g tabOK 4 rfl ?_
  refine WpG.y rfl rfl rfl rfl (RunY.loadH tabOK (hc2.sub 2 1) hH4 rfl rfl rfl rfl) ?_
  refine WpG.g tabOK 1 rfl ?_
  refine WpG.indexR tabOK rfl rfl rfl rfl rfl rfl rfl rfl rfl r_f_2 (by omega) (by omega) ?_
  rintro x18 hx18 b18 o18 cs18 rd18 hc18
  have rd18' := rd18; obtain ⟨A18_0, c18_0, A18_1, c18_1, A18_4, c18_4, rfl, u18_0, r18_0, u18_1, r18_1, u18_4, r18_4, k18_0, k18_1⟩ := rd18
  have bz18_0 := r18_0.1
  have bz18_1 := r18_1.1
  have bz18_4 := r18_4.1
  obtain rfl : x18 = (nth f.blocks h.els) := hx18
  refine WpG.g tabOK 1 rfl ?_
  refine WpG.y rfl rfl rfl rfl (RunY.loadH tabOK (hc18.sub 1 1) (hH2.trans hH4) rfl rfl rfl rfl) ?_
  refine WpG.ownNil 53 6 ?_
  refine WpG.appendR (ci := 0) tabOK rfl rfl rfl rfl rfl rfl rfl rfl rfl rfl rfl r18_1 (hH2.trans hH4) (by omega) (fun A20 c21 cs22 hcs22 => ?_)
  refine WpG.gw tabOK 5 28 (v := .int .i64 2) rfl rfl ?_
  refine WpG.g tabOK 3 rfl ?_
  refine WpG.g tabOK 12 rfl ?_
  refine WpG.ownCap (ci := 0) rfl (fun uz23 => ?_)
  refine WpG.freezeOwn (ci := 0) rfl (fun H23 hH23 fz23 => ?_)
  have rz23 : RdS H23 A20 ((nth f.blocks h.els).ops) := RdS.of_own (H := H4) (show RdL H4 cs22 ((nth f.blocks h.els).ops) from hcs22) ((by simp)) (by (try simp only [List.length_append]); omega) hH23 fz23
  exact WpG.ret tabOK (L' := []) (.tmp rfl .nil) (.cons _ .slnil) (rows_retG (by rw [show opsD f h = (nth f.blocks h.els).ops from by unfold opsD; rw [if_pos q19, if_neg q19_2]; simp]) (by simp) uz23 rz23)
 refine WpG.gw tabOK 5 28 (v := .int .i64 2) rfl rfl ?_
 refine WpG.g tabOK 3 rfl ?_
 refine WpG.g tabOK 12 rfl ?_
 exact WpG.ret tabOK (L' := []) (.tmp rfl .nil) (.cons _ .slnil) ⟨none, 0, by rw [show opsD f h = [] from by unfold opsD; rw [if_pos q19, if_pos q19_2]; rfl]; rfl, by rw [show opsD f h = [] from by unfold opsD; rw [if_pos q19, if_pos q19_2]; rfl]; exact Nat.le_refl 0, by rw [show opsD f h = [] from by unfold opsD; rw [if_pos q19, if_pos q19_2]; rfl]; exact RdS.nil _ _, rfl⟩
theorem HCost_calls {H : Hp} {f : FuncD} {cs_f : List Value} (rd_f : Rdc.rd H cs_f f) (h : HamD) (hi : IH h) : CallG Tryz.prog 17 [.agg cs_f.toArray, hamV h] H [] (fun v _ L' => v = .int .i64 (costH f h) ∧ HasT f ∧ L' = []) := by
 have rd_f' := rd_f; obtain ⟨A_f_0, c_f_0, A_f_2, c_f_2, rfl, u_f_0, r_f_0, u_f_2, r_f_2, k_f_0⟩ := rd_f
 have bf := r_f_2.1
 refine CallG.of Tryz.func17 rfl rfl rfl fun w0 => ?_
 refine WpG.g tabOK 2 rfl ?_
 refine WpG.box rfl rfl rfl rfl rfl (fun b1 => ?_)
 refine WpG.freezeBox (ci := 0) rfl (fun H2 hH2 hc2 => ?_)
 refine WpG.box rfl rfl rfl rfl rfl (fun b3 => ?_)
 refine WpG.freezeBox (ci := 0) rfl (fun H4 hH4 hc4 => ?_)
 refine WpG.g tabOK 5 rfl ?_
 refine WpG.y rfl rfl rfl rfl (RunY.loadH tabOK hc2 hH4 rfl rfl rfl rfl) ?_
 refine WpG.y rfl rfl rfl rfl (RunY.loadH tabOK hc4 hlr rfl rfl rfl rfl) ?_
 refine WpG.call0 rfl rfl rfl rfl rfl rfl (HIs_calls (Rdc.mono (hH2.trans hH4) rd_f') ⟨h.at_, h.thn, h.els, h.join⟩ hi.1) ?_
 rintro _ H5 _ hH5 ⟨rfl, hT5, rfl⟩
 refine WpG.g tabOK 2 rfl ?_
 refine WpG.caseBn (t := 8) rfl (fun q8 => ?_) (fun q8 => ?_)
 ·refine WpG.g tabOK 5 rfl ?_
  exact WpG.ret tabOK (L' := []) (.tmp rfl .nil) .slnil ⟨congrArg (Value.int .i64) (cost_none q8).symm, hT5, rfl⟩
 have hd := is_gg q8
 refine WpG.g tabOK 4 rfl ?_
 refine WpG.y rfl rfl rfl rfl (RunY.loadH tabOK hc2 (hH4.trans hH5) rfl rfl rfl rfl) ?_
 refine WpG.y rfl rfl rfl rfl (RunY.loadH tabOK hc4 hH5 rfl rfl rfl rfl) ?_
 refine WpG.call0 rfl rfl rfl rfl rfl rfl (hOps_calls (Rdc.mono ((hH2.trans hH4).trans hH5) rd_f') h hi.2.1 hi.2.2.1 ((is_thn hd.2).imp id fun z => ⟨z.1, z.2.1⟩) ((is_els hd.2).imp id fun z => ⟨z.1, z.2.1⟩) (okF_gg hd.1).2.1.ops) ?_
 rintro _ H6 _ hH6 ⟨A6, c6, rfl, u6, r6, rfl⟩
 refine WpG.g tabOK 3 rfl ?_
 exact WpG.ret tabOK (L' := []) (.tmp rfl .nil) .slnil ⟨congrArg (Value.int .i64) (cost_len q8).symm, hT5, rfl⟩
theorem hMerges1_calls {H : Hp} {o : OpD} {cs_o : List Value} (rd_o : Rdc.rd H cs_o o) : CallG Tryz.prog 34 [.agg cs_o.toArray] H [] (fun v _ L' => v = .bool (dearO o) ∧ L' = []) := by
 have rd_o' := rd_o; obtain ⟨A_o_4, c_o_4, rfl, u_o_4, r_o_4, k_o_0, k_o_1, k_o_2, k_o_3, k_o_4⟩ := rd_o
 refine CallG.of Tryz.func34 rfl rfl rfl fun w0 => ?_
 refine WpG.g tabOK 2 rfl ?_
 refine WpG.box rfl rfl rfl rfl rfl (fun b1 => ?_)
 refine WpG.freezeBox (ci := 0) rfl (fun H2 hH2 hc2 => ?_)
 refine WpG.g tabOK 3 rfl ?_
 apply WpG.join (G := [(2, .bool ((decide (o.lanes > 1)) || (decide (o.kind > 20))))])
 ·intro nx3
  refine WpG.g tabOK 1 rfl ?_
  refine WpG.g tabOK 1 rfl ?_
  refine WpG.y rfl rfl rfl rfl (RunY.loadH tabOK (hc2.sub 2 1) hlr rfl rfl rfl rfl) ?_
  refine WpG.g tabOK 2 rfl ?_
  refine WpG.caseD (t := 6) rfl (fun q6 => ?_) (fun q6 => ?_)
  ·refine WpG.g tabOK 6 rfl ?_
   exact nx3.weak ⟨bq (by simp [q6]), trivial⟩
  refine WpG.g tabOK 1 rfl ?_
  refine WpG.y rfl rfl rfl rfl (RunY.loadH tabOK (hc2.sub 0 1) hlr rfl rfl rfl rfl) ?_
  refine WpG.g tabOK 4 rfl ?_
  exact nx3.weak ⟨bq (by simp [q6]), trivial⟩
 exact WpG.ret tabOK (L' := []) (.tmp rfl .nil) .slnil ⟨congrArg Value.bool (by rfl), rfl⟩
theorem HMerges_calls {H : Hp} {f : FuncD} {cs_f : List Value} (rd_f : Rdc.rd H cs_f f) (h : HamD) (hi : IH h) : CallG Tryz.prog 14 [.agg cs_f.toArray, hamV h] H [] (fun v _ L' => v = .bool (mergesH f h) ∧ HasT f ∧ L' = []) := by
 have rd_f' := rd_f; obtain ⟨A_f_0, c_f_0, A_f_2, c_f_2, rfl, u_f_0, r_f_0, u_f_2, r_f_2, k_f_0⟩ := rd_f
 have bf := r_f_2.1
 refine CallG.of Tryz.func14 rfl rfl rfl fun w0 => ?_
 refine WpG.g tabOK 2 rfl ?_
 refine WpG.box rfl rfl rfl rfl rfl (fun b1 => ?_)
 refine WpG.freezeBox (ci := 0) rfl (fun H2 hH2 hc2 => ?_)
 refine WpG.box rfl rfl rfl rfl rfl (fun b3 => ?_)
 refine WpG.freezeBox (ci := 0) rfl (fun H4 hH4 hc4 => ?_)
 refine WpG.g tabOK 4 rfl ?_
 refine WpG.y rfl rfl rfl rfl (RunY.loadH tabOK hc2 hH4 rfl rfl rfl rfl) ?_
 refine WpG.y rfl rfl rfl rfl (RunY.loadH tabOK hc4 hlr rfl rfl rfl rfl) ?_
 refine WpG.call0 rfl rfl rfl rfl rfl rfl (HIs_calls (Rdc.mono (hH2.trans hH4) rd_f') ⟨h.at_, h.thn, h.els, h.join⟩ hi.1) ?_
 rintro _ H5 _ hH5 ⟨rfl, hT5, rfl⟩
 refine WpG.g tabOK 1 rfl ?_
 refine WpG.caseB (t := 8) rfl (fun q8 => ?_) (fun q8 => ?_)
 ·have hd := is_gg q8
  refine WpG.y rfl rfl rfl rfl (RunY.loadH tabOK hc2 (hH4.trans hH5) rfl rfl rfl rfl) ?_
  refine WpG.y rfl rfl rfl rfl (RunY.loadH tabOK hc4 hH5 rfl rfl rfl rfl) ?_
  refine WpG.call0 rfl rfl rfl rfl rfl rfl (hOps_calls (Rdc.mono ((hH2.trans hH4).trans hH5) rd_f') h hi.2.1 hi.2.2.1 ((is_thn hd.2).imp id fun z => ⟨z.1, z.2.1⟩) ((is_els hd.2).imp id fun z => ⟨z.1, z.2.1⟩) (okF_gg hd.1).2.1.ops) ?_
  rintro _ H6 _ hH6 ⟨A6, c6, rfl, u6, r6, rfl⟩
  refine WpG.callS rfl rfl rfl rfl rfl rfl hlr (ContainsFunc_op r6 (p := dearO) (fun x _ cs hx => hMerges1_calls hx)) ?_
  refine WpG.g tabOK 4 rfl ?_
  exact WpG.ret tabOK (L' := []) (.tmp rfl .nil) .slnil ⟨congrArg Value.bool (by unfold mergesH; rw [q8]; rfl), hT5, rfl⟩
 refine WpG.g tabOK 8 rfl ?_
 exact WpG.ret tabOK (L' := []) (.tmp rfl .nil) .slnil ⟨congrArg Value.bool (by unfold mergesH; rw [q8]; rfl), hT5, rfl⟩
end Go.Proofs.YtakameggkkjcpaaGreat
namespace Go.Proofs.YtakameggkkjcpaaGreat
open Go Go.RowKit
def fDm : FuncD := ⟨[1], 1, [⟨[], [], ⟨2, 1, [1, 2]⟩⟩, ⟨[], [⟨7, 1, 1, 2, [1, 1], 0⟩], ⟨1, 0, [3]⟩⟩, ⟨[], [], ⟨1, 0, [3]⟩⟩, ⟨[], [], ⟨0, 1, []⟩⟩]⟩
def sDm : List (List Int) := [[1, 2], [3], [3], []]
theorem dm_reach {no x : Int} (h : RchN sDm 0 no x) : x = 0 ∨ x = 1 ∨ x = 2 ∨ x = 3 := by
  induction h with
  | root _ => exact .inl rfl
  | @step p x _ hx _ ih =>
    rcases ih with rfl | rfl | rfl | rfl
    · have : x ∈ ([1, 2] : List Int) := hx
      simp at this; omega
    · have : x ∈ ([3] : List Int) := hx
      simp at this; omega
    · have : x ∈ ([3] : List Int) := hx
      simp at this; omega
    · have : x ∈ ([] : List Int) := hx
      cases this
theorem dm0 {no : Int} (h : no ≠ 0) : RchN sDm 0 no 0 := .root (Ne.symm h)
theorem dm1 {no : Int} (h : no ≠ 0) (h1 : no ≠ 1) : RchN sDm 0 no 1 := .step (dm0 h) (by show (1 : Int) ∈ ([1, 2] : List Int); simp) (Ne.symm h1)
theorem dm2 {no : Int} (h : no ≠ 0) (h1 : no ≠ 2) : RchN sDm 0 no 2 := .step (dm0 h) (by show (2 : Int) ∈ ([1, 2] : List Int); simp) (Ne.symm h1)
theorem dm3 {no : Int} (h : no ≠ 0) (h1 : no ≠ 3) : RchN sDm 0 no 3 := by
  by_cases e : no = 1
  · exact .step (dm2 h (by omega)) (by show (3 : Int) ∈ ([3] : List Int); simp) (Ne.symm h1)
  · exact .step (dm1 h e) (by show (3 : Int) ∈ ([3] : List Int); simp) (Ne.symm h1)
theorem dm_no {x : Int} : ¬ RchN sDm 0 0 x := fun h => by
  induction h with
  | root h => exact h rfl
  | step _ _ _ ih => exact ih
theorem tree_dm : TreeP sDm 0 [-1, 0, 0, 0] := by
  refine ⟨rfl, rfl, fun x x0 x1 hn => ?_, fun x hx => ?_, fun x hx hne => ?_⟩
  · exfalso
    have hc : x = 0 ∨ x = 1 ∨ x = 2 ∨ x = 3 := by
      have : ((sDm.length : Nat) : Int) = 4 := rfl
      omega
    rcases hc with rfl | rfl | rfl | rfl
    · exact hn (dm0 (by decide))
    · exact hn (dm1 (by decide) (by decide))
    · exact hn (dm2 (by decide) (by decide))
    · exact hn (dm3 (by decide) (by decide))
  · have := dm_reach hx
    have e : ((sDm.length : Nat) : Int) = 4 := rfl
    omega
  · have hc := dm_reach hx
    have key : nth [-1, 0, 0, 0] x = 0 := by
      rcases hc with rfl | rfl | rfl | rfl
      · exact absurd rfl hne
      · rfl
      · rfl
      · rfl
    rw [key]
    refine ⟨dm0 (by decide), dm0 hne, fun y hy => ?_⟩
    by_cases y0 : y = 0
    · subst y0; exact ⟨fun h => absurd h dm_no, fun h => absurd h dm_no⟩
    · refine ⟨fun _ => dm0 y0, fun _ => ?_⟩
      rcases hc with rfl | rfl | rfl | rfl
      · exact absurd rfl hne
      · exact dm1 y0 hy
      · exact dm2 y0 hy
      · exact dm3 y0 hy
theorem sort_one (x : Int) : sortD [x] = [x] := by simp [sortD]
theorem sort_12 : sortD [1, 2] = [1, 2] := by
  unfold sortD
  first | exact List.mergeSort_of_pairwise (by simp) | exact List.mergeSort_of_sorted (by simp) | rfl | decide
theorem of_dm : ofD fDm = (⟨sDm, [[], [0], [0], [1, 2]]⟩, 0) := by
  have h2 : fDm.blocks.all (ofOK fDm.blocks.length) = true := by rfl
  rw [of_yes (by show ¬ ((4 : Nat) : Int) > 64; decide) h2]
  have e : fDm.blocks.map succOf = sDm := by
    unfold fDm sDm
    simp only [List.map_cons, List.map_nil, succOf, sort_12, sort_one, sortD_nil]; rfl
  rw [e]; rfl
theorem code_dm : codeOf fDm 2 [-1, 0, 0, 0] = 0 := by unfold codeOf shapeW; rw [of_dm]; decide
theorem is_dm : CodeIs fDm 2 0 := ⟨[-1, 0, 0, 0], fun _ _ => by rw [of_dm]; exact tree_dm, code_dm.symm⟩
theorem ok_dm : okF fDm = true := by rw [← okF_of is_dm]; rfl
theorem dm_find0 : findH fDm 0 = (⟨0, 1, 2, 3⟩, true) := by unfold findH; rw [ok_dm, of_dm]; decide
theorem dm_find1 : findH fDm 1 = (⟨0, 0, 0, 0⟩, false) := by unfold findH; rw [ok_dm, of_dm]; decide
theorem dm_is : isH fDm ⟨0, 1, 2, 3⟩ = true := by unfold isH; rw [ok_dm, of_dm]; decide
theorem dm_is0 : isH fDm ⟨0, 0, 0, 0⟩ = false := by unfold isH; rw [ok_dm, of_dm]; decide
theorem dm_cost : costH fDm ⟨0, 1, 2, 3⟩ = 1 := by unfold costH; rw [dm_is]; decide
theorem dm_merges : mergesH fDm ⟨0, 1, 2, 3⟩ = true := by unfold mergesH; rw [dm_is]; decide
theorem dm_all : allH fDm = [⟨0, 1, 2, 3⟩] := by unfold allH; rw [ok_dm, of_dm]; decide
section
variable {f : FuncD}
theorem side_rng {h : HamD} (hq : (isH f h && decide (h.thn ≥ 0)) = true) : 0 ≤ h.thn ∧ h.thn < f.blocks.length := by
  simp only [Bool.and_eq_true, decide_eq_true_eq] at hq
  rcases is_thn (is_gg hq.1).2 with e | ⟨a, b, _⟩
  · omega
  · exact ⟨a, b⟩
theorem side_rng2 {h : HamD} (hq : (isH f h && decide (h.els ≥ 0)) = true) : 0 ≤ h.els ∧ h.els < f.blocks.length := by
  simp only [Bool.and_eq_true, decide_eq_true_eq] at hq
  rcases is_els (is_gg hq.1).2 with e | ⟨a, b, _⟩
  · omega
  · exact ⟨a, b⟩
noncomputable def sideA (f : FuncD) (h : HamD) : Int := if isH f h = true then sideLen f h.thn else 0
theorem sideA_yes {h : HamD} (hq : (isH f h && decide (h.thn ≥ 0)) = true) : 0 + ((nth f.blocks h.thn).ops.length : Int) = sideA f h := by
  simp only [Bool.and_eq_true, decide_eq_true_eq] at hq
  unfold sideA sideLen; rw [if_pos hq.1, if_pos hq.2]; omega
theorem sideA_no {h : HamD} (hq : (isH f h && decide (h.thn ≥ 0)) = false) : 0 = sideA f h := by
  unfold sideA sideLen
  by_cases hi : isH f h = true
  · rw [hi] at hq
    have : ¬ h.thn ≥ 0 := by simpa using hq
    rw [if_pos hi, if_neg this]
  · rw [if_neg hi]
theorem costH_yes {h : HamD} (hq : (isH f h && decide (h.els ≥ 0)) = true) : sideA f h + ((nth f.blocks h.els).ops.length : Int) = costH f h := by
  simp only [Bool.and_eq_true, decide_eq_true_eq] at hq
  rw [cost_two hq.1]; unfold sideA sideLen; rw [if_pos hq.1, if_pos hq.2]
theorem costH_no {h : HamD} (hq : (isH f h && decide (h.els ≥ 0)) = false) : sideA f h = costH f h := by
  by_cases hi : isH f h = true
  · rw [hi] at hq
    have : ¬ h.els ≥ 0 := by simpa using hq
    rw [cost_two hi]; unfold sideA sideLen; rw [if_pos hi, if_neg this]; omega
  · rw [cost_none (by simpa using hi)]; unfold sideA; rw [if_neg hi]
theorem sideA_rng {h : HamD} : 0 ≤ sideA f h ∧ sideA f h ≤ 512 := by
  unfold sideA
  split
  · rename_i hi
    obtain ⟨hk, hd⟩ := is_gg hi
    unfold sideLen
    split
    · have hr := side_rng (f := f) (h := h) (by rw [hi]; simpa using (by assumption : h.thn ≥ 0))
      have := (okF_gg hk).2.1.ops _ (nth_mem hr.1 hr.2)
      omega
    · omega
  · omega
theorem ref_plain {h : HamD} {e : Int} (hr : RefIs f 1 e) (hT : HasT f) (he : (e == 0) = true) : mergesH f h = isH f h := by
  obtain ⟨tl, ht⟩ := hT
  have h1 := hr.2 (by omega) tl ht
  have e0 : e = 0 := by simpa using he
  subst e0
  obtain ⟨tl', hR⟩ := code_right (lv := 1) ⟨tl, ht, h1⟩
  exact plain_merges hR
theorem merges_is {h : HamD} (hm : mergesH f h = true) : isH f h = true := by
  unfold mergesH at hm
  simp only [Bool.and_eq_true] at hm
  exact hm.1
theorem is_of {h : HamD} (hi : isH f h = true) : (ofD f).2 = 0 := by
  obtain ⟨tl, hR⟩ := (okF_gg (is_gg hi).1).2.2
  exact hR.of_
end
end Go.Proofs.YtakameggkkjcpaaGreat

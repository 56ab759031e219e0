/- Lists that come one by one, and their sort: slices.Values, AppendSeq, Sort as contracts. -/
import Derived.Test.YtdjemlkllbhdlaaGreatLay
import Derived.Test.YtdjemlkllbhdlaaGreatT9
import Derived.RangeFuncBox
import Derived.RangeFuncLeaves
import Derived.Shelf.Abstract
import Derived.OwnWalkIn
import Derived.TacticsInMore
import Derived.LoopNIn
import Derived.LoopIn
import Derived.Maps.AppendAt
namespace Go.Proofs.YtdjemlkllbhdlaaGreat
open Go Go.RowKit Go.Shelf Go.Sort

abbrev ivv (x : Int) : Value := .int .i64 x

set_option maxRecDepth 100000 in
set_option maxHeartbeats 2000000 in
theorem values1_in (F : Fence) (n : Nat) (h7 : F.fn 99) (hro : F.round = none) (hn : 1 ≤ n) (l Bs n₀ b off len cap : Nat) (zs : List Int) (hreach : len * 8 ≤ 140737488351232) (hb : b < n₀) (J Jx : List Int → World → Prop)
    (hY : ∀ pre x W, J pre W → pre.length < len → YieldAt F (n - 1) Tryz.prog l #[.int .i64 x] W fun e W' =>
      (e = .returned (.bool true) ∧ J (pre ++ [x]) W' ∧ Below n₀ W W') ∨ (e = .returned (.bool false) ∧ Jx (pre ++ [x]) W'))
    (W : World) (hBs : W.cell? ⟨Bs, 0, none⟩ = some (.slice (some ⟨b, off, none⟩) len cap)) (hzl : zs.length = len) (hc : ∀ j, j < len → W.cell? ⟨b, off + j, none⟩ = some (.int .i64 (zs[j]?.getD 0))) (h0 : J [] W) :
    CallsIn F n Tryz.prog 99 #[.func (.yield l) #[] #[], .pointer (some ⟨Bs, 0, none⟩)] W fun e W' => (∃ v, e = .returned v) ∧
      ((∃ ys, ys = zs ∧ J ys W') ∨ (∃ pre, pre <+: zs ∧ Jx pre W')) := by
  have htk : ∀ k, k < zs.length → zs.take (k + 1) = zs.take k ++ [zs[k]?.getD 0] := fun k hk => by
    rw [List.take_add_one, List.getElem?_eq_getElem hk]; rfl
  refine callsIn_of_wp Tryz.func99 rfl h7 ?_ hro
  simp only [Tryz.ntmps99, List.size_toArray, List.length_cons, List.length_nil, Nat.reduceAdd, Nat.reduceSub, Array.replicate_succ, Array.replicate_zero, List.push_toArray, List.append_toArray, List.nil_append, List.cons_append]
  gi_wp2
  gi_loopw [7] (fun i wr => ∃ k : Nat, k ≤ len ∧ i = .int .i64 k ∧ J (zs.take k) wr ∧ Below n₀ W wr)
    (fun i _ => len - (intOf i).toNat)
  case atStart => exact ⟨0, Nat.zero_le _, rfl, h0, Below.refl _ _⟩
  case round =>
    obtain ⟨k, hk, rfl, hJs, hnx⟩ := hrel
    have hcx : k < len → wr.cell? ⟨b, off + k, none⟩ = some (.int .i64 (zs[k]?.getD 0)) := fun h => (hnx.cell (p := ⟨b, off + k, none⟩) hb).trans (hc k h)
    obtain ⟨z, hz⟩ : ∃ z, zs[k]?.getD 0 = z := ⟨_, rfl⟩
    by_cases hlt : k < len
    · obtain ⟨fn, tmps, assign, body, hy, hR⟩ := hY _ z wr hJs (by rw [List.length_take]; omega)
      have hcx' := hcx hlt
      have htk' := htk k (by omega)
      rw [hz] at hcx' htk'
      clear hz hcx htk hc
      gi_wp2
      refine hR.mono ?_
      rintro e W3 (⟨rfl, hJ3, hk3⟩ | ⟨rfl, hJx3⟩)
      · gi_wp2
        go_roundw
        case rel => exact ⟨k + 1, by omega, by simp, by rw [htk']; exact hJ3, hnx.trans hk3⟩
        case measure => simp [intOf]; omega
      · gi_wp2
        refine bodyPost_ret (results_none rfl _ _ _) rfl ?_
        exact ⟨⟨_, rfl⟩, .inr ⟨_, by rw [← htk']; exact List.take_prefix _ _, hJx3⟩⟩
    · obtain rfl : k = len := by omega
      gi_wp2
      go_end0
      exact ⟨⟨_, rfl⟩, .inl ⟨_, by rw [List.take_of_length_le (by omega)], hJs⟩⟩

set_option maxRecDepth 100000 in
set_option maxHeartbeats 1000000 in
theorem values1_nil_in (F : Fence) (n : Nat) (h7 : F.fn 99) (hro : F.round = none) (l Bs : Nat) (a : Option Addr) (cap : Nat) (J : List Int → World → Prop) (W : World) (hBs : W.cell? ⟨Bs, 0, none⟩ = some (.slice a 0 cap)) (h0 : J [] W) :
    CallsIn F n Tryz.prog 99 #[.func (.yield l) #[] #[], .pointer (some ⟨Bs, 0, none⟩)] W fun e W' => (∃ v, e = .returned v) ∧ J [] W' := by
  refine callsIn_of_wp Tryz.func99 rfl h7 ?_ hro
  simp only [Tryz.ntmps99, List.size_toArray, List.length_cons, List.length_nil, Nat.reduceAdd, Nat.reduceSub, Array.replicate_succ, Array.replicate_zero, List.push_toArray, List.append_toArray, List.nil_append, List.cons_append]
  gi_wp2
  gi_loopw [7] (fun i wr => i = .int .i64 0 ∧ J [] wr) (fun _ _ => 0)
  case atStart => exact ⟨rfl, h0⟩
  case round =>
    obtain ⟨rfl, hJs⟩ := hrel
    gi_wp2
    go_end0
    exact ⟨⟨_, rfl⟩, hJs⟩

/-- A list of numbers in memory that stays. -/
theorem ints_cells {H : Hp} {w : World} {A : Option Addr} {xs : List Int} (hs : Sub H w) (hr : RdS H A xs) : xs = [] ∨ ∃ b o, A = some ⟨b, o, none⟩ ∧ (xs ≠ [] → b < w.heap.size) ∧ ∀ j, j < xs.length → w.cell? ⟨b, o + j, none⟩ = some (.int .i64 (xs[j]?.getD 0)) := by
  rcases hr.2 with h | ⟨b, o, rfl, h⟩
  · exact .inl h
  · refine .inr ⟨b, o, rfl, fun hne => ?_, fun j hj => ?_⟩
    · cases xs with
      | nil => exact absurd rfl hne
      | cons x l =>
        obtain ⟨cs, h1, h2⟩ := h 0 x rfl
        have h1' : cs = [.int .i64 x] := h1.1
        subst h1'
        have := h2 0 _ rfl
        unfold hcell at this
        cases hb : H (b) with
        | none => simp [hb] at this
        | some ob => exact lt_of_get (hs b ob hb)
    · obtain ⟨cs, h1, h2⟩ := h j (xs[j]) (List.getElem?_eq_getElem hj)
      have h1' : cs = [.int .i64 xs[j]] := h1.1
      subst h1'
      have := h2 0 _ rfl
      have hsz : Rdc.sz Int = 1 := rfl
      rw [hsz] at this
      rw [List.getElem?_eq_getElem hj]
      simpa using hs.cell this

set_option maxHeartbeats 1000000 in
theorem values_stops {H : Hp} {A : Option Addr} {c : Nat} {xs : List Int} (hr : RdS H A xs) (hl : xs.length ≤ 1000000) {Bs : Nat} {w : World} (hs : Sub H w) (hB : hcell H Bs 0 = some (.slice A xs.length c)) {w1 : World} (hw : Below w.heap.size w w1) (n : Nat) (hn : 1 ≤ n) :
    SeqStopsK Fence.wide n Tryz.prog 99 #[.pointer (some ⟨Bs, 0, none⟩)] (fun x : Int => #[Value.int .i64 x]) (Below w.heap.size) (fun ys => ys = xs) (fun pre => pre <+: xs) xs.length w1 := fun l J Jx W hW _ _ hY h0 => by
  have hBlt : Bs < w.heap.size := by
    unfold hcell at hB
    cases hb : H Bs with
    | none => simp [hb] at hB
    | some ob => exact lt_of_get (hs Bs ob hb)
  have hWW : Below w.heap.size w W := hw.trans (hW.mono hw.size)
  have hc' : W.cell? ⟨Bs, 0, none⟩ = some (.slice A xs.length c) := (hWW.cell (p := ⟨Bs, 0, none⟩) hBlt).trans (hs.cell hB)
  rcases ints_cells hs hr with rfl | ⟨b, o, rfl, hlt, hcs⟩
  · exact (values1_nil_in Fence.wide n trivial rfl l Bs _ c J W hc' h0).mono fun e W' ⟨he, hj⟩ => ⟨he, .inl ⟨_, rfl, hj⟩⟩
  · by_cases hx : xs = []
    · subst hx
      exact (values1_nil_in Fence.wide n trivial rfl l Bs _ c J W hc' h0).mono fun e W' ⟨he, hj⟩ => ⟨he, .inl ⟨_, rfl, hj⟩⟩
    · refine values1_in Fence.wide n trivial rfl hn l Bs w.heap.size b o xs.length c xs (by omega) (hlt hx) J Jx hY W hc' rfl (fun j hj => (hWW.cell (p := ⟨b, o + j, none⟩) (hlt hx)).trans (hcs j hj)) h0

theorem int_info : (Tryz.prog.info? 3).map (fun i => (i.zero, i.size, i.bytes)) = some (some (.int .i64 0), 1, 8) := by kernel_rfl

set_option maxRecDepth 100000 in
set_option maxHeartbeats 2000000 in
theorem appendSeq_in {H : Hp} {A : Option Addr} {c : Nat} {xs : List Int} (hr : RdS H A xs) (hl : xs.length ≤ 1000000) {Bs : Nat} {w : World} (hs : Sub H w) (hB : hcell H Bs 0 = some (.slice A xs.length c)) (n : Nat) (hn : 3 ≤ n) :
    CallsIn Fence.wide n Tryz.prog 115 #[.slice none 0 0, .func (.func 99) #[] #[.pointer (some ⟨Bs, 0, none⟩)]] w fun e W' => ∃ v, e = .returned v ∧ W'.ownsRow w.heap.size 3 1 v xs.length (xs.map ivv) ∧ Below w.heap.size w W' := by
  have h1 : 1 ≤ n := by omega
  obtain ⟨i0, hi, hz0, hz1, hz2⟩ := info_parts int_info
  refine callsIn_of_wp_marks Tryz.func115 rfl trivial ?_ rfl
  simp only [Tryz.ntmps115, List.size_toArray, List.length_cons, List.length_nil, Nat.reduceAdd, Nat.reduceSub, Array.replicate_succ, Array.replicate_zero, List.push_toArray, List.append_toArray, List.nil_append, List.cons_append]
  gi_wp2
  have bO := Boxed.new w 22 (.slice none 0 0)
  have hB0 : Below w.heap.size w (w.alloc (.cells #[.slice none 0 0] 22)) := (Below.refl _ w).alloc (Nat.le_refl _) _
  refine wpIn_rangeFunc_ownG rfl h1 (gf := 99) (lb := #[.pointer (some ⟨Bs, 0, none⟩)]) rfl trivial (enters_of Tryz.func99 (by kernel_rfl) rfl)
    (values_stops hr hl hs hB hB0 (n - 1) (by omega)) belowK_t (belowK_b (by simp)) (Below.refl _ _) (fun _ => rfl)
    (fun pre W => (∃ v, Boxed W w.heap.size 22 v ∧ W.ownsRow w.heap.size 3 1 v pre.length (pre.map ivv) ∧ True) ∧ Below w.heap.size w W)
    (fun _ _ _ => False)
    (OwnFrom.and (Own.from (holdsRow_own w.heap.size w.heap.size 22 3 1 (fun pre : List Int => pre.length) (fun pre => pre.map ivv) (fun _ _ => True)) _) (ownFrom_below (Nat.le_refl _) (by simp)))
    (fun _ _ _ _ _ hs _ _ => hs)
    ⟨⟨_, bO, World.ownsRow_nil _ _ _ _, trivial⟩, hB0⟩
    (fun x => { tmps := #[.slice none 0 0, .func (.func 99) #[] #[.pointer (some ⟨Bs, 0, none⟩)], .pointer (some ⟨w.heap.size, 0, none⟩), undef, .slice none 0 0, .int .i64 x, .func (.func 99) #[] #[.pointer (some ⟨Bs, 0, none⟩)], .int .i64 x, undef, undef, undef, undef, undef], defers := [] }) ?assign ?body ?done ?stop
  case assign =>
    intro l x W K hK
    gi_wp2_with (rw [Oper.semAt_eq _ _ _ (fun c h => by cases h)]; go_simp; try go_bits)
    exact hK
  case body =>
    rintro l pre x W ⟨⟨v, hv, hrow, -⟩, hB⟩ hlt
    have hc := hv.cell
    have hlen : xs.length ≤ maxLen := Nat.le_trans hl (by decide)
    have hbytes : xs.length * 8 ≤ 140737488355328 := by omega
    gi_wp2_with (first | (gi_at_builtin; refine wpListIn_append_own _ rfl _ _ 22 rfl w.heap.size 3 i0 (.int .i64 0) 1 8 Tryz.underlying22 hi hz0 hz1 hz2 rfl (by decide) _ _ _ rfl (hrow.alloc _) ⟨W.heap.size, 0, none⟩ 1 1 [.int .i64 x] rfl rfl (cell_one_new _ _ _) (by simp [Value.oneCell']) (by omega) (by omega) (by have := hB.size; simp; omega) ?_; intro v' w1 hown' hgrow _; obtain ⟨g', cap', rfl⟩ := ownsRow_succ hown'; obtain ⟨hv1, hv2, hr2, hk2, hb2⟩ := hv.appended (by decide) hrow hB.size (Nat.le_refl _) hown' hgrow; have hc1 := hv1.cell; have hf1 := hv1.frozen) | (rw [Oper.semAt_eq _ _ _ (fun c h => by cases h)]; go_simp; try go_bits))
    exact ⟨hk2.from _, hb2, ⟨_, hv2, by simpa using hr2, trivial⟩, hB.trans hb2⟩
  case done =>
    rintro D ys W hD rfl ⟨⟨v, hv, hrow, -⟩, hB⟩ hK
    have hc := hv.cell
    gi_wp2
    refine ⟨by simp, .inl ⟨_, _, rfl, run_takeDeferred hK, ?_⟩⟩
    exact ⟨_, results_tmp rfl _ _ _, v, rfl, ownsRow_putObj hrow _ hK rfl, hB.trans (belowK_b (w := w) (Nat.le_refl _) W D _ _ (by simp at hD; omega) hK rfl rfl)⟩
  case stop =>
    rintro D c pre W _ _ h _
    exact h.elim

/-- A row that a call has made. -/
theorem SH.madeRow {w w' : World} {H : Hp} {E sz n : Nat} {v : Value} {xs : List Value} (hs : Sub H w) (hb : Below w.heap.size w w') (hr : w'.ownsRow w.heap.size E sz v n xs) : ∃ A c, v = .slice A n c ∧ SH w H [] w' H [Chunk.own E sz A c n xs] := by
  have hlt : ∀ b, H b ≠ none → b < w.heap.size := fun b h => by
    cases hH : H b with
    | none => exact absurd hH h
    | some o => exact lt_of_get (hs b o hH)
  have hsub : Sub H w' := fun b o h => by
    rw [hb.block b (hlt b (by rw [h]; simp))]; exact hs b o h
  have hchg : Chg [] w w' := ⟨hb.os, hb.tape, hb.output, hb.size, fun b h _ => hb.block b h⟩
  rcases hr.2 with ⟨rfl, hn⟩ | ⟨g, cap, cur, rfl, hg, _⟩
  · subst hn
    exact ⟨none, 0, rfl, hchg, hsub, Hp.le.refl _, fun b h => .inl h, fun c hc => by simp at hc; subst hc; exact ownsRow_base_a hr (Nat.zero_le _), by simp [blks, Chunk.own, Value.ownBlock], by simp [blks, Chunk.own, Value.ownBlock]⟩
  · refine ⟨some ⟨g, 0, none⟩, cap, rfl, hchg, hsub, Hp.le.refl _, fun b h => .inl h, fun c hc => by simp at hc; subst hc; exact ownsRow_base_a hr (Nat.zero_le _), fun b h => ?_, by simp [blks, Chunk.own, Value.ownBlock]⟩
    have hbg : b = g := by simpa [blks, Chunk.own, Value.ownBlock] using h
    subst hbg
    refine ⟨.inr hg, ?_⟩
    cases hH : H b with
    | none => rfl
    | some o => have := hlt b (by rw [hH]; simp); omega
theorem AppendSeq_calls {H : Hp} {A : Option Addr} {c : Nat} {xs : List Int} (hr : RdS H A xs) (hl : xs.length ≤ 1000000) {Bs : Nat} (hB : hcell H Bs 0 = some (.slice A xs.length c)) :
    CallG Tryz.prog 115 [.slice none 0 0, .func (.func 99) #[] #[.pointer (some ⟨Bs, 0, none⟩)]] H [] fun v H' L' => H' = H ∧ ∃ A' c', v = .slice A' xs.length c' ∧ L' = [Chunk.own 3 1 A' c' xs.length (xs.map iv)] :=
  ⟨⟨_, Tryz.func115, rfl, rfl⟩, fun w hw => (callsIn_wide.1 (appendSeq_in hr hl hw.sub hB 3 (by omega))).mono fun e w' ⟨v, he, hrow, hb⟩ =>
    let ⟨A', c', hv, hsh⟩ := SH.madeRow hw.sub hb hrow
    ⟨v, H, _, he, hsh, rfl, A', c', hv, rfl⟩⟩

def sortD (l : List Int) : List Int := l.mergeSort fun x y => decide (x ≤ y)
theorem sortD_len (l : List Int) : (sortD l).length = l.length := List.length_mergeSort _
theorem Sort_calls {H : Hp} {A : Option Addr} {c : Nat} (l : List Int) (hl : l.length ≤ 1000000) :
    CallG Tryz.prog 98 [.slice A l.length c] H [Chunk.own 3 1 A c l.length (l.map iv)] fun v H' L' => H' = H ∧ v = .tuple #[] ∧ L' = [Chunk.own 3 1 A c l.length ((sortD l).map iv)] := by
  refine ⟨⟨_, Tryz.func98, rfl, rfl⟩, fun w hw => ?_⟩
  have hown : w.ownsRow 0 3 1 (.slice A l.length c) l.length (l.map iv) := hw.holds _ (.head _)
  rcases hown.2 with ⟨e0, hn⟩ | ⟨g, cap, cur, e0, hbase, hgb, r1, r2, r3, r4⟩
  · have hl0 : l = [] := List.eq_nil_of_length_eq_zero hn
    subst hl0
    refine (AnyM.slices_Sort_int_none laySort A c w).mono ?_
    rintro e w' ⟨rfl, rfl⟩
    exact ⟨_, H, _, rfl, hw.sh, rfl, rfl, by simp [sortD]⟩
  · simp only [Value.slice.injEq, true_and] at e0
    obtain ⟨rfl, rfl⟩ := e0
    have hH : Holds encZ w g 0 l.toArray := holds_of_block_i hgb (by rw [Nat.mul_one] at r4; exact r4)
    refine (AnyM.slices_Sort_int laySort g 0 c l w hH (lt_of_get hgb) (by omega)).mono ?_
    rintro e w' ⟨rfl, n, os, rfl⟩
    have hg := grownBy_sorted_i (w := w) (g := g) (n := n) (os := os) (sortD l).toArray
    refine ⟨_, H, [Chunk.own 3 1 (some ⟨g, 0, none⟩) c l.length ((sortD l).map iv)], rfl, ?_, rfl, rfl, rfl⟩
    exact SH.write hw.sh (i := 0) (c := Chunk.own 3 1 (some ⟨g, 0, none⟩) c l.length (l.map iv)) rfl rfl
      ⟨hg.os, hg.tape, hg.output, hg.size, fun b hb hx => hg.block b hb fun e => hx (by cases e; simp [blks, Chunk.own, Value.ownBlock])⟩
      (ownsRow_sorted_i (sortD_len l) (Nat.zero_le _) hgb r1 r2 r3)
end Go.Proofs.YtdjemlkllbhdlaaGreat

/- More laws of a walk: rows of wide elements that a 'make' makes; parts of a row; copies; masks. -/
import Derived.Test.YtdjemlkllbhdlaaGreatRun
import Derived.Laws.Bits64b
namespace Go.Proofs.YtdjemlkllbhdlaaGreat
open Go Go.RowKit

section
variable {P : Program} {T : List TRow} {fn : Func} {w0 : World} {H0 : Hp} {X : List Nat} {k : List Item} {F : Fk} {H : Hp} {L : List Chunk} {R : Ending → World → Prop} {ops : Array Oper} {ty : TypeId} {pos : String} {af : Array Edge} {g : Option (Nat × Bool)} {dst : Option Nat}

/-- A row of whatever elements that a 'make' makes. -/
theorem OpG.makeSliceW (hT : TabOK P T) {i : Nat} {d t e n : Nat} {x : Operand} {kd : IntKind} {r q : TRow}
    (ho : ops[i]? = some ⟨some d, .makeSlice t x x, ty, pos, af, g⟩) (hw : wantk ops F g = some true) (hn : Nat.blt d fn.ntmps = true) (hx : evk F x = some (.int kd (n : Int)))
    (hr : trow T t = some r) (hk : r.kind = .slice e) (hq : trow T e = some q) (hqs : (Nat.ble q.size 64 && Nat.ble q.bytes 65536) = true) (hlen : n ≤ 2147483648) :
    OpG P fn w0 H0 X ops i F H L fun F' H' L' => ∃ b zs, zs.length = n * q.size ∧ F' = (d, .slice (some ⟨b, 0, none⟩) n n) :: F ∧ H' = H ∧ L' = Chunk.own e q.size (some ⟨b, 0, none⟩) n n zs :: L := ⟨_, ho, hw, fun a w ha hs => by
  have hd := (hT.row hr).slice hk
  obtain ⟨ii, hi, hs1, hb1, hz1⟩ := (hT.row hq).info
  simp only [Bool.and_eq_true] at hqs
  have hq1 := Nat.le_of_ble_eq_true hqs.1
  have hq2 := Nat.le_of_ble_eq_true hqs.2
  have hb2 : q.bytes * n ≤ 65536 * 2147483648 := Nat.mul_le_mul hq2 hlen
  have hm := run_make (P := P) w t e ii q.zero hd hi hz1 kd kd n n (by omega) (Int.le_refl _) (by rw [hb1]; omega) (by omega)
  simp only [Int.toNat_natCast, hs1] at hm
  have hsz : (madeCells q.zero.cells (n * q.size)).toList.length = n * q.size := by rw [Array.length_toList]; exact size_madeCells _ _
  refine .value (v := .slice (some ⟨w.heap.size, 0, none⟩) n n) (w' := w.alloc (.cells (madeCells q.zero.cells (n * q.size)) e)) ?_
    ⟨_, _, _, ⟨w.heap.size, _, hsz, rfl, rfl, rfl⟩, ha.put (by simpa [Nat.blt_eq] using hn) _, hs.alloc (c := Chunk.own e q.size (some ⟨w.heap.size, 0, none⟩) n n (madeCells q.zero.cells (n * q.size)).toList) (.cells (madeCells q.zero.cells (n * q.size)) e) rfl
      ⟨hsz, .inr ⟨w.heap.size, n, (madeCells q.zero.cells (n * q.size)), rfl, Nat.zero_le _, ?_, Nat.le_refl _, ?_, by simp [size_madeCells], ?_⟩⟩⟩
  · simp only [execOp, ha.eval hx, Sem.run_bind, hm]
    simp
  · show (w.heap.push _)[w.heap.size]? = _; simp
  · unfold maxLen; omega
  · rw [List.take_of_length_le (by rw [hsz]; exact Nat.le_refl _)]⟩
theorem WpG.makeSliceW (hT : TabOK P T) {i : Nat} {rest : List Nat} {d t e n : Nat} {x : Operand} {kd : IntKind} {r q : TRow}
    (ho : ops[i]? = some ⟨some d, .makeSlice t x x, ty, pos, af, g⟩) (hw : wantk ops F g = some true) (hn : Nat.blt d fn.ntmps = true) (hx : evk F x = some (.int kd (n : Int)))
    (hr : trow T t = some r) (hk : r.kind = .slice e) (hq : trow T e = some q) (hqs : (Nat.ble q.size 64 && Nat.ble q.bytes 65536) = true) (hlen : n ≤ 2147483648)
    (h : ∀ b zs, zs.length = n * q.size → WpG P fn w0 H0 X (.inRegion ops rest :: k) ((d, .slice (some ⟨b, 0, none⟩) n n) :: F) H (Chunk.own e q.size (some ⟨b, 0, none⟩) n n zs :: L) R) : WpG P fn w0 H0 X (.inRegion ops (i :: rest) :: k) F H L R :=
  WpG.step (OpG.makeSliceW hT ho hw hn hx hr hk hq hqs hlen) (by rintro _ _ _ ⟨b, zs, hz, rfl, rfl, rfl⟩; exact h b zs hz)

/-- From a place of a slice on; and up to one. -/
theorem RunY.sliceFrom (hT : TabOK P T) {t e b off len cap : Nat} {x y : Operand} {kd : IntKind} {j : Int} {r q : TRow} (hx : evk F x = some (.slice (some ⟨b, off, none⟩) len cap)) (hy : evk F y = some (.int kd j))
    (hr : trow T t = some r) (hk : r.kind = .slice e) (hq : trow T e = some q) (h0 : 0 ≤ j) (h1 : j ≤ len) (h2 : j < cap) :
    RunY P fn w0 H0 X F H L ⟨dst, .slice t x (some y) none none, ty, pos, af, g⟩ (.slice (some ⟨b, off + j.toNat * q.size, none⟩) (len - j.toNat) (cap - j.toNat)) := fun a w ha hs => by
  have hd := (hT.row hr).slice hk
  have hadd : (⟨b, off, none⟩ : Addr).add (j.toNat * q.size) = ⟨b, off + j.toNat * q.size, none⟩ := by
    unfold Addr.add
    split <;> simp_all
  have hne : ¬ cap = j.toNat := by omega
  simp [execOp, ha.eval hx, ha.eval hy, Instr.sliceAt, Instr.slice, Instr.sliceBounds, Instr.sliceBound, asIntOf, run_underlying hd, (hT.row hq).run_size, h0, h1, hadd, hne]
theorem RunY.sliceTo (hT : TabOK P T) {t e b off len cap : Nat} {x y : Operand} {kd : IntKind} {j : Int} {r q : TRow} (hx : evk F x = some (.slice (some ⟨b, off, none⟩) len cap)) (hy : evk F y = some (.int kd j))
    (hr : trow T t = some r) (hk : r.kind = .slice e) (hq : trow T e = some q) (h0 : 0 ≤ j) (h1 : j ≤ cap) :
    RunY P fn w0 H0 X F H L ⟨dst, .slice t x none (some y) none, ty, pos, af, g⟩ (.slice (some ⟨b, off, none⟩) j.toNat cap) := fun a w ha hs => by
  have hd := (hT.row hr).slice hk
  have hadd : (⟨b, off, none⟩ : Addr).add 0 = ⟨b, off, none⟩ := by
    unfold Addr.add
    split <;> simp_all
  simp [execOp, ha.eval hx, ha.eval hy, Instr.sliceAt, Instr.slice, Instr.sliceBounds, Instr.sliceBound, asIntOf, run_underlying hd, (hT.row hq).run_size, h0, h1, hadd]

/-- A copy into a row of the call's own. -/
theorem OpG.copy (hT : TabOK P T) {i : Nat} {d t t' e ci : Nat} {x y : Operand} {b off dl dc E c n m : Nat} {ob so sl sc : Nat} {xs xs' news : List Value} {r q : TRow}
    (ho : ops[i]? = some ⟨some d, .call ⟨.builtin .copy, #[x, y], #[t, t']⟩, ty, pos, af, g⟩) (hw : wantk ops F g = some true) (hn : Nat.blt d fn.ntmps = true)
    (hx : evk F x = some (.slice (some ⟨b, off, none⟩) dl dc)) (hy : evk F y = some (.slice (some ⟨ob, so, none⟩) sl sc))
    (hr : trow T t = some r) (hk : r.kind = .slice e) (hq : trow T e = some q) (hL : L[ci]? = some (Chunk.own E q.size (some ⟨b, 0, none⟩) c n xs)) (hm : Nat.min sl dl = m) (hl : news.length = m * q.size)
    (hsrc : ∀ w, SH w0 H0 X w H L → ∀ (j : Nat) u, news[j]? = some u → w.cell? ⟨ob, so + j, none⟩ = some u) (h1 : news.all (fun u => u.oneCell') = true) (hp : putAt xs off news = some xs') :
    OpG P fn w0 H0 X ops i F H L fun F' H' L' => F' = (d, .int .i64 m) :: F ∧ H' = H ∧ L' = L.set ci (Chunk.own E q.size (some ⟨b, 0, none⟩) c n xs') := ⟨_, ho, hw, fun a w ha hs => by
  have hd := (hT.row hr).slice hk
  have hown : w.ownsRow 0 E q.size (.slice (some ⟨b, 0, none⟩) n c) n xs := hs.chunk hL
  obtain ⟨cur, hg, hle, hown'⟩ := ownsRow_put hown hp
  have hadd : ∀ j, (⟨ob, so, none⟩ : Addr).add j = ⟨ob, so + j, none⟩ := fun j => by unfold Addr.add; split <;> simp_all
  have hld := run_loadCells_list (P := P) (w := w) ⟨ob, so, none⟩ news (fun j u hu => by rw [hadd]; exact hsrc w hs j u hu)
  have hst := run_storeCells_at P b off E news 0 cur w hg (by simpa using hle) (List.all_eq_true.1 h1)
  simp only [Nat.add_zero] at hst
  refine .value (v := .int .i64 m) (w' := w.setRow b (cur.toList.take off ++ news ++ cur.toList.drop (off + news.length)).toArray) ?_
    ⟨_, _, _, ⟨rfl, rfl, rfl⟩, ha.put (by simpa [Nat.blt_eq] using hn) _, hs.set_ hL (SH.one (hs.pre1 hL) (Chg.setRow _ _ (mem_blks (.head _) rfl)) hown' (fun b' e => .inl e))⟩
  rw [hl] at hld
  have hm' : sl.min dl = m := hm
  simp [execOp, ha.eval hx, ha.eval hy, resolve, invoke, builtin, Builtin.copy_, Builtin.lenOf, Builtin.firstCells, run_underlying hd, (hT.row hq).run_size, hm', hld, hst, goInt]⟩
theorem putAt_in {xs news : List Value} {off : Nat} (h : off + news.length ≤ xs.length) : putAt xs off news = some (xs.take off ++ news ++ xs.drop (off + news.length)) := by
  unfold putAt
  rw [show Nat.ble (off + news.length) xs.length = true from Nat.ble_eq_true_of_le h, List.append_assoc]
  rfl
theorem own_at {w : World} {ci E sz b c n : Nat} {xs : List Value} (hs : SH w0 H0 X w H L) (hL : L[ci]? = some (Chunk.own E sz (some ⟨b, 0, none⟩) c n xs)) {j : Nat} {u : Value} (h : xs[j]? = some u) : w.cell? ⟨b, j, none⟩ = some u :=
  ownsRow_cells (hs.chunk hL) j u h
theorem RunY.bits {x y : Operand} {tx ty' : TypeId} {kk : IntKind} {op : BinOp} {u n : Int} (hop : op = .and ∨ op = .or ∨ op = .xor ∨ op = .andNot) (hx : evk F x = some (.int kk u)) (hy : evk F y = some (.int kk n)) :
    RunY P fn w0 H0 X F H L ⟨dst, .binOp op tx x y ty', ty, pos, af, g⟩ (.int kk (Go.bits op kk u n)) := fun a w ha _ => by
  rcases hop with rfl | rfl | rfl | rfl <;> simp [execOp, ha.eval hx, ha.eval hy, eqGuard, binOp, intBits_and, intBits_or, intBits_xor, intBits_andNot]
end
theorem wrku {x : Int} (h0 : 0 ≤ x) (h1 : x ≤ 18446744073709551615) : some (Value.int .u64 (IntKind.u64.wrap x)) = some (Value.int .u64 x) := by
  rw [IntKind.wrap_u64, Int.emod_eq_of_lt h0 (by omega)]
/-- n times the same cells. -/
def repC (v : List Value) (n : Nat) : List Value := (List.replicate n v).flatten
theorem repC_len (v : List Value) (n : Nat) : (repC v n).length = n * v.length := by
  unfold repC; simp
theorem repC_add (v : List Value) (m n : Nat) : repC v (m + n) = repC v m ++ repC v n := by
  unfold repC; rw [← List.flatten_append, List.replicate_append_replicate]
theorem repC_take {v : List Value} {m n : Nat} (h : m ≤ n) : (repC v n).take (m * v.length) = repC v m := by
  rw [show n = m + (n - m) from by omega, repC_add, List.take_left' (repC_len v m)]
theorem RdL_rep {α : Type} [Rdc α] {H : Hp} {v : List Value} {x : α} (h : Rdc.rd H v x) : ∀ n, RdL H (repC v n) (List.replicate n x)
  | 0 => rfl
  | n + 1 => ⟨v, repC v n, by unfold repC; rw [List.replicate_succ]; rfl, h, RdL_rep h n⟩
theorem repC_one {v : List Value} (h : v.all (fun u => u.oneCell') = true) (n : Nat) : (repC v n).all (fun u => u.oneCell') = true := by
  unfold repC; rw [List.all_eq_true] at h ⊢
  intro x hx
  obtain ⟨l, hl, hx⟩ := List.mem_flatten.1 hx
  rw [(List.mem_replicate.1 hl).2] at hx
  exact h x hx
/-- Copied behind what is there already. -/
theorem rep_step {v xs : List Value} {i m n : Nat} (hl : xs.length = n * v.length) (ht : xs.take (i * v.length) = repC v i) (hn : i + m ≤ n) :
    (xs.take (i * v.length) ++ repC v m ++ xs.drop (i * v.length + (repC v m).length)).length = n * v.length ∧ (xs.take (i * v.length) ++ repC v m ++ xs.drop (i * v.length + (repC v m).length)).take ((i + m) * v.length) = repC v (i + m) := by
  have h1 : i * v.length + m * v.length ≤ n * v.length := by rw [← Nat.add_mul]; exact Nat.mul_le_mul_right _ hn
  refine ⟨by simp only [List.length_append, List.length_take, List.length_drop, repC_len]; omega, ?_⟩
  rw [ht, ← repC_add]
  exact List.take_left' (repC_len v (i + m))
theorem repC_le {v : List Value} {m j : Nat} {u : Value} (h : (repC v (Nat.min 1 m))[j]? = some u) : v[j]? = some u := by
  have h1 : Nat.min 1 m = 0 ∨ Nat.min 1 m = 1 := by have : Nat.min 1 m ≤ 1 := Nat.min_le_left 1 m; omega
  rcases h1 with e | e
  · rw [e] at h; simp [repC] at h
  · rw [e] at h; simpa [repC] using h
theorem rep_at {v xs : List Value} {i m j : Nat} {u : Value} (ht : xs.take (i * v.length) = repC v i) (hm : m ≤ i) (h : (repC v m)[j]? = some u) : xs[j]? = some u := by
  have h2 : (repC v i)[j]? = some u := by
    rw [show i = m + (i - m) from by omega, repC_add, List.getElem?_append_left (List.getElem?_eq_some_iff.1 h).1]; exact h
  rw [← ht, List.getElem?_take] at h2
  split at h2
  · exact h2
  · cases h2
theorem Repeat_start {v zs : List Value} {n m : Nat} (hz : zs.length = n * v.length) (hm : m ≤ n) (h1 : 0 < n → 1 ≤ m) :
    0 ≤ (m : Int) ∧ (m : Int) ≤ n ∧ (zs.take 0 ++ repC v m ++ zs.drop (0 + List.length (repC v m))).length = n * v.length ∧
    (zs.take 0 ++ repC v m ++ zs.drop (0 + List.length (repC v m))).take ((m : Int).toNat * v.length) = repC v ((m : Int).toNat) ∧ (0 < n → 1 ≤ (m : Int)) := by
  have h := rep_step (v := v) (xs := zs) (i := 0) (m := m) (n := n) hz (by simp [repC]) (by omega)
  simp only [Nat.zero_mul, Nat.zero_add] at h
  refine ⟨by omega, by omega, ?_, ?_, fun h0 => ?_⟩
  · simpa using h.1
  · simpa using h.2
  · have := h1 h0; omega
theorem Repeat_back {v xs : List Value} {n m : Nat} {i : Int} (i0 : 0 ≤ i) (i1 : i ≤ n) (i2 : xs.length = n * v.length) (i3 : xs.take (i.toNat * v.length) = repC v i.toNat) {xs' : List Value} {j : Int} (hm : m ≤ n - i.toNat)
    (hx : xs' = xs.take (i.toNat * v.length) ++ repC v m ++ xs.drop (i.toNat * v.length + List.length (repC v m))) (hj : j = i + (m : Int)) (i4 : 0 < n → 1 ≤ i) :
    0 ≤ j ∧ j ≤ n ∧ xs'.length = n * v.length ∧ xs'.take (j.toNat * v.length) = repC v j.toNat ∧ (0 < n → 1 ≤ j) := by
  have h := rep_step (v := v) (i := i.toNat) (m := m) i2 i3 (by omega)
  subst hx; subst hj
  refine ⟨by omega, by omega, h.1, ?_, fun h0 => by have := i4 h0; omega⟩
  rw [show (i + (m : Int)).toNat = i.toNat + m from by omega]
  exact h.2
theorem Repeat_end {v xs : List Value} {n m : Nat} (e : m = n) (i2 : xs.length = n * v.length) (i3 : xs.take (m * v.length) = repC v m) : xs = repC v n := by
  subst e
  rw [← i3, List.take_of_length_le (by rw [i2]; exact Nat.le_refl _)]
theorem i64_and32 {x : Int} (h0 : 0 ≤ x) (h1 : x ≤ 4294967295) : Go.bits .and .u64 x 4294967295 = x := by
  obtain ⟨n, rfl⟩ := Int.eq_ofNat_of_zero_le h0
  have := bits_and_u64_nat n 4294967295 (by omega) (by omega)
  rw [show ((4294967295 : Int)) = ((4294967295 : Nat) : Int) from rfl, this]
  rw [show (4294967295 : Nat) = 2 ^ 32 - 1 from rfl, Nat.and_two_pow_sub_one_eq_mod]
  omega
section
variable {P : Program} {fn : Func} {w0 : World} {H0 : Hp} {X : List Nat} {F : Fk} {H : Hp} {L : List Chunk} {ty : TypeId} {pos : String} {af : Array Edge} {g : Option (Nat × Bool)} {dst : Option Nat}
theorem RunY.and32 {x y : Operand} {tx ty' : TypeId} {u : Int} (hx : evk F x = some (.int .u64 u)) (hy : evk F y = some (.int .u64 4294967295)) (h0 : 0 ≤ u) (h1 : u ≤ 4294967295) :
    RunY P fn w0 H0 X F H L ⟨dst, .binOp .and tx x y ty', ty, pos, af, g⟩ (.int .u64 u) := by
  have := RunY.bits (P := P) (fn := fn) (w0 := w0) (H0 := H0) (X := X) (H := H) (L := L) (ty := ty) (pos := pos) (af := af) (g := g) (dst := dst) (tx := tx) (ty' := ty') (.inl rfl) hx hy
  rwa [i64_and32 h0 h1] at this
theorem RunY.shr32 {x y : Operand} {tx ty' : TypeId} {u : Int} {yk : IntKind} (hx : evk F x = some (.int .u64 u)) (hy : evk F y = some (.int yk 32)) (h0 : 0 ≤ u) (h1 : u ≤ 4294967295) :
    RunY P fn w0 H0 X F H L ⟨dst, .binOp .shr tx x y ty', ty, pos, af, g⟩ (.int .u64 0) := by
  have h := RunY.shr (P := P) (fn := fn) (w0 := w0) (H0 := H0) (X := X) (H := H) (L := L) (ty := ty) (pos := pos) (af := af) (g := g) (dst := dst) (tx := tx) (ty' := ty') hx hy (by omega)
  have e : u.fdiv (2 ^ (min (32 : Int).toNat IntKind.u64.bits)) = 0 := by
    show u.fdiv 4294967296 = 0
    rw [Int.fdiv_eq_ediv]; simp; omega
  rwa [e] at h
end
end Go.Proofs.YtdjemlkllbhdlaaGreat

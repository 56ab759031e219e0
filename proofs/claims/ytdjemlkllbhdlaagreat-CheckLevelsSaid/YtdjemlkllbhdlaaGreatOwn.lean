/- The laws of a walk: rows that are made, appended to and written; calls; returns. -/
import Derived.Test.YtdjemlkllbhdlaaGreatMem
namespace Go.Proofs.YtdjemlkllbhdlaaGreat
open Go Go.RowKit

section
variable {P : Program} {T : List TRow} {fn : Func} {w0 : World} {H0 : Hp} {X : List Nat} {k : List Item} {F : Fk} {H : Hp} {L : List Chunk} {R : Ending → World → Prop}

theorem RowOK.slice {t e : Nat} {r : TRow} (h : RowOK P t r) (hk : r.kind = .slice e) : P.underlying t = some (.slice e) := by
  obtain ⟨d', hd, hdk⟩ := h.under
  rw [hk] at hdk
  cases d' <;> simp only [TK.of, reduceCtorEq] at hdk
  simp only [TK.slice.injEq] at hdk
  rw [← hdk]
  exact hd
theorem run_append_zero {t e : TypeId} {r : TypeInfo} (ht : P.underlying t = some (.slice e)) (hi : P.info? e = some r) (w : World) (ty : TypeId) (A B : Option Addr) (n c c2 : Nat) (hnc : n ≤ c) :
    (Builtin.append_ #[t, t] ty #[.slice A n c, .slice B 0 c2]).run P w = .ok (.slice A n c) w := by
  cases A <;> cases B <;> simp [Builtin.append_, run_underlying ht, sizeOf, typeInfo, hi, Builtin.lenOf, hnc, Builtin.firstCells, loadCells, loadCellsFrom, storeCells]

theorem run_append_own2 {t e : TypeId} {q : TRow} (hd : P.underlying t = some (.slice e)) (hq : RowOK P e q) (hb : Nat.ble q.bytes 65536 = true) (hsz : 0 < q.size) (hzs : (cellsL q.zero).length = q.size)
    {w : World} (ty : TypeId) {A : Option Addr} {n c : Nat} {xs : List Value} (hown : w.ownsRow 0 e q.size (.slice A n c) n xs) (b2 o2 m c2 : Nat) (news : List Value) (hl : news.length = m * q.size)
    (hnews : ∀ (j : Nat) u, news[j]? = some u → w.cell? ⟨b2, o2 + j, none⟩ = some u) (h1 : news.all (fun u => u.oneCell') = true) (hlen : n + m ≤ 2147483648) :
    ∃ A' c' w', (Builtin.append_ #[t, t] ty #[.slice A n c, .slice (some ⟨b2, o2, none⟩) m c2]).run P w = .ok (.slice A' (n + m) c') w' ∧ w'.ownsRow 0 e q.size (.slice A' (n + m) c') (n + m) (xs ++ news) ∧
      w.grownBy w' (Value.slice A n c).ownBlock ∧ ∀ b, (Value.slice A' (n + m) c').ownBlock = some b → (Value.slice A n c).ownBlock = some b ∨ w.heap.size ≤ b := by
  obtain ⟨i, hi, hs1, hb1, hz⟩ := hq.info
  have hbb := Nat.le_of_ble_eq_true hb
  have hadd : ∀ j, (⟨b2, o2, none⟩ : Addr).add j = ⟨b2, o2 + j, none⟩ := fun j => by unfold Addr.add; split <;> simp_all
  have hnews' : ∀ (j : Nat) u, news[j]? = some u → w.cell? ((⟨b2, o2, none⟩ : Addr).add j) = some u := fun j u hu => by rw [hadd]; exact hnews j u hu
  have h1' : ∀ u ∈ news, u.oneCell' = true := fun u hu => List.all_eq_true.1 h1 u hu
  have hbytes : (n + m) * q.bytes ≤ 140737488355328 := Nat.le_trans (Nat.mul_le_mul hlen hbb) (by decide)
  have hm : n + m ≤ maxLen := by unfold maxLen; omega
  have hzs' : q.zero.cells.size = q.size := by rw [← cellsL_size]; exact hzs
  have key : ∀ base, base ≤ w.heap.size → w.ownsRow base e q.size (.slice A n c) n xs → _ := fun base hbase ho =>
    run_append_own (P := P) w base t ty e i q.zero q.size q.bytes hd hi hz hs1 hb1 hzs' hsz (.slice A n c) n xs ho ⟨b2, o2, none⟩ m c2 news hl hnews' h1' hm hbytes hbase
  have form : ∀ {base : Nat} {v' : Value} {w' : World}, w'.ownsRow base e q.size v' (n + m) (xs ++ news) → ∃ A' c', v' = .slice A' (n + m) c' := by
    intro base v' w' ho
    rcases ho.2 with ⟨rfl, h0⟩ | ⟨g, cap, cur, rfl, _⟩
    · exact ⟨none, 0, by rw [h0]⟩
    · exact ⟨_, _, rfl⟩
  have low : ∀ {base : Nat} {v' : Value} {w' : World}, w'.ownsRow base e q.size v' (n + m) (xs ++ news) → w'.ownsRow 0 e q.size v' (n + m) (xs ++ news) := by
    intro base v' w' ho
    refine ⟨ho.1, ?_⟩
    rcases ho.2 with h | ⟨g, cap, cur, e1, _, rest⟩
    · exact .inl h
    · exact .inr ⟨g, cap, cur, e1, Nat.zero_le _, rest⟩
  rcases hown.2 with ⟨e0, hn0⟩ | ⟨g, cap, cur, e0, _, hg, hnc, hcm, hcs, htake⟩
  · obtain ⟨v', w', hr, ho, hgr, _⟩ := key w.heap.size (Nat.le_refl _) ⟨hown.1, .inl ⟨e0, hn0⟩⟩
    obtain ⟨A', c', rfl⟩ := form ho
    exact ⟨A', c', w', hr, low ho, hgr, fun b hbk => .inr (ho.lt b hbk).1⟩
  · simp only [Value.slice.injEq, true_and] at e0
    obtain ⟨rfl, rfl⟩ := e0
    obtain ⟨v', w', hr, ho, hgr, _⟩ := key 0 (Nat.zero_le _) hown
    obtain ⟨A', c', rfl⟩ := form ho
    refine ⟨A', c', w', hr, ho, hgr, fun b hbk => ?_⟩
    by_cases hroom : n + m ≤ c
    · have hfit : n * i.size + news.length ≤ cur.size := by rw [hl, hcs, hs1, ← Nat.add_mul]; exact Nat.mul_le_mul_right _ hroom
      have hr2 := run_append_room (P := P) w t ty e i hd hi g n c cur hg ⟨b2, o2, none⟩ m c2 news (by rw [hs1]; exact hl) hnews' h1' hroom hfit
      rw [hr2] at hr
      simp only [Result.ok.injEq, Value.slice.injEq, true_and] at hr
      obtain ⟨⟨rfl, rfl⟩, _⟩ := hr
      exact .inl hbk
    · have holds := hown.cells (g := g) rfl
      have hr2 := run_append_grow (P := P) w t ty e i q.zero hd hi hz ⟨g, 0, none⟩ n c xs (by rw [hs1]; exact hown.1) holds ⟨b2, o2, none⟩ m c2 news (by rw [hs1]; exact hl) hnews' (by omega) (by omega)
        (growslice_fits (by omega) (by rw [hb1]; exact hbytes))
      rw [hr2] at hr
      simp only [Result.ok.injEq, Value.slice.injEq, true_and] at hr
      obtain ⟨⟨rfl, rfl⟩, _⟩ := hr
      simp only [Value.ownBlock, Option.some.injEq] at hbk
      exact .inr (by omega)

/-- Where what is appended lies. -/
def Src (w0 : World) (H0 : Hp) (X : List Nat) (H : Hp) (L : List Chunk) (B : Option Addr) (m : Nat) (news : List Value) : Prop :=
  (m = 0 ∧ news = []) ∨ ∃ b o, B = some ⟨b, o, none⟩ ∧ ∀ w, SH w0 H0 X w H L → ∀ (j : Nat) u, news[j]? = some u → w.cell? ⟨b, o + j, none⟩ = some u
theorem Src.own {ci E sz : Nat} {b c m : Nat} {news : List Value} (hL : L[ci]? = some (Chunk.own E sz (some ⟨b, 0, none⟩) c m news)) : Src w0 H0 X H L (some ⟨b, 0, none⟩) m news :=
  .inr ⟨b, 0, rfl, fun w hs j u hu => by rw [Nat.zero_add]; exact ownsRow_cells (hs.chunk hL) j u hu⟩
theorem Src.owned {ci E sz : Nat} {A : Option Addr} {c m : Nat} {news : List Value} (hL : L[ci]? = some (Chunk.own E sz A c m news)) (hA : A = none ∨ ∃ b, A = some ⟨b, 0, none⟩) (hA0 : A = none → m = 0 ∧ news = []) : Src w0 H0 X H L A m news := by
  rcases hA with rfl | ⟨b, rfl⟩
  · exact .inl (hA0 rfl)
  · exact Src.own hL
theorem Src.hp {H1 : Hp} {b o m : Nat} {news : List Value} (h : HCells H1 b o news) (hH : H1.le H) : Src w0 H0 X H L (some ⟨b, o, none⟩) m news :=
  .inr ⟨b, o, rfl, fun _ hs j u hu => hs.sub.cell ((h.mono hH) j u hu)⟩

theorem OpG.append (hT : TabOK P T) {ops : Array Oper} {i : Nat} {d t e ci : Nat} {x y : Operand} {ty : TypeId} {pos : String} {af : Array Edge} {g : Option (Nat × Bool)} {A B : Option Addr} {n c m c2 : Nat} {xs news : List Value} {r q : TRow}
    (ho : ops[i]? = some ⟨some d, .call ⟨.builtin .append, #[x, y], #[t, t]⟩, ty, pos, af, g⟩) (hw : wantk ops F g = some true) (hn : Nat.blt d fn.ntmps = true) (hx : evk F x = some (.slice A n c)) (hy : evk F y = some (.slice B m c2))
    (hr : trow T t = some r) (hk : r.kind = .slice e) (hq : trow T e = some q) (hbz : (Nat.ble q.bytes 65536 && Nat.blt 0 q.size && Nat.beq (cellsL q.zero).length q.size) = true)
    (hL : L[ci]? = some (Chunk.own e q.size A c n xs)) (hl : news.length = m * q.size) (h1 : news.all (fun u => u.oneCell') = true) (hsrc : Src w0 H0 X H L B m news) (hlen : n + m ≤ 2147483648) :
    OpG P fn w0 H0 X ops i F H L fun F' H' L' => ∃ A' c', F' = (d, .slice A' (n + m) c') :: F ∧ H' = H ∧ L' = L.set ci (Chunk.own e q.size A' c' (n + m) (xs ++ news)) := ⟨_, ho, hw, fun a w ha hs => by
  have hd := (hT.row hr).slice hk
  simp only [Bool.and_eq_true] at hbz
  obtain ⟨⟨hb, hsz⟩, hz⟩ := hbz
  have hsz : 0 < q.size := by simpa [Nat.blt_eq] using hsz
  have hz := Nat.eq_of_beq_eq_true hz
  have hown : w.ownsRow 0 e q.size (.slice A n c) n xs := hs.chunk hL
  have hrun : ∃ A' c' w', (Builtin.append_ #[t, t] ty #[.slice A n c, .slice B m c2]).run P w = .ok (.slice A' (n + m) c') w' ∧ w'.ownsRow 0 e q.size (.slice A' (n + m) c') (n + m) (xs ++ news) ∧
      w.grownBy w' (Value.slice A n c).ownBlock ∧ ∀ b, (Value.slice A' (n + m) c').ownBlock = some b → (Value.slice A n c).ownBlock = some b ∨ w.heap.size ≤ b := by
    rcases hsrc with ⟨rfl, rfl⟩ | ⟨b, o, rfl, hc⟩
    · obtain ⟨i', hi, _⟩ := (hT.row hq).info
      have hnc : n ≤ c := by
        rcases hown.2 with ⟨e1, h0⟩ | ⟨g', cap, cur, e1, _, _, h2, _⟩
        · simp at e1; omega
        · simp at e1; omega
      exact ⟨A, c, w, run_append_zero hd hi w ty A B n c c2 hnc, by simpa using hown, ⟨rfl, rfl, rfl, Nat.le_refl _, fun _ _ _ => rfl⟩, fun b hb => .inl hb⟩
    · exact run_append_own2 hd (hT.row hq) hb hsz hz ty hown b o m c2 news hl (hc w hs) h1 hlen
  obtain ⟨A', c', w', hr', hown', hgr, hbk⟩ := hrun
  refine .value (v := .slice A' (n + m) c') (w' := w') ?_ ⟨_, _, _, ⟨A', c', rfl, rfl, rfl⟩, ha.put (by simpa [Nat.blt_eq] using hn) _, hs.set_ hL (SH.one (hs.pre1 hL) (Chg.grown hgr fun b hb => mem_blks (L := [Chunk.own e q.size A c n xs]) (.head _) hb) hown' hbk)⟩
  simp [execOp, resolve, invoke, builtin, ha.eval hx, ha.eval hy, hr']⟩
theorem WpG.append (hT : TabOK P T) {ops : Array Oper} {i : Nat} {rest : List Nat} {d t e ci : Nat} {x y : Operand} {ty : TypeId} {pos : String} {af : Array Edge} {g : Option (Nat × Bool)} {A B : Option Addr} {n c m c2 : Nat} {xs news : List Value} {r q : TRow}
    (ho : ops[i]? = some ⟨some d, .call ⟨.builtin .append, #[x, y], #[t, t]⟩, ty, pos, af, g⟩) (hw : wantk ops F g = some true) (hn : Nat.blt d fn.ntmps = true) (hx : evk F x = some (.slice A n c)) (hy : evk F y = some (.slice B m c2))
    (hr : trow T t = some r) (hk : r.kind = .slice e) (hq : trow T e = some q) (hbz : (Nat.ble q.bytes 65536 && Nat.blt 0 q.size && Nat.beq (cellsL q.zero).length q.size) = true)
    (hL : L[ci]? = some (Chunk.own e q.size A c n xs)) (hl : news.length = m * q.size) (h1 : news.all (fun u => u.oneCell') = true) (hsrc : Src w0 H0 X H L B m news) (hlen : n + m ≤ 2147483648)
    (h : ∀ A' c', WpG P fn w0 H0 X (.inRegion ops rest :: k) ((d, .slice A' (n + m) c') :: F) H (L.set ci (Chunk.own e q.size A' c' (n + m) (xs ++ news))) R) : WpG P fn w0 H0 X (.inRegion ops (i :: rest) :: k) F H L R :=
  WpG.step (OpG.append hT ho hw hn hx hy hr hk hq hbz hL hl h1 hsrc hlen) (by rintro _ _ _ ⟨A', c', rfl, rfl, rfl⟩; exact h A' c')

/-- A row written out: '[]T{..}', or what is handed to '...'. -/
theorem OpG.buildSlice (hT : TabOK P T) {ops : Array Oper} {i : Nat} {d t e len : Nat} {ps : Array (Nat × Operand)} {ty : TypeId} {pos : String} {af : Array Edge} {g : Option (Nat × Bool)} {vs : List (Nat × Value)} {xs : List Value} {r q : TRow}
    (ho : ops[i]? = some ⟨some d, .buildSlice t len ps, ty, pos, af, g⟩) (hw : wantk ops F g = some true) (hn : Nat.blt d fn.ntmps = true) (hv : evp F ps.toList = some vs)
    (hr : trow T t = some r) (hk : r.kind = .slice e) (hq : trow T e = some q) (hz : (Nat.ble (len * q.size) 16777216 && Nat.ble len 16777216) = true)
    (hf : fillG (fun i => some (i * q.size, q.size)) ((List.range (len * q.size)).map fun j => (cellsL q.zero)[j % (cellsL q.zero).length]!) vs = some xs) (hxl : xs.length = len * q.size) :
    OpG P fn w0 H0 X ops i F H L fun F' H' L' => ∃ b, F' = (d, .slice (some ⟨b, 0, none⟩) len len) :: F ∧ H' = H ∧ L' = Chunk.own e q.size (some ⟨b, 0, none⟩) len len xs :: L := ⟨_, ho, hw, fun a w ha hs => by
  have hd := (hT.row hr).slice hk
  simp only [Bool.and_eq_true] at hz
  have hz1 := Nat.le_of_ble_eq_true hz.1
  have hz2 := Nat.le_of_ble_eq_true hz.2
  have hfill := fillG_spec _ _ _ _ hf
  have hps := ha.evp hv
  refine .value (v := .slice (some ⟨w.heap.size, 0, none⟩) len len) (w' := w.alloc (.cells xs.toArray e)) ?_
    ⟨_, _, _, ⟨_, rfl, rfl, rfl⟩, ha.put (by simpa [Nat.blt_eq] using hn) _, hs.alloc (c := Chunk.own e q.size (some ⟨w.heap.size, 0, none⟩) len len xs) (.cells xs.toArray e) rfl ⟨hxl, .inr ⟨w.heap.size, len, xs.toArray, rfl, Nat.zero_le _, ?_, Nat.le_refl _, ?_, ?_, ?_⟩⟩⟩
  · have hcl : cellsL q.zero = q.zero.cells.toList := cellsL_eq _
    have harr : (List.map (fun j => (cellsL q.zero)[j % (cellsL q.zero).length]!) (List.range (len * q.size))).toArray = (if len * q.size = 0 then (#[] : Array Value) else (Array.range (len * q.size)).map (q.zero.cells[· % q.zero.cells.size]!)) := by
      rw [hcl]
      split
      · rename_i e; rw [e]; rfl
      · apply Array.ext'
        simp only [Array.toList_map, Array.toList_range]
        apply List.map_congr_left
        intro j _
        rw [Array.length_toList]
        simp only [getElem!_def, Array.getElem?_toList]
    rw [harr] at hfill
    have e2 : Array.map (fun x => (x.1, a.eval x.2)) ps = (List.map (fun p => (p.1, a.eval p.2)) ps.toList).toArray := by obtain ⟨l⟩ := ps; simp
    have h3 : ¬ (16777216 < len * q.size) := by omega
    by_cases hz0 : len * q.size = 0
    · rw [if_pos hz0] at hfill
      simp only [execOp, Instr.buildSlice, Sem.run_bind, run_underlying hd, Result.andThen_ok, (hT.row hq).run_size, e2, hps]
      rw [hz0, if_neg (by omega)]
      simp [hfill, newRow, Array.range_zero']
    · rw [if_neg hz0] at hfill
      simp only [execOp, Instr.buildSlice, Sem.run_bind, run_underlying hd, Result.andThen_ok, (hT.row hq).run_size, e2, hps]
      rw [if_neg (by omega), if_neg hz0]
      simp [(hT.row hq).run_zero, hfill, newRow]
  · show (w.heap.push _)[w.heap.size]? = _; simp
  · unfold maxLen; omega
  · simpa using hxl
  · simp [← hxl]⟩
theorem WpG.buildSlice (hT : TabOK P T) {ops : Array Oper} {i : Nat} {rest : List Nat} {d t e len : Nat} {ps : Array (Nat × Operand)} {ty : TypeId} {pos : String} {af : Array Edge} {g : Option (Nat × Bool)} {vs : List (Nat × Value)} {xs : List Value} {r q : TRow}
    (ho : ops[i]? = some ⟨some d, .buildSlice t len ps, ty, pos, af, g⟩) (hw : wantk ops F g = some true) (hn : Nat.blt d fn.ntmps = true) (hv : evp F ps.toList = some vs)
    (hr : trow T t = some r) (hk : r.kind = .slice e) (hq : trow T e = some q) (hz : (Nat.ble (len * q.size) 16777216 && Nat.ble len 16777216) = true)
    (hf : fillG (fun i => some (i * q.size, q.size)) ((List.range (len * q.size)).map fun j => (cellsL q.zero)[j % (cellsL q.zero).length]!) vs = some xs) (hxl : xs.length = len * q.size)
    (h : ∀ b, WpG P fn w0 H0 X (.inRegion ops rest :: k) ((d, .slice (some ⟨b, 0, none⟩) len len) :: F) H (Chunk.own e q.size (some ⟨b, 0, none⟩) len len xs :: L) R) : WpG P fn w0 H0 X (.inRegion ops (i :: rest) :: k) F H L R :=
  WpG.step (OpG.buildSlice hT ho hw hn hv hr hk hq hz hf hxl) (by rintro _ _ _ ⟨b, rfl, rfl, rfl⟩; exact h b)

/-- A row that a 'make' makes. -/
theorem OpG.makeSlice (hT : TabOK P T) {ops : Array Oper} {i : Nat} {d t e n : Nat} {x : Operand} {ty : TypeId} {pos : String} {af : Array Edge} {g : Option (Nat × Bool)} {kd : IntKind} {r q : TRow} {z : Value}
    (ho : ops[i]? = some ⟨some d, .makeSlice t x x, ty, pos, af, g⟩) (hw : wantk ops F g = some true) (hn : Nat.blt d fn.ntmps = true) (hx : evk F x = some (.int kd (n : Int)))
    (hr : trow T t = some r) (hk : r.kind = .slice e) (hq : trow T e = some q) (hz : cellsL q.zero = [z]) (hqs : (Nat.beq q.size 1 && Nat.ble q.bytes 65536) = true) (hlen : n ≤ 2147483648) :
    OpG P fn w0 H0 X ops i F H L fun F' H' L' => ∃ b, F' = (d, .slice (some ⟨b, 0, none⟩) n n) :: F ∧ H' = H ∧ L' = Chunk.own e 1 (some ⟨b, 0, none⟩) n n (List.replicate n z) :: L := ⟨_, ho, hw, fun a w ha hs => by
  have hd := (hT.row hr).slice hk
  obtain ⟨ii, hi, hs1, hb1, hz1⟩ := (hT.row hq).info
  simp only [Bool.and_eq_true] at hqs
  have hq1 := Nat.eq_of_beq_eq_true hqs.1
  have hq2 := Nat.le_of_ble_eq_true hqs.2
  have hb2 : q.bytes * n ≤ 65536 * 2147483648 := Nat.mul_le_mul hq2 hlen
  have hzc : q.zero.cells = #[z] := by
    have := congrArg List.toArray hz
    rw [cellsL_eq] at this
    simpa using this
  have hm := run_make (P := P) w t e ii q.zero hd hi hz1 kd kd n n (by omega) (Int.le_refl _) (by rw [hb1]; omega) (by omega)
  have hmade : madeCells q.zero.cells (n * ii.size) = (List.replicate n z).toArray := by
    rw [hs1, hq1, hzc]
    unfold madeCells
    apply Array.ext'
    simp [Nat.mod_one, List.map_const']
  simp only [Int.toNat_natCast] at hm
  rw [hmade] at hm
  refine .value (v := .slice (some ⟨w.heap.size, 0, none⟩) n n) (w' := w.alloc (.cells (List.replicate n z).toArray e)) ?_
    ⟨_, _, _, ⟨_, rfl, rfl, rfl⟩, ha.put (by simpa [Nat.blt_eq] using hn) _, hs.alloc (c := Chunk.own e 1 (some ⟨w.heap.size, 0, none⟩) n n (List.replicate n z)) (.cells (List.replicate n z).toArray e) rfl
      ⟨by simp, .inr ⟨w.heap.size, n, (List.replicate n z).toArray, rfl, Nat.zero_le _, ?_, Nat.le_refl _, ?_, by simp, ?_⟩⟩⟩
  · simp only [execOp, ha.eval hx, Sem.run_bind, hm]
    simp
  · show (w.heap.push _)[w.heap.size]? = _; simp
  · unfold maxLen; omega
  · simp⟩
theorem WpG.makeSlice (hT : TabOK P T) {ops : Array Oper} {i : Nat} {rest : List Nat} {d t e n : Nat} {x : Operand} {ty : TypeId} {pos : String} {af : Array Edge} {g : Option (Nat × Bool)} {kd : IntKind} {r q : TRow} {z : Value}
    (ho : ops[i]? = some ⟨some d, .makeSlice t x x, ty, pos, af, g⟩) (hw : wantk ops F g = some true) (hn : Nat.blt d fn.ntmps = true) (hx : evk F x = some (.int kd (n : Int)))
    (hr : trow T t = some r) (hk : r.kind = .slice e) (hq : trow T e = some q) (hz : cellsL q.zero = [z]) (hqs : (Nat.beq q.size 1 && Nat.ble q.bytes 65536) = true) (hlen : n ≤ 2147483648)
    (h : ∀ b, WpG P fn w0 H0 X (.inRegion ops rest :: k) ((d, .slice (some ⟨b, 0, none⟩) n n) :: F) H (Chunk.own e 1 (some ⟨b, 0, none⟩) n n (List.replicate n z) :: L) R) : WpG P fn w0 H0 X (.inRegion ops (i :: rest) :: k) F H L R :=
  WpG.step (OpG.makeSlice hT ho hw hn hx hr hk hq hz hqs hlen) (by rintro _ _ _ ⟨b, rfl, rfl, rfl⟩; exact h b)

theorem OpG.storeOwn (hT : TabOK P T) {ops : Array Oper} {i : Nat} {t : Nat} {x y : Operand} {ty : TypeId} {pos : String} {af : Array Edge} {g : Option (Nat × Bool)} {b off ci E sz c n : Nat} {xs xs' : List Value} {v : Value} {r : TRow}
    (ho : ops[i]? = some ⟨none, .store t x y, ty, pos, af, g⟩) (hw : wantk ops F g = some true) (hx : evk F x = some (.pointer (some ⟨b, off, none⟩))) (hy : evk F y = some v)
    (hr : trow T t = some r) (hsz : (cellsL v).length = r.size) (h1 : (cellsL v).all (fun u => u.oneCell') = true) (hL : L[ci]? = some (Chunk.own E sz (some ⟨b, 0, none⟩) c n xs)) (hp : putAt xs off (cellsL v) = some xs') :
    OpG P fn w0 H0 X ops i F H L fun F' H' L' => F' = F ∧ H' = H ∧ L' = L.set ci (Chunk.own E sz (some ⟨b, 0, none⟩) c n xs') := ⟨_, ho, hw, fun a w ha hs => by
  have hown : w.ownsRow 0 E sz (.slice (some ⟨b, 0, none⟩) n c) n xs := hs.chunk hL
  obtain ⟨cur, hg, hle, hown'⟩ := ownsRow_put hown hp
  have hst := run_storeRow (P := P) (hT.row hr) hg hsz hle h1
  exact .skip (w' := w.setRow b (cur.toList.take off ++ cellsL v ++ cur.toList.drop (off + (cellsL v).length)).toArray) (by simp [execOp, ha.eval hx, ha.eval hy, Instr.storeAt, Instr.sureAddr, hst])
    ⟨_, _, _, ⟨rfl, rfl, rfl⟩, ha, hs.set_ hL (SH.one (hs.pre1 hL) (Chg.setRow _ _ (mem_blks (.head _) rfl)) hown' (fun b' e => .inl e))⟩⟩
theorem WpG.storeOwn (hT : TabOK P T) {ops : Array Oper} {i : Nat} {rest : List Nat} {t : Nat} {x y : Operand} {ty : TypeId} {pos : String} {af : Array Edge} {g : Option (Nat × Bool)} {b off ci E sz c n : Nat} {xs xs' : List Value} {v : Value} {r : TRow}
    (ho : ops[i]? = some ⟨none, .store t x y, ty, pos, af, g⟩) (hw : wantk ops F g = some true) (hx : evk F x = some (.pointer (some ⟨b, off, none⟩))) (hy : evk F y = some v)
    (hr : trow T t = some r) (hsz : (cellsL v).length = r.size) (h1 : (cellsL v).all (fun u => u.oneCell') = true) (hL : L[ci]? = some (Chunk.own E sz (some ⟨b, 0, none⟩) c n xs)) (hp : putAt xs off (cellsL v) = some xs')
    (h : WpG P fn w0 H0 X (.inRegion ops rest :: k) F H (L.set ci (Chunk.own E sz (some ⟨b, 0, none⟩) c n xs')) R) : WpG P fn w0 H0 X (.inRegion ops (i :: rest) :: k) F H L R :=
  WpG.step (OpG.storeOwn hT ho hw hx hy hr hsz h1 hL hp) (by rintro _ _ _ ⟨rfl, rfl, rfl⟩; exact h)

theorem putAt_one {xs : List Value} {j : Nat} {v : Value} (h : j < xs.length) : putAt xs j [v] = some (xs.set j v) := by
  unfold putAt
  rw [show Nat.ble (j + [v].length) xs.length = true from Nat.ble_eq_true_of_le (by simp; omega)]
  simp [List.set_eq_take_append_cons_drop, h]

/-! ### What is the call's own stays from here on -/
theorem WpG.freezeOwn {ci E sz : Nat} {A : Option Addr} {c n : Nat} {xs : List Value} (hL : L[ci]? = some (Chunk.own E sz A c n xs))
    (h : ∀ H', H.le H' → ((A = none ∧ n = 0) ∨ ∃ b, A = some ⟨b, 0, none⟩ ∧ HCells H' b 0 xs) → WpG P fn w0 H0 X k F H' (L.eraseIdx ci) R) : WpG P fn w0 H0 X k F H L R := fun a w ha hs => by
  have hs' := hs.perm (perm_at hL).symm
  have hown : w.ownsRow 0 E sz (.slice A n c) n xs := hs.chunk hL
  rcases hown.2 with ⟨e0, hn0⟩ | ⟨g, cap, cur, e0, _, hg, hnc, hcm, hcs, htake⟩
  · simp only [Value.slice.injEq] at e0
    exact h H (Hp.le.refl H) (.inl ⟨e0.1, hn0⟩) a w ha (hs.drop (List.eraseIdx_sublist ..))
  · simp only [Value.slice.injEq, true_and] at e0
    obtain ⟨rfl, rfl⟩ := e0
    refine h (fun x => if x = g then some (.cells cur E (0, 0)) else H x) (Hp.le_freeze hs' (b := g) rfl _) (.inr ⟨g, rfl, fun j u hu => ?_⟩) a w ha (hs'.freeze (b := g) rfl hg)
    simp only [hcell, if_true, Nat.zero_add]
    rw [← htake, List.getElem?_take] at hu
    split at hu
    · simpa using hu
    · cases hu

/-! ### Calls -/
theorem run_callFunc {g : FuncId} (hc : Callee P g) (args : Array Value) (w : World) : (callFunc g args).run P w = .ok (.enter g args) w := by
  obtain ⟨fn, hf, hn, hb⟩ := hc
  have hn' : fn.name ≠ "runtime.NumGoroutine" := by simpa using hn
  have hb' : fn.body ≠ none := fun e => by rw [e] at hb; cases hb
  simp [callFunc, hf, hn', hb']
theorem run_callValue {g : FuncId} (hc : Callee P g) {a : Act} {f : Operand} {xs : Array Operand} {ts : Array TypeId} {first cap : Array Value} {vs : List Value} {dst : Option Nat} {ty : TypeId} {pos : String} {af : Array Edge} {gd : Option (Nat × Bool)}
    (hf : a.eval f = .func (.func g) first cap) (hx : xs.toList.map a.eval = vs) (w : World) :
    (execOp a.eval ⟨dst, .call ⟨.value f, xs, ts⟩, ty, pos, af, gd⟩).run P w = .ok (.enter g (first.toList ++ (vs ++ cap.toList)).toArray) w := by
  have f1 := congrArg List.toArray hx
  simp only [← List.map_toArray, Array.toArray_toList] at f1
  simp [execOp, resolve, Deferred.ofValue, invoke, hf, f1, run_callFunc hc]

/-- A call that is handed the pieces Lc. -/
theorem OpG.call {ops : Array Oper} {i : Nat} {d : Nat} {g : FuncId} {f : Operand} {xs : Array Operand} {ts : Array TypeId} {ty : TypeId} {pos : String} {af : Array Edge} {gd : Option (Nat × Bool)} {first cap : Array Value} {vs args : List Value} {Lc Lf : List Chunk}
    {post : Value → Hp → List Chunk → Prop}
    (ho : ops[i]? = some ⟨some d, .call ⟨.value f, xs, ts⟩, ty, pos, af, gd⟩) (hw : wantk ops F gd = some true) (hn : Nat.blt d fn.ntmps = true) (hf : evk F f = some (.func (.func g) first cap)) (hx : evs F xs.toList = some vs)
    (hargs : first.toList ++ (vs ++ cap.toList) = args) (hL : L.Perm (Lc ++ Lf)) (hc : CallG P g args H Lc post) :
    OpG P fn w0 H0 X ops i F H L fun F' H' L'' => ∃ v L', F' = (d, v) :: F ∧ H.le H' ∧ post v H' L' ∧ L'' = L' ++ Lf := ⟨_, ho, hw, fun a w ha hs => by
  have hs' := hs.perm hL.symm
  refine .call (hargs ▸ run_callValue hc.1 (ha.eval hf) (ha.evs hx) w) (fun v w' => ∃ H' L', SH w H (blks Lc) w' H' L' ∧ post v H' L') ((hc.2 w (hs'.pre (List.sublist_append_left ..))).mono ?_) ?_
  · rintro e w' ⟨v, H', L', rfl, h1, h2⟩
    exact ⟨v, rfl, H', L', h1, h2⟩
  · rintro v w' ⟨H', L', h1, h2⟩
    exact ⟨_, _, _, ⟨v, L', rfl, h1.le, h2, rfl⟩, ha.put (by simpa [Nat.blt_eq] using hn) v, hs'.frame h1⟩⟩
theorem WpG.call {ops : Array Oper} {i : Nat} {rest : List Nat} {d : Nat} {g : FuncId} {f : Operand} {xs : Array Operand} {ts : Array TypeId} {ty : TypeId} {pos : String} {af : Array Edge} {gd : Option (Nat × Bool)} {first cap : Array Value} {vs args : List Value} {Lc Lf : List Chunk}
    {post : Value → Hp → List Chunk → Prop}
    (ho : ops[i]? = some ⟨some d, .call ⟨.value f, xs, ts⟩, ty, pos, af, gd⟩) (hw : wantk ops F gd = some true) (hn : Nat.blt d fn.ntmps = true) (hf : evk F f = some (.func (.func g) first cap)) (hx : evs F xs.toList = some vs)
    (hargs : first.toList ++ (vs ++ cap.toList) = args) (hL : L.Perm (Lc ++ Lf)) (hc : CallG P g args H Lc post)
    (h : ∀ v H' L', H.le H' → post v H' L' → WpG P fn w0 H0 X (.inRegion ops rest :: k) ((d, v) :: F) H' (L' ++ Lf) R) : WpG P fn w0 H0 X (.inRegion ops (i :: rest) :: k) F H L R :=
  WpG.step (OpG.call ho hw hn hf hx hargs hL hc) (by rintro _ H' _ ⟨v, L', rfl, h1, h2, rfl⟩; exact h v H' L' h1 h2)
theorem WpG.call0 {ops : Array Oper} {i : Nat} {rest : List Nat} {d : Nat} {g : FuncId} {f : Operand} {xs : Array Operand} {ts : Array TypeId} {ty : TypeId} {pos : String} {af : Array Edge} {gd : Option (Nat × Bool)} {first cap : Array Value} {vs args : List Value}
    {post : Value → Hp → List Chunk → Prop}
    (ho : ops[i]? = some ⟨some d, .call ⟨.value f, xs, ts⟩, ty, pos, af, gd⟩) (hw : wantk ops F gd = some true) (hn : Nat.blt d fn.ntmps = true) (hf : evk F f = some (.func (.func g) first cap)) (hx : evs F xs.toList = some vs)
    (hargs : first.toList ++ (vs ++ cap.toList) = args) (hc : CallG P g args H [] post)
    (h : ∀ v H' L', H.le H' → post v H' L' → WpG P fn w0 H0 X (.inRegion ops rest :: k) ((d, v) :: F) H' (L' ++ L) R) : WpG P fn w0 H0 X (.inRegion ops (i :: rest) :: k) F H L R :=
  WpG.call (Lc := []) ho hw hn hf hx hargs (.refl L) hc h
theorem WpG.call1 {ops : Array Oper} {i : Nat} {rest : List Nat} {d ci : Nat} {g : FuncId} {f : Operand} {xs : Array Operand} {ts : Array TypeId} {ty : TypeId} {pos : String} {af : Array Edge} {gd : Option (Nat × Bool)} {first cap : Array Value} {vs args : List Value} {c : Chunk}
    {post : Value → Hp → List Chunk → Prop}
    (ho : ops[i]? = some ⟨some d, .call ⟨.value f, xs, ts⟩, ty, pos, af, gd⟩) (hw : wantk ops F gd = some true) (hn : Nat.blt d fn.ntmps = true) (hf : evk F f = some (.func (.func g) first cap)) (hx : evs F xs.toList = some vs)
    (hargs : first.toList ++ (vs ++ cap.toList) = args) (hL : L[ci]? = some c) (hc : CallG P g args H [c] post)
    (h : ∀ v H' L', H.le H' → post v H' L' → WpG P fn w0 H0 X (.inRegion ops rest :: k) ((d, v) :: F) H' (L' ++ L.eraseIdx ci) R) : WpG P fn w0 H0 X (.inRegion ops (i :: rest) :: k) F H L R :=
  WpG.call (Lc := [c]) ho hw hn hf hx hargs (perm_at hL) hc h

/-! ### Returns -/
inductive ResV (T : List TRow) (F : Fk) (L : List Chunk) : List ResultVar → List Value → Prop
  | nil : ResV T F L [] []
  | tmp {t : Nat} {v : Value} {rs : List ResultVar} {vs : List Value} : look F t = some v → ResV T F L rs vs → ResV T F L (.tmp t :: rs) (v :: vs)
  | cell {a t b off ci : Nat} {cs : List Value} {U : Nat} {r : TRow} {v : Value} {rs : List ResultVar} {vs : List Value} : look F a = some (.pointer (some ⟨b, off, none⟩)) → L[ci]? = some (Chunk.box b cs U) → trow T t = some r → partOf r cs off = some v → ResV T F L rs vs → ResV T F L (.cell a t :: rs) (v :: vs)
def resVal : List Value → Value
  | [v] => v
  | vs => .tuple vs.toArray

def resF (tmps : Array Value) : ResultVar → Sem Value
  | .tmp t => pure (tmps.getD t undef)
  | .cell b t => do loadVar t (← asAddr (tmps.getD b undef))
theorem ResV.run (hT : TabOK P T) {rs : List ResultVar} {vs : List Value} (h : ResV T F L rs vs) {n : Nat} {a : Act} {w : World} (ha : Agrees n F a) (hs : SH w0 H0 X w H L) :
    (rs.mapM (resF a.tmps)).run P w = .ok vs w := by
  induction h with
  | nil => simp
  | tmp ht _ ih =>
    have hg := ha.eval (x := .tmp _) ht
    simp only [Act.eval] at hg
    simp only [List.mapM_cons, resF, hg, Sem.run_bind, Sem.run_pure, Result.andThen_ok, ih]
  | @cell a' t b off ci cs U r v rs vs ht hL hr hv _ ih =>
    have hg := ha.eval (x := .tmp _) ht
    simp only [Act.eval] at hg
    have hb : w.heap[b]? = some (.cells cs.toArray U (0, 0)) := hs.chunk hL
    have h2 : (loadVar t ⟨b, off, none⟩).run P w = .ok v w := by
      unfold partOf at hv
      cases hbl : Nat.ble (off + r.size) cs.length with
      | false => rw [hbl] at hv; cases hv
      | true =>
        rw [hbl] at hv
        have hle := Nat.le_of_ble_eq_true hbl
        exact run_loadVar (P := P) (hT.row hr) (w := w) (b := b) (o := off) (cs := (cs.drop off).take r.size) (by simp; omega) (fun j u hu => by
          rw [List.getElem?_take] at hu
          split at hu
          · simp [World.cell?, hb]; simpa using hu
          · cases hu) hv
    simp only [List.mapM_cons, resF, hg, asAddr, Sem.run_bind, Sem.run_pure, Result.andThen_ok, h2, ih]

theorem run_results (hT : TabOK P T) {vs : List Value} (h : ResV T F L fn.results.toList vs) {n : Nat} {a : Act} {w : World} (ha : Agrees n F a) (hs : SH w0 H0 X w H L) : (results fn a.tmps).run P w = .ok (resVal vs) w := by
  have := h.run (P := P) hT ha hs
  have e : results fn a.tmps = (do let vs ← fn.results.mapM (resF a.tmps); pure (if h : vs.size = 1 then vs[0] else .tuple vs)) := by
    unfold results
    congr 2
  rw [e, Array.mapM_eq_mapM_toList]
  simp only [Sem.run_bind, Sem.run_map, this, Result.andThen_ok, Sem.run_pure]
  match vs with
  | [] => rfl
  | [v] => rfl
  | u :: v :: vs => simp [resVal]

theorem WpG.ret (hT : TabOK P T) {vs : List Value} {post : Value → Hp → List Chunk → Prop} {L' : List Chunk} (hres : ResV T F L fn.results.toList vs) (hd : L'.Sublist L) (hpost : post (resVal vs) H L') :
    WpG P fn w0 H0 X (.code .ret :: k) F H L (Ret w0 H0 X post) := fun _ _ ha hs =>
  WpS.ret ha.defers (run_results hT hres ha hs) ⟨_, H, L', rfl, hs.drop hd, hpost⟩
theorem WpG.done (hT : TabOK P T) {vs : List Value} {post : Value → Hp → List Chunk → Prop} {L' : List Chunk} (hres : ResV T F L fn.results.toList vs) (hd : L'.Sublist L) (hpost : post (resVal vs) H L') :
    WpG P fn w0 H0 X [] F H L (Ret w0 H0 X post) := fun _ _ ha hs =>
  WpS.done ha.defers (run_results hT hres ha hs) ⟨_, H, L', rfl, hs.drop hd, hpost⟩
end
end Go.Proofs.YtdjemlkllbhdlaaGreat

/- Operations on maps. -/
import Derived.Test.YtdjemlkllbhdlaaGreatMaps
import Derived.Maps.RangeRun
namespace Go.Proofs.YtdjemlkllbhdlaaGreat
open Go Go.RowKit

/-- A way through a map, under way: which entries have come. -/
def Chunk.iter (r b n : Nat) (seen : List Nat) : Chunk where
  blk := some r
  holds w := w.heap[r]? = some (.mapIter (some b) n seen.toArray n)
  lt w h b' e := by cases e; exact lt_of_get h
  loc w w' h k := (k r rfl).trans h

section
variable {P : Program} {T : List TRow} {fn : Func} {w0 : World} {H0 : Hp} {X : List Nat} {k : List Item} {F : Fk} {H : Hp} {L : List Chunk} {R : Ending → World → Prop} {ops : Array Oper} {ty : TypeId} {pos : String} {af : Array Edge} {g : Option (Nat × Bool)} {dst : Option Nat}

theorem Frz.imap {H1 : Hp} {ci b : Nat} {l : List (Int × Value)} (h : Frz L H H1) (hL : L[ci]? = some (Chunk.imap b l)) : H1 b = some (mobj l) := by
  obtain ⟨_, w, _, hh, hb⟩ := h
  have hg : w.heap[b]? = some (mobj l) := hh _ (List.mem_of_getElem? hL)
  rw [hb b (mem_blks (List.mem_of_getElem? hL) rfl)]; exact hg

theorem OpG.mapUpdate (hT : TabOK P T) {i : Nat} {t kt et b ci : Nat} {x y z : Operand} {r rk : TRow} {l : List (Int × Value)} {q : Int} {v : Value} {o : Oper}
    (ho : ops[i]? = some o) (hop : o.op = .mapUpdate t x y z ∨ o.op = .insert t x y z) (hd : o.dst = none) (hw : wantk ops F o.guard = some true) (hx : evk F x = some (.map (some b))) (hy : evk F y = some (.int .i64 q)) (hz : evk F z = some v)
    (hr : trow T t = some r) (hm : r.kind = .map kt et) (hrk : trow T kt = some rk) (hk : rk.kind = .int .i64) (hL : L[ci]? = some (Chunk.imap b l)) :
    OpG P fn w0 H0 X ops i F H L fun F' H' L' => F' = F ∧ H' = H ∧ L' = L.set ci (Chunk.imap b (mput l q v)) := ⟨_, ho, hw, fun a w ha hs => by
  have hb : w.heap[b]? = some (mobj l) := hs.chunk hL
  have hrun := run_mapUpdate (P := P) hT hr hm hrk hk hb q v
  have hx' := ha.eval hx; have hy' := ha.eval hy; have hz' := ha.eval hz
  refine .skip (w' := w.putObj b (mobj (mput l q v))) ?_ ⟨_, _, _, ⟨rfl, rfl, rfl⟩, by rw [hd]; exact ha.putNone _, hs.set_ hL (SH.one (hs.pre1 hL) (Chg.putObj _ _ (by simp [blks, Chunk.imap])) (World.putObj_heap_same (lt_of_get hb)) (fun b' e => .inl e))⟩
  rcases hop with h | h
  · simp [execOp, h, hx', hy', hz', hrun]
  · simp [execOp, h, hx', hy', hz', hrun]⟩
theorem WpG.mapUpdate (hT : TabOK P T) {i : Nat} {rest : List Nat} {t kt et b ci : Nat} {x y z : Operand} {r rk : TRow} {l : List (Int × Value)} {q : Int} {v : Value} {o : Oper}
    (ho : ops[i]? = some o) (hop : o.op = .mapUpdate t x y z ∨ o.op = .insert t x y z) (hd : o.dst = none) (hw : wantk ops F o.guard = some true) (hx : evk F x = some (.map (some b))) (hy : evk F y = some (.int .i64 q)) (hz : evk F z = some v)
    (hr : trow T t = some r) (hm : r.kind = .map kt et) (hrk : trow T kt = some rk) (hk : rk.kind = .int .i64) (hL : L[ci]? = some (Chunk.imap b l))
    (h : WpG P fn w0 H0 X (.inRegion ops rest :: k) F H (L.set ci (Chunk.imap b (mput l q v))) R) : WpG P fn w0 H0 X (.inRegion ops (i :: rest) :: k) F H L R :=
  WpG.step (OpG.mapUpdate hT ho hop hd hw hx hy hz hr hm hrk hk hL) (by rintro _ _ _ ⟨rfl, rfl, rfl⟩; exact h)
theorem OpG.makeMap {i d t : Nat} (ho : ops[i]? = some ⟨some d, .makeMap t none, ty, pos, af, g⟩) (hw : wantk ops F g = some true) (hn : Nat.blt d fn.ntmps = true) :
    OpG P fn w0 H0 X ops i F H L fun F' H' L' => ∃ b, F' = (d, .map (some b)) :: F ∧ H' = H ∧ L' = Chunk.imap b [] :: L :=
  ⟨_, ho, hw, fun a w ha hs => .value (v := .map (some w.heap.size)) (w' := w.alloc (.map #[] 0)) (by simp [execOp, Instr.makeMap]) ⟨_, _, _, ⟨_, rfl, rfl, rfl⟩, ha.put (by simpa [Nat.blt_eq] using hn) _,
    hs.alloc _ rfl (by show (w.heap.push _)[w.heap.size]? = _; simp [mobj, entsF])⟩⟩
theorem WpG.makeMap {i d t : Nat} {rest : List Nat} (ho : ops[i]? = some ⟨some d, .makeMap t none, ty, pos, af, g⟩) (hw : wantk ops F g = some true) (hn : Nat.blt d fn.ntmps = true)
    (h : ∀ b, WpG P fn w0 H0 X (.inRegion ops rest :: k) ((d, .map (some b)) :: F) H (Chunk.imap b [] :: L) R) : WpG P fn w0 H0 X (.inRegion ops (i :: rest) :: k) F H L R :=
  WpG.step (OpG.makeMap ho hw hn) (by rintro _ _ _ ⟨b, rfl, rfl, rfl⟩; exact h b)
theorem mobj_size (l : List (Int × Value)) : (entsF 0 l).toArray.size = l.length := by simp [entsF_len]
theorem RunY.lenMap (hT : TabOK P T) {t kt et b ci : Nat} {x : Operand} {r : TRow} {l : List (Int × Value)} (hx : evk F x = some (.map (some b))) (hr : trow T t = some r) (hm : r.kind = .map kt et) (hL : L[ci]? = some (Chunk.imap b l)) :
    RunY P fn w0 H0 X F H L ⟨dst, .call ⟨.builtin .len, #[x], #[t]⟩, ty, pos, af, g⟩ (.int .i64 l.length) := fun a w ha hs => by
  have hb : w.heap[b]? = some (mobj l) := hs.chunk hL
  have hg := run_getObj_map (P := P) (w := w) (r := b) (es := (entsF 0 l).toArray) (clock := l.length) hb
  simp [execOp, ha.eval hx, resolve, invoke, builtin, Builtin.len_, run_underlying ((hT.row hr).map hm), hg, goInt, entsF_len]
theorem RunY.lenNil (hT : TabOK P T) {t kt et : Nat} {x : Operand} {r : TRow} (hx : evk F x = some (.map none)) (hr : trow T t = some r) (hm : r.kind = .map kt et) :
    RunY P fn w0 H0 X F H L ⟨dst, .call ⟨.builtin .len, #[x], #[t]⟩, ty, pos, af, g⟩ (.int .i64 0) := fun a w ha hs => by
  simp [execOp, ha.eval hx, resolve, invoke, builtin, Builtin.len_, run_underlying ((hT.row hr).map hm), goInt]

/-! ### All entries, in whatever order -/
theorem SH.drew {w : World} (h : SH w0 H0 X w H L) : SH w0 H0 X w.drew H L :=
  ⟨⟨h.chg.os, h.chg.tape, h.chg.output, h.chg.size, h.chg.block⟩, h.sub, h.le, h.fresh, fun c hc => c.loc w _ (h.holds c hc) fun _ _ => rfl, h.own, h.nodup⟩
theorem OpG.range (hT : TabOK P T) {i d t kt et b ci : Nat} {x : Operand} {r : TRow} {l : List (Int × Value)} (ho : ops[i]? = some ⟨some d, .range t x, ty, pos, af, g⟩) (hw : wantk ops F g = some true) (hn : Nat.blt d fn.ntmps = true)
    (hx : evk F x = some (.map (some b))) (hr : trow T t = some r) (hm : r.kind = .map kt et) (hL : L[ci]? = some (Chunk.imap b l)) :
    OpG P fn w0 H0 X ops i F H L fun F' H' L' => ∃ s, F' = (d, .pointer (some ⟨s, 0, none⟩)) :: F ∧ H' = H ∧ L' = Chunk.iter s b l.length [] :: L := ⟨_, ho, hw, fun a w ha hs => by
  have hb : w.heap[b]? = some (mobj l) := hs.chunk hL
  have hg := run_getObj_map (P := P) (w := w) (r := b) (es := (entsF 0 l).toArray) (clock := l.length) hb
  exact .value (v := .pointer (some ⟨w.heap.size, 0, none⟩)) (w' := w.alloc (.mapIter (some b) l.length #[] l.length)) (by simp [execOp, ha.eval hx, Instr.range, run_underlying ((hT.row hr).map hm), hg])
    ⟨_, _, _, ⟨_, rfl, rfl, rfl⟩, ha.put (by simpa [Nat.blt_eq] using hn) _, hs.alloc _ rfl (by show (w.heap.push _)[w.heap.size]? = _; simp)⟩⟩
theorem WpG.range (hT : TabOK P T) {i d t kt et b ci : Nat} {rest : List Nat} {x : Operand} {r : TRow} {l : List (Int × Value)} (ho : ops[i]? = some ⟨some d, .range t x, ty, pos, af, g⟩) (hw : wantk ops F g = some true) (hn : Nat.blt d fn.ntmps = true)
    (hx : evk F x = some (.map (some b))) (hr : trow T t = some r) (hm : r.kind = .map kt et) (hL : L[ci]? = some (Chunk.imap b l))
    (h : ∀ s, WpG P fn w0 H0 X (.inRegion ops rest :: k) ((d, .pointer (some ⟨s, 0, none⟩)) :: F) H (Chunk.iter s b l.length [] :: L) R) : WpG P fn w0 H0 X (.inRegion ops (i :: rest) :: k) F H L R :=
  WpG.step (OpG.range hT ho hw hn hx hr hm hL) (by rintro _ _ _ ⟨b, rfl, rfl, rfl⟩; exact h b)
theorem mem_entsF : ∀ {l : List (Int × Value)} {j : Nat} {e : MapEntry}, e ∈ entsF j l → ∃ i kx vx, l[i]? = some (kx, vx) ∧ e = ⟨.int .i64 kx, vx, j + i⟩
  | [], _, _, h => by cases h
  | (a, x) :: l, j, e, h => by
    rcases List.mem_cons.1 h with rfl | h
    · exact ⟨0, a, x, rfl, rfl⟩
    · obtain ⟨i, kx, vx, h1, h2⟩ := mem_entsF h
      exact ⟨i + 1, kx, vx, by simpa using h1, by rw [h2]; congr 1; omega⟩
theorem entsF_mem : ∀ {l : List (Int × Value)} {j i : Nat} {kx : Int} {vx : Value}, l[i]? = some (kx, vx) → (⟨.int .i64 kx, vx, j + i⟩ : MapEntry) ∈ entsF j l
  | [], _, _, _, _, h => by simp at h
  | (a, x) :: l, j, 0, kx, vx, h => by simp at h; obtain ⟨rfl, rfl⟩ := h; exact .head _
  | (a, x) :: l, j, i + 1, kx, vx, h => by
    have := entsF_mem (l := l) (j := j + 1) (i := i) (by simpa using h)
    rw [show j + 1 + i = j + (i + 1) from by omega] at this
    exact .tail _ this
theorem entsF_born : ∀ (l : List (Int × Value)) (j : Nat), ((entsF j l).map (·.born)).Nodup ∧ ∀ b ∈ (entsF j l).map (·.born), j ≤ b
  | [], j => ⟨List.nodup_nil, by simp [entsF]⟩
  | (a, x) :: l, j => by
    obtain ⟨h1, h2⟩ := entsF_born l (j + 1)
    refine ⟨List.nodup_cons.2 ⟨fun h => ?_, h1⟩, fun b hb => ?_⟩
    · have := h2 _ h; simp at this; omega
    · rcases List.mem_cons.1 hb with rfl | hb
      · exact Nat.le_refl _
      · have := h2 b hb; omega
/-- The next entry: none, and all have come; or whichever. -/
theorem OpG.next {i d b s ci cj : Nat} {x : Operand} {l : List (Int × Value)} {seen : List Nat} (ho : ops[i]? = some ⟨some d, .next x false, ty, pos, af, g⟩) (hw : wantk ops F g = some true) (hn : Nat.blt d fn.ntmps = true)
    (hx : evk F x = some (.pointer (some ⟨s, 0, none⟩))) (hL : L[ci]? = some (Chunk.iter s b l.length seen)) (hM : L[cj]? = some (Chunk.imap b l)) :
    OpG P fn w0 H0 X ops i F H L fun F' H' L' => H' = H ∧ ((F' = (d, .tuple #[.bool false]) :: F ∧ L' = L ∧ ∀ j, j < l.length → j ∈ seen) ∨
      (∃ j kx vx, l[j]? = some (kx, vx) ∧ j ∉ seen ∧ F' = (d, .tuple #[.bool true, .int .i64 kx, vx]) :: F ∧ L' = L.set ci (Chunk.iter s b l.length (seen ++ [j])))) := ⟨_, ho, hw, fun a w ha hs => by
  have hb : w.heap[b]? = some (mobj l) := hs.chunk hM
  have hr : w.heap[s]? = some (.mapIter (some b) l.length seen.toArray l.length) := hs.chunk hL
  have hold : ∀ y ∈ (entsF 0 l).toArray.toList, y.born < l.length := fun y hy => by
    obtain ⟨j, kx, vx, h1, rfl⟩ := mem_entsF hy
    have := (List.getElem?_eq_some_iff.1 h1).1
    simpa using this
  rcases run_next_at (P := P) w ty s b l.length l.length seen.toArray (entsF 0 l).toArray l.length hr hb hold (Nat.le_refl _) with ⟨h0, hrun⟩ | ⟨e, he, w1, hw1, hrun⟩
  · refine .value (v := .tuple #[.bool false]) (w' := w) (by simp [execOp, ha.eval hx, hrun]) ⟨_, _, _, ⟨rfl, .inl ⟨rfl, rfl, fun j hj => ?_⟩⟩, ha.put (by simpa [Nat.blt_eq] using hn) _, hs⟩
    apply Classical.byContradiction
    intro hns
    obtain ⟨⟨kx, vx⟩, hkv⟩ : ∃ p, l[j]? = some p := ⟨_, List.getElem?_eq_getElem hj⟩
    have hm := entsF_mem (j := 0) hkv
    have : (⟨.int .i64 kx, vx, 0 + j⟩ : MapEntry) ∈ leftOf (entsF 0 l).toArray seen.toArray := by
      unfold leftOf
      rw [Array.mem_filter]
      exact ⟨by simpa using hm, by simpa using hns⟩
    have h2 := Array.eq_empty_of_size_eq_zero h0
    rw [h2] at this
    simp at this
  · have he' : e ∈ leftOf (entsF 0 l).toArray seen.toArray := by simpa using he
    unfold leftOf at he'
    rw [Array.mem_filter] at he'
    obtain ⟨j, kx, vx, h1, rfl⟩ := mem_entsF (by simpa using he'.1)
    have hns : j ∉ seen := by simpa using he'.2
    have hs1 : SH w0 H0 X w1 H L := by rcases hw1 with rfl | rfl; exact hs; exact hs.drew
    have hr1 : w1.heap[s]? = some (.mapIter (some b) l.length seen.toArray l.length) := hs1.chunk hL
    have hput : ∀ o, Go.ChangeMaps.setBlock w1 s o = w1.putObj s o := fun o => rfl
    refine .value (v := .tuple #[.bool true, .int .i64 kx, vx]) (w' := Go.ChangeMaps.setBlock w1 s (.mapIter (some b) l.length (seen.toArray.push (0 + j)) l.length)) (by simp [execOp, ha.eval hx, hrun]) ⟨_, _, _, ⟨rfl, .inr ⟨j, kx, vx, h1, hns, rfl, rfl⟩⟩, ha.put (by simpa [Nat.blt_eq] using hn) _, ?_⟩
    rw [hput]
    refine hs1.set_ hL (SH.one (hs1.pre1 hL) (Chg.putObj _ _ (by simp [blks, Chunk.iter])) ?_ (fun b' e => .inl e))
    show (w1.putObj s _).heap[s]? = _
    rw [World.putObj_heap_same (lt_of_get hr1)]
    simp⟩
theorem RunY.entry {b s ci cj j : Nat} {x : Operand} {l : List (Int × Value)} {seen : List Nat} {kx : Int} {vx : Value} (hx : evk F x = some (.pointer (some ⟨s, 0, none⟩))) (hL : L[ci]? = some (Chunk.iter s b l.length (seen ++ [j]))) (hM : L[cj]? = some (Chunk.imap b l)) (hj : l[j]? = some (kx, vx)) :
    RunY P fn w0 H0 X F H L ⟨dst, .entry x, ty, pos, af, g⟩ (.tuple #[.int .i64 kx, vx]) := fun a w ha hs => by
  have hb : w.heap[b]? = some (mobj l) := hs.chunk hM
  have hr : w.heap[s]? = some (.mapIter (some b) l.length (seen ++ [j]).toArray l.length) := hs.chunk hL
  have hr' : w.heap[s]? = some (.mapIter (some b) l.length (seen.toArray.push (0 + j)) l.length) := by rw [hr]; simp
  have := run_entry_at (P := P) w s b l.length seen.toArray (entsF 0 l).toArray l.length ⟨.int .i64 kx, vx, 0 + j⟩ hr' hb (by simpa using entsF_mem (j := 0) hj) (by simpa using (entsF_born l 0).1)
  simp [execOp, ha.eval hx, this]
end
end Go.Proofs.YtdjemlkllbhdlaaGreat

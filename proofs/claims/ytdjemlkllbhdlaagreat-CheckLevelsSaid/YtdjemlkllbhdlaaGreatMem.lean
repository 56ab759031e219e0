/- The laws of a walk at what is the call's own: variables in memory, rows, and what is appended. -/
import Derived.Test.YtdjemlkllbhdlaaGreatWalk
namespace Go.Proofs.YtdjemlkllbhdlaaGreat
open Go Go.RowKit

/-! ### One piece of many -/
theorem SH.one {w w' : World} {H : Hp} {c c' : Chunk} (hp : Pre w H [c]) (hchg : Chg (blks [c]) w w') (hc' : c'.holds w') (hb : ∀ b, c'.blk = some b → c.blk = some b ∨ w.heap.size ≤ b) :
    SH w H (blks [c]) w' H [c'] := by
  have hHlt : ∀ b, H b ≠ none → b < w.heap.size := fun b hb => by
    cases hH : H b with
    | none => exact absurd hH hb
    | some o => exact lt_of_get (hp.sub b o hH)
  refine ⟨hchg, fun b o h => ?_, Hp.le.refl _, fun b h => .inl h, fun d hd => ?_, fun b hb' => ?_, ?_⟩
  · have hs := hp.sub b o h
    rw [hchg.block b (lt_of_get hs) fun hm => by have := hp.off b hm; rw [h] at this; cases this]
    exact hs
  · simp at hd; subst hd; exact hc'
  · obtain ⟨d, hd, hdb⟩ := List.mem_filterMap.1 hb'
    simp at hd; subst hd
    rcases hb b hdb with h1 | h1
    · have hm := mem_blks (L := [c]) (.head _) h1
      exact ⟨.inl hm, hp.off b hm⟩
    · refine ⟨.inr h1, ?_⟩
      cases hH : H b with
      | none => rfl
      | some o => have := hHlt b (by rw [hH]; simp); omega
  · cases h : c'.blk <;> simp [blks, h]

theorem perm_at {α : Type} : ∀ {L : List α} {i : Nat} {c : α}, L[i]? = some c → L.Perm (c :: L.eraseIdx i)
  | [], i, c, h => by simp at h
  | d :: L, 0, c, h => by simp at h; subst h; simp
  | d :: L, i + 1, c, h => by
    simp only [List.getElem?_cons_succ] at h
    simp only [List.eraseIdx_cons_succ]
    exact ((perm_at h).cons d).trans (List.Perm.swap c d _)
theorem perm_set {α : Type} : ∀ {L : List α} {i : Nat} {c c' : α}, L[i]? = some c → (L.set i c').Perm (c' :: L.eraseIdx i)
  | [], i, c, c', h => by simp at h
  | d :: L, 0, c, c', h => by simp
  | d :: L, i + 1, c, c', h => by
    simp only [List.getElem?_cons_succ] at h
    simp only [List.eraseIdx_cons_succ, List.set_cons_succ]
    exact ((perm_set h).cons d).trans (List.Perm.swap c' d _)

theorem SH.at_ {w0 w w' : World} {H0 H H' : Hp} {X : List Nat} {L Lc' : List Chunk} {i : Nat} {c : Chunk} (h : SH w0 H0 X w H L) (hi : L[i]? = some c) (k : SH w H (blks [c]) w' H' Lc') :
    SH w0 H0 X w' H' (Lc' ++ L.eraseIdx i) := SH.frame (Lc := [c]) (h.perm (perm_at hi).symm) k
theorem SH.set_ {w0 w w' : World} {H0 H H' : Hp} {X : List Nat} {L : List Chunk} {i : Nat} {c c' : Chunk} (h : SH w0 H0 X w H L) (hi : L[i]? = some c) (k : SH w H (blks [c]) w' H' [c']) :
    SH w0 H0 X w' H' (L.set i c') := (h.at_ hi k).perm (perm_set hi)
theorem SH.pre1 {w0 w : World} {H0 H : Hp} {X : List Nat} {L : List Chunk} {i : Nat} {c : Chunk} (h : SH w0 H0 X w H L) (hi : L[i]? = some c) : Pre w H [c] :=
  (h.perm (perm_at hi).symm).pre (List.Sublist.cons_cons c (List.nil_sublist _))

theorem Chg.setRow {w : World} {b : Nat} (cs : Array Value) (X : List Nat) (hb : b ∈ X) : Chg X w (w.setRow b cs) :=
  ⟨rfl, rfl, rfl, by simp, fun k _ hk => setRow_other w b k cs (fun e => hk (e ▸ hb))⟩
theorem Chg.grown {w w' : World} {row : Option Nat} (h : w.grownBy w' row) {X : List Nat} (hX : ∀ b, row = some b → b ∈ X) : Chg X w w' :=
  ⟨h.os, h.tape, h.output, h.size, fun k hk hx => h.block k hk (fun e => hx (hX k e.symm))⟩

section
variable {P : Program} {T : List TRow} {fn : Func} {w0 : World} {H0 : Hp} {X : List Nat} {k : List Item} {F : Fk} {H : Hp} {L : List Chunk} {R : Ending → World → Prop}

/-! ### One operation, whatever comes behind it -/
inductive OpS (P : Program) (o : Oper) (a : Act) (w : World) (K : Act → World → Prop) : Prop
  | value {w' : World} {v : Value} (hr : (execOp a.eval o).run P w = .ok (.value v) w') (h : K (a.put o.dst v) w')
  | skip {w' : World} (hr : (execOp a.eval o).run P w = .ok .skip w') (h : K (a.put o.dst undef) w')
  | call {w' : World} {f : FuncId} {args : Array Value} (hr : (execOp a.eval o).run P w = .ok (.enter f args) w') (Q : Value → World → Prop) (hc : Calls P f args w' fun e w'' => ∃ v, e = .returned v ∧ Q v w'')
    (h : ∀ v w'', Q v w'' → K (a.put o.dst v) w'')
theorem OpS.wps {ops : Array Oper} {i : Nat} {rest : List Nat} {o : Oper} {a : Act} {w : World} (ho : ops[i]? = some o) (hw : Region.wanted o (yielded ops a.tmps) = true) (h : OpS P o a w (fun a' w' => WpS P fn (.inRegion ops rest :: k) a' w' R)) :
    WpS P fn (.inRegion ops (i :: rest) :: k) a w R := by
  cases h with
  | value hr h => exact WpS.op ho hw hr h
  | skip hr h => exact WpS.opSkip ho hw hr h
  | call hr Q hc h => exact WpS.call ho hw hr hc h
theorem OpS.wpOp {ops : Array Oper} {i : Nat} {o : Oper} {a : Act} {w : World} {K : Act → World → Prop} {Q : Exit → Act → World → Prop} (ho : ops[i]? = some o) (hw : Region.wanted o (yielded ops a.tmps) = true) (h : OpS P o a w K) : Go.wpOp P ops Q i K a w := by
  unfold Go.wpOp
  simp only [ho, hw, if_true]
  refine .inl ?_
  cases h with
  | value hr h => simp only [Oper.wp, hr, Oper.upon]; exact h
  | skip hr h => simp only [Oper.wp, hr, Oper.upon]; exact h
  | call hr Q' hc h =>
    simp only [Oper.wp, hr, Oper.upon]
    refine hc.mono ?_
    rintro e w'' ⟨v, rfl, hq⟩
    exact h v w'' hq

def OpG (P : Program) (fn : Func) (w0 : World) (H0 : Hp) (X : List Nat) (ops : Array Oper) (i : Nat) (F : Fk) (H : Hp) (L : List Chunk) (Post : Fk → Hp → List Chunk → Prop) : Prop :=
  ∃ o, ops[i]? = some o ∧ wantk ops F o.guard = some true ∧ ∀ (a : Act) (w : World), Agrees fn.ntmps F a → SH w0 H0 X w H L → OpS P o a w fun a' w' => ∃ F' H' L', Post F' H' L' ∧ Agrees fn.ntmps F' a' ∧ SH w0 H0 X w' H' L'
theorem WpG.step {ops : Array Oper} {i : Nat} {rest : List Nat} {Post : Fk → Hp → List Chunk → Prop} (hs : OpG P fn w0 H0 X ops i F H L Post) (h : ∀ F' H' L', Post F' H' L' → WpG P fn w0 H0 X (.inRegion ops rest :: k) F' H' L' R) :
    WpG P fn w0 H0 X (.inRegion ops (i :: rest) :: k) F H L R := fun a w ha hsh => by
  obtain ⟨o, ho, hw, h1⟩ := hs
  refine OpS.wps ho (wantk_spec ha hw) ?_
  have hK : ∀ a' w', (∃ F' H' L', Post F' H' L' ∧ Agrees fn.ntmps F' a' ∧ SH w0 H0 X w' H' L') → WpS P fn (.inRegion ops rest :: k) a' w' R := fun a' w' ⟨F', H', L', hp, ha', hs'⟩ => h F' H' L' hp a' w' ha' hs'
  cases h1 a w ha hsh with
  | value hr h => exact .value hr (hK _ _ h)
  | skip hr h => exact .skip hr (hK _ _ h)
  | call hr Q hc h => exact .call hr Q hc fun v w'' hq => hK _ _ (h v w'' hq)

theorem SH.newBox {w : World} (h : SH w0 H0 X w H L) (cs : List Value) (U : Nat) : SH w0 H0 X (w.alloc (.cells cs.toArray U)) H (Chunk.box w.heap.size cs U :: L) :=
  h.alloc _ rfl (by show (w.heap.push _)[w.heap.size]? = _; simp)

/-- A variable in memory, that begins with a value. -/
theorem OpG.box {ops : Array Oper} {i : Nat} {d U : Nat} {x : Operand} {ty : TypeId} {pos : String} {af : Array Edge} {g : Option (Nat × Bool)} {v : Value}
    (ho : ops[i]? = some ⟨some d, .box U x, ty, pos, af, g⟩) (hw : wantk ops F g = some true) (hn : Nat.blt d fn.ntmps = true) (hx : evk F x = some v) {cs : List Value} (hcs : cellsL v = cs) :
    OpG P fn w0 H0 X ops i F H L fun F' H' L' => ∃ b, F' = (d, .pointer (some ⟨b, 0, none⟩)) :: F ∧ H' = H ∧ L' = Chunk.box b cs U :: L :=
  ⟨_, ho, hw, fun a w ha hs => .value (v := .pointer (some ⟨w.heap.size, 0, none⟩)) (w' := w.alloc (.cells cs.toArray U)) (by
    subst hcs
    simp [execOp, ha.eval hx, Instr.box, newVar, newRow, cellsL_eq]) ⟨_, _, _, ⟨_, rfl, rfl, rfl⟩, ha.put (by simpa [Nat.blt_eq] using hn) _, hs.newBox cs U⟩⟩
theorem WpG.box {ops : Array Oper} {i : Nat} {rest : List Nat} {d U : Nat} {x : Operand} {ty : TypeId} {pos : String} {af : Array Edge} {g : Option (Nat × Bool)} {v : Value}
    (ho : ops[i]? = some ⟨some d, .box U x, ty, pos, af, g⟩) (hw : wantk ops F g = some true) (hn : Nat.blt d fn.ntmps = true) (hx : evk F x = some v) {cs : List Value} (hcs : cellsL v = cs)
    (h : ∀ b, WpG P fn w0 H0 X (.inRegion ops rest :: k) ((d, .pointer (some ⟨b, 0, none⟩)) :: F) H (Chunk.box b cs U :: L) R) : WpG P fn w0 H0 X (.inRegion ops (i :: rest) :: k) F H L R :=
  WpG.step (OpG.box ho hw hn hx hcs) (by rintro _ _ _ ⟨b, rfl, rfl, rfl⟩; exact h b)
theorem OpG.alloc (hT : TabOK P T) {ops : Array Oper} {i : Nat} {d U : Nat} {ty : TypeId} {pos : String} {af : Array Edge} {g : Option (Nat × Bool)} {r : TRow}
    (ho : ops[i]? = some ⟨some d, .alloc U, ty, pos, af, g⟩) (hw : wantk ops F g = some true) (hn : Nat.blt d fn.ntmps = true) (hr : trow T U = some r) {cs : List Value} (hcs : cellsL r.zero = cs) :
    OpG P fn w0 H0 X ops i F H L fun F' H' L' => ∃ b, F' = (d, .pointer (some ⟨b, 0, none⟩)) :: F ∧ H' = H ∧ L' = Chunk.box b cs U :: L :=
  ⟨_, ho, hw, fun a w ha hs => .value (v := .pointer (some ⟨w.heap.size, 0, none⟩)) (w' := w.alloc (.cells cs.toArray U)) (by
    subst hcs
    simp [execOp, Instr.alloc, (hT.row hr).run_zero, newVar, newRow, cellsL_eq]) ⟨_, _, _, ⟨_, rfl, rfl, rfl⟩, ha.put (by simpa [Nat.blt_eq] using hn) _, hs.newBox cs U⟩⟩
theorem WpG.alloc (hT : TabOK P T) {ops : Array Oper} {i : Nat} {rest : List Nat} {d U : Nat} {ty : TypeId} {pos : String} {af : Array Edge} {g : Option (Nat × Bool)} {r : TRow}
    (ho : ops[i]? = some ⟨some d, .alloc U, ty, pos, af, g⟩) (hw : wantk ops F g = some true) (hn : Nat.blt d fn.ntmps = true) (hr : trow T U = some r) {cs : List Value} (hcs : cellsL r.zero = cs)
    (h : ∀ b, WpG P fn w0 H0 X (.inRegion ops rest :: k) ((d, .pointer (some ⟨b, 0, none⟩)) :: F) H (Chunk.box b cs U :: L) R) : WpG P fn w0 H0 X (.inRegion ops (i :: rest) :: k) F H L R :=
  WpG.step (OpG.alloc hT ho hw hn hr hcs) (by rintro _ _ _ ⟨b, rfl, rfl, rfl⟩; exact h b)

theorem run_storeRow {t : Nat} {r : TRow} (hr : RowOK P t r) {w : World} {b off : Nat} {cur : Array Value} {U : Nat} (hb : w.heap[b]? = some (.cells cur U (0, 0))) {v : Value} (hsz : (cellsL v).length = r.size)
    (hle : off + (cellsL v).length ≤ cur.size) (h1 : (cellsL v).all (fun u => u.oneCell') = true) :
    (storeVar t ⟨b, off, none⟩ v).run P w = .ok () (w.setRow b (cur.toList.take off ++ cellsL v ++ cur.toList.drop (off + (cellsL v).length)).toArray) := by
  have hst := run_storeCells_at P b off U (cellsL v) 0 cur w hb (by simpa using hle) (fun u hu => List.all_eq_true.1 h1 u hu)
  simp only [Nat.add_zero] at hst
  rw [cellsL_size] at hsz
  unfold storeVar
  rw [cellsL_eq] at hst ⊢
  simp [hr.run_size, hsz, hst]

theorem OpG.storeBox (hT : TabOK P T) {ops : Array Oper} {i : Nat} {t : Nat} {x y : Operand} {ty : TypeId} {pos : String} {af : Array Edge} {g : Option (Nat × Bool)} {b off ci U : Nat} {cs cs' : List Value} {v : Value} {r : TRow}
    (ho : ops[i]? = some ⟨none, .store t x y, ty, pos, af, g⟩) (hw : wantk ops F g = some true) (hx : evk F x = some (.pointer (some ⟨b, off, none⟩))) (hy : evk F y = some v)
    (hr : trow T t = some r) (hsz : (cellsL v).length = r.size) (h1 : (cellsL v).all (fun u => u.oneCell') = true) (hL : L[ci]? = some (Chunk.box b cs U)) (hp : putAt cs off (cellsL v) = some cs') :
    OpG P fn w0 H0 X ops i F H L fun F' H' L' => F' = F ∧ H' = H ∧ L' = L.set ci (Chunk.box b cs' U) :=
  ⟨_, ho, hw, fun a w ha hs => by
    have hb : w.heap[b]? = some (.cells cs.toArray U (0, 0)) := hs.chunk hL
    unfold putAt at hp
    cases hbl : Nat.ble (off + (cellsL v).length) cs.length with
    | false => rw [hbl] at hp; cases hp
    | true =>
      rw [hbl] at hp
      simp only [cond_true, Option.some.injEq] at hp
      have hle := Nat.le_of_ble_eq_true hbl
      have hst := run_storeRow (P := P) (hT.row hr) hb (off := off) hsz (by simpa using hle) h1
      refine .skip (w' := w.setRow b (cs.toArray.toList.take off ++ cellsL v ++ cs.toArray.toList.drop (off + (cellsL v).length)).toArray) (by simp [execOp, ha.eval hx, ha.eval hy, Instr.storeAt, Instr.sureAddr, hst])
        ⟨_, _, _, ⟨rfl, rfl, rfl⟩, ha, hs.set_ hL (SH.one (hs.pre1 hL) (Chg.setRow _ _ (by simp [blks, Chunk.box])) ?_ (fun b' e => .inl e))⟩
      show (w.setRow b _).heap[b]? = _
      rw [setRow_heap w b _ _ _ _ hb, ← hp]
      simp⟩
theorem WpG.storeBox (hT : TabOK P T) {ops : Array Oper} {i : Nat} {rest : List Nat} {t : Nat} {x y : Operand} {ty : TypeId} {pos : String} {af : Array Edge} {g : Option (Nat × Bool)} {b off ci U : Nat} {cs cs' : List Value} {v : Value} {r : TRow}
    (ho : ops[i]? = some ⟨none, .store t x y, ty, pos, af, g⟩) (hw : wantk ops F g = some true) (hx : evk F x = some (.pointer (some ⟨b, off, none⟩))) (hy : evk F y = some v)
    (hr : trow T t = some r) (hsz : (cellsL v).length = r.size) (h1 : (cellsL v).all (fun u => u.oneCell') = true) (hL : L[ci]? = some (Chunk.box b cs U)) (hp : putAt cs off (cellsL v) = some cs')
    (h : WpG P fn w0 H0 X (.inRegion ops rest :: k) F H (L.set ci (Chunk.box b cs' U)) R) : WpG P fn w0 H0 X (.inRegion ops (i :: rest) :: k) F H L R :=
  WpG.step (OpG.storeBox hT ho hw hx hy hr hsz h1 hL hp) (by rintro _ _ _ ⟨rfl, rfl, rfl⟩; exact h)

/-! ### Rows of the call's own -/
theorem WpG.ownNil (E sz : Nat) (h : WpG P fn w0 H0 X k F H (Chunk.own E sz none 0 0 [] :: L) R) : WpG P fn w0 H0 X k F H L R := fun a w ha hs =>
  h a w ha ⟨hs.chg, hs.sub, hs.le, hs.fresh, fun c hc => by
    rcases List.mem_cons.1 hc with rfl | hc
    · exact World.ownsRow_nil w 0 E sz
    · exact hs.holds c hc, by simpa [blks, List.filterMap_cons, Chunk.own, Value.ownBlock] using hs.own, by simpa [blks, List.filterMap_cons, Chunk.own, Value.ownBlock] using hs.nodup⟩

/-- The address of an element. -/
theorem WpG.indexAddr (hT : TabOK P T) {ops : Array Oper} {i : Nat} {rest : List Nat} {d t : Nat} {x y : Operand} {ty : TypeId} {pos : String} {af : Array Edge} {g : Option (Nat × Bool)} {b off n c e : Nat} {kd : IntKind} {j : Int} {r q : TRow}
    (ho : ops[i]? = some ⟨some d, .indexAddr t x y, ty, pos, af, g⟩) (hw : wantk ops F g = some true) (hn : Nat.blt d fn.ntmps = true) (hx : evk F x = some (.slice (some ⟨b, off, none⟩) n c)) (hy : evk F y = some (.int kd j))
    (hr : trow T t = some r) (hk : r.kind = .slice e) (hq : trow T e = some q) (h0 : 0 ≤ j) (h1 : j < n)
    (h : WpG P fn w0 H0 X (.inRegion ops rest :: k) ((d, .pointer (some ⟨b, off + j.toNat * q.size, none⟩)) :: F) H L R) : WpG P fn w0 H0 X (.inRegion ops (i :: rest) :: k) F H L R :=
  WpG.op ho hw rfl hn (fun a w ha hs => by
    obtain ⟨d', hd, hdk⟩ := (hT.row hr).under
    rw [hk] at hdk
    cases d' <;> simp only [TK.of, reduceCtorEq] at hdk
    simp only [TK.slice.injEq] at hdk
    subst hdk
    have hadd : (⟨b, off, none⟩ : Addr).add (j.toNat * q.size) = ⟨b, off + j.toNat * q.size, none⟩ := by
      unfold Addr.add
      split <;> simp_all
    simp only [execOp, ha.eval hx, ha.eval hy, Instr.indexAt, asIntOf, Sem.run_bind, Sem.run_pure, run_underlying hd, Result.andThen_ok, (hT.row hq).run_size, h0, h1, and_self, if_true, hadd]
    done) h

theorem ownsRow_cells {w : World} {E sz n : Nat} {b c : Nat} {xs : List Value} (h : w.ownsRow 0 E sz (.slice (some ⟨b, 0, none⟩) n c) n xs) (j : Nat) (u : Value) (hu : xs[j]? = some u) : w.cell? ⟨b, j, none⟩ = some u := by
  have := h.cells (g := b) rfl j u hu
  have hadd : (⟨b, 0, none⟩ : Addr).add j = ⟨b, j, none⟩ := by unfold Addr.add; split <;> simp_all
  rwa [hadd] at this

theorem WpG.loadOwn (hT : TabOK P T) {ops : Array Oper} {i : Nat} {rest : List Nat} {d t : Nat} {x : Operand} {ty : TypeId} {pos : String} {af : Array Edge} {g : Option (Nat × Bool)} {b off ci E sz c n : Nat} {xs cs : List Value} {v : Value} {r : TRow}
    (ho : ops[i]? = some ⟨some d, .load t x, ty, pos, af, g⟩) (hw : wantk ops F g = some true) (hn : Nat.blt d fn.ntmps = true) (hx : evk F x = some (.pointer (some ⟨b, off, none⟩)))
    (hr : trow T t = some r) (hL : L[ci]? = some (Chunk.own E sz (some ⟨b, 0, none⟩) c n xs)) (hl : cs.length = r.size) (hc : ∀ (j : Nat) u, cs[j]? = some u → xs[off + j]? = some u) (hv : mkv r.kind.agg cs = some v)
    (h : WpG P fn w0 H0 X (.inRegion ops rest :: k) ((d, v) :: F) H L R) : WpG P fn w0 H0 X (.inRegion ops (i :: rest) :: k) F H L R :=
  WpG.op ho hw rfl hn (fun a w ha hs => by
    have hb := hs.chunk hL
    have := run_loadVar (P := P) (hT.row hr) (w := w) hl (fun j u hu => ownsRow_cells hb _ u (hc j u hu)) hv
    simp [execOp, ha.eval hx, Instr.loadAt, Instr.sureAddr, this]) h

theorem take_put {α : Type} (l vs : List α) (off m : Nat) (h : off + vs.length ≤ m) (hm : m ≤ l.length) :
    (l.take off ++ vs ++ l.drop (off + vs.length)).take m = (l.take m).take off ++ (vs ++ (l.take m).drop (off + vs.length)) := by
  rw [List.append_assoc, List.take_append, List.take_append, List.take_take, List.take_take, List.drop_take]
  simp only [List.length_take]
  rw [show min m off = off from by omega, show min off m = off from by omega, show min off l.length = off from by omega]
  rw [List.take_of_length_le (l := vs) (by omega), show m - off - vs.length = m - (off + vs.length) from by omega]

theorem ownsRow_put {w : World} {E sz n b c off : Nat} {xs xs' vs : List Value} (h : w.ownsRow 0 E sz (.slice (some ⟨b, 0, none⟩) n c) n xs) (hp : putAt xs off vs = some xs') :
    ∃ cur, w.heap[b]? = some (.cells cur E (0, 0)) ∧ off + vs.length ≤ cur.size ∧
      (w.setRow b (cur.toList.take off ++ vs ++ cur.toList.drop (off + vs.length)).toArray).ownsRow 0 E sz (.slice (some ⟨b, 0, none⟩) n c) n xs' := by
  unfold putAt at hp
  cases hbl : Nat.ble (off + vs.length) xs.length with
  | false => rw [hbl] at hp; cases hp
  | true =>
    rw [hbl] at hp
    simp only [cond_true, Option.some.injEq] at hp
    have hle := Nat.le_of_ble_eq_true hbl
    obtain ⟨hl, h2⟩ := h
    rcases h2 with ⟨e, _⟩ | ⟨g, cap, cur, e, _, hg, hnc, hcm, hcs, ht⟩
    · cases e
    · simp only [Value.slice.injEq, Option.some.injEq, Addr.mk.injEq, and_true, true_and] at e
      obtain ⟨rfl, rfl⟩ := e
      have hxl : xs.length ≤ cur.size := by rw [hl, hcs]; exact Nat.mul_le_mul_right _ hnc
      refine ⟨cur, hg, by omega, by rw [← hp]; simp; omega, .inr ⟨b, c, _, rfl, Nat.zero_le _, setRow_heap w b cur _ E _ hg, hnc, hcm, ?_, ?_⟩⟩
      · simp [← hcs]; omega
      · rw [← hp]
        have hm : n * sz = xs.length := hl.symm
        rw [hm] at ht ⊢
        have := take_put cur.toList vs off xs.length hle (by simpa using hxl)
        rw [ht] at this
        exact this
end
end Go.Proofs.YtdjemlkllbhdlaaGreat

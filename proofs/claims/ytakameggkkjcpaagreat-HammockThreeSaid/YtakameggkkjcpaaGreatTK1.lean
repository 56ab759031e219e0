/- Part 1 of the proof: Of a hammock of three blocks, either way round, the hammock, its cost and its merging are found, and behind a phi or a further way out none is: 'HammockThree' answers true at every input. No conditions. -/
import Derived.Test.YtakameggkkjcpaaGreatProg
import Derived.Test.YtakameggkkjcpaaGreatChecked
import Derived.WalkKit
import Derived.OrdersHeld
import Derived.KernelRfl
import Derived.ProofKit
import Derived.OpenVars
import Derived.SizedLaws
import Derived.ReadAgain
import Derived.Laws.Bits64b
set_option linter.unusedVariables false
set_option linter.unusedSimpArgs false
namespace Go.Proofs.YtakameggkkjcpaaGreat
open Go Go.RowKit
abbrev Fk := List (Nat × Value)
def look : Fk → Nat → Option Value
  | [], _ => none
  | (d, v) :: F, t => bif Nat.beq d t then some v else look F t
theorem beq_no {d t : Nat} (e : ¬ d = t) : Nat.beq d t = false := by
  cases h : Nat.beq d t with
  | false => rfl
  | true => exact absurd (Nat.eq_of_beq_eq_true h) e
def evk (F : Fk) : Operand → Option Value
  | .tmp t => look F t
  | .const v => some v
  | .global g => some (.pointer (some ⟨g, 0, none⟩))
  | .func f => some (.func (.func f) #[] #[])
structure Agrees (n : Nat) (F : Fk) (a : Act) : Prop where
  defers : a.defers = []
  size : a.tmps.size = n
  at_ : ∀ t v, look F t = some v → a.tmps[t]? = some v
theorem Agrees.eval {n : Nat} {F : Fk} {a : Act} (h : Agrees n F a) {x : Operand} {v : Value} (hx : evk F x = some v) : a.eval x = v := by
  cases x with
  | tmp t => simp [Act.eval, Array.getD_eq_getD_getElem?, h.at_ t v hx]
  | const u => simpa [evk, Act.eval] using hx
  | global g => simpa [evk, Act.eval] using hx
  | func f => simpa [evk, Act.eval] using hx
theorem Agrees.put {n : Nat} {F : Fk} {a : Act} (h : Agrees n F a) {d : Nat} (hd : d < n) (v : Value) : Agrees n ((d, v) :: F) (a.put (some d) v) := by
  refine ⟨h.defers, by simpa [Act.put] using h.size, fun t u ht => ?_⟩
  simp only [look] at ht
  by_cases e : d = t
  · subst e
    simp at ht
    subst ht
    simp [Act.put, h.size, hd]
  · rw [beq_no e] at ht
    simp only [cond_false] at ht
    simp [Act.put, e, h.at_ t u ht]
theorem Agrees.putNone {n : Nat} {F : Fk} {a : Act} (h : Agrees n F a) (v : Value) : Agrees n F (a.put none v) := h
theorem Agrees.weaken {n : Nat} {F G : Fk} {a : Act} (h : Agrees n F a) (hG : ∀ p ∈ G, look F p.1 = some p.2) : Agrees n G a := by
  refine ⟨h.defers, h.size, fun t v ht => h.at_ t v ?_⟩
  induction G with
  | nil => cases ht
  | cons p G ih =>
    obtain ⟨d, u⟩ := p
    simp only [look] at ht
    by_cases e : d = t
    · subst e
      simp at ht
      subst ht
      exact hG _ (.head _)
    · rw [beq_no e] at ht
      exact ih (fun p hp => hG p (.tail _ hp)) ht
def WpS (P : Program) (fn : Func) (k : List Item) (a : Act) (w : World) (R : Ending → World → Prop) : Prop :=
  ∀ (b : Frame) (cs : List Frame), ∃ e a' w', bodyPost P fn R e a' w' ∧ Arrives P (lone (b.at a k) cs w) b [] cs e a' w'
section
variable {P : Program} {fn : Func} {k : List Item} {a : Act} {w : World} {R : Ending → World → Prop}
theorem WpS.steps {k' : List Item} {a' : Act} {w' : World} (hs : ∀ (b : Frame) (cs : List Frame), Steps P (lone (b.at a k) cs w) (lone (b.at a' k') cs w'))
    (h : WpS P fn k' a' w' R) : WpS P fn k a w R := fun b cs =>
  let ⟨e, a₂, w₂, hq, harr⟩ := h b cs
  ⟨e, a₂, w₂, hq, .of_steps (hs b cs) harr⟩
theorem WpS.calls {f : FuncId} {c : Code} {args : Array Value} (hf : P.funcs[f]? = some fn) (hb : fn.body = some c)
    (h : WpS P fn [.code c] { tmps := args ++ Array.replicate (fn.ntmps - args.size) undef, defers := [] } w R) : Calls P f args w R := by
  intro cs
  let b : Frame := { (default : Frame) with fn := f, kind := .normal }
  have henter : Frame.enter P f args .normal =
      b.at { tmps := args ++ Array.replicate (fn.ntmps - args.size) undef, defers := [] } [.code c] := by
    simp [Frame.enter, Frame.at, hf, hb, b]
  obtain ⟨e, a', w', hq, harr⟩ := h b cs
  rw [← henter] at harr
  cases e with
  | normal =>
    obtain ⟨hd, v, hr, hR⟩ := hq
    exact ⟨.returned v, w', _, hR, Steps.trans harr (.one step_end), rfl, rfl, hd, rfl, fn, hf, hr⟩
  | ret =>
    obtain ⟨hd, v, hr, hR⟩ := hq
    obtain ⟨todo, hs⟩ := harr
    exact ⟨.returned v, w', _, hR, hs, rfl, rfl, hd, rfl, fn, hf, hr⟩
  | panic chain =>
    obtain ⟨hd, hR⟩ := hq
    obtain ⟨todo, hs⟩ := harr
    exact ⟨.panicked chain, w', _, hR, hs, rfl, rfl, hd, fn, hf⟩
  | exit id => exact hq.elim
  | goto l => exact hq.elim
  | outgrown => exact ⟨.outgrown, w', b, hq, harr.resolve_left (by simp [b]), rfl, trivial⟩
theorem WpS.seq {x y : Code} (h : WpS P fn (.code x :: .code y :: k) a w R) : WpS P fn (.code (.seq x y) :: k) a w R := h.steps fun _ _ => .one step_seq
theorem WpS.skip (h : WpS P fn k a w R) : WpS P fn (.code .skip :: k) a w R := h.steps fun _ _ => .one step_skip
theorem WpS.label {l : Nat} (h : WpS P fn k a w R) : WpS P fn (.code (.label l) :: k) a w R := h.steps fun _ _ => .one step_label
theorem WpS.cond {c : Operand} {x y : Code} {t : Bool} (hc : a.eval c = .bool t) (h : WpS P fn (.code (if t then x else y) :: k) a w R) : WpS P fn (.code (.cond c x y) :: k) a w R :=
  h.steps fun _ _ => .one (step_cond hc)
theorem WpS.block {id : Nat} {c : Code} (h : WpS P fn (.code c :: .inBlock id :: k) a w R) : WpS P fn (.code (.block id c) :: k) a w R := h.steps fun _ _ => .one step_block
theorem WpS.inBlock {id : Nat} (h : WpS P fn k a w R) : WpS P fn (.inBlock id :: k) a w R := h.steps fun _ _ => .one step_inBlock
theorem WpS.loop {c : Code} (h : WpS P fn (.code c :: .inLoop c :: k) a w R) : WpS P fn (.code (.loop c) :: k) a w R := h.steps fun _ _ => .one step_loop
theorem WpS.inLoop {c : Code} (h : WpS P fn (.code c :: .inLoop c :: k) a w R) : WpS P fn (.inLoop c :: k) a w R := h.steps fun _ _ => .one step_inLoop
theorem WpS.exit {id : Nat} {k' : List Item} (he : exitTo id k = some k') (h : WpS P fn k' a w R) : WpS P fn (.code (.exit id) :: k) a w R := h.steps fun _ _ => .one (step_exit he)
theorem WpS.goto {l : Nat} {k' : List Item} (he : gotoIn l k = some k') (h : WpS P fn k' a w R) : WpS P fn (.code (.goto l) :: k) a w R := h.steps fun _ _ => .one (step_goto he)
theorem step_scope' {b : Frame} {cs : List Frame} {c : Code} : step P (lone (b.at a (.code (.scope c) :: k)) cs w) = .next (lone (b.at a (.code c :: .inScope c :: k)) cs w) :=
  step_lone_go (by simp [stepG, stepG.exec, Frame.at])
theorem step_inScope' {b : Frame} {cs : List Frame} {c : Code} : step P (lone (b.at a (.inScope c :: k)) cs w) = .next (lone (b.at a k) cs w) :=
  step_lone_go (by simp [stepG, stepG.exec, Frame.at])
theorem WpS.scope {c : Code} (h : WpS P fn (.code c :: .inScope c :: k) a w R) : WpS P fn (.code (.scope c) :: k) a w R := h.steps fun _ _ => .one step_scope'
theorem WpS.inScope {c : Code} (h : WpS P fn k a w R) : WpS P fn (.inScope c :: k) a w R := h.steps fun _ _ => .one step_inScope'
theorem WpS.region {id : Nat} {ops : Array Oper} (h : WpS P fn (.inRegion ops (List.range ops.size) :: k) a w R) : WpS P fn (.code (.region id ops false) :: k) a w R :=
  h.steps fun _ _ => .one step_region
theorem WpS.regionNil {ops : Array Oper} (h : WpS P fn k a w R) : WpS P fn (.inRegion ops [] :: k) a w R := h.steps fun _ _ => .one step_region_end
theorem WpS.ret (hd : a.defers = []) {v : Value} (hr : (results fn a.tmps).run P w = .ok v w) (hR : R (.returned v) w) : WpS P fn (.code .ret :: k) a w R :=
  fun _ _ => ⟨.ret, a, w, ⟨hd, v, hr, hR⟩, _, .one step_ret⟩
theorem WpS.done (hd : a.defers = []) {v : Value} (hr : (results fn a.tmps).run P w = .ok v w) (hR : R (.returned v) w) : WpS P fn [] a w R :=
  fun _ _ => ⟨.normal, a, w, ⟨hd, v, hr, hR⟩, Steps.refl _ _⟩
theorem WpS.op {ops : Array Oper} {i : Nat} {rest : List Nat} {o : Oper} {v : Value} {w' : World} (ho : ops[i]? = some o) (hw : Region.wanted o (yielded ops a.tmps) = true)
    (hr : (execOp a.eval o).run P w = .ok (.value v) w') (h : WpS P fn (.inRegion ops rest :: k) (a.put o.dst v) w' R) : WpS P fn (.inRegion ops (i :: rest) :: k) a w R :=
  h.steps fun b cs => .one (step_lone_go (by
    have hfin : (b.at a (.inRegion ops (i :: rest) :: k)).finish v = b.at (a.put o.dst v) (.inRegion ops rest :: k) := by rw [Frame.finish_at, ho]; rfl
    rw [stepG_op ho hw, ← hfin]; simp [stepG.apply, hr]))
theorem WpS.opSkip {ops : Array Oper} {i : Nat} {rest : List Nat} {o : Oper} {w' : World} (ho : ops[i]? = some o) (hw : Region.wanted o (yielded ops a.tmps) = true)
    (hr : (execOp a.eval o).run P w = .ok .skip w') (h : WpS P fn (.inRegion ops rest :: k) (a.put o.dst undef) w' R) : WpS P fn (.inRegion ops (i :: rest) :: k) a w R :=
  h.steps fun b cs => .one (step_lone_go (by
    have hfin : (b.at a (.inRegion ops (i :: rest) :: k)).finish undef = b.at (a.put o.dst undef) (.inRegion ops rest :: k) := by rw [Frame.finish_at, ho]; rfl
    rw [stepG_op ho hw, ← hfin]; simp [stepG.apply, hr]))
theorem WpS.unwanted {ops : Array Oper} {i : Nat} {rest : List Nat} {o : Oper} (ho : ops[i]? = some o) (hw : Region.wanted o (yielded ops a.tmps) = false)
    (h : WpS P fn (.inRegion ops rest :: k) (a.put o.dst undef) w R) : WpS P fn (.inRegion ops (i :: rest) :: k) a w R :=
  h.steps fun b cs => .one (by
    have hs := step_op_skip (P := P) (b := b) (a := a) (k := k) (cs := cs) (w := w) (ops := ops) (i := i) (rest := rest) (by simp [ho, hw])
    simpa only [ho, Option.bind_some] using hs)
theorem WpS.call {ops : Array Oper} {i : Nat} {rest : List Nat} {o : Oper} {f : FuncId} {args : Array Value} {w' : World} (ho : ops[i]? = some o) (hw : Region.wanted o (yielded ops a.tmps) = true)
    (hr : (execOp a.eval o).run P w = .ok (.enter f args) w') {Q : Value → World → Prop} (hc : Calls P f args w' fun e w'' => ∃ v, e = .returned v ∧ Q v w'')
    (h : ∀ v w'', Q v w'' → WpS P fn (.inRegion ops rest :: k) (a.put o.dst v) w'' R) : WpS P fn (.inRegion ops (i :: rest) :: k) a w R := by
  intro b cs
  have hfin : ∀ v, (b.at a (.inRegion ops (i :: rest) :: k)).finish v = b.at (a.put o.dst v) (.inRegion ops rest :: k) := by
    intro v; rw [Frame.finish_at, ho]; rfl
  obtain ⟨e, w'', fr, ⟨v, rfl, hQ⟩, hsteps, _, hleave⟩ := hc (b.at a (.inRegion ops (i :: rest) :: k) :: cs)
  have henter : step P (lone (b.at a (.inRegion ops (i :: rest) :: k)) cs w) =
      .next (lone (Frame.enter P f args .normal) (b.at a (.inRegion ops (i :: rest) :: k) :: cs) w') :=
    step_lone_go (by rw [stepG_op ho hw]; simp [stepG.apply, hr, Frame.at])
  obtain ⟨e, a', w₃, hq, harr⟩ := h v w'' hQ b cs
  refine ⟨e, a', w₃, hq, .of_steps (.head henter (hsteps.trans (.one ?_))) harr⟩
  rw [← hfin]; exact step_leave_returned hleave
theorem WpS.of_wp {c : Code} (h : c.wp P (fun e a' w' => match e with | .normal => WpS P fn k a' w' R | _ => False) a w) : WpS P fn (.code c :: k) a w R := by
  intro b cs
  obtain ⟨e, a', w', hq, harr⟩ := h b k cs
  cases e with
  | normal =>
    obtain ⟨e₂, a₂, w₂, hq₂, harr₂⟩ := hq b cs
    exact ⟨e₂, a₂, w₂, hq₂, .of_steps harr harr₂⟩
  | exit id => exact hq.elim
  | goto l => exact hq.elim
  | ret => exact hq.elim
  | panic ch => exact hq.elim
  | outgrown => exact hq.elim
end
end Go.Proofs.YtakameggkkjcpaaGreat
namespace Go.Proofs.YtakameggkkjcpaaGreat
open Go Go.RowKit
abbrev Hp := Nat → Option Obj
def Hp.le (H H' : Hp) : Prop := ∀ b o, H b = some o → H' b = some o
theorem Hp.le.refl (H : Hp) : H.le H := fun _ _ h => h
theorem Hp.le.trans {A B C : Hp} (h : A.le B) (k : B.le C) : A.le C := fun b o e => k b o (h b o e)
def Sub (H : Hp) (w : World) : Prop := ∀ b o, H b = some o → w.heap[b]? = some o
def hcell (H : Hp) (b off : Nat) : Option Value :=
  match H b with
  | some (.cells c _ _) => c[off]?
  | _ => none
theorem hcell.mono {H H' : Hp} (h : H.le H') {b off : Nat} {v : Value} (hc : hcell H b off = some v) : hcell H' b off = some v := by
  unfold hcell at *
  cases hb : H b with
  | none => rw [hb] at hc; cases hc
  | some o => rw [hb] at hc; rw [h b o hb]; exact hc
theorem Sub.cell {H : Hp} {w : World} (h : Sub H w) {b off : Nat} {v : Value} (hc : hcell H b off = some v) : w.cell? ⟨b, off, none⟩ = some v := by
  unfold hcell at hc
  cases hb : H b with
  | none => rw [hb] at hc; cases hc
  | some o =>
    rw [hb] at hc
    have := h b o hb
    cases o <;> first | cases hc | (simp [World.cell?, this]; exact hc)
structure Chunk where
  blk : Option Nat
  holds : World → Prop
  lt : ∀ w, holds w → ∀ b, blk = some b → b < w.heap.size
  loc : ∀ w w', holds w → (∀ b, blk = some b → w'.heap[b]? = w.heap[b]?) → holds w'
theorem lt_of_get {w : World} {b : Nat} {o : Obj} (h : w.heap[b]? = some o) : b < w.heap.size := (Array.getElem?_eq_some_iff.1 h).1
def Chunk.box (b : Nat) (cs : List Value) (T : TypeId) : Chunk where
  blk := some b
  holds w := w.heap[b]? = some (.cells cs.toArray T (0, 0))
  lt w h b' e := by cases e; exact lt_of_get h
  loc w w' h k := (k b rfl).trans h
def Chunk.own (E sz : Nat) (A : Option Addr) (c n : Nat) (xs : List Value) : Chunk where
  blk := (Value.slice A n c).ownBlock
  holds w := w.ownsRow 0 E sz (.slice A n c) n xs
  lt w h b e := (h.lt b e).2
  loc w w' h k := by
    refine ⟨h.1, ?_⟩
    rcases h.2 with hn | ⟨g, cap, cur, e, hb, hg, rest⟩
    · exact .inl hn
    · exact .inr ⟨g, cap, cur, e, hb, (k g (by rw [e]; rfl)).trans hg, rest⟩
structure Chg (X : List Nat) (w0 w : World) : Prop where
  os : w.os = w0.os
  tape : w.tape = w0.tape
  output : w.output = w0.output
  size : w0.heap.size ≤ w.heap.size
  block : ∀ b, b < w0.heap.size → b ∉ X → w.heap[b]? = w0.heap[b]?
theorem Chg.refl (X : List Nat) (w : World) : Chg X w w := ⟨rfl, rfl, rfl, Nat.le_refl _, fun _ _ _ => rfl⟩
theorem Chg.trans {X Y : List Nat} {a b c : World} (h : Chg X a b) (k : Chg Y b c) (hY : ∀ y ∈ Y, y ∈ X ∨ a.heap.size ≤ y) : Chg X a c :=
  ⟨k.os.trans h.os, k.tape.trans h.tape, k.output.trans h.output, Nat.le_trans h.size k.size, fun i hi hx =>
    (k.block i (Nat.lt_of_lt_of_le hi h.size) (fun hy => by rcases hY i hy with h1 | h1; exact hx h1; omega)).trans (h.block i hi hx)⟩
theorem Chg.below {w0 w : World} (h : Chg [] w0 w) : Below w0.heap.size w0 w := ⟨h.os, h.tape, h.output, h.size, fun k hk => h.block k hk (by simp)⟩
abbrev blks (L : List Chunk) : List Nat := L.filterMap Chunk.blk
theorem mem_blks {L : List Chunk} {c : Chunk} {b : Nat} (hc : c ∈ L) (hb : c.blk = some b) : b ∈ blks L := List.mem_filterMap.2 ⟨c, hc, hb⟩
structure SH (w0 : World) (H0 : Hp) (X : List Nat) (w : World) (H : Hp) (L : List Chunk) : Prop where
  chg : Chg X w0 w
  sub : Sub H w
  le : H0.le H
  fresh : ∀ b, H b ≠ none → H0 b ≠ none ∨ w0.heap.size ≤ b ∨ b ∈ X
  holds : ∀ c ∈ L, c.holds w
  own : ∀ b ∈ blks L, (b ∈ X ∨ w0.heap.size ≤ b) ∧ H b = none
  nodup : (blks L).Nodup
theorem SH.chunk {w0 : World} {H0 : Hp} {X : List Nat} {w : World} {H : Hp} {L : List Chunk} (h : SH w0 H0 X w H L) {i : Nat} {c : Chunk} (hi : L[i]? = some c) : c.holds w :=
  h.holds c (List.mem_of_getElem? hi)
theorem SH.start {w0 : World} {H0 : Hp} {L : List Chunk} (hs : Sub H0 w0) (hL : ∀ c ∈ L, c.holds w0) (hd : ∀ b ∈ blks L, H0 b = none) (hn : (blks L).Nodup) : SH w0 H0 (blks L) w0 H0 L :=
  ⟨Chg.refl _ _, hs, Hp.le.refl _, fun _ h => .inl h, hL, fun b hb => ⟨.inl hb, hd b hb⟩, hn⟩
theorem SH.drop {w0 : World} {H0 : Hp} {X : List Nat} {w : World} {H : Hp} {L L' : List Chunk} (h : SH w0 H0 X w H L) (hL : L'.Sublist L) : SH w0 H0 X w H L' :=
  ⟨h.chg, h.sub, h.le, h.fresh, fun c hc => h.holds c (hL.subset hc), fun b hb => h.own b ((hL.filterMap _).subset hb), h.nodup.sublist (hL.filterMap _)⟩
theorem SH.perm {w0 : World} {H0 : Hp} {X : List Nat} {w : World} {H : Hp} {L L' : List Chunk} (h : SH w0 H0 X w H L) (hL : L'.Perm L) : SH w0 H0 X w H L' :=
  ⟨h.chg, h.sub, h.le, h.fresh, fun c hc => h.holds c (hL.mem_iff.1 hc), fun b hb => h.own b ((hL.filterMap _).mem_iff.1 hb), (hL.filterMap _).nodup_iff.2 h.nodup⟩
structure Pre (w : World) (H : Hp) (L : List Chunk) : Prop where
  sub : Sub H w
  holds : ∀ c ∈ L, c.holds w
  off : ∀ b ∈ blks L, H b = none
  nodup : (blks L).Nodup
theorem Pre.sh {w : World} {H : Hp} {L : List Chunk} (h : Pre w H L) : SH w H (blks L) w H L := SH.start h.sub h.holds h.off h.nodup
theorem SH.pre {w0 : World} {H0 : Hp} {X : List Nat} {w : World} {H : Hp} {L L' : List Chunk} (h : SH w0 H0 X w H L) (hL : L'.Sublist L) : Pre w H L' :=
  let k := h.drop hL
  ⟨k.sub, k.holds, fun b hb => (k.own b hb).2, k.nodup⟩
theorem SH.frame {w0 w w' : World} {H0 H H' : Hp} {X : List Nat} {Lc Lf Lc' : List Chunk} (h : SH w0 H0 X w H (Lc ++ Lf)) (k : SH w H (blks Lc) w' H' Lc') :
    SH w0 H0 X w' H' (Lc' ++ Lf) := by
  have hX : ∀ y ∈ blks Lc, y ∈ X ∨ w0.heap.size ≤ y := fun y hy => (h.own y (by rw [blks, List.filterMap_append]; exact List.mem_append_left _ hy)).1
  have hlt : ∀ c ∈ Lf, ∀ b, c.blk = some b → b < w.heap.size := fun c hc b hb => c.lt w (h.holds c (List.mem_append_right _ hc)) b hb
  have hnd : (blks Lc ++ blks Lf).Nodup := by have := h.nodup; rwa [blks, List.filterMap_append] at this
  have hdis : ∀ c ∈ Lf, ∀ b, c.blk = some b → b ∉ blks Lc := fun c hc b hb hb' => (List.nodup_append.1 hnd).2.2 b hb' b (mem_blks hc hb) rfl
  have hkeep : ∀ c ∈ Lf, ∀ b, c.blk = some b → w'.heap[b]? = w.heap[b]? := fun c hc b hb => k.chg.block b (hlt c hc b hb) (hdis c hc b hb)
  refine ⟨h.chg.trans k.chg hX, k.sub, h.le.trans k.le, fun b hb => ?_, fun c hc => ?_, fun b hb => ?_, ?_⟩
  · rcases k.fresh b hb with h1 | h1 | h1
    · exact h.fresh b h1
    · exact .inr (.inl (Nat.le_trans h.chg.size h1))
    · rcases hX b h1 with h2 | h2
      · exact .inr (.inr h2)
      · exact .inr (.inl h2)
  · rcases List.mem_append.1 hc with h1 | h1
    · exact k.holds c h1
    · exact c.loc w w' (h.holds c (List.mem_append_right _ h1)) (hkeep c h1)
  · rw [blks, List.filterMap_append, List.mem_append] at hb
    rcases hb with h1 | h1
    · refine ⟨?_, (k.own b h1).2⟩
      rcases (k.own b h1).1 with h2 | h2
      · exact hX b h2
      · exact .inr (Nat.le_trans h.chg.size h2)
    · obtain ⟨c, hc, hcb⟩ := List.mem_filterMap.1 h1
      have ho := h.own b (by rw [blks, List.filterMap_append]; exact List.mem_append_right _ h1)
      refine ⟨ho.1, ?_⟩
      cases hH : H' b with
      | none => rfl
      | some o =>
        exfalso
        rcases k.fresh b (by rw [hH]; simp) with h2 | h2 | h2
        · exact h2 ho.2
        · have := hlt c hc b hcb; omega
        · exact hdis c hc b hcb h2
  · rw [blks, List.filterMap_append, List.nodup_append]
    refine ⟨k.nodup, (List.nodup_append.1 hnd).2.1, fun x hx y hy e => ?_⟩
    subst e
    obtain ⟨c, hc, hcb⟩ := List.mem_filterMap.1 hy
    rcases (k.own x hx).1 with h2 | h2
    · exact hdis c hc x hcb h2
    · have := hlt c hc x hcb; omega
theorem SH.alloc {w0 w : World} {H0 H : Hp} {X : List Nat} {L : List Chunk} (h : SH w0 H0 X w H L) (o : Obj) {c : Chunk} (hb : c.blk = some w.heap.size) (hc : c.holds (w.alloc o)) :
    SH w0 H0 X (w.alloc o) H (c :: L) := by
  have hkeep : ∀ b, b < w.heap.size → (w.alloc o).heap[b]? = w.heap[b]? := fun b hb => Below.heap_alloc w o b hb
  have hlt : ∀ c ∈ L, ∀ b, c.blk = some b → b < w.heap.size := fun c hc b hb => c.lt w (h.holds c hc) b hb
  have hHlt : ∀ b, H b ≠ none → b < w.heap.size := fun b hb => by
    cases hH : H b with
    | none => exact absurd hH hb
    | some o => exact lt_of_get (h.sub b o hH)
  refine ⟨h.chg.trans (Y := []) ⟨rfl, rfl, rfl, by simp, fun b hb _ => hkeep b hb⟩ (by simp), fun b o' hb => ?_, h.le, h.fresh, fun c' hc' => ?_, fun b hb' => ?_, ?_⟩
  · rw [hkeep b (hHlt b (by rw [hb]; simp))]; exact h.sub b o' hb
  · rcases List.mem_cons.1 hc' with rfl | h1
    · exact hc
    · exact c'.loc w _ (h.holds c' h1) fun b hb => hkeep b (hlt c' h1 b hb)
  · simp only [blks, List.filterMap_cons, hb] at hb'
    rcases List.mem_cons.1 hb' with rfl | h1
    · refine ⟨.inr h.chg.size, ?_⟩
      cases hH : H w.heap.size with
      | none => rfl
      | some o => have := hHlt _ (by rw [hH]; simp); omega
    · exact h.own b h1
  · simp only [blks, List.filterMap_cons, hb]
    refine List.nodup_cons.2 ⟨fun hm => ?_, h.nodup⟩
    obtain ⟨c', hc', hcb⟩ := List.mem_filterMap.1 hm
    have := hlt c' hc' _ hcb
    omega
theorem blks_set_sub {L : List Chunk} {c c' : Chunk} (hc' : c'.blk = c.blk) : ∀ {i : Nat}, L[i]? = some c → blks (L.set i c') = blks L := by
  induction L with
  | nil => intro i h; simp at h
  | cons d L ih =>
    intro i h
    cases i with
    | zero => simp at h; subst h; simp [blks, List.filterMap_cons, hc']
    | succ i => simp at h; simp [blks, List.filterMap_cons]; rw [show List.filterMap Chunk.blk (L.set i c') = List.filterMap Chunk.blk L from ih h]
theorem SH.write {w0 w w' : World} {H0 H : Hp} {X : List Nat} {L : List Chunk} (h : SH w0 H0 X w H L) {i : Nat} {c c' : Chunk} (hi : L[i]? = some c) (hbk : c'.blk = c.blk)
    (hchg : Chg (blks [c]) w w') (hc : c'.holds w') : SH w0 H0 X w' H (L.set i c') := by
  have hmem : c ∈ L := List.mem_of_getElem? hi
  have hsub : ∀ y ∈ blks [c], y ∈ blks L := fun y hy => by
    obtain ⟨d, hd, hdb⟩ := List.mem_filterMap.1 hy
    simp at hd; subst hd
    exact mem_blks hmem hdb
  have hbl := blks_set_sub (L := L) hbk hi
  have hothers : ∀ (L : List Chunk) (i : Nat), L[i]? = some c → (blks L).Nodup → ∀ d ∈ L.set i c', d = c' ∨ (d ∈ L ∧ ∀ b, d.blk = some b → c.blk ≠ some b) := by
    intro L
    induction L with
    | nil => intro i h; simp at h
    | cons e L ih =>
      intro i h hn d hd
      cases i with
      | zero =>
        simp at h; subst h
        simp at hd
        rcases hd with rfl | hd
        · exact .inl rfl
        · refine .inr ⟨.tail _ hd, fun b hdb hcb => ?_⟩
          simp only [blks, List.filterMap_cons, hcb] at hn
          exact (List.nodup_cons.1 hn).1 (mem_blks hd hdb)
      | succ i =>
        simp at h
        simp at hd
        rcases hd with rfl | hd
        · refine .inr ⟨.head _, fun b hdb hcb => ?_⟩
          simp only [blks, List.filterMap_cons, hdb] at hn
          exact (List.nodup_cons.1 hn).1 (mem_blks (List.mem_of_getElem? h) hcb)
        · have hn' : (blks L).Nodup := by
            refine hn.sublist ?_
            exact (List.sublist_cons_self e L).filterMap _
          rcases ih i h hn' d hd with h1 | ⟨h1, h2⟩
          · exact .inl h1
          · exact .inr ⟨.tail _ h1, h2⟩
  refine ⟨h.chg.trans hchg fun y hy => (h.own y (hsub y hy)).1, fun b o hb' => ?_, h.le, h.fresh, fun d hd => ?_, by rw [hbl]; exact h.own, by rw [hbl]; exact h.nodup⟩
  · have hs := h.sub b o hb'
    rw [hchg.block b (lt_of_get hs) fun hm => by have := (h.own b (hsub b hm)).2; rw [hb'] at this; cases this]
    exact hs
  · rcases hothers L i hi h.nodup d hd with rfl | ⟨h1, h2⟩
    · exact hc
    · refine d.loc w w' (h.holds d h1) fun b hb => hchg.block b (d.lt w (h.holds d h1) b hb) fun hm => ?_
      obtain ⟨e, he, heb⟩ := List.mem_filterMap.1 hm
      simp at he; subst he
      exact h2 b hb heb
theorem SH.freeze {w0 w : World} {H0 H : Hp} {X : List Nat} {c : Chunk} {L : List Chunk} (h : SH w0 H0 X w H (c :: L)) {b : Nat} (hb : c.blk = some b) {o : Obj} (ho : w.heap[b]? = some o) :
    SH w0 H0 X w (fun x => if x = b then some o else H x) L := by
  have hbm : b ∈ blks (c :: L) := mem_blks (.head _) hb
  have hne : ∀ b' ∈ blks L, b' ≠ b := fun b' hb' e => by
    have hn := h.nodup
    simp only [blks, List.filterMap_cons, hb] at hn
    exact (List.nodup_cons.1 hn).1 (e ▸ hb')
  refine ⟨h.chg, fun x o' hx => ?_, fun x o' hx => ?_, fun x hx => ?_, fun d hd => h.holds d (.tail _ hd), fun b' hb' => ?_, ?_⟩
  · by_cases e : x = b
    · subst e; simp at hx; rw [ho, hx]
    · simp [e] at hx; exact h.sub x o' hx
  · have hx' := h.le x o' hx
    by_cases e : x = b
    · subst e; rw [(h.own x hbm).2] at hx'; cases hx'
    · simpa [e] using hx'
  · by_cases e : x = b
    · subst e; rcases (h.own x hbm).1 with h1 | h1; exact .inr (.inr h1); exact .inr (.inl h1)
    · simp [e] at hx; exact h.fresh x hx
  · have := h.own b' (by simp only [blks, List.filterMap_cons, hb]; exact .tail _ hb')
    refine ⟨this.1, ?_⟩
    simp [hne b' hb', this.2]
  · have hn := h.nodup
    simp only [blks, List.filterMap_cons, hb] at hn
    exact (List.nodup_cons.1 hn).2
theorem Hp.le_freeze {w0 w : World} {H0 H : Hp} {X : List Nat} {c : Chunk} {L : List Chunk} (h : SH w0 H0 X w H (c :: L)) {b : Nat} (hb : c.blk = some b) (o : Obj) : H.le (fun x => if x = b then some o else H x) := by
  intro x o' hx
  by_cases e : x = b
  · subst e; rw [(h.own x (mem_blks (.head _) hb)).2] at hx; cases hx
  · simpa [e] using hx
def WpG (P : Program) (fn : Func) (w0 : World) (H0 : Hp) (X : List Nat) (k : List Item) (F : Fk) (H : Hp) (L : List Chunk) (R : Ending → World → Prop) : Prop :=
  ∀ a w, Agrees fn.ntmps F a → SH w0 H0 X w H L → WpS P fn k a w R
def Ret (w0 : World) (H0 : Hp) (X : List Nat) (post : Value → Hp → List Chunk → Prop) (e : Ending) (w' : World) : Prop :=
  ∃ v H' L', e = .returned v ∧ SH w0 H0 X w' H' L' ∧ post v H' L'
def fk0 : Nat → List Value → Fk
  | _, [] => []
  | i, v :: l => (i, v) :: fk0 (i + 1) l
def Callee (P : Program) (g : FuncId) : Prop := ∃ fn, P.funcs[g]? = some fn ∧ (fn.name == "runtime.NumGoroutine") = false ∧ fn.body.isNone = false
def CallG (P : Program) (g : FuncId) (args : List Value) (H : Hp) (L : List Chunk) (post : Value → Hp → List Chunk → Prop) : Prop :=
  Callee P g ∧ ∀ w, Pre w H L → Calls P g args.toArray w (Ret w H (blks L) post)
theorem CallG.mono {P : Program} {g : FuncId} {args : List Value} {H : Hp} {L : List Chunk} {post post' : Value → Hp → List Chunk → Prop} (h : CallG P g args H L post)
    (hp : ∀ v H' L', H.le H' → post v H' L' → post' v H' L') : CallG P g args H L post' := ⟨h.1, fun w hw =>
  (h.2 w hw).mono fun _ _ ⟨v, H', L', he, hs, hq⟩ => ⟨v, H', L', he, hs, hp v H' L' hs.le hq⟩⟩
section
variable {P : Program} {fn : Func} {w0 : World} {H0 : Hp} {X : List Nat} {k : List Item} {F : Fk} {H : Hp} {L : List Chunk} {R : Ending → World → Prop}
theorem look_fk0 : ∀ (l : List Value) (i t : Nat) (v : Value), look (fk0 i l) t = some v → i ≤ t ∧ l[t - i]? = some v
  | [], _, _, _, h => by cases h
  | u :: l, i, t, v, h => by
    simp only [fk0, look] at h
    by_cases e : i = t
    · subst e; simp at h; subst h; simp
    · rw [beq_no e] at h
      obtain ⟨h1, h2⟩ := look_fk0 l (i + 1) t v h
      refine ⟨by omega, ?_⟩
      rw [show t - i = (t - (i + 1)) + 1 from by omega]
      simpa using h2
theorem CallG.of {g : FuncId} {c : Code} {args : List Value} {post : Value → Hp → List Chunk → Prop} (hf : P.funcs[g]? = some fn) (hb : fn.body = some c) (hnm : (fn.name == "runtime.NumGoroutine") = false) (hn : Nat.ble args.length fn.ntmps = true)
    (h : ∀ w0, WpG P fn w0 H (blks L) [.code c] (fk0 0 args) H L (Ret w0 H (blks L) post)) : CallG P g args H L post := ⟨⟨fn, hf, hnm, by rw [hb]; rfl⟩, fun w hw =>
  WpS.calls hf hb (h w _ w ⟨rfl, by have := Nat.le_of_ble_eq_true hn; simp; omega, fun t v ht => by
    have h1 := (look_fk0 args 0 t v ht).2
    simp only [Nat.sub_zero] at h1
    have hlt : t < args.toArray.size := by simpa using (List.getElem?_eq_some_iff.1 h1).1
    simp only
    rw [Array.getElem?_append_left hlt]
    simpa using h1⟩ hw.sh)⟩
theorem hlr {H : Hp} : H.le H := Hp.le.refl _
theorem WpG.weaken {G : Fk} (hG : ∀ p ∈ G, look F p.1 = some p.2) (h : WpG P fn w0 H0 X k G H L R) : WpG P fn w0 H0 X k F H L R := fun a w ha hs => h a w (ha.weaken hG) hs
theorem WpG.dropL {L' : List Chunk} (hL : L'.Sublist L) (h : WpG P fn w0 H0 X k F H L' R) : WpG P fn w0 H0 X k F H L R := fun a w ha hs => h a w ha (hs.drop hL)
theorem WpG.permL {L' : List Chunk} (hL : L'.Perm L) (h : WpG P fn w0 H0 X k F H L' R) : WpG P fn w0 H0 X k F H L R := fun a w ha hs => h a w ha (hs.perm hL)
end
end Go.Proofs.YtakameggkkjcpaaGreat
namespace Go.Proofs.YtakameggkkjcpaaGreat
open Go Go.RowKit
inductive TK where
  | int (k : IntKind) | bool | string | slice (e : Nat) | struct (fs : List (Nat × Nat)) | array (n e : Nat) | pointer (e : Nat) | map (k e : Nat) | other
def TK.of : TypeDesc → TK
  | .int k => .int k
  | .bool => .bool
  | .string => .string
  | .slice e => .slice e
  | .struct fs => .struct (fs.toList.map fun f => (f.offset, f.type))
  | .array n e => .array n e
  | .pointer e => .pointer e
  | .map k e => .map k e
  | _ => .other
def TK.agg : TK → Bool
  | .struct _ => true
  | .array _ _ => true
  | _ => false
structure TRow where
  t : Nat
  size : Nat
  bytes : Nat
  zero : Value
  kind : TK
def trow : List TRow → Nat → Option TRow
  | [], _ => none
  | r :: T, t => bif Nat.beq r.t t then some r else trow T t
def TabOK (P : Program) (T : List TRow) : Prop :=
  T.map (fun r => ((P.info? r.t).map fun i => (i.size, i.bytes, i.zero), (P.underlying r.t).map TK.of)) = T.map fun r => (some (r.size, r.bytes, some r.zero), some r.kind)
theorem trow_spec {T : List TRow} {t : Nat} {r : TRow} (h : trow T t = some r) : r ∈ T ∧ r.t = t := by
  induction T with
  | nil => cases h
  | cons q T ih =>
    simp only [trow] at h
    cases e : Nat.beq q.t t with
    | true => rw [e] at h; simp at h; subst h; exact ⟨.head _, Nat.eq_of_beq_eq_true e⟩
    | false => rw [e] at h; exact ⟨.tail _ (ih h).1, (ih h).2⟩
structure RowOK (P : Program) (t : Nat) (r : TRow) : Prop where
  info : ∃ i, P.info? t = some i ∧ i.size = r.size ∧ i.bytes = r.bytes ∧ i.zero = some r.zero
  under : ∃ d, P.underlying t = some d ∧ TK.of d = r.kind
theorem TabOK.row {P : Program} {T : List TRow} (hT : TabOK P T) {t : Nat} {r : TRow} (h : trow T t = some r) : RowOK P t r := by
  obtain ⟨hm, rfl⟩ := trow_spec h
  have := List.map_inj_left.1 hT r hm
  simp only [Prod.mk.injEq] at this
  obtain ⟨⟨i, hi, he⟩, d, hd, hk⟩ := And.intro (Option.map_eq_some_iff.1 this.1) (Option.map_eq_some_iff.1 this.2)
  simp only [Prod.mk.injEq] at he
  exact ⟨⟨i, hi, he.1, he.2.1, he.2.2⟩, d, hd, hk⟩
section
variable {P : Program} {t : Nat} {r : TRow}
theorem RowOK.run_size (h : RowOK P t r) (w : World) : (sizeOf t).run P w = .ok r.size w := by
  obtain ⟨i, hi, h1, _⟩ := h.info
  simp [sizeOf, typeInfo, hi, h1]
theorem RowOK.run_zero (h : RowOK P t r) (w : World) : (zeroValue t).run P w = .ok r.zero w := by
  obtain ⟨i, hi, _, _, h1⟩ := h.info
  simp [zeroValue, typeInfo, hi, h1]
theorem RowOK.run_agg (h : RowOK P t r) (w : World) : (isAgg t).run P w = .ok r.kind.agg w := by
  obtain ⟨d, hd, hk⟩ := h.under
  rw [← hk]
  cases d <;> simp [isAgg, run_underlying hd, TK.of, TK.agg]
end
def putAt (l : List Value) (off : Nat) (vs : List Value) : Option (List Value) :=
  bif Nat.ble (off + vs.length) l.length then some (l.take off ++ (vs ++ l.drop (off + vs.length))) else none
def cellsL : Value → List Value
  | .agg cs => cs.toList
  | v => [v]
def mkv (agg : Bool) (cs : List Value) : Option Value :=
  match agg, cs with
  | true, cs => some (.agg cs.toArray)
  | false, [v] => some v
  | false, _ => none
def partOf (r : TRow) (cs : List Value) (off : Nat) : Option Value :=
  bif Nat.ble (off + r.size) cs.length then mkv r.kind.agg ((cs.drop off).take r.size) else none
def fillG (place : Nat → Option (Nat × Nat)) : List Value → List (Nat × Value) → Option (List Value)
  | l, [] => some l
  | l, (i, v) :: ps =>
    match place i with
    | some (off, size) => bif Nat.beq (cellsL v).length size then (match putAt l off (cellsL v) with | some l' => fillG place l' ps | none => none) else none
    | none => none
def placesL (T : List TRow) : List (Nat × Nat) → Option (List (Nat × Nat))
  | [] => some []
  | (off, ft) :: fs => match trow T ft with
    | some r => match placesL T fs with
      | some l => some ((off, r.size) :: l)
      | none => none
    | none => none
def evs (F : Fk) : List Operand → Option (List Value)
  | [] => some []
  | x :: xs => match evk F x with
    | some v => match evs F xs with
      | some vs => some (v :: vs)
      | none => none
    | none => none
def evp (F : Fk) : List (Nat × Operand) → Option (List (Nat × Value))
  | [] => some []
  | (i, x) :: xs => match evk F x with
    | some v => match evp F xs with
      | some vs => some ((i, v) :: vs)
      | none => none
    | none => none
def pbin : BinOp → Value → Value → Option Value
  | .add, .int k a, .int k' b => if k = k' then some (.int k (k.wrap (a + b))) else none
  | .sub, .int k a, .int k' b => if k = k' then some (.int k (k.wrap (a - b))) else none
  | .mul, .int k a, .int k' b => if k = k' then some (.int k (k.wrap (a * b))) else none
  | .eql, .int k a, .int k' b => if k = k' then some (.bool (a == b)) else none
  | .neq, .int k a, .int k' b => if k = k' then some (.bool (a != b)) else none
  | .lss, .int k a, .int k' b => if k = k' then some (.bool (decide (a < b))) else none
  | .leq, .int k a, .int k' b => if k = k' then some (.bool (decide (a ≤ b))) else none
  | .gtr, .int k a, .int k' b => if k = k' then some (.bool (decide (a > b))) else none
  | .geq, .int k a, .int k' b => if k = k' then some (.bool (decide (a ≥ b))) else none
  | _, _, _ => none
def pop (T : List TRow) (F : Fk) : Op → Option Value
  | .move x => evk F x
  | .assign x => evk F x
  | .pick c a b => match evk F c with
    | some (.bool true) => evk F a
    | some (.bool false) => evk F b
    | _ => none
  | .nilCheck x => match evk F x with
    | some (.pointer (some a)) => some (.pointer (some a))
    | some (.func (.func f) fi ca) => some (.func (.func f) fi ca)
    | _ => none
  | .binOp op _ x y _ => match evk F x, evk F y with
    | some a, some b => pbin op a b
    | _, _ => none
  | .unOp .not _ x => match evk F x with
    | some (.bool b) => some (.bool (!b))
    | _ => none
  | .unOp .neg _ x => match evk F x with
    | some (.int k n) => some (.int k (k.wrap (0 - n)))
    | _ => none
  | .extract x i => match evk F x with
    | some (.tuple vs) => vs.toList[i]?
    | _ => none
  | .makeFunc fn first cap => match evs F first.toList, evs F cap.toList with
    | some a, some b => some (.func fn a.toArray b.toArray)
    | _, _ => none
  | .fieldAddr s x f => match evk F x, trow T s with
    | some (.pointer (some ⟨b, o, none⟩)), some r => match r.kind with
      | .struct fs => match fs[f]? with
        | some (off, ft) => match trow T ft with
          | some q => bif Nat.beq q.size 0 then none else some (.pointer (some ⟨b, o + off, none⟩))
          | none => none
        | none => none
      | _ => none
    | _, _ => none
  | .field s x f => match evk F x, trow T s with
    | some (.agg cs), some r => match r.kind with
      | .struct fs => match fs[f]? with
        | some (off, ft) => match trow T ft with
          | some q => partOf q cs.toList off
          | none => none
        | none => none
      | _ => none
    | _, _ => none
  | .build t ps => match trow T t, evp F ps.toList with
    | some r, some vs => match r.kind with
      | .struct fs => match placesL T fs with
        | some pl => match fillG (fun i => pl[i]?) (cellsL r.zero) vs with
          | some l => some (.agg l.toArray)
          | none => none
        | none => none
      | .array _ e => match trow T e with
        | some q => match fillG (fun i => some (i * q.size, q.size)) (cellsL r.zero) vs with
          | some l => some (.agg l.toArray)
          | none => none
        | none => none
      | _ => none
    | _, _ => none
  | .convert s d x => match trow T s, trow T d, evk F x with
    | some r, some q, some (.int _ n) => match r.kind, q.kind with
      | .int _, .int k => some (.int k (k.wrap n))
      | _, _ => none
    | _, _, _ => none
  | .call ⟨.builtin .len, xs, ts⟩ => match xs.toList, ts.toList with
    | [x], [t] => match evk F x, trow T t with
      | some (.slice _ n _), some r => match r.kind with
        | .slice _ => some (.int .i64 (n : Int))
        | _ => none
      | some (.string s), some r => match r.kind with
        | .string => some (.int .i64 (s.size : Int))
        | _ => none
      | _, _ => none
    | _, _ => none
  | .call ⟨.builtin .min, xs, _⟩ => match evs F xs.toList with
    | some [.int k a, .int _ b] => some (.int k (if b < a then b else a))
    | _ => none
  | .call ⟨.builtin .max, xs, _⟩ => match evs F xs.toList with
    | some [.int k a, .int _ b] => some (.int k (if b > a then b else a))
    | _ => none
  | _ => none
section
variable {P : Program} {T : List TRow} {n : Nat} {F : Fk} {a : Act}
theorem Agrees.evs (h : Agrees n F a) : ∀ {xs : List Operand} {vs : List Value}, Go.Proofs.YtakameggkkjcpaaGreat.evs F xs = some vs → xs.map a.eval = vs
  | [], vs, e => by simp [Go.Proofs.YtakameggkkjcpaaGreat.evs] at e; subst e; rfl
  | x :: xs, vs, e => by
    simp only [Go.Proofs.YtakameggkkjcpaaGreat.evs] at e
    cases hx : evk F x with
    | none => simp [hx] at e
    | some v =>
      cases hy : Go.Proofs.YtakameggkkjcpaaGreat.evs F xs with
      | none => simp [hx, hy] at e
      | some us => simp [hx, hy] at e; subst e; simp [h.eval hx, Agrees.evs h hy]
theorem Agrees.evp (h : Agrees n F a) : ∀ {xs : List (Nat × Operand)} {vs : List (Nat × Value)}, Go.Proofs.YtakameggkkjcpaaGreat.evp F xs = some vs → xs.map (fun p => (p.1, a.eval p.2)) = vs
  | [], vs, e => by simp [Go.Proofs.YtakameggkkjcpaaGreat.evp] at e; subst e; rfl
  | (i, x) :: xs, vs, e => by
    simp only [Go.Proofs.YtakameggkkjcpaaGreat.evp] at e
    cases hx : evk F x with
    | none => simp [hx] at e
    | some v =>
      cases hy : Go.Proofs.YtakameggkkjcpaaGreat.evp F xs with
      | none => simp [hx, hy] at e
      | some us => simp [hx, hy] at e; subst e; simp [h.eval hx, Agrees.evp h hy]
theorem cellsL_eq (v : Value) : cellsL v = v.cells.toList := by cases v <;> rfl
theorem cellsL_size (v : Value) : (cellsL v).length = v.cells.size := by rw [cellsL_eq]; simp
theorem foldl_set_toList (vs : List Value) : ∀ (cs : Array Value) (off j : Nat), off + j + vs.length ≤ cs.size →
    ((vs.zipIdx j).foldl (fun cs (p : Value × Nat) => cs.setIfInBounds (off + p.2) p.1) cs).toList = cs.toList.take (off + j) ++ (vs ++ cs.toList.drop (off + j + vs.length)) := by
  induction vs with
  | nil => intro cs off j h; simp
  | cons v vs ih =>
    intro cs off j h
    simp only [List.length_cons] at h
    simp only [List.zipIdx_cons, List.foldl_cons]
    rw [show off + j + (v :: vs).length = off + (j + 1) + vs.length from by simp; omega]
    rw [ih _ off (j + 1) (by simp; omega)]
    have hlt : off + j < cs.toList.length := by simp; omega
    rw [Array.toList_setIfInBounds]
    rw [show off + (j + 1) = off + j + 1 from by omega]
    rw [List.take_set, List.drop_set, if_pos (by omega)]
    rw [List.take_succ_eq_append_getElem hlt]
    rw [List.set_append_right (off + j) v (by simp; omega)]
    have e : off + j - min (off + j) cs.size = 0 := by simp at hlt; omega
    simp [e]
theorem putAt_array {cs : Array Value} {off : Nat} {v : Value} {l : List Value} (h : putAt cs.toList off (cellsL v) = some l) :
    ¬ (off + v.cells.size > cs.size) ∧ v.cells.zipIdx.foldl (fun cs (p : Value × Nat) => cs.setIfInBounds (off + p.2) p.1) cs = l.toArray := by
  unfold putAt at h
  cases hb : Nat.ble (off + (cellsL v).length) cs.toList.length with
  | false => rw [hb] at h; cases h
  | true =>
    have hle := Nat.le_of_ble_eq_true hb
    rw [cellsL_size] at hle
    simp only [Array.length_toList] at hle
    simp only [hb, cond_true, Option.some.injEq] at h
    refine ⟨by omega, ?_⟩
    rw [← h, cellsL_eq, ← Array.foldl_toList]
    have := foldl_set_toList v.cells.toList cs off 0 (by simp; omega)
    simp only [Nat.add_zero] at this
    rw [← this]
    simp
theorem fillG_spec (place : Nat → Option (Nat × Nat)) : ∀ (ps : List (Nat × Value)) (l l' : List Value), fillG place l ps = some l' → Instr.fill place l.toArray ps = some l'.toArray
  | [], l, l', h => by simp only [fillG, Option.some.injEq] at h; subst h; rfl
  | (i, v) :: ps, l, l', h => by
    simp only [fillG] at h
    unfold Instr.fill
    cases hp : place i with
    | none => rw [hp] at h; cases h
    | some q =>
      obtain ⟨off, size⟩ := q
      rw [hp] at h
      simp only at h ⊢
      cases hs : Nat.beq (cellsL v).length size with
      | false => rw [hs] at h; cases h
      | true =>
        rw [hs] at h
        have hse := Nat.eq_of_beq_eq_true hs
        rw [cellsL_size] at hse
        simp only [cond_true] at h
        cases hq : putAt l off (cellsL v) with
        | none => rw [hq] at h; cases h
        | some l2 =>
          rw [hq] at h
          simp only at h
          have := putAt_array (cs := l.toArray) (off := off) (v := v) (l := l2) hq
          have hc : (decide (v.cells.size ≠ size) || decide (off + v.cells.size > l.toArray.size)) = false := by
            rw [Bool.or_eq_false_iff]; exact ⟨by simpa using hse, by simpa using this.1⟩
          rw [if_neg (by rw [hc]; exact Bool.false_ne_true), this.2]
          exact fillG_spec place ps l2 l' h
theorem placesL_spec (hT : TabOK P T) : ∀ (fs : List Field) (pl : List (Nat × Nat)), placesL T (fs.map fun f => (f.offset, f.type)) = some pl →
    fs.mapM (fun f => (P.info? f.type).map fun i => (f.offset, i.size)) = some pl
  | [], pl, h => by simp only [List.map_nil, placesL, Option.some.injEq] at h; subst h; rfl
  | f :: fs, pl, h => by
    simp only [List.map_cons, placesL] at h
    cases hr : trow T f.type with
    | none => rw [hr] at h; cases h
    | some r =>
      rw [hr] at h
      cases hl : placesL T (fs.map fun f => (f.offset, f.type)) with
      | none => rw [hl] at h; cases h
      | some l =>
        rw [hl] at h
        simp only [Option.some.injEq] at h
        subst h
        obtain ⟨i, hi, hsz, _⟩ := (hT.row hr).info
        simp [List.mapM_cons, hi, hsz, placesL_spec hT fs l hl]
theorem RowOK.part {t : Nat} {r : TRow} (h : RowOK P t r) {cs : List Value} {off : Nat} {v : Value} (hv : partOf r cs off = some v) (w : World) : (part t cs.toArray off).run P w = .ok v w := by
  unfold partOf at hv
  cases hb : Nat.ble (off + r.size) cs.length with
  | false => rw [hb] at hv; cases hv
  | true =>
    rw [hb] at hv
    simp only [cond_true] at hv
    have hle := Nat.le_of_ble_eq_true hb
    unfold Go.part
    simp only [Sem.run_bind, h.run_agg, Result.andThen_ok]
    cases hk : r.kind.agg with
    | true =>
      rw [hk] at hv
      simp only [mkv, Option.some.injEq] at hv
      subst hv
      simp [h.run_size, Nat.add_sub_cancel_left]
    | false =>
      rw [hk] at hv
      simp only [mkv] at hv
      split at hv
      · rename_i e0; cases e0
      · rename_i u e1 e2
        cases hv
        have h0 : cs[off]? = some v := by
          have h1 := congrArg (fun l : List Value => l[0]?) e2
          simp only [List.getElem?_cons_zero] at h1
          rw [List.getElem?_take] at h1
          split at h1
          · simpa using h1
          · cases h1
        simp [h0]
      · cases hv
theorem pbin_spec {op : BinOp} {x y v : Value} (h : pbin op x y = some v) (t : TypeId) (w : World) (ox oy : Operand) :
    (do eqGuard op t ox oy x y; binOp op t x y : Sem Value).run P w = .ok v w := by
  unfold pbin at h
  split at h <;> first
    | (rename_i k a k' b
       split at h
       · rename_i hk
         subst hk
         cases h
         simp [eqGuard, binOp, Op.intArith, Op.intCmp]
       · cases h)
    | cases h
theorem pop_spec (hT : TabOK P T) (ha : Agrees n F a) {o : Oper} {v : Value} (h : pop T F o.op = some v) (w : World) : (execOp a.eval o).run P w = .ok (.value v) w := by
  obtain ⟨dst, op, type, pos, after, guard⟩ := o
  simp only at h
  unfold pop at h
  split at h
  · simp [execOp, ha.eval h]
  · simp [execOp, ha.eval h]
  · split at h
    · rename_i hc; simp [execOp, ha.eval hc, ha.eval h, asBool]
    · rename_i hc; simp [execOp, ha.eval hc, ha.eval h, asBool]
    · cases h
  · split at h
    · rename_i hx; cases h; simp [execOp, ha.eval hx]
    · rename_i hx; cases h; simp [execOp, ha.eval hx]
    · cases h
  · split at h
    · rename_i xt x y t _ _ u v' hx hy
      have := pbin_spec (P := P) h xt w x y
      simp only [Sem.run_bind] at this
      simp only [execOp, ha.eval hx, ha.eval hy, Sem.run_bind, this]
      simp
    · cases h
  · split at h
    · rename_i hx; cases h; simp [execOp, ha.eval hx, Op.unary]
    · cases h
  · split at h
    · rename_i hx; cases h; simp [execOp, ha.eval hx, Op.unary, Op.intArith]
    · cases h
  · split at h
    · rename_i vs hx
      simp only [Array.getElem?_toList] at h
      simp [execOp, ha.eval hx, Instr.extract, h]
    · cases h
  · split at h
    · rename_i u v' hx hy
      cases h
      have e1 := ha.evs hx
      have e2 := ha.evs hy
      have f1 := congrArg List.toArray e1
      have f2 := congrArg List.toArray e2
      simp only [← List.map_toArray, Array.toArray_toList] at f1 f2
      simp [execOp, Instr.makeFunc, f1, f2]
    · cases h
  · split at h
    · rename_i b o r hx hr
      split at h
      · rename_i fs hk
        split at h
        · rename_i off ft hf
          split at h
          · rename_i q hq
            cases hz : Nat.beq q.size 0 with
            | true => rw [hz] at h; cases h
            | false =>
              rw [hz] at h
              simp only [cond_false, Option.some.injEq] at h
              subst h
              obtain ⟨d, hd, hdk⟩ := (hT.row hr).under
              rw [hk] at hdk
              cases d <;> simp only [TK.of, reduceCtorEq] at hdk
              rename_i fields
              simp only [TK.struct.injEq] at hdk
              subst hdk
              rw [List.getElem?_map] at hf
              obtain ⟨fi, hff, hfi⟩ := Option.map_eq_some_iff.1 hf
              simp only [Prod.mk.injEq] at hfi
              obtain ⟨rfl, rfl⟩ := hfi
              have hne : ¬ q.size = 0 := fun e => by rw [e] at hz; cases hz
              rw [Array.getElem?_toList] at hff
              simp only [execOp, ha.eval hx, Instr.fieldAt, Sem.run_bind, run_underlying hd, Result.andThen_ok, hff, Instr.sureAddr, fieldPlace, (hT.row hq).run_size, if_neg hne, Sem.run_pure]
              simp only [Addr.add]
              split
              · rename_i e; simp [e]
              · rfl
          · cases h
        · cases h
      · cases h
    · cases h
  · split at h
    · rename_i cs r hx hr
      split at h
      · rename_i fs hk
        split at h
        · rename_i off ft hf
          split at h
          · rename_i q hq
            obtain ⟨d, hd, hdk⟩ := (hT.row hr).under
            rw [hk] at hdk
            cases d <;> simp only [TK.of, reduceCtorEq] at hdk
            rename_i fields
            simp only [TK.struct.injEq] at hdk
            subst hdk
            rw [List.getElem?_map] at hf
            obtain ⟨fi, hff, hfi⟩ := Option.map_eq_some_iff.1 hf
            simp only [Prod.mk.injEq] at hfi
            obtain ⟨rfl, rfl⟩ := hfi
            rw [Array.getElem?_toList] at hff
            have hp := (hT.row hq).part h w
            simp only [Array.toArray_toList] at hp
            simp only [execOp, ha.eval hx, Instr.field, Sem.run_bind, run_underlying hd, Result.andThen_ok, hff, asAgg, Sem.run_pure, hp]
          · cases h
        · cases h
      · cases h
    · cases h
  · split at h
    · rename_i ty ps _ _ r vs hr hv
      have hps := ha.evp hv
      have hcl : (cellsL r.zero).toArray = r.zero.cells := by rw [cellsL_eq]
      have hbuilt : ∀ (cells : Array Value), P.built ty vs = some cells → (execOp a.eval ⟨dst, .build ty ps, type, pos, after, guard⟩).run P w = .ok (.value (.agg cells)) w := by
        intro cells hb
        have hrb := run_build (P := P) w _ vs.toArray cells (by simpa using hb)
        rw [← hps] at hrb
        simp only [execOp, Sem.run_bind]
        have e : Array.map (fun x => (x.1, a.eval x.2)) ps = (List.map (fun p => (p.1, a.eval p.2)) ps.toList).toArray := by obtain ⟨l⟩ := ps; simp
        rw [e, hrb]
        simp
      obtain ⟨i, hi, _, _, hz⟩ := (hT.row hr).info
      obtain ⟨d, hd, hdk⟩ := (hT.row hr).under
      split at h
      · rename_i fs hk
        split at h
        · rename_i pl hpl
          split at h
          · rename_i l hl
            cases h
            rw [hk] at hdk
            cases d <;> simp only [TK.of, reduceCtorEq] at hdk
            simp only [TK.struct.injEq] at hdk
            subst hdk
            have h1 := placesL_spec hT _ _ hpl
            have h2 := fillG_spec _ _ _ _ hl
            rw [hcl] at h2
            refine hbuilt _ ?_
            simp only [Program.built, hi, hd, hz, h1]
            simpa using h2
          · cases h
        · cases h
      · rename_i m e hk
        split at h
        · rename_i q hq
          split at h
          · rename_i l hl
            cases h
            rw [hk] at hdk
            cases d <;> simp only [TK.of, reduceCtorEq] at hdk
            simp only [TK.array.injEq] at hdk
            obtain ⟨rfl, rfl⟩ := hdk
            obtain ⟨ie, hie, hsz, _⟩ := (hT.row hq).info
            have h2 := fillG_spec _ _ _ _ hl
            rw [hcl] at h2
            refine hbuilt _ ?_
            simp only [Program.built, hi, hd, hz, hie, hsz]
            exact h2
          · cases h
        · cases h
      · cases h
    · cases h
  · split at h
    · rename_i r q k m hr hq hx
      split at h
      · rename_i ks kd hks hkd
        cases h
        obtain ⟨d, hd, hdk⟩ := (hT.row hr).under
        obtain ⟨d', hd', hdk'⟩ := (hT.row hq).under
        rw [hks] at hdk
        rw [hkd] at hdk'
        cases d <;> simp only [TK.of, reduceCtorEq] at hdk
        cases d' <;> simp only [TK.of, reduceCtorEq] at hdk'
        simp only [TK.int.injEq] at hdk'
        subst hdk'
        simp [execOp, convert, run_underlying hd, run_underlying hd', ha.eval hx, Conv.intToInt]
      · cases h
    · cases h
  · split at h
    · rename_i xs ts _ _ x t hxs hts
      have exs : xs = #[x] := by have := congrArg List.toArray hxs; simpa using this
      have ets : ts = #[t] := by have := congrArg List.toArray hts; simpa using this
      subst exs ets
      split at h
      · rename_i A m c r hx hr
        split at h
        · rename_i e hk
          cases h
          obtain ⟨d, hd, hdk⟩ := (hT.row hr).under
          rw [hk] at hdk
          cases d <;> simp only [TK.of, reduceCtorEq] at hdk
          simp [execOp, resolve, invoke, builtin, Builtin.len_, run_underlying hd, ha.eval hx, goInt]
        · cases h
      · rename_i s r hx hr
        split at h
        · rename_i hk
          cases h
          obtain ⟨d, hd, hdk⟩ := (hT.row hr).under
          rw [hk] at hdk
          cases d <;> simp only [TK.of, reduceCtorEq] at hdk
          simp [execOp, resolve, invoke, builtin, Builtin.len_, run_underlying hd, ha.eval hx, goInt]
        · cases h
      · cases h
    · cases h
  · split at h
    · rename_i xs k x k' y hxs
      cases h
      have f1 := congrArg List.toArray (ha.evs hxs)
      simp only [← List.map_toArray, Array.toArray_toList] at f1
      simp [execOp, resolve, invoke, builtin, Builtin.min_, Builtin.min2, f1]
    · cases h
  · split at h
    · rename_i xs k x k' y hxs
      cases h
      have f1 := congrArg List.toArray (ha.evs hxs)
      simp only [← List.map_toArray, Array.toArray_toList] at f1
      simp [execOp, resolve, invoke, builtin, Builtin.max_, Builtin.max2, f1]
    · cases h
  · cases h
end
end Go.Proofs.YtakameggkkjcpaaGreat
namespace Go.Proofs.YtakameggkkjcpaaGreat
open Go Go.RowKit
def wantk (ops : Array Oper) (F : Fk) (g : Option (Nat × Bool)) : Option Bool :=
  match g with
  | none => some true
  | some (j, want) => match ops[j]? with
    | some oj => match oj.dst with
      | some d => match look F d with
        | some (.bool true) => some want
        | some (.bool false) => some (!want)
        | some (.tuple _) => some false
        | _ => none
      | none => none
    | none => none
def pstep (T : List TRow) (n : Nat) : List Item → Fk → Option (List Item × Fk)
  | .code (.seq a b) :: k, F => some (.code a :: .code b :: k, F)
  | .code .skip :: k, F => some (k, F)
  | .code (.label _) :: k, F => some (k, F)
  | .code (.block id c) :: k, F => some (.code c :: .inBlock id :: k, F)
  | .inBlock _ :: k, F => some (k, F)
  | .code (.scope c) :: k, F => some (.code c :: .inScope c :: k, F)
  | .inScope _ :: k, F => some (k, F)
  | .code (.loop c) :: k, F => some (.code c :: .inLoop c :: k, F)
  | .inLoop c :: k, F => some (.code c :: .inLoop c :: k, F)
  | .code (.exit id) :: k, F => match exitTo id k with
    | some k' => some (k', F)
    | none => none
  | .code (.goto l) :: k, F => match gotoIn l k with
    | some k' => some (k', F)
    | none => none
  | .code (.cond c a b) :: k, F => match evk F c with
    | some (.bool true) => some (.code a :: k, F)
    | some (.bool false) => some (.code b :: k, F)
    | _ => none
  | .code (.region _ ops false) :: k, F => some (.inRegion ops (List.range ops.size) :: k, F)
  | .inRegion _ [] :: k, F => some (k, F)
  | .inRegion ops (i :: rest) :: k, F => match ops[i]? with
    | some o => match wantk ops F o.guard with
      | some true => match o.dst with
        | some d => bif Nat.blt d n then (match pop T F o.op with
          | some v => some (.inRegion ops rest :: k, (d, v) :: F)
          | none => none) else none
        | none => none
      | some false => match o.dst with
        | some d => bif Nat.blt d n then some (.inRegion ops rest :: k, (d, undef) :: F) else none
        | none => some (.inRegion ops rest :: k, F)
      | none => none
    | none => none
  | _, _ => none
def pexec (T : List TRow) (n : Nat) : Nat → List Item → Fk → Option (List Item × Fk)
  | 0, k, F => some (k, F)
  | m + 1, k, F => match pstep T n k F with
    | some (k', F') => pexec T n m k' F'
    | none => none
section
variable {P : Program} {T : List TRow} {fn : Func}
theorem wantk_spec {n : Nat} {ops : Array Oper} {F : Fk} {a : Act} {o : Oper} {t : Bool} (ha : Agrees n F a) (h : wantk ops F o.guard = some t) : Region.wanted o (yielded ops a.tmps) = t := by
  unfold wantk at h
  unfold Region.wanted
  cases hg : o.guard with
  | none => rw [hg] at h; simpa using h
  | some g =>
    obtain ⟨j, want⟩ := g
    rw [hg] at h
    simp only at h ⊢
    cases hj : ops[j]? with
    | none => rw [hj] at h; cases h
    | some oj =>
      rw [hj] at h
      cases hd : oj.dst with
      | none => simp only [hd] at h; cases h
      | some d =>
        simp only [hd] at h
        split at h
        · rename_i e; simp [yielded, hj, hd, ha.at_ d _ e]; simpa using h
        · rename_i e; simp [yielded, hj, hd, ha.at_ d _ e]; cases want <;> simpa using h
        · rename_i e; simp [yielded, hj, hd, ha.at_ d _ e]; simpa using h
        · cases h
theorem pstep_spec (hT : TabOK P T) {k k' : List Item} {F F' : Fk} {a : Act} (ha : Agrees fn.ntmps F a) (h : pstep T fn.ntmps k F = some (k', F')) :
    ∃ a', Agrees fn.ntmps F' a' ∧ ∀ w R, WpS P fn k' a' w R → WpS P fn k a w R := by
  unfold pstep at h
  split at h
  · cases h; exact ⟨a, ha, fun w R => WpS.seq⟩
  · cases h; exact ⟨a, ha, fun w R => WpS.skip⟩
  · cases h; exact ⟨a, ha, fun w R => WpS.label⟩
  · cases h; exact ⟨a, ha, fun w R => WpS.block⟩
  · cases h; exact ⟨a, ha, fun w R => WpS.inBlock⟩
  · cases h; exact ⟨a, ha, fun w R => WpS.scope⟩
  · cases h; exact ⟨a, ha, fun w R => WpS.inScope⟩
  · cases h; exact ⟨a, ha, fun w R => WpS.loop⟩
  · cases h; exact ⟨a, ha, fun w R => WpS.inLoop⟩
  · split at h
    · rename_i he; cases h; exact ⟨a, ha, fun w R => WpS.exit he⟩
    · cases h
  · split at h
    · rename_i he; cases h; exact ⟨a, ha, fun w R => WpS.goto he⟩
    · cases h
  · split at h
    · rename_i hc; cases h; exact ⟨a, ha, fun w R h => WpS.cond (ha.eval hc) h⟩
    · rename_i hc; cases h; exact ⟨a, ha, fun w R h => WpS.cond (ha.eval hc) h⟩
    · cases h
  · cases h; exact ⟨a, ha, fun w R => WpS.region⟩
  · cases h; exact ⟨a, ha, fun w R => WpS.regionNil⟩
  · split at h
    · rename_i o ho
      split at h
      · rename_i hw
        split at h
        · rename_i d hd
          cases hb : Nat.blt d fn.ntmps with
          | false => rw [hb] at h; cases h
          | true =>
            rw [hb] at h
            simp only [cond_true] at h
            split at h
            · rename_i v hv
              cases h
              have hlt : d < fn.ntmps := by simpa [Nat.blt_eq] using hb
              refine ⟨a.put (some d) v, ha.put hlt v, fun w R h => ?_⟩
              exact WpS.op ho (wantk_spec ha hw) (pop_spec hT ha hv w) (hd ▸ h)
            · cases h
        · cases h
      · rename_i hw
        split at h
        · rename_i d hd
          cases hb : Nat.blt d fn.ntmps with
          | false => rw [hb] at h; cases h
          | true =>
            rw [hb] at h
            cases h
            have hlt : d < fn.ntmps := by simpa [Nat.blt_eq] using hb
            exact ⟨a.put (some d) undef, ha.put hlt undef, fun w R h => WpS.unwanted ho (wantk_spec ha hw) (hd ▸ h)⟩
        · rename_i hd
          cases h
          exact ⟨a, ha, fun w R h => WpS.unwanted ho (wantk_spec ha hw) (by rw [hd]; exact h)⟩
      · cases h
    · cases h
  · cases h
theorem pexec_spec (hT : TabOK P T) : ∀ (m : Nat) {k k' : List Item} {F F' : Fk} {a : Act}, Agrees fn.ntmps F a → pexec T fn.ntmps m k F = some (k', F') →
    ∃ a', Agrees fn.ntmps F' a' ∧ ∀ w R, WpS P fn k' a' w R → WpS P fn k a w R
  | 0, _, _, _, _, a, ha, h => by cases h; exact ⟨a, ha, fun _ _ h => h⟩
  | m + 1, k, _, F, _, a, ha, h => by
    simp only [pexec] at h
    split at h
    · rename_i k1 F1 h1
      obtain ⟨a1, ha1, hw1⟩ := pstep_spec hT ha h1
      obtain ⟨a2, ha2, hw2⟩ := pexec_spec hT m ha1 h
      exact ⟨a2, ha2, fun w R h => hw1 w R (hw2 w R h)⟩
    · cases h
end
def Known (F : Fk) : Fk → Prop
  | [] => True
  | (t, v) :: L => look F t = some v ∧ Known F L
theorem Known.all {F : Fk} : ∀ {G : Fk}, Known F G → ∀ p ∈ G, look F p.1 = some p.2
  | [], _, p, hp => by cases hp
  | (t, v) :: G, h, p, hp => by
    rcases List.mem_cons.1 hp with rfl | hp
    · exact h.1
    · exact Known.all h.2 p hp
section
variable {P : Program} {T : List TRow} {fn : Func} {w0 : World} {H0 : Hp} {X : List Nat} {k : List Item} {F : Fk} {H : Hp} {L : List Chunk} {R : Ending → World → Prop}
theorem WpG.go (hT : TabOK P T) (m : Nat) (G : Fk) {k' : List Item} {F' : Fk} (h : pexec T fn.ntmps m k F = some (k', F')) (hG : Known F' G) (next : WpG P fn w0 H0 X k' G H L R) : WpG P fn w0 H0 X k F H L R :=
  fun a w ha hs =>
    let ⟨a', ha', hw⟩ := pexec_spec hT m ha h
    hw w R (next a' w (ha'.weaken hG.all) hs)
theorem WpG.g (hT : TabOK P T) (m : Nat) {k' : List Item} {F' : Fk} (h : pexec T fn.ntmps m k F = some (k', F')) (next : WpG P fn w0 H0 X k' F' H L R) : WpG P fn w0 H0 X k F H L R :=
  fun a w ha hs =>
    let ⟨a', ha', hw⟩ := pexec_spec hT m ha h
    hw w R (next a' w ha' hs)
theorem Agrees.also {n : Nat} {F : Fk} {a : Act} (h : Agrees n F a) {t : Nat} {v : Value} (hv : look F t = some v) : Agrees n ((t, v) :: F) a :=
  ⟨h.defers, h.size, fun s u hu => by
    simp only [look] at hu
    by_cases es : t = s
    · subst es; simp at hu; subst hu; exact h.at_ t v hv
    · rw [beq_no es] at hu; exact h.at_ s u hu⟩
theorem WpG.gw (hT : TabOK P T) (m t : Nat) {v : Value} {k' : List Item} {F' : Fk} (h : pexec T fn.ntmps m k F = some (k', F')) (hv : look F' t = some v) (next : WpG P fn w0 H0 X k' ((t, v) :: F') H L R) : WpG P fn w0 H0 X k F H L R :=
  fun a w ha hs =>
    let ⟨a', ha', hw⟩ := pexec_spec hT m ha h
    hw w R (next a' w (ha'.also hv) hs)
theorem WpG.wk {G : Fk} (h : WpG P fn w0 H0 X k G H L R) (hk : (G.map fun p => look F p.1) = G.map fun p => some p.2) : WpG P fn w0 H0 X k F H L R :=
  WpG.weaken (fun p hp => List.map_inj_left.1 hk p hp) h
theorem WpG.setV {t : Nat} {v v' : Value} (hv : look F t = some v) (e : v = v') (h : WpG P fn w0 H0 X k ((t, v') :: F) H L R) : WpG P fn w0 H0 X k F H L R := fun a w ha hs =>
  h a w ⟨ha.defers, ha.size, fun s u hu => by
    simp only [look] at hu
    by_cases es : t = s
    · subst es; simp at hu; subst hu; exact e ▸ ha.at_ t v hv
    · rw [beq_no es] at hu; exact ha.at_ s u hu⟩ hs
theorem WpG.caseD {t : Nat} {p : Prop} [Decidable p] (hc : look F t = some (.bool (decide p))) (ht : p → WpG P fn w0 H0 X k ((t, .bool true) :: F) H L R) (hf : ¬ p → WpG P fn w0 H0 X k ((t, .bool false) :: F) H L R) :
    WpG P fn w0 H0 X k F H L R := by
  by_cases hp : p
  · exact WpG.setV hc (by simp [hp]) (ht hp)
  · exact WpG.setV hc (by simp [hp]) (hf hp)
theorem WpG.caseB {t : Nat} {b : Bool} (hc : look F t = some (.bool b)) (ht : b = true → WpG P fn w0 H0 X k ((t, .bool true) :: F) H L R) (hf : b = false → WpG P fn w0 H0 X k ((t, .bool false) :: F) H L R) :
    WpG P fn w0 H0 X k F H L R := by
  cases b
  · exact WpG.setV hc rfl (hf rfl)
  · exact WpG.setV hc rfl (ht rfl)
theorem WpG.caseE {t : Nat} {x y : Int} (hc : look F t = some (.bool (x == y))) (ht : x = y → WpG P fn w0 H0 X k ((t, .bool true) :: F) H L R) (hf : x ≠ y → WpG P fn w0 H0 X k ((t, .bool false) :: F) H L R) :
    WpG P fn w0 H0 X k F H L R := by
  by_cases hp : x = y
  · exact WpG.setV hc (by simp [hp]) (ht hp)
  · exact WpG.setV hc (by simp [hp]) (hf hp)
theorem WpG.caseN {t : Nat} {x y : Int} (hc : look F t = some (.bool (x != y))) (ht : x ≠ y → WpG P fn w0 H0 X k ((t, .bool true) :: F) H L R) (hf : x = y → WpG P fn w0 H0 X k ((t, .bool false) :: F) H L R) :
    WpG P fn w0 H0 X k F H L R := by
  by_cases hp : x = y
  · exact WpG.setV hc (by simp [hp]) (hf hp)
  · exact WpG.setV hc (by simp [hp]) (ht hp)
theorem WpG.ind {σ : Type} (m : σ → Nat) (Fs : σ → Fk) (Hs : σ → Hp) (Ls : σ → List Chunk) (Inv : σ → Prop)
    (h : ∀ s, Inv s → (∀ s', m s' < m s → Inv s' → WpG P fn w0 H0 X k (Fs s') (Hs s') (Ls s') R) → WpG P fn w0 H0 X k (Fs s) (Hs s) (Ls s) R) :
    ∀ s, Inv s → WpG P fn w0 H0 X k (Fs s) (Hs s) (Ls s) R := by
  intro s
  generalize hn : m s = n
  induction n using Nat.strongRecOn generalizing s with
  | _ n ih => exact fun hi => h s hi fun s' hs' hi' => ih (m s') (hn ▸ hs') s' rfl hi'
structure Lp where
  m : Nat
  F : Fk
  H : Hp
  L : List Chunk
  I : Prop
theorem WpG.ind1 {α : Type} (S : α → Lp) (h : ∀ a, (S a).I → (∀ a', (S a').m < (S a).m → (S a').I → WpG P fn w0 H0 X k (S a').F (S a').H (S a').L R) → WpG P fn w0 H0 X k (S a).F (S a).H (S a).L R) (a0 : α) (hi : (S a0).I) : WpG P fn w0 H0 X k (S a0).F (S a0).H (S a0).L R :=
  WpG.ind (σ := α) (fun s : α => (S s).m) (fun s : α => (S s).F) (fun s : α => (S s).H) (fun s : α => (S s).L) (fun s : α => (S s).I) (fun s hi ih => h s hi fun a' hm hi' => ih a' hm hi') a0 hi
theorem WpG.ind2 {α β : Type} (S : α → β → Lp) (h : ∀ a b, (S a b).I → (∀ a' b', (S a' b').m < (S a b).m → (S a' b').I → WpG P fn w0 H0 X k (S a' b').F (S a' b').H (S a' b').L R) → WpG P fn w0 H0 X k (S a b).F (S a b).H (S a b).L R) (a0 : α) (b0 : β) (hi : (S a0 b0).I) : WpG P fn w0 H0 X k (S a0 b0).F (S a0 b0).H (S a0 b0).L R :=
  WpG.ind (σ := α × β) (fun s : α × β => (S s.1 s.2).m) (fun s : α × β => (S s.1 s.2).F) (fun s : α × β => (S s.1 s.2).H) (fun s : α × β => (S s.1 s.2).L) (fun s : α × β => (S s.1 s.2).I) (fun s hi ih => h s.1 s.2 hi fun a' b' hm hi' => ih ⟨a', b'⟩ hm hi') ⟨a0, b0⟩ hi
theorem WpG.ind3 {α β γ : Type} (S : α → β → γ → Lp) (h : ∀ a b c, (S a b c).I → (∀ a' b' c', (S a' b' c').m < (S a b c).m → (S a' b' c').I → WpG P fn w0 H0 X k (S a' b' c').F (S a' b' c').H (S a' b' c').L R) → WpG P fn w0 H0 X k (S a b c).F (S a b c).H (S a b c).L R) (a0 : α) (b0 : β) (c0 : γ) (hi : (S a0 b0 c0).I) : WpG P fn w0 H0 X k (S a0 b0 c0).F (S a0 b0 c0).H (S a0 b0 c0).L R :=
  WpG.ind (σ := α × β × γ) (fun s : α × β × γ => (S s.1 s.2.1 s.2.2).m) (fun s : α × β × γ => (S s.1 s.2.1 s.2.2).F) (fun s : α × β × γ => (S s.1 s.2.1 s.2.2).H) (fun s : α × β × γ => (S s.1 s.2.1 s.2.2).L) (fun s : α × β × γ => (S s.1 s.2.1 s.2.2).I) (fun s hi ih => h s.1 s.2.1 s.2.2 hi fun a' b' c' hm hi' => ih ⟨a', b', c'⟩ hm hi') ⟨a0, b0, c0⟩ hi
theorem WpG.ind4 {α β γ δ : Type} (S : α → β → γ → δ → Lp) (h : ∀ a b c d, (S a b c d).I → (∀ a' b' c' d', (S a' b' c' d').m < (S a b c d).m → (S a' b' c' d').I → WpG P fn w0 H0 X k (S a' b' c' d').F (S a' b' c' d').H (S a' b' c' d').L R) → WpG P fn w0 H0 X k (S a b c d).F (S a b c d).H (S a b c d).L R) (a0 : α) (b0 : β) (c0 : γ) (d0 : δ) (hi : (S a0 b0 c0 d0).I) : WpG P fn w0 H0 X k (S a0 b0 c0 d0).F (S a0 b0 c0 d0).H (S a0 b0 c0 d0).L R :=
  WpG.ind (σ := α × β × γ × δ) (fun s : α × β × γ × δ => (S s.1 s.2.1 s.2.2.1 s.2.2.2).m) (fun s : α × β × γ × δ => (S s.1 s.2.1 s.2.2.1 s.2.2.2).F) (fun s : α × β × γ × δ => (S s.1 s.2.1 s.2.2.1 s.2.2.2).H) (fun s : α × β × γ × δ => (S s.1 s.2.1 s.2.2.1 s.2.2.2).L) (fun s : α × β × γ × δ => (S s.1 s.2.1 s.2.2.1 s.2.2.2).I) (fun s hi ih => h s.1 s.2.1 s.2.2.1 s.2.2.2 hi fun a' b' c' d' hm hi' => ih ⟨a', b', c', d'⟩ hm hi') ⟨a0, b0, c0, d0⟩ hi
theorem WpG.ind5 {α β γ δ ε : Type} (S : α → β → γ → δ → ε → Lp) (h : ∀ a b c d e, (S a b c d e).I → (∀ a' b' c' d' e', (S a' b' c' d' e').m < (S a b c d e).m → (S a' b' c' d' e').I → WpG P fn w0 H0 X k (S a' b' c' d' e').F (S a' b' c' d' e').H (S a' b' c' d' e').L R) → WpG P fn w0 H0 X k (S a b c d e).F (S a b c d e).H (S a b c d e).L R) (a0 : α) (b0 : β) (c0 : γ) (d0 : δ) (e0 : ε) (hi : (S a0 b0 c0 d0 e0).I) : WpG P fn w0 H0 X k (S a0 b0 c0 d0 e0).F (S a0 b0 c0 d0 e0).H (S a0 b0 c0 d0 e0).L R :=
  WpG.ind (σ := α × β × γ × δ × ε) (fun s : α × β × γ × δ × ε => (S s.1 s.2.1 s.2.2.1 s.2.2.2.1 s.2.2.2.2).m) (fun s : α × β × γ × δ × ε => (S s.1 s.2.1 s.2.2.1 s.2.2.2.1 s.2.2.2.2).F) (fun s : α × β × γ × δ × ε => (S s.1 s.2.1 s.2.2.1 s.2.2.2.1 s.2.2.2.2).H) (fun s : α × β × γ × δ × ε => (S s.1 s.2.1 s.2.2.1 s.2.2.2.1 s.2.2.2.2).L) (fun s : α × β × γ × δ × ε => (S s.1 s.2.1 s.2.2.1 s.2.2.2.1 s.2.2.2.2).I) (fun s hi ih => h s.1 s.2.1 s.2.2.1 s.2.2.2.1 s.2.2.2.2 hi fun a' b' c' d' e' hm hi' => ih ⟨a', b', c', d', e'⟩ hm hi') ⟨a0, b0, c0, d0, e0⟩ hi
theorem WpG.ind6 {α β γ δ ε ζ : Type} (S : α → β → γ → δ → ε → ζ → Lp) (h : ∀ a b c d e f, (S a b c d e f).I → (∀ a' b' c' d' e' f', (S a' b' c' d' e' f').m < (S a b c d e f).m → (S a' b' c' d' e' f').I → WpG P fn w0 H0 X k (S a' b' c' d' e' f').F (S a' b' c' d' e' f').H (S a' b' c' d' e' f').L R) → WpG P fn w0 H0 X k (S a b c d e f).F (S a b c d e f).H (S a b c d e f).L R) (a0 : α) (b0 : β) (c0 : γ) (d0 : δ) (e0 : ε) (f0 : ζ) (hi : (S a0 b0 c0 d0 e0 f0).I) : WpG P fn w0 H0 X k (S a0 b0 c0 d0 e0 f0).F (S a0 b0 c0 d0 e0 f0).H (S a0 b0 c0 d0 e0 f0).L R :=
  WpG.ind (σ := α × β × γ × δ × ε × ζ) (fun s : α × β × γ × δ × ε × ζ => (S s.1 s.2.1 s.2.2.1 s.2.2.2.1 s.2.2.2.2.1 s.2.2.2.2.2).m) (fun s : α × β × γ × δ × ε × ζ => (S s.1 s.2.1 s.2.2.1 s.2.2.2.1 s.2.2.2.2.1 s.2.2.2.2.2).F) (fun s : α × β × γ × δ × ε × ζ => (S s.1 s.2.1 s.2.2.1 s.2.2.2.1 s.2.2.2.2.1 s.2.2.2.2.2).H) (fun s : α × β × γ × δ × ε × ζ => (S s.1 s.2.1 s.2.2.1 s.2.2.2.1 s.2.2.2.2.1 s.2.2.2.2.2).L) (fun s : α × β × γ × δ × ε × ζ => (S s.1 s.2.1 s.2.2.1 s.2.2.2.1 s.2.2.2.2.1 s.2.2.2.2.2).I) (fun s hi ih => h s.1 s.2.1 s.2.2.1 s.2.2.2.1 s.2.2.2.2.1 s.2.2.2.2.2 hi fun a' b' c' d' e' f' hm hi' => ih ⟨a', b', c', d', e', f'⟩ hm hi') ⟨a0, b0, c0, d0, e0, f0⟩ hi
theorem WpG.ind10 {α β γ δ ε ζ η θ ι κ : Type} (S : α → β → γ → δ → ε → ζ → η → θ → ι → κ → Lp) (h : ∀ a b c d e f g i j l, (S a b c d e f g i j l).I → (∀ a' b' c' d' e' f' g' i' j' l', (S a' b' c' d' e' f' g' i' j' l').m < (S a b c d e f g i j l).m → (S a' b' c' d' e' f' g' i' j' l').I → WpG P fn w0 H0 X k (S a' b' c' d' e' f' g' i' j' l').F (S a' b' c' d' e' f' g' i' j' l').H (S a' b' c' d' e' f' g' i' j' l').L R) → WpG P fn w0 H0 X k (S a b c d e f g i j l).F (S a b c d e f g i j l).H (S a b c d e f g i j l).L R) (a0 : α) (b0 : β) (c0 : γ) (d0 : δ) (e0 : ε) (f0 : ζ) (g0 : η) (i0 : θ) (j0 : ι) (l0 : κ) (hi : (S a0 b0 c0 d0 e0 f0 g0 i0 j0 l0).I) : WpG P fn w0 H0 X k (S a0 b0 c0 d0 e0 f0 g0 i0 j0 l0).F (S a0 b0 c0 d0 e0 f0 g0 i0 j0 l0).H (S a0 b0 c0 d0 e0 f0 g0 i0 j0 l0).L R :=
  WpG.ind (σ := α × β × γ × δ × ε × ζ × η × θ × ι × κ) (fun s : α × β × γ × δ × ε × ζ × η × θ × ι × κ => (S s.1 s.2.1 s.2.2.1 s.2.2.2.1 s.2.2.2.2.1 s.2.2.2.2.2.1 s.2.2.2.2.2.2.1 s.2.2.2.2.2.2.2.1 s.2.2.2.2.2.2.2.2.1 s.2.2.2.2.2.2.2.2.2).m) (fun s : α × β × γ × δ × ε × ζ × η × θ × ι × κ => (S s.1 s.2.1 s.2.2.1 s.2.2.2.1 s.2.2.2.2.1 s.2.2.2.2.2.1 s.2.2.2.2.2.2.1 s.2.2.2.2.2.2.2.1 s.2.2.2.2.2.2.2.2.1 s.2.2.2.2.2.2.2.2.2).F) (fun s : α × β × γ × δ × ε × ζ × η × θ × ι × κ => (S s.1 s.2.1 s.2.2.1 s.2.2.2.1 s.2.2.2.2.1 s.2.2.2.2.2.1 s.2.2.2.2.2.2.1 s.2.2.2.2.2.2.2.1 s.2.2.2.2.2.2.2.2.1 s.2.2.2.2.2.2.2.2.2).H) (fun s : α × β × γ × δ × ε × ζ × η × θ × ι × κ => (S s.1 s.2.1 s.2.2.1 s.2.2.2.1 s.2.2.2.2.1 s.2.2.2.2.2.1 s.2.2.2.2.2.2.1 s.2.2.2.2.2.2.2.1 s.2.2.2.2.2.2.2.2.1 s.2.2.2.2.2.2.2.2.2).L) (fun s : α × β × γ × δ × ε × ζ × η × θ × ι × κ => (S s.1 s.2.1 s.2.2.1 s.2.2.2.1 s.2.2.2.2.1 s.2.2.2.2.2.1 s.2.2.2.2.2.2.1 s.2.2.2.2.2.2.2.1 s.2.2.2.2.2.2.2.2.1 s.2.2.2.2.2.2.2.2.2).I) (fun s hi ih => h s.1 s.2.1 s.2.2.1 s.2.2.2.1 s.2.2.2.2.1 s.2.2.2.2.2.1 s.2.2.2.2.2.2.1 s.2.2.2.2.2.2.2.1 s.2.2.2.2.2.2.2.2.1 s.2.2.2.2.2.2.2.2.2 hi fun a' b' c' d' e' f' g' i' j' l' hm hi' => ih ⟨a', b', c', d', e', f', g', i', j', l'⟩ hm hi') ⟨a0, b0, c0, d0, e0, f0, g0, i0, j0, l0⟩ hi
theorem WpG.op {ops : Array Oper} {i : Nat} {rest : List Nat} {o : Oper} {d : Nat} {v : Value} (ho : ops[i]? = some o) (hw : wantk ops F o.guard = some true) (hd : o.dst = some d) (hn : Nat.blt d fn.ntmps = true)
    (hr : ∀ (a : Act) (w : World), Agrees fn.ntmps F a → SH w0 H0 X w H L → (execOp a.eval o).run P w = .ok (.value v) w)
    (h : WpG P fn w0 H0 X (.inRegion ops rest :: k) ((d, v) :: F) H L R) : WpG P fn w0 H0 X (.inRegion ops (i :: rest) :: k) F H L R := fun a w ha hs =>
  WpS.op ho (wantk_spec ha hw) (hr a w ha hs) (by rw [hd]; exact h _ w (ha.put (by simpa [Nat.blt_eq] using hn) v) hs)
theorem run_loadVar {t : Nat} {r : TRow} (hr : RowOK P t r) {w : World} {b o : Nat} {cs : List Value} {v : Value} (hl : cs.length = r.size) (hcs : ∀ (j : Nat) u, cs[j]? = some u → w.cell? ⟨b, o + j, none⟩ = some u)
    (hv : mkv r.kind.agg cs = some v) : (loadVar t ⟨b, o, none⟩).run P w = .ok v w := by
  have hadd : ∀ j, (⟨b, o, none⟩ : Addr).add j = ⟨b, o + j, none⟩ := fun j => by unfold Addr.add; split <;> simp_all
  unfold loadVar
  simp only [Sem.run_bind, hr.run_agg, Result.andThen_ok]
  cases hk : r.kind.agg with
  | true =>
    rw [hk] at hv
    simp only [mkv, Option.some.injEq] at hv
    subst hv
    have := run_loadCells_list (P := P) (w := w) ⟨b, o, none⟩ cs (fun j u hu => by rw [hadd]; exact hcs j u hu)
    simp [hr.run_size, ← hl, this]
  | false =>
    rw [hk] at hv
    match cs, hv with
    | [u], hv =>
      simp only [mkv, Option.some.injEq] at hv
      subst hv
      have := hcs 0 u rfl
      simp only [Nat.add_zero] at this
      simp [load, Sem.run, this]
def HCells (H : Hp) (b o : Nat) (cs : List Value) : Prop := ∀ (j : Nat) u, cs[j]? = some u → hcell H b (o + j) = some u
theorem HCells.nil (H : Hp) (b o : Nat) : HCells H b o [] := fun j u h => by simp at h
theorem HCells.cons {H : Hp} {b o : Nat} {v : Value} {cs : List Value} (h : hcell H b o = some v) (k : HCells H b (o + 1) cs) : HCells H b o (v :: cs) := fun j u hu => by
  cases j with
  | zero => simp at hu; subst hu; exact h
  | succ j => simp at hu; have := k j u hu; rwa [Nat.add_assoc, Nat.add_comm 1 j] at this
theorem HCells.mono {H H' : Hp} (h : H.le H') {b o : Nat} {cs : List Value} (k : HCells H b o cs) : HCells H' b o cs := fun j u hu => hcell.mono h (k j u hu)
theorem WpG.loadH (hT : TabOK P T) {ops : Array Oper} {i : Nat} {rest : List Nat} {d t : Nat} {x : Operand} {ty : TypeId} {pos : String} {af : Array Edge} {g : Option (Nat × Bool)} {b off : Nat} {cs : List Value} {v : Value} {r : TRow}
    (ho : ops[i]? = some ⟨some d, .load t x, ty, pos, af, g⟩) (hw : wantk ops F g = some true) (hn : Nat.blt d fn.ntmps = true) (hx : evk F x = some (.pointer (some ⟨b, off, none⟩)))
    (hr : trow T t = some r) (hl : cs.length = r.size) (hv : mkv r.kind.agg cs = some v) {H1 : Hp} (hc : HCells H1 b off cs) (hH : H1.le H)
    (h : WpG P fn w0 H0 X (.inRegion ops rest :: k) ((d, v) :: F) H L R) : WpG P fn w0 H0 X (.inRegion ops (i :: rest) :: k) F H L R :=
  WpG.op ho hw rfl hn (fun a w ha hs => by
    have := run_loadVar (P := P) (hT.row hr) (w := w) hl (fun j u hu => hs.sub.cell ((hc.mono hH) j u hu)) hv
    simp [execOp, ha.eval hx, Instr.loadAt, Instr.sureAddr, this]) h
theorem WpG.loadBox (hT : TabOK P T) {ops : Array Oper} {i : Nat} {rest : List Nat} {d t : Nat} {x : Operand} {ty : TypeId} {pos : String} {af : Array Edge} {g : Option (Nat × Bool)} {b off ci : Nat} {cs : List Value} {U : Nat} {v : Value} {r : TRow}
    (ho : ops[i]? = some ⟨some d, .load t x, ty, pos, af, g⟩) (hw : wantk ops F g = some true) (hn : Nat.blt d fn.ntmps = true) (hx : evk F x = some (.pointer (some ⟨b, off, none⟩)))
    (hr : trow T t = some r) (hL : L[ci]? = some (Chunk.box b cs U)) (hv : partOf r cs off = some v)
    (h : WpG P fn w0 H0 X (.inRegion ops rest :: k) ((d, v) :: F) H L R) : WpG P fn w0 H0 X (.inRegion ops (i :: rest) :: k) F H L R :=
  WpG.op ho hw rfl hn (fun a w ha hs => by
    have hb : w.heap[b]? = some (.cells cs.toArray U (0, 0)) := hs.chunk hL
    unfold partOf at hv
    cases hbl : Nat.ble (off + r.size) cs.length with
    | false => rw [hbl] at hv; cases hv
    | true =>
      rw [hbl] at hv
      have hle := Nat.le_of_ble_eq_true hbl
      have := run_loadVar (P := P) (hT.row hr) (w := w) (b := b) (o := off) (cs := (cs.drop off).take r.size) (by simp; omega) (fun j u hu => by
        rw [List.getElem?_take] at hu
        split at hu
        · simp [World.cell?, hb]; simpa using hu
        · cases hu) hv
      simp [execOp, ha.eval hx, Instr.loadAt, Instr.sureAddr, this]) h
end
end Go.Proofs.YtakameggkkjcpaaGreat
namespace Go.Proofs.YtakameggkkjcpaaGreat
open Go Go.RowKit
theorem SH.one {w w' : World} {H : Hp} {c c' : Chunk} (hp : Pre w H [c]) (hchg : Chg (blks [c]) w w') (hc' : c'.holds w') (hb : ∀ b, c'.blk = some b → c.blk = some b ∨ w.heap.size ≤ b) :
    SH w H (blks [c]) w' H [c'] := by
  have hHlt : ∀ b, H b ≠ none → b < w.heap.size := fun b hb => by
    cases hH : H b with
    | none => exact absurd hH hb
    | some o => exact lt_of_get (hp.sub b o hH)
  refine ⟨hchg, fun b o h => ?_, Hp.le.refl _, fun b h => .inl h, fun d hd => ?_, fun b hb' => ?_, ?_⟩
  · have hs := hp.sub b o h
    rw [hchg.block b (lt_of_get hs) fun hm => by have := hp.off b hm; rw [h] at this; cases this]
    exact hs
  · simp at hd; subst hd; exact hc'
  · obtain ⟨d, hd, hdb⟩ := List.mem_filterMap.1 hb'
    simp at hd; subst hd
    rcases hb b hdb with h1 | h1
    · have hm := mem_blks (L := [c]) (.head _) h1
      exact ⟨.inl hm, hp.off b hm⟩
    · refine ⟨.inr h1, ?_⟩
      cases hH : H b with
      | none => rfl
      | some o => have := hHlt b (by rw [hH]; simp); omega
  · cases h : c'.blk <;> simp [blks, h]
theorem perm_at {α : Type} : ∀ {L : List α} {i : Nat} {c : α}, L[i]? = some c → L.Perm (c :: L.eraseIdx i)
  | [], i, c, h => by simp at h
  | d :: L, 0, c, h => by simp at h; subst h; simp
  | d :: L, i + 1, c, h => by
    simp only [List.getElem?_cons_succ] at h
    simp only [List.eraseIdx_cons_succ]
    exact ((perm_at h).cons d).trans (List.Perm.swap c d _)
theorem perm_set {α : Type} : ∀ {L : List α} {i : Nat} {c c' : α}, L[i]? = some c → (L.set i c').Perm (c' :: L.eraseIdx i)
  | [], i, c, c', h => by simp at h
  | d :: L, 0, c, c', h => by simp
  | d :: L, i + 1, c, c', h => by
    simp only [List.getElem?_cons_succ] at h
    simp only [List.eraseIdx_cons_succ, List.set_cons_succ]
    exact ((perm_set h).cons d).trans (List.Perm.swap c' d _)
theorem SH.at_ {w0 w w' : World} {H0 H H' : Hp} {X : List Nat} {L Lc' : List Chunk} {i : Nat} {c : Chunk} (h : SH w0 H0 X w H L) (hi : L[i]? = some c) (k : SH w H (blks [c]) w' H' Lc') :
    SH w0 H0 X w' H' (Lc' ++ L.eraseIdx i) := SH.frame (Lc := [c]) (h.perm (perm_at hi).symm) k
theorem SH.set_ {w0 w w' : World} {H0 H H' : Hp} {X : List Nat} {L : List Chunk} {i : Nat} {c c' : Chunk} (h : SH w0 H0 X w H L) (hi : L[i]? = some c) (k : SH w H (blks [c]) w' H' [c']) :
    SH w0 H0 X w' H' (L.set i c') := (h.at_ hi k).perm (perm_set hi)
theorem SH.pre1 {w0 w : World} {H0 H : Hp} {X : List Nat} {L : List Chunk} {i : Nat} {c : Chunk} (h : SH w0 H0 X w H L) (hi : L[i]? = some c) : Pre w H [c] :=
  (h.perm (perm_at hi).symm).pre (List.Sublist.cons_cons c (List.nil_sublist _))
theorem Chg.setRow {w : World} {b : Nat} (cs : Array Value) (X : List Nat) (hb : b ∈ X) : Chg X w (w.setRow b cs) :=
  ⟨rfl, rfl, rfl, by simp, fun k _ hk => setRow_other w b k cs (fun e => hk (e ▸ hb))⟩
theorem Chg.grown {w w' : World} {row : Option Nat} (h : w.grownBy w' row) {X : List Nat} (hX : ∀ b, row = some b → b ∈ X) : Chg X w w' :=
  ⟨h.os, h.tape, h.output, h.size, fun k hk hx => h.block k hk (fun e => hx (hX k e.symm))⟩
section
variable {P : Program} {T : List TRow} {fn : Func} {w0 : World} {H0 : Hp} {X : List Nat} {k : List Item} {F : Fk} {H : Hp} {L : List Chunk} {R : Ending → World → Prop}
inductive OpS (P : Program) (o : Oper) (a : Act) (w : World) (K : Act → World → Prop) : Prop
  | value {w' : World} {v : Value} (hr : (execOp a.eval o).run P w = .ok (.value v) w') (h : K (a.put o.dst v) w')
  | skip {w' : World} (hr : (execOp a.eval o).run P w = .ok .skip w') (h : K (a.put o.dst undef) w')
  | call {w' : World} {f : FuncId} {args : Array Value} (hr : (execOp a.eval o).run P w = .ok (.enter f args) w') (Q : Value → World → Prop) (hc : Calls P f args w' fun e w'' => ∃ v, e = .returned v ∧ Q v w'')
    (h : ∀ v w'', Q v w'' → K (a.put o.dst v) w'')
theorem OpS.wps {ops : Array Oper} {i : Nat} {rest : List Nat} {o : Oper} {a : Act} {w : World} (ho : ops[i]? = some o) (hw : Region.wanted o (yielded ops a.tmps) = true) (h : OpS P o a w (fun a' w' => WpS P fn (.inRegion ops rest :: k) a' w' R)) :
    WpS P fn (.inRegion ops (i :: rest) :: k) a w R := by
  cases h with
  | value hr h => exact WpS.op ho hw hr h
  | skip hr h => exact WpS.opSkip ho hw hr h
  | call hr Q hc h => exact WpS.call ho hw hr hc h
theorem OpS.wpOp {ops : Array Oper} {i : Nat} {o : Oper} {a : Act} {w : World} {K : Act → World → Prop} {Q : Exit → Act → World → Prop} (ho : ops[i]? = some o) (hw : Region.wanted o (yielded ops a.tmps) = true) (h : OpS P o a w K) : Go.wpOp P ops Q i K a w := by
  unfold Go.wpOp
  simp only [ho, hw, if_true]
  refine .inl ?_
  cases h with
  | value hr h => simp only [Oper.wp, hr, Oper.upon]; exact h
  | skip hr h => simp only [Oper.wp, hr, Oper.upon]; exact h
  | call hr Q' hc h =>
    simp only [Oper.wp, hr, Oper.upon]
    refine hc.mono ?_
    rintro e w'' ⟨v, rfl, hq⟩
    exact h v w'' hq
def OpG (P : Program) (fn : Func) (w0 : World) (H0 : Hp) (X : List Nat) (ops : Array Oper) (i : Nat) (F : Fk) (H : Hp) (L : List Chunk) (Post : Fk → Hp → List Chunk → Prop) : Prop :=
  ∃ o, ops[i]? = some o ∧ wantk ops F o.guard = some true ∧ ∀ (a : Act) (w : World), Agrees fn.ntmps F a → SH w0 H0 X w H L → OpS P o a w fun a' w' => ∃ F' H' L', Post F' H' L' ∧ Agrees fn.ntmps F' a' ∧ SH w0 H0 X w' H' L'
theorem WpG.step {ops : Array Oper} {i : Nat} {rest : List Nat} {Post : Fk → Hp → List Chunk → Prop} (hs : OpG P fn w0 H0 X ops i F H L Post) (h : ∀ F' H' L', Post F' H' L' → WpG P fn w0 H0 X (.inRegion ops rest :: k) F' H' L' R) :
    WpG P fn w0 H0 X (.inRegion ops (i :: rest) :: k) F H L R := fun a w ha hsh => by
  obtain ⟨o, ho, hw, h1⟩ := hs
  refine OpS.wps ho (wantk_spec ha hw) ?_
  have hK : ∀ a' w', (∃ F' H' L', Post F' H' L' ∧ Agrees fn.ntmps F' a' ∧ SH w0 H0 X w' H' L') → WpS P fn (.inRegion ops rest :: k) a' w' R := fun a' w' ⟨F', H', L', hp, ha', hs'⟩ => h F' H' L' hp a' w' ha' hs'
  cases h1 a w ha hsh with
  | value hr h => exact .value hr (hK _ _ h)
  | skip hr h => exact .skip hr (hK _ _ h)
  | call hr Q hc h => exact .call hr Q hc fun v w'' hq => hK _ _ (h v w'' hq)
theorem SH.newBox {w : World} (h : SH w0 H0 X w H L) (cs : List Value) (U : Nat) : SH w0 H0 X (w.alloc (.cells cs.toArray U)) H (Chunk.box w.heap.size cs U :: L) :=
  h.alloc _ rfl (by show (w.heap.push _)[w.heap.size]? = _; simp)
theorem OpG.box {ops : Array Oper} {i : Nat} {d U : Nat} {x : Operand} {ty : TypeId} {pos : String} {af : Array Edge} {g : Option (Nat × Bool)} {v : Value}
    (ho : ops[i]? = some ⟨some d, .box U x, ty, pos, af, g⟩) (hw : wantk ops F g = some true) (hn : Nat.blt d fn.ntmps = true) (hx : evk F x = some v) {cs : List Value} (hcs : cellsL v = cs) :
    OpG P fn w0 H0 X ops i F H L fun F' H' L' => ∃ b, F' = (d, .pointer (some ⟨b, 0, none⟩)) :: F ∧ H' = H ∧ L' = Chunk.box b cs U :: L :=
  ⟨_, ho, hw, fun a w ha hs => .value (v := .pointer (some ⟨w.heap.size, 0, none⟩)) (w' := w.alloc (.cells cs.toArray U)) (by
    subst hcs
    simp [execOp, ha.eval hx, Instr.box, newVar, newRow, cellsL_eq]) ⟨_, _, _, ⟨_, rfl, rfl, rfl⟩, ha.put (by simpa [Nat.blt_eq] using hn) _, hs.newBox cs U⟩⟩
theorem WpG.box {ops : Array Oper} {i : Nat} {rest : List Nat} {d U : Nat} {x : Operand} {ty : TypeId} {pos : String} {af : Array Edge} {g : Option (Nat × Bool)} {v : Value}
    (ho : ops[i]? = some ⟨some d, .box U x, ty, pos, af, g⟩) (hw : wantk ops F g = some true) (hn : Nat.blt d fn.ntmps = true) (hx : evk F x = some v) {cs : List Value} (hcs : cellsL v = cs)
    (h : ∀ b, WpG P fn w0 H0 X (.inRegion ops rest :: k) ((d, .pointer (some ⟨b, 0, none⟩)) :: F) H (Chunk.box b cs U :: L) R) : WpG P fn w0 H0 X (.inRegion ops (i :: rest) :: k) F H L R :=
  WpG.step (OpG.box ho hw hn hx hcs) (by rintro _ _ _ ⟨b, rfl, rfl, rfl⟩; exact h b)
theorem OpG.alloc (hT : TabOK P T) {ops : Array Oper} {i : Nat} {d U : Nat} {ty : TypeId} {pos : String} {af : Array Edge} {g : Option (Nat × Bool)} {r : TRow}
    (ho : ops[i]? = some ⟨some d, .alloc U, ty, pos, af, g⟩) (hw : wantk ops F g = some true) (hn : Nat.blt d fn.ntmps = true) (hr : trow T U = some r) {cs : List Value} (hcs : cellsL r.zero = cs) :
    OpG P fn w0 H0 X ops i F H L fun F' H' L' => ∃ b, F' = (d, .pointer (some ⟨b, 0, none⟩)) :: F ∧ H' = H ∧ L' = Chunk.box b cs U :: L :=
  ⟨_, ho, hw, fun a w ha hs => .value (v := .pointer (some ⟨w.heap.size, 0, none⟩)) (w' := w.alloc (.cells cs.toArray U)) (by
    subst hcs
    simp [execOp, Instr.alloc, (hT.row hr).run_zero, newVar, newRow, cellsL_eq]) ⟨_, _, _, ⟨_, rfl, rfl, rfl⟩, ha.put (by simpa [Nat.blt_eq] using hn) _, hs.newBox cs U⟩⟩
theorem WpG.alloc (hT : TabOK P T) {ops : Array Oper} {i : Nat} {rest : List Nat} {d U : Nat} {ty : TypeId} {pos : String} {af : Array Edge} {g : Option (Nat × Bool)} {r : TRow}
    (ho : ops[i]? = some ⟨some d, .alloc U, ty, pos, af, g⟩) (hw : wantk ops F g = some true) (hn : Nat.blt d fn.ntmps = true) (hr : trow T U = some r) {cs : List Value} (hcs : cellsL r.zero = cs)
    (h : ∀ b, WpG P fn w0 H0 X (.inRegion ops rest :: k) ((d, .pointer (some ⟨b, 0, none⟩)) :: F) H (Chunk.box b cs U :: L) R) : WpG P fn w0 H0 X (.inRegion ops (i :: rest) :: k) F H L R :=
  WpG.step (OpG.alloc hT ho hw hn hr hcs) (by rintro _ _ _ ⟨b, rfl, rfl, rfl⟩; exact h b)
theorem run_storeRow {t : Nat} {r : TRow} (hr : RowOK P t r) {w : World} {b off : Nat} {cur : Array Value} {U : Nat} (hb : w.heap[b]? = some (.cells cur U (0, 0))) {v : Value} (hsz : (cellsL v).length = r.size)
    (hle : off + (cellsL v).length ≤ cur.size) (h1 : (cellsL v).all (fun u => u.oneCell') = true) :
    (storeVar t ⟨b, off, none⟩ v).run P w = .ok () (w.setRow b (cur.toList.take off ++ cellsL v ++ cur.toList.drop (off + (cellsL v).length)).toArray) := by
  have hst := run_storeCells_at P b off U (cellsL v) 0 cur w hb (by simpa using hle) (fun u hu => List.all_eq_true.1 h1 u hu)
  simp only [Nat.add_zero] at hst
  rw [cellsL_size] at hsz
  unfold storeVar
  rw [cellsL_eq] at hst ⊢
  simp [hr.run_size, hsz, hst]
theorem OpG.storeBox (hT : TabOK P T) {ops : Array Oper} {i : Nat} {t : Nat} {x y : Operand} {ty : TypeId} {pos : String} {af : Array Edge} {g : Option (Nat × Bool)} {b off ci U : Nat} {cs cs' : List Value} {v : Value} {r : TRow}
    (ho : ops[i]? = some ⟨none, .store t x y, ty, pos, af, g⟩) (hw : wantk ops F g = some true) (hx : evk F x = some (.pointer (some ⟨b, off, none⟩))) (hy : evk F y = some v)
    (hr : trow T t = some r) (hsz : (cellsL v).length = r.size) (h1 : (cellsL v).all (fun u => u.oneCell') = true) (hL : L[ci]? = some (Chunk.box b cs U)) (hp : putAt cs off (cellsL v) = some cs') :
    OpG P fn w0 H0 X ops i F H L fun F' H' L' => F' = F ∧ H' = H ∧ L' = L.set ci (Chunk.box b cs' U) :=
  ⟨_, ho, hw, fun a w ha hs => by
    have hb : w.heap[b]? = some (.cells cs.toArray U (0, 0)) := hs.chunk hL
    unfold putAt at hp
    cases hbl : Nat.ble (off + (cellsL v).length) cs.length with
    | false => rw [hbl] at hp; cases hp
    | true =>
      rw [hbl] at hp
      simp only [cond_true, Option.some.injEq] at hp
      have hle := Nat.le_of_ble_eq_true hbl
      have hst := run_storeRow (P := P) (hT.row hr) hb (off := off) hsz (by simpa using hle) h1
      refine .skip (w' := w.setRow b (cs.toArray.toList.take off ++ cellsL v ++ cs.toArray.toList.drop (off + (cellsL v).length)).toArray) (by simp [execOp, ha.eval hx, ha.eval hy, Instr.storeAt, Instr.sureAddr, hst])
        ⟨_, _, _, ⟨rfl, rfl, rfl⟩, ha, hs.set_ hL (SH.one (hs.pre1 hL) (Chg.setRow _ _ (by simp [blks, Chunk.box])) ?_ (fun b' e => .inl e))⟩
      show (w.setRow b _).heap[b]? = _
      rw [setRow_heap w b _ _ _ _ hb, ← hp]
      simp⟩
theorem WpG.storeBox (hT : TabOK P T) {ops : Array Oper} {i : Nat} {rest : List Nat} {t : Nat} {x y : Operand} {ty : TypeId} {pos : String} {af : Array Edge} {g : Option (Nat × Bool)} {b off ci U : Nat} {cs cs' : List Value} {v : Value} {r : TRow}
    (ho : ops[i]? = some ⟨none, .store t x y, ty, pos, af, g⟩) (hw : wantk ops F g = some true) (hx : evk F x = some (.pointer (some ⟨b, off, none⟩))) (hy : evk F y = some v)
    (hr : trow T t = some r) (hsz : (cellsL v).length = r.size) (h1 : (cellsL v).all (fun u => u.oneCell') = true) (hL : L[ci]? = some (Chunk.box b cs U)) (hp : putAt cs off (cellsL v) = some cs')
    (h : WpG P fn w0 H0 X (.inRegion ops rest :: k) F H (L.set ci (Chunk.box b cs' U)) R) : WpG P fn w0 H0 X (.inRegion ops (i :: rest) :: k) F H L R :=
  WpG.step (OpG.storeBox hT ho hw hx hy hr hsz h1 hL hp) (by rintro _ _ _ ⟨rfl, rfl, rfl⟩; exact h)
theorem WpG.ownNil (E sz : Nat) (h : WpG P fn w0 H0 X k F H (Chunk.own E sz none 0 0 [] :: L) R) : WpG P fn w0 H0 X k F H L R := fun a w ha hs =>
  h a w ha ⟨hs.chg, hs.sub, hs.le, hs.fresh, fun c hc => by
    rcases List.mem_cons.1 hc with rfl | hc
    · exact World.ownsRow_nil w 0 E sz
    · exact hs.holds c hc, by simpa [blks, List.filterMap_cons, Chunk.own, Value.ownBlock] using hs.own, by simpa [blks, List.filterMap_cons, Chunk.own, Value.ownBlock] using hs.nodup⟩
theorem WpG.indexAddr (hT : TabOK P T) {ops : Array Oper} {i : Nat} {rest : List Nat} {d t : Nat} {x y : Operand} {ty : TypeId} {pos : String} {af : Array Edge} {g : Option (Nat × Bool)} {b off n c e : Nat} {kd : IntKind} {j : Int} {r q : TRow}
    (ho : ops[i]? = some ⟨some d, .indexAddr t x y, ty, pos, af, g⟩) (hw : wantk ops F g = some true) (hn : Nat.blt d fn.ntmps = true) (hx : evk F x = some (.slice (some ⟨b, off, none⟩) n c)) (hy : evk F y = some (.int kd j))
    (hr : trow T t = some r) (hk : r.kind = .slice e) (hq : trow T e = some q) (h0 : 0 ≤ j) (h1 : j < n)
    (h : WpG P fn w0 H0 X (.inRegion ops rest :: k) ((d, .pointer (some ⟨b, off + j.toNat * q.size, none⟩)) :: F) H L R) : WpG P fn w0 H0 X (.inRegion ops (i :: rest) :: k) F H L R :=
  WpG.op ho hw rfl hn (fun a w ha hs => by
    obtain ⟨d', hd, hdk⟩ := (hT.row hr).under
    rw [hk] at hdk
    cases d' <;> simp only [TK.of, reduceCtorEq] at hdk
    simp only [TK.slice.injEq] at hdk
    subst hdk
    have hadd : (⟨b, off, none⟩ : Addr).add (j.toNat * q.size) = ⟨b, off + j.toNat * q.size, none⟩ := by
      unfold Addr.add
      split <;> simp_all
    simp only [execOp, ha.eval hx, ha.eval hy, Instr.indexAt, asIntOf, Sem.run_bind, Sem.run_pure, run_underlying hd, Result.andThen_ok, (hT.row hq).run_size, h0, h1, and_self, if_true, hadd]
    done) h
theorem ownsRow_cells {w : World} {E sz n : Nat} {b c : Nat} {xs : List Value} (h : w.ownsRow 0 E sz (.slice (some ⟨b, 0, none⟩) n c) n xs) (j : Nat) (u : Value) (hu : xs[j]? = some u) : w.cell? ⟨b, j, none⟩ = some u := by
  have := h.cells (g := b) rfl j u hu
  have hadd : (⟨b, 0, none⟩ : Addr).add j = ⟨b, j, none⟩ := by unfold Addr.add; split <;> simp_all
  rwa [hadd] at this
theorem WpG.loadOwn (hT : TabOK P T) {ops : Array Oper} {i : Nat} {rest : List Nat} {d t : Nat} {x : Operand} {ty : TypeId} {pos : String} {af : Array Edge} {g : Option (Nat × Bool)} {b off ci E sz c n : Nat} {xs cs : List Value} {v : Value} {r : TRow}
    (ho : ops[i]? = some ⟨some d, .load t x, ty, pos, af, g⟩) (hw : wantk ops F g = some true) (hn : Nat.blt d fn.ntmps = true) (hx : evk F x = some (.pointer (some ⟨b, off, none⟩)))
    (hr : trow T t = some r) (hL : L[ci]? = some (Chunk.own E sz (some ⟨b, 0, none⟩) c n xs)) (hl : cs.length = r.size) (hc : ∀ (j : Nat) u, cs[j]? = some u → xs[off + j]? = some u) (hv : mkv r.kind.agg cs = some v)
    (h : WpG P fn w0 H0 X (.inRegion ops rest :: k) ((d, v) :: F) H L R) : WpG P fn w0 H0 X (.inRegion ops (i :: rest) :: k) F H L R :=
  WpG.op ho hw rfl hn (fun a w ha hs => by
    have hb := hs.chunk hL
    have := run_loadVar (P := P) (hT.row hr) (w := w) hl (fun j u hu => ownsRow_cells hb _ u (hc j u hu)) hv
    simp [execOp, ha.eval hx, Instr.loadAt, Instr.sureAddr, this]) h
theorem take_put {α : Type} (l vs : List α) (off m : Nat) (h : off + vs.length ≤ m) (hm : m ≤ l.length) :
    (l.take off ++ vs ++ l.drop (off + vs.length)).take m = (l.take m).take off ++ (vs ++ (l.take m).drop (off + vs.length)) := by
  rw [List.append_assoc, List.take_append, List.take_append, List.take_take, List.take_take, List.drop_take]
  simp only [List.length_take]
  rw [show min m off = off from by omega, show min off m = off from by omega, show min off l.length = off from by omega]
  rw [List.take_of_length_le (l := vs) (by omega), show m - off - vs.length = m - (off + vs.length) from by omega]
theorem ownsRow_put {w : World} {E sz n b c off : Nat} {xs xs' vs : List Value} (h : w.ownsRow 0 E sz (.slice (some ⟨b, 0, none⟩) n c) n xs) (hp : putAt xs off vs = some xs') :
    ∃ cur, w.heap[b]? = some (.cells cur E (0, 0)) ∧ off + vs.length ≤ cur.size ∧
      (w.setRow b (cur.toList.take off ++ vs ++ cur.toList.drop (off + vs.length)).toArray).ownsRow 0 E sz (.slice (some ⟨b, 0, none⟩) n c) n xs' := by
  unfold putAt at hp
  cases hbl : Nat.ble (off + vs.length) xs.length with
  | false => rw [hbl] at hp; cases hp
  | true =>
    rw [hbl] at hp
    simp only [cond_true, Option.some.injEq] at hp
    have hle := Nat.le_of_ble_eq_true hbl
    obtain ⟨hl, h2⟩ := h
    rcases h2 with ⟨e, _⟩ | ⟨g, cap, cur, e, _, hg, hnc, hcm, hcs, ht⟩
    · cases e
    · simp only [Value.slice.injEq, Option.some.injEq, Addr.mk.injEq, and_true, true_and] at e
      obtain ⟨rfl, rfl⟩ := e
      have hxl : xs.length ≤ cur.size := by rw [hl, hcs]; exact Nat.mul_le_mul_right _ hnc
      refine ⟨cur, hg, by omega, by rw [← hp]; simp; omega, .inr ⟨b, c, _, rfl, Nat.zero_le _, setRow_heap w b cur _ E _ hg, hnc, hcm, ?_, ?_⟩⟩
      · simp [← hcs]; omega
      · rw [← hp]
        have hm : n * sz = xs.length := hl.symm
        rw [hm] at ht ⊢
        have := take_put cur.toList vs off xs.length hle (by simpa using hxl)
        rw [ht] at this
        exact this
end
end Go.Proofs.YtakameggkkjcpaaGreat
namespace Go.Proofs.YtakameggkkjcpaaGreat
open Go Go.RowKit
section
variable {P : Program} {T : List TRow} {fn : Func} {w0 : World} {H0 : Hp} {X : List Nat} {k : List Item} {F : Fk} {H : Hp} {L : List Chunk} {R : Ending → World → Prop}
theorem RowOK.slice {t e : Nat} {r : TRow} (h : RowOK P t r) (hk : r.kind = .slice e) : P.underlying t = some (.slice e) := by
  obtain ⟨d', hd, hdk⟩ := h.under
  rw [hk] at hdk
  cases d' <;> simp only [TK.of, reduceCtorEq] at hdk
  simp only [TK.slice.injEq] at hdk
  rw [← hdk]
  exact hd
theorem run_append_zero {t e : TypeId} {r : TypeInfo} (ht : P.underlying t = some (.slice e)) (hi : P.info? e = some r) (w : World) (ty : TypeId) (A B : Option Addr) (n c c2 : Nat) (hnc : n ≤ c) :
    (Builtin.append_ #[t, t] ty #[.slice A n c, .slice B 0 c2]).run P w = .ok (.slice A n c) w := by
  cases A <;> cases B <;> simp [Builtin.append_, run_underlying ht, sizeOf, typeInfo, hi, Builtin.lenOf, hnc, Builtin.firstCells, loadCells, loadCellsFrom, storeCells]
theorem run_append_own2 {t e : TypeId} {q : TRow} (hd : P.underlying t = some (.slice e)) (hq : RowOK P e q) (hb : Nat.ble q.bytes 65536 = true) (hsz : 0 < q.size) (hzs : (cellsL q.zero).length = q.size)
    {w : World} (ty : TypeId) {A : Option Addr} {n c : Nat} {xs : List Value} (hown : w.ownsRow 0 e q.size (.slice A n c) n xs) (b2 o2 m c2 : Nat) (news : List Value) (hl : news.length = m * q.size)
    (hnews : ∀ (j : Nat) u, news[j]? = some u → w.cell? ⟨b2, o2 + j, none⟩ = some u) (h1 : news.all (fun u => u.oneCell') = true) (hlen : n + m ≤ 2147483648) :
    ∃ A' c' w', (Builtin.append_ #[t, t] ty #[.slice A n c, .slice (some ⟨b2, o2, none⟩) m c2]).run P w = .ok (.slice A' (n + m) c') w' ∧ w'.ownsRow 0 e q.size (.slice A' (n + m) c') (n + m) (xs ++ news) ∧
      w.grownBy w' (Value.slice A n c).ownBlock ∧ ∀ b, (Value.slice A' (n + m) c').ownBlock = some b → (Value.slice A n c).ownBlock = some b ∨ w.heap.size ≤ b := by
  obtain ⟨i, hi, hs1, hb1, hz⟩ := hq.info
  have hbb := Nat.le_of_ble_eq_true hb
  have hadd : ∀ j, (⟨b2, o2, none⟩ : Addr).add j = ⟨b2, o2 + j, none⟩ := fun j => by unfold Addr.add; split <;> simp_all
  have hnews' : ∀ (j : Nat) u, news[j]? = some u → w.cell? ((⟨b2, o2, none⟩ : Addr).add j) = some u := fun j u hu => by rw [hadd]; exact hnews j u hu
  have h1' : ∀ u ∈ news, u.oneCell' = true := fun u hu => List.all_eq_true.1 h1 u hu
  have hbytes : (n + m) * q.bytes ≤ 140737488355328 := Nat.le_trans (Nat.mul_le_mul hlen hbb) (by decide)
  have hm : n + m ≤ maxLen := by unfold maxLen; omega
  have hzs' : q.zero.cells.size = q.size := by rw [← cellsL_size]; exact hzs
  have key : ∀ base, base ≤ w.heap.size → w.ownsRow base e q.size (.slice A n c) n xs → _ := fun base hbase ho =>
    run_append_own (P := P) w base t ty e i q.zero q.size q.bytes hd hi hz hs1 hb1 hzs' hsz (.slice A n c) n xs ho ⟨b2, o2, none⟩ m c2 news hl hnews' h1' hm hbytes hbase
  have form : ∀ {base : Nat} {v' : Value} {w' : World}, w'.ownsRow base e q.size v' (n + m) (xs ++ news) → ∃ A' c', v' = .slice A' (n + m) c' := by
    intro base v' w' ho
    rcases ho.2 with ⟨rfl, h0⟩ | ⟨g, cap, cur, rfl, _⟩
    · exact ⟨none, 0, by rw [h0]⟩
    · exact ⟨_, _, rfl⟩
  have low : ∀ {base : Nat} {v' : Value} {w' : World}, w'.ownsRow base e q.size v' (n + m) (xs ++ news) → w'.ownsRow 0 e q.size v' (n + m) (xs ++ news) := by
    intro base v' w' ho
    refine ⟨ho.1, ?_⟩
    rcases ho.2 with h | ⟨g, cap, cur, e1, _, rest⟩
    · exact .inl h
    · exact .inr ⟨g, cap, cur, e1, Nat.zero_le _, rest⟩
  rcases hown.2 with ⟨e0, hn0⟩ | ⟨g, cap, cur, e0, _, hg, hnc, hcm, hcs, htake⟩
  · obtain ⟨v', w', hr, ho, hgr, _⟩ := key w.heap.size (Nat.le_refl _) ⟨hown.1, .inl ⟨e0, hn0⟩⟩
    obtain ⟨A', c', rfl⟩ := form ho
    exact ⟨A', c', w', hr, low ho, hgr, fun b hbk => .inr (ho.lt b hbk).1⟩
  · simp only [Value.slice.injEq, true_and] at e0
    obtain ⟨rfl, rfl⟩ := e0
    obtain ⟨v', w', hr, ho, hgr, _⟩ := key 0 (Nat.zero_le _) hown
    obtain ⟨A', c', rfl⟩ := form ho
    refine ⟨A', c', w', hr, ho, hgr, fun b hbk => ?_⟩
    by_cases hroom : n + m ≤ c
    · have hfit : n * i.size + news.length ≤ cur.size := by rw [hl, hcs, hs1, ← Nat.add_mul]; exact Nat.mul_le_mul_right _ hroom
      have hr2 := run_append_room (P := P) w t ty e i hd hi g n c cur hg ⟨b2, o2, none⟩ m c2 news (by rw [hs1]; exact hl) hnews' h1' hroom hfit
      rw [hr2] at hr
      simp only [Result.ok.injEq, Value.slice.injEq, true_and] at hr
      obtain ⟨⟨rfl, rfl⟩, _⟩ := hr
      exact .inl hbk
    · have holds := hown.cells (g := g) rfl
      have hr2 := run_append_grow (P := P) w t ty e i q.zero hd hi hz ⟨g, 0, none⟩ n c xs (by rw [hs1]; exact hown.1) holds ⟨b2, o2, none⟩ m c2 news (by rw [hs1]; exact hl) hnews' (by omega) (by omega)
        (growslice_fits (by omega) (by rw [hb1]; exact hbytes))
      rw [hr2] at hr
      simp only [Result.ok.injEq, Value.slice.injEq, true_and] at hr
      obtain ⟨⟨rfl, rfl⟩, _⟩ := hr
      simp only [Value.ownBlock, Option.some.injEq] at hbk
      exact .inr (by omega)
def Src (w0 : World) (H0 : Hp) (X : List Nat) (H : Hp) (L : List Chunk) (B : Option Addr) (m : Nat) (news : List Value) : Prop :=
  (m = 0 ∧ news = []) ∨ ∃ b o, B = some ⟨b, o, none⟩ ∧ ∀ w, SH w0 H0 X w H L → ∀ (j : Nat) u, news[j]? = some u → w.cell? ⟨b, o + j, none⟩ = some u
theorem Src.own {ci E sz : Nat} {b c m : Nat} {news : List Value} (hL : L[ci]? = some (Chunk.own E sz (some ⟨b, 0, none⟩) c m news)) : Src w0 H0 X H L (some ⟨b, 0, none⟩) m news :=
  .inr ⟨b, 0, rfl, fun w hs j u hu => by rw [Nat.zero_add]; exact ownsRow_cells (hs.chunk hL) j u hu⟩
theorem Src.hp {H1 : Hp} {b o m : Nat} {news : List Value} (h : HCells H1 b o news) (hH : H1.le H) : Src w0 H0 X H L (some ⟨b, o, none⟩) m news :=
  .inr ⟨b, o, rfl, fun _ hs j u hu => hs.sub.cell ((h.mono hH) j u hu)⟩
theorem OpG.append (hT : TabOK P T) {ops : Array Oper} {i : Nat} {d t e ci : Nat} {x y : Operand} {ty : TypeId} {pos : String} {af : Array Edge} {g : Option (Nat × Bool)} {A B : Option Addr} {n c m c2 : Nat} {xs news : List Value} {r q : TRow}
    (ho : ops[i]? = some ⟨some d, .call ⟨.builtin .append, #[x, y], #[t, t]⟩, ty, pos, af, g⟩) (hw : wantk ops F g = some true) (hn : Nat.blt d fn.ntmps = true) (hx : evk F x = some (.slice A n c)) (hy : evk F y = some (.slice B m c2))
    (hr : trow T t = some r) (hk : r.kind = .slice e) (hq : trow T e = some q) (hbz : (Nat.ble q.bytes 65536 && Nat.blt 0 q.size && Nat.beq (cellsL q.zero).length q.size) = true)
    (hL : L[ci]? = some (Chunk.own e q.size A c n xs)) (hl : news.length = m * q.size) (h1 : news.all (fun u => u.oneCell') = true) (hsrc : Src w0 H0 X H L B m news) (hlen : n + m ≤ 2147483648) :
    OpG P fn w0 H0 X ops i F H L fun F' H' L' => ∃ A' c', F' = (d, .slice A' (n + m) c') :: F ∧ H' = H ∧ L' = L.set ci (Chunk.own e q.size A' c' (n + m) (xs ++ news)) := ⟨_, ho, hw, fun a w ha hs => by
  have hd := (hT.row hr).slice hk
  simp only [Bool.and_eq_true] at hbz
  obtain ⟨⟨hb, hsz⟩, hz⟩ := hbz
  have hsz : 0 < q.size := by simpa [Nat.blt_eq] using hsz
  have hz := Nat.eq_of_beq_eq_true hz
  have hown : w.ownsRow 0 e q.size (.slice A n c) n xs := hs.chunk hL
  have hrun : ∃ A' c' w', (Builtin.append_ #[t, t] ty #[.slice A n c, .slice B m c2]).run P w = .ok (.slice A' (n + m) c') w' ∧ w'.ownsRow 0 e q.size (.slice A' (n + m) c') (n + m) (xs ++ news) ∧
      w.grownBy w' (Value.slice A n c).ownBlock ∧ ∀ b, (Value.slice A' (n + m) c').ownBlock = some b → (Value.slice A n c).ownBlock = some b ∨ w.heap.size ≤ b := by
    rcases hsrc with ⟨rfl, rfl⟩ | ⟨b, o, rfl, hc⟩
    · obtain ⟨i', hi, _⟩ := (hT.row hq).info
      have hnc : n ≤ c := by
        rcases hown.2 with ⟨e1, h0⟩ | ⟨g', cap, cur, e1, _, _, h2, _⟩
        · simp at e1; omega
        · simp at e1; omega
      exact ⟨A, c, w, run_append_zero hd hi w ty A B n c c2 hnc, by simpa using hown, ⟨rfl, rfl, rfl, Nat.le_refl _, fun _ _ _ => rfl⟩, fun b hb => .inl hb⟩
    · exact run_append_own2 hd (hT.row hq) hb hsz hz ty hown b o m c2 news hl (hc w hs) h1 hlen
  obtain ⟨A', c', w', hr', hown', hgr, hbk⟩ := hrun
  refine .value (v := .slice A' (n + m) c') (w' := w') ?_ ⟨_, _, _, ⟨A', c', rfl, rfl, rfl⟩, ha.put (by simpa [Nat.blt_eq] using hn) _, hs.set_ hL (SH.one (hs.pre1 hL) (Chg.grown hgr fun b hb => mem_blks (L := [Chunk.own e q.size A c n xs]) (.head _) hb) hown' hbk)⟩
  simp [execOp, resolve, invoke, builtin, ha.eval hx, ha.eval hy, hr']⟩
theorem WpG.append (hT : TabOK P T) {ops : Array Oper} {i : Nat} {rest : List Nat} {d t e ci : Nat} {x y : Operand} {ty : TypeId} {pos : String} {af : Array Edge} {g : Option (Nat × Bool)} {A B : Option Addr} {n c m c2 : Nat} {xs news : List Value} {r q : TRow}
    (ho : ops[i]? = some ⟨some d, .call ⟨.builtin .append, #[x, y], #[t, t]⟩, ty, pos, af, g⟩) (hw : wantk ops F g = some true) (hn : Nat.blt d fn.ntmps = true) (hx : evk F x = some (.slice A n c)) (hy : evk F y = some (.slice B m c2))
    (hr : trow T t = some r) (hk : r.kind = .slice e) (hq : trow T e = some q) (hbz : (Nat.ble q.bytes 65536 && Nat.blt 0 q.size && Nat.beq (cellsL q.zero).length q.size) = true)
    (hL : L[ci]? = some (Chunk.own e q.size A c n xs)) (hl : news.length = m * q.size) (h1 : news.all (fun u => u.oneCell') = true) (hsrc : Src w0 H0 X H L B m news) (hlen : n + m ≤ 2147483648)
    (h : ∀ A' c', WpG P fn w0 H0 X (.inRegion ops rest :: k) ((d, .slice A' (n + m) c') :: F) H (L.set ci (Chunk.own e q.size A' c' (n + m) (xs ++ news))) R) : WpG P fn w0 H0 X (.inRegion ops (i :: rest) :: k) F H L R :=
  WpG.step (OpG.append hT ho hw hn hx hy hr hk hq hbz hL hl h1 hsrc hlen) (by rintro _ _ _ ⟨A', c', rfl, rfl, rfl⟩; exact h A' c')
theorem OpG.buildSlice (hT : TabOK P T) {ops : Array Oper} {i : Nat} {d t e len : Nat} {ps : Array (Nat × Operand)} {ty : TypeId} {pos : String} {af : Array Edge} {g : Option (Nat × Bool)} {vs : List (Nat × Value)} {xs : List Value} {r q : TRow}
    (ho : ops[i]? = some ⟨some d, .buildSlice t len ps, ty, pos, af, g⟩) (hw : wantk ops F g = some true) (hn : Nat.blt d fn.ntmps = true) (hv : evp F ps.toList = some vs)
    (hr : trow T t = some r) (hk : r.kind = .slice e) (hq : trow T e = some q) (hz : (Nat.ble (len * q.size) 16777216 && Nat.ble len 16777216) = true)
    (hf : fillG (fun i => some (i * q.size, q.size)) ((List.range (len * q.size)).map fun j => (cellsL q.zero)[j % (cellsL q.zero).length]!) vs = some xs) (hxl : xs.length = len * q.size) :
    OpG P fn w0 H0 X ops i F H L fun F' H' L' => ∃ b, F' = (d, .slice (some ⟨b, 0, none⟩) len len) :: F ∧ H' = H ∧ L' = Chunk.own e q.size (some ⟨b, 0, none⟩) len len xs :: L := ⟨_, ho, hw, fun a w ha hs => by
  have hd := (hT.row hr).slice hk
  simp only [Bool.and_eq_true] at hz
  have hz1 := Nat.le_of_ble_eq_true hz.1
  have hz2 := Nat.le_of_ble_eq_true hz.2
  have hfill := fillG_spec _ _ _ _ hf
  have hps := ha.evp hv
  refine .value (v := .slice (some ⟨w.heap.size, 0, none⟩) len len) (w' := w.alloc (.cells xs.toArray e)) ?_
    ⟨_, _, _, ⟨_, rfl, rfl, rfl⟩, ha.put (by simpa [Nat.blt_eq] using hn) _, hs.alloc (c := Chunk.own e q.size (some ⟨w.heap.size, 0, none⟩) len len xs) (.cells xs.toArray e) rfl ⟨hxl, .inr ⟨w.heap.size, len, xs.toArray, rfl, Nat.zero_le _, ?_, Nat.le_refl _, ?_, ?_, ?_⟩⟩⟩
  · have hcl : cellsL q.zero = q.zero.cells.toList := cellsL_eq _
    have harr : (List.map (fun j => (cellsL q.zero)[j % (cellsL q.zero).length]!) (List.range (len * q.size))).toArray = (if len * q.size = 0 then (#[] : Array Value) else (Array.range (len * q.size)).map (q.zero.cells[· % q.zero.cells.size]!)) := by
      rw [hcl]
      split
      · rename_i e; rw [e]; rfl
      · apply Array.ext'
        simp only [Array.toList_map, Array.toList_range]
        apply List.map_congr_left
        intro j _
        rw [Array.length_toList]
        simp only [getElem!_def, Array.getElem?_toList]
    rw [harr] at hfill
    have e2 : Array.map (fun x => (x.1, a.eval x.2)) ps = (List.map (fun p => (p.1, a.eval p.2)) ps.toList).toArray := by obtain ⟨l⟩ := ps; simp
    have h3 : ¬ (16777216 < len * q.size) := by omega
    by_cases hz0 : len * q.size = 0
    · rw [if_pos hz0] at hfill
      simp only [execOp, Instr.buildSlice, Sem.run_bind, run_underlying hd, Result.andThen_ok, (hT.row hq).run_size, e2, hps]
      rw [hz0, if_neg (by omega)]
      simp [hfill, newRow, Array.range_zero']
    · rw [if_neg hz0] at hfill
      simp only [execOp, Instr.buildSlice, Sem.run_bind, run_underlying hd, Result.andThen_ok, (hT.row hq).run_size, e2, hps]
      rw [if_neg (by omega), if_neg hz0]
      simp [(hT.row hq).run_zero, hfill, newRow]
  · show (w.heap.push _)[w.heap.size]? = _; simp
  · unfold maxLen; omega
  · simpa using hxl
  · simp [← hxl]⟩
theorem WpG.buildSlice (hT : TabOK P T) {ops : Array Oper} {i : Nat} {rest : List Nat} {d t e len : Nat} {ps : Array (Nat × Operand)} {ty : TypeId} {pos : String} {af : Array Edge} {g : Option (Nat × Bool)} {vs : List (Nat × Value)} {xs : List Value} {r q : TRow}
    (ho : ops[i]? = some ⟨some d, .buildSlice t len ps, ty, pos, af, g⟩) (hw : wantk ops F g = some true) (hn : Nat.blt d fn.ntmps = true) (hv : evp F ps.toList = some vs)
    (hr : trow T t = some r) (hk : r.kind = .slice e) (hq : trow T e = some q) (hz : (Nat.ble (len * q.size) 16777216 && Nat.ble len 16777216) = true)
    (hf : fillG (fun i => some (i * q.size, q.size)) ((List.range (len * q.size)).map fun j => (cellsL q.zero)[j % (cellsL q.zero).length]!) vs = some xs) (hxl : xs.length = len * q.size)
    (h : ∀ b, WpG P fn w0 H0 X (.inRegion ops rest :: k) ((d, .slice (some ⟨b, 0, none⟩) len len) :: F) H (Chunk.own e q.size (some ⟨b, 0, none⟩) len len xs :: L) R) : WpG P fn w0 H0 X (.inRegion ops (i :: rest) :: k) F H L R :=
  WpG.step (OpG.buildSlice hT ho hw hn hv hr hk hq hz hf hxl) (by rintro _ _ _ ⟨b, rfl, rfl, rfl⟩; exact h b)
theorem OpG.makeSlice (hT : TabOK P T) {ops : Array Oper} {i : Nat} {d t e n : Nat} {x : Operand} {ty : TypeId} {pos : String} {af : Array Edge} {g : Option (Nat × Bool)} {kd : IntKind} {r q : TRow} {z : Value}
    (ho : ops[i]? = some ⟨some d, .makeSlice t x x, ty, pos, af, g⟩) (hw : wantk ops F g = some true) (hn : Nat.blt d fn.ntmps = true) (hx : evk F x = some (.int kd (n : Int)))
    (hr : trow T t = some r) (hk : r.kind = .slice e) (hq : trow T e = some q) (hz : cellsL q.zero = [z]) (hqs : (Nat.beq q.size 1 && Nat.ble q.bytes 65536) = true) (hlen : n ≤ 2147483648) :
    OpG P fn w0 H0 X ops i F H L fun F' H' L' => ∃ b, F' = (d, .slice (some ⟨b, 0, none⟩) n n) :: F ∧ H' = H ∧ L' = Chunk.own e 1 (some ⟨b, 0, none⟩) n n (List.replicate n z) :: L := ⟨_, ho, hw, fun a w ha hs => by
  have hd := (hT.row hr).slice hk
  obtain ⟨ii, hi, hs1, hb1, hz1⟩ := (hT.row hq).info
  simp only [Bool.and_eq_true] at hqs
  have hq1 := Nat.eq_of_beq_eq_true hqs.1
  have hq2 := Nat.le_of_ble_eq_true hqs.2
  have hb2 : q.bytes * n ≤ 65536 * 2147483648 := Nat.mul_le_mul hq2 hlen
  have hzc : q.zero.cells = #[z] := by
    have := congrArg List.toArray hz
    rw [cellsL_eq] at this
    simpa using this
  have hm := run_make (P := P) w t e ii q.zero hd hi hz1 kd kd n n (by omega) (Int.le_refl _) (by rw [hb1]; omega) (by omega)
  have hmade : madeCells q.zero.cells (n * ii.size) = (List.replicate n z).toArray := by
    rw [hs1, hq1, hzc]
    unfold madeCells
    apply Array.ext'
    simp [Nat.mod_one, List.map_const']
  simp only [Int.toNat_natCast] at hm
  rw [hmade] at hm
  refine .value (v := .slice (some ⟨w.heap.size, 0, none⟩) n n) (w' := w.alloc (.cells (List.replicate n z).toArray e)) ?_
    ⟨_, _, _, ⟨_, rfl, rfl, rfl⟩, ha.put (by simpa [Nat.blt_eq] using hn) _, hs.alloc (c := Chunk.own e 1 (some ⟨w.heap.size, 0, none⟩) n n (List.replicate n z)) (.cells (List.replicate n z).toArray e) rfl
      ⟨by simp, .inr ⟨w.heap.size, n, (List.replicate n z).toArray, rfl, Nat.zero_le _, ?_, Nat.le_refl _, ?_, by simp, ?_⟩⟩⟩
  · simp only [execOp, ha.eval hx, Sem.run_bind, hm]
    simp
  · show (w.heap.push _)[w.heap.size]? = _; simp
  · unfold maxLen; omega
  · simp⟩
theorem WpG.makeSlice (hT : TabOK P T) {ops : Array Oper} {i : Nat} {rest : List Nat} {d t e n : Nat} {x : Operand} {ty : TypeId} {pos : String} {af : Array Edge} {g : Option (Nat × Bool)} {kd : IntKind} {r q : TRow} {z : Value}
    (ho : ops[i]? = some ⟨some d, .makeSlice t x x, ty, pos, af, g⟩) (hw : wantk ops F g = some true) (hn : Nat.blt d fn.ntmps = true) (hx : evk F x = some (.int kd (n : Int)))
    (hr : trow T t = some r) (hk : r.kind = .slice e) (hq : trow T e = some q) (hz : cellsL q.zero = [z]) (hqs : (Nat.beq q.size 1 && Nat.ble q.bytes 65536) = true) (hlen : n ≤ 2147483648)
    (h : ∀ b, WpG P fn w0 H0 X (.inRegion ops rest :: k) ((d, .slice (some ⟨b, 0, none⟩) n n) :: F) H (Chunk.own e 1 (some ⟨b, 0, none⟩) n n (List.replicate n z) :: L) R) : WpG P fn w0 H0 X (.inRegion ops (i :: rest) :: k) F H L R :=
  WpG.step (OpG.makeSlice hT ho hw hn hx hr hk hq hz hqs hlen) (by rintro _ _ _ ⟨b, rfl, rfl, rfl⟩; exact h b)
theorem OpG.storeOwn (hT : TabOK P T) {ops : Array Oper} {i : Nat} {t : Nat} {x y : Operand} {ty : TypeId} {pos : String} {af : Array Edge} {g : Option (Nat × Bool)} {b off ci E sz c n : Nat} {xs xs' : List Value} {v : Value} {r : TRow}
    (ho : ops[i]? = some ⟨none, .store t x y, ty, pos, af, g⟩) (hw : wantk ops F g = some true) (hx : evk F x = some (.pointer (some ⟨b, off, none⟩))) (hy : evk F y = some v)
    (hr : trow T t = some r) (hsz : (cellsL v).length = r.size) (h1 : (cellsL v).all (fun u => u.oneCell') = true) (hL : L[ci]? = some (Chunk.own E sz (some ⟨b, 0, none⟩) c n xs)) (hp : putAt xs off (cellsL v) = some xs') :
    OpG P fn w0 H0 X ops i F H L fun F' H' L' => F' = F ∧ H' = H ∧ L' = L.set ci (Chunk.own E sz (some ⟨b, 0, none⟩) c n xs') := ⟨_, ho, hw, fun a w ha hs => by
  have hown : w.ownsRow 0 E sz (.slice (some ⟨b, 0, none⟩) n c) n xs := hs.chunk hL
  obtain ⟨cur, hg, hle, hown'⟩ := ownsRow_put hown hp
  have hst := run_storeRow (P := P) (hT.row hr) hg hsz hle h1
  exact .skip (w' := w.setRow b (cur.toList.take off ++ cellsL v ++ cur.toList.drop (off + (cellsL v).length)).toArray) (by simp [execOp, ha.eval hx, ha.eval hy, Instr.storeAt, Instr.sureAddr, hst])
    ⟨_, _, _, ⟨rfl, rfl, rfl⟩, ha, hs.set_ hL (SH.one (hs.pre1 hL) (Chg.setRow _ _ (mem_blks (.head _) rfl)) hown' (fun b' e => .inl e))⟩⟩
theorem WpG.storeOwn (hT : TabOK P T) {ops : Array Oper} {i : Nat} {rest : List Nat} {t : Nat} {x y : Operand} {ty : TypeId} {pos : String} {af : Array Edge} {g : Option (Nat × Bool)} {b off ci E sz c n : Nat} {xs xs' : List Value} {v : Value} {r : TRow}
    (ho : ops[i]? = some ⟨none, .store t x y, ty, pos, af, g⟩) (hw : wantk ops F g = some true) (hx : evk F x = some (.pointer (some ⟨b, off, none⟩))) (hy : evk F y = some v)
    (hr : trow T t = some r) (hsz : (cellsL v).length = r.size) (h1 : (cellsL v).all (fun u => u.oneCell') = true) (hL : L[ci]? = some (Chunk.own E sz (some ⟨b, 0, none⟩) c n xs)) (hp : putAt xs off (cellsL v) = some xs')
    (h : WpG P fn w0 H0 X (.inRegion ops rest :: k) F H (L.set ci (Chunk.own E sz (some ⟨b, 0, none⟩) c n xs')) R) : WpG P fn w0 H0 X (.inRegion ops (i :: rest) :: k) F H L R :=
  WpG.step (OpG.storeOwn hT ho hw hx hy hr hsz h1 hL hp) (by rintro _ _ _ ⟨rfl, rfl, rfl⟩; exact h)
theorem putAt_one {xs : List Value} {j : Nat} {v : Value} (h : j < xs.length) : putAt xs j [v] = some (xs.set j v) := by
  unfold putAt
  rw [show Nat.ble (j + [v].length) xs.length = true from Nat.ble_eq_true_of_le (by simp; omega)]
  simp [List.set_eq_take_append_cons_drop, h]
theorem WpG.freezeOwn {ci E sz : Nat} {A : Option Addr} {c n : Nat} {xs : List Value} (hL : L[ci]? = some (Chunk.own E sz A c n xs))
    (h : ∀ H', H.le H' → ((A = none ∧ n = 0) ∨ ∃ b, A = some ⟨b, 0, none⟩ ∧ HCells H' b 0 xs) → WpG P fn w0 H0 X k F H' (L.eraseIdx ci) R) : WpG P fn w0 H0 X k F H L R := fun a w ha hs => by
  have hs' := hs.perm (perm_at hL).symm
  have hown : w.ownsRow 0 E sz (.slice A n c) n xs := hs.chunk hL
  rcases hown.2 with ⟨e0, hn0⟩ | ⟨g, cap, cur, e0, _, hg, hnc, hcm, hcs, htake⟩
  · simp only [Value.slice.injEq] at e0
    exact h H (Hp.le.refl H) (.inl ⟨e0.1, hn0⟩) a w ha (hs.drop (List.eraseIdx_sublist ..))
  · simp only [Value.slice.injEq, true_and] at e0
    obtain ⟨rfl, rfl⟩ := e0
    refine h (fun x => if x = g then some (.cells cur E (0, 0)) else H x) (Hp.le_freeze hs' (b := g) rfl _) (.inr ⟨g, rfl, fun j u hu => ?_⟩) a w ha (hs'.freeze (b := g) rfl hg)
    simp only [hcell, if_true, Nat.zero_add]
    rw [← htake, List.getElem?_take] at hu
    split at hu
    · simpa using hu
    · cases hu
theorem run_callFunc {g : FuncId} (hc : Callee P g) (args : Array Value) (w : World) : (callFunc g args).run P w = .ok (.enter g args) w := by
  obtain ⟨fn, hf, hn, hb⟩ := hc
  have hn' : fn.name ≠ "runtime.NumGoroutine" := by simpa using hn
  have hb' : fn.body ≠ none := fun e => by rw [e] at hb; cases hb
  simp [callFunc, hf, hn', hb']
theorem run_callValue {g : FuncId} (hc : Callee P g) {a : Act} {f : Operand} {xs : Array Operand} {ts : Array TypeId} {first cap : Array Value} {vs : List Value} {dst : Option Nat} {ty : TypeId} {pos : String} {af : Array Edge} {gd : Option (Nat × Bool)}
    (hf : a.eval f = .func (.func g) first cap) (hx : xs.toList.map a.eval = vs) (w : World) :
    (execOp a.eval ⟨dst, .call ⟨.value f, xs, ts⟩, ty, pos, af, gd⟩).run P w = .ok (.enter g (first.toList ++ (vs ++ cap.toList)).toArray) w := by
  have f1 := congrArg List.toArray hx
  simp only [← List.map_toArray, Array.toArray_toList] at f1
  simp [execOp, resolve, Deferred.ofValue, invoke, hf, f1, run_callFunc hc]
theorem OpG.call {ops : Array Oper} {i : Nat} {d : Nat} {g : FuncId} {f : Operand} {xs : Array Operand} {ts : Array TypeId} {ty : TypeId} {pos : String} {af : Array Edge} {gd : Option (Nat × Bool)} {first cap : Array Value} {vs args : List Value} {Lc Lf : List Chunk}
    {post : Value → Hp → List Chunk → Prop}
    (ho : ops[i]? = some ⟨some d, .call ⟨.value f, xs, ts⟩, ty, pos, af, gd⟩) (hw : wantk ops F gd = some true) (hn : Nat.blt d fn.ntmps = true) (hf : evk F f = some (.func (.func g) first cap)) (hx : evs F xs.toList = some vs)
    (hargs : first.toList ++ (vs ++ cap.toList) = args) (hL : L.Perm (Lc ++ Lf)) (hc : CallG P g args H Lc post) :
    OpG P fn w0 H0 X ops i F H L fun F' H' L'' => ∃ v L', F' = (d, v) :: F ∧ H.le H' ∧ post v H' L' ∧ L'' = L' ++ Lf := ⟨_, ho, hw, fun a w ha hs => by
  have hs' := hs.perm hL.symm
  refine .call (hargs ▸ run_callValue hc.1 (ha.eval hf) (ha.evs hx) w) (fun v w' => ∃ H' L', SH w H (blks Lc) w' H' L' ∧ post v H' L') ((hc.2 w (hs'.pre (List.sublist_append_left ..))).mono ?_) ?_
  · rintro e w' ⟨v, H', L', rfl, h1, h2⟩
    exact ⟨v, rfl, H', L', h1, h2⟩
  · rintro v w' ⟨H', L', h1, h2⟩
    exact ⟨_, _, _, ⟨v, L', rfl, h1.le, h2, rfl⟩, ha.put (by simpa [Nat.blt_eq] using hn) v, hs'.frame h1⟩⟩
theorem WpG.call {ops : Array Oper} {i : Nat} {rest : List Nat} {d : Nat} {g : FuncId} {f : Operand} {xs : Array Operand} {ts : Array TypeId} {ty : TypeId} {pos : String} {af : Array Edge} {gd : Option (Nat × Bool)} {first cap : Array Value} {vs args : List Value} {Lc Lf : List Chunk}
    {post : Value → Hp → List Chunk → Prop}
    (ho : ops[i]? = some ⟨some d, .call ⟨.value f, xs, ts⟩, ty, pos, af, gd⟩) (hw : wantk ops F gd = some true) (hn : Nat.blt d fn.ntmps = true) (hf : evk F f = some (.func (.func g) first cap)) (hx : evs F xs.toList = some vs)
    (hargs : first.toList ++ (vs ++ cap.toList) = args) (hL : L.Perm (Lc ++ Lf)) (hc : CallG P g args H Lc post)
    (h : ∀ v H' L', H.le H' → post v H' L' → WpG P fn w0 H0 X (.inRegion ops rest :: k) ((d, v) :: F) H' (L' ++ Lf) R) : WpG P fn w0 H0 X (.inRegion ops (i :: rest) :: k) F H L R :=
  WpG.step (OpG.call ho hw hn hf hx hargs hL hc) (by rintro _ H' _ ⟨v, L', rfl, h1, h2, rfl⟩; exact h v H' L' h1 h2)
theorem WpG.call0 {ops : Array Oper} {i : Nat} {rest : List Nat} {d : Nat} {g : FuncId} {f : Operand} {xs : Array Operand} {ts : Array TypeId} {ty : TypeId} {pos : String} {af : Array Edge} {gd : Option (Nat × Bool)} {first cap : Array Value} {vs args : List Value}
    {post : Value → Hp → List Chunk → Prop}
    (ho : ops[i]? = some ⟨some d, .call ⟨.value f, xs, ts⟩, ty, pos, af, gd⟩) (hw : wantk ops F gd = some true) (hn : Nat.blt d fn.ntmps = true) (hf : evk F f = some (.func (.func g) first cap)) (hx : evs F xs.toList = some vs)
    (hargs : first.toList ++ (vs ++ cap.toList) = args) (hc : CallG P g args H [] post)
    (h : ∀ v H' L', H.le H' → post v H' L' → WpG P fn w0 H0 X (.inRegion ops rest :: k) ((d, v) :: F) H' (L' ++ L) R) : WpG P fn w0 H0 X (.inRegion ops (i :: rest) :: k) F H L R :=
  WpG.call (Lc := []) ho hw hn hf hx hargs (.refl L) hc h
theorem WpG.call1 {ops : Array Oper} {i : Nat} {rest : List Nat} {d ci : Nat} {g : FuncId} {f : Operand} {xs : Array Operand} {ts : Array TypeId} {ty : TypeId} {pos : String} {af : Array Edge} {gd : Option (Nat × Bool)} {first cap : Array Value} {vs args : List Value} {c : Chunk}
    {post : Value → Hp → List Chunk → Prop}
    (ho : ops[i]? = some ⟨some d, .call ⟨.value f, xs, ts⟩, ty, pos, af, gd⟩) (hw : wantk ops F gd = some true) (hn : Nat.blt d fn.ntmps = true) (hf : evk F f = some (.func (.func g) first cap)) (hx : evs F xs.toList = some vs)
    (hargs : first.toList ++ (vs ++ cap.toList) = args) (hL : L[ci]? = some c) (hc : CallG P g args H [c] post)
    (h : ∀ v H' L', H.le H' → post v H' L' → WpG P fn w0 H0 X (.inRegion ops rest :: k) ((d, v) :: F) H' (L' ++ L.eraseIdx ci) R) : WpG P fn w0 H0 X (.inRegion ops (i :: rest) :: k) F H L R :=
  WpG.call (Lc := [c]) ho hw hn hf hx hargs (perm_at hL) hc h
inductive ResV (T : List TRow) (F : Fk) (L : List Chunk) : List ResultVar → List Value → Prop
  | nil : ResV T F L [] []
  | tmp {t : Nat} {v : Value} {rs : List ResultVar} {vs : List Value} : look F t = some v → ResV T F L rs vs → ResV T F L (.tmp t :: rs) (v :: vs)
  | cell {a t b off ci : Nat} {cs : List Value} {U : Nat} {r : TRow} {v : Value} {rs : List ResultVar} {vs : List Value} : look F a = some (.pointer (some ⟨b, off, none⟩)) → L[ci]? = some (Chunk.box b cs U) → trow T t = some r → partOf r cs off = some v → ResV T F L rs vs → ResV T F L (.cell a t :: rs) (v :: vs)
def resVal : List Value → Value
  | [v] => v
  | vs => .tuple vs.toArray
def resF (tmps : Array Value) : ResultVar → Sem Value
  | .tmp t => pure (tmps.getD t undef)
  | .cell b t => do loadVar t (← asAddr (tmps.getD b undef))
theorem ResV.run (hT : TabOK P T) {rs : List ResultVar} {vs : List Value} (h : ResV T F L rs vs) {n : Nat} {a : Act} {w : World} (ha : Agrees n F a) (hs : SH w0 H0 X w H L) :
    (rs.mapM (resF a.tmps)).run P w = .ok vs w := by
  induction h with
  | nil => simp
  | tmp ht _ ih =>
    have hg := ha.eval (x := .tmp _) ht
    simp only [Act.eval] at hg
    simp only [List.mapM_cons, resF, hg, Sem.run_bind, Sem.run_pure, Result.andThen_ok, ih]
  | @cell a' t b off ci cs U r v rs vs ht hL hr hv _ ih =>
    have hg := ha.eval (x := .tmp _) ht
    simp only [Act.eval] at hg
    have hb : w.heap[b]? = some (.cells cs.toArray U (0, 0)) := hs.chunk hL
    have h2 : (loadVar t ⟨b, off, none⟩).run P w = .ok v w := by
      unfold partOf at hv
      cases hbl : Nat.ble (off + r.size) cs.length with
      | false => rw [hbl] at hv; cases hv
      | true =>
        rw [hbl] at hv
        have hle := Nat.le_of_ble_eq_true hbl
        exact run_loadVar (P := P) (hT.row hr) (w := w) (b := b) (o := off) (cs := (cs.drop off).take r.size) (by simp; omega) (fun j u hu => by
          rw [List.getElem?_take] at hu
          split at hu
          · simp [World.cell?, hb]; simpa using hu
          · cases hu) hv
    simp only [List.mapM_cons, resF, hg, asAddr, Sem.run_bind, Sem.run_pure, Result.andThen_ok, h2, ih]
theorem run_results (hT : TabOK P T) {vs : List Value} (h : ResV T F L fn.results.toList vs) {n : Nat} {a : Act} {w : World} (ha : Agrees n F a) (hs : SH w0 H0 X w H L) : (results fn a.tmps).run P w = .ok (resVal vs) w := by
  have := h.run (P := P) hT ha hs
  have e : results fn a.tmps = (do let vs ← fn.results.mapM (resF a.tmps); pure (if h : vs.size = 1 then vs[0] else .tuple vs)) := by
    unfold results
    congr 2
  rw [e, Array.mapM_eq_mapM_toList]
  simp only [Sem.run_bind, Sem.run_map, this, Result.andThen_ok, Sem.run_pure]
  match vs with
  | [] => rfl
  | [v] => rfl
  | u :: v :: vs => simp [resVal]
theorem WpG.ret (hT : TabOK P T) {vs : List Value} {post : Value → Hp → List Chunk → Prop} {L' : List Chunk} (hres : ResV T F L fn.results.toList vs) (hd : L'.Sublist L) (hpost : post (resVal vs) H L') :
    WpG P fn w0 H0 X (.code .ret :: k) F H L (Ret w0 H0 X post) := fun _ _ ha hs =>
  WpS.ret ha.defers (run_results hT hres ha hs) ⟨_, H, L', rfl, hs.drop hd, hpost⟩
theorem WpG.done (hT : TabOK P T) {vs : List Value} {post : Value → Hp → List Chunk → Prop} {L' : List Chunk} (hres : ResV T F L fn.results.toList vs) (hd : L'.Sublist L) (hpost : post (resVal vs) H L') :
    WpG P fn w0 H0 X [] F H L (Ret w0 H0 X post) := fun _ _ ha hs =>
  WpS.done ha.defers (run_results hT hres ha hs) ⟨_, H, L', rfl, hs.drop hd, hpost⟩
end
end Go.Proofs.YtakameggkkjcpaaGreat
namespace Go.Proofs.YtakameggkkjcpaaGreat
open Go Go.RowKit
def I64 (x : Int) : Prop := -9223372036854775808 ≤ x ∧ x ≤ 9223372036854775807
def U64 (x : Int) : Prop := 0 ≤ x ∧ x ≤ 18446744073709551615
theorem I64.wrap {x : Int} (h : I64 x) : IntKind.i64.wrap x = x := by
  unfold I64 at h
  rw [IntKind.wrap_i64]
  omega
class Rdc (α : Type) where
  sz : Nat
  rd : Hp → List Value → α → Prop
  len : ∀ {H vs x}, rd H vs x → vs.length = sz
  mono : ∀ {H H' vs x}, H.le H' → rd H vs x → rd H' vs x
  one : ∀ {H vs x}, rd H vs x → vs.all (fun u => u.oneCell') = true
def RdS {α : Type} [Rdc α] (H : Hp) (A : Option Addr) (xs : List α) : Prop :=
  xs.length ≤ 140737488355328 ∧ (xs = [] ∨ ∃ b o, A = some ⟨b, o, none⟩ ∧ ∀ (i : Nat) x, xs[i]? = some x → ∃ cs, Rdc.rd H cs x ∧ HCells H b (o + i * Rdc.sz α) cs)
theorem RdS.mono {α : Type} [Rdc α] {H H' : Hp} {A : Option Addr} {xs : List α} (hH : H.le H') (h : RdS H A xs) : RdS H' A xs :=
  ⟨h.1, h.2.imp id fun ⟨b, o, e, k⟩ => ⟨b, o, e, fun i x hx => let ⟨cs, h1, h2⟩ := k i x hx; ⟨cs, Rdc.mono hH h1, h2.mono hH⟩⟩⟩
theorem RdS.nil {α : Type} [Rdc α] (H : Hp) (A : Option Addr) : RdS H A ([] : List α) := ⟨by simp, .inl rfl⟩
instance : Rdc Int where
  sz := 1
  rd _ vs x := vs = [.int .i64 x] ∧ I64 x
  len h := by rw [h.1]; rfl
  mono _ h := h
  one h := by rw [h.1]; rfl
instance {α : Type} [Rdc α] : Rdc (List α) where
  sz := 1
  rd H vs xs := ∃ A c, vs = [.slice A xs.length c] ∧ xs.length ≤ c ∧ RdS H A xs
  len h := by obtain ⟨A, c, rfl, _⟩ := h; rfl
  mono hH h := by obtain ⟨A, c, e, h1, h2⟩ := h; exact ⟨A, c, e, h1, h2.mono hH⟩
  one h := by obtain ⟨A, c, rfl, _⟩ := h; rfl
instance : Rdc Bool where
  sz := 1
  rd _ vs x := vs = [.bool x]
  len h := by rw [h]; rfl
  mono _ h := h
  one h := by rw [h]; rfl
structure OpD where
  kind : Int
  bits : Int
  lanes : Int
  dst : Int
  args : List Int
  imm : Int
  deriving Inhabited, DecidableEq
structure PhiD where
  bits : Int
  dst : Int
  frm : List Int
  args : List Int
  deriving Inhabited, DecidableEq
structure EndD where
  kind : Int
  arg : Int
  to : List Int
  deriving Inhabited, DecidableEq
structure BlockD where
  phis : List PhiD
  ops : List OpD
  en : EndD
  deriving Inhabited, DecidableEq
structure FuncD where
  params : List Int
  ret : Int
  blocks : List BlockD
  deriving Inhabited, DecidableEq
structure GraphD where
  succ : List (List Int)
  pred : List (List Int)
  deriving Inhabited, DecidableEq
instance : Rdc OpD where
  sz := 6
  rd H vs x := ∃ A c, vs = [.int .i64 x.kind, .int .i64 x.bits, .int .i64 x.lanes, .int .i64 x.dst, .slice A x.args.length c, .int .u64 x.imm] ∧ x.args.length ≤ c ∧ RdS H A x.args ∧
    I64 x.kind ∧ I64 x.bits ∧ I64 x.lanes ∧ I64 x.dst ∧ U64 x.imm
  len h := by obtain ⟨A, c, rfl, _⟩ := h; rfl
  mono hH h := by obtain ⟨A, c, e, h1, h2, h3⟩ := h; exact ⟨A, c, e, h1, h2.mono hH, h3⟩
  one h := by obtain ⟨A, c, rfl, _⟩ := h; rfl
instance : Rdc PhiD where
  sz := 4
  rd H vs x := ∃ A c A' c', vs = [.int .i64 x.bits, .int .i64 x.dst, .slice A x.frm.length c, .slice A' x.args.length c'] ∧ x.frm.length ≤ c ∧ RdS H A x.frm ∧ x.args.length ≤ c' ∧ RdS H A' x.args ∧ I64 x.bits ∧ I64 x.dst
  len h := by obtain ⟨A, c, A', c', rfl, _⟩ := h; rfl
  mono hH h := by obtain ⟨A, c, A', c', e, h1, h2, h3, h4, h5⟩ := h; exact ⟨A, c, A', c', e, h1, h2.mono hH, h3, h4.mono hH, h5⟩
  one h := by obtain ⟨A, c, A', c', rfl, _⟩ := h; rfl
instance : Rdc EndD where
  sz := 3
  rd H vs x := ∃ A c, vs = [.int .i64 x.kind, .int .i64 x.arg, .slice A x.to.length c] ∧ x.to.length ≤ c ∧ RdS H A x.to ∧ I64 x.kind ∧ I64 x.arg
  len h := by obtain ⟨A, c, rfl, _⟩ := h; rfl
  mono hH h := by obtain ⟨A, c, e, h1, h2, h3⟩ := h; exact ⟨A, c, e, h1, h2.mono hH, h3⟩
  one h := by obtain ⟨A, c, rfl, _⟩ := h; rfl
instance : Rdc BlockD where
  sz := 5
  rd H vs x := ∃ A c A' c' A'' c'', vs = [.slice A x.phis.length c, .slice A' x.ops.length c', .int .i64 x.en.kind, .int .i64 x.en.arg, .slice A'' x.en.to.length c''] ∧
    x.phis.length ≤ c ∧ RdS H A x.phis ∧ x.ops.length ≤ c' ∧ RdS H A' x.ops ∧ x.en.to.length ≤ c'' ∧ RdS H A'' x.en.to ∧ I64 x.en.kind ∧ I64 x.en.arg
  len h := by obtain ⟨A, c, A', c', A'', c'', rfl, _⟩ := h; rfl
  mono hH h := by obtain ⟨A, c, A', c', A'', c'', e, h1, h2, h3, h4, h5, h6, h7⟩ := h; exact ⟨A, c, A', c', A'', c'', e, h1, h2.mono hH, h3, h4.mono hH, h5, h6.mono hH, h7⟩
  one h := by obtain ⟨A, c, A', c', A'', c'', rfl, _⟩ := h; rfl
instance : Rdc FuncD where
  sz := 3
  rd H vs x := ∃ A c A' c', vs = [.slice A x.params.length c, .int .i64 x.ret, .slice A' x.blocks.length c'] ∧ x.params.length ≤ c ∧ RdS H A x.params ∧ x.blocks.length ≤ c' ∧ RdS H A' x.blocks ∧ I64 x.ret
  len h := by obtain ⟨A, c, A', c', rfl, _⟩ := h; rfl
  mono hH h := by obtain ⟨A, c, A', c', e, h1, h2, h3, h4, h5⟩ := h; exact ⟨A, c, A', c', e, h1, h2.mono hH, h3, h4.mono hH, h5⟩
  one h := by obtain ⟨A, c, A', c', rfl, _⟩ := h; rfl
instance : Rdc GraphD where
  sz := 2
  rd H vs x := ∃ A c A' c', vs = [.slice A x.succ.length c, .slice A' x.pred.length c'] ∧ x.succ.length ≤ c ∧ RdS H A x.succ ∧ x.pred.length ≤ c' ∧ RdS H A' x.pred
  len h := by obtain ⟨A, c, A', c', rfl, _⟩ := h; rfl
  mono hH h := by obtain ⟨A, c, A', c', e, h1, h2, h3, h4⟩ := h; exact ⟨A, c, A', c', e, h1, h2.mono hH, h3, h4.mono hH⟩
  one h := by obtain ⟨A, c, A', c', rfl, _⟩ := h; rfl
def nth {α : Type} [Inhabited α] (xs : List α) (i : Int) : α := xs.getD i.toNat default
theorem nth_get {α : Type} [Inhabited α] {xs : List α} {i : Int} (h0 : 0 ≤ i) (h1 : i < xs.length) : xs[i.toNat]? = some (nth xs i) := by
  have : i.toNat < xs.length := by omega
  simp [nth, List.getD_eq_getElem?_getD, List.getElem?_eq_getElem this]
theorem drop_nth {α : Type} [Inhabited α] {xs : List α} {i : Int} (h0 : 0 ≤ i) (h1 : i < xs.length) : xs.drop i.toNat = nth xs i :: xs.drop (i.toNat + 1) := by
  have h : i.toNat < xs.length := by omega
  rw [List.drop_eq_getElem_cons h]
  have := nth_get h0 h1
  rw [List.getElem?_eq_getElem h] at this
  simp only [Option.some.injEq] at this
  rw [this]
theorem nth_mem {α : Type} [Inhabited α] {xs : List α} {i : Int} (h0 : 0 ≤ i) (h1 : i < xs.length) : nth xs i ∈ xs := List.mem_of_getElem? (nth_get h0 h1)
theorem RdS.at_ {α : Type} [Inhabited α] [Rdc α] {H : Hp} {A : Option Addr} {xs : List α} (h : RdS H A xs) {i : Int} (h0 : 0 ≤ i) (h1 : i < xs.length) :
    ∃ b o, A = some ⟨b, o, none⟩ ∧ ∃ cs, Rdc.rd H cs (nth xs i) ∧ HCells H b (o + i.toNat * Rdc.sz α) cs := by
  rcases h.2 with rfl | ⟨b, o, e, k⟩
  · simp at h1; omega
  · exact ⟨b, o, e, k i.toNat _ (nth_get h0 h1)⟩
theorem HCells.sub {H : Hp} {b o : Nat} {cs : List Value} (h : HCells H b o cs) (m n : Nat) : HCells H b (o + m) ((cs.drop m).take n) := fun j u hu => by
  rw [List.getElem?_take] at hu
  split at hu
  · rw [List.getElem?_drop] at hu
    have := h _ u hu
    rwa [← Nat.add_assoc] at this
  · cases hu
def RdL {α : Type} [Rdc α] (H : Hp) : List Value → List α → Prop
  | vs, [] => vs = []
  | vs, x :: xs => ∃ v vs', vs = v ++ vs' ∧ Rdc.rd H v x ∧ RdL H vs' xs
theorem RdL.mono {α : Type} [Rdc α] {H H' : Hp} (hH : H.le H') : ∀ {xs : List α} {vs : List Value}, RdL H vs xs → RdL H' vs xs
  | [], _, h => h
  | _ :: _, _, ⟨v, vs', e, h1, h2⟩ => ⟨v, vs', e, Rdc.mono hH h1, RdL.mono hH h2⟩
theorem RdL.snoc {α : Type} [Rdc α] {H : Hp} : ∀ {xs : List α} {vs : List Value} {x : α} {v : List Value}, RdL H vs xs → Rdc.rd H v x → RdL H (vs ++ v) (xs ++ [x])
  | [], _, _, v, h, hv => by rw [show _ = [] from h]; exact ⟨v, [], by simp, hv, rfl⟩
  | _ :: _, _, _, _, ⟨u, vs', e, h1, h2⟩, hv => ⟨u, _, by rw [e, List.append_assoc], h1, RdL.snoc h2 hv⟩
theorem RdL.append {α : Type} [Rdc α] {H : Hp} : ∀ {xs ys : List α} {vs ws : List Value}, RdL H vs xs → RdL H ws ys → RdL H (vs ++ ws) (xs ++ ys)
  | [], _, _, _, h, hv => by rw [show _ = [] from h]; exact hv
  | _ :: _, _, _, _, ⟨u, vs', e, h1, h2⟩, hv => ⟨u, _, by rw [e, List.append_assoc], h1, RdL.append h2 hv⟩
theorem RdL.len {α : Type} [Rdc α] {H : Hp} : ∀ {xs : List α} {vs : List Value}, RdL H vs xs → vs.length = xs.length * Rdc.sz α
  | [], _, h => by rw [show _ = [] from h]; simp
  | x :: xs, _, ⟨u, vs', e, h1, h2⟩ => by
    rw [e, List.length_append, Rdc.len h1, RdL.len h2, List.length_cons, Nat.succ_mul, Nat.add_comm]
theorem RdL.one {α : Type} [Rdc α] {H : Hp} : ∀ {xs : List α} {vs : List Value}, RdL H vs xs → vs.all (fun u => u.oneCell') = true
  | [], _, h => by rw [show _ = [] from h]; rfl
  | _ :: _, _, ⟨u, vs', e, h1, h2⟩ => by rw [e, List.all_append, Rdc.one h1, RdL.one h2]; rfl
theorem RdL.at_ {α : Type} [Rdc α] {H : Hp} : ∀ {xs : List α} {vs : List Value}, RdL H vs xs → ∀ (i : Nat) x, xs[i]? = some x → ∃ cs, Rdc.rd H cs x ∧ ∀ (j : Nat) u, cs[j]? = some u → vs[i * Rdc.sz α + j]? = some u
  | [], _, _, i, x, hx => by simp at hx
  | y :: xs, _, ⟨u, vs', e, h1, h2⟩, i, x, hx => by
    cases i with
    | zero =>
      simp at hx; subst hx
      refine ⟨u, h1, fun j w hw => ?_⟩
      rw [e, Nat.zero_mul, Nat.zero_add, List.getElem?_append_left (List.getElem?_eq_some_iff.1 hw).1]
      exact hw
    | succ i =>
      simp at hx
      obtain ⟨cs, k1, k2⟩ := RdL.at_ h2 i x hx
      refine ⟨cs, k1, fun j w hw => ?_⟩
      rw [e, List.getElem?_append_right (by rw [Rdc.len h1, Nat.succ_mul]; omega), Rdc.len h1]
      have := k2 j w hw
      rw [show (i + 1) * Rdc.sz α + j - Rdc.sz α = i * Rdc.sz α + j from by rw [Nat.succ_mul]; omega]
      exact this
theorem RdS.of_own {α : Type} [Rdc α] {H : Hp} {A : Option Addr} {n : Nat} {vs : List Value} {xs : List α} (h : RdL H vs xs) (hn : n = xs.length) (hl : xs.length ≤ 140737488355328) {H' : Hp} (hH : H.le H')
    (hA : (A = none ∧ n = 0) ∨ ∃ b, A = some ⟨b, 0, none⟩ ∧ HCells H' b 0 vs) : RdS H' A xs := by
  refine ⟨hl, ?_⟩
  rcases hA with ⟨rfl, h0⟩ | ⟨b, rfl, hc⟩
  · exact .inl (List.eq_nil_of_length_eq_zero (by omega))
  · refine .inr ⟨b, 0, rfl, fun i x hx => ?_⟩
    obtain ⟨cs, k1, k2⟩ := h.at_ i x hx
    exact ⟨cs, Rdc.mono hH k1, fun j u hu => by have := hc _ u (k2 j u hu); simpa [Nat.add_assoc] using this⟩
end Go.Proofs.YtakameggkkjcpaaGreat
namespace Go.Proofs.YtakameggkkjcpaaGreat
open Go Go.RowKit
section
variable {P : Program} {T : List TRow} {fn : Func} {w0 : World} {H0 : Hp} {X : List Nat} {k : List Item} {F : Fk} {H : Hp} {L : List Chunk} {R : Ending → World → Prop} {Hs : Hp} {Ls : List Chunk} {ops : Array Oper} {fuel : Nat} {listed : Array Bool}
def QD (P : Program) (fn : Func) (k : List Item) (R : Ending → World → Prop) : Exit → Act → World → Prop
  | .normal, a, w => WpS P fn k a w R
  | _, _, _ => False
def WpD (P : Program) (fn : Func) (w0 : World) (H0 : Hp) (X : List Nat) (k : List Item) (R : Ending → World → Prop) (Hs : Hp) (Ls : List Chunk) (ops : Array Oper) (fuel : Nat) (listed : Array Bool) (F : Fk) (H : Hp) (L : List Chunk) : Prop :=
  ∀ a w, Agrees fn.ntmps F a → SH w0 H0 X w H L → wpAnyH P .any ops (QD P fn k R) (fun w => SH w0 H0 X w Hs Ls) fuel listed a w
theorem SH.drawn {w : World} (h : SH w0 H0 X w H L) : SH w0 H0 X { w with drawn := w.drawn + 1 } H L :=
  ⟨⟨h.chg.os, h.chg.tape, h.chg.output, h.chg.size, h.chg.block⟩, h.sub, h.le, h.fresh, fun c hc => c.loc w _ (h.holds c hc) fun _ _ => rfl, h.own, h.nodup⟩
theorem SH.less {w : World} (h : SH w0 H0 X w H L) (h0 : H0.le Hs) (hH : Hs.le H) (hL : Ls.Sublist L) : SH w0 H0 X w Hs Ls := by
  have k := h.drop hL
  refine ⟨k.chg, fun b o hb => k.sub b o (hH b o hb), h0, fun b hb => ?_, k.holds, fun b hb => ⟨(k.own b hb).1, ?_⟩, k.nodup⟩
  · cases hs : Hs b with
    | none => exact absurd hs hb
    | some o => exact k.fresh b (by rw [hH b o hs]; simp)
  · cases hs : Hs b with
    | none => rfl
    | some o => have := (k.own b hb).2; rw [hH b o hs] at this; cases this
def lst (n m : Nat) : Array Bool := ((List.range n).map fun i => m.testBit i).toArray
theorem WpG.draw {id : Nat} (n : Nat) (Ls : List Chunk) (hm : P.follows .mixedOrders = true) (hn : (ops.size == n && Array.replicate n false == lst n 0) = true) (h : WpD P fn w0 H0 X k R H Ls ops n (lst n 0) F H L) : WpG P fn w0 H0 X (.code (.region id ops true) :: k) F H L R := fun a w ha hs =>
  WpS.of_wp (Code.wp_mono (fun e a w hq => by cases e <;> exact hq) (wp_region_held (Q := QD P fn k R) hm (by
    simp only [Bool.and_eq_true] at hn
    have h1 : ops.size = n := by simpa using hn.1
    have h2 := beq_iff_eq.1 hn.2
    rw [h1, h2]
    exact h a _ ha hs.drawn)))
theorem WpD.done (hr : (Region.ready .any ops listed).isEmpty = true) (h : WpG P fn w0 H0 X k F H L R) : WpD P fn w0 H0 X k R Hs Ls ops fuel listed F H L := fun a w ha hs =>
  wpAnyH_done (List.isEmpty_iff.1 hr) (h a w ha hs) fuel
def dchk (ops : Array Oper) (listed : Array Bool) (i : Nat) : Bool := Region.noSelect ops && (Region.free .any ops listed i && (Region.ready .any ops listed).contains i)
theorem WpD.take {i d : Nat} {o : Oper} {v : Value} (hchk : dchk ops listed i = true) (ho : ops[i]? = some o) (hw : wantk ops F o.guard = some true) (hd : o.dst = some d) (hn : Nat.blt d fn.ntmps = true)
    (h0 : H0.le Hs) (hH : Hs.le H) (hL : Ls.Sublist L) (hy : ∀ (a : Act) (w : World), Agrees fn.ntmps F a → SH w0 H0 X w Hs Ls → (execOp a.eval o).run P w = .ok (.value v) w)
    (h : WpD P fn w0 H0 X k R Hs Ls ops fuel (listed.setIfInBounds i true) ((d, v) :: F) H L) : WpD P fn w0 H0 X k R Hs Ls ops (fuel + 1) listed F H L := fun a w ha hs => by
  simp only [dchk, Bool.and_eq_true] at hchk
  exact wpAnyH_take ho hchk.1 hchk.2.1 hchk.2.2 (fun _ _ _ h => h) (.inl ⟨wantk_spec ha hw, fun w hw' => hy a w ha hw'⟩) (hs.less h0 hH hL)
    (by rw [hd]; exact h _ w (ha.put (by simpa [Nat.blt_eq] using hn) v) hs)
theorem WpD.skip {i d : Nat} {o : Oper} (hchk : dchk ops listed i = true) (ho : ops[i]? = some o) (hw : wantk ops F o.guard = some false) (hd : o.dst = some d) (hn : Nat.blt d fn.ntmps = true)
    (h0 : H0.le Hs) (hH : Hs.le H) (hL : Ls.Sublist L)
    (h : WpD P fn w0 H0 X k R Hs Ls ops fuel (listed.setIfInBounds i true) ((d, undef) :: F) H L) : WpD P fn w0 H0 X k R Hs Ls ops (fuel + 1) listed F H L := fun a w ha hs => by
  simp only [dchk, Bool.and_eq_true] at hchk
  exact wpAnyH_take ho hchk.1 hchk.2.1 hchk.2.2 (fun _ _ _ h => h) (.inr ⟨wantk_spec ha hw, rfl⟩) (hs.less h0 hH hL)
    (by rw [hd]; exact h _ w (ha.put (by simpa [Nat.blt_eq] using hn) undef) hs)
theorem WpD.force {i : Nat} {Post : Fk → Hp → List Chunk → Prop} (hchk : (Region.ready .any ops listed == [i]) = true) (hs : OpG P fn w0 H0 X ops i F H L Post) (h0 : H0.le Hs)
    (h : ∀ F' H' L', Post F' H' L' → Hs.le H' ∧ Ls.Sublist L' ∧ WpD P fn w0 H0 X k R Hs Ls ops fuel (listed.setIfInBounds i true) F' H' L') : WpD P fn w0 H0 X k R Hs Ls ops (fuel + 1) listed F H L := fun a w ha hsh => by
  obtain ⟨o, ho, hw, h1⟩ := hs
  refine wpAnyH_all (rs := [i]) (by simpa using hchk) (by simp) fun j hj => ?_
  simp only [List.mem_singleton] at hj
  subst hj
  refine OpS.wpOp ho (wantk_spec ha hw) ?_
  have hK : ∀ a' w', (∃ F' H' L', Post F' H' L' ∧ Agrees fn.ntmps F' a' ∧ SH w0 H0 X w' H' L') → SH w0 H0 X w' Hs Ls ∧ wpAnyH P .any ops (QD P fn k R) (fun w => SH w0 H0 X w Hs Ls) fuel (listed.setIfInBounds j true) a' w' := by
    rintro a' w' ⟨F', H', L', hp, ha', hs'⟩
    obtain ⟨k1, k2, k3⟩ := h F' H' L' hp
    exact ⟨hs'.less h0 k1 k2, k3 a' w' ha' hs'⟩
  cases h1 a w ha hsh with
  | value hr h => exact .value hr (hK _ _ h)
  | skip hr h => exact .skip hr (hK _ _ h)
  | call hr Q hc h => exact .call hr Q hc fun v w'' hq => hK _ _ (h v w'' hq)
def dvals (T : List TRow) (n : Nat) (ops : Array Oper) : List Nat → Fk → Option Fk
  | [], F => some F
  | i :: is, F => match ops[i]? with
    | some o => match wantk ops F o.guard with
      | some true => match o.dst with
        | some d => bif Nat.blt d n then (match pop T F o.op with
          | some v => dvals T n ops is ((d, v) :: F)
          | none => none) else none
        | none => none
      | some false => match o.dst with
        | some d => bif Nat.blt d n then dvals T n ops is ((d, undef) :: F) else none
        | none => none
      | none => none
    | none => none
def dlist (listed : Array Bool) : List Nat → Array Bool
  | [] => listed
  | i :: is => dlist (listed.setIfInBounds i true) is
def dchks (ops : Array Oper) (listed : Array Bool) : List Nat → Bool
  | [] => true
  | i :: is => dchk ops listed i && dchks ops (listed.setIfInBounds i true) is
theorem WpD.setV {t : Nat} {v v' : Value} (hv : look F t = some v) (e : v = v') (h : WpD P fn w0 H0 X k R Hs Ls ops fuel listed ((t, v') :: F) H L) : WpD P fn w0 H0 X k R Hs Ls ops fuel listed F H L := fun a w ha hs =>
  h a w ⟨ha.defers, ha.size, fun s u hu => by
    simp only [look] at hu
    by_cases es : t = s
    · subst es; simp at hu; subst hu; exact e ▸ ha.at_ t v hv
    · rw [beq_no es] at hu; exact ha.at_ s u hu⟩ hs
theorem WpD.caseD {t : Nat} {p : Prop} [Decidable p] (hc : look F t = some (.bool (decide p))) (ht : p → WpD P fn w0 H0 X k R Hs Ls ops fuel listed ((t, .bool true) :: F) H L) (hf : ¬ p → WpD P fn w0 H0 X k R Hs Ls ops fuel listed ((t, .bool false) :: F) H L) :
    WpD P fn w0 H0 X k R Hs Ls ops fuel listed F H L := by
  by_cases hp : p
  · exact WpD.setV hc (by simp [hp]) (ht hp)
  · exact WpD.setV hc (by simp [hp]) (hf hp)
theorem WpD.caseB {t : Nat} {b : Bool} (hc : look F t = some (.bool b)) (ht : b = true → WpD P fn w0 H0 X k R Hs Ls ops fuel listed ((t, .bool true) :: F) H L) (hf : b = false → WpD P fn w0 H0 X k R Hs Ls ops fuel listed ((t, .bool false) :: F) H L) :
    WpD P fn w0 H0 X k R Hs Ls ops fuel listed F H L := by
  cases b
  · exact WpD.setV hc rfl (hf rfl)
  · exact WpD.setV hc rfl (ht rfl)
theorem WpD.caseE {t : Nat} {x y : Int} (hc : look F t = some (.bool (x == y))) (ht : x = y → WpD P fn w0 H0 X k R Hs Ls ops fuel listed ((t, .bool true) :: F) H L) (hf : x ≠ y → WpD P fn w0 H0 X k R Hs Ls ops fuel listed ((t, .bool false) :: F) H L) :
    WpD P fn w0 H0 X k R Hs Ls ops fuel listed F H L := by
  by_cases hp : x = y
  · exact WpD.setV hc (by simp [hp]) (ht hp)
  · exact WpD.setV hc (by simp [hp]) (hf hp)
theorem WpD.caseN {t : Nat} {x y : Int} (hc : look F t = some (.bool (x != y))) (ht : x ≠ y → WpD P fn w0 H0 X k R Hs Ls ops fuel listed ((t, .bool true) :: F) H L) (hf : x = y → WpD P fn w0 H0 X k R Hs Ls ops fuel listed ((t, .bool false) :: F) H L) :
    WpD P fn w0 H0 X k R Hs Ls ops fuel listed F H L := by
  by_cases hp : x = y
  · exact WpD.setV hc (by simp [hp]) (hf hp)
  · exact WpD.setV hc (by simp [hp]) (ht hp)
theorem WpD.permL {L' : List Chunk} (hL : L'.Perm L) (h : WpD P fn w0 H0 X k R Hs Ls ops fuel listed F H L') : WpD P fn w0 H0 X k R Hs Ls ops fuel listed F H L := fun a w ha hs => h a w ha (hs.perm hL)
theorem WpD.any2 {i j : Nat} {Pi Pj : Fk → Hp → List Chunk → Prop} (hchk : (Region.ready .any ops listed == [i, j]) = true) (h0 : H0.le Hs) (hi : OpG P fn w0 H0 X ops i F H L Pi) (hj : OpG P fn w0 H0 X ops j F H L Pj)
    (ki : ∀ F' H' L', Pi F' H' L' → Hs.le H' ∧ Ls.Sublist L' ∧ WpD P fn w0 H0 X k R Hs Ls ops fuel (listed.setIfInBounds i true) F' H' L')
    (kj : ∀ F' H' L', Pj F' H' L' → Hs.le H' ∧ Ls.Sublist L' ∧ WpD P fn w0 H0 X k R Hs Ls ops fuel (listed.setIfInBounds j true) F' H' L') : WpD P fn w0 H0 X k R Hs Ls ops (fuel + 1) listed F H L := fun a w ha hsh => by
  have gen : ∀ (i : Nat) (Post : Fk → Hp → List Chunk → Prop), OpG P fn w0 H0 X ops i F H L Post → (∀ F' H' L', Post F' H' L' → Hs.le H' ∧ Ls.Sublist L' ∧ WpD P fn w0 H0 X k R Hs Ls ops fuel (listed.setIfInBounds i true) F' H' L') →
      wpOp P ops (QD P fn k R) i (fun a' w' => SH w0 H0 X w' Hs Ls ∧ wpAnyH P .any ops (QD P fn k R) (fun w => SH w0 H0 X w Hs Ls) fuel (listed.setIfInBounds i true) a' w') a w := by
    intro i Post ⟨o, ho, hw, h1⟩ h
    refine OpS.wpOp ho (wantk_spec ha hw) ?_
    have hK : ∀ a' w', (∃ F' H' L', Post F' H' L' ∧ Agrees fn.ntmps F' a' ∧ SH w0 H0 X w' H' L') → SH w0 H0 X w' Hs Ls ∧ wpAnyH P .any ops (QD P fn k R) (fun w => SH w0 H0 X w Hs Ls) fuel (listed.setIfInBounds i true) a' w' := by
      rintro a' w' ⟨F', H', L', hp, ha', hs'⟩
      obtain ⟨k1, k2, k3⟩ := h F' H' L' hp
      exact ⟨hs'.less h0 k1 k2, k3 a' w' ha' hs'⟩
    cases h1 a w ha hsh with
    | value hr h => exact .value hr (hK _ _ h)
    | skip hr h => exact .skip hr (hK _ _ h)
    | call hr Q hc h => exact .call hr Q hc fun v w'' hq => hK _ _ (h v w'' hq)
  refine wpAnyH_all (rs := [i, j]) (by simpa using hchk) (by simp) fun x hx => ?_
  rcases List.mem_cons.1 hx with rfl | hx
  · exact gen _ _ hi ki
  · simp only [List.mem_singleton] at hx
    subst hx
    exact gen _ _ hj kj
structure Al where
  i : Nat
  d : Nat
  U : Nat
  cs : List Value
def AlOps (T : List TRow) (n : Nat) (ops : Array Oper) : List Al → Prop
  | [] => True
  | x :: xs => (∃ ty pos af r, ops[x.i]? = some ⟨some x.d, .alloc x.U, ty, pos, af, none⟩ ∧ Nat.blt x.d n = true ∧ trow T x.U = some r ∧ cellsL r.zero = x.cs) ∧ AlOps T n ops xs
theorem AlOps.mem {n : Nat} : ∀ {xs : List Al}, AlOps T n ops xs → ∀ x ∈ xs, ∃ ty pos af r, ops[x.i]? = some ⟨some x.d, .alloc x.U, ty, pos, af, none⟩ ∧ Nat.blt x.d n = true ∧ trow T x.U = some r ∧ cellsL r.zero = x.cs
  | [], _, _, h => by cases h
  | y :: xs, h, x, hx => by
    rcases List.mem_cons.1 hx with rfl | hx
    · exact h.1
    · exact AlOps.mem h.2 x hx
def alchk (ops : Array Oper) : Nat → Array Bool → List Nat → Bool
  | 0, _, is => is.isEmpty
  | k + 1, listed, is => (Region.ready .any ops listed == is) && is.all fun i => alchk ops k (listed.setIfInBounds i true) (is.erase i)
def ptrs (l : List (Al × Nat)) : Fk := l.map fun p => (p.1.d, Value.pointer (some ⟨p.2, 0, none⟩))
def boxs (l : List (Al × Nat)) : List Chunk := l.map fun p => Chunk.box p.2 p.1.cs p.1.U
def setAll (listed : Array Bool) (is : List Nat) : Array Bool := is.foldl (fun l i => l.setIfInBounds i true) listed
theorem setAll_perm {is js : List Nat} (h : is.Perm js) : ∀ (listed : Array Bool), setAll listed is = setAll listed js := by
  induction h with
  | nil => intro _; rfl
  | cons x _ ih => intro l; exact ih _
  | swap x y l =>
    intro listed
    simp only [setAll, List.foldl_cons]
    by_cases e : x = y
    · rw [e]
    · rw [Array.setIfInBounds_comm _ _ (Ne.symm e)]
  | trans _ _ h1 h2 => intro l; rw [h1, h2]
theorem perm_map_inv {α β : Type} {f : α → β} {l : List α} {m : List β} (h : (l.map f).Perm m) : ∃ l', l.Perm l' ∧ l'.map f = m := by
  generalize hk : l.map f = k at h
  induction h generalizing l with
  | nil => exact ⟨[], by simp at hk; subst hk; exact .nil, rfl⟩
  | cons x _ ih =>
    cases l with
    | nil => cases hk
    | cons y l =>
      simp only [List.map_cons, List.cons.injEq] at hk
      obtain ⟨l', h1, h2⟩ := ih hk.2
      exact ⟨y :: l', h1.cons y, by simp [h2, hk.1]⟩
  | swap x y r =>
    match l, hk with
    | a :: b :: l, hk =>
      simp only [List.map_cons, List.cons.injEq] at hk
      exact ⟨b :: a :: l, List.Perm.swap b a l, by simp [hk]⟩
  | trans _ _ h1 h2 =>
    obtain ⟨l1, p1, e1⟩ := h1 hk
    obtain ⟨l2, p2, e2⟩ := h2 e1
    exact ⟨l2, p1.trans p2, e2⟩
theorem look_ptrs_perm {l l' : List (Al × Nat)} (h : l.Perm l') (hn : (l.map fun p => p.1.d).Nodup) (F : Fk) (t : Nat) : look (ptrs l ++ F) t = look (ptrs l' ++ F) t := by
  induction h with
  | nil => rfl
  | cons x _ ih =>
    simp only [ptrs, List.map_cons, List.cons_append, look]
    rw [show List.map (fun p : Al × Nat => (p.1.d, Value.pointer (some ⟨p.2, 0, none⟩))) _ = ptrs _ from rfl, show List.map (fun p : Al × Nat => (p.1.d, Value.pointer (some ⟨p.2, 0, none⟩))) _ = ptrs _ from rfl, ih (List.nodup_cons.1 hn).2]
  | swap x y l =>
    simp only [List.map_cons, List.nodup_cons, List.mem_cons, not_or] at hn
    simp only [ptrs, List.map_cons, List.cons_append, look]
    by_cases e1 : x.1.d = t
    · have : ¬ y.1.d = t := fun e2 => hn.1.1 (by rw [e1, e2])
      rw [beq_no this, e1]
      simp
    · rw [beq_no e1]
      simp
  | trans h1 _ ih1 ih2 => rw [ih1 hn, ih2 ((h1.map _).nodup_iff.1 hn)]
theorem WpD.allocs (hT : TabOK P T) (aa : List Al) {listed' : Array Bool} (hops : AlOps T fn.ntmps ops aa) (hchk : (alchk ops aa.length listed (aa.map Al.i) && (setAll listed (aa.map Al.i) == listed')) = true) (hnd : (aa.map Al.d).Nodup) (hni : (aa.map Al.i).Nodup)
    (h0 : H0.le Hs) (hH : Hs.le H) (hL : Ls.Sublist L)
    (h : ∀ l : List (Al × Nat), l.map Prod.fst = aa → WpD P fn w0 H0 X k R Hs Ls ops fuel listed' (ptrs l ++ F) H (boxs l ++ L)) : WpD P fn w0 H0 X k R Hs Ls ops (fuel + aa.length) listed F H L := by
  simp only [Bool.and_eq_true] at hchk
  have hlist := beq_iff_eq.1 hchk.2
  have main : ∀ (m : Nat) (rem : List Al) (done : List (Al × Nat)) (l0 : Array Bool), rem.length = m → (done.map Prod.fst ++ rem).Perm aa → l0 = setAll listed ((done.map Prod.fst).map Al.i) → alchk ops m l0 (rem.map Al.i) = true →
      WpD P fn w0 H0 X k R Hs Ls ops (fuel + m) l0 (ptrs done ++ F) H (boxs done ++ L) := by
    intro m
    induction m with
    | zero =>
      intro rem done l0 hl hp hl0 _
      have hr : rem = [] := List.eq_nil_of_length_eq_zero hl
      subst hr
      simp only [List.append_nil] at hp
      obtain ⟨l', p1, e1⟩ := perm_map_inv hp
      have hset : l0 = listed' := by rw [hl0, ← hlist]; exact setAll_perm (hp.map _) _
      rw [hset]
      have hnd' : (done.map fun p => p.1.d).Nodup := by
        have := (hp.map Al.d).nodup_iff.2 hnd
        simpa [List.map_map, Function.comp_def] using this
      intro a w ha hs
      exact h l' e1 a w ⟨ha.defers, ha.size, fun t v ht => ha.at_ t v (by rw [look_ptrs_perm p1 hnd' F t]; exact ht)⟩ (hs.perm (List.Perm.append_right L ((p1.map _).symm)))
    | succ m ih =>
      intro rem done l0 hl hp hl0 hc
      simp only [alchk, Bool.and_eq_true] at hc
      intro a w ha hsh
      refine wpAnyH_all (rs := rem.map Al.i) (beq_iff_eq.1 hc.1) (by intro e; simp at e; subst e; simp at hl) fun j hj => ?_
      obtain ⟨x, hx, rfl⟩ := List.mem_map.1 hj
      have hxa : x ∈ aa := hp.mem_iff.1 (List.mem_append_right _ hx)
      obtain ⟨ty, pos, af, r, ho, hn, hr, hcs⟩ := hops.mem x hxa
      have hop := OpG.alloc (P := P) (fn := fn) (w0 := w0) (H0 := H0) (X := X) (F := ptrs done ++ F) (H := H) (L := boxs done ++ L) hT ho rfl hn hr hcs
      obtain ⟨o, ho', hw, h1⟩ := hop
      refine OpS.wpOp ho' (wantk_spec ha hw) ?_
      have hK : ∀ a' w', (∃ F' H' L', (∃ b, F' = (x.d, .pointer (some ⟨b, 0, none⟩)) :: (ptrs done ++ F) ∧ H' = H ∧ L' = Chunk.box b x.cs x.U :: (boxs done ++ L)) ∧ Agrees fn.ntmps F' a' ∧ SH w0 H0 X w' H' L') →
          SH w0 H0 X w' Hs Ls ∧ wpAnyH P .any ops (QD P fn k R) (fun w => SH w0 H0 X w Hs Ls) (fuel + m) (l0.setIfInBounds x.i true) a' w' := by
        rintro a' w' ⟨_, _, _, ⟨b, rfl, rfl, rfl⟩, ha', hs'⟩
        refine ⟨hs'.less h0 hH ((hL.trans (List.sublist_append_right _ _)).cons _), ?_⟩
        have hni' : (rem.map Al.i).Nodup := by
          have := (hp.map Al.i).nodup_iff.2 hni
          rw [List.map_append] at this
          exact (List.nodup_append.1 this).2.1
        obtain ⟨r1, r2, rfl⟩ := List.append_of_mem hx
        have her : ((r1 ++ x :: r2).map Al.i).erase x.i = (r1 ++ r2).map Al.i := by
          simp only [List.map_append, List.map_cons] at hni' ⊢
          rw [List.erase_append_right _ (fun hm => (List.nodup_append.1 hni').2.2 x.i hm x.i (.head _) rfl)]
          simp
        refine ih (r1 ++ r2) ((x, b) :: done) (l0.setIfInBounds x.i true) (by simp at hl ⊢; omega) ?_ ?_ ?_ a' w' ha' hs'
        · refine List.Perm.trans ?_ hp
          simp only [List.map_cons, List.cons_append]
          rw [← List.append_assoc, ← List.append_assoc]
          exact List.perm_middle.symm
        · rw [hl0]
          have hsn : ∀ (is : List Nat) (l : Array Bool) (i : Nat), (setAll l is).setIfInBounds i true = setAll l (i :: is) := fun is l i => by
            rw [show setAll l (i :: is) = setAll l (is ++ [i]) from setAll_perm (List.perm_append_comm (l₁ := [i])) l]
            simp [setAll]
          exact hsn _ _ _
        · have := List.all_eq_true.1 hc.2 x.i hj
          rwa [her] at this
      cases h1 a w ha hsh with
      | value hr h => exact .value hr (hK _ _ h)
      | skip hr h => exact .skip hr (hK _ _ h)
      | call hr Q hc h => exact .call hr Q hc fun v w'' hq => hK _ _ (h v w'' hq)
  have := main aa.length aa [] listed rfl (by simp) rfl hchk.1
  simpa [ptrs, boxs] using this
theorem WpD.weaken {G : Fk} (hG : Known F G) (h : WpD P fn w0 H0 X k R Hs Ls ops fuel listed G H L) : WpD P fn w0 H0 X k R Hs Ls ops fuel listed F H L := fun a w ha hs => h a w (ha.weaken hG.all) hs
theorem WpD.gos (hT : TabOK P T) (h0 : H0.le Hs) (hH : Hs.le H) (hL : Ls.Sublist L) : ∀ (is : List Nat) {listed : Array Bool} {F F' : Fk}, dchks ops listed is = true → dvals T fn.ntmps ops is F = some F' →
    WpD P fn w0 H0 X k R Hs Ls ops fuel (dlist listed is) F' H L → WpD P fn w0 H0 X k R Hs Ls ops (fuel + is.length) listed F H L
  | [], _, _, _, _, hv, h => by simp only [dvals, Option.some.injEq] at hv; subst hv; exact h
  | i :: is, listed, F, F', hc, hv, h => by
    simp only [dchks, Bool.and_eq_true] at hc
    simp only [dvals] at hv
    split at hv
    · rename_i o ho
      split at hv
      · rename_i hw
        split at hv
        · rename_i d hd
          cases hb : Nat.blt d fn.ntmps with
          | false => rw [hb] at hv; cases hv
          | true =>
            rw [hb] at hv
            simp only [cond_true] at hv
            split at hv
            · rename_i v hpv
              exact WpD.take hc.1 ho hw hd hb h0 hH hL (fun a w ha _ => pop_spec hT ha hpv w) (WpD.gos hT h0 hH hL is hc.2 hv h)
            · cases hv
        · cases hv
      · rename_i hw
        split at hv
        · rename_i d hd
          cases hb : Nat.blt d fn.ntmps with
          | false => rw [hb] at hv; cases hv
          | true =>
            rw [hb] at hv
            simp only [cond_true] at hv
            exact WpD.skip hc.1 ho hw hd hb h0 hH hL (WpD.gos hT h0 hH hL is hc.2 hv h)
        · cases hv
      · cases hv
    · cases hv
theorem WpD.go (hT : TabOK P T) (is : List Nat) (G : Fk) {F' : Fk} {listed' : Array Bool} (hc : (dchks ops listed is && (dlist listed is == listed')) = true) (hv : dvals T fn.ntmps ops is F = some F') (hG : Known F' G) (h0 : H0.le Hs) (hH : Hs.le H) (hL : Ls.Sublist L)
    (h : WpD P fn w0 H0 X k R Hs Ls ops fuel listed' G H L) : WpD P fn w0 H0 X k R Hs Ls ops (fuel + is.length) listed F H L := by
  simp only [Bool.and_eq_true] at hc
  exact WpD.gos hT h0 hH hL is hc.1 hv (WpD.weaken hG ((beq_iff_eq.1 hc.2) ▸ h))
theorem WpD.g (hT : TabOK P T) (is : List Nat) {F' : Fk} {listed' : Array Bool} (hc : (dchks ops listed is && (dlist listed is == listed')) = true) (hv : dvals T fn.ntmps ops is F = some F') (h0 : H0.le Hs) (hH : Hs.le H) (hL : Ls.Sublist L)
    (h : WpD P fn w0 H0 X k R Hs Ls ops fuel listed' F' H L) : WpD P fn w0 H0 X k R Hs Ls ops (fuel + is.length) listed F H L := by
  simp only [Bool.and_eq_true] at hc
  exact WpD.gos hT h0 hH hL is hc.1 hv ((beq_iff_eq.1 hc.2) ▸ h)
theorem WpD.gw (hT : TabOK P T) (is : List Nat) (t : Nat) {v : Value} {F' : Fk} {listed' : Array Bool} (hc : (dchks ops listed is && (dlist listed is == listed')) = true) (hv : dvals T fn.ntmps ops is F = some F') (hw : look F' t = some v) (h0 : H0.le Hs) (hH : Hs.le H) (hL : Ls.Sublist L)
    (h : WpD P fn w0 H0 X k R Hs Ls ops fuel listed' ((t, v) :: F') H L) : WpD P fn w0 H0 X k R Hs Ls ops (fuel + is.length) listed F H L := by
  simp only [Bool.and_eq_true] at hc
  exact WpD.gos hT h0 hH hL is hc.1 hv (fun a w ha hs => ((beq_iff_eq.1 hc.2) ▸ h) a w (ha.also hw) hs)
end
end Go.Proofs.YtakameggkkjcpaaGreat
namespace Go.Proofs.YtakameggkkjcpaaGreat
open Go Go.RowKit
def RunY (P : Program) (fn : Func) (w0 : World) (H0 : Hp) (X : List Nat) (F : Fk) (H : Hp) (L : List Chunk) (o : Oper) (v : Value) : Prop :=
  ∀ (a : Act) (w : World), Agrees fn.ntmps F a → SH w0 H0 X w H L → (execOp a.eval o).run P w = .ok (.value v) w
section
variable {P : Program} {T : List TRow} {fn : Func} {w0 : World} {H0 : Hp} {X : List Nat} {k : List Item} {F : Fk} {H : Hp} {L : List Chunk} {R : Ending → World → Prop} {Hs : Hp} {Ls : List Chunk} {ops : Array Oper} {fuel : Nat} {listed : Array Bool}
variable {dst : Option Nat} {ty : TypeId} {pos : String} {af : Array Edge} {g : Option (Nat × Bool)}
theorem WpG.y {i : Nat} {rest : List Nat} {o : Oper} {d : Nat} {v : Value} (ho : ops[i]? = some o) (hw : wantk ops F o.guard = some true) (hd : o.dst = some d) (hn : Nat.blt d fn.ntmps = true)
    (hr : RunY P fn w0 H0 X F H L o v) (h : WpG P fn w0 H0 X (.inRegion ops rest :: k) ((d, v) :: F) H L R) : WpG P fn w0 H0 X (.inRegion ops (i :: rest) :: k) F H L R := WpG.op ho hw hd hn hr h
theorem WpD.y {i d : Nat} {o : Oper} {v : Value} {listed' : Array Bool} (hchk : (dchk ops listed i && (listed.setIfInBounds i true == listed')) = true) (ho : ops[i]? = some o) (hw : wantk ops F o.guard = some true) (hd : o.dst = some d) (hn : Nat.blt d fn.ntmps = true)
    (h0 : H0.le Hs) (hH : Hs.le H) (hL : Ls.Sublist L) (hr : RunY P fn w0 H0 X F Hs Ls o v)
    (h : WpD P fn w0 H0 X k R Hs Ls ops fuel listed' ((d, v) :: F) H L) : WpD P fn w0 H0 X k R Hs Ls ops (fuel + 1) listed F H L := by
  simp only [Bool.and_eq_true] at hchk
  exact WpD.take hchk.1 ho hw hd hn h0 hH hL hr ((beq_iff_eq.1 hchk.2) ▸ h)
theorem WpD.f {i : Nat} {Post : Fk → Hp → List Chunk → Prop} {listed' : Array Bool} (hchk : ((Region.ready .any ops listed == [i]) && (listed.setIfInBounds i true == listed')) = true) (h0 : H0.le Hs) (hs : OpG P fn w0 H0 X ops i F H L Post)
    (h : ∀ F' H' L', Post F' H' L' → Hs.le H' ∧ Ls.Sublist L' ∧ WpD P fn w0 H0 X k R Hs Ls ops fuel listed' F' H' L') : WpD P fn w0 H0 X k R Hs Ls ops (fuel + 1) listed F H L := by
  simp only [Bool.and_eq_true] at hchk
  exact WpD.force hchk.1 hs h0 ((beq_iff_eq.1 hchk.2) ▸ h)
theorem RunY.loadH (hT : TabOK P T) {t : Nat} {x : Operand} {b off : Nat} {cs : List Value} {v : Value} {r : TRow} {H1 : Hp} (hc : HCells H1 b off cs) (hH : H1.le H) (hx : evk F x = some (.pointer (some ⟨b, off, none⟩)))
    (hr : trow T t = some r) (hl : cs.length = r.size) (hv : mkv r.kind.agg cs = some v) : RunY P fn w0 H0 X F H L ⟨dst, .load t x, ty, pos, af, g⟩ v := fun a w ha hs => by
  have := run_loadVar (P := P) (hT.row hr) (w := w) hl (fun j u hu => hs.sub.cell ((hc.mono hH) j u hu)) hv
  simp [execOp, ha.eval hx, Instr.loadAt, Instr.sureAddr, this]
theorem RunY.loadBox (hT : TabOK P T) {t : Nat} {x : Operand} {b off ci : Nat} {cs : List Value} {U : Nat} {v : Value} {r : TRow} (hx : evk F x = some (.pointer (some ⟨b, off, none⟩)))
    (hr : trow T t = some r) (hL : L[ci]? = some (Chunk.box b cs U)) (hv : partOf r cs off = some v) : RunY P fn w0 H0 X F H L ⟨dst, .load t x, ty, pos, af, g⟩ v := fun a w ha hs => by
  have hb : w.heap[b]? = some (.cells cs.toArray U (0, 0)) := hs.chunk hL
  unfold partOf at hv
  cases hbl : Nat.ble (off + r.size) cs.length with
  | false => rw [hbl] at hv; cases hv
  | true =>
    rw [hbl] at hv
    have hle := Nat.le_of_ble_eq_true hbl
    have := run_loadVar (P := P) (hT.row hr) (w := w) (b := b) (o := off) (cs := (cs.drop off).take r.size) (by simp; omega) (fun j u hu => by
      rw [List.getElem?_take] at hu
      split at hu
      · simp [World.cell?, hb]; simpa using hu
      · cases hu) hv
    simp [execOp, ha.eval hx, Instr.loadAt, Instr.sureAddr, this]
theorem RunY.loadOwn (hT : TabOK P T) {t : Nat} {x : Operand} {b off ci E sz c n : Nat} {xs cs : List Value} {v : Value} {r : TRow} (hx : evk F x = some (.pointer (some ⟨b, off, none⟩)))
    (hr : trow T t = some r) (hL : L[ci]? = some (Chunk.own E sz (some ⟨b, 0, none⟩) c n xs)) (hl : cs.length = r.size) (hv : mkv r.kind.agg cs = some v) (hc : ∀ (j : Nat) u, cs[j]? = some u → xs[off + j]? = some u) :
    RunY P fn w0 H0 X F H L ⟨dst, .load t x, ty, pos, af, g⟩ v := fun a w ha hs => by
  have hb := hs.chunk hL
  have := run_loadVar (P := P) (hT.row hr) (w := w) hl (fun j u hu => ownsRow_cells hb _ u (hc j u hu)) hv
  simp [execOp, ha.eval hx, Instr.loadAt, Instr.sureAddr, this]
theorem RunY.indexAddr (hT : TabOK P T) {t : Nat} {x y : Operand} {b off n c e : Nat} {kd : IntKind} {j : Int} {r q : TRow} (hx : evk F x = some (.slice (some ⟨b, off, none⟩) n c)) (hy : evk F y = some (.int kd j))
    (hr : trow T t = some r) (hk : r.kind = .slice e) (hq : trow T e = some q) (h0 : 0 ≤ j) (h1 : j < n) : RunY P fn w0 H0 X F H L ⟨dst, .indexAddr t x y, ty, pos, af, g⟩ (.pointer (some ⟨b, off + j.toNat * q.size, none⟩)) := fun a w ha hs => by
  have hd := (hT.row hr).slice hk
  have hadd : (⟨b, off, none⟩ : Addr).add (j.toNat * q.size) = ⟨b, off + j.toNat * q.size, none⟩ := by
    unfold Addr.add
    split <;> simp_all
  simp only [execOp, ha.eval hx, ha.eval hy, Instr.indexAt, asIntOf, Sem.run_bind, Sem.run_pure, run_underlying hd, Result.andThen_ok, (hT.row hq).run_size, h0, h1, and_self, if_true, hadd]
  done
theorem RunY.indexArr (hT : TabOK P T) {t : Nat} {x y : Operand} {b off n e : Nat} {kd : IntKind} {j : Int} {r q : TRow} (hx : evk F x = some (.pointer (some ⟨b, off, none⟩))) (hy : evk F y = some (.int kd j))
    (hr : trow T t = some r) (hk : r.kind = .array n e) (hq : trow T e = some q) (h0 : 0 ≤ j) (h1 : j < n) : RunY P fn w0 H0 X F H L ⟨dst, .indexAddr t x y, ty, pos, af, g⟩ (.pointer (some ⟨b, off + j.toNat * q.size, none⟩)) := fun a w ha hs => by
  obtain ⟨d', hd, hdk⟩ := (hT.row hr).under
  rw [hk] at hdk
  cases d' <;> simp only [TK.of, reduceCtorEq] at hdk
  simp only [TK.array.injEq] at hdk
  obtain ⟨rfl, rfl⟩ := hdk
  have hadd : (⟨b, off, none⟩ : Addr).add (j.toNat * q.size) = ⟨b, off + j.toNat * q.size, none⟩ := by
    unfold Addr.add
    split <;> simp_all
  simp [execOp, ha.eval hx, ha.eval hy, Instr.indexAt, asIntOf, run_underlying hd, Instr.sureAddr, (hT.row hq).run_size, h0, h1, hadd]
theorem RunY.shl {x y : Operand} {tx ty' : TypeId} {kk yk : IntKind} {u n : Int} (hx : evk F x = some (.int kk u)) (hy : evk F y = some (.int yk n)) (h0 : 0 ≤ n) :
    RunY P fn w0 H0 X F H L ⟨dst, .binOp .shl tx x y ty', ty, pos, af, g⟩ (.int kk (kk.wrap (u * 2 ^ (min n.toNat kk.bits)))) := fun a w ha _ => by
  simp [execOp, ha.eval hx, ha.eval hy, eqGuard, binOp, Op.shift, show ¬ n < 0 by omega]
theorem RunY.shr {x y : Operand} {tx ty' : TypeId} {kk yk : IntKind} {u n : Int} (hx : evk F x = some (.int kk u)) (hy : evk F y = some (.int yk n)) (h0 : 0 ≤ n) :
    RunY P fn w0 H0 X F H L ⟨dst, .binOp .shr tx x y ty', ty, pos, af, g⟩ (.int kk (u.fdiv (2 ^ (min n.toNat kk.bits)))) := fun a w ha _ => by
  simp [execOp, ha.eval hx, ha.eval hy, eqGuard, binOp, Op.shift, show ¬ n < 0 by omega]
theorem WpG.indexR {α : Type} [Inhabited α] [Rdc α] (hT : TabOK P T) {i : Nat} {rest : List Nat} {d t : Nat} {x y : Operand} {A : Option Addr} {c e : Nat} {kd : IntKind} {j : Int} {r q : TRow} {xs : List α} {H1 : Hp}
    (ho : ops[i]? = some ⟨some d, .indexAddr t x y, ty, pos, af, g⟩) (hw : wantk ops F g = some true) (hn : Nat.blt d fn.ntmps = true) (hx : evk F x = some (.slice A xs.length c)) (hy : evk F y = some (.int kd j))
    (hr : trow T t = some r) (hk : r.kind = .slice e) (hq : trow T e = some q) (hsz : Rdc.sz α = q.size) (hR : RdS H1 A xs) (h0 : 0 ≤ j) (h1 : j < xs.length)
    (h : ∀ u, u = nth xs j → ∀ b o cs, Rdc.rd H1 cs u → HCells H1 b o cs → WpG P fn w0 H0 X (.inRegion ops rest :: k) ((d, .pointer (some ⟨b, o, none⟩)) :: F) H L R) : WpG P fn w0 H0 X (.inRegion ops (i :: rest) :: k) F H L R := by
  obtain ⟨b, o, rfl, cs, k1, k2⟩ := hR.at_ h0 h1
  refine WpG.y ho hw rfl hn (RunY.indexAddr hT hx hy hr hk hq h0 h1) ?_
  rw [← hsz]
  exact h _ rfl b _ cs k1 k2
theorem WpD.indexR {α : Type} [Inhabited α] [Rdc α] (hT : TabOK P T) {i : Nat} {d t : Nat} {x y : Operand} {A : Option Addr} {c e : Nat} {kd : IntKind} {j : Int} {r q : TRow} {xs : List α} {H1 : Hp} {listed' : Array Bool}
    (hchk : (dchk ops listed i && (listed.setIfInBounds i true == listed')) = true)
    (ho : ops[i]? = some ⟨some d, .indexAddr t x y, ty, pos, af, g⟩) (hw : wantk ops F g = some true) (hn : Nat.blt d fn.ntmps = true) (hx : evk F x = some (.slice A xs.length c)) (hy : evk F y = some (.int kd j))
    (hr : trow T t = some r) (hk : r.kind = .slice e) (hq : trow T e = some q) (hsz : Rdc.sz α = q.size) (h00 : H0.le Hs) (hH : Hs.le H) (hL : Ls.Sublist L) (hR : RdS H1 A xs) (h0 : 0 ≤ j) (h1 : j < xs.length)
    (h : ∀ u, u = nth xs j → ∀ b o cs, Rdc.rd H1 cs u → HCells H1 b o cs → WpD P fn w0 H0 X k R Hs Ls ops fuel listed' ((d, .pointer (some ⟨b, o, none⟩)) :: F) H L) : WpD P fn w0 H0 X k R Hs Ls ops (fuel + 1) listed F H L := by
  obtain ⟨b, o, rfl, cs, k1, k2⟩ := hR.at_ h0 h1
  refine WpD.y hchk ho hw rfl hn h00 hH hL (RunY.indexAddr hT hx hy hr hk hq h0 h1) ?_
  rw [← hsz]
  exact h _ rfl b _ cs k1 k2
theorem WpG.ownForm {ci E sz : Nat} {A : Option Addr} {c n : Nat} {xs : List Value} (hL : L[ci]? = some (Chunk.own E sz A c n xs)) (hn : 0 < n) (h : ∀ b, A = some ⟨b, 0, none⟩ → WpG P fn w0 H0 X k F H L R) : WpG P fn w0 H0 X k F H L R := fun a w ha hs => by
  have hown : w.ownsRow 0 E sz (.slice A n c) n xs := hs.chunk hL
  rcases hown.2 with ⟨e0, hn0⟩ | ⟨g', cap, cur, e0, _⟩
  · omega
  · simp only [Value.slice.injEq, true_and] at e0
    exact h g' e0.1 a w ha hs
theorem OpG.callS {i : Nat} {d : Nat} {gi : FuncId} {f : Operand} {xs : Array Operand} {ts : Array TypeId} {first cap : Array Value} {vs args : List Value} {v : Value}
    (ho : ops[i]? = some ⟨some d, .call ⟨.value f, xs, ts⟩, ty, pos, af, g⟩) (hw : wantk ops F g = some true) (hn : Nat.blt d fn.ntmps = true) (hf : evk F f = some (.func (.func gi) first cap)) (hx : evs F xs.toList = some vs)
    (hargs : first.toList ++ (vs ++ cap.toList) = args) {H1 : Hp} (hH : H1.le H) (hc : CallG P gi args H1 [] fun u _ L' => u = v ∧ L' = []) :
    OpG P fn w0 H0 X ops i F H L fun F' H' L' => F' = (d, v) :: F ∧ H' = H ∧ L' = L := ⟨_, ho, hw, fun a w ha hs => by
  have hp : Pre w H1 [] := ⟨fun b o hb => hs.sub b o (hH b o hb), by simp, by simp [blks], by simp [blks]⟩
  refine .call (hargs ▸ run_callValue hc.1 (ha.eval hf) (ha.evs hx) w) (fun u w' => u = v ∧ Chg [] w w') ((hc.2 w hp).mono ?_) ?_
  · rintro e w' ⟨u, H', L', rfl, h1, rfl, rfl⟩
    exact ⟨_, rfl, rfl, h1.chg⟩
  · rintro _ w' ⟨rfl, h1⟩
    refine ⟨_, _, _, ⟨rfl, rfl, rfl⟩, ha.put (by simpa [Nat.blt_eq] using hn) _, ?_⟩
    refine SH.frame (Lc := []) (Lc' := []) (H := H) hs ⟨h1, fun b o hb => ?_, Hp.le.refl _, fun b h => .inl h, by simp, by simp [blks], by simp [blks]⟩
    have := hs.sub b o hb
    rw [h1.block b (lt_of_get this) (by simp)]
    exact this⟩
theorem WpG.callS {i : Nat} {rest : List Nat} {d : Nat} {gi : FuncId} {f : Operand} {xs : Array Operand} {ts : Array TypeId} {first cap : Array Value} {vs args : List Value} {v : Value}
    (ho : ops[i]? = some ⟨some d, .call ⟨.value f, xs, ts⟩, ty, pos, af, g⟩) (hw : wantk ops F g = some true) (hn : Nat.blt d fn.ntmps = true) (hf : evk F f = some (.func (.func gi) first cap)) (hx : evs F xs.toList = some vs)
    (hargs : first.toList ++ (vs ++ cap.toList) = args) {H1 : Hp} (hH : H1.le H) (hc : CallG P gi args H1 [] fun u _ L' => u = v ∧ L' = [])
    (h : WpG P fn w0 H0 X (.inRegion ops rest :: k) ((d, v) :: F) H L R) : WpG P fn w0 H0 X (.inRegion ops (i :: rest) :: k) F H L R :=
  WpG.step (OpG.callS ho hw hn hf hx hargs hH hc) (by rintro _ _ _ ⟨rfl, rfl, rfl⟩; exact h)
theorem WpD.callS {i : Nat} {d : Nat} {gi : FuncId} {f : Operand} {xs : Array Operand} {ts : Array TypeId} {first cap : Array Value} {vs args : List Value} {v : Value} {listed' : Array Bool}
    (hchk : ((Region.ready .any ops listed == [i]) && (listed.setIfInBounds i true == listed')) = true)
    (ho : ops[i]? = some ⟨some d, .call ⟨.value f, xs, ts⟩, ty, pos, af, g⟩) (hw : wantk ops F g = some true) (hn : Nat.blt d fn.ntmps = true) (hf : evk F f = some (.func (.func gi) first cap)) (hx : evs F xs.toList = some vs)
    (hargs : first.toList ++ (vs ++ cap.toList) = args) {H1 : Hp} (hH1 : H1.le H) (hc : CallG P gi args H1 [] fun u _ L' => u = v ∧ L' = []) (h0 : H0.le Hs) (hH : Hs.le H) (hL : Ls.Sublist L)
    (h : WpD P fn w0 H0 X k R Hs Ls ops fuel listed' ((d, v) :: F) H L) : WpD P fn w0 H0 X k R Hs Ls ops (fuel + 1) listed F H L :=
  WpD.f hchk h0 (OpG.callS ho hw hn hf hx hargs hH1 hc) (by rintro _ _ _ ⟨rfl, rfl, rfl⟩; exact ⟨hH, hL, h⟩)
theorem WpG.caseBn {t : Nat} {b : Bool} (hc : look F t = some (.bool (!b))) (ht : b = false → WpG P fn w0 H0 X k ((t, .bool true) :: F) H L R) (hf : b = true → WpG P fn w0 H0 X k ((t, .bool false) :: F) H L R) : WpG P fn w0 H0 X k F H L R := by
  cases b
  · exact WpG.setV hc rfl (ht rfl)
  · exact WpG.setV hc rfl (hf rfl)
theorem WpD.caseBn {t : Nat} {b : Bool} (hc : look F t = some (.bool (!b))) (ht : b = false → WpD P fn w0 H0 X k R Hs Ls ops fuel listed ((t, .bool true) :: F) H L) (hf : b = true → WpD P fn w0 H0 X k R Hs Ls ops fuel listed ((t, .bool false) :: F) H L) :
    WpD P fn w0 H0 X k R Hs Ls ops fuel listed F H L := by
  cases b
  · exact WpD.setV hc rfl (ht rfl)
  · exact WpD.setV hc rfl (hf rfl)
theorem WpG.lessH {H1 : Hp} (h0 : H0.le H1) (hH : H1.le H) (h : WpG P fn w0 H0 X k F H1 L R) : WpG P fn w0 H0 X k F H L R := fun a w ha hs => h a w ha (hs.less h0 hH (List.Sublist.refl L))
theorem WpD.lessH {H1 : Hp} (h0 : H0.le H1) (hH : H1.le H) (h : WpD P fn w0 H0 X k R Hs Ls ops fuel listed F H1 L) : WpD P fn w0 H0 X k R Hs Ls ops fuel listed F H L := fun a w ha hs => h a w ha (hs.less h0 hH (List.Sublist.refl L))
theorem WpD.freezeOwn {ci E sz : Nat} {A : Option Addr} {c n : Nat} {xs : List Value} (hL : L[ci]? = some (Chunk.own E sz A c n xs))
    (h : ∀ H', H.le H' → ((A = none ∧ n = 0) ∨ ∃ b, A = some ⟨b, 0, none⟩ ∧ HCells H' b 0 xs) → WpD P fn w0 H0 X k R Hs Ls ops fuel listed F H' (L.eraseIdx ci)) : WpD P fn w0 H0 X k R Hs Ls ops fuel listed F H L := fun a w ha hs => by
  have hs' := hs.perm (perm_at hL).symm
  have hown : w.ownsRow 0 E sz (.slice A n c) n xs := hs.chunk hL
  rcases hown.2 with ⟨e0, hn0⟩ | ⟨g', cap, cur, e0, _, hg, hnc, hcm, hcs, htake⟩
  · simp only [Value.slice.injEq] at e0
    exact h H (Hp.le.refl H) (.inl ⟨e0.1, hn0⟩) a w ha (hs.drop (List.eraseIdx_sublist ..))
  · simp only [Value.slice.injEq, true_and] at e0
    obtain ⟨rfl, rfl⟩ := e0
    refine h (fun x => if x = g' then some (.cells cur E (0, 0)) else H x) (Hp.le_freeze hs' (b := g') rfl _) (.inr ⟨g', rfl, fun j u hu => ?_⟩) a w ha (hs'.freeze (b := g') rfl hg)
    simp only [hcell, if_true, Nat.zero_add]
    rw [← htake, List.getElem?_take] at hu
    split at hu
    · simpa using hu
    · cases hu
theorem own_cap {w : World} {E sz : Nat} {A : Option Addr} {c n : Nat} {xs : List Value} (h : (Chunk.own E sz A c n xs).holds w) : n ≤ c := by
  have hown : w.ownsRow 0 E sz (.slice A n c) n xs := h
  rcases hown.2 with ⟨e0, hn0⟩ | ⟨g', cap, cur, e0, _, hg, hnc, _⟩
  · omega
  · simp only [Value.slice.injEq, true_and] at e0
    omega
theorem WpG.ownCap {ci E sz : Nat} {A : Option Addr} {c n : Nat} {xs : List Value} (hL : L[ci]? = some (Chunk.own E sz A c n xs)) (h : n ≤ c → WpG P fn w0 H0 X k F H L R) : WpG P fn w0 H0 X k F H L R := fun a w ha hs => h (own_cap (hs.chunk hL)) a w ha hs
theorem WpD.ownCap {ci E sz : Nat} {A : Option Addr} {c n : Nat} {xs : List Value} (hL : L[ci]? = some (Chunk.own E sz A c n xs)) (h : n ≤ c → WpD P fn w0 H0 X k R Hs Ls ops fuel listed F H L) : WpD P fn w0 H0 X k R Hs Ls ops fuel listed F H L := fun a w ha hs => h (own_cap (hs.chunk hL)) a w ha hs
theorem WpD.setL {L' : List Chunk} (e : L = L') (h : WpD P fn w0 H0 X k R Hs Ls ops fuel listed F H L') : WpD P fn w0 H0 X k R Hs Ls ops fuel listed F H L := e ▸ h
theorem WpG.setL {L' : List Chunk} (e : L = L') (h : WpG P fn w0 H0 X k F H L' R) : WpG P fn w0 H0 X k F H L R := e ▸ h
end
theorem wr {x : Int} (h0 : -9223372036854775808 ≤ x) (h1 : x ≤ 9223372036854775807) : IntKind.i64.wrap x = x := I64.wrap ⟨h0, h1⟩
end Go.Proofs.YtakameggkkjcpaaGreat
namespace Go.Proofs.YtakameggkkjcpaaGreat
open Go
def tab : List TRow := [
  ⟨1, 1, 8, .nilFunc, .other⟩,
  ⟨2, 1, 8, .int .i64 0, .int .i64⟩,
  ⟨3, 1, 8, .int .i64 0, .int .i64⟩,
  ⟨4, 1, 1, .bool false, .bool⟩,
  ⟨5, 1, 1, .int .u8 0, .int .u8⟩,
  ⟨6, 1, 1, .int .u8 0, .int .u8⟩,
  ⟨7, 4, 24, .agg #[.int .i64 0, .int .i64 0, .bool false, .int .u8 0], .struct [(0, 2), (1, 3), (2, 4), (3, 6)]⟩,
  ⟨8, 4, 24, .agg #[.int .i64 0, .int .i64 0, .bool false, .int .u8 0], .struct [(0, 2), (1, 3), (2, 4), (3, 6)]⟩,
  ⟨9, 1, 16, .string ⟨#[]⟩, .string⟩,
  ⟨10, 1, 16, .string ⟨#[]⟩, .string⟩,
  ⟨11, 1, 16, .string ⟨#[]⟩, .string⟩,
  ⟨12, 1, 8, .int .u64 0, .int .u64⟩,
  ⟨13, 2, 24, .agg #[.string ⟨#[]⟩, .int .u64 0], .struct [(0, 9), (1, 12)]⟩,
  ⟨14, 2, 24, .agg #[.string ⟨#[]⟩, .int .u64 0], .struct [(0, 9), (1, 12)]⟩,
  ⟨15, 1, 8, .pointer none, .pointer 185⟩,
  ⟨16, 1, 8, .pointer none, .pointer 188⟩,
  ⟨17, 1, 8, .pointer none, .pointer 197⟩,
  ⟨18, 1, 8, .agg #[.pointer none], .struct [(0, 17)]⟩,
  ⟨19, 1, 8, .agg #[.pointer none], .struct [(0, 17)]⟩,
  ⟨21, 1, 4, .int .i32 0, .int .i32⟩,
  ⟨22, 1, 24, .slice none 0 0, .slice 3⟩,
  ⟨23, 1, 24, .slice none 0 0, .slice 43⟩,
  ⟨24, 3, 56, .agg #[.slice none 0 0, .int .i64 0, .slice none 0 0], .struct [(0, 22), (1, 3), (2, 23)]⟩,
  ⟨25, 3, 56, .agg #[.slice none 0 0, .int .i64 0, .slice none 0 0], .struct [(0, 22), (1, 3), (2, 23)]⟩,
  ⟨26, 4, 32, .agg #[.int .i64 0, .int .i64 0, .int .i64 0, .int .i64 0], .struct [(0, 3), (1, 3), (2, 3), (3, 3)]⟩,
  ⟨27, 4, 32, .agg #[.int .i64 0, .int .i64 0, .int .i64 0, .int .i64 0], .struct [(0, 3), (1, 3), (2, 3), (3, 3)]⟩,
  ⟨28, 1, 8, .nilFunc, .other⟩,
  ⟨29, 1, 8, .nilFunc, .other⟩,
  ⟨31, 1, 8, .nilFunc, .other⟩,
  ⟨32, 1, 8, .nilFunc, .other⟩,
  ⟨33, 1, 24, .slice none 0 0, .slice 53⟩,
  ⟨34, 1, 8, .nilFunc, .other⟩,
  ⟨35, 1, 8, .nilFunc, .other⟩,
  ⟨36, 1, 24, .slice none 0 0, .slice 27⟩,
  ⟨37, 1, 8, .nilFunc, .other⟩,
  ⟨38, 1, 8, .nilFunc, .other⟩,
  ⟨39, 1, 24, .slice none 0 0, .slice 55⟩,
  ⟨40, 3, 40, .agg #[.int .i64 0, .int .i64 0, .slice none 0 0], .struct [(0, 3), (1, 3), (2, 22)]⟩,
  ⟨41, 3, 40, .agg #[.int .i64 0, .int .i64 0, .slice none 0 0], .struct [(0, 3), (1, 3), (2, 22)]⟩,
  ⟨42, 5, 88, .agg #[.slice none 0 0, .slice none 0 0, .int .i64 0, .int .i64 0, .slice none 0 0], .struct [(0, 39), (1, 33), (2, 41)]⟩,
  ⟨43, 5, 88, .agg #[.slice none 0 0, .slice none 0 0, .int .i64 0, .int .i64 0, .slice none 0 0], .struct [(0, 39), (1, 33), (2, 41)]⟩,
  ⟨44, 1, 24, .slice none 0 0, .slice 22⟩,
  ⟨45, 2, 48, .agg #[.slice none 0 0, .slice none 0 0], .struct [(0, 44), (1, 44)]⟩,
  ⟨46, 2, 48, .agg #[.slice none 0 0, .slice none 0 0], .struct [(0, 44), (1, 44)]⟩,
  ⟨47, 1, 8, .int .i64 0, .int .i64⟩,
  ⟨49, 1, 8, .nilFunc, .other⟩,
  ⟨50, 1, 8, .nilFunc, .other⟩,
  ⟨51, 1, 8, .int .u64 0, .int .u64⟩,
  ⟨52, 6, 64, .agg #[.int .i64 0, .int .i64 0, .int .i64 0, .int .i64 0, .slice none 0 0, .int .u64 0], .struct [(0, 3), (1, 3), (2, 3), (3, 3), (4, 22), (5, 51)]⟩,
  ⟨53, 6, 64, .agg #[.int .i64 0, .int .i64 0, .int .i64 0, .int .i64 0, .slice none 0 0, .int .u64 0], .struct [(0, 3), (1, 3), (2, 3), (3, 3), (4, 22), (5, 51)]⟩,
  ⟨54, 4, 64, .agg #[.int .i64 0, .int .i64 0, .slice none 0 0, .slice none 0 0], .struct [(0, 3), (1, 3), (2, 22), (3, 22)]⟩,
  ⟨55, 4, 64, .agg #[.int .i64 0, .int .i64 0, .slice none 0 0, .slice none 0 0], .struct [(0, 3), (1, 3), (2, 22), (3, 22)]⟩,
  ⟨56, 1, 8, .nilFunc, .other⟩,
  ⟨57, 1, 8, .nilFunc, .other⟩,
  ⟨58, 1, 8, .nilFunc, .other⟩,
  ⟨59, 1, 24, .slice none 0 0, .slice 4⟩,
  ⟨60, 1, 8, .nilFunc, .other⟩,
  ⟨61, 1, 8, .nilFunc, .other⟩,
  ⟨63, 1, 8, .nilFunc, .other⟩,
  ⟨64, 1, 8, .nilFunc, .other⟩,
  ⟨65, 1, 8, .nilFunc, .other⟩,
  ⟨66, 1, 8, .nilFunc, .other⟩,
  ⟨67, 1, 8, .nilFunc, .other⟩,
  ⟨68, 1, 8, .nilFunc, .other⟩,
  ⟨69, 1, 8, .nilFunc, .other⟩,
  ⟨70, 1, 8, .nilFunc, .other⟩,
  ⟨71, 1, 8, .nilFunc, .other⟩,
  ⟨72, 1, 8, .nilFunc, .other⟩,
  ⟨73, 1, 8, .nilFunc, .other⟩,
  ⟨74, 1, 8, .nilFunc, .other⟩,
  ⟨75, 1, 8, .nilFunc, .other⟩,
  ⟨76, 1, 8, .nilFunc, .other⟩,
  ⟨77, 1, 8, .nilFunc, .other⟩,
  ⟨78, 1, 8, .nilFunc, .other⟩,
  ⟨79, 1, 24, .slice none 0 0, .slice 83⟩,
  ⟨80, 1, 8, .nilFunc, .other⟩,
  ⟨81, 2, 16, .agg #[.int .i64 0, .int .i64 0], .array 2 3⟩,
  ⟨82, 5, 40, .agg #[.int .i64 0, .int .i64 0, .int .i64 0, .int .i64 0, .int .i64 0], .struct [(0, 3), (1, 3), (2, 3), (3, 81)]⟩,
  ⟨83, 5, 40, .agg #[.int .i64 0, .int .i64 0, .int .i64 0, .int .i64 0, .int .i64 0], .struct [(0, 3), (1, 3), (2, 3), (3, 81)]⟩,
  ⟨84, 1, 8, .nilFunc, .other⟩,
  ⟨85, 1, 24, .slice none 0 0, .slice 87⟩,
  ⟨86, 1, 8, .nilFunc, .other⟩,
  ⟨87, 5, 40, .agg #[.int .i64 0, .int .i64 0, .int .i64 0, .int .i64 0, .int .i64 0], .struct [(0, 3), (1, 3), (2, 3), (3, 81)]⟩,
  ⟨88, 1, 8, .nilFunc, .other⟩,
  ⟨89, 1, 8, .nilFunc, .other⟩,
  ⟨90, 1, 8, .nilFunc, .other⟩,
  ⟨91, 1, 8, .nilFunc, .other⟩,
  ⟨92, 1, 8, .nilFunc, .other⟩,
  ⟨93, 64, 64, .agg #[.bool false, .bool false, .bool false, .bool false, .bool false, .bool false, .bool false, .bool false, .bool false, .bool false, .bool false, .bool false, .bool false, .bool false, .bool false, .bool false, .bool false, .bool false, .bool false, .bool false, .bool false, .bool false, .bool false, .bool false, .bool false, .bool false, .bool false, .bool false, .bool false, .bool false, .bool false, .bool false, .bool false, .bool false, .bool false, .bool false, .bool false, .bool false, .bool false, .bool false, .bool false, .bool false, .bool false, .bool false, .bool false, .bool false, .bool false, .bool false, .bool false, .bool false, .bool false, .bool false, .bool false, .bool false, .bool false, .bool false, .bool false, .bool false, .bool false, .bool false, .bool false, .bool false, .bool false, .bool false], .array 64 4⟩,
  ⟨94, 64, 64, .agg #[.bool false, .bool false, .bool false, .bool false, .bool false, .bool false, .bool false, .bool false, .bool false, .bool false, .bool false, .bool false, .bool false, .bool false, .bool false, .bool false, .bool false, .bool false, .bool false, .bool false, .bool false, .bool false, .bool false, .bool false, .bool false, .bool false, .bool false, .bool false, .bool false, .bool false, .bool false, .bool false, .bool false, .bool false, .bool false, .bool false, .bool false, .bool false, .bool false, .bool false, .bool false, .bool false, .bool false, .bool false, .bool false, .bool false, .bool false, .bool false, .bool false, .bool false, .bool false, .bool false, .bool false, .bool false, .bool false, .bool false, .bool false, .bool false, .bool false, .bool false, .bool false, .bool false, .bool false, .bool false], .array 64 4⟩,
  ⟨95, 1, 8, .nilFunc, .other⟩,
  ⟨96, 1, 8, .nilFunc, .other⟩,
  ⟨97, 1, 8, .nilFunc, .other⟩,
  ⟨98, 1, 8, .nilFunc, .other⟩,
  ⟨99, 1, 24, .slice none 0 0, .slice 98⟩,
  ⟨100, 1, 8, .nilFunc, .other⟩,
  ⟨101, 1, 8, .nilFunc, .other⟩,
  ⟨102, 1, 8, .nilFunc, .other⟩,
  ⟨103, 1, 8, .nilFunc, .other⟩,
  ⟨104, 1, 8, .nilFunc, .other⟩,
  ⟨105, 1, 8, .nilFunc, .other⟩,
  ⟨106, 1, 8, .nilFunc, .other⟩,
  ⟨107, 1, 8, .nilFunc, .other⟩,
  ⟨108, 1, 8, .nilFunc, .other⟩,
  ⟨110, 1, 8, .nilFunc, .other⟩,
  ⟨111, 1, 24, .slice none 0 0, .slice 81⟩,
  ⟨112, 1, 8, .nilFunc, .other⟩,
  ⟨113, 1, 24, .slice none 0 0, .slice 59⟩,
  ⟨114, 1, 8, .nilFunc, .other⟩,
  ⟨115, 1, 8, .nilFunc, .other⟩,
  ⟨116, 1, 8, .nilFunc, .other⟩,
  ⟨117, 1, 8, .nilFunc, .other⟩,
  ⟨118, 1, 8, .nilFunc, .other⟩,
  ⟨119, 1, 8, .pointer none, .pointer 137⟩,
  ⟨121, 1, 8, .nilFunc, .other⟩,
  ⟨122, 1, 8, .nilFunc, .other⟩,
  ⟨123, 1, 8, .nilFunc, .other⟩,
  ⟨124, 1, 8, .nilFunc, .other⟩,
  ⟨125, 1, 8, .nilFunc, .other⟩,
  ⟨126, 1, 8, .int .u64 0, .int .u64⟩,
  ⟨127, 1, 8, .nilFunc, .other⟩,
  ⟨128, 1, 8, .nilFunc, .other⟩,
  ⟨129, 1, 8, .nilFunc, .other⟩,
  ⟨130, 1, 8, .nilFunc, .other⟩,
  ⟨131, 64, 512, .agg #[.int .i64 0, .int .i64 0, .int .i64 0, .int .i64 0, .int .i64 0, .int .i64 0, .int .i64 0, .int .i64 0, .int .i64 0, .int .i64 0, .int .i64 0, .int .i64 0, .int .i64 0, .int .i64 0, .int .i64 0, .int .i64 0, .int .i64 0, .int .i64 0, .int .i64 0, .int .i64 0, .int .i64 0, .int .i64 0, .int .i64 0, .int .i64 0, .int .i64 0, .int .i64 0, .int .i64 0, .int .i64 0, .int .i64 0, .int .i64 0, .int .i64 0, .int .i64 0, .int .i64 0, .int .i64 0, .int .i64 0, .int .i64 0, .int .i64 0, .int .i64 0, .int .i64 0, .int .i64 0, .int .i64 0, .int .i64 0, .int .i64 0, .int .i64 0, .int .i64 0, .int .i64 0, .int .i64 0, .int .i64 0, .int .i64 0, .int .i64 0, .int .i64 0, .int .i64 0, .int .i64 0, .int .i64 0, .int .i64 0, .int .i64 0, .int .i64 0, .int .i64 0, .int .i64 0, .int .i64 0, .int .i64 0, .int .i64 0, .int .i64 0, .int .i64 0], .array 64 3⟩,
  ⟨133, 1, 8, .nilFunc, .other⟩,
  ⟨134, 1, 8, .nilFunc, .other⟩,
  ⟨135, 1, 8, .map none, .map 3 163⟩,
  ⟨136, 8, 144, .agg #[.slice none 0 0, .int .i64 0, .slice none 0 0, .int .i64 0, .slice none 0 0, .slice none 0 0, .slice none 0 0, .map none], .struct [(0, 25), (3, 3), (4, 46), (6, 22), (7, 135)]⟩,
  ⟨137, 8, 144, .agg #[.slice none 0 0, .int .i64 0, .slice none 0 0, .int .i64 0, .slice none 0 0, .slice none 0 0, .slice none 0 0, .map none], .struct [(0, 25), (3, 3), (4, 46), (6, 22), (7, 135)]⟩,
  ⟨138, 1, 8, .nilFunc, .other⟩,
  ⟨139, 1, 24, .slice none 0 0, .slice 138⟩,
  ⟨140, 1, 8, .nilFunc, .other⟩,
  ⟨141, 1, 8, .int .i64 0, .int .i64⟩,
  ⟨143, 1, 8, .nilFunc, .other⟩,
  ⟨144, 1, 8, .nilFunc, .other⟩,
  ⟨146, 1, 8, .nilFunc, .other⟩,
  ⟨147, 1, 8, .nilFunc, .other⟩,
  ⟨148, 1, 4, .int .u32 0, .int .u32⟩,
  ⟨149, 1, 8, .nilFunc, .other⟩,
  ⟨150, 1, 8, .nilFunc, .other⟩,
  ⟨152, 1, 8, .nilFunc, .other⟩,
  ⟨154, 1, 8, .nilFunc, .other⟩,
  ⟨155, 1, 8, .nilFunc, .other⟩,
  ⟨156, 1, 8, .nilFunc, .other⟩,
  ⟨157, 1, 8, .nilFunc, .other⟩,
  ⟨158, 1, 8, .nilFunc, .other⟩,
  ⟨159, 1, 8, .nilFunc, .other⟩,
  ⟨160, 1, 8, .nilFunc, .other⟩,
  ⟨161, 1, 8, .nilFunc, .other⟩,
  ⟨162, 4, 32, .agg #[.int .i64 0, .int .i64 0, .int .i64 0, .int .i64 0], .struct [(0, 3), (1, 3), (2, 81)]⟩,
  ⟨163, 4, 32, .agg #[.int .i64 0, .int .i64 0, .int .i64 0, .int .i64 0], .struct [(0, 3), (1, 3), (2, 81)]⟩,
  ⟨164, 1, 8, .nilFunc, .other⟩,
  ⟨166, 1, 8, .nilFunc, .other⟩,
  ⟨167, 1, 8, .int .u64 0, .int .u64⟩,
  ⟨168, 1, 8, .nilFunc, .other⟩,
  ⟨169, 1, 8, .nilFunc, .other⟩,
  ⟨170, 1, 8, .nilFunc, .other⟩,
  ⟨171, 1, 8, .pointer none, .pointer 3⟩,
  ⟨172, 1, 8, .nilFunc, .other⟩,
  ⟨173, 1, 8, .nilFunc, .other⟩,
  ⟨174, 1, 8, .nilFunc, .other⟩,
  ⟨175, 1, 8, .nilFunc, .other⟩,
  ⟨176, 1, 8, .map none, .map 3 3⟩,
  ⟨177, 1, 8, .pointer none, .pointer 167⟩,
  ⟨178, 1, 8, .nilFunc, .other⟩,
  ⟨180, 1, 8, .nilFunc, .other⟩,
  ⟨181, 1, 8, .nilFunc, .other⟩,
  ⟨182, 1, 8, .nilFunc, .other⟩,
  ⟨183, 1, 8, .nilFunc, .other⟩,
  ⟨184, 4, 40, .agg #[.pointer none, .pointer none, .pointer none, .string ⟨#[]⟩], .struct [(0, 17), (1, 17), (2, 17), (3, 9)]⟩,
  ⟨185, 4, 40, .agg #[.pointer none, .pointer none, .pointer none, .string ⟨#[]⟩], .struct [(0, 17), (1, 17), (2, 17), (3, 9)]⟩,
  ⟨186, 0, 0, .agg #[], .array 0 16⟩,
  ⟨187, 0, 0, .agg #[], .struct [(0, 186)]⟩,
  ⟨188, 0, 0, .agg #[], .struct [(0, 186)]⟩,
  ⟨189, 1, 8, .nilFunc, .other⟩,
  ⟨190, 1, 1, .int .u8 0, .int .u8⟩,
  ⟨191, 1, 1, .int .u8 0, .int .u8⟩,
  ⟨192, 1, 8, .nilFunc, .other⟩,
  ⟨193, 1, 8, .pointer none, .pointer 5⟩,
  ⟨194, 1, 4, .int .i32 0, .int .i32⟩,
  ⟨195, 1, 4, .int .i32 0, .int .i32⟩,
  ⟨196, 11, 48, .agg #[.int .u64 0, .int .u64 0, .int .u32 0, .int .u8 0, .int .u8 0, .int .u8 0, .int .u8 0, .nilFunc, .pointer none, .int .i32 0, .int .i32 0], .struct [(0, 12), (1, 12), (2, 148), (3, 190), (4, 5), (5, 5), (6, 191), (7, 192), (8, 193), (9, 194), (10, 195)]⟩,
  ⟨197, 11, 48, .agg #[.int .u64 0, .int .u64 0, .int .u32 0, .int .u8 0, .int .u8 0, .int .u8 0, .int .u8 0, .nilFunc, .pointer none, .int .i32 0, .int .i32 0], .struct [(0, 12), (1, 12), (2, 148), (3, 190), (4, 5), (5, 5), (6, 191), (7, 192), (8, 193), (9, 194), (10, 195)]⟩]
theorem tabOK : TabOK Tryz.prog tab := by unfold TabOK; kernel_rfl
theorem mixed : Tryz.prog.follows .mixedOrders = true := by kernel_rfl
end Go.Proofs.YtakameggkkjcpaaGreat
namespace Go.Proofs.YtakameggkkjcpaaGreat
open Go Go.RowKit Go.ChangeShapes Go.WideShapes
def hpW (W : World) : Hp := fun b => W.heap[b]?
theorem pre_all (W : World) : Pre W (hpW W) [] := ⟨fun _ _ h => h, by simp, by simp [blks], by simp [blks]⟩
variable {W : World}
section
variable {HH : Type} {enc : TypeId × Value → HH} {P : Program}
theorem trodAll_below (hl : laidOutB P = true) {W W' : World} (hb : Below W.heap.size W W') : ∀ {ts : List Nat} {vs : List Value} {ds : List (DataW HH)} {ps : List MemPlace}, (ts.all fun t => P.readableRec t && Nat.blt t P.types.size) = true → (∀ x ∈ ps, x.block < W.heap.size) →
    DataW.TrodAll enc P W 0 (fun _ => true) true ts vs ds ps → DataW.TrodAll enc P W' 0 (fun b => decide (b < W.heap.size)) true ts vs ds ps
  | [], [], [], _, _, _, h => h
  | [], [], _ :: _, _, _, _, h => h.elim
  | [], _ :: _, _, _, _, _, h => h.elim
  | _ :: _, [], _, _, _, _, h => h.elim
  | _ :: _, _ :: _, [], _, _, _, h => h.elim
  | t :: ts, v :: vs, d :: ds, ps, ht, hlt, ⟨p, q, h1, h2, e⟩ => by
    simp only [List.all_cons, Bool.and_eq_true] at ht
    refine ⟨p, q, ?_, ?_, e⟩
    · exact Below.trod hl ht.1.1 (by simpa [Nat.blt_eq] using ht.1.2) h1 hb fun x hx => hlt x (by rw [e]; exact List.mem_append_left _ hx)
    · exact trodAll_below hl hb ht.2 (fun x hx => hlt x (by rw [e]; exact List.mem_append_right _ hx)) h2
theorem post_true {f : Func} {s : ChangeSpec} {W W' : World} {args : Array Value} {ds gs : List (DataW HH)} {before : List MemPlace} (hW : DataW.Whole enc P f.params.toList s.vars false W args.toList ds gs before)
    (hv : s.vars = []) (hl : laidOutB P = true) (hpar : (f.params.toList.all fun t => P.readableRec t && Nat.blt t P.types.size) = true) {bt : Nat} (hbt : P.underlying bt = some .bool) (hres : f.resultTypes = #[bt])
    (hs : s.fn HH (ds ++ gs) = { results := [.lit (.bool true)], args := ds }) (hb : Below W.heap.size W W') : s.post enc P f false true false false W args (.bool true) W' := by
  have hlt := fun x hx => hW.lt x hx
  have hW2 := hW
  obtain ⟨p, q, hA, hV, rfl, _, _⟩ := hW
  rw [hv] at hV
  obtain ⟨rfl, rfl⟩ := trodVars_none hV
  refine ⟨ds, [], p ++ [], [], p, [], hW2, ?_, ?_, ?_, ?_, fun h => by cases h⟩
  · rw [hs, hres]
    exact trodAll_mk1 (shut_bool hbt true)
  · rw [hs]
    exact trodAll_below hl hb hpar (fun x hx => hlt x (by simpa using hx)) hA
  · rw [hs, hv]; rfl
  · exact hb.frame _
end
theorem law_calls {g : Nat} {args : List Value} {W : World} (h : CallG Tryz.prog g args (hpW W) [] fun v _ L' => v = .bool true ∧ L' = []) : Calls Tryz.prog g args.toArray W fun e W' => e = .returned (.bool true) ∧ Below W.heap.size W W' :=
  (h.2 W (pre_all W)).mono fun _ _ ⟨_, _, _, he, hs, hv, _⟩ => ⟨by rw [he, hv], hs.chg.below⟩
theorem own : ownKnob Tryz.prog.godebug = none := by kernel_rfl
theorem laidOut : laidOutB Tryz.prog = true := by kernel_rfl
end Go.Proofs.YtakameggkkjcpaaGreat
namespace Go.Proofs.YtakameggkkjcpaaGreat
open Go Go.RowKit Go.ChangeShapes Go.WideShapes
theorem wfu8 {n : Int} (h : (Lit.int .u8 n).wf = true) : 0 ≤ n ∧ n ≤ 255 := by
  have e1 : IntKind.u8.min = 0 := by decide
  have e2 : IntKind.u8.max = 255 := by decide
  simp [Lit.wf] at h
  omega
end Go.Proofs.YtakameggkkjcpaaGreat
namespace Go.Proofs.YtakameggkkjcpaaGreat
open Go Go.RowKit
theorem wrk {x : Int} (h0 : -9223372036854775808 ≤ x) (h1 : x ≤ 9223372036854775807) : some (Value.int .i64 (IntKind.i64.wrap x)) = some (Value.int .i64 x) := by rw [I64.wrap ⟨h0, h1⟩]
def AllI : List Int → Prop
  | [] => True
  | x :: l => I64 x ∧ AllI l
theorem RdL_ints {H : Hp} : ∀ (l : List Int), AllI l → RdL H (l.map fun x => Value.int .i64 x) l
  | [], _ => rfl
  | x :: l, h => ⟨[.int .i64 x], _, rfl, ⟨rfl, h.1⟩, RdL_ints l h.2⟩
def mayW (b : Int) : Bool := b == 1 || b == 8 || b == 16 || b == 32 || b == 64
def goesD (k : Int) : Int := if k = 0 then 0 else if k = 3 then 0 else if k = 1 then 1 else if k = 2 then 2 else -1
def risingD (n : Int) : List Int → Int → Bool
  | [], _ => true
  | x :: l, last => if x ≤ last then false else if x ≥ n then false else risingD n l x
def idxFrom {α : Type} (p : α → Bool) : List α → Int → Int
  | [], _ => -1
  | x :: l, i => if p x then i else idxFrom p l (i + 1)
theorem idxFrom_ge {α : Type} (p : α → Bool) (l : List α) (i : Int) (hi : 0 ≤ i) : (0 ≤ idxFrom p l i) ↔ l.any p = true := by
  induction l generalizing i with
  | nil => simp [idxFrom]
  | cons x l ih =>
    simp only [idxFrom, List.any_cons, Bool.or_eq_true]
    by_cases h : p x = true
    · simp [h, hi]
    · simp only [h, if_false, Bool.false_eq_true, false_or]
      exact ih (i + 1) (by omega)
def numOK (n : Int) : Bool := decide (0 ≤ n) && decide (n ≤ 2147483647)
def listOK (l : List Int) : Bool := decide (l.length ≤ 64) && l.all numOK
theorem listOK_long {l : List Int} (h : (l.length : Int) > 64) : listOK l = false := by unfold listOK; rw [decide_eq_false (by omega)]; rfl
theorem listOK_in {l : List Int} (h : ¬ (l.length : Int) > 64) : listOK l = l.all numOK := by unfold listOK; rw [decide_eq_true (by omega)]; rfl
def phiOK (p : PhiD) : Bool := List.all [p.bits, p.dst] numOK && List.all [p.frm, p.args] listOK
def opOK (o : OpD) : Bool := List.all [o.kind, o.bits, o.lanes, o.dst] numOK && List.all [o.args] listOK
def endOK (e : EndD) : Bool := List.all [e.kind, e.arg] numOK && List.all [e.to] listOK
def blockOK (b : BlockD) : Bool := b.phis.all phiOK && (b.ops.all opOK && endOK b.en)
theorem all_step {α : Type} [Inhabited α] {p : α → Bool} {l : List α} {i : Int} {x : α} {r : Bool} (h : r = (l.drop i.toNat).all p) (h0 : 0 ≤ i) (h1 : i < l.length) (hx : x = nth l i) (hp : p x = true) : r = (l.drop (i + 1).toNat).all p := by
  rw [h, drop_nth h0 h1, ← hx, List.all_cons, hp, Bool.true_and, show (i + 1).toNat = i.toNat + 1 from by omega]
theorem all_no {α : Type} [Inhabited α] {p : α → Bool} {l : List α} {i : Int} {x : α} {r : Bool} (h : r = (l.drop i.toNat).all p) (h0 : 0 ≤ i) (h1 : i < l.length) (hx : x = nth l i) (hp : p x = false) : r = false := by
  rw [h, drop_nth h0 h1, ← hx, List.all_cons, hp, Bool.false_and]
theorem all_end {α : Type} {p : α → Bool} {l : List α} {i : Int} {r : Bool} (h : r = (l.drop i.toNat).all p) (h0 : 0 ≤ i) (h1 : ¬ i < l.length) : r = true := by
  rw [h, List.drop_eq_nil_of_le (by omega)]; rfl
theorem any_not {α : Type} (p : α → Bool) (l : List α) : (!(l.any fun x => !p x)) = l.all p := by rw [List.not_any_eq_all_not]; simp
theorem any_neg {α : Type} (p : α → Bool) (l : List α) : (l.any fun x => !p x) = !l.all p := by rw [← any_not, Bool.not_not]
def blockSz (b : BlockD) : Int := b.phis.length + b.ops.length
def sizeF (f : FuncD) : Int := f.blocks.length + (f.blocks.map blockSz).sum
def mayF (f : FuncD) : Bool :=
  !decide ((f.blocks.length : Int) < 1) && (!decide ((f.blocks.length : Int) > 64) && (!decide ((f.params.length : Int) > 16) && (!decide (sizeF f > 512) && (List.all [f.ret] numOK && (f.params.all numOK && f.blocks.all blockOK)))))
theorem sum_drop {α : Type} [Inhabited α] (g : α → Int) {xs : List α} {i : Int} (h0 : 0 ≤ i) (h1 : i < xs.length) : ((xs.drop i.toNat).map g).sum = g (nth xs i) + ((xs.drop (i.toNat + 1)).map g).sum := by
  rw [drop_nth h0 h1]; rfl
def valueOK (v : Int) : Bool := decide (v ≥ 1) && decide (v ≤ 1023)
def storesK (k : Int) : Bool := k == 17 || k == 19
def shapeD (b n : Int) : Bool := mayW b && (n == 1 || ((n == 2 || n == 4 || n == 8 || n == 16) && (decide (b ≥ 8) && decide (b * n ≤ 128))))
def cutD (v b : Int) : Int := if mayW b then v % 2 ^ b.toNat else 0
theorem mayW_cases {b : Int} (h : mayW b = true) : b = 1 ∨ b = 8 ∨ b = 16 ∨ b = 32 ∨ b = 64 := by
  simp only [mayW, Bool.or_eq_true, beq_iff_eq] at h
  omega
theorem cut_shift {v b : Int} (hb : mayW b = true) (h0 : 0 ≤ v) : Int.fdiv (IntKind.u64.wrap (v * 2 ^ (min (64 - b).toNat 64))) (2 ^ (min (64 - b).toNat 64)) = cutD v b := by
  have hw : ∀ x : Int, IntKind.u64.wrap x = x % 18446744073709551616 := fun x => by
    simp [IntKind.wrap, IntKind.bits, IntKind.signed]
  unfold cutD
  rw [if_pos hb, hw]
  rcases mayW_cases hb with rfl | rfl | rfl | rfl | rfl <;> simp [Int.fdiv_eq_ediv] <;> omega
theorem toNat_succ {i : Int} (h0 : 0 ≤ i) : (i + 1).toNat = i.toNat + 1 := by omega
theorem drop_end {α : Type} {xs : List α} {i : Int} (h0 : 0 ≤ i) (h1 : ¬ i < xs.length) : xs.drop i.toNat = [] := List.drop_eq_nil_of_le (by omega)
end Go.Proofs.YtakameggkkjcpaaGreat
namespace Go.Proofs.YtakameggkkjcpaaGreat
open Go Go.RowKit
theorem May_calls {H : Hp} (bits : Int) : CallG Tryz.prog 135 [.int .i64 bits] H [] (fun v _ L' => v = .bool (mayW bits) ∧ L' = []) := by
 refine CallG.of Tryz.func135 rfl rfl rfl fun w0 => ?_
 refine WpG.g tabOK 16 rfl ?_
 refine WpG.caseE (t := 4) rfl (fun q4 => ?_) (fun q4 => ?_)
 ·refine WpG.g tabOK 7 rfl ?_
  exact WpG.ret tabOK (L' := []) (.tmp rfl .nil) .slnil ⟨congrArg Value.bool (by simp_all [mayW]), rfl⟩
 refine WpG.g tabOK 6 rfl ?_
 refine WpG.caseE (t := 4) rfl (fun q4_2 => ?_) (fun q4_2 => ?_)
 ·refine WpG.g tabOK 7 rfl ?_
  exact WpG.ret tabOK (L' := []) (.tmp rfl .nil) .slnil ⟨congrArg Value.bool (by simp_all [mayW]), rfl⟩
 refine WpG.g tabOK 6 rfl ?_
 refine WpG.caseE (t := 4) rfl (fun q4_3 => ?_) (fun q4_3 => ?_)
 ·refine WpG.g tabOK 7 rfl ?_
  exact WpG.ret tabOK (L' := []) (.tmp rfl .nil) .slnil ⟨congrArg Value.bool (by simp_all [mayW]), rfl⟩
 refine WpG.g tabOK 6 rfl ?_
 refine WpG.caseE (t := 4) rfl (fun q4_4 => ?_) (fun q4_4 => ?_)
 ·refine WpG.g tabOK 7 rfl ?_
  exact WpG.ret tabOK (L' := []) (.tmp rfl .nil) .slnil ⟨congrArg Value.bool (by simp_all [mayW]), rfl⟩
 refine WpG.g tabOK 5 rfl ?_
 refine WpG.caseE (t := 4) rfl (fun q4_5 => ?_) (fun q4_5 => ?_)
 ·refine WpG.g tabOK 5 rfl ?_
  exact WpG.ret tabOK (L' := []) (.tmp rfl .nil) .slnil ⟨congrArg Value.bool (by simp_all [mayW]), rfl⟩
 refine WpG.g tabOK 7 rfl ?_
 exact WpG.ret tabOK (L' := []) (.tmp rfl .nil) .slnil ⟨congrArg Value.bool (by simp_all [mayW]), rfl⟩
theorem goes_calls {H : Hp} (kind : Int) : CallG Tryz.prog 35 [.int .i64 kind] H [] (fun v _ L' => v = .int .i64 (goesD kind) ∧ L' = []) := by
 refine CallG.of Tryz.func35 rfl rfl rfl fun w0 => ?_
 refine WpG.g tabOK 16 rfl ?_
 refine WpG.caseE (t := 4) rfl (fun q4 => ?_) (fun q4 => ?_)
 ·refine WpG.g tabOK 7 rfl ?_
  exact WpG.ret tabOK (L' := []) (.tmp rfl .nil) .slnil ⟨congrArg (Value.int .i64) (by simp_all [goesD]), rfl⟩
 refine WpG.g tabOK 5 rfl ?_
 refine WpG.caseE (t := 4) rfl (fun q4_2 => ?_) (fun q4_2 => ?_)
 ·refine WpG.g tabOK 5 rfl ?_
  exact WpG.ret tabOK (L' := []) (.tmp rfl .nil) .slnil ⟨congrArg (Value.int .i64) (by simp_all [goesD]), rfl⟩
 refine WpG.g tabOK 6 rfl ?_
 refine WpG.caseE (t := 7) rfl (fun q7 => ?_) (fun q7 => ?_)
 ·refine WpG.g tabOK 5 rfl ?_
  exact WpG.ret tabOK (L' := []) (.tmp rfl .nil) .slnil ⟨congrArg (Value.int .i64) (by simp_all [goesD]), rfl⟩
 refine WpG.g tabOK 6 rfl ?_
 refine WpG.caseE (t := 9) rfl (fun q9 => ?_) (fun q9 => ?_)
 ·refine WpG.g tabOK 5 rfl ?_
  exact WpG.ret tabOK (L' := []) (.tmp rfl .nil) .slnil ⟨congrArg (Value.int .i64) (by simp_all [goesD]), rfl⟩
 refine WpG.g tabOK 7 rfl ?_
 exact WpG.ret tabOK (L' := []) (.tmp rfl .nil) .slnil ⟨congrArg (Value.int .i64) (by simp_all [goesD]), rfl⟩
theorem rising_calls {H : Hp} {A : Option Addr} {c : Nat} {l : List Int} (hl : RdS H A l) (n : Int) : CallG Tryz.prog 73 [.slice A l.length c, .int .i64 n] H [] (fun v _ L' => v = .bool (risingD n l (-1)) ∧ L' = []) := by
 have bl := hl.1
 refine CallG.of Tryz.func73 rfl rfl rfl fun w0 => ?_
 refine WpG.g tabOK 17 rfl ?_
 refine WpG.wk (WpG.ind2 (fun (i : Int) (last : Int) => ⟨(l.length - i).toNat, [(1, .int .i64 n), (5, .int .i64 last), (8, .slice A l.length c), (9, .int .i64 (l.length : Int)), (10, .int .i64 i)], H, [], 0 ≤ i ∧ i ≤ l.length ∧ risingD n l (-1) = risingD n (l.drop i.toNat) last⟩) ?_ 0 (-1) ⟨by omega, by omega, rfl⟩) rfl
 intro i last inv ih1
 obtain ⟨i0, i1, i2⟩ := inv
 refine WpG.g tabOK 5 rfl ?_
 refine WpG.caseD (t := 11) rfl (fun q11 => ?_) (fun q11 => ?_)
 ·refine WpG.g tabOK 6 rfl ?_
  refine WpG.indexR tabOK rfl rfl rfl rfl rfl rfl rfl rfl rfl hl (by omega) (by omega) ?_
  rintro x1 hx1 b1 o1 _ ⟨rfl, k1⟩ hc1
  refine WpG.y rfl rfl rfl rfl (RunY.loadH tabOK hc1 hlr rfl rfl rfl rfl) ?_
  refine WpG.g tabOK 9 rfl ?_
  refine WpG.caseD (t := 17) rfl (fun q17 => ?_) (fun q17 => ?_)
  ·refine WpG.g tabOK 10 rfl ?_
   exact WpG.ret tabOK (L' := []) (.tmp rfl .nil) .slnil ⟨congrArg Value.bool (by clear ih1; rw [i2, drop_nth i0 q11, ← hx1]; simp only [risingD]; rw [if_pos q17]), rfl⟩
  refine WpG.g tabOK 5 rfl ?_
  refine WpG.caseD (t := 21) rfl (fun q21 => ?_) (fun q21 => ?_)
  ·refine WpG.g tabOK 5 rfl ?_
   exact WpG.ret tabOK (L' := []) (.tmp rfl .nil) .slnil ⟨congrArg Value.bool (by clear ih1; rw [i2, drop_nth i0 q11, ← hx1]; simp only [risingD]; rw [if_neg q17, if_pos q21]), rfl⟩
  refine WpG.gw tabOK 9 23 rfl (wrk (x := i + 1) (by omega) (by omega)) ?_
  refine WpG.g tabOK 3 rfl ?_
  refine WpG.wk (ih1 (i + 1) x1 ?_ ?_) rfl
  ·dsimp only
   omega
  clear ih1
  refine ⟨by omega, by omega, ?_⟩
  rw [i2, drop_nth i0 q11, toNat_succ i0, ← hx1]; simp only [risingD]; rw [if_neg q17, if_neg q21]
 refine WpG.g tabOK 6 rfl ?_
 exact WpG.ret tabOK (L' := []) (.tmp rfl .nil) .slnil ⟨congrArg Value.bool (by clear ih1; rw [i2, drop_end i0 q11]; rfl), rfl⟩
theorem IndexFunc_int {H : Hp} {A : Option Addr} {c : Nat} {l : List Int} (hl : RdS H A l) {g : Nat} {first cap : Array Value} {p : Int → Bool} (hf : ∀ x, x ∈ l → CallG Tryz.prog g (first.toList ++ ([.int .i64 x] ++ cap.toList)) H [] fun u _ L' => u = .bool (p x) ∧ L' = []) : CallG Tryz.prog 67 [.slice A l.length c, .func (.func g) first cap] H [] (fun v _ L' => v = .int .i64 (idxFrom p l 0) ∧ L' = []) := by
 have bl := hl.1
 refine CallG.of Tryz.func67 rfl rfl rfl fun w0 => ?_
 refine WpG.g tabOK 13 rfl ?_
 refine WpG.wk (WpG.ind1 (fun (i : Int) => ⟨(l.length - i).toNat, [(0, .slice A l.length c), (1, .func (.func g) first cap), (7, .int .i64 (l.length : Int)), (8, .int .i64 i)], H, [], 0 ≤ i ∧ i ≤ l.length ∧ idxFrom p l 0 = idxFrom p (l.drop i.toNat) i⟩) ?_ 0 ⟨by omega, by omega, rfl⟩) rfl
 intro i inv ih1
 obtain ⟨i0, i1, i2⟩ := inv
 refine WpG.g tabOK 5 rfl ?_
 refine WpG.caseD (t := 9) rfl (fun q9 => ?_) (fun q9 => ?_)
 ·refine WpG.g tabOK 14 rfl ?_
  refine WpG.indexR tabOK rfl rfl rfl rfl rfl rfl rfl rfl rfl hl (by omega) (by omega) ?_
  rintro x1 hx1 b1 o1 _ ⟨rfl, k1⟩ hc1
  refine WpG.y rfl rfl rfl rfl (RunY.loadH tabOK hc1 hlr rfl rfl rfl rfl) ?_
  refine WpG.callS rfl rfl rfl rfl rfl rfl hlr (hf x1 (by rw [hx1]; exact nth_mem i0 q9)) ?_
  refine WpG.g tabOK 1 rfl ?_
  refine WpG.caseB (t := 16) rfl (fun q16 => ?_) (fun q16 => ?_)
  ·refine WpG.g tabOK 6 rfl ?_
   exact WpG.ret tabOK (L' := []) (.tmp rfl .nil) .slnil ⟨congrArg (Value.int .i64) (by clear ih1; rw [i2, drop_nth i0 q9, ← hx1]; simp only [idxFrom]; rw [if_pos q16]), rfl⟩
  refine WpG.gw tabOK 5 18 rfl (wrk (x := i + 1) (by omega) (by omega)) ?_
  refine WpG.g tabOK 3 rfl ?_
  refine WpG.wk (ih1 (i + 1) ?_ ?_) rfl
  ·dsimp only
   omega
  clear ih1
  refine ⟨by omega, by omega, ?_⟩
  rw [i2, drop_nth i0 q9, toNat_succ i0, ← hx1]; simp only [idxFrom]; rw [if_neg (by simp [q16])]
 refine WpG.g tabOK 6 rfl ?_
 exact WpG.ret tabOK (L' := []) (.tmp rfl .nil) .slnil ⟨congrArg (Value.int .i64) (by clear ih1; rw [i2, drop_end i0 q9]; rfl), rfl⟩
theorem ContainsFunc_int {H : Hp} {A : Option Addr} {c : Nat} {l : List Int} (hl : RdS H A l) {g : Nat} {first cap : Array Value} {p : Int → Bool} (hf : ∀ x, x ∈ l → CallG Tryz.prog g (first.toList ++ ([.int .i64 x] ++ cap.toList)) H [] fun u _ L' => u = .bool (p x) ∧ L' = []) : CallG Tryz.prog 36 [.slice A l.length c, .func (.func g) first cap] H [] (fun v _ L' => v = .bool (l.any p) ∧ L' = []) := by
 refine CallG.of Tryz.func36 rfl rfl rfl fun w0 => ?_
 refine WpG.g tabOK 8 rfl ?_
 refine WpG.callS rfl rfl rfl rfl rfl rfl hlr (IndexFunc_int hl hf) ?_
 refine WpG.g tabOK 3 rfl ?_
 exact WpG.ret tabOK (L' := []) (.tmp rfl .nil) .slnil ⟨congrArg Value.bool (by rw [Bool.eq_iff_iff, decide_eq_true_iff]; exact idxFrom_ge p l 0 (by omega)), rfl⟩
theorem IndexFunc_block {H : Hp} {A : Option Addr} {c : Nat} {l : List BlockD} (hl : RdS H A l) {g : Nat} {first cap : Array Value} {p : BlockD → Bool} (hf : ∀ x, x ∈ l → ∀ cs, Rdc.rd H cs x → CallG Tryz.prog g (first.toList ++ ([.agg cs.toArray] ++ cap.toList)) H [] fun u _ L' => u = .bool (p x) ∧ L' = []) : CallG Tryz.prog 155 [.slice A l.length c, .func (.func g) first cap] H [] (fun v _ L' => v = .int .i64 (idxFrom p l 0) ∧ L' = []) := by
 have bl := hl.1
 refine CallG.of Tryz.func155 rfl rfl rfl fun w0 => ?_
 refine WpG.g tabOK 13 rfl ?_
 refine WpG.wk (WpG.ind1 (fun (i : Int) => ⟨(l.length - i).toNat, [(0, .slice A l.length c), (1, .func (.func g) first cap), (7, .int .i64 (l.length : Int)), (8, .int .i64 i)], H, [], 0 ≤ i ∧ i ≤ l.length ∧ idxFrom p l 0 = idxFrom p (l.drop i.toNat) i⟩) ?_ 0 ⟨by omega, by omega, rfl⟩) rfl
 intro i inv ih1
 obtain ⟨i0, i1, i2⟩ := inv
 refine WpG.g tabOK 5 rfl ?_
 refine WpG.caseD (t := 9) rfl (fun q9 => ?_) (fun q9 => ?_)
 ·refine WpG.g tabOK 14 rfl ?_
  refine WpG.indexR tabOK rfl rfl rfl rfl rfl rfl rfl rfl rfl hl (by omega) (by omega) ?_
  rintro x1 hx1 b1 o1 cs1 rd1 hc1
  have rd1' := rd1; obtain ⟨A1_0, c1_0, A1_1, c1_1, A1_4, c1_4, rfl, u1_0, r1_0, u1_1, r1_1, u1_4, r1_4, k1_0, k1_1⟩ := rd1
  refine WpG.y rfl rfl rfl rfl (RunY.loadH tabOK hc1 hlr rfl rfl rfl rfl) ?_
  refine WpG.callS rfl rfl rfl rfl rfl rfl hlr (hf x1 (by rw [hx1]; exact nth_mem i0 q9) _ rd1') ?_
  refine WpG.g tabOK 1 rfl ?_
  refine WpG.caseB (t := 16) rfl (fun q16 => ?_) (fun q16 => ?_)
  ·refine WpG.g tabOK 6 rfl ?_
   exact WpG.ret tabOK (L' := []) (.tmp rfl .nil) .slnil ⟨congrArg (Value.int .i64) (by clear ih1; rw [i2, drop_nth i0 q9, ← hx1]; simp only [idxFrom]; rw [if_pos q16]), rfl⟩
  refine WpG.gw tabOK 5 18 rfl (wrk (x := i + 1) (by omega) (by omega)) ?_
  refine WpG.g tabOK 3 rfl ?_
  refine WpG.wk (ih1 (i + 1) ?_ ?_) rfl
  ·dsimp only
   omega
  clear ih1
  refine ⟨by omega, by omega, ?_⟩
  rw [i2, drop_nth i0 q9, toNat_succ i0, ← hx1]; simp only [idxFrom]; rw [if_neg (by simp [q16])]
 refine WpG.g tabOK 6 rfl ?_
 exact WpG.ret tabOK (L' := []) (.tmp rfl .nil) .slnil ⟨congrArg (Value.int .i64) (by clear ih1; rw [i2, drop_end i0 q9]; rfl), rfl⟩
theorem ContainsFunc_block {H : Hp} {A : Option Addr} {c : Nat} {l : List BlockD} (hl : RdS H A l) {g : Nat} {first cap : Array Value} {p : BlockD → Bool} (hf : ∀ x, x ∈ l → ∀ cs, Rdc.rd H cs x → CallG Tryz.prog g (first.toList ++ ([.agg cs.toArray] ++ cap.toList)) H [] fun u _ L' => u = .bool (p x) ∧ L' = []) : CallG Tryz.prog 132 [.slice A l.length c, .func (.func g) first cap] H [] (fun v _ L' => v = .bool (l.any p) ∧ L' = []) := by
 refine CallG.of Tryz.func132 rfl rfl rfl fun w0 => ?_
 refine WpG.g tabOK 8 rfl ?_
 refine WpG.callS rfl rfl rfl rfl rfl rfl hlr (IndexFunc_block hl hf) ?_
 refine WpG.g tabOK 3 rfl ?_
 exact WpG.ret tabOK (L' := []) (.tmp rfl .nil) .slnil ⟨congrArg Value.bool (by rw [Bool.eq_iff_iff, decide_eq_true_iff]; exact idxFrom_ge p l 0 (by omega)), rfl⟩
theorem IndexFunc_phi {H : Hp} {A : Option Addr} {c : Nat} {l : List PhiD} (hl : RdS H A l) {g : Nat} {first cap : Array Value} {p : PhiD → Bool} (hf : ∀ x, x ∈ l → ∀ cs, Rdc.rd H cs x → CallG Tryz.prog g (first.toList ++ ([.agg cs.toArray] ++ cap.toList)) H [] fun u _ L' => u = .bool (p x) ∧ L' = []) : CallG Tryz.prog 157 [.slice A l.length c, .func (.func g) first cap] H [] (fun v _ L' => v = .int .i64 (idxFrom p l 0) ∧ L' = []) := by
 have bl := hl.1
 refine CallG.of Tryz.func157 rfl rfl rfl fun w0 => ?_
 refine WpG.g tabOK 13 rfl ?_
 refine WpG.wk (WpG.ind1 (fun (i : Int) => ⟨(l.length - i).toNat, [(0, .slice A l.length c), (1, .func (.func g) first cap), (7, .int .i64 (l.length : Int)), (8, .int .i64 i)], H, [], 0 ≤ i ∧ i ≤ l.length ∧ idxFrom p l 0 = idxFrom p (l.drop i.toNat) i⟩) ?_ 0 ⟨by omega, by omega, rfl⟩) rfl
 intro i inv ih1
 obtain ⟨i0, i1, i2⟩ := inv
 refine WpG.g tabOK 5 rfl ?_
 refine WpG.caseD (t := 9) rfl (fun q9 => ?_) (fun q9 => ?_)
 ·refine WpG.g tabOK 14 rfl ?_
  refine WpG.indexR tabOK rfl rfl rfl rfl rfl rfl rfl rfl rfl hl (by omega) (by omega) ?_
  rintro x1 hx1 b1 o1 cs1 rd1 hc1
  have rd1' := rd1; obtain ⟨A1_2, c1_2, A1_3, c1_3, rfl, u1_2, r1_2, u1_3, r1_3, k1_0, k1_1⟩ := rd1
  refine WpG.y rfl rfl rfl rfl (RunY.loadH tabOK hc1 hlr rfl rfl rfl rfl) ?_
  refine WpG.callS rfl rfl rfl rfl rfl rfl hlr (hf x1 (by rw [hx1]; exact nth_mem i0 q9) _ rd1') ?_
  refine WpG.g tabOK 1 rfl ?_
  refine WpG.caseB (t := 16) rfl (fun q16 => ?_) (fun q16 => ?_)
  ·refine WpG.g tabOK 6 rfl ?_
   exact WpG.ret tabOK (L' := []) (.tmp rfl .nil) .slnil ⟨congrArg (Value.int .i64) (by clear ih1; rw [i2, drop_nth i0 q9, ← hx1]; simp only [idxFrom]; rw [if_pos q16]), rfl⟩
  refine WpG.gw tabOK 5 18 rfl (wrk (x := i + 1) (by omega) (by omega)) ?_
  refine WpG.g tabOK 3 rfl ?_
  refine WpG.wk (ih1 (i + 1) ?_ ?_) rfl
  ·dsimp only
   omega
  clear ih1
  refine ⟨by omega, by omega, ?_⟩
  rw [i2, drop_nth i0 q9, toNat_succ i0, ← hx1]; simp only [idxFrom]; rw [if_neg (by simp [q16])]
 refine WpG.g tabOK 6 rfl ?_
 exact WpG.ret tabOK (L' := []) (.tmp rfl .nil) .slnil ⟨congrArg (Value.int .i64) (by clear ih1; rw [i2, drop_end i0 q9]; rfl), rfl⟩
theorem ContainsFunc_phi {H : Hp} {A : Option Addr} {c : Nat} {l : List PhiD} (hl : RdS H A l) {g : Nat} {first cap : Array Value} {p : PhiD → Bool} (hf : ∀ x, x ∈ l → ∀ cs, Rdc.rd H cs x → CallG Tryz.prog g (first.toList ++ ([.agg cs.toArray] ++ cap.toList)) H [] fun u _ L' => u = .bool (p x) ∧ L' = []) : CallG Tryz.prog 137 [.slice A l.length c, .func (.func g) first cap] H [] (fun v _ L' => v = .bool (l.any p) ∧ L' = []) := by
 refine CallG.of Tryz.func137 rfl rfl rfl fun w0 => ?_
 refine WpG.g tabOK 8 rfl ?_
 refine WpG.callS rfl rfl rfl rfl rfl rfl hlr (IndexFunc_phi hl hf) ?_
 refine WpG.g tabOK 3 rfl ?_
 exact WpG.ret tabOK (L' := []) (.tmp rfl .nil) .slnil ⟨congrArg Value.bool (by rw [Bool.eq_iff_iff, decide_eq_true_iff]; exact idxFrom_ge p l 0 (by omega)), rfl⟩
theorem IndexFunc_op {H : Hp} {A : Option Addr} {c : Nat} {l : List OpD} (hl : RdS H A l) {g : Nat} {first cap : Array Value} {p : OpD → Bool} (hf : ∀ x, x ∈ l → ∀ cs, Rdc.rd H cs x → CallG Tryz.prog g (first.toList ++ ([.agg cs.toArray] ++ cap.toList)) H [] fun u _ L' => u = .bool (p x) ∧ L' = []) : CallG Tryz.prog 66 [.slice A l.length c, .func (.func g) first cap] H [] (fun v _ L' => v = .int .i64 (idxFrom p l 0) ∧ L' = []) := by
 have bl := hl.1
 refine CallG.of Tryz.func66 rfl rfl rfl fun w0 => ?_
 refine WpG.g tabOK 13 rfl ?_
 refine WpG.wk (WpG.ind1 (fun (i : Int) => ⟨(l.length - i).toNat, [(0, .slice A l.length c), (1, .func (.func g) first cap), (7, .int .i64 (l.length : Int)), (8, .int .i64 i)], H, [], 0 ≤ i ∧ i ≤ l.length ∧ idxFrom p l 0 = idxFrom p (l.drop i.toNat) i⟩) ?_ 0 ⟨by omega, by omega, rfl⟩) rfl
 intro i inv ih1
 obtain ⟨i0, i1, i2⟩ := inv
 refine WpG.g tabOK 5 rfl ?_
 refine WpG.caseD (t := 9) rfl (fun q9 => ?_) (fun q9 => ?_)
 ·refine WpG.g tabOK 14 rfl ?_
  refine WpG.indexR tabOK rfl rfl rfl rfl rfl rfl rfl rfl rfl hl (by omega) (by omega) ?_
  rintro x1 hx1 b1 o1 cs1 rd1 hc1
  have rd1' := rd1; obtain ⟨A1_4, c1_4, rfl, u1_4, r1_4, k1_0, k1_1, k1_2, k1_3, k1_4⟩ := rd1
  refine WpG.y rfl rfl rfl rfl (RunY.loadH tabOK hc1 hlr rfl rfl rfl rfl) ?_
  refine WpG.callS rfl rfl rfl rfl rfl rfl hlr (hf x1 (by rw [hx1]; exact nth_mem i0 q9) _ rd1') ?_
  refine WpG.g tabOK 1 rfl ?_
  refine WpG.caseB (t := 16) rfl (fun q16 => ?_) (fun q16 => ?_)
  ·refine WpG.g tabOK 6 rfl ?_
   exact WpG.ret tabOK (L' := []) (.tmp rfl .nil) .slnil ⟨congrArg (Value.int .i64) (by clear ih1; rw [i2, drop_nth i0 q9, ← hx1]; simp only [idxFrom]; rw [if_pos q16]), rfl⟩
  refine WpG.gw tabOK 5 18 rfl (wrk (x := i + 1) (by omega) (by omega)) ?_
  refine WpG.g tabOK 3 rfl ?_
  refine WpG.wk (ih1 (i + 1) ?_ ?_) rfl
  ·dsimp only
   omega
  clear ih1
  refine ⟨by omega, by omega, ?_⟩
  rw [i2, drop_nth i0 q9, toNat_succ i0, ← hx1]; simp only [idxFrom]; rw [if_neg (by simp [q16])]
 refine WpG.g tabOK 6 rfl ?_
 exact WpG.ret tabOK (L' := []) (.tmp rfl .nil) .slnil ⟨congrArg (Value.int .i64) (by clear ih1; rw [i2, drop_end i0 q9]; rfl), rfl⟩
theorem ContainsFunc_op {H : Hp} {A : Option Addr} {c : Nat} {l : List OpD} (hl : RdS H A l) {g : Nat} {first cap : Array Value} {p : OpD → Bool} (hf : ∀ x, x ∈ l → ∀ cs, Rdc.rd H cs x → CallG Tryz.prog g (first.toList ++ ([.agg cs.toArray] ++ cap.toList)) H [] fun u _ L' => u = .bool (p x) ∧ L' = []) : CallG Tryz.prog 32 [.slice A l.length c, .func (.func g) first cap] H [] (fun v _ L' => v = .bool (l.any p) ∧ L' = []) := by
 refine CallG.of Tryz.func32 rfl rfl rfl fun w0 => ?_
 refine WpG.g tabOK 8 rfl ?_
 refine WpG.callS rfl rfl rfl rfl rfl rfl hlr (IndexFunc_op hl hf) ?_
 refine WpG.g tabOK 3 rfl ?_
 exact WpG.ret tabOK (L' := []) (.tmp rfl .nil) .slnil ⟨congrArg Value.bool (by rw [Bool.eq_iff_iff, decide_eq_true_iff]; exact idxFrom_ge p l 0 (by omega)), rfl⟩
theorem in1_calls {H : Hp} (n : Int) : CallG Tryz.prog 154 [.int .i64 n] H [] (fun v _ L' => v = .bool (!numOK n) ∧ L' = []) := by
 refine CallG.of Tryz.func154 rfl rfl rfl fun w0 => ?_
 refine WpG.g tabOK 9 rfl ?_
 refine WpG.caseD (t := 5) rfl (fun q5 => ?_) (fun q5 => ?_)
 ·refine WpG.g tabOK 5 rfl ?_
  exact WpG.ret tabOK (L' := []) (.tmp rfl .nil) .slnil ⟨congrArg Value.bool (by first | (simp_all [numOK]; done) | (rw [Bool.eq_iff_iff]; simp_all [numOK])), rfl⟩
 refine WpG.g tabOK 5 rfl ?_
 exact WpG.ret tabOK (L' := []) (.tmp rfl .nil) .slnil ⟨congrArg Value.bool (by first | (simp_all [numOK]; done) | (rw [Bool.eq_iff_iff]; simp_all [numOK])), rfl⟩
theorem in_calls {H : Hp} {A : Option Addr} {c : Nat} {l : List Int} (hl : RdS H A l) : CallG Tryz.prog 131 [.slice A l.length c] H [] (fun v _ L' => v = .bool (l.all numOK) ∧ L' = []) := by
 refine CallG.of Tryz.func131 rfl rfl rfl fun w0 => ?_
 refine WpG.g tabOK 7 rfl ?_
 refine WpG.callS rfl rfl rfl rfl rfl rfl hlr (ContainsFunc_int hl (p := fun n => !numOK n) (fun x _ => in1_calls x)) ?_
 refine WpG.g tabOK 3 rfl ?_
 exact WpG.ret tabOK (L' := []) (.tmp rfl .nil) .slnil ⟨congrArg Value.bool (by rw [List.not_any_eq_all_not]; simp), rfl⟩
theorem lists_calls {H : Hp} {A : Option Addr} {c : Nat} {l : List (List Int)} (hl : RdS H A l) : CallG Tryz.prog 156 [.slice A l.length c] H [] (fun v _ L' => v = .bool (l.all listOK) ∧ L' = []) := by
 have bl := hl.1
 refine CallG.of Tryz.func156 rfl rfl rfl fun w0 => ?_
 refine WpG.g tabOK 13 rfl ?_
 refine WpG.wk (WpG.ind1 (fun (i : Int) => ⟨(l.length - i).toNat, [(5, .slice A l.length c), (6, .int .i64 (l.length : Int)), (7, .int .i64 i)], H, [], 0 ≤ i ∧ i ≤ l.length ∧ l.all listOK = (l.drop i.toNat).all listOK⟩) ?_ 0 ⟨by omega, by omega, rfl⟩) rfl
 intro i inv ih1
 obtain ⟨i0, i1, i2⟩ := inv
 refine WpG.g tabOK 5 rfl ?_
 refine WpG.caseD (t := 8) rfl (fun q8 => ?_) (fun q8 => ?_)
 ·refine WpG.g tabOK 6 rfl ?_
  refine WpG.indexR tabOK rfl rfl rfl rfl rfl rfl rfl rfl rfl hl (by omega) (by omega) ?_
  rintro x1 hx1 b1 o1 _ ⟨A1, c1, rfl, u1, r1⟩ hc1
  refine WpG.y rfl rfl rfl rfl (RunY.loadH tabOK hc1 hlr rfl rfl rfl rfl) ?_
  refine WpG.g tabOK 8 rfl ?_
  refine WpG.caseD (t := 14) rfl (fun q14 => ?_) (fun q14 => ?_)
  ·refine WpG.g tabOK 10 rfl ?_
   exact WpG.ret tabOK (L' := []) (.tmp rfl .nil) .slnil ⟨congrArg Value.bool (by clear ih1; rw [i2, drop_nth i0 q8, ← hx1, List.all_cons, listOK_long q14]; rfl), rfl⟩
  refine WpG.g tabOK 1 rfl ?_
  refine WpG.callS rfl rfl rfl rfl rfl rfl hlr (in_calls r1) ?_
  refine WpG.g tabOK 3 rfl ?_
  refine WpG.caseBn (t := 18) rfl (fun q18 => ?_) (fun q18 => ?_)
  ·refine WpG.g tabOK 5 rfl ?_
   exact WpG.ret tabOK (L' := []) (.tmp rfl .nil) .slnil ⟨congrArg Value.bool (by clear ih1; rw [i2, drop_nth i0 q8, ← hx1, List.all_cons, listOK_in q14, (by simpa using q18 : x1.all numOK = false)]; rfl), rfl⟩
  refine WpG.gw tabOK 5 19 rfl (wrk (x := i + 1) (by omega) (by omega)) ?_
  refine WpG.g tabOK 3 rfl ?_
  refine WpG.wk (ih1 (i + 1) ?_ ?_) rfl
  ·dsimp only
   omega
  clear ih1
  refine ⟨by omega, by omega, ?_⟩
  rw [i2, drop_nth i0 q8, toNat_succ i0, ← hx1, List.all_cons, listOK_in q14, (by simpa using q18 : x1.all numOK = true)]; rfl
 refine WpG.g tabOK 6 rfl ?_
 exact WpG.ret tabOK (L' := []) (.tmp rfl .nil) .slnil ⟨congrArg Value.bool (by clear ih1; rw [i2, drop_end i0 q8]; rfl), rfl⟩
theorem Size_calls {H : Hp} {f : FuncD} {cs_f : List Value} (rd_f : Rdc.rd H cs_f f) (hs : f.blocks.length ≤ 64) : CallG Tryz.prog 130 [.agg cs_f.toArray] H [] (fun v _ L' => v = .int .i64 (sizeF f) ∧ L' = []) := by
 have rd_f' := rd_f; obtain ⟨A_f_0, c_f_0, A_f_2, c_f_2, rfl, u_f_0, r_f_0, u_f_2, r_f_2, k_f_0⟩ := rd_f
 refine CallG.of Tryz.func130 rfl rfl rfl fun w0 => ?_
 refine WpG.g tabOK 2 rfl ?_
 refine WpG.box rfl rfl rfl rfl rfl (fun b1 => ?_)
 refine WpG.g tabOK 5 rfl ?_
 refine WpG.y rfl rfl rfl rfl (RunY.loadBox (ci := 0) tabOK rfl rfl rfl rfl) ?_
 refine WpG.g tabOK 7 rfl ?_
 refine WpG.y rfl rfl rfl rfl (RunY.loadBox (ci := 0) tabOK rfl rfl rfl rfl) ?_
 refine WpG.g tabOK 5 rfl ?_
 refine WpG.wk (WpG.ind2 (fun (i : Int) (n : Int) => ⟨(f.blocks.length - i).toNat, [(3, .int .i64 n), (10, .slice A_f_2 f.blocks.length c_f_2), (11, .int .i64 (f.blocks.length : Int)), (12, .int .i64 i)], H, [Chunk.box b1 [.slice A_f_0 f.params.length c_f_0, .int .i64 f.ret, .slice A_f_2 f.blocks.length c_f_2] 25], 0 ≤ i ∧ i ≤ f.blocks.length ∧ 0 ≤ n ∧ n ≤ 64 + i * 562949953421312 ∧ sizeF f = n + ((f.blocks.drop i.toNat).map blockSz).sum⟩) ?_ 0 (f.blocks.length : Int) ⟨by omega, by omega, by omega, by omega, rfl⟩) rfl
 intro i n inv ih1
 obtain ⟨i0, i1, i2, i3, i4⟩ := inv
 refine WpG.g tabOK 5 rfl ?_
 refine WpG.caseD (t := 13) rfl (fun q13 => ?_) (fun q13 => ?_)
 ·refine WpG.g tabOK 6 rfl ?_
  refine WpG.indexR tabOK rfl rfl rfl rfl rfl rfl rfl rfl rfl r_f_2 (by omega) (by omega) ?_
  rintro x2 hx2 b2 o2 cs2 rd2 hc2
  have rd2' := rd2; obtain ⟨A2_0, c2_0, A2_1, c2_1, A2_4, c2_4, rfl, u2_0, r2_0, u2_1, r2_1, u2_4, r2_4, k2_0, k2_1⟩ := rd2
  have := r2_0.1; have := r2_1.1
  refine WpG.y rfl rfl rfl rfl (RunY.loadH tabOK hc2 hlr rfl rfl rfl rfl) ?_
  refine WpG.alloc tabOK rfl rfl rfl rfl rfl (fun b3 => ?_)
  refine WpG.storeBox (ci := 0) (cs' := [.slice A2_0 x2.phis.length c2_0, .slice A2_1 x2.ops.length c2_1, .int .i64 x2.en.kind, .int .i64 x2.en.arg, .slice A2_4 x2.en.to.length c2_4]) tabOK rfl rfl rfl rfl rfl rfl rfl rfl rfl ?_
  refine WpG.g tabOK 4 rfl ?_
  refine WpG.y rfl rfl rfl rfl (RunY.loadBox (ci := 0) tabOK rfl rfl rfl rfl) ?_
  refine WpG.g tabOK 2 rfl ?_
  refine WpG.y rfl rfl rfl rfl (RunY.loadBox (ci := 0) tabOK rfl rfl rfl rfl) ?_
  refine WpG.gw tabOK 2 23 rfl (wrk (x := (x2.phis.length : Int) + (x2.ops.length : Int)) (by omega) (by omega)) ?_
  refine WpG.gw tabOK 1 24 rfl (wrk (x := n + ((x2.phis.length : Int) + (x2.ops.length : Int))) (by omega) (by omega)) ?_
  refine WpG.gw tabOK 5 25 rfl (wrk (x := i + 1) (by omega) (by omega)) ?_
  refine WpG.g tabOK 3 rfl ?_
  refine WpG.dropL (L' := [Chunk.box b1 [.slice A_f_0 f.params.length c_f_0, .int .i64 f.ret, .slice A_f_2 f.blocks.length c_f_2] 25]) (.cons _ (.cons_cons _ .slnil)) ?_
  refine WpG.wk (ih1 (i + 1) (n + ((x2.phis.length : Int) + (x2.ops.length : Int))) ?_ ?_) rfl
  ·dsimp only
   omega
  clear ih1
  refine ⟨by omega, by omega, by omega, by omega, ?_⟩
  rw [i4, sum_drop _ i0 q13, toNat_succ i0, ← hx2]; simp only [blockSz]; omega
 refine WpG.g tabOK 7 rfl ?_
 exact WpG.ret tabOK (L' := []) (.tmp rfl .nil) (.cons _ .slnil) ⟨congrArg (Value.int .i64) (by clear ih1; rw [i4, drop_end i0 q13]; simp), rfl⟩
theorem mayBlock_calls {H : Hp} {b : BlockD} {cs_b : List Value} (rd_b : Rdc.rd H cs_b b) : CallG Tryz.prog 134 [.agg cs_b.toArray] H [] (fun v _ L' => v = .bool (blockOK b) ∧ L' = []) := by
 have rd_b' := rd_b; obtain ⟨A_b_0, c_b_0, A_b_1, c_b_1, A_b_4, c_b_4, rfl, u_b_0, r_b_0, u_b_1, r_b_1, u_b_4, r_b_4, k_b_0, k_b_1⟩ := rd_b
 have := r_b_0.1; have := r_b_1.1
 refine CallG.of Tryz.func134 rfl rfl rfl fun w0 => ?_
 refine WpG.g tabOK 2 rfl ?_
 refine WpG.box rfl rfl rfl rfl rfl (fun b1 => ?_)
 refine WpG.g tabOK 6 rfl ?_
 refine WpG.y rfl rfl rfl rfl (RunY.loadBox (ci := 0) tabOK rfl rfl rfl rfl) ?_
 refine WpG.g tabOK 5 rfl ?_
 refine WpG.wk (WpG.ind1 (fun (i : Int) => ⟨(b.phis.length - i).toNat, [(1, .pointer (some ⟨b1, 0, none⟩)), (8, .slice A_b_0 b.phis.length c_b_0), (9, .int .i64 (b.phis.length : Int)), (10, .int .i64 i)], H, [Chunk.box b1 [.slice A_b_0 b.phis.length c_b_0, .slice A_b_1 b.ops.length c_b_1, .int .i64 b.en.kind, .int .i64 b.en.arg, .slice A_b_4 b.en.to.length c_b_4] 43], 0 ≤ i ∧ i ≤ b.phis.length ∧ b.phis.all phiOK = (b.phis.drop i.toNat).all phiOK⟩) ?_ 0 ⟨by omega, by omega, rfl⟩) rfl
 intro i inv ih1
 obtain ⟨i0, i1, i2⟩ := inv
 refine WpG.g tabOK 5 rfl ?_
 refine WpG.caseD (t := 11) rfl (fun q11 => ?_) (fun q11 => ?_)
 ·refine WpG.g tabOK 6 rfl ?_
  refine WpG.indexR tabOK rfl rfl rfl rfl rfl rfl rfl rfl rfl r_b_0 (by omega) (by omega) ?_
  rintro x2 hx2 b2 o2 cs2 rd2 hc2
  have rd2' := rd2; obtain ⟨A2_2, c2_2, A2_3, c2_3, rfl, u2_2, r2_2, u2_3, r2_3, k2_0, k2_1⟩ := rd2
  refine WpG.y rfl rfl rfl rfl (RunY.loadH tabOK hc2 hlr rfl rfl rfl rfl) ?_
  refine WpG.alloc tabOK rfl rfl rfl rfl rfl (fun b3 => ?_)
  refine WpG.storeBox (ci := 0) (cs' := [.int .i64 x2.bits, .int .i64 x2.dst, .slice A2_2 x2.frm.length c2_2, .slice A2_3 x2.args.length c2_3]) tabOK rfl rfl rfl rfl rfl rfl rfl rfl rfl ?_
  refine WpG.g tabOK 4 rfl ?_
  refine WpG.y rfl rfl rfl rfl (RunY.loadBox (ci := 0) tabOK rfl rfl rfl rfl) ?_
  refine WpG.g tabOK 1 rfl ?_
  refine WpG.y rfl rfl rfl rfl (RunY.loadBox (ci := 0) tabOK rfl rfl rfl rfl) ?_
  refine WpG.buildSlice (xs := [.int .i64 x2.bits, .int .i64 x2.dst]) tabOK rfl rfl rfl rfl rfl rfl rfl rfl rfl rfl (fun b4 => ?_)
  refine WpG.ownCap (ci := 0) rfl (fun uz6 => ?_)
  refine WpG.freezeOwn (ci := 0) rfl (fun H6 hH6 fz6 => ?_)
  have rz6 : RdS H6 (some ⟨b4, 0, none⟩) [x2.bits, x2.dst] := RdS.of_own (H := H) (show RdL H [.int .i64 x2.bits, .int .i64 x2.dst] [x2.bits, x2.dst] from RdL_ints [x2.bits, x2.dst] ⟨k2_0, k2_1, trivial⟩) (rfl) (by simp) hH6 fz6
  refine WpG.callS rfl rfl rfl rfl rfl rfl hlr (have z := in_calls rz6; z) ?_
  refine WpG.lessH hlr hH6 ?_
  refine WpG.g tabOK 2 rfl ?_
  refine WpG.caseBn (t := 21) rfl (fun q21 => ?_) (fun q21 => ?_)
  ·refine WpG.g tabOK 14 rfl ?_
   exact WpG.ret tabOK (L' := []) (.tmp rfl .nil) (.cons _ (.cons _ .slnil)) ⟨congrArg Value.bool (by clear ih1; simp only [blockOK, all_no i2 i0 q11 hx2 (by simp only [phiOK, q21, Bool.false_and]), Bool.false_and]), rfl⟩
  refine WpG.g tabOK 1 rfl ?_
  refine WpG.y rfl rfl rfl rfl (RunY.loadBox (ci := 0) tabOK rfl rfl rfl rfl) ?_
  refine WpG.g tabOK 1 rfl ?_
  refine WpG.y rfl rfl rfl rfl (RunY.loadBox (ci := 0) tabOK rfl rfl rfl rfl) ?_
  refine WpG.buildSlice (xs := [.slice A2_2 x2.frm.length c2_2, .slice A2_3 x2.args.length c2_3]) tabOK rfl rfl rfl rfl rfl rfl rfl rfl rfl rfl (fun b7 => ?_)
  refine WpG.ownCap (ci := 0) rfl (fun uz9 => ?_)
  refine WpG.freezeOwn (ci := 0) rfl (fun H9 hH9 fz9 => ?_)
  have rz9 : RdS H9 (some ⟨b7, 0, none⟩) [x2.frm, x2.args] := RdS.of_own (H := H) (show RdL H [.slice A2_2 x2.frm.length c2_2, .slice A2_3 x2.args.length c2_3] [x2.frm, x2.args] from ⟨_, _, rfl, ⟨_, _, rfl, u2_2, r2_2⟩, ⟨_, _, rfl, ⟨_, _, rfl, u2_3, r2_3⟩, rfl⟩⟩) (rfl) (by simp) hH9 fz9
  refine WpG.callS rfl rfl rfl rfl rfl rfl hlr (have z := lists_calls rz9; z) ?_
  refine WpG.lessH hlr hH9 ?_
  refine WpG.g tabOK 3 rfl ?_
  refine WpG.caseBn (t := 29) rfl (fun q29 => ?_) (fun q29 => ?_)
  ·refine WpG.g tabOK 5 rfl ?_
   exact WpG.ret tabOK (L' := []) (.tmp rfl .nil) (.cons _ (.cons _ .slnil)) ⟨congrArg Value.bool (by clear ih1; simp only [blockOK, all_no i2 i0 q11 hx2 (by simp only [phiOK, q21, q29, Bool.and_false]), Bool.false_and]), rfl⟩
  refine WpG.gw tabOK 5 30 rfl (wrk (x := i + 1) (by omega) (by omega)) ?_
  refine WpG.g tabOK 3 rfl ?_
  refine WpG.dropL (L' := [Chunk.box b1 [.slice A_b_0 b.phis.length c_b_0, .slice A_b_1 b.ops.length c_b_1, .int .i64 b.en.kind, .int .i64 b.en.arg, .slice A_b_4 b.en.to.length c_b_4] 43]) (.cons _ (.cons_cons _ .slnil)) ?_
  refine WpG.wk (ih1 (i + 1) ?_ ?_) rfl
  ·dsimp only
   omega
  clear ih1
  exact ⟨by omega, by omega, all_step i2 i0 q11 hx2 (by simp only [phiOK, q21, q29, Bool.and_self])⟩
 refine WpG.g tabOK 6 rfl ?_
 refine WpG.y rfl rfl rfl rfl (RunY.loadBox (ci := 0) tabOK rfl rfl rfl rfl) ?_
 refine WpG.g tabOK 5 rfl ?_
 refine WpG.wk (WpG.ind1 (fun (j : Int) => ⟨(b.ops.length - j).toNat, [(1, .pointer (some ⟨b1, 0, none⟩)), (32, .slice A_b_1 b.ops.length c_b_1), (33, .int .i64 (b.ops.length : Int)), (34, .int .i64 j)], H, [Chunk.box b1 [.slice A_b_0 b.phis.length c_b_0, .slice A_b_1 b.ops.length c_b_1, .int .i64 b.en.kind, .int .i64 b.en.arg, .slice A_b_4 b.en.to.length c_b_4] 43], 0 ≤ j ∧ j ≤ b.ops.length ∧ b.ops.all opOK = (b.ops.drop j.toNat).all opOK⟩) ?_ 0 ⟨by omega, by omega, rfl⟩) rfl
 intro j inv ih2
 obtain ⟨j0, j1, j2⟩ := inv
 refine WpG.g tabOK 5 rfl ?_
 refine WpG.caseD (t := 35) rfl (fun q35 => ?_) (fun q35 => ?_)
 ·refine WpG.g tabOK 6 rfl ?_
  refine WpG.indexR tabOK rfl rfl rfl rfl rfl rfl rfl rfl rfl r_b_1 (by omega) (by omega) ?_
  rintro x10 hx10 b10 o10 cs10 rd10 hc10
  have rd10' := rd10; obtain ⟨A10_4, c10_4, rfl, u10_4, r10_4, k10_0, k10_1, k10_2, k10_3, k10_4⟩ := rd10
  refine WpG.y rfl rfl rfl rfl (RunY.loadH tabOK hc10 hlr rfl rfl rfl rfl) ?_
  refine WpG.alloc tabOK rfl rfl rfl rfl rfl (fun b11 => ?_)
  refine WpG.storeBox (ci := 0) (cs' := [.int .i64 x10.kind, .int .i64 x10.bits, .int .i64 x10.lanes, .int .i64 x10.dst, .slice A10_4 x10.args.length c10_4, .int .u64 x10.imm]) tabOK rfl rfl rfl rfl rfl rfl rfl rfl rfl ?_
  refine WpG.g tabOK 4 rfl ?_
  refine WpG.y rfl rfl rfl rfl (RunY.loadBox (ci := 0) tabOK rfl rfl rfl rfl) ?_
  refine WpG.g tabOK 1 rfl ?_
  refine WpG.y rfl rfl rfl rfl (RunY.loadBox (ci := 0) tabOK rfl rfl rfl rfl) ?_
  refine WpG.g tabOK 1 rfl ?_
  refine WpG.y rfl rfl rfl rfl (RunY.loadBox (ci := 0) tabOK rfl rfl rfl rfl) ?_
  refine WpG.g tabOK 1 rfl ?_
  refine WpG.y rfl rfl rfl rfl (RunY.loadBox (ci := 0) tabOK rfl rfl rfl rfl) ?_
  refine WpG.buildSlice (xs := [.int .i64 x10.kind, .int .i64 x10.bits, .int .i64 x10.lanes, .int .i64 x10.dst]) tabOK rfl rfl rfl rfl rfl rfl rfl rfl rfl rfl (fun b12 => ?_)
  refine WpG.ownCap (ci := 0) rfl (fun uz14 => ?_)
  refine WpG.freezeOwn (ci := 0) rfl (fun H14 hH14 fz14 => ?_)
  have rz14 : RdS H14 (some ⟨b12, 0, none⟩) [x10.kind, x10.bits, x10.lanes, x10.dst] := RdS.of_own (H := H) (show RdL H [.int .i64 x10.kind, .int .i64 x10.bits, .int .i64 x10.lanes, .int .i64 x10.dst] [x10.kind, x10.bits, x10.lanes, x10.dst] from RdL_ints [x10.kind, x10.bits, x10.lanes, x10.dst] ⟨k10_0, k10_1, k10_2, k10_3, trivial⟩) (rfl) (by simp) hH14 fz14
  refine WpG.callS rfl rfl rfl rfl rfl rfl hlr (have z := in_calls rz14; z) ?_
  refine WpG.lessH hlr hH14 ?_
  refine WpG.g tabOK 2 rfl ?_
  refine WpG.caseBn (t := 49) rfl (fun q49 => ?_) (fun q49 => ?_)
  ·refine WpG.g tabOK 12 rfl ?_
   exact WpG.ret tabOK (L' := []) (.tmp rfl .nil) (.cons _ (.cons _ .slnil)) ⟨congrArg Value.bool (by clear ih1 ih2; simp only [blockOK, all_no j2 j0 q35 hx10 (by simp only [opOK, q49, Bool.false_and]), Bool.false_and, Bool.and_false]), rfl⟩
  refine WpG.g tabOK 1 rfl ?_
  refine WpG.y rfl rfl rfl rfl (RunY.loadBox (ci := 0) tabOK rfl rfl rfl rfl) ?_
  refine WpG.buildSlice (xs := [.slice A10_4 x10.args.length c10_4]) tabOK rfl rfl rfl rfl rfl rfl rfl rfl rfl rfl (fun b15 => ?_)
  refine WpG.ownCap (ci := 0) rfl (fun uz17 => ?_)
  refine WpG.freezeOwn (ci := 0) rfl (fun H17 hH17 fz17 => ?_)
  have rz17 : RdS H17 (some ⟨b15, 0, none⟩) [x10.args] := RdS.of_own (H := H) (show RdL H [.slice A10_4 x10.args.length c10_4] [x10.args] from ⟨_, _, rfl, ⟨_, _, rfl, u10_4, r10_4⟩, rfl⟩) (rfl) (by simp) hH17 fz17
  refine WpG.callS rfl rfl rfl rfl rfl rfl hlr (have z := lists_calls rz17; z) ?_
  refine WpG.lessH hlr hH17 ?_
  refine WpG.g tabOK 3 rfl ?_
  refine WpG.caseBn (t := 55) rfl (fun q55 => ?_) (fun q55 => ?_)
  ·refine WpG.g tabOK 5 rfl ?_
   exact WpG.ret tabOK (L' := []) (.tmp rfl .nil) (.cons _ (.cons _ .slnil)) ⟨congrArg Value.bool (by clear ih1 ih2; simp only [blockOK, all_no j2 j0 q35 hx10 (by simp only [opOK, q49, q55, Bool.and_false]), Bool.false_and, Bool.and_false]), rfl⟩
  refine WpG.gw tabOK 5 56 rfl (wrk (x := j + 1) (by omega) (by omega)) ?_
  refine WpG.g tabOK 3 rfl ?_
  refine WpG.dropL (L' := [Chunk.box b1 [.slice A_b_0 b.phis.length c_b_0, .slice A_b_1 b.ops.length c_b_1, .int .i64 b.en.kind, .int .i64 b.en.arg, .slice A_b_4 b.en.to.length c_b_4] 43]) (.cons _ (.cons_cons _ .slnil)) ?_
  refine WpG.wk (ih2 (j + 1) ?_ ?_) rfl
  ·dsimp only
   omega
  clear ih1 ih2
  exact ⟨by omega, by omega, all_step j2 j0 q35 hx10 (by simp only [opOK, q49, q55, Bool.and_self])⟩
 refine WpG.g tabOK 6 rfl ?_
 refine WpG.y rfl rfl rfl rfl (RunY.loadBox (ci := 0) tabOK rfl rfl rfl rfl) ?_
 refine WpG.g tabOK 2 rfl ?_
 refine WpG.y rfl rfl rfl rfl (RunY.loadBox (ci := 0) tabOK rfl rfl rfl rfl) ?_
 refine WpG.buildSlice (xs := [.int .i64 b.en.kind, .int .i64 b.en.arg]) tabOK rfl rfl rfl rfl rfl rfl rfl rfl rfl rfl (fun b18 => ?_)
 refine WpG.ownCap (ci := 0) rfl (fun uz20 => ?_)
 refine WpG.freezeOwn (ci := 0) rfl (fun H20 hH20 fz20 => ?_)
 have rz20 : RdS H20 (some ⟨b18, 0, none⟩) [b.en.kind, b.en.arg] := RdS.of_own (H := H) (show RdL H [.int .i64 b.en.kind, .int .i64 b.en.arg] [b.en.kind, b.en.arg] from RdL_ints [b.en.kind, b.en.arg] ⟨k_b_0, k_b_1, trivial⟩) (rfl) (by simp) hH20 fz20
 refine WpG.callS rfl rfl rfl rfl rfl rfl hlr (have z := in_calls rz20; z) ?_
 refine WpG.lessH hlr hH20 ?_
 refine WpG.g tabOK 1 rfl ?_
 refine WpG.caseB (t := 65) rfl (fun q65 => ?_) (fun q65 => ?_)
 ·refine WpG.g tabOK 2 rfl ?_
  refine WpG.y rfl rfl rfl rfl (RunY.loadBox (ci := 0) tabOK rfl rfl rfl rfl) ?_
  refine WpG.buildSlice (xs := [.slice A_b_4 b.en.to.length c_b_4]) tabOK rfl rfl rfl rfl rfl rfl rfl rfl rfl rfl (fun b21 => ?_)
  refine WpG.ownCap (ci := 0) rfl (fun uz23 => ?_)
  refine WpG.freezeOwn (ci := 0) rfl (fun H23 hH23 fz23 => ?_)
  have rz23 : RdS H23 (some ⟨b21, 0, none⟩) [b.en.to] := RdS.of_own (H := H) (show RdL H [.slice A_b_4 b.en.to.length c_b_4] [b.en.to] from ⟨_, _, rfl, ⟨_, _, rfl, u_b_4, r_b_4⟩, rfl⟩) (rfl) (by simp) hH23 fz23
  refine WpG.callS rfl rfl rfl rfl rfl rfl hlr (have z := lists_calls rz23; z) ?_
  refine WpG.lessH hlr hH23 ?_
  refine WpG.g tabOK 3 rfl ?_
  exact WpG.ret tabOK (L' := []) (.tmp rfl .nil) (.cons _ .slnil) ⟨congrArg Value.bool (by clear ih1 ih2; simp only [blockOK, all_end i2 i0 q11, all_end j2 j0 q35, Bool.true_and, endOK, q65]), rfl⟩
 refine WpG.g tabOK 8 rfl ?_
 exact WpG.ret tabOK (L' := []) (.tmp rfl .nil) (.cons _ .slnil) ⟨congrArg Value.bool (by clear ih1 ih2; simp only [blockOK, all_end i2 i0 q11, all_end j2 j0 q35, Bool.true_and, endOK, q65, Bool.false_and]), rfl⟩
theorem May1_calls {H : Hp} {b : BlockD} {cs_b : List Value} (rd_b : Rdc.rd H cs_b b) : CallG Tryz.prog 133 [.agg cs_b.toArray] H [] (fun v _ L' => v = .bool (!blockOK b) ∧ L' = []) := by
 have rd_b' := rd_b; obtain ⟨A_b_0, c_b_0, A_b_1, c_b_1, A_b_4, c_b_4, rfl, u_b_0, r_b_0, u_b_1, r_b_1, u_b_4, r_b_4, k_b_0, k_b_1⟩ := rd_b
 refine CallG.of Tryz.func133 rfl rfl rfl fun w0 => ?_
 refine WpG.g tabOK 2 rfl ?_
 refine WpG.box rfl rfl rfl rfl rfl (fun b1 => ?_)
 refine WpG.g tabOK 4 rfl ?_
 refine WpG.y rfl rfl rfl rfl (RunY.loadBox (ci := 0) tabOK rfl rfl rfl rfl) ?_
 refine WpG.callS rfl rfl rfl rfl rfl rfl hlr (mayBlock_calls rd_b') ?_
 refine WpG.g tabOK 3 rfl ?_
 exact WpG.ret tabOK (L' := []) (.tmp rfl .nil) (.cons _ .slnil) ⟨congrArg Value.bool (by rfl), rfl⟩
theorem codeMay_calls {H : Hp} {f : FuncD} {cs_f : List Value} (rd_f : Rdc.rd H cs_f f) : CallG Tryz.prog 110 [.agg cs_f.toArray] H [] (fun v _ L' => v = .bool (mayF f) ∧ L' = []) := by
 have rd_f' := rd_f; obtain ⟨A_f_0, c_f_0, A_f_2, c_f_2, rfl, u_f_0, r_f_0, u_f_2, r_f_2, k_f_0⟩ := rd_f
 refine CallG.of Tryz.func110 rfl rfl rfl fun w0 => ?_
 refine WpG.g tabOK 2 rfl ?_
 refine WpG.box rfl rfl rfl rfl rfl (fun b1 => ?_)
 refine WpG.g tabOK 6 rfl ?_
 refine WpG.y rfl rfl rfl rfl (RunY.loadBox (ci := 0) tabOK rfl rfl rfl rfl) ?_
 refine WpG.g tabOK 3 rfl ?_
 refine WpG.caseD (t := 7) rfl (fun q7 => ?_) (fun q7 => ?_)
 ·refine WpG.g tabOK 35 rfl ?_
  exact WpG.ret tabOK (L' := []) (.tmp rfl .nil) (.cons _ .slnil) ⟨congrArg Value.bool (by simp only [mayF, decide_eq_true q7, Bool.not_false, Bool.not_true, Bool.true_and, Bool.false_and, Bool.and_false]), rfl⟩
 refine WpG.g tabOK 1 rfl ?_
 refine WpG.y rfl rfl rfl rfl (RunY.loadBox (ci := 0) tabOK rfl rfl rfl rfl) ?_
 refine WpG.g tabOK 4 rfl ?_
 refine WpG.caseD (t := 13) rfl (fun q13 => ?_) (fun q13 => ?_)
 ·refine WpG.g tabOK 29 rfl ?_
  exact WpG.ret tabOK (L' := []) (.tmp rfl .nil) (.cons _ .slnil) ⟨congrArg Value.bool (by simp only [mayF, decide_eq_false q7, decide_eq_true q13, Bool.not_false, Bool.not_true, Bool.true_and, Bool.false_and, Bool.and_false]), rfl⟩
 refine WpG.g tabOK 1 rfl ?_
 refine WpG.y rfl rfl rfl rfl (RunY.loadBox (ci := 0) tabOK rfl rfl rfl rfl) ?_
 refine WpG.g tabOK 4 rfl ?_
 refine WpG.caseD (t := 19) rfl (fun q19 => ?_) (fun q19 => ?_)
 ·refine WpG.g tabOK 23 rfl ?_
  exact WpG.ret tabOK (L' := []) (.tmp rfl .nil) (.cons _ .slnil) ⟨congrArg Value.bool (by simp only [mayF, decide_eq_false q7, decide_eq_false q13, decide_eq_true q19, Bool.not_false, Bool.not_true, Bool.true_and, Bool.false_and, Bool.and_false]), rfl⟩
 refine WpG.y rfl rfl rfl rfl (RunY.loadBox (ci := 0) tabOK rfl rfl rfl rfl) ?_
 refine WpG.callS rfl rfl rfl rfl rfl rfl hlr (Size_calls rd_f' (by omega)) ?_
 refine WpG.g tabOK 3 rfl ?_
 refine WpG.caseD (t := 24) rfl (fun q24 => ?_) (fun q24 => ?_)
 ·refine WpG.g tabOK 18 rfl ?_
  exact WpG.ret tabOK (L' := []) (.tmp rfl .nil) (.cons _ .slnil) ⟨congrArg Value.bool (by simp only [mayF, decide_eq_false q7, decide_eq_false q13, decide_eq_false q19, decide_eq_true q24, Bool.not_false, Bool.not_true, Bool.true_and, Bool.false_and, Bool.and_false]), rfl⟩
 refine WpG.g tabOK 1 rfl ?_
 refine WpG.y rfl rfl rfl rfl (RunY.loadBox (ci := 0) tabOK rfl rfl rfl rfl) ?_
 refine WpG.buildSlice (xs := [.int .i64 f.ret]) tabOK rfl rfl rfl rfl rfl rfl rfl rfl rfl rfl (fun b2 => ?_)
 refine WpG.ownCap (ci := 0) rfl (fun uz4 => ?_)
 refine WpG.freezeOwn (ci := 0) rfl (fun H4 hH4 fz4 => ?_)
 have rz4 : RdS H4 (some ⟨b2, 0, none⟩) [f.ret] := RdS.of_own (H := H) (show RdL H [.int .i64 f.ret] [f.ret] from RdL_ints [f.ret] ⟨k_f_0, trivial⟩) (rfl) (by simp) hH4 fz4
 refine WpG.callS rfl rfl rfl rfl rfl rfl hlr (have z := in_calls rz4; z) ?_
 refine WpG.lessH hlr hH4 ?_
 refine WpG.g tabOK 3 rfl ?_
 refine WpG.caseBn (t := 31) rfl (fun q31 => ?_) (fun q31 => ?_)
 ·refine WpG.g tabOK 11 rfl ?_
  exact WpG.ret tabOK (L' := []) (.tmp rfl .nil) (.cons _ .slnil) ⟨congrArg Value.bool (by simp only [mayF, decide_eq_false q7, decide_eq_false q13, decide_eq_false q19, decide_eq_false q24, q31, Bool.not_false, Bool.not_true, Bool.true_and, Bool.false_and, Bool.and_false]), rfl⟩
 refine WpG.g tabOK 1 rfl ?_
 refine WpG.y rfl rfl rfl rfl (RunY.loadBox (ci := 0) tabOK rfl rfl rfl rfl) ?_
 refine WpG.callS rfl rfl rfl rfl rfl rfl hlr (in_calls r_f_0) ?_
 refine WpG.g tabOK 3 rfl ?_
 refine WpG.caseBn (t := 36) rfl (fun q36 => ?_) (fun q36 => ?_)
 ·refine WpG.g tabOK 5 rfl ?_
  exact WpG.ret tabOK (L' := []) (.tmp rfl .nil) (.cons _ .slnil) ⟨congrArg Value.bool (by simp only [mayF, decide_eq_false q7, decide_eq_false q13, decide_eq_false q19, decide_eq_false q24, q31, q36, Bool.not_false, Bool.not_true, Bool.true_and, Bool.false_and, Bool.and_false]), rfl⟩
 refine WpG.g tabOK 5 rfl ?_
 refine WpG.y rfl rfl rfl rfl (RunY.loadBox (ci := 0) tabOK rfl rfl rfl rfl) ?_
 refine WpG.callS rfl rfl rfl rfl rfl rfl hlr (ContainsFunc_block r_f_2 (p := fun b => !blockOK b) (fun x _ cs rd => May1_calls rd)) ?_
 refine WpG.g tabOK 3 rfl ?_
 exact WpG.ret tabOK (L' := []) (.tmp rfl .nil) (.cons _ .slnil) ⟨congrArg Value.bool (by simp only [mayF, decide_eq_false q7, decide_eq_false q13, decide_eq_false q19, decide_eq_false q24, q31, q36, Bool.not_false, Bool.true_and]; exact any_not _ _), rfl⟩
end Go.Proofs.YtakameggkkjcpaaGreat
namespace Go.Proofs.YtakameggkkjcpaaGreat
open Go Go.RowKit
instance : Rdc (Int × Int) where
  sz := 2
  rd _ vs x := vs = [.int .i64 x.1, .int .i64 x.2] ∧ I64 x.1 ∧ I64 x.2
  len h := by rw [h.1]; rfl
  mono _ h := h
  one h := by rw [h.1]; rfl
def AllP : List (Int × Int) → Prop
  | [] => True
  | x :: l => (I64 x.1 ∧ I64 x.2) ∧ AllP l
def flatP (l : List (Int × Int)) : List Value := l.flatMap fun x => [.int .i64 x.1, .int .i64 x.2]
theorem RdL_pairs {H : Hp} : ∀ (l : List (Int × Int)), AllP l → RdL H (flatP l) l
  | [], _ => rfl
  | x :: l, h => ⟨[.int .i64 x.1, .int .i64 x.2], flatP l, rfl, ⟨rfl, h.1⟩, RdL_pairs l h.2⟩
theorem AllP_replicate {x : Int × Int} (h : I64 x.1 ∧ I64 x.2) : ∀ n, AllP (List.replicate n x)
  | 0 => trivial
  | n + 1 => ⟨h, AllP_replicate h n⟩
def takesD (o : OpD) : List (Int × Int) :=
  let own := (o.bits, o.lanes)
  if o.kind = 0 then [] else
  if o.kind = 1 ∨ o.kind = 2 ∨ o.kind = 3 ∨ o.kind = 5 ∨ o.kind = 6 ∨ o.kind = 7 ∨ o.kind = 8 ∨ o.kind = 9 then [own, own] else
  if o.kind = 4 ∨ o.kind = 10 ∨ o.kind = 11 ∨ o.kind = 12 then [own, own] else
  if o.kind = 13 then [(1, 1), own, own] else
  if o.kind = 14 ∨ o.kind = 15 then [((if 128 < o.imm then 128 else o.imm), 1)] else
  if o.kind = 16 then [(64, 1)] else
  if o.kind = 17 then [(64, 1), own] else
  if o.kind = 18 ∨ o.kind = 19 then [(1, 1), (64, 1), own] else
  if o.kind = 20 then [(1, 1), own, own, own] else
  if o.kind = 21 then List.replicate o.lanes.toNat (o.bits, 1) else
  if o.kind = 22 then [own] else []
def takesOK (o : OpD) : Bool :=
  let one := o.lanes == 1
  let memory := decide (o.bits ≥ 8)
  if o.kind = 0 then cutD o.imm o.bits == o.imm else
  if o.kind = 1 ∨ o.kind = 2 ∨ o.kind = 3 ∨ o.kind = 5 ∨ o.kind = 6 ∨ o.kind = 7 ∨ o.kind = 8 ∨ o.kind = 9 then o.imm == 0 else
  if o.kind = 4 ∨ o.kind = 10 ∨ o.kind = 11 ∨ o.kind = 12 then o.imm == 0 && one else
  if o.kind = 13 then o.imm == 0 else
  if o.kind = 14 then one && (decide (o.imm < o.bits) && mayW o.imm) else
  if o.kind = 15 then one && (decide (o.imm > o.bits) && (decide (o.imm ≤ 64) && mayW o.imm)) else
  if o.kind = 16 ∨ o.kind = 17 then o.imm == 0 && memory else
  if o.kind = 18 ∨ o.kind = 19 then o.imm == 0 && (one && memory) else
  if o.kind = 20 then o.imm == 0 && one else
  if o.kind = 21 then o.imm == 0 && !one else
  if o.kind = 22 then !one && decide (o.imm < o.lanes) else false
def mayO (o : OpD) : Bool := shapeD o.bits o.lanes && (takesOK o && ((if storesK o.kind then o.dst == 0 else valueOK o.dst) && (((takesD o).length : Int) == o.args.length && o.args.all valueOK)))
def takesF (o : OpD) : List (Int × Int) := if mayO o then takesD o else []
def givesF (o : OpD) : Int × Int :=
  if !mayO o || storesK o.kind then (0, 0) else if 10 ≤ o.kind ∧ o.kind ≤ 12 then (1, 1) else if o.kind = 22 then (o.bits, 1) else (o.bits, o.lanes)
def eqL : List Int → List Int → Bool
  | [], [] => true
  | x :: l, y :: m => x == y && eqL l m
  | _, _ => false
theorem eqL_eq : ∀ {l m : List Int}, eqL l m = true ↔ l = m
  | [], [] => by simp [eqL]
  | [], _ :: _ => by simp [eqL]
  | _ :: _, [] => by simp [eqL]
  | x :: l, y :: m => by simp [eqL, eqL_eq]
theorem eqL_len : ∀ {l m : List Int}, l.length ≠ m.length → eqL l m = false
  | [], [], h => absurd rfl h
  | [], _ :: _, _ => rfl
  | _ :: _, [], _ => rfl
  | x :: l, y :: m, h => by simp only [eqL, eqL_len (l := l) (m := m) (by simpa using h), Bool.and_false]
theorem takes_ret {o : OpD} {l : List (Int × Int)} {ok : Bool} {A : Option Addr} {n c : Nat} {H : Hp} (e1 : takesD o = l) (e2 : takesOK o = ok) (hn : n = l.length) (hr : RdS H A l) :
    ∃ A' c', Value.tuple #[.slice A n c, .bool ok] = .tuple #[.slice A' (takesD o).length c', .bool (takesOK o)] ∧ RdS H A' (takesD o) ∧ ([] : List Chunk) = [] :=
  ⟨A, c, by rw [e1, e2, hn], e1 ▸ hr, rfl⟩
theorem Takes_ret {o : OpD} {l : List (Int × Int)} {A : Option Addr} {n c : Nat} {H : Hp} (e1 : takesF o = l) (hn : n = l.length) (hr : RdS H A l) :
    ∃ A' c', Value.slice A n c = .slice A' (takesF o).length c' ∧ RdS H A' (takesF o) ∧ ([] : List Chunk) = [] := ⟨A, c, by rw [e1, hn], e1 ▸ hr, rfl⟩
theorem Gives_ret {o : OpD} {a b : Int} (e : givesF o = (a, b)) (_h : True = True) : Value.tuple #[.int .i64 a, .int .i64 b] = .tuple #[.int .i64 (givesF o).1, .int .i64 (givesF o).2] ∧ ([] : List Chunk) = [] := by rw [e]; exact ⟨rfl, rfl⟩
theorem may_shape {o : OpD} (h : mayO o = true) : shapeD o.bits o.lanes = true := by simp only [mayO, Bool.and_eq_true] at h; exact h.1
theorem bits_of {b n : Int} (h : shapeD b n = true) : 1 ≤ b ∧ b ≤ 64 := by
  simp only [shapeD, mayW, Bool.and_eq_true, Bool.or_eq_true, beq_iff_eq] at h
  omega
theorem lanes_of {b n : Int} (h : shapeD b n = true) : n = 1 ∨ n = 2 ∨ n = 4 ∨ n = 8 ∨ n = 16 := by
  simp only [shapeD, Bool.and_eq_true, Bool.or_eq_true, beq_iff_eq] at h
  omega
end Go.Proofs.YtakameggkkjcpaaGreat
namespace Go.Proofs.YtakameggkkjcpaaGreat
open Go Go.RowKit
theorem Cut_calls {H : Hp} (v bits : Int) (h0 : 0 ≤ v) : CallG Tryz.prog 166 [.int .u64 v, .int .i64 bits] H [] (fun u _ L' => u = .int .u64 (cutD v bits) ∧ L' = []) := by
 refine CallG.of Tryz.func166 rfl rfl rfl fun w0 => ?_
 refine WpG.g tabOK 8 rfl ?_
 refine WpG.callS rfl rfl rfl rfl rfl rfl hlr (May_calls bits) ?_
 refine WpG.g tabOK 2 rfl ?_
 refine WpG.caseBn (t := 7) rfl (fun q7 => ?_) (fun q7 => ?_)
 ·refine WpG.g tabOK 5 rfl ?_
  exact WpG.ret tabOK (L' := []) (.tmp rfl .nil) .slnil ⟨congrArg (Value.int .u64) (by unfold cutD; rw [if_neg (by simp [q7])]), rfl⟩
 have hc := mayW_cases q7
 refine WpG.gw tabOK 7 10 rfl (wrk (x := 64 - bits) (by omega) (by omega)) ?_
 refine WpG.y rfl rfl rfl rfl (RunY.shl rfl rfl (by omega)) ?_
 refine WpG.gw tabOK 2 13 rfl (wrk (x := 64 - bits) (by omega) (by omega)) ?_
 refine WpG.y rfl rfl rfl rfl (RunY.shr rfl rfl (by omega)) ?_
 refine WpG.g tabOK 2 rfl ?_
 exact WpG.ret tabOK (L' := []) (.tmp rfl .nil) .slnil ⟨congrArg (Value.int .u64) (cut_shift q7 h0), rfl⟩
theorem Equal_calls {H : Hp} {A A' : Option Addr} {c c' : Nat} {l m : List Int} (hl : RdS H A l) (hm : RdS H A' m) : CallG Tryz.prog 92 [.slice A l.length c, .slice A' m.length c'] H [] (fun v _ L' => v = .bool (eqL l m) ∧ L' = []) := by
 have bl := hl.1; have bm := hm.1
 refine CallG.of Tryz.func92 rfl rfl rfl fun w0 => ?_
 refine WpG.g tabOK 13 rfl ?_
 refine WpG.caseN (t := 10) rfl (fun q10 => ?_) (fun q10 => ?_)
 ·refine WpG.g tabOK 5 rfl ?_
  exact WpG.ret tabOK (L' := []) (.tmp rfl .nil) .slnil ⟨congrArg Value.bool (by exact (eqL_len (by omega)).symm), rfl⟩
 refine WpG.g tabOK 11 rfl ?_
 refine WpG.wk (WpG.ind1 (fun (i : Int) => ⟨(l.length - i).toNat, [(0, .slice A l.length c), (1, .slice A' m.length c'), (12, .int .i64 (l.length : Int)), (13, .int .i64 i)], H, [], 0 ≤ i ∧ i ≤ l.length ∧ eqL l m = eqL (l.drop i.toNat) (m.drop i.toNat)⟩) ?_ 0 ⟨by omega, by omega, rfl⟩) rfl
 intro i inv ih1
 obtain ⟨i0, i1, i2⟩ := inv
 refine WpG.g tabOK 5 rfl ?_
 refine WpG.caseD (t := 14) rfl (fun q14 => ?_) (fun q14 => ?_)
 ·refine WpG.g tabOK 10 rfl ?_
  refine WpG.draw 9 [] mixed (by kernel_rfl) ?_
  refine WpD.g (listed' := lst 9 51) tabOK [0, 1, 4, 5] (by kernel_rfl) rfl hlr hlr .slnil ?_
  refine WpD.indexR (i := 2) (fuel := 4) (listed' := lst 9 55) tabOK (by kernel_rfl) rfl rfl rfl rfl rfl rfl rfl rfl rfl hlr hlr .slnil hl (by omega) (by omega) ?_
  rintro x1 hx1 b1 o1 _ ⟨rfl, k1⟩ hc1
  refine WpD.y (i := 3) (fuel := 3) (listed' := lst 9 63) (by kernel_rfl) rfl rfl rfl rfl hlr hlr .slnil (RunY.loadH tabOK hc1 hlr rfl rfl rfl rfl) ?_
  refine WpD.indexR (i := 6) (fuel := 2) (listed' := lst 9 127) tabOK (by kernel_rfl) rfl rfl rfl rfl rfl rfl rfl rfl rfl hlr hlr .slnil hm (by omega) (by omega) ?_
  rintro x2 hx2 b2 o2 _ ⟨rfl, k2⟩ hc2
  refine WpD.y (i := 7) (fuel := 1) (listed' := lst 9 255) (by kernel_rfl) rfl rfl rfl rfl hlr hlr .slnil (RunY.loadH tabOK hc2 hlr rfl rfl rfl rfl) ?_
  refine WpD.g (listed' := lst 9 511) tabOK [8] (by kernel_rfl) rfl hlr hlr .slnil ?_
  refine WpD.done (by kernel_rfl) ?_
  refine WpG.caseN (t := 24) rfl (fun q24 => ?_) (fun q24 => ?_)
  ·refine WpG.g tabOK 5 rfl ?_
   exact WpG.ret tabOK (L' := []) (.tmp rfl .nil) .slnil ⟨congrArg Value.bool (by clear ih1; rw [i2, drop_nth i0 q14, drop_nth i0 (by omega), ← hx1, ← hx2]; simp only [eqL, beq_eq_false_iff_ne.2 q24, Bool.false_and]), rfl⟩
  refine WpG.gw tabOK 5 25 rfl (wrk (x := i + 1) (by omega) (by omega)) ?_
  refine WpG.g tabOK 3 rfl ?_
  refine WpG.wk (ih1 (i + 1) ?_ ?_) rfl
  ·dsimp only
   omega
  clear ih1
  refine ⟨by omega, by omega, ?_⟩
  rw [i2, drop_nth i0 q14, drop_nth i0 (by omega), ← hx1, ← hx2, toNat_succ i0]; simp only [eqL, q24, beq_self_eq_true, Bool.true_and]
 refine WpG.g tabOK 6 rfl ?_
 exact WpG.ret tabOK (L' := []) (.tmp rfl .nil) .slnil ⟨congrArg Value.bool (by clear ih1; rw [i2, drop_end i0 q14, drop_end i0 (by omega)]; rfl), rfl⟩
theorem value_calls {H : Hp} (x : Int) : CallG Tryz.prog 164 [.int .i64 x] H [] (fun v _ L' => v = .bool (valueOK x) ∧ L' = []) := by
 refine CallG.of Tryz.func164 rfl rfl rfl fun w0 => ?_
 refine WpG.g tabOK 9 rfl ?_
 refine WpG.caseD (t := 5) rfl (fun q5 => ?_) (fun q5 => ?_)
 ·refine WpG.g tabOK 5 rfl ?_
  exact WpG.ret tabOK (L' := []) (.tmp rfl .nil) .slnil ⟨congrArg Value.bool (by first | (simp only [valueOK, decide_eq_true q4, Bool.true_and]; done) | (simp only [valueOK, decide_eq_false q4, Bool.false_and]; done) | (simp_all [valueOK]; done) | (simp_all [valueOK]; omega)), rfl⟩
 refine WpG.g tabOK 5 rfl ?_
 exact WpG.ret tabOK (L' := []) (.tmp rfl .nil) .slnil ⟨congrArg Value.bool (by first | (simp only [valueOK, decide_eq_true q4, Bool.true_and]; done) | (simp only [valueOK, decide_eq_false q4, Bool.false_and]; done) | (simp_all [valueOK]; done) | (simp_all [valueOK]; omega)), rfl⟩
theorem stores_calls {H : Hp} (k : Int) : CallG Tryz.prog 159 [.int .i64 k] H [] (fun v _ L' => v = .bool (storesK k) ∧ L' = []) := by
 refine CallG.of Tryz.func159 rfl rfl rfl fun w0 => ?_
 refine WpG.g tabOK 9 rfl ?_
 refine WpG.caseE (t := 5) rfl (fun q5 => ?_) (fun q5 => ?_)
 ·refine WpG.g tabOK 5 rfl ?_
  exact WpG.ret tabOK (L' := []) (.tmp rfl .nil) .slnil ⟨congrArg Value.bool (by simp_all [storesK]), rfl⟩
 refine WpG.g tabOK 5 rfl ?_
 exact WpG.ret tabOK (L' := []) (.tmp rfl .nil) .slnil ⟨congrArg Value.bool (by simp_all [storesK]), rfl⟩
theorem Shape_calls {H : Hp} (b n : Int) (hb : I64 b) : CallG Tryz.prog 162 [.int .i64 b, .int .i64 n] H [] (fun v _ L' => v = .bool (shapeD b n) ∧ L' = []) := by
 have hb1 := hb.1; have hb2 := hb.2
 refine CallG.of Tryz.func162 rfl rfl rfl fun w0 => ?_
 refine WpG.g tabOK 8 rfl ?_
 refine WpG.callS rfl rfl rfl rfl rfl rfl hlr (May_calls b) ?_
 refine WpG.g tabOK 2 rfl ?_
 refine WpG.caseBn (t := 7) rfl (fun q7 => ?_) (fun q7 => ?_)
 ·refine WpG.g tabOK 5 rfl ?_
  exact WpG.ret tabOK (L' := []) (.tmp rfl .nil) .slnil ⟨congrArg Value.bool (by first | (simp_all [shapeD]; done) | (simp_all [shapeD]; omega)), rfl⟩
 refine WpG.g tabOK 13 rfl ?_
 refine WpG.caseE (t := 9) rfl (fun q9 => ?_) (fun q9 => ?_)
 ·refine WpG.g tabOK 5 rfl ?_
  exact WpG.ret tabOK (L' := []) (.tmp rfl .nil) .slnil ⟨congrArg Value.bool (by first | (simp_all [shapeD]; done) | (simp_all [shapeD]; omega)), rfl⟩
 refine WpG.g tabOK 7 rfl ?_
 refine WpG.caseE (t := 11) rfl (fun q11 => ?_) (fun q11 => ?_)
 ·refine WpG.g tabOK 8 rfl ?_
  refine WpG.caseD (t := 18) rfl (fun q18 => ?_) (fun q18 => ?_)
  ·have hn : n = 2 ∨ n = 4 ∨ n = 8 ∨ n = 16 := by omega
   have hm : 0 ≤ b * n ∧ b * n ≤ 1024 := by rcases mayW_cases q7 with h | h | h | h | h <;> rcases hn with k | k | k | k <;> rw [h, k] <;> omega
   refine WpG.gw tabOK 3 21 rfl (wrk (x := b * n) (by omega) (by omega)) ?_
   refine WpG.g tabOK 4 rfl ?_
   exact WpG.ret tabOK (L' := []) (.tmp rfl .nil) .slnil ⟨congrArg Value.bool (by first | (simp_all [shapeD]; done) | (simp_all [shapeD]; omega)), rfl⟩
  refine WpG.g tabOK 7 rfl ?_
  exact WpG.ret tabOK (L' := []) (.tmp rfl .nil) .slnil ⟨congrArg Value.bool (by first | (simp_all [shapeD]; done) | (simp_all [shapeD]; omega)), rfl⟩
 refine WpG.g tabOK 6 rfl ?_
 refine WpG.caseE (t := 11) rfl (fun q11_2 => ?_) (fun q11_2 => ?_)
 ·refine WpG.g tabOK 8 rfl ?_
  refine WpG.caseD (t := 18) rfl (fun q18 => ?_) (fun q18 => ?_)
  ·have hn : n = 2 ∨ n = 4 ∨ n = 8 ∨ n = 16 := by omega
   have hm : 0 ≤ b * n ∧ b * n ≤ 1024 := by rcases mayW_cases q7 with h | h | h | h | h <;> rcases hn with k | k | k | k <;> rw [h, k] <;> omega
   refine WpG.gw tabOK 3 21 rfl (wrk (x := b * n) (by omega) (by omega)) ?_
   refine WpG.g tabOK 4 rfl ?_
   exact WpG.ret tabOK (L' := []) (.tmp rfl .nil) .slnil ⟨congrArg Value.bool (by first | (simp_all [shapeD]; done) | (simp_all [shapeD]; omega)), rfl⟩
  refine WpG.g tabOK 7 rfl ?_
  exact WpG.ret tabOK (L' := []) (.tmp rfl .nil) .slnil ⟨congrArg Value.bool (by first | (simp_all [shapeD]; done) | (simp_all [shapeD]; omega)), rfl⟩
 refine WpG.g tabOK 6 rfl ?_
 refine WpG.caseE (t := 11) rfl (fun q11_3 => ?_) (fun q11_3 => ?_)
 ·refine WpG.g tabOK 8 rfl ?_
  refine WpG.caseD (t := 18) rfl (fun q18 => ?_) (fun q18 => ?_)
  ·have hn : n = 2 ∨ n = 4 ∨ n = 8 ∨ n = 16 := by omega
   have hm : 0 ≤ b * n ∧ b * n ≤ 1024 := by rcases mayW_cases q7 with h | h | h | h | h <;> rcases hn with k | k | k | k <;> rw [h, k] <;> omega
   refine WpG.gw tabOK 3 21 rfl (wrk (x := b * n) (by omega) (by omega)) ?_
   refine WpG.g tabOK 4 rfl ?_
   exact WpG.ret tabOK (L' := []) (.tmp rfl .nil) .slnil ⟨congrArg Value.bool (by first | (simp_all [shapeD]; done) | (simp_all [shapeD]; omega)), rfl⟩
  refine WpG.g tabOK 7 rfl ?_
  exact WpG.ret tabOK (L' := []) (.tmp rfl .nil) .slnil ⟨congrArg Value.bool (by first | (simp_all [shapeD]; done) | (simp_all [shapeD]; omega)), rfl⟩
 refine WpG.g tabOK 5 rfl ?_
 refine WpG.caseE (t := 11) rfl (fun q11_4 => ?_) (fun q11_4 => ?_)
 ·refine WpG.g tabOK 6 rfl ?_
  refine WpG.caseD (t := 18) rfl (fun q18 => ?_) (fun q18 => ?_)
  ·have hn : n = 2 ∨ n = 4 ∨ n = 8 ∨ n = 16 := by omega
   have hm : 0 ≤ b * n ∧ b * n ≤ 1024 := by rcases mayW_cases q7 with h | h | h | h | h <;> rcases hn with k | k | k | k <;> rw [h, k] <;> omega
   refine WpG.gw tabOK 3 21 rfl (wrk (x := b * n) (by omega) (by omega)) ?_
   refine WpG.g tabOK 4 rfl ?_
   exact WpG.ret tabOK (L' := []) (.tmp rfl .nil) .slnil ⟨congrArg Value.bool (by first | (simp_all [shapeD]; done) | (simp_all [shapeD]; omega)), rfl⟩
  refine WpG.g tabOK 7 rfl ?_
  exact WpG.ret tabOK (L' := []) (.tmp rfl .nil) .slnil ⟨congrArg Value.bool (by first | (simp_all [shapeD]; done) | (simp_all [shapeD]; omega)), rfl⟩
 refine WpG.g tabOK 7 rfl ?_
 exact WpG.ret tabOK (L' := []) (.tmp rfl .nil) .slnil ⟨congrArg Value.bool (by first | (simp_all [shapeD]; done) | (simp_all [shapeD]; omega)), rfl⟩
end Go.Proofs.YtakameggkkjcpaaGreat
namespace Go.Proofs.YtakameggkkjcpaaGreat
open Go Go.RowKit
section
variable {P : Program} {T : List TRow} {fn : Func} {w0 : World} {H0 : Hp} {X : List Nat} {k : List Item} {F : Fk} {H : Hp} {L : List Chunk} {R : Ending → World → Prop} {ops : Array Oper} {ty : TypeId} {pos : String} {af : Array Edge} {g : Option (Nat × Bool)} {dst : Option Nat}
theorem OpG.makeSliceW (hT : TabOK P T) {i : Nat} {d t e n : Nat} {x : Operand} {kd : IntKind} {r q : TRow}
    (ho : ops[i]? = some ⟨some d, .makeSlice t x x, ty, pos, af, g⟩) (hw : wantk ops F g = some true) (hn : Nat.blt d fn.ntmps = true) (hx : evk F x = some (.int kd (n : Int)))
    (hr : trow T t = some r) (hk : r.kind = .slice e) (hq : trow T e = some q) (hqs : (Nat.ble q.size 64 && Nat.ble q.bytes 65536) = true) (hlen : n ≤ 2147483648) :
    OpG P fn w0 H0 X ops i F H L fun F' H' L' => ∃ b zs, zs.length = n * q.size ∧ F' = (d, .slice (some ⟨b, 0, none⟩) n n) :: F ∧ H' = H ∧ L' = Chunk.own e q.size (some ⟨b, 0, none⟩) n n zs :: L := ⟨_, ho, hw, fun a w ha hs => by
  have hd := (hT.row hr).slice hk
  obtain ⟨ii, hi, hs1, hb1, hz1⟩ := (hT.row hq).info
  simp only [Bool.and_eq_true] at hqs
  have hq1 := Nat.le_of_ble_eq_true hqs.1
  have hq2 := Nat.le_of_ble_eq_true hqs.2
  have hb2 : q.bytes * n ≤ 65536 * 2147483648 := Nat.mul_le_mul hq2 hlen
  have hm := run_make (P := P) w t e ii q.zero hd hi hz1 kd kd n n (by omega) (Int.le_refl _) (by rw [hb1]; omega) (by omega)
  simp only [Int.toNat_natCast, hs1] at hm
  have hsz : (madeCells q.zero.cells (n * q.size)).toList.length = n * q.size := by rw [Array.length_toList]; exact size_madeCells _ _
  refine .value (v := .slice (some ⟨w.heap.size, 0, none⟩) n n) (w' := w.alloc (.cells (madeCells q.zero.cells (n * q.size)) e)) ?_
    ⟨_, _, _, ⟨w.heap.size, _, hsz, rfl, rfl, rfl⟩, ha.put (by simpa [Nat.blt_eq] using hn) _, hs.alloc (c := Chunk.own e q.size (some ⟨w.heap.size, 0, none⟩) n n (madeCells q.zero.cells (n * q.size)).toList) (.cells (madeCells q.zero.cells (n * q.size)) e) rfl
      ⟨hsz, .inr ⟨w.heap.size, n, (madeCells q.zero.cells (n * q.size)), rfl, Nat.zero_le _, ?_, Nat.le_refl _, ?_, by simp [size_madeCells], ?_⟩⟩⟩
  · simp only [execOp, ha.eval hx, Sem.run_bind, hm]
    simp
  · show (w.heap.push _)[w.heap.size]? = _; simp
  · unfold maxLen; omega
  · rw [List.take_of_length_le (by rw [hsz]; exact Nat.le_refl _)]⟩
theorem WpG.makeSliceW (hT : TabOK P T) {i : Nat} {rest : List Nat} {d t e n : Nat} {x : Operand} {kd : IntKind} {r q : TRow}
    (ho : ops[i]? = some ⟨some d, .makeSlice t x x, ty, pos, af, g⟩) (hw : wantk ops F g = some true) (hn : Nat.blt d fn.ntmps = true) (hx : evk F x = some (.int kd (n : Int)))
    (hr : trow T t = some r) (hk : r.kind = .slice e) (hq : trow T e = some q) (hqs : (Nat.ble q.size 64 && Nat.ble q.bytes 65536) = true) (hlen : n ≤ 2147483648)
    (h : ∀ b zs, zs.length = n * q.size → WpG P fn w0 H0 X (.inRegion ops rest :: k) ((d, .slice (some ⟨b, 0, none⟩) n n) :: F) H (Chunk.own e q.size (some ⟨b, 0, none⟩) n n zs :: L) R) : WpG P fn w0 H0 X (.inRegion ops (i :: rest) :: k) F H L R :=
  WpG.step (OpG.makeSliceW hT ho hw hn hx hr hk hq hqs hlen) (by rintro _ _ _ ⟨b, zs, hz, rfl, rfl, rfl⟩; exact h b zs hz)
theorem RunY.sliceFrom (hT : TabOK P T) {t e b off len cap : Nat} {x y : Operand} {kd : IntKind} {j : Int} {r q : TRow} (hx : evk F x = some (.slice (some ⟨b, off, none⟩) len cap)) (hy : evk F y = some (.int kd j))
    (hr : trow T t = some r) (hk : r.kind = .slice e) (hq : trow T e = some q) (h0 : 0 ≤ j) (h1 : j ≤ len) (h2 : j < cap) :
    RunY P fn w0 H0 X F H L ⟨dst, .slice t x (some y) none none, ty, pos, af, g⟩ (.slice (some ⟨b, off + j.toNat * q.size, none⟩) (len - j.toNat) (cap - j.toNat)) := fun a w ha hs => by
  have hd := (hT.row hr).slice hk
  have hadd : (⟨b, off, none⟩ : Addr).add (j.toNat * q.size) = ⟨b, off + j.toNat * q.size, none⟩ := by
    unfold Addr.add
    split <;> simp_all
  have hne : ¬ cap = j.toNat := by omega
  simp [execOp, ha.eval hx, ha.eval hy, Instr.sliceAt, Instr.slice, Instr.sliceBounds, Instr.sliceBound, asIntOf, run_underlying hd, (hT.row hq).run_size, h0, h1, hadd, hne]
theorem RunY.sliceTo (hT : TabOK P T) {t e b off len cap : Nat} {x y : Operand} {kd : IntKind} {j : Int} {r q : TRow} (hx : evk F x = some (.slice (some ⟨b, off, none⟩) len cap)) (hy : evk F y = some (.int kd j))
    (hr : trow T t = some r) (hk : r.kind = .slice e) (hq : trow T e = some q) (h0 : 0 ≤ j) (h1 : j ≤ cap) :
    RunY P fn w0 H0 X F H L ⟨dst, .slice t x none (some y) none, ty, pos, af, g⟩ (.slice (some ⟨b, off, none⟩) j.toNat cap) := fun a w ha hs => by
  have hd := (hT.row hr).slice hk
  have hadd : (⟨b, off, none⟩ : Addr).add 0 = ⟨b, off, none⟩ := by
    unfold Addr.add
    split <;> simp_all
  simp [execOp, ha.eval hx, ha.eval hy, Instr.sliceAt, Instr.slice, Instr.sliceBounds, Instr.sliceBound, asIntOf, run_underlying hd, (hT.row hq).run_size, h0, h1, hadd]
theorem OpG.copy (hT : TabOK P T) {i : Nat} {d t t' e ci : Nat} {x y : Operand} {b off dl dc E c n m : Nat} {ob so sl sc : Nat} {xs xs' news : List Value} {r q : TRow}
    (ho : ops[i]? = some ⟨some d, .call ⟨.builtin .copy, #[x, y], #[t, t']⟩, ty, pos, af, g⟩) (hw : wantk ops F g = some true) (hn : Nat.blt d fn.ntmps = true)
    (hx : evk F x = some (.slice (some ⟨b, off, none⟩) dl dc)) (hy : evk F y = some (.slice (some ⟨ob, so, none⟩) sl sc))
    (hr : trow T t = some r) (hk : r.kind = .slice e) (hq : trow T e = some q) (hL : L[ci]? = some (Chunk.own E q.size (some ⟨b, 0, none⟩) c n xs)) (hm : Nat.min sl dl = m) (hl : news.length = m * q.size)
    (hsrc : ∀ w, SH w0 H0 X w H L → ∀ (j : Nat) u, news[j]? = some u → w.cell? ⟨ob, so + j, none⟩ = some u) (h1 : news.all (fun u => u.oneCell') = true) (hp : putAt xs off news = some xs') :
    OpG P fn w0 H0 X ops i F H L fun F' H' L' => F' = (d, .int .i64 m) :: F ∧ H' = H ∧ L' = L.set ci (Chunk.own E q.size (some ⟨b, 0, none⟩) c n xs') := ⟨_, ho, hw, fun a w ha hs => by
  have hd := (hT.row hr).slice hk
  have hown : w.ownsRow 0 E q.size (.slice (some ⟨b, 0, none⟩) n c) n xs := hs.chunk hL
  obtain ⟨cur, hg, hle, hown'⟩ := ownsRow_put hown hp
  have hadd : ∀ j, (⟨ob, so, none⟩ : Addr).add j = ⟨ob, so + j, none⟩ := fun j => by unfold Addr.add; split <;> simp_all
  have hld := run_loadCells_list (P := P) (w := w) ⟨ob, so, none⟩ news (fun j u hu => by rw [hadd]; exact hsrc w hs j u hu)
  have hst := run_storeCells_at P b off E news 0 cur w hg (by simpa using hle) (List.all_eq_true.1 h1)
  simp only [Nat.add_zero] at hst
  refine .value (v := .int .i64 m) (w' := w.setRow b (cur.toList.take off ++ news ++ cur.toList.drop (off + news.length)).toArray) ?_
    ⟨_, _, _, ⟨rfl, rfl, rfl⟩, ha.put (by simpa [Nat.blt_eq] using hn) _, hs.set_ hL (SH.one (hs.pre1 hL) (Chg.setRow _ _ (mem_blks (.head _) rfl)) hown' (fun b' e => .inl e))⟩
  rw [hl] at hld
  have hm' : sl.min dl = m := hm
  simp [execOp, ha.eval hx, ha.eval hy, resolve, invoke, builtin, Builtin.copy_, Builtin.lenOf, Builtin.firstCells, run_underlying hd, (hT.row hq).run_size, hm', hld, hst, goInt]⟩
theorem putAt_in {xs news : List Value} {off : Nat} (h : off + news.length ≤ xs.length) : putAt xs off news = some (xs.take off ++ news ++ xs.drop (off + news.length)) := by
  unfold putAt
  rw [show Nat.ble (off + news.length) xs.length = true from Nat.ble_eq_true_of_le h, List.append_assoc]
  rfl
theorem own_at {w : World} {ci E sz b c n : Nat} {xs : List Value} (hs : SH w0 H0 X w H L) (hL : L[ci]? = some (Chunk.own E sz (some ⟨b, 0, none⟩) c n xs)) {j : Nat} {u : Value} (h : xs[j]? = some u) : w.cell? ⟨b, j, none⟩ = some u :=
  ownsRow_cells (hs.chunk hL) j u h
theorem RunY.bits {x y : Operand} {tx ty' : TypeId} {kk : IntKind} {op : BinOp} {u n : Int} (hop : op = .and ∨ op = .or ∨ op = .xor ∨ op = .andNot) (hx : evk F x = some (.int kk u)) (hy : evk F y = some (.int kk n)) :
    RunY P fn w0 H0 X F H L ⟨dst, .binOp op tx x y ty', ty, pos, af, g⟩ (.int kk (Go.bits op kk u n)) := fun a w ha _ => by
  rcases hop with rfl | rfl | rfl | rfl <;> simp [execOp, ha.eval hx, ha.eval hy, eqGuard, binOp, intBits_and, intBits_or, intBits_xor, intBits_andNot]
end
theorem wrku {x : Int} (h0 : 0 ≤ x) (h1 : x ≤ 18446744073709551615) : some (Value.int .u64 (IntKind.u64.wrap x)) = some (Value.int .u64 x) := by
  rw [IntKind.wrap_u64, Int.emod_eq_of_lt h0 (by omega)]
def repC (v : List Value) (n : Nat) : List Value := (List.replicate n v).flatten
theorem repC_len (v : List Value) (n : Nat) : (repC v n).length = n * v.length := by
  unfold repC; simp
theorem repC_add (v : List Value) (m n : Nat) : repC v (m + n) = repC v m ++ repC v n := by
  unfold repC; rw [← List.flatten_append, List.replicate_append_replicate]
theorem repC_one {v : List Value} (h : v.all (fun u => u.oneCell') = true) (n : Nat) : (repC v n).all (fun u => u.oneCell') = true := by
  unfold repC; rw [List.all_eq_true] at h ⊢
  intro x hx
  obtain ⟨l, hl, hx⟩ := List.mem_flatten.1 hx
  rw [(List.mem_replicate.1 hl).2] at hx
  exact h x hx
theorem rep_step {v xs : List Value} {i m n : Nat} (hl : xs.length = n * v.length) (ht : xs.take (i * v.length) = repC v i) (hn : i + m ≤ n) :
    (xs.take (i * v.length) ++ repC v m ++ xs.drop (i * v.length + (repC v m).length)).length = n * v.length ∧ (xs.take (i * v.length) ++ repC v m ++ xs.drop (i * v.length + (repC v m).length)).take ((i + m) * v.length) = repC v (i + m) := by
  have h1 : i * v.length + m * v.length ≤ n * v.length := by rw [← Nat.add_mul]; exact Nat.mul_le_mul_right _ hn
  refine ⟨by simp only [List.length_append, List.length_take, List.length_drop, repC_len]; omega, ?_⟩
  rw [ht, ← repC_add]
  exact List.take_left' (repC_len v (i + m))
theorem repC_le {v : List Value} {m j : Nat} {u : Value} (h : (repC v (Nat.min 1 m))[j]? = some u) : v[j]? = some u := by
  have h1 : Nat.min 1 m = 0 ∨ Nat.min 1 m = 1 := by have : Nat.min 1 m ≤ 1 := Nat.min_le_left 1 m; omega
  rcases h1 with e | e
  · rw [e] at h; simp [repC] at h
  · rw [e] at h; simpa [repC] using h
theorem rep_at {v xs : List Value} {i m j : Nat} {u : Value} (ht : xs.take (i * v.length) = repC v i) (hm : m ≤ i) (h : (repC v m)[j]? = some u) : xs[j]? = some u := by
  have h2 : (repC v i)[j]? = some u := by
    rw [show i = m + (i - m) from by omega, repC_add, List.getElem?_append_left (List.getElem?_eq_some_iff.1 h).1]; exact h
  rw [← ht, List.getElem?_take] at h2
  split at h2
  · exact h2
  · cases h2
theorem Repeat_start {v zs : List Value} {n m : Nat} (hz : zs.length = n * v.length) (hm : m ≤ n) (h1 : 0 < n → 1 ≤ m) :
    0 ≤ (m : Int) ∧ (m : Int) ≤ n ∧ (zs.take 0 ++ repC v m ++ zs.drop (0 + List.length (repC v m))).length = n * v.length ∧
    (zs.take 0 ++ repC v m ++ zs.drop (0 + List.length (repC v m))).take ((m : Int).toNat * v.length) = repC v ((m : Int).toNat) ∧ (0 < n → 1 ≤ (m : Int)) := by
  have h := rep_step (v := v) (xs := zs) (i := 0) (m := m) (n := n) hz (by simp [repC]) (by omega)
  simp only [Nat.zero_mul, Nat.zero_add] at h
  refine ⟨by omega, by omega, ?_, ?_, fun h0 => ?_⟩
  · simpa using h.1
  · simpa using h.2
  · have := h1 h0; omega
theorem Repeat_back {v xs : List Value} {n m : Nat} {i : Int} (i0 : 0 ≤ i) (i1 : i ≤ n) (i2 : xs.length = n * v.length) (i3 : xs.take (i.toNat * v.length) = repC v i.toNat) {xs' : List Value} {j : Int} (hm : m ≤ n - i.toNat)
    (hx : xs' = xs.take (i.toNat * v.length) ++ repC v m ++ xs.drop (i.toNat * v.length + List.length (repC v m))) (hj : j = i + (m : Int)) (i4 : 0 < n → 1 ≤ i) :
    0 ≤ j ∧ j ≤ n ∧ xs'.length = n * v.length ∧ xs'.take (j.toNat * v.length) = repC v j.toNat ∧ (0 < n → 1 ≤ j) := by
  have h := rep_step (v := v) (i := i.toNat) (m := m) i2 i3 (by omega)
  subst hx; subst hj
  refine ⟨by omega, by omega, h.1, ?_, fun h0 => by have := i4 h0; omega⟩
  rw [show (i + (m : Int)).toNat = i.toNat + m from by omega]
  exact h.2
theorem Repeat_end {v xs : List Value} {n m : Nat} (e : m = n) (i2 : xs.length = n * v.length) (i3 : xs.take (m * v.length) = repC v m) : xs = repC v n := by
  subst e
  rw [← i3, List.take_of_length_le (by rw [i2]; exact Nat.le_refl _)]
theorem i64_and32 {x : Int} (h0 : 0 ≤ x) (h1 : x ≤ 4294967295) : Go.bits .and .u64 x 4294967295 = x := by
  obtain ⟨n, rfl⟩ := Int.eq_ofNat_of_zero_le h0
  have := bits_and_u64_nat n 4294967295 (by omega) (by omega)
  rw [show ((4294967295 : Int)) = ((4294967295 : Nat) : Int) from rfl, this]
  rw [show (4294967295 : Nat) = 2 ^ 32 - 1 from rfl, Nat.and_two_pow_sub_one_eq_mod]
  omega
section
variable {P : Program} {fn : Func} {w0 : World} {H0 : Hp} {X : List Nat} {F : Fk} {H : Hp} {L : List Chunk} {ty : TypeId} {pos : String} {af : Array Edge} {g : Option (Nat × Bool)} {dst : Option Nat}
theorem RunY.and32 {x y : Operand} {tx ty' : TypeId} {u : Int} (hx : evk F x = some (.int .u64 u)) (hy : evk F y = some (.int .u64 4294967295)) (h0 : 0 ≤ u) (h1 : u ≤ 4294967295) :
    RunY P fn w0 H0 X F H L ⟨dst, .binOp .and tx x y ty', ty, pos, af, g⟩ (.int .u64 u) := by
  have := RunY.bits (P := P) (fn := fn) (w0 := w0) (H0 := H0) (X := X) (H := H) (L := L) (ty := ty) (pos := pos) (af := af) (g := g) (dst := dst) (tx := tx) (ty' := ty') (.inl rfl) hx hy
  rwa [i64_and32 h0 h1] at this
theorem RunY.shr32 {x y : Operand} {tx ty' : TypeId} {u : Int} {yk : IntKind} (hx : evk F x = some (.int .u64 u)) (hy : evk F y = some (.int yk 32)) (h0 : 0 ≤ u) (h1 : u ≤ 4294967295) :
    RunY P fn w0 H0 X F H L ⟨dst, .binOp .shr tx x y ty', ty, pos, af, g⟩ (.int .u64 0) := by
  have h := RunY.shr (P := P) (fn := fn) (w0 := w0) (H0 := H0) (X := X) (H := H) (L := L) (ty := ty) (pos := pos) (af := af) (g := g) (dst := dst) (tx := tx) (ty' := ty') hx hy (by omega)
  have e : u.fdiv (2 ^ (min (32 : Int).toNat IntKind.u64.bits)) = 0 := by
    show u.fdiv 4294967296 = 0
    rw [Int.fdiv_eq_ediv]; simp; omega
  rwa [e] at h
end
end Go.Proofs.YtakameggkkjcpaaGreat

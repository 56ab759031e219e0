/- The engine of the walks: what a frame is known to hold, a walk as a stack of items, the steps of the machine as laws on it. No program in sight. -/
import Derived.WalkKit
import Derived.OrdersHeld
namespace Go.Proofs.YtdjemlkllbhdlaaGreat
open Go Go.RowKit

/-! ### What is known of a frame -/
abbrev Fk := List (Nat × Value)
def look : Fk → Nat → Option Value
  | [], _ => none
  | (d, v) :: F, t => bif Nat.beq d t then some v else look F t

theorem beq_no {d t : Nat} (e : ¬ d = t) : Nat.beq d t = false := by
  cases h : Nat.beq d t with
  | false => rfl
  | true => exact absurd (Nat.eq_of_beq_eq_true h) e

def evk (F : Fk) : Operand → Option Value
  | .tmp t => look F t
  | .const v => some v
  | .global g => some (.pointer (some ⟨g, 0, none⟩))
  | .func f => some (.func (.func f) #[] #[])

structure Agrees (n : Nat) (F : Fk) (a : Act) : Prop where
  defers : a.defers = []
  size : a.tmps.size = n
  at_ : ∀ t v, look F t = some v → a.tmps[t]? = some v

theorem Agrees.eval {n : Nat} {F : Fk} {a : Act} (h : Agrees n F a) {x : Operand} {v : Value} (hx : evk F x = some v) : a.eval x = v := by
  cases x with
  | tmp t => simp [Act.eval, Array.getD_eq_getD_getElem?, h.at_ t v hx]
  | const u => simpa [evk, Act.eval] using hx
  | global g => simpa [evk, Act.eval] using hx
  | func f => simpa [evk, Act.eval] using hx

theorem Agrees.put {n : Nat} {F : Fk} {a : Act} (h : Agrees n F a) {d : Nat} (hd : d < n) (v : Value) : Agrees n ((d, v) :: F) (a.put (some d) v) := by
  refine ⟨h.defers, by simpa [Act.put] using h.size, fun t u ht => ?_⟩
  simp only [look] at ht
  by_cases e : d = t
  · subst e
    simp at ht
    subst ht
    simp [Act.put, h.size, hd]
  · rw [beq_no e] at ht
    simp only [cond_false] at ht
    simp [Act.put, e, h.at_ t u ht]

theorem Agrees.putNone {n : Nat} {F : Fk} {a : Act} (h : Agrees n F a) (v : Value) : Agrees n F (a.put none v) := h

theorem Agrees.weaken {n : Nat} {F G : Fk} {a : Act} (h : Agrees n F a) (hG : ∀ p ∈ G, look F p.1 = some p.2) : Agrees n G a := by
  refine ⟨h.defers, h.size, fun t v ht => h.at_ t v ?_⟩
  induction G with
  | nil => cases ht
  | cons p G ih =>
    obtain ⟨d, u⟩ := p
    simp only [look] at ht
    by_cases e : d = t
    · subst e
      simp at ht
      subst ht
      exact hG _ (.head _)
    · rw [beq_no e] at ht
      exact ih (fun p hp => hG p (.tail _ hp)) ht

/-! ### A walk -/
def WpS (P : Program) (fn : Func) (k : List Item) (a : Act) (w : World) (R : Ending → World → Prop) : Prop :=
  ∀ (b : Frame) (cs : List Frame), ∃ e a' w', bodyPost P fn R e a' w' ∧ Arrives P (lone (b.at a k) cs w) b [] cs e a' w'

section
variable {P : Program} {fn : Func} {k : List Item} {a : Act} {w : World} {R : Ending → World → Prop}

theorem WpS.steps {k' : List Item} {a' : Act} {w' : World} (hs : ∀ (b : Frame) (cs : List Frame), Steps P (lone (b.at a k) cs w) (lone (b.at a' k') cs w'))
    (h : WpS P fn k' a' w' R) : WpS P fn k a w R := fun b cs =>
  let ⟨e, a₂, w₂, hq, harr⟩ := h b cs
  ⟨e, a₂, w₂, hq, .of_steps (hs b cs) harr⟩

theorem WpS.calls {f : FuncId} {c : Code} {args : Array Value} (hf : P.funcs[f]? = some fn) (hb : fn.body = some c)
    (h : WpS P fn [.code c] { tmps := args ++ Array.replicate (fn.ntmps - args.size) undef, defers := [] } w R) : Calls P f args w R := by
  intro cs
  let b : Frame := { (default : Frame) with fn := f, kind := .normal }
  have henter : Frame.enter P f args .normal =
      b.at { tmps := args ++ Array.replicate (fn.ntmps - args.size) undef, defers := [] } [.code c] := by
    simp [Frame.enter, Frame.at, hf, hb, b]
  obtain ⟨e, a', w', hq, harr⟩ := h b cs
  rw [← henter] at harr
  cases e with
  | normal =>
    obtain ⟨hd, v, hr, hR⟩ := hq
    exact ⟨.returned v, w', _, hR, Steps.trans harr (.one step_end), rfl, rfl, hd, rfl, fn, hf, hr⟩
  | ret =>
    obtain ⟨hd, v, hr, hR⟩ := hq
    obtain ⟨todo, hs⟩ := harr
    exact ⟨.returned v, w', _, hR, hs, rfl, rfl, hd, rfl, fn, hf, hr⟩
  | panic chain =>
    obtain ⟨hd, hR⟩ := hq
    obtain ⟨todo, hs⟩ := harr
    exact ⟨.panicked chain, w', _, hR, hs, rfl, rfl, hd, fn, hf⟩
  | exit id => exact hq.elim
  | goto l => exact hq.elim
  | outgrown => exact ⟨.outgrown, w', b, hq, harr.resolve_left (by simp [b]), rfl, trivial⟩

theorem WpS.seq {x y : Code} (h : WpS P fn (.code x :: .code y :: k) a w R) : WpS P fn (.code (.seq x y) :: k) a w R := h.steps fun _ _ => .one step_seq
theorem WpS.skip (h : WpS P fn k a w R) : WpS P fn (.code .skip :: k) a w R := h.steps fun _ _ => .one step_skip
theorem WpS.label {l : Nat} (h : WpS P fn k a w R) : WpS P fn (.code (.label l) :: k) a w R := h.steps fun _ _ => .one step_label
theorem WpS.cond {c : Operand} {x y : Code} {t : Bool} (hc : a.eval c = .bool t) (h : WpS P fn (.code (if t then x else y) :: k) a w R) : WpS P fn (.code (.cond c x y) :: k) a w R :=
  h.steps fun _ _ => .one (step_cond hc)
theorem WpS.block {id : Nat} {c : Code} (h : WpS P fn (.code c :: .inBlock id :: k) a w R) : WpS P fn (.code (.block id c) :: k) a w R := h.steps fun _ _ => .one step_block
theorem WpS.inBlock {id : Nat} (h : WpS P fn k a w R) : WpS P fn (.inBlock id :: k) a w R := h.steps fun _ _ => .one step_inBlock
theorem WpS.loop {c : Code} (h : WpS P fn (.code c :: .inLoop c :: k) a w R) : WpS P fn (.code (.loop c) :: k) a w R := h.steps fun _ _ => .one step_loop
theorem WpS.inLoop {c : Code} (h : WpS P fn (.code c :: .inLoop c :: k) a w R) : WpS P fn (.inLoop c :: k) a w R := h.steps fun _ _ => .one step_inLoop
theorem WpS.exit {id : Nat} {k' : List Item} (he : exitTo id k = some k') (h : WpS P fn k' a w R) : WpS P fn (.code (.exit id) :: k) a w R := h.steps fun _ _ => .one (step_exit he)
theorem WpS.goto {l : Nat} {k' : List Item} (he : gotoIn l k = some k') (h : WpS P fn k' a w R) : WpS P fn (.code (.goto l) :: k) a w R := h.steps fun _ _ => .one (step_goto he)
theorem step_scope' {b : Frame} {cs : List Frame} {c : Code} : step P (lone (b.at a (.code (.scope c) :: k)) cs w) = .next (lone (b.at a (.code c :: .inScope c :: k)) cs w) :=
  step_lone_go (by simp [stepG, stepG.exec, Frame.at])
theorem step_inScope' {b : Frame} {cs : List Frame} {c : Code} : step P (lone (b.at a (.inScope c :: k)) cs w) = .next (lone (b.at a k) cs w) :=
  step_lone_go (by simp [stepG, stepG.exec, Frame.at])
theorem WpS.scope {c : Code} (h : WpS P fn (.code c :: .inScope c :: k) a w R) : WpS P fn (.code (.scope c) :: k) a w R := h.steps fun _ _ => .one step_scope'
theorem WpS.inScope {c : Code} (h : WpS P fn k a w R) : WpS P fn (.inScope c :: k) a w R := h.steps fun _ _ => .one step_inScope'
theorem WpS.region {id : Nat} {ops : Array Oper} (h : WpS P fn (.inRegion ops (List.range ops.size) :: k) a w R) : WpS P fn (.code (.region id ops false) :: k) a w R :=
  h.steps fun _ _ => .one step_region
theorem WpS.regionNil {ops : Array Oper} (h : WpS P fn k a w R) : WpS P fn (.inRegion ops [] :: k) a w R := h.steps fun _ _ => .one step_region_end
theorem WpS.ret (hd : a.defers = []) {v : Value} (hr : (results fn a.tmps).run P w = .ok v w) (hR : R (.returned v) w) : WpS P fn (.code .ret :: k) a w R :=
  fun _ _ => ⟨.ret, a, w, ⟨hd, v, hr, hR⟩, _, .one step_ret⟩
theorem WpS.done (hd : a.defers = []) {v : Value} (hr : (results fn a.tmps).run P w = .ok v w) (hR : R (.returned v) w) : WpS P fn [] a w R :=
  fun _ _ => ⟨.normal, a, w, ⟨hd, v, hr, hR⟩, Steps.refl _ _⟩
theorem WpS.op {ops : Array Oper} {i : Nat} {rest : List Nat} {o : Oper} {v : Value} {w' : World} (ho : ops[i]? = some o) (hw : Region.wanted o (yielded ops a.tmps) = true)
    (hr : (execOp a.eval o).run P w = .ok (.value v) w') (h : WpS P fn (.inRegion ops rest :: k) (a.put o.dst v) w' R) : WpS P fn (.inRegion ops (i :: rest) :: k) a w R :=
  h.steps fun b cs => .one (step_lone_go (by
    have hfin : (b.at a (.inRegion ops (i :: rest) :: k)).finish v = b.at (a.put o.dst v) (.inRegion ops rest :: k) := by rw [Frame.finish_at, ho]; rfl
    rw [stepG_op ho hw, ← hfin]; simp [stepG.apply, hr]))
theorem WpS.opSkip {ops : Array Oper} {i : Nat} {rest : List Nat} {o : Oper} {w' : World} (ho : ops[i]? = some o) (hw : Region.wanted o (yielded ops a.tmps) = true)
    (hr : (execOp a.eval o).run P w = .ok .skip w') (h : WpS P fn (.inRegion ops rest :: k) (a.put o.dst undef) w' R) : WpS P fn (.inRegion ops (i :: rest) :: k) a w R :=
  h.steps fun b cs => .one (step_lone_go (by
    have hfin : (b.at a (.inRegion ops (i :: rest) :: k)).finish undef = b.at (a.put o.dst undef) (.inRegion ops rest :: k) := by rw [Frame.finish_at, ho]; rfl
    rw [stepG_op ho hw, ← hfin]; simp [stepG.apply, hr]))
theorem WpS.unwanted {ops : Array Oper} {i : Nat} {rest : List Nat} {o : Oper} (ho : ops[i]? = some o) (hw : Region.wanted o (yielded ops a.tmps) = false)
    (h : WpS P fn (.inRegion ops rest :: k) (a.put o.dst undef) w R) : WpS P fn (.inRegion ops (i :: rest) :: k) a w R :=
  h.steps fun b cs => .one (by
    have hs := step_op_skip (P := P) (b := b) (a := a) (k := k) (cs := cs) (w := w) (ops := ops) (i := i) (rest := rest) (by simp [ho, hw])
    simpa only [ho, Option.bind_some] using hs)
theorem WpS.call {ops : Array Oper} {i : Nat} {rest : List Nat} {o : Oper} {f : FuncId} {args : Array Value} {w' : World} (ho : ops[i]? = some o) (hw : Region.wanted o (yielded ops a.tmps) = true)
    (hr : (execOp a.eval o).run P w = .ok (.enter f args) w') {Q : Value → World → Prop} (hc : Calls P f args w' fun e w'' => ∃ v, e = .returned v ∧ Q v w'')
    (h : ∀ v w'', Q v w'' → WpS P fn (.inRegion ops rest :: k) (a.put o.dst v) w'' R) : WpS P fn (.inRegion ops (i :: rest) :: k) a w R := by
  intro b cs
  have hfin : ∀ v, (b.at a (.inRegion ops (i :: rest) :: k)).finish v = b.at (a.put o.dst v) (.inRegion ops rest :: k) := by
    intro v; rw [Frame.finish_at, ho]; rfl
  obtain ⟨e, w'', fr, ⟨v, rfl, hQ⟩, hsteps, _, hleave⟩ := hc (b.at a (.inRegion ops (i :: rest) :: k) :: cs)
  have henter : step P (lone (b.at a (.inRegion ops (i :: rest) :: k)) cs w) =
      .next (lone (Frame.enter P f args .normal) (b.at a (.inRegion ops (i :: rest) :: k) :: cs) w') :=
    step_lone_go (by rw [stepG_op ho hw]; simp [stepG.apply, hr, Frame.at])
  obtain ⟨e, a', w₃, hq, harr⟩ := h v w'' hQ b cs
  refine ⟨e, a', w₃, hq, .of_steps (.head henter (hsteps.trans (.one ?_))) harr⟩
  rw [← hfin]; exact step_leave_returned hleave
/-- A piece of code by a law of the kit: what stands behind it is asked where it ends in its order. -/
theorem WpS.of_wp {c : Code} (h : c.wp P (fun e a' w' => match e with | .normal => WpS P fn k a' w' R | _ => False) a w) : WpS P fn (.code c :: k) a w R := by
  intro b cs
  obtain ⟨e, a', w', hq, harr⟩ := h b k cs
  cases e with
  | normal =>
    obtain ⟨e₂, a₂, w₂, hq₂, harr₂⟩ := hq b cs
    exact ⟨e₂, a₂, w₂, hq₂, .of_steps harr harr₂⟩
  | exit id => exact hq.elim
  | goto l => exact hq.elim
  | ret => exact hq.elim
  | panic ch => exact hq.elim
  | outgrown => exact hq.elim
end
end Go.Proofs.YtdjemlkllbhdlaaGreat

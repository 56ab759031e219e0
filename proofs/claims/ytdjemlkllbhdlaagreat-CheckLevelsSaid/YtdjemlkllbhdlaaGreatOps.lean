/- The operations that only compute, run by a function that Lean reduces; and the laws of the others on what is known of memory. -/
import Derived.Test.YtdjemlkllbhdlaaGreatHeap
namespace Go.Proofs.YtdjemlkllbhdlaaGreat
open Go Go.RowKit

/-! ### The types that a walk asks for -/
inductive TK where
  | int (k : IntKind) | bool | string | slice (e : Nat) | struct (fs : List (Nat × Nat)) | array (n e : Nat) | pointer (e : Nat) | map (k e : Nat) | other
def TK.of : TypeDesc → TK
  | .int k => .int k
  | .bool => .bool
  | .string => .string
  | .slice e => .slice e
  | .struct fs => .struct (fs.toList.map fun f => (f.offset, f.type))
  | .array n e => .array n e
  | .pointer e => .pointer e
  | .map k e => .map k e
  | _ => .other
def TK.agg : TK → Bool
  | .struct _ => true
  | .array _ _ => true
  | _ => false
structure TRow where
  t : Nat
  size : Nat
  bytes : Nat
  zero : Value
  kind : TK
def trow : List TRow → Nat → Option TRow
  | [], _ => none
  | r :: T, t => bif Nat.beq r.t t then some r else trow T t
def TabOK (P : Program) (T : List TRow) : Prop :=
  T.map (fun r => ((P.info? r.t).map fun i => (i.size, i.bytes, i.zero), (P.underlying r.t).map TK.of)) = T.map fun r => (some (r.size, r.bytes, some r.zero), some r.kind)

theorem trow_spec {T : List TRow} {t : Nat} {r : TRow} (h : trow T t = some r) : r ∈ T ∧ r.t = t := by
  induction T with
  | nil => cases h
  | cons q T ih =>
    simp only [trow] at h
    cases e : Nat.beq q.t t with
    | true => rw [e] at h; simp at h; subst h; exact ⟨.head _, Nat.eq_of_beq_eq_true e⟩
    | false => rw [e] at h; exact ⟨.tail _ (ih h).1, (ih h).2⟩

structure RowOK (P : Program) (t : Nat) (r : TRow) : Prop where
  info : ∃ i, P.info? t = some i ∧ i.size = r.size ∧ i.bytes = r.bytes ∧ i.zero = some r.zero
  under : ∃ d, P.underlying t = some d ∧ TK.of d = r.kind

theorem TabOK.row {P : Program} {T : List TRow} (hT : TabOK P T) {t : Nat} {r : TRow} (h : trow T t = some r) : RowOK P t r := by
  obtain ⟨hm, rfl⟩ := trow_spec h
  have := List.map_inj_left.1 hT r hm
  simp only [Prod.mk.injEq] at this
  obtain ⟨⟨i, hi, he⟩, d, hd, hk⟩ := And.intro (Option.map_eq_some_iff.1 this.1) (Option.map_eq_some_iff.1 this.2)
  simp only [Prod.mk.injEq] at he
  exact ⟨⟨i, hi, he.1, he.2.1, he.2.2⟩, d, hd, hk⟩

section
variable {P : Program} {t : Nat} {r : TRow}
theorem RowOK.run_size (h : RowOK P t r) (w : World) : (sizeOf t).run P w = .ok r.size w := by
  obtain ⟨i, hi, h1, _⟩ := h.info
  simp [sizeOf, typeInfo, hi, h1]
theorem RowOK.run_zero (h : RowOK P t r) (w : World) : (zeroValue t).run P w = .ok r.zero w := by
  obtain ⟨i, hi, _, _, h1⟩ := h.info
  simp [zeroValue, typeInfo, hi, h1]
theorem RowOK.run_agg (h : RowOK P t r) (w : World) : (isAgg t).run P w = .ok r.kind.agg w := by
  obtain ⟨d, hd, hk⟩ := h.under
  rw [← hk]
  cases d <;> simp [isAgg, run_underlying hd, TK.of, TK.agg]
end

/-! ### What only computes -/
def putAt (l : List Value) (off : Nat) (vs : List Value) : Option (List Value) :=
  bif Nat.ble (off + vs.length) l.length then some (l.take off ++ (vs ++ l.drop (off + vs.length))) else none
def cellsL : Value → List Value
  | .agg cs => cs.toList
  | v => [v]
def mkv (agg : Bool) (cs : List Value) : Option Value :=
  match agg, cs with
  | true, cs => some (.agg cs.toArray)
  | false, [v] => some v
  | false, _ => none
def partOf (r : TRow) (cs : List Value) (off : Nat) : Option Value :=
  bif Nat.ble (off + r.size) cs.length then mkv r.kind.agg ((cs.drop off).take r.size) else none
def fillG (place : Nat → Option (Nat × Nat)) : List Value → List (Nat × Value) → Option (List Value)
  | l, [] => some l
  | l, (i, v) :: ps =>
    match place i with
    | some (off, size) => bif Nat.beq (cellsL v).length size then (match putAt l off (cellsL v) with | some l' => fillG place l' ps | none => none) else none
    | none => none
def placesL (T : List TRow) : List (Nat × Nat) → Option (List (Nat × Nat))
  | [] => some []
  | (off, ft) :: fs => match trow T ft with
    | some r => match placesL T fs with
      | some l => some ((off, r.size) :: l)
      | none => none
    | none => none
def evs (F : Fk) : List Operand → Option (List Value)
  | [] => some []
  | x :: xs => match evk F x with
    | some v => match evs F xs with
      | some vs => some (v :: vs)
      | none => none
    | none => none
def evp (F : Fk) : List (Nat × Operand) → Option (List (Nat × Value))
  | [] => some []
  | (i, x) :: xs => match evk F x with
    | some v => match evp F xs with
      | some vs => some ((i, v) :: vs)
      | none => none
    | none => none

def pbin : BinOp → Value → Value → Option Value
  | .add, .int k a, .int k' b => if k = k' then some (.int k (k.wrap (a + b))) else none
  | .sub, .int k a, .int k' b => if k = k' then some (.int k (k.wrap (a - b))) else none
  | .mul, .int k a, .int k' b => if k = k' then some (.int k (k.wrap (a * b))) else none
  | .eql, .int k a, .int k' b => if k = k' then some (.bool (a == b)) else none
  | .neq, .int k a, .int k' b => if k = k' then some (.bool (a != b)) else none
  | .lss, .int k a, .int k' b => if k = k' then some (.bool (decide (a < b))) else none
  | .leq, .int k a, .int k' b => if k = k' then some (.bool (decide (a ≤ b))) else none
  | .gtr, .int k a, .int k' b => if k = k' then some (.bool (decide (a > b))) else none
  | .geq, .int k a, .int k' b => if k = k' then some (.bool (decide (a ≥ b))) else none
  | _, _, _ => none

def pop (T : List TRow) (F : Fk) : Op → Option Value
  | .move x => evk F x
  | .assign x => evk F x
  | .pick c a b => match evk F c with
    | some (.bool true) => evk F a
    | some (.bool false) => evk F b
    | _ => none
  | .nilCheck x => match evk F x with
    | some (.pointer (some a)) => some (.pointer (some a))
    | some (.func (.func f) fi ca) => some (.func (.func f) fi ca)
    | _ => none
  | .binOp op _ x y _ => match evk F x, evk F y with
    | some a, some b => pbin op a b
    | _, _ => none
  | .unOp .not _ x => match evk F x with
    | some (.bool b) => some (.bool (!b))
    | _ => none
  | .unOp .neg _ x => match evk F x with
    | some (.int k n) => some (.int k (k.wrap (0 - n)))
    | _ => none
  | .extract x i => match evk F x with
    | some (.tuple vs) => vs.toList[i]?
    | _ => none
  | .makeFunc fn first cap => match evs F first.toList, evs F cap.toList with
    | some a, some b => some (.func fn a.toArray b.toArray)
    | _, _ => none
  | .fieldAddr s x f => match evk F x, trow T s with
    | some (.pointer (some ⟨b, o, none⟩)), some r => match r.kind with
      | .struct fs => match fs[f]? with
        | some (off, ft) => match trow T ft with
          | some q => bif Nat.beq q.size 0 then none else some (.pointer (some ⟨b, o + off, none⟩))
          | none => none
        | none => none
      | _ => none
    | _, _ => none
  | .field s x f => match evk F x, trow T s with
    | some (.agg cs), some r => match r.kind with
      | .struct fs => match fs[f]? with
        | some (off, ft) => match trow T ft with
          | some q => partOf q cs.toList off
          | none => none
        | none => none
      | _ => none
    | _, _ => none
  | .build t ps => match trow T t, evp F ps.toList with
    | some r, some vs => match r.kind with
      | .struct fs => match placesL T fs with
        | some pl => match fillG (fun i => pl[i]?) (cellsL r.zero) vs with
          | some l => some (.agg l.toArray)
          | none => none
        | none => none
      | .array _ e => match trow T e with
        | some q => match fillG (fun i => some (i * q.size, q.size)) (cellsL r.zero) vs with
          | some l => some (.agg l.toArray)
          | none => none
        | none => none
      | _ => none
    | _, _ => none
  | .convert s d x => match trow T s, trow T d, evk F x with
    | some r, some q, some (.int _ n) => match r.kind, q.kind with
      | .int _, .int k => some (.int k (k.wrap n))
      | _, _ => none
    | _, _, _ => none
  | .call ⟨.builtin .len, xs, ts⟩ => match xs.toList, ts.toList with
    | [x], [t] => match evk F x, trow T t with
      | some (.slice _ n _), some r => match r.kind with
        | .slice _ => some (.int .i64 (n : Int))
        | _ => none
      | some (.string s), some r => match r.kind with
        | .string => some (.int .i64 (s.size : Int))
        | _ => none
      | _, _ => none
    | _, _ => none
  | .call ⟨.builtin .min, xs, _⟩ => match evs F xs.toList with
    | some [.int k a, .int _ b] => some (.int k (if b < a then b else a))
    | _ => none
  | .call ⟨.builtin .max, xs, _⟩ => match evs F xs.toList with
    | some [.int k a, .int _ b] => some (.int k (if b > a then b else a))
    | _ => none
  | _ => none

section
variable {P : Program} {T : List TRow} {n : Nat} {F : Fk} {a : Act}

theorem Agrees.evs (h : Agrees n F a) : ∀ {xs : List Operand} {vs : List Value}, Go.Proofs.YtdjemlkllbhdlaaGreat.evs F xs = some vs → xs.map a.eval = vs
  | [], vs, e => by simp [Go.Proofs.YtdjemlkllbhdlaaGreat.evs] at e; subst e; rfl
  | x :: xs, vs, e => by
    simp only [Go.Proofs.YtdjemlkllbhdlaaGreat.evs] at e
    cases hx : evk F x with
    | none => simp [hx] at e
    | some v =>
      cases hy : Go.Proofs.YtdjemlkllbhdlaaGreat.evs F xs with
      | none => simp [hx, hy] at e
      | some us => simp [hx, hy] at e; subst e; simp [h.eval hx, Agrees.evs h hy]
theorem Agrees.evp (h : Agrees n F a) : ∀ {xs : List (Nat × Operand)} {vs : List (Nat × Value)}, Go.Proofs.YtdjemlkllbhdlaaGreat.evp F xs = some vs → xs.map (fun p => (p.1, a.eval p.2)) = vs
  | [], vs, e => by simp [Go.Proofs.YtdjemlkllbhdlaaGreat.evp] at e; subst e; rfl
  | (i, x) :: xs, vs, e => by
    simp only [Go.Proofs.YtdjemlkllbhdlaaGreat.evp] at e
    cases hx : evk F x with
    | none => simp [hx] at e
    | some v =>
      cases hy : Go.Proofs.YtdjemlkllbhdlaaGreat.evp F xs with
      | none => simp [hx, hy] at e
      | some us => simp [hx, hy] at e; subst e; simp [h.eval hx, Agrees.evp h hy]

theorem cellsL_eq (v : Value) : cellsL v = v.cells.toList := by cases v <;> rfl
theorem cellsL_size (v : Value) : (cellsL v).length = v.cells.size := by rw [cellsL_eq]; simp

theorem foldl_set_toList (vs : List Value) : ∀ (cs : Array Value) (off j : Nat), off + j + vs.length ≤ cs.size →
    ((vs.zipIdx j).foldl (fun cs (p : Value × Nat) => cs.setIfInBounds (off + p.2) p.1) cs).toList = cs.toList.take (off + j) ++ (vs ++ cs.toList.drop (off + j + vs.length)) := by
  induction vs with
  | nil => intro cs off j h; simp
  | cons v vs ih =>
    intro cs off j h
    simp only [List.length_cons] at h
    simp only [List.zipIdx_cons, List.foldl_cons]
    rw [show off + j + (v :: vs).length = off + (j + 1) + vs.length from by simp; omega]
    rw [ih _ off (j + 1) (by simp; omega)]
    have hlt : off + j < cs.toList.length := by simp; omega
    rw [Array.toList_setIfInBounds]
    rw [show off + (j + 1) = off + j + 1 from by omega]
    rw [List.take_set, List.drop_set, if_pos (by omega)]
    rw [List.take_succ_eq_append_getElem hlt]
    rw [List.set_append_right (off + j) v (by simp; omega)]
    have e : off + j - min (off + j) cs.size = 0 := by simp at hlt; omega
    simp [e]

theorem putAt_array {cs : Array Value} {off : Nat} {v : Value} {l : List Value} (h : putAt cs.toList off (cellsL v) = some l) :
    ¬ (off + v.cells.size > cs.size) ∧ v.cells.zipIdx.foldl (fun cs (p : Value × Nat) => cs.setIfInBounds (off + p.2) p.1) cs = l.toArray := by
  unfold putAt at h
  cases hb : Nat.ble (off + (cellsL v).length) cs.toList.length with
  | false => rw [hb] at h; cases h
  | true =>
    have hle := Nat.le_of_ble_eq_true hb
    rw [cellsL_size] at hle
    simp only [Array.length_toList] at hle
    simp only [hb, cond_true, Option.some.injEq] at h
    refine ⟨by omega, ?_⟩
    rw [← h, cellsL_eq, ← Array.foldl_toList]
    have := foldl_set_toList v.cells.toList cs off 0 (by simp; omega)
    simp only [Nat.add_zero] at this
    rw [← this]
    simp

theorem fillG_spec (place : Nat → Option (Nat × Nat)) : ∀ (ps : List (Nat × Value)) (l l' : List Value), fillG place l ps = some l' → Instr.fill place l.toArray ps = some l'.toArray
  | [], l, l', h => by simp only [fillG, Option.some.injEq] at h; subst h; rfl
  | (i, v) :: ps, l, l', h => by
    simp only [fillG] at h
    unfold Instr.fill
    cases hp : place i with
    | none => rw [hp] at h; cases h
    | some q =>
      obtain ⟨off, size⟩ := q
      rw [hp] at h
      simp only at h ⊢
      cases hs : Nat.beq (cellsL v).length size with
      | false => rw [hs] at h; cases h
      | true =>
        rw [hs] at h
        have hse := Nat.eq_of_beq_eq_true hs
        rw [cellsL_size] at hse
        simp only [cond_true] at h
        cases hq : putAt l off (cellsL v) with
        | none => rw [hq] at h; cases h
        | some l2 =>
          rw [hq] at h
          simp only at h
          have := putAt_array (cs := l.toArray) (off := off) (v := v) (l := l2) hq
          have hc : (decide (v.cells.size ≠ size) || decide (off + v.cells.size > l.toArray.size)) = false := by
            rw [Bool.or_eq_false_iff]; exact ⟨by simpa using hse, by simpa using this.1⟩
          rw [if_neg (by rw [hc]; exact Bool.false_ne_true), this.2]
          exact fillG_spec place ps l2 l' h
theorem placesL_spec (hT : TabOK P T) : ∀ (fs : List Field) (pl : List (Nat × Nat)), placesL T (fs.map fun f => (f.offset, f.type)) = some pl →
    fs.mapM (fun f => (P.info? f.type).map fun i => (f.offset, i.size)) = some pl
  | [], pl, h => by simp only [List.map_nil, placesL, Option.some.injEq] at h; subst h; rfl
  | f :: fs, pl, h => by
    simp only [List.map_cons, placesL] at h
    cases hr : trow T f.type with
    | none => rw [hr] at h; cases h
    | some r =>
      rw [hr] at h
      cases hl : placesL T (fs.map fun f => (f.offset, f.type)) with
      | none => rw [hl] at h; cases h
      | some l =>
        rw [hl] at h
        simp only [Option.some.injEq] at h
        subst h
        obtain ⟨i, hi, hsz, _⟩ := (hT.row hr).info
        simp [List.mapM_cons, hi, hsz, placesL_spec hT fs l hl]
theorem RowOK.part {t : Nat} {r : TRow} (h : RowOK P t r) {cs : List Value} {off : Nat} {v : Value} (hv : partOf r cs off = some v) (w : World) : (part t cs.toArray off).run P w = .ok v w := by
  unfold partOf at hv
  cases hb : Nat.ble (off + r.size) cs.length with
  | false => rw [hb] at hv; cases hv
  | true =>
    rw [hb] at hv
    simp only [cond_true] at hv
    have hle := Nat.le_of_ble_eq_true hb
    unfold Go.part
    simp only [Sem.run_bind, h.run_agg, Result.andThen_ok]
    cases hk : r.kind.agg with
    | true =>
      rw [hk] at hv
      simp only [mkv, Option.some.injEq] at hv
      subst hv
      simp [h.run_size, Nat.add_sub_cancel_left]
    | false =>
      rw [hk] at hv
      simp only [mkv] at hv
      split at hv
      · rename_i e0; cases e0
      · rename_i u e1 e2
        cases hv
        have h0 : cs[off]? = some v := by
          have h1 := congrArg (fun l : List Value => l[0]?) e2
          simp only [List.getElem?_cons_zero] at h1
          rw [List.getElem?_take] at h1
          split at h1
          · simpa using h1
          · cases h1
        simp [h0]
      · cases hv
theorem pbin_spec {op : BinOp} {x y v : Value} (h : pbin op x y = some v) (t : TypeId) (w : World) (ox oy : Operand) :
    (do eqGuard op t ox oy x y; binOp op t x y : Sem Value).run P w = .ok v w := by
  unfold pbin at h
  split at h <;> first
    | (rename_i k a k' b
       split at h
       · rename_i hk
         subst hk
         cases h
         simp [eqGuard, binOp, Op.intArith, Op.intCmp]
       · cases h)
    | cases h

theorem pop_spec (hT : TabOK P T) (ha : Agrees n F a) {o : Oper} {v : Value} (h : pop T F o.op = some v) (w : World) : (execOp a.eval o).run P w = .ok (.value v) w := by
  obtain ⟨dst, op, type, pos, after, guard⟩ := o
  simp only at h
  unfold pop at h
  split at h
  · simp [execOp, ha.eval h]
  · simp [execOp, ha.eval h]
  · split at h
    · rename_i hc; simp [execOp, ha.eval hc, ha.eval h, asBool]
    · rename_i hc; simp [execOp, ha.eval hc, ha.eval h, asBool]
    · cases h
  · split at h
    · rename_i hx; cases h; simp [execOp, ha.eval hx]
    · rename_i hx; cases h; simp [execOp, ha.eval hx]
    · cases h
  · split at h
    · rename_i xt x y t _ _ u v' hx hy
      have := pbin_spec (P := P) h xt w x y
      simp only [Sem.run_bind] at this
      simp only [execOp, ha.eval hx, ha.eval hy, Sem.run_bind, this]
      simp
    · cases h
  · split at h
    · rename_i hx; cases h; simp [execOp, ha.eval hx, Op.unary]
    · cases h
  · split at h
    · rename_i hx; cases h; simp [execOp, ha.eval hx, Op.unary, Op.intArith]
    · cases h
  · split at h
    · rename_i vs hx
      simp only [Array.getElem?_toList] at h
      simp [execOp, ha.eval hx, Instr.extract, h]
    · cases h
  · split at h
    · rename_i u v' hx hy
      cases h
      have e1 := ha.evs hx
      have e2 := ha.evs hy
      have f1 := congrArg List.toArray e1
      have f2 := congrArg List.toArray e2
      simp only [← List.map_toArray, Array.toArray_toList] at f1 f2
      simp [execOp, Instr.makeFunc, f1, f2]
    · cases h
  · split at h
    · rename_i b o r hx hr
      split at h
      · rename_i fs hk
        split at h
        · rename_i off ft hf
          split at h
          · rename_i q hq
            cases hz : Nat.beq q.size 0 with
            | true => rw [hz] at h; cases h
            | false =>
              rw [hz] at h
              simp only [cond_false, Option.some.injEq] at h
              subst h
              obtain ⟨d, hd, hdk⟩ := (hT.row hr).under
              rw [hk] at hdk
              cases d <;> simp only [TK.of, reduceCtorEq] at hdk
              rename_i fields
              simp only [TK.struct.injEq] at hdk
              subst hdk
              rw [List.getElem?_map] at hf
              obtain ⟨fi, hff, hfi⟩ := Option.map_eq_some_iff.1 hf
              simp only [Prod.mk.injEq] at hfi
              obtain ⟨rfl, rfl⟩ := hfi
              have hne : ¬ q.size = 0 := fun e => by rw [e] at hz; cases hz
              rw [Array.getElem?_toList] at hff
              simp only [execOp, ha.eval hx, Instr.fieldAt, Sem.run_bind, run_underlying hd, Result.andThen_ok, hff, Instr.sureAddr, fieldPlace, (hT.row hq).run_size, if_neg hne, Sem.run_pure]
              simp only [Addr.add]
              split
              · rename_i e; simp [e]
              · rfl
          · cases h
        · cases h
      · cases h
    · cases h
  · split at h
    · rename_i cs r hx hr
      split at h
      · rename_i fs hk
        split at h
        · rename_i off ft hf
          split at h
          · rename_i q hq
            obtain ⟨d, hd, hdk⟩ := (hT.row hr).under
            rw [hk] at hdk
            cases d <;> simp only [TK.of, reduceCtorEq] at hdk
            rename_i fields
            simp only [TK.struct.injEq] at hdk
            subst hdk
            rw [List.getElem?_map] at hf
            obtain ⟨fi, hff, hfi⟩ := Option.map_eq_some_iff.1 hf
            simp only [Prod.mk.injEq] at hfi
            obtain ⟨rfl, rfl⟩ := hfi
            rw [Array.getElem?_toList] at hff
            have hp := (hT.row hq).part h w
            simp only [Array.toArray_toList] at hp
            simp only [execOp, ha.eval hx, Instr.field, Sem.run_bind, run_underlying hd, Result.andThen_ok, hff, asAgg, Sem.run_pure, hp]
          · cases h
        · cases h
      · cases h
    · cases h
  · split at h
    · rename_i ty ps _ _ r vs hr hv
      have hps := ha.evp hv
      have hcl : (cellsL r.zero).toArray = r.zero.cells := by rw [cellsL_eq]
      have hbuilt : ∀ (cells : Array Value), P.built ty vs = some cells → (execOp a.eval ⟨dst, .build ty ps, type, pos, after, guard⟩).run P w = .ok (.value (.agg cells)) w := by
        intro cells hb
        have hrb := run_build (P := P) w _ vs.toArray cells (by simpa using hb)
        rw [← hps] at hrb
        simp only [execOp, Sem.run_bind]
        have e : Array.map (fun x => (x.1, a.eval x.2)) ps = (List.map (fun p => (p.1, a.eval p.2)) ps.toList).toArray := by obtain ⟨l⟩ := ps; simp
        rw [e, hrb]
        simp
      obtain ⟨i, hi, _, _, hz⟩ := (hT.row hr).info
      obtain ⟨d, hd, hdk⟩ := (hT.row hr).under
      split at h
      · rename_i fs hk
        split at h
        · rename_i pl hpl
          split at h
          · rename_i l hl
            cases h
            rw [hk] at hdk
            cases d <;> simp only [TK.of, reduceCtorEq] at hdk
            simp only [TK.struct.injEq] at hdk
            subst hdk
            have h1 := placesL_spec hT _ _ hpl
            have h2 := fillG_spec _ _ _ _ hl
            rw [hcl] at h2
            refine hbuilt _ ?_
            simp only [Program.built, hi, hd, hz, h1]
            simpa using h2
          · cases h
        · cases h
      · rename_i m e hk
        split at h
        · rename_i q hq
          split at h
          · rename_i l hl
            cases h
            rw [hk] at hdk
            cases d <;> simp only [TK.of, reduceCtorEq] at hdk
            simp only [TK.array.injEq] at hdk
            obtain ⟨rfl, rfl⟩ := hdk
            obtain ⟨ie, hie, hsz, _⟩ := (hT.row hq).info
            have h2 := fillG_spec _ _ _ _ hl
            rw [hcl] at h2
            refine hbuilt _ ?_
            simp only [Program.built, hi, hd, hz, hie, hsz]
            exact h2
          · cases h
        · cases h
      · cases h
    · cases h
  · split at h
    · rename_i r q k m hr hq hx
      split at h
      · rename_i ks kd hks hkd
        cases h
        obtain ⟨d, hd, hdk⟩ := (hT.row hr).under
        obtain ⟨d', hd', hdk'⟩ := (hT.row hq).under
        rw [hks] at hdk
        rw [hkd] at hdk'
        cases d <;> simp only [TK.of, reduceCtorEq] at hdk
        cases d' <;> simp only [TK.of, reduceCtorEq] at hdk'
        simp only [TK.int.injEq] at hdk'
        subst hdk'
        simp [execOp, convert, run_underlying hd, run_underlying hd', ha.eval hx, Conv.intToInt]
      · cases h
    · cases h
  · split at h
    · rename_i xs ts _ _ x t hxs hts
      have exs : xs = #[x] := by have := congrArg List.toArray hxs; simpa using this
      have ets : ts = #[t] := by have := congrArg List.toArray hts; simpa using this
      subst exs ets
      split at h
      · rename_i A m c r hx hr
        split at h
        · rename_i e hk
          cases h
          obtain ⟨d, hd, hdk⟩ := (hT.row hr).under
          rw [hk] at hdk
          cases d <;> simp only [TK.of, reduceCtorEq] at hdk
          simp [execOp, resolve, invoke, builtin, Builtin.len_, run_underlying hd, ha.eval hx, goInt]
        · cases h
      · rename_i s r hx hr
        split at h
        · rename_i hk
          cases h
          obtain ⟨d, hd, hdk⟩ := (hT.row hr).under
          rw [hk] at hdk
          cases d <;> simp only [TK.of, reduceCtorEq] at hdk
          simp [execOp, resolve, invoke, builtin, Builtin.len_, run_underlying hd, ha.eval hx, goInt]
        · cases h
      · cases h
    · cases h
  · split at h
    · rename_i xs k x k' y hxs
      cases h
      have f1 := congrArg List.toArray (ha.evs hxs)
      simp only [← List.map_toArray, Array.toArray_toList] at f1
      simp [execOp, resolve, invoke, builtin, Builtin.min_, Builtin.min2, f1]
    · cases h
  · split at h
    · rename_i xs k x k' y hxs
      cases h
      have f1 := congrArg List.toArray (ha.evs hxs)
      simp only [← List.map_toArray, Array.toArray_toList] at f1
      simp [execOp, resolve, invoke, builtin, Builtin.max_, Builtin.max2, f1]
    · cases h
  · cases h
end
end Go.Proofs.YtdjemlkllbhdlaaGreat

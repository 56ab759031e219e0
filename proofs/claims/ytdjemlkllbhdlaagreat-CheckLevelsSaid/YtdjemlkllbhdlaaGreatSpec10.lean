/- Checking a function: what is defined where, what is asked. -/
import Derived.Test.YtdjemlkllbhdlaaGreatT11
import Derived.Test.YtdjemlkllbhdlaaGreatMaps2
set_option linter.unusedVariables false
set_option linter.unusedSimpArgs false
namespace Go.Proofs.YtdjemlkllbhdlaaGreat
open Go Go.RowKit

structure DefD where
  blk : Int
  pos : Int
  bits : Int
  lanes : Int
  deriving Inhabited, DecidableEq
abbrev dv (d : DefD) : Value := .agg #[.int .i64 d.blk, .int .i64 d.pos, .int .i64 d.bits, .int .i64 d.lanes]
abbrev prv (d : Int × Int) : Value := .agg #[.int .i64 d.1, .int .i64 d.2]
def encm {α : Type} (enc : α → Value) (ms : List (Int × α)) : List (Int × Value) := ms.map fun p => (p.1, enc p.2)
theorem encm_len {α : Type} (enc : α → Value) (ms : List (Int × α)) : (encm enc ms).length = ms.length := by simp [encm]
theorem encm_get {α : Type} (enc : α → Value) : ∀ (ms : List (Int × α)) (q : Int), mget (encm enc ms) q = (mget ms q).map enc
  | [], _ => rfl
  | (a, x) :: l, q => by
    by_cases e : a = q
    · simp [encm, mget, e]
    · have := encm_get enc l q
      simp only [encm] at this
      simp [encm, mget, e, this]
theorem encm_put {α : Type} (enc : α → Value) : ∀ (ms : List (Int × α)) (q : Int) (v : α), encm enc (mput ms q v) = mput (encm enc ms) q (enc v)
  | [], _, _ => rfl
  | (a, x) :: l, q, v => by
    by_cases e : a = q
    · simp [encm, mput, e]
    · have := encm_put enc l q v
      simp only [encm] at this
      simp [encm, mput, e, this]
theorem own_cell1 {xs : List Value} {off : Nat} {v : Value} (h : xs[off]? = some v) : ∀ (j : Nat) u, [v][j]? = some u → xs[off + j]? = some u := fun j u hu => by
  cases j with
  | zero => simp at hu; subst hu; exact h
  | succ j => simp at hu
section
variable {P : Program} {T : List TRow} {fn : Func} {w0 : World} {H0 : Hp} {X : List Nat} {k : List Item} {F : Fk} {H : Hp} {L : List Chunk} {R : Ending → World → Prop} {ops : Array Oper} {ty : TypeId} {pos : String} {af : Array Edge} {g : Option (Nat × Bool)} {dst : Option Nat}
theorem RunY.lookupT {α : Type} (enc : α → Value) (z : α) (hT : TabOK P T) {t kt et b ci : Nat} {x y : Operand} {r rk re : TRow} {ms : List (Int × α)} {q : Int} {ok : Bool} (hx : evk F x = some (.map (some b))) (hy : evk F y = some (.int .i64 q))
    (hr : trow T t = some r) (hm : r.kind = .map kt et) (hrk : trow T kt = some rk) (hk : rk.kind = .int .i64) (hre : trow T et = some re) (hz : re.zero = enc z) (hL : L[ci]? = some (Chunk.imap b (encm enc ms))) {X' : α} (hX : (mget ms q).getD z = X') :
    RunY P fn w0 H0 X F H L ⟨dst, .lookup t x y ok, ty, pos, af, g⟩ (if ok then .tuple #[enc X', .bool (mget ms q).isSome] else enc X') := by
  have := RunY.lookup (P := P) (fn := fn) (w0 := w0) (H0 := H0) (X := X) (F := F) (H := H) (L := L) (ty := ty) (pos := pos) (af := af) (g := g) (dst := dst) (ok := ok) hT hx hy hr hm hrk hk hre hL
  have e : (mget (encm enc ms) q).getD re.zero = enc X' := by rw [encm_get, hz, ← hX]; cases mget ms q <;> rfl
  have e2 : (mget (encm enc ms) q).isSome = (mget ms q).isSome := by rw [encm_get]; cases mget ms q <;> rfl
  rw [e, e2] at this
  exact this
theorem RunY.lookupHT {α : Type} (enc : α → Value) (z : α) (hT : TabOK P T) {t kt et b : Nat} {x y : Operand} {r rk re : TRow} {ms : List (Int × α)} {q : Int} {ok : Bool} {H1 : Hp} (hb : H1 b = some (mobj (encm enc ms))) (hH : H1.le H) (hx : evk F x = some (.map (some b))) (hy : evk F y = some (.int .i64 q))
    (hr : trow T t = some r) (hm : r.kind = .map kt et) (hrk : trow T kt = some rk) (hk : rk.kind = .int .i64) (hre : trow T et = some re) (hz : re.zero = enc z) {X' : α} (hX : (mget ms q).getD z = X') :
    RunY P fn w0 H0 X F H L ⟨dst, .lookup t x y ok, ty, pos, af, g⟩ (if ok then .tuple #[enc X', .bool (mget ms q).isSome] else enc X') := by
  have := RunY.lookupH (P := P) (fn := fn) (w0 := w0) (H0 := H0) (X := X) (F := F) (H := H) (L := L) (ty := ty) (pos := pos) (af := af) (g := g) (dst := dst) (ok := ok) hT hb hH hx hy hr hm hrk hk hre
  have e : (mget (encm enc ms) q).getD re.zero = enc X' := by rw [encm_get, hz, ← hX]; cases mget ms q <;> rfl
  have e2 : (mget (encm enc ms) q).isSome = (mget ms q).isSome := by rw [encm_get]; cases mget ms q <;> rfl
  rw [e, e2] at this
  exact this
theorem RunY.lenMapT {α : Type} {enc : α → Value} (hT : TabOK P T) {t kt et b ci : Nat} {x : Operand} {r : TRow} {ms : List (Int × α)} (hx : evk F x = some (.map (some b))) (hr : trow T t = some r) (hm : r.kind = .map kt et) (hL : L[ci]? = some (Chunk.imap b (encm enc ms))) :
    RunY P fn w0 H0 X F H L ⟨dst, .call ⟨.builtin .len, #[x], #[t]⟩, ty, pos, af, g⟩ (.int .i64 ms.length) := by
  have := RunY.lenMap (P := P) (fn := fn) (w0 := w0) (H0 := H0) (X := X) (F := F) (H := H) (L := L) (ty := ty) (pos := pos) (af := af) (g := g) (dst := dst) hT hx hr hm hL
  rw [encm_len] at this
  exact this
theorem RowOK.array {t n e : Nat} {r : TRow} (h : RowOK P t r) (hk : r.kind = .array n e) : P.underlying t = some (.array n e) := by
  obtain ⟨d, hd, e'⟩ := h.under
  rw [hk] at e'
  cases d <;> simp only [TK.of, reduceCtorEq, TK.array.injEq] at e'
  obtain ⟨rfl, rfl⟩ := e'; exact hd
theorem run_equal_pair (hT : TabOK P T) {t e : Nat} {r q : TRow} (hr : trow T t = some r) (hk : r.kind = .array 2 e) (hq : trow T e = some q) (hqk : q.kind = .int .i64) (hqs : q.size = 1) (a b c d : Int) (w : World) :
    (Op.equal t (.agg #[.int .i64 a, .int .i64 b]) (.agg #[.int .i64 c, .int .i64 d])).run P w = .ok (decide (a = c) && decide (b = d)) w := by
  have hu := (hT.row hr).array hk
  have hi := (hT.row hq).int hqk
  have hsz := (hT.row hq).run_size
  have hp0 : ∀ (x y : Int) w, (part e #[.int .i64 x, .int .i64 y] 0).run P w = .ok (.int .i64 x) w := fun x y w => by
    have := (hT.row hq).part (cs := [.int .i64 x, .int .i64 y]) (off := 0) (v := .int .i64 x) (by simp [partOf, hqs, hqk, TK.agg, mkv]; rfl) w
    exact this
  have hp1 : ∀ (x y : Int) w, (part e #[.int .i64 x, .int .i64 y] 1).run P w = .ok (.int .i64 y) w := fun x y w => by
    have := (hT.row hq).part (cs := [.int .i64 x, .int .i64 y]) (off := 1) (v := .int .i64 y) (by simp [partOf, hqs, hqk, TK.agg, mkv]; rfl) w
    exact this
  show (Op.equalIn (9999 + 1) t _ _).run P w = _
  unfold Op.equalIn
  have heq : ∀ (x y : Int) w, (Op.equalIn 9999 e (.int .i64 x) (.int .i64 y)).run P w = .ok (x == y) w := fun x y w => by
    show (Op.equalIn (9998 + 1) e _ _).run P w = _
    unfold Op.equalIn
    simp [run_underlying hi]
  simp only [Sem.run_bind, run_underlying hu, Result.andThen_ok, hsz, hqs]
  simp [Std.Legacy.Range.forIn_eq_forIn_range', Std.Legacy.Range.size, List.range', hp0, hp1, heq]
  by_cases h1 : a = c <;> by_cases h2 : b = d <;> simp [h1, h2, hp0, hp1, heq]
theorem RunY.eqPair (hT : TabOK P T) {t ty' e : Nat} {x y : Operand} {r q : TRow} {a b c d : Int} (hx : evk F x = some (.agg #[.int .i64 a, .int .i64 b])) (hy : evk F y = some (.agg #[.int .i64 c, .int .i64 d]))
    (hr : trow T t = some r) (hk : r.kind = .array 2 e) (hq : trow T e = some q) (hqk : q.kind = .int .i64) (hqs : q.size = 1) (hg : P.eqGuardType P.depth t = false) : RunY P fn w0 H0 X F H L ⟨dst, .binOp .eql t x y ty', ty, pos, af, g⟩ (.bool (decide (a = c) && decide (b = d))) := fun a' w ha _ => by
  have h1 := run_eqGuard_agg (P := P) (w := w) .eql t x y #[.int .i64 a, .int .i64 b] #[.int .i64 c, .int .i64 d] hg
  have h2 := run_equal_pair (P := P) hT hr hk hq hqk hqs a b c d w
  simp [execOp, ha.eval hx, ha.eval hy, h1, binOp, h2]
theorem RunY.nePair (hT : TabOK P T) {t ty' e : Nat} {x y : Operand} {r q : TRow} {a b c d : Int} (hx : evk F x = some (.agg #[.int .i64 a, .int .i64 b])) (hy : evk F y = some (.agg #[.int .i64 c, .int .i64 d]))
    (hr : trow T t = some r) (hk : r.kind = .array 2 e) (hq : trow T e = some q) (hqk : q.kind = .int .i64) (hqs : q.size = 1) (hg : P.eqGuardType P.depth t = false) : RunY P fn w0 H0 X F H L ⟨dst, .binOp .neq t x y ty', ty, pos, af, g⟩ (.bool (!(decide (a = c) && decide (b = d)))) := fun a' w ha _ => by
  have h1 := run_eqGuard_agg (P := P) (w := w) .neq t x y #[.int .i64 a, .int .i64 b] #[.int .i64 c, .int .i64 d] hg
  have h2 := run_equal_pair (P := P) hT hr hk hq hqk hqs a b c d w
  simp [execOp, ha.eval hx, ha.eval hy, h1, binOp, h2]
end
/-! ### Whether the blocks fit -/
def phiFit (pd : List Int) (p : PhiD) : Bool := !((p.frm.length : Int) == 0) && (eqL p.frm pd && (p.args.length : Int) == p.frm.length)
def endFit (e : EndD) : Bool := !((e.kind == 1 || e.kind == 3) && e.arg != 0)
def blkFit (g : GraphD) (tl : List Int) (i : Int) (b : BlockD) : Bool := overD tl i i && (b.phis.all (phiFit (nth g.pred i)) && endFit b.en)
def fitFrom (g : GraphD) (tl : List Int) : Int → List BlockD → Bool
  | _, [] => true
  | i, b :: l => blkFit g tl i b && fitFrom g tl (i + 1) l
def shapeW (f : FuncD) (tl : List Int) : Bool := fitFrom (ofD f).1 tl 0 f.blocks
theorem of_ok {f : FuncD} (h : (ofD f).2 = 0) : f.blocks.length ≤ 64 ∧ makeOK (f.blocks.map succOf) = true ∧ ofD f = (⟨f.blocks.map succOf, predsD (f.blocks.map succOf)⟩, 0) ∧ mayG (ofD f).1 = true ∧ 0 < (ofD f).1.succ.length ∧ (ofD f).1.pred.length = f.blocks.length ∧ (ofD f).1.succ.length = f.blocks.length ∧ f.blocks.all (ofOK f.blocks.length) = true := by
  unfold ofD at h
  by_cases h1 : (f.blocks.length : Int) > 64
  · rw [if_pos h1] at h; cases h
  · rw [if_neg h1] at h
    by_cases h2 : f.blocks.all (ofOK f.blocks.length) = true
    · rw [if_pos h2] at h
      have h3 : makeOK (f.blocks.map succOf) = true := by
        cases hm : makeOK (f.blocks.map succOf) with
        | true => rfl
        | false => rw [make_no hm] at h; cases h
      have e : ofD f = (⟨f.blocks.map succOf, predsD (f.blocks.map succOf)⟩, 0) := by rw [of_yes h1 h2, make_yes h3]
      have hl := makeOK_rows h3
      rw [List.length_map] at hl
      have hpl : (predsD (f.blocks.map succOf)).length = f.blocks.length := by unfold predsD; rw [List.length_map, List.length_range, List.length_map]
      refine ⟨hl.2.1, h3, e, ?_, ?_, ?_, ?_, h2⟩
      · rw [e]; unfold mayG; simp only; rw [make_yes h3]; simp [eqLL_eq]
      · rw [e]; simp only [List.length_map]; omega
      · rw [e]; exact hpl
      · rw [e]; simp
    · rw [if_neg h2] at h; cases h
theorem endFit_yes {e : EndD} (h : (e.kind ≠ 1 ∧ e.kind ≠ 3) ∨ e.arg = 0) : endFit e = true := by
  unfold endFit
  rcases h with ⟨h1, h2⟩ | h
  · rw [beq_false_of_ne h1, beq_false_of_ne h2]; rfl
  · rw [h]; simp
theorem endFit_no {e : EndD} (h : e.kind = 1 ∨ e.kind = 3) (h2 : e.arg ≠ 0) : endFit e = false := by
  unfold endFit
  rcases h with h | h <;> rw [h] <;> simp [h2]
theorem phiFit_no {pd : List Int} {p : PhiD} (h : (p.frm.length : Int) = 0 ∨ eqL p.frm pd = false ∨ (p.args.length : Int) ≠ p.frm.length) : phiFit pd p = false := by
  unfold phiFit
  rcases h with h | h | h
  · rw [h]; rfl
  · rw [h]; simp
  · rw [beq_false_of_ne h]; simp
theorem phiFit_yes {pd : List Int} {p : PhiD} (h : (p.frm.length : Int) ≠ 0) (h2 : eqL p.frm pd = true) (h3 : (p.args.length : Int) = p.frm.length) : phiFit pd p = true := by
  unfold phiFit
  rw [beq_false_of_ne h, h2, h3]; simp
theorem fit_step {g : GraphD} {tl : List Int} {bs : List BlockD} {i : Int} {x : BlockD} {r : Bool} (h : r = fitFrom g tl i (bs.drop i.toNat)) (h0 : 0 ≤ i) (h1 : i < bs.length) (hx : x = nth bs i) : r = (blkFit g tl i x && fitFrom g tl (i + 1) (bs.drop (i + 1).toNat)) := by
  rw [h, drop_nth h0 h1, ← hx, toNat_succ h0]; rfl
theorem fit_go {g : GraphD} {tl : List Int} {bs : List BlockD} {i : Int} {x : BlockD} {r : Bool} (h : r = fitFrom g tl i (bs.drop i.toNat)) (h0 : 0 ≤ i) (h1 : i < bs.length) (hx : x = nth bs i) (ho : overD tl i i = true) (hp : x.phis.all (phiFit (nth g.pred i)) = true) (he : endFit x.en = true) : r = fitFrom g tl (i + 1) (bs.drop (i + 1).toNat) := by
  rw [fit_step h h0 h1 hx]; unfold blkFit; rw [ho, hp, he]; rfl
theorem fit_no {g : GraphD} {tl : List Int} {bs : List BlockD} {i : Int} {x : BlockD} {r : Bool} (h : r = fitFrom g tl i (bs.drop i.toNat)) (h0 : 0 ≤ i) (h1 : i < bs.length) (hx : x = nth bs i) (hn : overD tl i i = false ∨ x.phis.all (phiFit (nth g.pred i)) = false ∨ endFit x.en = false) : r = false := by
  rw [fit_step h h0 h1 hx]; unfold blkFit
  rcases hn with hn | hn | hn <;> rw [hn] <;> simp
/-! ### Whether all looks right by itself -/
def ofOpD (lv : Int) (o : OpD) : Bool := if lv < 2 ∧ (o.lanes > 1 ∨ o.kind > 20) then false else if lv < 1 ∧ o.kind > 17 then false else mayO o
def typedB (lv : Int) (b : BlockD) : Bool := !(b.phis.any fun p => !mayW p.bits) && !(b.ops.any fun o => !ofOpD lv o)
def typedD (f : FuncD) (lv : Int) : Bool := mayW f.ret && (!(f.params.any fun x => !mayW x) && f.blocks.all (typedB lv))
theorem typed_no {f : FuncD} {lv : Int} (h : typedD f lv = false) : (6 : Int) = if typedD f lv = true then 0 else 6 := by rw [h]; rfl
theorem typed_yes {f : FuncD} {lv : Int} (h : typedD f lv = true) : (0 : Int) = if typedD f lv = true then 0 else 6 := by rw [h]; rfl
end Go.Proofs.YtdjemlkllbhdlaaGreat

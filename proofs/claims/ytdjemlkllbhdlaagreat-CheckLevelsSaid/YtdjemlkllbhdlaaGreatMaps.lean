/- Maps with whole numbers as keys: what lies in memory, reading, writing. -/
import Derived.Test.YtdjemlkllbhdlaaGreatSpec9
set_option linter.unusedVariables false
set_option linter.unusedSimpArgs false
namespace Go.Proofs.YtdjemlkllbhdlaaGreat
open Go Go.RowKit

def entsF : Nat → List (Int × Value) → List MapEntry
  | _, [] => []
  | j, (k, v) :: l => ⟨.int .i64 k, v, j⟩ :: entsF (j + 1) l
def mget {α : Type} : List (Int × α) → Int → Option α
  | [], _ => none
  | (a, x) :: l, k => if a = k then some x else mget l k
def mput {α : Type} : List (Int × α) → Int → α → List (Int × α)
  | [], k, v => [(k, v)]
  | (a, x) :: l, k, v => if a = k then (k, v) :: l else (a, x) :: mput l k v
def mix {α : Type} : List (Int × α) → Int → Option Nat
  | [], _ => none
  | (a, _) :: l, k => if a = k then some 0 else (mix l k).map (· + 1)
theorem entsF_len : ∀ (j : Nat) (l : List (Int × Value)), (entsF j l).length = l.length
  | _, [] => rfl
  | j, (k, v) :: l => by simp [entsF, entsF_len (j + 1) l]
theorem mix_none {α : Type} : ∀ {l : List (Int × α)} {k : Int}, mix l k = none → mget l k = none ∧ ∀ v, mput l k v = l ++ [(k, v)]
  | [], k, _ => ⟨rfl, fun _ => rfl⟩
  | (a, x) :: l, k, h => by
    by_cases e : a = k
    · simp [mix, e] at h
    · simp only [mix, if_neg e, Option.map_eq_none_iff] at h
      obtain ⟨h1, h2⟩ := mix_none h
      exact ⟨by simp [mget, e, h1], fun v => by simp [mput, e, h2]⟩
theorem mix_some {α : Type} : ∀ {l : List (Int × α)} {k : Int} {i : Nat}, mix l k = some i → ∃ v, mget l k = some v ∧ i < l.length ∧ l[i]? = some (k, v)
  | [], k, i, h => by cases h
  | (a, x) :: l, k, i, h => by
    by_cases e : a = k
    · subst e
      simp [mix] at h; subst h
      exact ⟨x, by simp [mget], by simp, by simp⟩
    · simp only [mix, if_neg e, Option.map_eq_some_iff] at h
      obtain ⟨j, hj, rfl⟩ := h
      obtain ⟨v, h1, h2, h3⟩ := mix_some hj
      exact ⟨v, by simp [mget, e, h1], by simp; omega, by simpa using h3⟩
theorem findNow_ents (q : Int) : ∀ (l : List (Int × Value)) (j i : Nat), Instr.findNow (.int .i64) (.int .i64 q) (entsF j l) i = some (match mix l q with | none => none | some p => some (i + p, (mget l q).getD undef))
  | [], _, _ => rfl
  | (a, x) :: l, j, i => by
    simp only [entsF, Instr.findNow, Instr.sameNow, if_true]
    by_cases e : a = q
    · subst e
      simp [mix, mget]
    · have e2 : (q == a) = false := by simpa using fun h => e h.symm
      simp only [e2, findNow_ents q l (j + 1) (i + 1), mix, mget, if_neg e]
      cases mix l q with
      | none => rfl
      | some p => simp only [Option.map_some]; congr 3; omega
theorem modify_ents (q : Int) (v : Value) : ∀ (l : List (Int × Value)) (j p : Nat), mix l q = some p → (entsF j l).modify p (fun e => { e with key := .int .i64 q, val := v }) = entsF j (mput l q v)
  | [], _, _, h => by cases h
  | (a, x) :: l, j, p, h => by
    by_cases e : a = q
    · subst e
      simp [mix] at h; subst h
      simp [entsF, mput]
    · simp only [mix, if_neg e, Option.map_eq_some_iff] at h
      obtain ⟨p', hp, rfl⟩ := h
      simp [entsF, mput, e, modify_ents q v l (j + 1) p' hp]
theorem entsF_snoc (q : Int) (v : Value) : ∀ (l : List (Int × Value)) (j : Nat), entsF j (l ++ [(q, v)]) = entsF j l ++ [⟨.int .i64 q, v, j + l.length⟩]
  | [], j => rfl
  | (a, x) :: l, j => by
    simp only [List.cons_append, entsF, entsF_snoc q v l (j + 1), List.length_cons]
    congr 4; omega
theorem mput_len {α : Type} (q : Int) (v : α) : ∀ (l : List (Int × α)), mput l q v = l ++ [(q, v)] ∨ (mput l q v).length = l.length
  | [] => .inl rfl
  | (a, x) :: l => by
    by_cases e : a = q
    · right; simp [mput, e]
    · rcases mput_len q v l with h | h
      · left; simp [mput, e, h]
      · right; simp [mput, e, h]
theorem mput_len' {α : Type} {q : Int} {v : α} : ∀ {l : List (Int × α)} {p : Nat}, mix l q = some p → (mput l q v).length = l.length
  | [], _, h => by cases h
  | (a, x) :: l, p, h => by
    by_cases e : a = q
    · simp [mput, e]
    · simp only [mix, if_neg e, Option.map_eq_some_iff] at h
      obtain ⟨p', hp, rfl⟩ := h
      simp [mput, e, mput_len' hp]

def mobj (l : List (Int × Value)) : Obj := .map (entsF 0 l).toArray l.length
/-- A map that is the call's own. -/
def Chunk.imap (b : Nat) (l : List (Int × Value)) : Chunk where
  blk := some b
  holds w := w.heap[b]? = some (mobj l)
  lt w h b' e := by cases e; exact lt_of_get h
  loc w w' h k := (k b rfl).trans h

section
variable {P : Program} {T : List TRow} {fn : Func} {w0 : World} {H0 : Hp} {X : List Nat} {k : List Item} {F : Fk} {H : Hp} {L : List Chunk} {R : Ending → World → Prop} {ops : Array Oper} {ty : TypeId} {pos : String} {af : Array Edge} {g : Option (Nat × Bool)} {dst : Option Nat}

theorem RowOK.int {t : Nat} {r : TRow} {q : IntKind} (h : RowOK P t r) (hk : r.kind = .int q) : P.underlying t = some (.int q) := by
  obtain ⟨d, hd, e⟩ := h.under
  rw [hk] at e
  cases d <;> simp only [TK.of, reduceCtorEq, TK.int.injEq] at e
  subst e; exact hd
theorem RowOK.map {t a e : Nat} {r : TRow} (h : RowOK P t r) (hk : r.kind = .map a e) : P.underlying t = some (.map a e) := by
  obtain ⟨d, hd, e'⟩ := h.under
  rw [hk] at e'
  cases d <;> simp only [TK.of, reduceCtorEq, TK.map.injEq] at e'
  obtain ⟨rfl, rfl⟩ := e'; exact hd

theorem run_findKey {kt : Nat} (hk : P.underlying kt = some (.int .i64)) (q : Int) (l : List (Int × Value)) (w : World) :
    (Instr.findKey kt (.int .i64 q) (entsF 0 l)).run P w = .ok (match mix l q with | none => none | some p => some (p, (mget l q).getD undef)) w := by
  unfold Instr.findKey
  simp only [Sem.run_bind, run_underlying hk, Result.andThen_ok, findNow_ents q l 0 0]
  cases mix l q <;> simp
theorem run_checkKey {kt : Nat} (hk : P.underlying kt = some (.int .i64)) (b : Bool) (q : Int) (w : World) : (Instr.checkKey b 10000 kt (.int .i64 q)).run P w = .ok () w := by
  show (Instr.checkKey b (9999 + 1) kt (.int .i64 q)).run P w = .ok () w
  unfold Instr.checkKey
  simp [run_underlying hk]
theorem run_lookup (hT : TabOK P T) {t kt et : Nat} {r rk re : TRow} (hr : trow T t = some r) (hm : r.kind = .map kt et) (hrk : trow T kt = some rk) (hk : rk.kind = .int .i64) (hre : trow T et = some re)
    {w : World} {b : Nat} {l : List (Int × Value)} (hb : w.heap[b]? = some (mobj l)) (q : Int) (ok : Bool) :
    (Instr.lookup t (.map (some b)) (.int .i64 q) ok).run P w = .ok (if ok then .tuple #[(mget l q).getD re.zero, .bool (mget l q).isSome] else (mget l q).getD re.zero) w := by
  have hg := run_getObj_map (P := P) (w := w) (r := b) (es := (entsF 0 l).toArray) (clock := l.length) hb
  have hkt := (hT.row hrk).int hk
  unfold Instr.lookup
  simp only [Sem.run_bind, run_underlying ((hT.row hr).map hm), Result.andThen_ok, hg, Sem.run_pure, run_checkKey hkt, run_findKey hkt]
  cases hx : mix l q with
  | none =>
    simp only [(mix_none hx).1, (hT.row hre).run_zero, Sem.run_bind, Result.andThen_ok, Sem.run_pure]
    cases ok <;> rfl
  | some p =>
    obtain ⟨v, h1, _, _⟩ := mix_some hx
    simp only [h1, Sem.run_pure, Result.andThen_ok, Option.getD_some, Option.isSome_some]
    cases ok <;> rfl

/-- Reading a map that is the call's own. -/
theorem RunY.lookup (hT : TabOK P T) {t kt et b ci : Nat} {x y : Operand} {r rk re : TRow} {l : List (Int × Value)} {q : Int} {ok : Bool} (hx : evk F x = some (.map (some b))) (hy : evk F y = some (.int .i64 q))
    (hr : trow T t = some r) (hm : r.kind = .map kt et) (hrk : trow T kt = some rk) (hk : rk.kind = .int .i64) (hre : trow T et = some re) (hL : L[ci]? = some (Chunk.imap b l)) :
    RunY P fn w0 H0 X F H L ⟨dst, .lookup t x y ok, ty, pos, af, g⟩ (if ok then .tuple #[(mget l q).getD re.zero, .bool (mget l q).isSome] else (mget l q).getD re.zero) := fun a w ha hs => by
  have hb : w.heap[b]? = some (mobj l) := hs.chunk hL
  have := run_lookup (P := P) hT hr hm hrk hk hre hb q ok
  simp [execOp, ha.eval hx, ha.eval hy, this]
/-- Reading a map in memory that stays. -/
theorem RunY.lookupH (hT : TabOK P T) {t kt et b : Nat} {x y : Operand} {r rk re : TRow} {l : List (Int × Value)} {q : Int} {ok : Bool} {H1 : Hp} (hb : H1 b = some (mobj l)) (hH : H1.le H) (hx : evk F x = some (.map (some b))) (hy : evk F y = some (.int .i64 q))
    (hr : trow T t = some r) (hm : r.kind = .map kt et) (hrk : trow T kt = some rk) (hk : rk.kind = .int .i64) (hre : trow T et = some re) :
    RunY P fn w0 H0 X F H L ⟨dst, .lookup t x y ok, ty, pos, af, g⟩ (if ok then .tuple #[(mget l q).getD re.zero, .bool (mget l q).isSome] else (mget l q).getD re.zero) := fun a w ha hs => by
  have hb' : w.heap[b]? = some (mobj l) := hs.sub b _ (hH b _ hb)
  have := run_lookup (P := P) hT hr hm hrk hk hre hb' q ok
  simp [execOp, ha.eval hx, ha.eval hy, this]

theorem Chg.putObj {w : World} {b : Nat} (o : Obj) (X : List Nat) (hb : b ∈ X) : Chg X w (w.putObj b o) :=
  ⟨rfl, rfl, rfl, by simp, fun k _ hk => World.putObj_heap_other (fun e => hk (e ▸ hb))⟩
theorem run_mapUpdate (hT : TabOK P T) {t kt et : Nat} {r rk : TRow} (hr : trow T t = some r) (hm : r.kind = .map kt et) (hrk : trow T kt = some rk) (hk : rk.kind = .int .i64)
    {w : World} {b : Nat} {l : List (Int × Value)} (hb : w.heap[b]? = some (mobj l)) (q : Int) (v : Value) :
    (Instr.mapUpdate t (.map (some b)) (.int .i64 q) v).run P w = .ok () (w.putObj b (mobj (mput l q v))) := by
  have hg := run_getObj_map (P := P) (w := w) (r := b) (es := (entsF 0 l).toArray) (clock := l.length) hb
  have hkt := (hT.row hrk).int hk
  have hset : ∀ o : Obj, (setObj b o).run P w = .ok () (w.putObj b o) := fun o => by simp [setObj, Sem.run, hb, mobj, World.putObj]
  unfold Instr.mapUpdate
  simp only [Sem.run_bind, run_underlying ((hT.row hr).map hm), Result.andThen_ok, hg, run_checkKey hkt, run_findKey hkt]
  cases hx : mix l q with
  | none =>
    simp only [hset]
    congr 2
    unfold mobj
    rw [(mix_none hx).2 v, entsF_snoc]
    simp
  | some p =>
    obtain ⟨v0, h1, h2, h3⟩ := mix_some hx
    have hkey : (((entsF 0 l).toArray[p]?).map (·.key)).getD (.int .i64 q) = .int .i64 q := by
      have : ∀ (l : List (Int × Value)) (j p : Nat), mix l q = some p → ((entsF j l)[p]?).map (·.key) = some (.int .i64 q) := by
        intro l
        induction l with
        | nil => intro j p h; cases h
        | cons c l ih =>
          obtain ⟨a, x⟩ := c
          intro j p h
          by_cases e : a = q
          · subst e; simp [mix] at h; subst h; simp [entsF]
          · simp only [mix, if_neg e, Option.map_eq_some_iff] at h
            obtain ⟨p', hp, rfl⟩ := h
            simpa [entsF] using ih (j + 1) p' hp
      have h4 := this l 0 p hx
      rw [List.getElem?_toArray, h4]; rfl
    have hst : (Instr.keyThatStays (.int .i64 q) (.int .i64 q)).run P w = .ok (.int .i64 q) w := by
      unfold Instr.keyThatStays
      rw [if_pos (by show Instr.sameBits (9999 + 1) _ _ = true; simp [Instr.sameBits])]
      simp
    simp only [hkey, Sem.run_bind, hst, Result.andThen_ok, hset]
    congr 2
    unfold mobj
    rw [mput_len' hx, ← modify_ents q v l 0 p hx]
    simp
end
end Go.Proofs.YtdjemlkllbhdlaaGreat

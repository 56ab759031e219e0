/- What operations take and give. -/
import Derived.Test.YtdjemlkllbhdlaaGreatSpec1
namespace Go.Proofs.YtdjemlkllbhdlaaGreat
open Go Go.RowKit

/-- A shape: a width and lanes. -/
instance : Rdc (Int × Int) where
  sz := 2
  rd _ vs x := vs = [.int .i64 x.1, .int .i64 x.2] ∧ I64 x.1 ∧ I64 x.2
  len h := by rw [h.1]; rfl
  mono _ h := h
  one h := by rw [h.1]; rfl
def AllP : List (Int × Int) → Prop
  | [] => True
  | x :: l => (I64 x.1 ∧ I64 x.2) ∧ AllP l
def flatP (l : List (Int × Int)) : List Value := l.flatMap fun x => [.int .i64 x.1, .int .i64 x.2]
theorem RdL_pairs {H : Hp} : ∀ (l : List (Int × Int)), AllP l → RdL H (flatP l) l
  | [], _ => rfl
  | x :: l, h => ⟨[.int .i64 x.1, .int .i64 x.2], flatP l, rfl, ⟨rfl, h.1⟩, RdL_pairs l h.2⟩
theorem AllP_replicate {x : Int × Int} (h : I64 x.1 ∧ I64 x.2) : ∀ n, AllP (List.replicate n x)
  | 0 => trivial
  | n + 1 => ⟨h, AllP_replicate h n⟩

def takesD (o : OpD) : List (Int × Int) :=
  let own := (o.bits, o.lanes)
  if o.kind = 0 then [] else
  if o.kind = 1 ∨ o.kind = 2 ∨ o.kind = 3 ∨ o.kind = 5 ∨ o.kind = 6 ∨ o.kind = 7 ∨ o.kind = 8 ∨ o.kind = 9 then [own, own] else
  if o.kind = 4 ∨ o.kind = 10 ∨ o.kind = 11 ∨ o.kind = 12 then [own, own] else
  if o.kind = 13 then [(1, 1), own, own] else
  if o.kind = 14 ∨ o.kind = 15 then [((if 128 < o.imm then 128 else o.imm), 1)] else
  if o.kind = 16 then [(64, 1)] else
  if o.kind = 17 then [(64, 1), own] else
  if o.kind = 18 ∨ o.kind = 19 then [(1, 1), (64, 1), own] else
  if o.kind = 20 then [(1, 1), own, own, own] else
  if o.kind = 21 then List.replicate o.lanes.toNat (o.bits, 1) else
  if o.kind = 22 then [own] else []
def takesOK (o : OpD) : Bool :=
  let one := o.lanes == 1
  let memory := decide (o.bits ≥ 8)
  if o.kind = 0 then cutD o.imm o.bits == o.imm else
  if o.kind = 1 ∨ o.kind = 2 ∨ o.kind = 3 ∨ o.kind = 5 ∨ o.kind = 6 ∨ o.kind = 7 ∨ o.kind = 8 ∨ o.kind = 9 then o.imm == 0 else
  if o.kind = 4 ∨ o.kind = 10 ∨ o.kind = 11 ∨ o.kind = 12 then o.imm == 0 && one else
  if o.kind = 13 then o.imm == 0 else
  if o.kind = 14 then one && (decide (o.imm < o.bits) && mayW o.imm) else
  if o.kind = 15 then one && (decide (o.imm > o.bits) && (decide (o.imm ≤ 64) && mayW o.imm)) else
  if o.kind = 16 ∨ o.kind = 17 then o.imm == 0 && memory else
  if o.kind = 18 ∨ o.kind = 19 then o.imm == 0 && (one && memory) else
  if o.kind = 20 then o.imm == 0 && one else
  if o.kind = 21 then o.imm == 0 && !one else
  if o.kind = 22 then !one && decide (o.imm < o.lanes) else false
def mayO (o : OpD) : Bool := shapeD o.bits o.lanes && (takesOK o && ((if storesK o.kind then o.dst == 0 else valueOK o.dst) && (((takesD o).length : Int) == o.args.length && o.args.all valueOK)))
def takesF (o : OpD) : List (Int × Int) := if mayO o then takesD o else []
def givesF (o : OpD) : Int × Int :=
  if !mayO o || storesK o.kind then (0, 0) else if 10 ≤ o.kind ∧ o.kind ≤ 12 then (1, 1) else if o.kind = 22 then (o.bits, 1) else (o.bits, o.lanes)
def eqL : List Int → List Int → Bool
  | [], [] => true
  | x :: l, y :: m => x == y && eqL l m
  | _, _ => false
theorem eqL_eq : ∀ {l m : List Int}, eqL l m = true ↔ l = m
  | [], [] => by simp [eqL]
  | [], _ :: _ => by simp [eqL]
  | _ :: _, [] => by simp [eqL]
  | x :: l, y :: m => by simp [eqL, eqL_eq]
theorem eqL_len : ∀ {l m : List Int}, l.length ≠ m.length → eqL l m = false
  | [], [], h => absurd rfl h
  | [], _ :: _, _ => rfl
  | _ :: _, [], _ => rfl
  | x :: l, y :: m, h => by simp only [eqL, eqL_len (l := l) (m := m) (by simpa using h), Bool.and_false]
theorem takes_ret {o : OpD} {l : List (Int × Int)} {ok : Bool} {A : Option Addr} {n c : Nat} {H : Hp} (e1 : takesD o = l) (e2 : takesOK o = ok) (hn : n = l.length) (hr : RdS H A l) :
    ∃ A' c', Value.tuple #[.slice A n c, .bool ok] = .tuple #[.slice A' (takesD o).length c', .bool (takesOK o)] ∧ RdS H A' (takesD o) ∧ ([] : List Chunk) = [] :=
  ⟨A, c, by rw [e1, e2, hn], e1 ▸ hr, rfl⟩
theorem Takes_ret {o : OpD} {l : List (Int × Int)} {A : Option Addr} {n c : Nat} {H : Hp} (e1 : takesF o = l) (hn : n = l.length) (hr : RdS H A l) :
    ∃ A' c', Value.slice A n c = .slice A' (takesF o).length c' ∧ RdS H A' (takesF o) ∧ ([] : List Chunk) = [] := ⟨A, c, by rw [e1, hn], e1 ▸ hr, rfl⟩
theorem Gives_ret {o : OpD} {a b : Int} (e : givesF o = (a, b)) (_h : True = True) : Value.tuple #[.int .i64 a, .int .i64 b] = .tuple #[.int .i64 (givesF o).1, .int .i64 (givesF o).2] ∧ ([] : List Chunk) = [] := by rw [e]; exact ⟨rfl, rfl⟩
theorem may_shape {o : OpD} (h : mayO o = true) : shapeD o.bits o.lanes = true := by simp only [mayO, Bool.and_eq_true] at h; exact h.1
theorem bits_of {b n : Int} (h : shapeD b n = true) : 1 ≤ b ∧ b ≤ 64 := by
  simp only [shapeD, mayW, Bool.and_eq_true, Bool.or_eq_true, beq_iff_eq] at h
  omega
theorem lanes_of {b n : Int} (h : shapeD b n = true) : n = 1 ∨ n = 2 ∨ n = 4 ∨ n = 8 ∨ n = 16 := by
  simp only [shapeD, Bool.and_eq_true, Bool.or_eq_true, beq_iff_eq] at h
  omega
end Go.Proofs.YtdjemlkllbhdlaaGreat

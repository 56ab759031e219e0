/- What the small functions answer, on plain data: numbers, kinds, what may be told. -/
import Derived.Test.YtdjemlkllbhdlaaGreatData
set_option linter.unusedVariables false
set_option linter.unusedSimpArgs false
namespace Go.Proofs.YtdjemlkllbhdlaaGreat
open Go Go.RowKit

theorem wrk {x : Int} (h0 : -9223372036854775808 ≤ x) (h1 : x ≤ 9223372036854775807) : some (Value.int .i64 (IntKind.i64.wrap x)) = some (Value.int .i64 x) := by rw [I64.wrap ⟨h0, h1⟩]

def AllI : List Int → Prop
  | [] => True
  | x :: l => I64 x ∧ AllI l
theorem RdL_ints {H : Hp} : ∀ (l : List Int), AllI l → RdL H (l.map fun x => Value.int .i64 x) l
  | [], _ => rfl
  | x :: l, h => ⟨[.int .i64 x], _, rfl, ⟨rfl, h.1⟩, RdL_ints l h.2⟩
def mayW (b : Int) : Bool := b == 1 || b == 8 || b == 16 || b == 32 || b == 64
def goesD (k : Int) : Int := if k = 0 then 0 else if k = 3 then 0 else if k = 1 then 1 else if k = 2 then 2 else -1
def risingD (n : Int) : List Int → Int → Bool
  | [], _ => true
  | x :: l, last => if x ≤ last then false else if x ≥ n then false else risingD n l x

def idxFrom {α : Type} (p : α → Bool) : List α → Int → Int
  | [], _ => -1
  | x :: l, i => if p x then i else idxFrom p l (i + 1)
theorem idxFrom_ge {α : Type} (p : α → Bool) (l : List α) (i : Int) (hi : 0 ≤ i) : (0 ≤ idxFrom p l i) ↔ l.any p = true := by
  induction l generalizing i with
  | nil => simp [idxFrom]
  | cons x l ih =>
    simp only [idxFrom, List.any_cons, Bool.or_eq_true]
    by_cases h : p x = true
    · simp [h, hi]
    · simp only [h, if_false, Bool.false_eq_true, false_or]
      exact ih (i + 1) (by omega)

def numOK (n : Int) : Bool := decide (0 ≤ n) && decide (n ≤ 2147483647)
def listOK (l : List Int) : Bool := decide (l.length ≤ 64) && l.all numOK
theorem listOK_long {l : List Int} (h : (l.length : Int) > 64) : listOK l = false := by unfold listOK; rw [decide_eq_false (by omega)]; rfl
theorem listOK_in {l : List Int} (h : ¬ (l.length : Int) > 64) : listOK l = l.all numOK := by unfold listOK; rw [decide_eq_true (by omega)]; rfl
def phiOK (p : PhiD) : Bool := List.all [p.bits, p.dst] numOK && List.all [p.frm, p.args] listOK
def opOK (o : OpD) : Bool := List.all [o.kind, o.bits, o.lanes, o.dst] numOK && List.all [o.args] listOK
def endOK (e : EndD) : Bool := List.all [e.kind, e.arg] numOK && List.all [e.to] listOK
def blockOK (b : BlockD) : Bool := b.phis.all phiOK && (b.ops.all opOK && endOK b.en)
theorem all_step {α : Type} [Inhabited α] {p : α → Bool} {l : List α} {i : Int} {x : α} {r : Bool} (h : r = (l.drop i.toNat).all p) (h0 : 0 ≤ i) (h1 : i < l.length) (hx : x = nth l i) (hp : p x = true) : r = (l.drop (i + 1).toNat).all p := by
  rw [h, drop_nth h0 h1, ← hx, List.all_cons, hp, Bool.true_and, show (i + 1).toNat = i.toNat + 1 from by omega]
theorem all_no {α : Type} [Inhabited α] {p : α → Bool} {l : List α} {i : Int} {x : α} {r : Bool} (h : r = (l.drop i.toNat).all p) (h0 : 0 ≤ i) (h1 : i < l.length) (hx : x = nth l i) (hp : p x = false) : r = false := by
  rw [h, drop_nth h0 h1, ← hx, List.all_cons, hp, Bool.false_and]
theorem all_end {α : Type} {p : α → Bool} {l : List α} {i : Int} {r : Bool} (h : r = (l.drop i.toNat).all p) (h0 : 0 ≤ i) (h1 : ¬ i < l.length) : r = true := by
  rw [h, List.drop_eq_nil_of_le (by omega)]; rfl
theorem any_not {α : Type} (p : α → Bool) (l : List α) : (!(l.any fun x => !p x)) = l.all p := by rw [List.not_any_eq_all_not]; simp
theorem any_neg {α : Type} (p : α → Bool) (l : List α) : (l.any fun x => !p x) = !l.all p := by rw [← any_not, Bool.not_not]
def blockSz (b : BlockD) : Int := b.phis.length + b.ops.length
def sizeF (f : FuncD) : Int := f.blocks.length + (f.blocks.map blockSz).sum
def mayF (f : FuncD) : Bool :=
  !decide ((f.blocks.length : Int) < 1) && (!decide ((f.blocks.length : Int) > 64) && (!decide ((f.params.length : Int) > 16) && (!decide (sizeF f > 512) && (List.all [f.ret] numOK && (f.params.all numOK && f.blocks.all blockOK)))))

theorem sum_drop {α : Type} [Inhabited α] (g : α → Int) {xs : List α} {i : Int} (h0 : 0 ≤ i) (h1 : i < xs.length) : ((xs.drop i.toNat).map g).sum = g (nth xs i) + ((xs.drop (i.toNat + 1)).map g).sum := by
  rw [drop_nth h0 h1]; rfl
def valueOK (v : Int) : Bool := decide (v ≥ 1) && decide (v ≤ 1023)
def storesK (k : Int) : Bool := k == 17 || k == 19
def shapeD (b n : Int) : Bool := mayW b && (n == 1 || ((n == 2 || n == 4 || n == 8 || n == 16) && (decide (b ≥ 8) && decide (b * n ≤ 128))))
def cutD (v b : Int) : Int := if mayW b then v % 2 ^ b.toNat else 0
theorem mayW_cases {b : Int} (h : mayW b = true) : b = 1 ∨ b = 8 ∨ b = 16 ∨ b = 32 ∨ b = 64 := by
  simp only [mayW, Bool.or_eq_true, beq_iff_eq] at h
  omega
theorem cut_shift {v b : Int} (hb : mayW b = true) (h0 : 0 ≤ v) : Int.fdiv (IntKind.u64.wrap (v * 2 ^ (min (64 - b).toNat 64))) (2 ^ (min (64 - b).toNat 64)) = cutD v b := by
  have hw : ∀ x : Int, IntKind.u64.wrap x = x % 18446744073709551616 := fun x => by
    simp [IntKind.wrap, IntKind.bits, IntKind.signed]
  unfold cutD
  rw [if_pos hb, hw]
  rcases mayW_cases hb with rfl | rfl | rfl | rfl | rfl <;> simp [Int.fdiv_eq_ediv] <;> omega
theorem toNat_succ {i : Int} (h0 : 0 ≤ i) : (i + 1).toNat = i.toNat + 1 := by omega
theorem drop_end {α : Type} {xs : List α} {i : Int} (h0 : 0 ≤ i) (h1 : ¬ i < xs.length) : xs.drop i.toNat = [] := List.drop_eq_nil_of_le (by omega)
end Go.Proofs.YtdjemlkllbhdlaaGreat

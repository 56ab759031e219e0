/- What the laws ask: small functions, levels. -/
import Derived.Test.YtdjemlkllbhdlaaGreatT19
namespace Go.Proofs.YtdjemlkllbhdlaaGreat
open Go Go.RowKit
section
variable {P : Program} {T : List TRow} {fn : Func} {w0 : World} {H0 : Hp} {X : List Nat} {F : Fk} {H : Hp} {L : List Chunk} {ty : TypeId} {pos : String} {af : Array Edge} {g : Option (Nat × Bool)} {dst : Option Nat}
theorem RowOK.bool {t : Nat} {r : TRow} (h : RowOK P t r) (hk : r.kind = .bool) : P.underlying t = some .bool := by
  obtain ⟨d, hd, e⟩ := h.under
  rw [hk] at e
  cases d <;> simp only [TK.of, reduceCtorEq] at e
  exact hd
theorem RunY.eqBool (hT : TabOK P T) {t ty' : Nat} {x y : Operand} {r : TRow} {a b : Bool} (hx : evk F x = some (.bool a)) (hy : evk F y = some (.bool b)) (hr : trow T t = some r) (hk : r.kind = .bool) :
    RunY P fn w0 H0 X F H L ⟨dst, .binOp .eql t x y ty', ty, pos, af, g⟩ (.bool (a == b)) := fun a' w ha _ => by
  have h2 := run_equal_bool (P := P) w t a b ((hT.row hr).bool hk)
  have h1 : (eqGuard .eql t x y (.bool a) (.bool b)).run P w = .ok () w := by rw [eqGuard_at_bool]; rfl
  simp [execOp, ha.eval hx, ha.eval hy, binOp, h1, h2]
end
def phiTot (p : PhiD) : Int := 1 + p.frm.length + p.args.length
def opTot (o : OpD) : Int := 1 + o.args.length
def blkTot (b : BlockD) : Int := 1 + b.en.to.length + ((b.phis.map phiTot).sum + (b.ops.map opTot).sum)
def totalF (f : FuncD) : Int := f.params.length + (f.blocks.map blkTot).sum
/-! ### Levels -/
def plainO (o : OpD) : Bool := o.lanes == 1 && decide (o.kind ≤ 17)
def plainD (f : FuncD) : Bool := f.blocks.all fun b => b.ops.all plainO
theorem ofOp_up {o : OpD} {a b : Int} (h : ofOpD a o = true) (hab : a ≤ b) : ofOpD b o = true := by
  unfold ofOpD at *
  split at h
  · cases h
  · split at h
    · cases h
    · rw [if_neg (by omega), if_neg (by omega)]; exact h
theorem ofOp_plain {o : OpD} (h : ofOpD 2 o = true) : ofOpD 0 o = plainO o := by
  unfold ofOpD at h
  rw [if_neg (by omega), if_neg (by omega)] at h
  have hl := lanes_of (may_shape h)
  unfold ofOpD plainO
  by_cases h1 : o.lanes > 1 ∨ o.kind > 20
  · rw [if_pos ⟨by decide, h1⟩]
    rcases h1 with h1 | h1
    · rw [beq_false_of_ne (by omega)]; rfl
    · rw [decide_eq_false (by omega)]; simp
  · rw [if_neg (by omega)]
    by_cases h2 : o.kind > 17
    · rw [if_pos ⟨by decide, h2⟩, decide_eq_false (by omega)]; simp
    · rw [if_neg (by omega), h, decide_eq_true (by omega), show o.lanes = 1 by omega]; rfl
theorem typedB_iff {lv : Int} {b : BlockD} : typedB lv b = (!(b.phis.any fun p => !mayW p.bits) && b.ops.all (ofOpD lv)) := by
  unfold typedB; rw [any_not (ofOpD lv) b.ops]
theorem typed_up {f : FuncD} {a b : Int} (h : typedD f a = true) (hab : a ≤ b) : typedD f b = true := by
  unfold typedD at *
  simp only [Bool.and_eq_true] at h ⊢
  refine ⟨h.1, h.2.1, ?_⟩
  have h3 := List.all_eq_true.1 h.2.2
  rw [List.all_eq_true]
  intro x hx
  have h2 := h3 x hx
  rw [typedB_iff] at h2 ⊢
  simp only [Bool.and_eq_true] at h2 ⊢
  exact ⟨h2.1, List.all_eq_true.2 fun o ho => ofOp_up (List.all_eq_true.1 h2.2 o ho) hab⟩
theorem typed_plain {f : FuncD} (h : typedD f 2 = true) : typedD f 0 = plainD f := by
  unfold typedD at h ⊢
  simp only [Bool.and_eq_true] at h
  rw [h.1, h.2.1]
  have hb := List.all_eq_true.1 h.2.2
  unfold plainD
  simp only [Bool.true_and]
  have key : ∀ bs : List BlockD, (∀ x ∈ bs, typedB 2 x = true) → bs.all (typedB 0) = bs.all fun b => b.ops.all plainO := by
    intro bs
    induction bs with
    | nil => intro _; rfl
    | cons b l ih =>
      intro h
      have h1 := h b (.head _)
      rw [typedB_iff] at h1
      simp only [Bool.and_eq_true] at h1
      simp only [List.all_cons]
      rw [ih fun x hx => h x (.tail _ hx), typedB_iff, h1.1, Bool.true_and]
      congr 1
      have key2 : ∀ os : List OpD, (∀ o ∈ os, ofOpD 2 o = true) → os.all (ofOpD 0) = os.all plainO := by
        intro os
        induction os with
        | nil => intro _; rfl
        | cons o l ih => intro h; simp only [List.all_cons]; rw [ih fun x hx => h x (.tail _ hx), ofOp_plain (h o (.head _))]
      exact key2 b.ops fun o ho => List.all_eq_true.1 h1.2 o ho
  exact key f.blocks hb
/-- What is right: all of it. -/
theorem code_zero {f : FuncD} {lv : Int} {tl : List Int} : codeOf f lv tl = 0 ↔ mayF f = true ∧ (ofD f).2 = 0 ∧ shapeW f tl = true ∧ typedD f lv = true ∧ ∃ ms, defsD f = some ms ∧ firstA (askDef ms) (asksF f) = 0 ∧ firstA (askShape ms) (asksF f) = 0 ∧ firstA (askPlace ms tl) (asksF f) = 0 := by
  unfold codeOf
  cases h1 : mayF f with
  | false => simp
  | true =>
    rw [if_neg (by simp)]
    by_cases h2 : (ofD f).2 = 0
    · rw [if_neg (by simp [h2])]
      cases h3 : shapeW f tl with
      | false => simp
      | true =>
        rw [if_neg (by simp)]
        cases h4 : typedD f lv with
        | false => simp
        | true =>
          rw [if_neg (by simp)]
          cases h5 : defsD f with
          | none => simp
          | some ms =>
            simp only
            by_cases h6 : firstA (askDef ms) (asksF f) = 0
            · rw [if_neg (by simp [h6])]
              by_cases h7 : firstA (askShape ms) (asksF f) = 0
              · rw [if_neg (by simp [h7])]; simp [h2, h6, h7]
              · rw [if_pos h7]; simp [h7]
            · rw [if_pos h6]; simp [h6]
    · rw [if_pos h2]; simp [h2]
theorem code_level {f : FuncD} {a b : Int} {tl : List Int} (h : codeOf f a tl = 0) (ht : typedD f b = true) : codeOf f b tl = 0 := by
  rw [code_zero] at h ⊢
  exact ⟨h.1, h.2.1, h.2.2.1, ht, h.2.2.2.2⟩
theorem CodeIs.at_ {f : FuncD} {lv e lv' e' : Int} (h : CodeIs f lv e) (h' : CodeIs f lv' e') : ∃ tl, e = codeOf f lv tl ∧ e' = codeOf f lv' tl := by
  obtain ⟨tl, g, rfl⟩ := h
  exact ⟨tl, rfl, h'.same ⟨tl, g, rfl⟩⟩
theorem levels_up {f : FuncD} {a b x y : Int} (h : CodeIs f a x) (h' : CodeIs f b y) (hab : a ≤ b) (hx : x = 0) : y = 0 := by
  obtain ⟨tl, e1, e2⟩ := h.at_ h'
  subst e1; subst e2
  exact code_level hx (typed_up (code_zero.1 hx).2.2.2.1 hab)
theorem levels_plain {f : FuncD} {x y : Int} (h : CodeIs f 0 x) (h' : CodeIs f 2 y) (hy : y = 0) : (x == 0) = plainD f := by
  obtain ⟨tl, e1, e2⟩ := h.at_ h'
  subst e1; subst e2
  rw [← typed_plain (code_zero.1 hy).2.2.2.1]
  cases ht : typedD f 0 with
  | true => rw [code_level hy ht]; rfl
  | false =>
    apply beq_false_of_ne
    intro hz
    rw [(code_zero.1 hz).2.2.2.1] at ht; cases ht
theorem sum_step {α : Type} [Inhabited α] {g : α → Int} {l : List α} {i : Int} (h0 : 0 ≤ i) (h1 : i < l.length) : ((l.drop i.toNat).map g).sum = g (nth l i) + ((l.drop (i + 1).toNat).map g).sum := by
  rw [drop_nth h0 h1, toNat_succ h0]; rfl
theorem sum_end {α : Type} {g : α → Int} {l : List α} {i : Int} (h1 : ¬ i < l.length) : ((l.drop i.toNat).map g).sum = 0 := by
  rw [List.drop_eq_nil_of_le (by omega)]; rfl
theorem pl_step {p T r : Bool} {l : List OpD} {k : Int} (h : r = (p && ((l.drop k.toNat).all plainO && T))) (h0 : 0 ≤ k) (h1 : k < l.length) : r = ((p && plainO (nth l k)) && ((l.drop (k + 1).toNat).all plainO && T)) := by
  rw [h, drop_nth h0 h1, toNat_succ h0, List.all_cons]
  cases p <;> cases plainO (nth l k) <;> rfl
theorem pl_a {o : OpD} (h : o.lanes = 1) : plainO o = decide (o.kind ≤ 17) := by unfold plainO; rw [h]; rfl
theorem pl_b {o : OpD} (h : o.lanes ≠ 1) : plainO o = false := by unfold plainO; rw [beq_false_of_ne h]; rfl
end Go.Proofs.YtdjemlkllbhdlaaGreat

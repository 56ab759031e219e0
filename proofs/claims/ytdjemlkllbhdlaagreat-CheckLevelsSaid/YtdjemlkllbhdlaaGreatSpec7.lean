/- What a tree of dominators is, said of nodes. -/
import Derived.Test.YtdjemlkllbhdlaaGreatSpec6
namespace Go.Proofs.YtdjemlkllbhdlaaGreat
open Go Go.RowKit

/-- One comes there from the root without the node 'no'. -/
inductive RchN (succ : List (List Int)) (root no : Int) : Int → Prop
  | root : root ≠ no → RchN succ root no root
  | step {p x : Int} : RchN succ root no p → x ∈ nth succ p → x ≠ no → RchN succ root no x
structure TreeP (succ : List (List Int)) (root : Int) (tl : List Int) : Prop where
  len : tl.length = succ.length
  top : nth tl root = -1
  none_ : ∀ x : Int, 0 ≤ x → x < succ.length → ¬ RchN succ root (-1) x → nth tl x = -2
  range : ∀ x : Int, RchN succ root (-1) x → 0 ≤ x ∧ x < succ.length
  up : ∀ x : Int, RchN succ root (-1) x → x ≠ root → RchN succ root (-1) (nth tl x) ∧ RchN succ root x (nth tl x) ∧ ∀ y, y ≠ x → (RchN succ root y x ↔ RchN succ root y (nth tl x))
theorem RchN.mem {succ : List (List Int)} {root no : Int} {ord : List Int} (hO : OrderP succ root ord) {x : Int} (h : RchN succ root no x) : x ∈ ord := by
  induction h with
  | root _ => obtain ⟨tl, e⟩ := hO.head; rw [e]; simp
  | step _ hx _ ih => exact hO.closed _ ih _ hx
theorem RchN.av {succ : List (List Int)} {root : Int} {ord : List Int} (hO : OrderP succ root ord) {b : Nat} (hb : b < ord.length) {x : Int} (h : RchN succ root (nth ord (b : Int)) x) : ∀ k : Nat, k < ord.length → x = nth ord (k : Int) → Av (prO succ ord) b k := by
  induction h with
  | root hne =>
    intro k hk e
    have : (k : Int) = 0 := hO.inj (by omega) (by omega) (by omega) (by omega) (by rw [← e, hO.root])
    have : k = 0 := by omega
    subst this
    refine .root fun e2 => hne ?_
    subst e2
    exact hO.root.symm
  | @step p x hp hx hne ih =>
    intro k hk e
    obtain ⟨j, hj, ej⟩ := OrderP.mem (hp.mem hO)
    refine .step (ih j hj ej) ⟨hk, hj, ?_⟩ fun e2 => hne (by rw [e, e2])
    rw [← e, ← ej]; exact hx
theorem Av.rch {succ : List (List Int)} {root : Int} {ord : List Int} (hO : OrderP succ root ord) {no : Int} {b k : Nat} (hno : ∀ j : Nat, j < ord.length → j ≠ b → nth ord (j : Int) ≠ no) (h : Av (prO succ ord) b k) : RchN succ root no (nth ord (k : Int)) := by
  have hl : 0 < ord.length := by obtain ⟨tl, e⟩ := hO.head; rw [e]; simp
  induction h with
  | root hne =>
    have := hno 0 hl (Ne.symm hne)
    show RchN succ root no (nth ord 0)
    have e : nth ord ((0 : Nat) : Int) = nth ord 0 := rfl
    rw [e, hO.root] at this
    rw [hO.root]
    exact .root this
  | step _ hp hne ih => exact .step ih hp.2.2 (hno _ hp.1 hne)
theorem all_rch {succ : List (List Int)} {root : Int} {ord : List Int} (hO : OrderP succ root ord) {no : Int} (hno : no ∉ ord) : ∀ k : Nat, k < ord.length → RchN succ root no (nth ord (k : Int)) := by
  intro k
  induction k using Nat.strongRecOn with
  | _ k ih =>
    intro hk
    have hn : nth ord (k : Int) ≠ no := fun e => hno (e ▸ nth_mem (by omega) (by omega))
    by_cases h0 : 0 < k
    · obtain ⟨p, hp, hpr⟩ := hO.behind h0 hk
      exact .step (ih p hp (by omega)) hpr.2.2 hn
    · have : k = 0 := by omega
      subst this
      have e : nth ord ((0 : Nat) : Int) = root := hO.root
      rw [e] at hn ⊢
      exact .root hn
theorem TInv.tree {succ : List (List Int)} {root : Int} {ord tl al : List Int} {T : Nat → Nat} {v : Nat} {D0 : Nat → Nat → Prop} (hO : OrderP succ root ord) (h : TInv succ ord tl al T v D0) (h0 : 0 ≤ root) (h1 : root < succ.length)
    (hst : ∀ z : Nat, 0 < z → z < ord.length → Stable succ ord T v z) : TreeP succ root (tl.set root.toNat (-1)) := by
  have hl : 0 < ord.length := by obtain ⟨tl, e⟩ := hO.head; rw [e]; simp
  have hv : v = ord.length := by
    have := h.le
    by_cases h2 : ord.length = 1
    · have := h.dom.pos; omega
    · have := (hst (ord.length - 1) (by omega) (by omega)).1; omega
  subst hv
  have hR := h.dom.right (fun z p hp _ => hp.1) (fun z z0 z1 => (hst z z0 z1).2)
  have hneg : (-1 : Int) ∉ ord := fun hm => by have := hO.range _ hm; omega
  have hset : ∀ x : Int, 0 ≤ x → x ≠ root → nth (tl.set root.toNat (-1)) x = nth tl x := fun x x0 hx => by
    rw [nth_set h0 (by rw [h.ta.ltr]; exact h1) x0, if_neg hx]
  refine ⟨by simp [h.ta.ltr], by rw [nth_set h0 (by rw [h.ta.ltr]; exact h1) h0, if_pos rfl], fun x x0 x1 hx => ?_, fun x hx => hO.range x (hx.mem hO), fun x hx hne => ?_⟩
  · have hm : x ∉ ord := fun hm => by
      obtain ⟨k, hk, e⟩ := OrderP.mem hm
      exact hx (e ▸ all_rch hO hneg k hk)
    have hne : x ≠ root := fun e => by
      obtain ⟨tl, e2⟩ := hO.head
      exact hm (by rw [e, e2]; simp)
    rw [hset x x0 hne]
    exact h.none_ x x0 x1 hm
  · obtain ⟨k, hk, e⟩ := OrderP.mem (hx.mem hO)
    have hxr := hO.range x (hx.mem hO)
    have hk0 : 0 < k := by
      apply Classical.byContradiction
      intro hn
      have : k = 0 := by omega
      subst this
      exact hne (e.trans hO.root)
    have hTk := h.dom.par.lt k hk0
    have hu : nth (tl.set root.toNat (-1)) x = nth ord (T k : Int) := by rw [hset x hxr.1 hne, e]; exact h.ta.tree k hk
    rw [hu]
    have hcmp : ∀ b : Nat, b < ord.length → ∀ j : Nat, j < ord.length → (RchN succ root (nth ord (b : Int)) (nth ord (j : Int)) ↔ ¬ Dt T j b) := fun b hb j hj => by
      have hRj := hR j hj b
      constructor
      · intro hr hd
        exact hRj.1 hd (hr.av hO hb j hj rfl)
      · intro hd
        have ha : Av (prO succ ord) b j := Classical.byContradiction fun hn => hd (hRj.2 hn)
        exact ha.rch hO fun i hi hne e => hne (by have := hO.inj (j := (i : Int)) (k := (b : Int)) (by omega) (by omega) (by omega) (by omega) e; omega)
    refine ⟨all_rch hO hneg (T k) (by omega), ?_, fun y hy => ?_⟩
    · rw [e, hcmp k hk (T k) (by omega)]
      intro hd
      have := hd.le h.dom.par
      omega
    · by_cases hm : y ∈ ord
      · obtain ⟨b, hb, eb⟩ := OrderP.mem hm
        rw [eb, e, hcmp b hb k hk, hcmp b hb (T k) (by omega), Dt.iff h.dom.par]
        have hbk : b ≠ k := fun e2 => hy (by rw [eb, e, e2])
        simp [hbk, hk0]
      · rw [e]
        exact ⟨fun _ => all_rch hO hm (T k) (by omega), fun _ => all_rch hO hm k hk⟩
end Go.Proofs.YtdjemlkllbhdlaaGreat

/- Trees as lists: what the lists of the tree and of the places hold. -/
import Derived.Test.YtdjemlkllbhdlaaGreatDom
set_option linter.unusedVariables false
set_option linter.unusedSimpArgs false
namespace Go.Proofs.YtdjemlkllbhdlaaGreat
open Go Go.RowKit

structure TA (tr at_ ord : List Int) (T : Nat → Nat) (i n : Nat) : Prop where
  par : Par T
  n64 : n ≤ 64
  ltr : tr.length = n
  lat : at_.length = n
  rng : ∀ k, k < i → 0 ≤ nth ord (k : Int) ∧ nth ord (k : Int) < n
  tree : ∀ k, k < i → nth tr (nth ord (k : Int)) = nth ord (T k : Int)
  place : ∀ k, k < i → nth at_ (nth ord (k : Int)) = k
theorem TA.inj {tr at_ ord : List Int} {T : Nat → Nat} {i n : Nat} (h : TA tr at_ ord T i n) {j k : Nat} (hj : j < i) (hk : k < i) (e : nth ord (j : Int) = nth ord (k : Int)) : j = k := by
  have h1 := h.place j hj
  have h2 := h.place k hk
  rw [e] at h1
  omega
theorem TA.up {tr at_ ord : List Int} {T : Nat → Nat} {i n : Nat} (h : TA tr at_ ord T i n) {k : Nat} (hk : k < i) : T k < i := by
  by_cases h0 : 0 < k
  · have := h.par.lt k h0; omega
  · have : k = 0 := by omega
    subst this; rw [h.par.zero]; exact hk
theorem nca_left {T : Nat → Nat} (h : Par T) {a b c : Nat} (hc : ∀ y, Dt T c y ↔ Dt T a y ∧ Dt T b y) (hlt : b < a) : ∀ y, Dt T c y ↔ Dt T (T a) y ∧ Dt T b y := fun y => by
  rw [hc y]
  refine and_congr_left fun hb => ?_
  rw [Dt.iff h]
  have := hb.le h
  constructor
  · rintro (rfl | ⟨_, h1⟩)
    · omega
    · exact h1
  · exact fun h1 => .inr ⟨by omega, h1⟩
theorem nca_right {T : Nat → Nat} (h : Par T) {a b c : Nat} (hc : ∀ y, Dt T c y ↔ Dt T a y ∧ Dt T b y) (hlt : a < b) : ∀ y, Dt T c y ↔ Dt T a y ∧ Dt T (T b) y := fun y => by
  rw [and_comm]
  exact nca_left h (fun y => by rw [and_comm]; exact hc y) hlt y
theorem nca_same {T : Nat → Nat} (h : Par T) {a c : Nat} (hc : ∀ y, Dt T c y ↔ Dt T a y ∧ Dt T a y) : a = c := by
  have h1 := ((hc c).1 (Dt.refl T c)).1.le h
  have h2 := ((hc a).2 ⟨Dt.refl T a, Dt.refl T a⟩).le h
  omega
theorem nca_ex {T : Nat → Nat} (h : Par T) : ∀ (s a b : Nat), a + b = s → ∃ c, ∀ y, Dt T c y ↔ Dt T a y ∧ Dt T b y := by
  intro s
  induction s using Nat.strongRecOn with
  | _ s ih =>
    intro a b hs
    by_cases e : a = b
    · subst e; exact ⟨a, fun y => by simp⟩
    · by_cases hlt : b < a
      · obtain ⟨c, hc⟩ := ih (T a + b) (by have := h.lt a (by omega); omega) (T a) b rfl
        refine ⟨c, fun y => ?_⟩
        rw [hc y]
        refine and_congr_left fun hb => ?_
        have := hb.le h
        rw [Dt.iff h (z := a)]
        exact ⟨fun h1 => .inr ⟨by omega, h1⟩, fun h1 => by rcases h1 with rfl | ⟨_, h1⟩; omega; exact h1⟩
      · obtain ⟨c, hc⟩ := ih (a + T b) (by have := h.lt b (by omega); omega) a (T b) rfl
        refine ⟨c, fun y => ?_⟩
        rw [hc y]
        refine and_congr_right fun hb => ?_
        have := hb.le h
        rw [Dt.iff h (z := b)]
        exact ⟨fun h1 => .inr ⟨by omega, h1⟩, fun h1 => by rcases h1 with rfl | ⟨_, h1⟩; omega; exact h1⟩
theorem ord_len {succ : List (List Int)} {root : Int} {ord : List Int} (h : OrderP succ root ord) : ord.length ≤ succ.length := by
  have hnd : (ord.map Int.toNat).Nodup := by
    refine List.pairwise_map.2 (List.Pairwise.imp_of_mem ?_ h.nodup)
    intro x y hx hy e e2
    have h1 := h.range x hx
    have h2 := h.range y hy
    exact e (by omega)
  have := nodup_lt succ.length _ hnd (fun x hx => by
    obtain ⟨y, hy, rfl⟩ := List.mem_map.1 hx
    have := h.range y hy
    omega)
  simpa using this
theorem ord_all {succ : List (List Int)} {root : Int} {ord : List Int} (h : OrderP succ root ord) (hn : succ.length ≤ 64) : AllI ord := by
  rw [AllI_iff]
  intro x hx
  have := h.range x hx
  exact ⟨by omega, by omega⟩


/-- One goes from place p to place x. -/
def prO (succ : List (List Int)) (ord : List Int) (x p : Nat) : Prop := x < ord.length ∧ p < ord.length ∧ nth ord (x : Int) ∈ nth succ (nth ord (p : Int))
def msum (T : Nat → Nat) (v : Nat) : Nat := ((List.range v).map T).sum
theorem msum_better {T : Nat → Nat} {v x c : Nat} (hx : x < v) (hc : c < T x) : msum (upd T x c) v < msum T v := by
  unfold msum
  induction v with
  | zero => omega
  | succ v ih =>
    rw [List.range_succ, List.map_append, List.map_append, List.sum_append, List.sum_append]
    by_cases e : x = v
    · subst e
      have : (List.range x).map (upd T x c) = (List.range x).map T := List.map_congr_left fun i hi => if_neg (by have := List.mem_range.1 hi; omega)
      rw [this]
      simp [upd]; omega
    · have h1 := ih (by omega)
      have h2 : upd T x c v = T v := if_neg (by omega)
      simp only [List.map_cons, List.map_nil, h2]
      omega
theorem msum_more {T : Nat → Nat} {v c : Nat} : msum (upd T v c) (v + 1) = msum T v + c := by
  unfold msum
  rw [List.range_succ, List.map_append, List.sum_append]
  have : (List.range v).map (upd T v c) = (List.range v).map T := List.map_congr_left fun i hi => if_neg (by have := List.mem_range.1 hi; omega)
  rw [this]; simp [upd]
structure TInv (succ : List (List Int)) (ord tl al : List Int) (T : Nat → Nat) (v : Nat) (D0 : Nat → Nat → Prop) : Prop where
  ta : TA tl al ord T v succ.length
  dom : DInv (prO succ ord) T v D0
  le : v ≤ ord.length
  wait : ∀ k : Nat, v ≤ k → k < ord.length → nth tl (nth ord (k : Int)) = -2
  none_ : ∀ x : Int, 0 ≤ x → x < succ.length → x ∉ ord → nth tl x = -2
def Stable (succ : List (List Int)) (ord : List Int) (T : Nat → Nat) (v z : Nat) : Prop := z < v ∧ ∀ y, Dt T (T z) y ↔ ∀ p, prO succ ord z p → p < v → Dt T p y
/-- What the best is, of the first ones of a list of predecessors. -/
def BestOf (ord tl : List Int) (T : Nat → Nat) (v : Nat) (P : List Int) (best : Int) : Prop :=
  (best = -2 ∧ ∀ p : Nat, p < v → nth ord (p : Int) ∉ P) ∨ ∃ c, c < v ∧ best = nth ord (c : Int) ∧ ∀ y, Dt T c y ↔ ∀ p : Nat, p < v → nth ord (p : Int) ∈ P → Dt T p y

theorem may_pred {gr : GraphD} (h : mayG gr = true) : gr.pred = predsD gr.succ := by
  simp only [mayG, Bool.and_eq_true, beq_iff_eq] at h
  cases hk : makeOK gr.succ with
  | true => have := eqLL_eq.1 h.2; rw [make_yes hk] at this; exact this.symm
  | false => rw [make_no hk] at h; simp at h
theorem may_plen {gr : GraphD} (h : mayG gr = true) : gr.pred.length = gr.succ.length := by rw [may_pred h]; simp [predsD]
end Go.Proofs.YtdjemlkllbhdlaaGreat

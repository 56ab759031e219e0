/- Graphs: what goes before what. -/
import Derived.Test.YtdjemlkllbhdlaaGreatSpec2
import Derived.Test.YtdjemlkllbhdlaaGreatNest
namespace Go.Proofs.YtdjemlkllbhdlaaGreat
open Go Go.RowKit

def edgesFrom : Int → List (List Int) → List (Int × Int)
  | _, [] => []
  | i, r :: s => r.map (fun t => (i, t)) ++ edgesFrom (i + 1) s
def predsOf (E : List (Int × Int)) (t : Nat) : List Int := (E.filter fun e => e.2 == (t : Int)).map (·.1)
def predsD (s : List (List Int)) : List (List Int) := (List.range s.length).map (predsOf (edgesFrom 0 s))
def makeOK (s : List (List Int)) : Bool := !decide ((s.length : Int) < 1) && (!decide ((s.length : Int) > 64) && s.all fun r => risingD s.length r (-1))
def makeD (s : List (List Int)) : GraphD × Int := if makeOK s then (⟨s, predsD s⟩, 0) else (⟨[], []⟩, 5)

theorem predsOf_snoc (E : List (Int × Int)) (i t : Int) (j : Nat) : predsOf (E ++ [(i, t)]) j = if t = (j : Int) then predsOf E j ++ [i] else predsOf E j := by
  unfold predsOf
  rw [List.filter_append, List.map_append]
  by_cases h : t = (j : Int) <;> simp [h]
theorem preds_step {rs rs' : List Rw} {n c' : Nat} {E : List (Int × Int)} {i t : Int} {r : Rw} {A' : Option Addr} (h : rs.map Rw.xs = (List.range n).map (predsOf E)) (hr : rs[t.toNat]? = some r) (h0 : 0 ≤ t) (hs : rs' = rs.set t.toNat ⟨A', c', r.xs ++ [i]⟩) :
    rs'.map Rw.xs = (List.range n).map (predsOf (E ++ [(i, t)])) := by
  subst hs
  have hlt : t.toNat < rs.length := (List.getElem?_eq_some_iff.1 hr).1
  have hl : rs.length = n := by have := congrArg List.length h; simpa using this
  have hx : r.xs = predsOf E t.toNat := by
    have := congrArg (·[t.toNat]?) h
    simp only [List.getElem?_map, hr, List.getElem?_range (show t.toNat < n by omega), Option.map_some, Option.some.injEq] at this
    exact this
  rw [List.map_set, h]
  apply List.ext_getElem?
  intro j
  by_cases hj : j < n
  · rw [List.getElem?_set]
    by_cases e : t.toNat = j
    · subst e
      simp only [if_true, List.length_map, List.length_range, hj, List.getElem?_map, List.getElem?_range hj, Option.map_some, predsOf_snoc]
      rw [if_pos (by omega), hx]
    · simp only [e, if_false, List.getElem?_map, List.getElem?_range hj, Option.map_some, predsOf_snoc]
      rw [if_neg (by omega)]
  · rw [List.getElem?_eq_none (by simp; omega), List.getElem?_eq_none (by simp; omega)]
theorem edges_drop {s : List (List Int)} {i : Int} (h0 : 0 ≤ i) (h1 : i < s.length) : edgesFrom i (s.drop i.toNat) = (nth s i).map (fun t => (i, t)) ++ edgesFrom (i + 1) (s.drop (i + 1).toNat) := by
  rw [drop_nth h0 h1, toNat_succ h0]; rfl
theorem row_of {rs : List Rw} {n : Nat} {E : List (Int × Int)} {t : Int} (h : rs.map Rw.xs = (List.range n).map (predsOf E)) (h0 : 0 ≤ t) (h1 : t < n) : ∃ r, rs[t.toNat]? = some r ∧ r.xs = predsOf E t.toNat := by
  have hl : rs.length = n := by have := congrArg List.length h; simpa using this
  have hlt : t.toNat < rs.length := by omega
  refine ⟨_, List.getElem?_eq_getElem hlt, ?_⟩
  have := congrArg (·[t.toNat]?) h
  simp only [List.getElem?_map, List.getElem?_eq_getElem hlt, List.getElem?_range (show t.toNat < n by omega), Option.map_some, Option.some.injEq] at this
  exact this
theorem predsOf_len (E : List (Int × Int)) (t : Nat) : (predsOf E t).length ≤ E.length := by
  unfold predsOf; rw [List.length_map]; exact List.length_filter_le _ _
theorem AllI_iff : ∀ {l : List Int}, AllI l ↔ ∀ x ∈ l, I64 x
  | [] => by simp [AllI]
  | x :: l => by simp [AllI, AllI_iff (l := l)]
theorem predsOf_all {E : List (Int × Int)} (h : ∀ e ∈ E, I64 e.1) (t : Nat) : AllI (predsOf E t) := by
  rw [AllI_iff]; unfold predsOf
  intro x hx
  obtain ⟨e, he, rfl⟩ := List.mem_map.1 hx
  exact h e (List.mem_filter.1 he).1
theorem rows_all {rs : List Rw} {n : Nat} {E : List (Int × Int)} (h : rs.map Rw.xs = (List.range n).map (predsOf E)) (hE : ∀ e ∈ E, I64 e.1) (hl : E.length ≤ 4096) : ∀ r ∈ rs, AllI r.xs ∧ r.xs.length ≤ 140737488355328 := fun r hr => by
  have : r.xs ∈ rs.map Rw.xs := List.mem_map.2 ⟨r, hr, rfl⟩
  rw [h] at this
  obtain ⟨j, _, e⟩ := List.mem_map.1 this
  rw [← e]
  exact ⟨predsOf_all hE j, by have := predsOf_len E j; omega⟩
theorem rising_lt : ∀ {l : List Int} {n x : Int}, risingD n l x = true → ∀ t ∈ l, x < t ∧ t < n
  | [], _, _, _, t, ht => by cases ht
  | y :: l, n, x, h, t, ht => by
    simp only [risingD] at h
    by_cases h1 : y ≤ x
    · rw [if_pos h1] at h; cases h
    · rw [if_neg h1] at h
      by_cases h2 : y ≥ n
      · rw [if_pos h2] at h; cases h
      · rw [if_neg h2] at h
        rcases List.mem_cons.1 ht with rfl | ht
        · exact ⟨by omega, by omega⟩
        · have := rising_lt h t ht; exact ⟨by omega, this.2⟩
theorem rising_len : ∀ {l : List Int} {n x : Int}, risingD n l x = true → x < n → (l.length : Int) ≤ n - 1 - x
  | [], n, x, _, h => by simp; omega
  | y :: l, n, x, h, hx => by
    simp only [risingD] at h
    by_cases h1 : y ≤ x
    · rw [if_pos h1] at h; cases h
    · rw [if_neg h1] at h
      by_cases h2 : y ≥ n
      · rw [if_pos h2] at h; cases h
      · rw [if_neg h2] at h
        have := rising_len h (by omega)
        simp only [List.length_cons]; omega
theorem makeOK_rows {s : List (List Int)} (h : makeOK s = true) : 1 ≤ s.length ∧ s.length ≤ 64 ∧ ∀ r ∈ s, r.length ≤ 64 ∧ ∀ t ∈ r, 0 ≤ t ∧ t < s.length := by
  simp only [makeOK, Bool.and_eq_true, Bool.not_eq_true', decide_eq_false_iff_not, List.all_eq_true] at h
  refine ⟨by omega, by omega, fun r hr => ?_⟩
  have h3 := h.2.2 r hr
  refine ⟨by have := rising_len h3 (by omega); omega, fun t ht => ?_⟩
  have := rising_lt h3 t ht
  exact ⟨by omega, this.2⟩
def eqLL : List (List Int) → List (List Int) → Bool
  | [], [] => true
  | x :: l, y :: m => eqL x y && eqLL l m
  | _, _ => false
theorem eqLL_eq : ∀ {l m : List (List Int)}, eqLL l m = true ↔ l = m
  | [], [] => by simp [eqLL]
  | [], _ :: _ => by simp [eqLL]
  | _ :: _, [] => by simp [eqLL]
  | x :: l, y :: m => by simp [eqLL, eqL_eq, eqLL_eq]
theorem eqLL_len : ∀ {l m : List (List Int)}, l.length ≠ m.length → eqLL l m = false
  | [], [], h => absurd rfl h
  | [], _ :: _, _ => rfl
  | _ :: _, [], _ => rfl
  | x :: l, y :: m, h => by simp only [eqLL, eqLL_len (l := l) (m := m) (by simpa using h), Bool.and_false]
def mayG (g : GraphD) : Bool := (makeD g.succ).2 == 0 && eqLL (makeD g.succ).1.pred g.pred
theorem take_snoc_nth {α : Type} [Inhabited α] {s : List α} {i : Int} (h0 : 0 ≤ i) (h1 : i < s.length) : s.take (i + 1).toNat = s.take i.toNat ++ [nth s i] := by
  rw [toNat_succ h0, List.take_add_one, nth_get h0 h1]; rfl
theorem make_no {s : List (List Int)} (h : makeOK s = false) : makeD s = (⟨[], []⟩, 5) := by unfold makeD; rw [h]; rfl
theorem make_yes {s : List (List Int)} (h : makeOK s = true) : makeD s = (⟨s, predsD s⟩, 0) := by unfold makeD; rw [h]; rfl
theorem Make_no {s : List (List Int)} {H : Hp} (h : makeOK s = false) : ∃ A c A' c', Value.tuple #[.agg #[.slice none 0 0, .slice none 0 0], .int .i64 5] = .tuple #[.agg #[.slice A (makeD s).1.succ.length c, .slice A' (makeD s).1.pred.length c'], .int .i64 (makeD s).2] ∧
    (makeD s).1.succ.length ≤ c ∧ RdS H A (makeD s).1.succ ∧ (makeD s).1.pred.length ≤ c' ∧ RdS H A' (makeD s).1.pred ∧ ([] : List Chunk) = [] := by
  rw [make_no h]
  exact ⟨none, 0, none, 0, rfl, Nat.le_refl _, RdS.nil _ _, Nat.le_refl _, RdS.nil _ _, rfl⟩
theorem Make_yes {s : List (List Int)} {H : Hp} {B B' : Option Addr} {d d' : Nat} (h : makeOK s = true) (u : s.length ≤ d) (r : RdS H B s) (u' : (predsD s).length ≤ d') (r' : RdS H B' (predsD s)) :
    ∃ A c A' c', Value.tuple #[.agg #[.slice B s.length d, .slice B' (predsD s).length d'], .int .i64 0] = .tuple #[.agg #[.slice A (makeD s).1.succ.length c, .slice A' (makeD s).1.pred.length c'], .int .i64 (makeD s).2] ∧
    (makeD s).1.succ.length ≤ c ∧ RdS H A (makeD s).1.succ ∧ (makeD s).1.pred.length ≤ c' ∧ RdS H A' (makeD s).1.pred ∧ ([] : List Chunk) = [] := by
  rw [make_yes h]
  exact ⟨B, d, B', d', rfl, u, r, u', r', rfl⟩
theorem nth_set {l : List Int} {a k x : Int} (h0 : 0 ≤ a) (h1 : a < l.length) (h2 : 0 ≤ k) : nth (l.set a.toNat x) k = if k = a then x else nth l k := by
  unfold nth
  rw [List.getD_eq_getElem?_getD, List.getD_eq_getElem?_getD, List.getElem?_set]
  by_cases e : k = a
  · subst e
    rw [if_pos rfl, if_pos (by omega), if_pos rfl]; rfl
  · rw [if_neg (by omega), if_neg e]
theorem nth_ext {l m : List Int} (hl : l.length = m.length) (h : ∀ k : Int, 0 ≤ k → k < l.length → nth l k = nth m k) : l = m := by
  apply List.ext_getElem? ; intro j
  by_cases hj : j < l.length
  · have := h j (by omega) (by omega)
    have h1 := nth_get (xs := l) (i := (j : Int)) (by omega) (by omega)
    have h2 := nth_get (xs := m) (i := (j : Int)) (by omega) (by omega)
    rw [Int.toNat_natCast] at h1 h2
    rw [h1, h2, this]
  · rw [List.getElem?_eq_none (by omega), List.getElem?_eq_none (by omega)]
def RevAt (l m : List Int) (i j : Int) : Prop := m.length = l.length ∧ ∀ k : Int, 0 ≤ k → k < l.length → nth m k = if k < i ∨ j < k then nth l (l.length - 1 - k) else nth l k
theorem RevAt.start (l : List Int) : RevAt l l 0 (l.length - 1) := ⟨rfl, fun k h0 h1 => by rw [if_neg (by omega)]⟩
theorem RevAt.step {l m : List Int} {i j : Int} (h : RevAt l m i j) (h0 : 0 ≤ i) (h1 : i < j) (hij : i + j = l.length - 1) : RevAt l ((m.set i.toNat (nth m j)).set j.toNat (nth m i)) (i + 1) (j - 1) := by
  refine ⟨by simp [h.1], fun k k0 k1 => ?_⟩
  have hl := h.1
  rw [nth_set (by omega) (by simp; omega) k0, nth_set h0 (by omega) k0]
  by_cases e : k = j
  · rw [if_pos e, if_pos (by omega), h.2 i h0 (by omega), if_neg (by omega)]
    congr 1; omega
  · rw [if_neg e]
    by_cases e2 : k = i
    · rw [if_pos e2, if_pos (by omega), h.2 j (by omega) (by omega), if_neg (by omega)]
      congr 1; omega
    · rw [if_neg e2, h.2 k k0 k1]
      by_cases c : k < i ∨ j < k
      · rw [if_pos c, if_pos (by omega)]
      · rw [if_neg c, if_neg (by omega)]
theorem nth_reverse {l : List Int} {k : Int} (h0 : 0 ≤ k) (h1 : k < l.length) : nth l.reverse k = nth l (l.length - 1 - k) := by
  unfold nth
  rw [List.getD_eq_getElem?_getD, List.getD_eq_getElem?_getD, List.getElem?_reverse (by omega)]
  congr 2; omega
theorem RevAt.done {l m : List Int} {i j : Int} (h : RevAt l m i j) (h1 : ¬ i < j) (hij : i + j = l.length - 1) : m = l.reverse := by
  refine nth_ext (by rw [List.length_reverse, h.1]) fun k k0 k1 => ?_
  rw [h.1] at k1
  rw [h.2 k k0 k1, nth_reverse k0 k1]
  by_cases c : k < i ∨ j < k
  · rw [if_pos c]
  · rw [if_neg c]; congr 1; omega
theorem preds_start (n : Nat) : (List.replicate n Rw.nil).map Rw.xs = (List.range n).map (predsOf []) := by
  rw [List.map_replicate]
  apply List.ext_getElem?
  intro j
  by_cases hj : j < n
  · simp [hj, predsOf, Rw.nil]
  · rw [List.getElem?_eq_none (by simp; omega), List.getElem?_eq_none (by simp; omega)]
theorem preds_ret {s l : List (List Int)} {A : Option Addr} {n c : Nat} {H : Hp} (e : predsD s = l) (hn : n = l.length) (hc : n ≤ c) (hr : RdS H A l) :
    ∃ A' c', Value.slice A n c = .slice A' (predsD s).length c' ∧ (predsD s).length ≤ c' ∧ RdS H A' (predsD s) ∧ ([] : List Chunk) = [] := ⟨A, c, by rw [e, hn], by rw [e, ← hn]; exact hc, e ▸ hr, rfl⟩
end Go.Proofs.YtdjemlkllbhdlaaGreat

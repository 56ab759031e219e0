/- The order: what the walk of a graph keeps, and what comes out. -/
import Derived.Test.YtdjemlkllbhdlaaGreatSpec3
namespace Go.Proofs.YtdjemlkllbhdlaaGreat
open Go Go.RowKit

/-- What an order is: the root first; each other one behind one that goes to it; and where one goes from it is in it. -/
structure OrderP (succ : List (List Int)) (root : Int) (ord : List Int) : Prop where
  nodup : ord.Nodup
  head : ∃ tl, ord = root :: tl
  range : ∀ x ∈ ord, 0 ≤ x ∧ x < succ.length
  closed : ∀ x ∈ ord, ∀ y ∈ nth succ x, y ∈ ord
  parent : ∀ l1 y l2, ord = l1 ++ y :: l2 → y = root ∨ ∃ p ∈ l1, y ∈ nth succ p
structure OInv (succ : List (List Int)) (root : Int) (stk out : List Int) (seen : List Bool) (next : List Int) : Prop where
  lseen : seen.length = 64
  lnext : next.length = 64
  range : ∀ x ∈ stk ++ out, 0 ≤ x ∧ x < succ.length
  nodup : (stk ++ out).Nodup
  seen_ : ∀ x : Int, 0 ≤ x → x < succ.length → (nth seen x = true ↔ x ∈ stk ++ out)
  head : (∃ tl, stk = root :: tl) ∨ (stk = [] ∧ ∃ l, out = l ++ [root])
  chain : ∀ l1 a b l2, stk = l1 ++ a :: b :: l2 → b ∈ nth succ a
  closed : ∀ x ∈ out, ∀ y ∈ nth succ x, y ∈ stk ++ out
  next_ : ∀ x : Int, 0 ≤ x → x < succ.length → 0 ≤ nth next x ∧ nth next x ≤ (nth succ x).length
  done : ∀ x ∈ stk, ∀ j : Int, 0 ≤ j → j < nth next x → nth (nth succ x) j ∈ stk ++ out
  zero : ∀ x : Int, 0 ≤ x → x < succ.length → x ∉ stk ++ out → nth next x = 0
  parent : ∀ l1 y l2, out = l1 ++ y :: l2 → y = root ∨ ∃ p, (p ∈ stk ∨ p ∈ l2) ∧ y ∈ nth succ p
def Rows (succ : List (List Int)) : Prop := succ.length ≤ 64 ∧ ∀ r ∈ succ, r.length ≤ 64 ∧ ∀ t ∈ r, 0 ≤ t ∧ t < succ.length
theorem Rows.at_ {succ : List (List Int)} (h : Rows succ) {x : Int} (h0 : 0 ≤ x) (h1 : x < succ.length) {j : Int} (k0 : 0 ≤ j) (k1 : j < (nth succ x).length) : 0 ≤ nth (nth succ x) j ∧ nth (nth succ x) j < succ.length :=
  (h.2 _ (nth_mem h0 h1)).2 _ (nth_mem k0 k1)

theorem nth_setB {l : List Bool} {a k : Int} {x : Bool} (h0 : 0 ≤ a) (h1 : a < l.length) (h2 : 0 ≤ k) : nth (l.set a.toNat x) k = if k = a then x else nth l k := by
  unfold nth
  rw [List.getD_eq_getElem?_getD, List.getD_eq_getElem?_getD, List.getElem?_set]
  by_cases e : k = a
  · subst e
    rw [if_pos rfl, if_pos (by omega), if_pos rfl]; rfl
  · rw [if_neg (by omega), if_neg e]
theorem nth_replicate {n : Nat} {x : Int} {k : Int} (h0 : 0 ≤ k) (h1 : k < n) : nth (List.replicate n x) k = x := by
  unfold nth; rw [List.getD_eq_getElem?_getD, List.getElem?_replicate, if_pos (by omega)]; rfl
theorem nth_replicateB {n : Nat} {x : Bool} {k : Int} (h0 : 0 ≤ k) (h1 : k < n) : nth (List.replicate n x) k = x := by
  unfold nth; rw [List.getD_eq_getElem?_getD, List.getElem?_replicate, if_pos (by omega)]; rfl
theorem OInv.start {succ : List (List Int)} {root : Int} (hr : Rows succ) (h0 : 0 ≤ root) (h1 : root < succ.length) : OInv succ root [root] [] ((List.replicate 64 false).set root.toNat true) (List.replicate 64 0) where
  lseen := by simp
  lnext := by simp
  range := by intro x hx; simp at hx; subst hx; exact ⟨h0, h1⟩
  nodup := by simp
  seen_ := by
    intro x x0 x1
    have := hr.1
    rw [nth_setB h0 (by simp; omega) x0, nth_replicateB x0 (by omega)]
    simp
  head := .inl ⟨[], rfl⟩
  chain := by intro l1 a b l2 h; have := congrArg List.length h; simp at this; omega
  closed := by simp
  next_ := by intro x x0 x1; have := hr.1; rw [nth_replicate x0 (by omega)]; omega
  done := by intro x hx j j0 j1; simp at hx; subst hx; have := hr.1; rw [nth_replicate h0 (by omega)] at j1; omega
  zero := by intro x x0 x1 _; have := hr.1; exact nth_replicate x0 (by omega)
  parent := by intro l1 y l2 h; have := congrArg List.length h; simp at this

theorem mem_snoc_top {pre : List Int} {x : Int} : x ∈ pre ++ [x] := by simp
theorem OInv.top {succ : List (List Int)} {root x : Int} {pre out : List Int} {seen : List Bool} {next : List Int} (h : OInv succ root (pre ++ [x]) out seen next) : 0 ≤ x ∧ x < succ.length :=
  h.range x (List.mem_append_left _ mem_snoc_top)
/-- One step on, to what was seen. -/
theorem OInv.skip {succ : List (List Int)} {root x : Int} {pre out : List Int} {seen : List Bool} {next : List Int} (hr : Rows succ) (h : OInv succ root (pre ++ [x]) out seen next) (hn : nth next x < (nth succ x).length) (hs : nth seen (nth (nth succ x) (nth next x)) = true) :
    OInv succ root (pre ++ [x]) out seen (next.set x.toNat (nth next x + 1)) := by
  have hx := h.top
  have hnx := h.next_ x hx.1 hx.2
  have hlen := hr.1
  have hy := hr.at_ hx.1 hx.2 hnx.1 hn
  refine { h with lnext := by simp [h.lnext], next_ := fun z z0 z1 => ?_, done := fun z hz j j0 j1 => ?_, zero := fun z z0 z1 hz => ?_ }
  · rw [nth_set hx.1 (by rw [h.lnext]; omega) z0]
    split
    · rename_i e; subst e; omega
    · exact h.next_ z z0 z1
  · have hzr := h.range z (List.mem_append_left _ hz)
    rw [nth_set hx.1 (by rw [h.lnext]; omega) hzr.1] at j1
    split at j1
    · rename_i e; subst e
      by_cases ej : j = nth next z
      · subst ej; exact (h.seen_ _ hy.1 hy.2).1 hs
      · exact h.done z hz j j0 (by omega)
    · exact h.done z hz j j0 j1
  · rw [nth_set hx.1 (by rw [h.lnext]; omega) z0]
    rw [if_neg (fun e => hz (by rw [e]; exact List.mem_append_left _ mem_snoc_top))]
    exact h.zero z z0 z1 hz
/-- One step on, to what is new. -/
theorem OInv.push {succ : List (List Int)} {root x y : Int} {pre out : List Int} {seen : List Bool} {next : List Int} (hr : Rows succ) (h : OInv succ root (pre ++ [x]) out seen next) (hn : nth next x < (nth succ x).length) (hy' : y = nth (nth succ x) (nth next x)) (hs : nth seen y = false) :
    OInv succ root (pre ++ [x] ++ [y]) out (seen.set y.toNat true) (next.set x.toNat (nth next x + 1)) := by
  have hx := h.top
  have hnx := h.next_ x hx.1 hx.2
  have hlen := hr.1
  have hy := hr.at_ hx.1 hx.2 hnx.1 hn
  rw [← hy'] at hy
  have hyn : y ∉ pre ++ [x] ++ out := fun hm => by
    have := (h.seen_ y hy.1 hy.2).2 hm
    rw [hs] at this; cases this
  have hmem : ∀ z, z ∈ pre ++ [x] ++ [y] ++ out ↔ z = y ∨ z ∈ pre ++ [x] ++ out := fun z => by
    simp only [List.mem_append, List.mem_singleton]
    constructor
    · rintro (((h1 | h1) | h1) | h1)
      · exact .inr (.inl (.inl h1))
      · exact .inr (.inl (.inr h1))
      · exact .inl h1
      · exact .inr (.inr h1)
    · rintro (h1 | (h1 | h1) | h1)
      · exact .inl (.inr h1)
      · exact .inl (.inl (.inl h1))
      · exact .inl (.inl (.inr h1))
      · exact .inr h1
  refine { lseen := by simp [h.lseen], lnext := by simp [h.lnext], range := fun z hz => ?_, nodup := ?_, seen_ := fun z z0 z1 => ?_, head := ?_, chain := fun l1 a b l2 e => ?_, closed := fun z hz w hw => ?_, next_ := fun z z0 z1 => ?_, done := fun z hz j j0 j1 => ?_, zero := fun z z0 z1 hz => ?_, parent := fun l1 z l2 e => ?_ }
  · rcases (hmem z).1 hz with rfl | hz
    · exact hy
    · exact h.range z hz
  · have hp : (y :: (pre ++ [x] ++ out)).Nodup := List.nodup_cons.2 ⟨hyn, h.nodup⟩
    refine (List.Perm.nodup_iff ?_).1 hp
    have : (pre ++ [x] ++ [y] ++ out).Perm ([y] ++ (pre ++ [x]) ++ out) := List.Perm.append_right _ List.perm_append_comm
    exact (by simpa using this.symm)
  · rw [nth_setB hy.1 (by rw [h.lseen]; omega) z0, hmem]
    by_cases e : z = y
    · rw [if_pos e]; simp [e]
    · rw [if_neg e, h.seen_ z z0 z1]; simp [e]
  · rcases h.head with ⟨tl, e⟩ | ⟨e, _⟩
    · exact .inl ⟨tl ++ [y], by rw [e]; rfl⟩
    · simp at e
  · rcases List.eq_nil_or_concat l2 with rfl | ⟨l3, c, rfl⟩
    · have e' : pre ++ [x] ++ [y] = l1 ++ [a] ++ [b] := by rw [e]; simp
      have e1 := List.append_inj' e' rfl
      have e2 := List.append_inj' e1.1 rfl
      simp only [List.cons.injEq, and_true] at e1 e2
      rw [← e1.2, ← e2.2, hy']
      exact nth_mem hnx.1 hn
    · have e' : pre ++ [x] ++ [y] = (l1 ++ a :: b :: l3) ++ [c] := by rw [e]; simp
      have e1 := List.append_inj' e' rfl
      exact h.chain l1 a b l3 e1.1
  · exact (hmem w).2 (.inr (h.closed z hz w hw))
  · rw [nth_set hx.1 (by rw [h.lnext]; omega) z0]
    split
    · rename_i e; subst e; omega
    · exact h.next_ z z0 z1
  · rcases List.mem_append.1 hz with hz | hz
    · have hzr := h.range z (List.mem_append_left _ hz)
      rw [nth_set hx.1 (by rw [h.lnext]; omega) hzr.1] at j1
      split at j1
      · rename_i e; subst e
        by_cases ej : j = nth next z
        · subst ej; rw [← hy']; exact (hmem y).2 (.inl rfl)
        · exact (hmem _).2 (.inr (h.done z hz j j0 (by omega)))
      · exact (hmem _).2 (.inr (h.done z hz j j0 j1))
    · rw [List.mem_singleton.1 hz] at j1 ⊢
      rw [nth_set hx.1 (by rw [h.lnext]; omega) hy.1, if_neg (fun e => hyn (by rw [e]; exact List.mem_append_left _ mem_snoc_top)), h.zero y hy.1 hy.2 hyn] at j1
      omega
  · have hz' : z ∉ pre ++ [x] ++ out := fun hm => hz ((hmem z).2 (.inr hm))
    rw [nth_set hx.1 (by rw [h.lnext]; omega) z0, if_neg (fun e => hz' (by rw [e]; exact List.mem_append_left _ mem_snoc_top))]
    exact h.zero z z0 z1 hz'
  · rcases h.parent l1 z l2 e with h1 | ⟨p, h1 | h1, h2⟩
    · exact .inl h1
    · exact .inr ⟨p, .inl (List.mem_append_left _ h1), h2⟩
    · exact .inr ⟨p, .inr h1, h2⟩
/-- The topmost is done. -/
theorem OInv.pop {succ : List (List Int)} {root x : Int} {pre out : List Int} {seen : List Bool} {next : List Int} (h : OInv succ root (pre ++ [x]) out seen next) (hn : ¬ nth next x < (nth succ x).length) :
    OInv succ root pre (out ++ [x]) seen next := by
  have hx := h.top
  have hnx := h.next_ x hx.1 hx.2
  have hmem : ∀ z, z ∈ pre ++ (out ++ [x]) ↔ z ∈ pre ++ [x] ++ out := fun z => by
    simp only [List.mem_append, List.mem_singleton]
    constructor
    · rintro (h1 | h1 | h1)
      · exact .inl (.inl h1)
      · exact .inr h1
      · exact .inl (.inr h1)
    · rintro ((h1 | h1) | h1)
      · exact .inl h1
      · exact .inr (.inr h1)
      · exact .inr (.inl h1)
  refine { lseen := h.lseen, lnext := h.lnext, range := fun z hz => h.range z ((hmem z).1 hz), nodup := ?_, seen_ := fun z z0 z1 => (by rw [hmem]; exact h.seen_ z z0 z1), head := ?_, chain := fun l1 a b l2 e => (h.chain l1 a b (l2 ++ [x]) (by rw [e]; simp)), closed := fun z hz w hw => ?_, next_ := h.next_, done := fun z hz j j0 j1 => (hmem _).2 (h.done z (List.mem_append_left _ hz) j j0 j1), zero := fun z z0 z1 hz => h.zero z z0 z1 (fun hm => hz ((hmem z).2 hm)), parent := fun l1 z l2 e => ?_ }
  · refine (List.Perm.nodup_iff ?_).1 h.nodup
    rw [List.append_assoc]
    exact List.Perm.append_left _ List.perm_append_comm
  · rcases h.head with ⟨tl, e⟩ | ⟨e, _⟩
    · cases pre with
      | nil =>
        simp only [List.nil_append, List.cons.injEq] at e
        exact .inr ⟨rfl, out, by rw [e.1]⟩
      | cons a pre =>
        simp only [List.cons_append, List.cons.injEq] at e
        exact .inl ⟨pre, by rw [e.1]⟩
    · simp at e
  · refine (hmem w).2 ?_
    rcases List.mem_append.1 hz with hz | hz
    · exact h.closed z hz w hw
    · rw [List.mem_singleton.1 hz] at hw
      obtain ⟨j, hj, rfl⟩ := List.mem_iff_getElem.1 hw
      have := h.done x mem_snoc_top (j : Int) (by omega) (by omega)
      have e2 := nth_get (xs := nth succ x) (i := (j : Int)) (by omega) (by omega)
      rw [Int.toNat_natCast, List.getElem?_eq_getElem hj] at e2
      simp only [Option.some.injEq] at e2
      rw [e2]; exact this
  · rcases List.eq_nil_or_concat l2 with rfl | ⟨l3, c, rfl⟩
    · have e' : out ++ [x] = l1 ++ [z] := e
      have e1 := List.append_inj' e' rfl
      simp only [List.cons.injEq, and_true] at e1
      rcases List.eq_nil_or_concat pre with rfl | ⟨pr, a, rfl⟩
      · rcases h.head with ⟨tl, e⟩ | ⟨e, _⟩
        · simp only [List.nil_append, List.cons.injEq] at e
          exact .inl (by rw [← e1.2, e.1])
        · simp at e
      · refine .inr ⟨a, .inl (by simp), ?_⟩
        rw [← e1.2]
        exact h.chain pr a x [] (by simp)
    · have e' : out ++ [x] = (l1 ++ z :: l3) ++ [c] := by rw [e]; simp
      have e1 := List.append_inj' e' rfl
      simp only [List.cons.injEq, and_true] at e1
      rcases h.parent l1 z l3 e1.1 with h1 | ⟨p, h1 | h1, h2⟩
      · exact .inl h1
      · rcases List.mem_append.1 h1 with h1 | h1
        · exact .inr ⟨p, .inl h1, h2⟩
        · exact .inr ⟨p, .inr (by rw [List.mem_singleton.1 h1, e1.2]; simp), h2⟩
      · exact .inr ⟨p, .inr (by simp [h1]), h2⟩
theorem OInv.finish {succ : List (List Int)} {root : Int} {out : List Int} {seen : List Bool} {next : List Int} (h : OInv succ root [] out seen next) : OrderP succ root out.reverse where
  nodup := (List.Perm.nodup_iff (List.reverse_perm out)).2 (by simpa using h.nodup)
  head := by
    rcases h.head with ⟨tl, e⟩ | ⟨_, l, e⟩
    · cases e
    · exact ⟨l.reverse, by rw [e]; simp⟩
  range := fun x hx => h.range x (by simpa using hx)
  closed := fun x hx y hy => by have := h.closed x (by simpa using hx) y hy; simpa using this
  parent := fun l1 y l2 e => by
    have e' : out = l2.reverse ++ y :: l1.reverse := by
      have := congrArg List.reverse e
      simpa using this
    rcases h.parent _ _ _ e' with h1 | ⟨p, h1 | h1, h2⟩
    · exact .inl h1
    · cases h1
    · exact .inr ⟨p, by simpa using h1, h2⟩
theorem top_of {stk : List Int} (h : stk ≠ []) {n : Nat} (hn : n = stk.length) : ∃ pre x, stk = pre ++ [x] ∧ x = nth stk ((n : Int) - 1) := by
  subst hn
  refine ⟨stk.dropLast, stk.getLast h, (List.dropLast_concat_getLast h).symm, ?_⟩
  have hl : 1 ≤ stk.length := by cases stk with | nil => exact absurd rfl h | cons a l => simp
  have := nth_get (xs := stk) (i := ((stk.length : Int) - 1)) (by omega) (by omega)
  rw [show ((stk.length : Int) - 1).toNat = stk.length - 1 from by omega, List.getElem?_eq_getElem (by omega)] at this
  simp only [Option.some.injEq] at this
  rw [← this, List.getLast_eq_getElem]
theorem may_rows {gr : GraphD} (h : mayG gr = true) : 1 ≤ gr.succ.length ∧ Rows gr.succ := by
  simp only [mayG, Bool.and_eq_true, beq_iff_eq] at h
  have hok : makeOK gr.succ = true := by
    cases hk : makeOK gr.succ with
    | true => rfl
    | false => rw [make_no hk] at h; simp at h
  have := makeOK_rows hok
  exact ⟨this.1, this.2.1, this.2.2⟩
theorem take_pre {stk pre : List Int} {x : Int} (h : stk = pre ++ [x]) {n : Nat} (hn : n = stk.length) : stk.take ((n : Int) - 1).toNat = pre := by
  subst hn; subst h
  rw [show (((pre ++ [x]).length : Int) - 1).toNat = pre.length from by simp]
  exact List.take_left' rfl
/-- How far it is to the end. -/
def pot (succ : List (List Int)) (next : List Int) : Nat := ((List.range succ.length).map fun (i : Nat) => (nth succ (i : Int)).length - (nth next (i : Int)).toNat).sum
theorem sum_upd {f g : Nat → Nat} {x : Nat} : ∀ {n : Nat}, x < n → (∀ i, i ≠ x → f i = g i) → f x = g x + 1 → ((List.range n).map f).sum = ((List.range n).map g).sum + 1
  | 0, h, _, _ => by omega
  | n + 1, h, he, hx => by
    rw [List.range_succ, List.map_append, List.map_append, List.sum_append, List.sum_append]
    by_cases e : x = n
    · subst e
      have : (List.range x).map f = (List.range x).map g := List.map_congr_left fun i hi => he i (by have := List.mem_range.1 hi; omega)
      rw [this]; simp [hx]; omega
    · have := sum_upd (n := n) (by omega) he hx
      rw [this, List.map_singleton, List.map_singleton, he n (Ne.symm e)]; omega
theorem pot_step {succ : List (List Int)} {next : List Int} {x : Int} (h0 : 0 ≤ x) (h1 : x < succ.length) (hl : x < next.length) (hn0 : 0 ≤ nth next x) (hn : nth next x < (nth succ x).length) : pot succ next = pot succ (next.set x.toNat (nth next x + 1)) + 1 := by
  unfold pot
  refine sum_upd (x := x.toNat) (by omega) (fun i hi => ?_) ?_
  · rw [nth_set h0 hl (by omega), if_neg (by omega)]
  · rw [nth_set h0 hl (by omega), if_pos (by omega)]
    rw [show ((x.toNat : Nat) : Int) = x from by omega]
    omega
theorem nodup_lt : ∀ (n : Nat) (l : List Nat), l.Nodup → (∀ x ∈ l, x < n) → l.length ≤ n
  | 0, l, _, h => by
    cases l with
    | nil => simp
    | cons x l => have := h x (.head _); omega
  | n + 1, l, hn, h => by
    have h1 := nodup_lt n (l.erase n) (hn.erase n) (fun x hx => by
      have := (hn.mem_erase_iff).1 hx
      have := h x this.2
      omega)
    rw [List.length_erase] at h1
    split at h1 <;> omega
theorem OInv.len {succ : List (List Int)} {root : Int} {stk out : List Int} {seen : List Bool} {next : List Int} (h : OInv succ root stk out seen next) : stk.length + out.length ≤ succ.length := by
  have hnd : ((stk ++ out).map Int.toNat).Nodup := by
    refine List.pairwise_map.2 (List.Pairwise.imp_of_mem ?_ h.nodup)
    intro x y hx hy e e2
    have h1 := h.range x hx
    have h2 := h.range y hy
    exact e (by omega)
  have := nodup_lt succ.length _ hnd (fun x hx => by
    obtain ⟨y, hy, rfl⟩ := List.mem_map.1 hx
    have := h.range y hy
    omega)
  simpa using this
end Go.Proofs.YtdjemlkllbhdlaaGreat

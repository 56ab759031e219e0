/- The tree's making: what each round keeps. -/
import Derived.Test.YtdjemlkllbhdlaaGreatSpec5
set_option linter.unusedVariables false
set_option linter.unusedSimpArgs false
namespace Go.Proofs.YtdjemlkllbhdlaaGreat
open Go Go.RowKit

theorem AllI_set {l : List Int} {k : Nat} {x : Int} (h : AllI l) (hx : I64 x) : AllI (l.set k x) := by
  rw [AllI_iff] at *
  intro y hy
  rcases List.mem_or_eq_of_mem_set hy with h1 | rfl
  · exact h y h1
  · exact hx
theorem AllI_rep {n : Nat} {x : Int} (hx : I64 x) : AllI (List.replicate n x) := by
  rw [AllI_iff]
  intro y hy
  rw [(List.mem_replicate.1 hy).2]; exact hx
theorem OrderP.at_ {succ : List (List Int)} {root : Int} {ord : List Int} (h : OrderP succ root ord) {k : Int} (h0 : 0 ≤ k) (h1 : k < ord.length) : 0 ≤ nth ord k ∧ nth ord k < succ.length := h.range _ (nth_mem h0 h1)
theorem OrderP.inj {succ : List (List Int)} {root : Int} {ord : List Int} (h : OrderP succ root ord) {j k : Int} (j0 : 0 ≤ j) (j1 : j < ord.length) (k0 : 0 ≤ k) (k1 : k < ord.length) (e : nth ord j = nth ord k) : j = k := by
  have h1 := nth_get j0 j1
  have h2 := nth_get k0 k1
  have a : j.toNat < ord.length := by omega
  have b : k.toNat < ord.length := by omega
  rw [List.getElem?_eq_getElem a] at h1
  rw [List.getElem?_eq_getElem b] at h2
  simp only [Option.some.injEq] at h1 h2
  have hp := List.pairwise_iff_getElem.1 h.nodup
  have hne : ¬ j.toNat < k.toNat := fun hlt => hp _ _ a b hlt (by rw [h1, h2, e])
  have hne2 : ¬ k.toNat < j.toNat := fun hlt => hp _ _ b a hlt (by rw [h1, h2, e])
  omega
theorem OrderP.root {succ : List (List Int)} {root : Int} {ord : List Int} (h : OrderP succ root ord) : nth ord 0 = root := by
  obtain ⟨tl, rfl⟩ := h.head
  rfl
theorem OrderP.mem {ord : List Int} {x : Int} (h : x ∈ ord) : ∃ k : Nat, k < ord.length ∧ x = nth ord (k : Int) := by
  obtain ⟨j, hj, rfl⟩ := List.mem_iff_getElem.1 h
  refine ⟨j, hj, ?_⟩
  have := nth_get (xs := ord) (i := (j : Int)) (by omega) (by omega)
  rw [Int.toNat_natCast, List.getElem?_eq_getElem hj] at this
  simpa using this
theorem nth_drop1 {l : List Int} {j : Int} (h0 : 0 ≤ j) {w : Nat} (hw : (w : Int) = j + 1) : nth (l.drop 1) j = nth l (w : Int) := by
  unfold nth
  rw [List.getD_eq_getElem?_getD, List.getD_eq_getElem?_getD, List.getElem?_drop]
  congr 2; omega
theorem OrderP.behind {succ : List (List Int)} {root : Int} {ord : List Int} (h : OrderP succ root ord) {w : Nat} (h0 : 0 < w) (h1 : w < ord.length) : ∃ p, p < w ∧ prO succ ord w p := by
  have hd : ord = ord.take w ++ nth ord (w : Int) :: ord.drop (w + 1) := by
    have := drop_nth (xs := ord) (i := (w : Int)) (by omega) (by omega)
    rw [Int.toNat_natCast] at this
    rw [← this, List.take_append_drop]
  rcases h.parent _ _ _ hd with e | ⟨p, hp, hpm⟩
  · have := h.inj (j := (w : Int)) (k := 0) (by omega) (by omega) (by omega) (by omega) (by rw [e, h.root])
    omega
  · obtain ⟨k, hk, e⟩ := OrderP.mem hp
    simp only [List.length_take] at hk
    have e2 : nth (ord.take w) (k : Int) = nth ord (k : Int) := by
      unfold nth
      rw [List.getD_eq_getElem?_getD, List.getD_eq_getElem?_getD, List.getElem?_take, if_pos (by omega)]
    rw [e2] at e
    exact ⟨k, by omega, h1, by omega, e ▸ hpm⟩
theorem places_start (ord : List Int) (n : Nat) : (0 : Int) ≤ 0 ∧ (0 : Int) ≤ ord.length ∧ AllI (List.replicate n 0) ∧ (List.replicate n (0 : Int)).length = n ∧ ∀ k : Nat, (k : Int) < 0 → nth (List.replicate n (0 : Int)) (nth ord (k : Int)) = k :=
  ⟨by omega, by omega, AllI_rep ⟨by decide, by decide⟩, by simp, fun k hk => by omega⟩
theorem places_step {succ : List (List Int)} {root : Int} {ord al : List Int} (hO : OrderP succ root ord) (hn : succ.length ≤ 64) {i x : Int} (i0 : 0 ≤ i) (i1 : i < ord.length) (h2 : AllI al) (h3 : al.length = succ.length) (h4 : ∀ k : Nat, (k : Int) < i → nth al (nth ord (k : Int)) = k) (hx : x = nth ord i) :
    0 ≤ i + 1 ∧ i + 1 ≤ ord.length ∧ AllI (al.set x.toNat i) ∧ (al.set x.toNat i).length = succ.length ∧ ∀ k : Nat, (k : Int) < i + 1 → nth (al.set x.toNat i) (nth ord (k : Int)) = k := by
  subst hx
  have hol := ord_len hO
  have hr := hO.at_ i0 i1
  refine ⟨by omega, by omega, AllI_set h2 ⟨by omega, by omega⟩, by simp [h3], fun k hk => ?_⟩
  have hk0 := hO.at_ (k := (k : Int)) (by omega) (by omega)
  rw [nth_set hr.1 (by omega) hk0.1]
  split
  · rename_i e
    exact (hO.inj (by omega) (by omega) i0 i1 e).symm
  · rename_i e
    refine h4 k ?_
    by_cases e2 : (k : Int) = i
    · rw [e2] at e; exact absurd rfl e
    · omega
theorem TInv.start {succ : List (List Int)} {root : Int} {ord al : List Int} (hO : OrderP succ root ord) (hn : succ.length ≤ 64) (h3 : al.length = succ.length) (h4 : ∀ k : Nat, (k : Int) < ord.length → nth al (nth ord (k : Int)) = k) (h0 : 0 ≤ root) (h1 : root < succ.length) :
    TInv succ ord ((List.replicate succ.length (-2)).set root.toNat root) al (fun _ => 0) 1 (Dt fun _ => 0) := by
  have hP : Par (fun _ => 0) := ⟨rfl, fun z hz => hz⟩
  have hl : 1 ≤ ord.length := by obtain ⟨tl, e⟩ := hO.head; rw [e]; simp
  have hr := hO.root
  refine ⟨⟨hP, hn, by simp, h3, fun k hk => hO.at_ (by omega) (by omega), fun k hk => ?_, fun k hk => h4 k (by omega)⟩, DInv.start hP, hl, fun k hk hk2 => ?_, fun x x0 x1 hx => ?_⟩
  · have : k = 0 := by omega
    subst this
    show nth _ (nth ord 0) = nth ord 0
    rw [hr, nth_set h0 (by simp; omega) h0, if_pos rfl]
  · have hk0 := hO.at_ (k := (k : Int)) (by omega) (by omega)
    rw [nth_set h0 (by simp; omega) hk0.1, if_neg, nth_replicate hk0.1 (by omega)]
    intro e
    have := hO.inj (j := (k : Int)) (k := 0) (by omega) (by omega) (by omega) (by omega) (by rw [e, hr])
    omega
  · rw [nth_set h0 (by simp; omega) x0, if_neg, nth_replicate x0 (by omega)]
    intro e
    obtain ⟨tl, e2⟩ := hO.head
    exact hx (by rw [e, e2]; simp)
/-- Which have been taken. -/
theorem TInv.taken {succ : List (List Int)} {ord tl al : List Int} {T : Nat → Nat} {v : Nat} {D0 : Nat → Nat → Prop} (h : TInv succ ord tl al T v D0) {x : Int} (x0 : 0 ≤ x) (x1 : x < succ.length) (hx : nth tl x ≠ -2) : ∃ k, k < v ∧ x = nth ord (k : Int) := by
  by_cases hm : x ∈ ord
  · obtain ⟨k, hk, e⟩ := OrderP.mem hm
    refine ⟨k, ?_, e⟩
    apply Classical.byContradiction
    intro hn
    exact hx (e ▸ h.wait k (by omega) hk)
  · exact absurd (h.none_ x x0 x1 hm) hx
theorem TInv.not_taken {succ : List (List Int)} {ord tl al : List Int} {T : Nat → Nat} {v : Nat} {D0 : Nat → Nat → Prop} (h : TInv succ ord tl al T v D0) {x : Int} (hx : nth tl x = -2) : ∀ k : Nat, k < v → nth ord (k : Int) ≠ x := fun k hk e => by
  have h1 := h.ta.tree k hk
  rw [e, hx] at h1
  have := h.ta.rng (T k) (h.ta.up hk)
  omega
theorem BestOf.start (ord tl : List Int) (T : Nat → Nat) (v : Nat) (P : List Int) : BestOf ord tl T v (P.take 0) (-2) := .inl ⟨rfl, fun p _ => by simp⟩
theorem BestOf.skip {ord tl : List Int} {T : Nat → Nat} {v : Nat} {P : List Int} {best x : Int} (h : BestOf ord tl T v P best) (hx : ∀ k : Nat, k < v → nth ord (k : Int) ≠ x) : BestOf ord tl T v (P ++ [x]) best := by
  have hm : ∀ p : Nat, p < v → (nth ord (p : Int) ∈ P ++ [x] ↔ nth ord (p : Int) ∈ P) := fun p hp => by
    simp only [List.mem_append, List.mem_singleton]
    exact ⟨fun h1 => h1.resolve_right (hx p hp), .inl⟩
  rcases h with ⟨e, h⟩ | ⟨c, hc, e, h⟩
  · exact .inl ⟨e, fun p hp h1 => h p hp ((hm p hp).1 h1)⟩
  · refine .inr ⟨c, hc, e, fun y => (h y).trans ⟨fun h1 p hp h2 => h1 p hp ((hm p hp).1 h2), fun h1 p hp h2 => h1 p hp ((hm p hp).2 h2)⟩⟩
theorem BestOf.put {ord tl : List Int} {T : Nat → Nat} {v : Nat} {P : List Int} {best x : Int} (h : BestOf ord tl T v P best) (hi : ∀ j k : Nat, j < v → k < v → nth ord (j : Int) = nth ord (k : Int) → j = k) {k : Nat} (hk : k < v) (hx : x = nth ord (k : Int)) (hb : best = -2) (hpos : ∀ j : Nat, j < v → 0 ≤ nth ord (j : Int)) : BestOf ord tl T v (P ++ [x]) x := by
  rcases h with ⟨e, h⟩ | ⟨c, hc, e, h⟩
  · refine .inr ⟨k, hk, hx, fun y => ⟨fun hd p hp hm => ?_, fun hd => hd k hk (by rw [hx]; simp)⟩⟩
    rcases List.mem_append.1 hm with h1 | h1
    · exact absurd h1 (h p hp)
    · rw [hi p k hp hk (by rw [List.mem_singleton.1 h1, hx])]; exact hd
  · have := hpos c hc; omega
theorem BestOf.meet {ord tl : List Int} {T : Nat → Nat} {v : Nat} {P : List Int} {x : Int} (hi : ∀ j k : Nat, j < v → k < v → nth ord (j : Int) = nth ord (k : Int) → j = k) {c k m : Nat} (hc : ∀ y, Dt T c y ↔ ∀ p : Nat, p < v → nth ord (p : Int) ∈ P → Dt T p y) (hk : k < v) (hx : x = nth ord (k : Int))
    (hm : ∀ y, Dt T m y ↔ Dt T c y ∧ Dt T k y) (hmv : m < v) : BestOf ord tl T v (P ++ [x]) (nth ord (m : Int)) := by
  refine .inr ⟨m, hmv, rfl, fun y => ?_⟩
  rw [hm y, hc y]
  constructor
  · rintro ⟨h1, h2⟩ p hp hpm
    rcases List.mem_append.1 hpm with h3 | h3
    · exact h1 p hp h3
    · rw [hi p k hp hk (by rw [List.mem_singleton.1 h3, hx])]; exact h2
  · intro h1
    exact ⟨fun p hp hpm => h1 p hp (List.mem_append_left _ hpm), h1 k hk (by rw [hx]; simp)⟩
/-- The best of all: what the place's predecessors have in common. -/
theorem BestOf.all {succ : List (List Int)} {root : Int} {ord tl al : List Int} {T : Nat → Nat} {v : Nat} {D0 : Nat → Nat → Prop} {P : List Int} {best : Int} (hO : OrderP succ root ord) (h : TInv succ ord tl al T v D0) {w : Nat} (w0 : 0 < w) (w1 : w < ord.length) (wv : w ≤ v)
    (hP : ∀ p : Int, p ∈ P ↔ 0 ≤ p ∧ p < succ.length ∧ nth ord (w : Int) ∈ nth succ p) (hB : BestOf ord tl T v P best) :
    ∃ c, c < v ∧ best = nth ord (c : Int) ∧ ∀ y, Dt T c y ↔ ∀ p, prO succ ord w p → p < v → Dt T p y := by
  have hle := h.le
  have hpr : ∀ p : Nat, p < v → (nth ord (p : Int) ∈ P ↔ prO succ ord w p) := fun p hp => by
    have := hO.at_ (k := (p : Int)) (by omega) (by omega)
    rw [hP]
    exact ⟨fun h1 => ⟨w1, by omega, h1.2.2⟩, fun h1 => ⟨this.1, this.2, h1.2.2⟩⟩
  rcases hB with ⟨_, hn⟩ | ⟨c, hc, e, hc2⟩
  · obtain ⟨p, hp, hpp⟩ := hO.behind w0 w1
    exact absurd ((hpr p (by omega)).2 hpp) (hn p (by omega))
  · exact ⟨c, hc, e, fun y => (hc2 y).trans ⟨fun h1 p hp hpv => h1 p hpv ((hpr p hpv).2 hp), fun h1 p hpv hp => h1 p ((hpr p hpv).1 hp) hpv⟩⟩
theorem TInv.step {succ : List (List Int)} {root : Int} {ord tl al : List Int} {T : Nat → Nat} {v : Nat} {D0 : Nat → Nat → Prop} (hO : OrderP succ root ord) (hat : ∀ k : Nat, k < ord.length → nth al (nth ord (k : Int)) = k) (h : TInv succ ord tl al T v D0) {w : Nat} (w0 : 0 < w) (w1 : w < ord.length) (wv : w ≤ v)
    (hst : ∀ z : Nat, 0 < z → z < w → Stable succ ord T v z) {c : Nat} (hcv : c < v) (hc : ∀ y, Dt T c y ↔ ∀ p, prO succ ord w p → p < v → Dt T p y) (hne : nth tl (nth ord (w : Int)) ≠ nth ord (c : Int)) :
    ∃ T' v' D0', TInv succ ord (tl.set (nth ord (w : Int)).toNat (nth ord (c : Int))) al T' v' D0' ∧ (ord.length - v') * 65 + msum T' v' < (ord.length - v) * 65 + msum T v := by
  have hle := h.le
  have hol := ord_len hO
  have hn64 := h.ta.n64
  have hwr := hO.at_ (k := (w : Int)) (by omega) (by omega)
  have hset : ∀ k : Nat, k < ord.length → nth (tl.set (nth ord (w : Int)).toNat (nth ord (c : Int))) (nth ord (k : Int)) = if k = w then nth ord (c : Int) else nth tl (nth ord (k : Int)) := fun k hk => by
    have hk0 := hO.at_ (k := (k : Int)) (by omega) (by omega)
    rw [nth_set hwr.1 (by rw [h.ta.ltr]; exact hwr.2) hk0.1]
    by_cases e : k = w
    · subst e; simp
    · rw [if_neg e, if_neg]
      intro e2
      have := hO.inj (by omega) (by omega) (by omega) (by omega) e2
      omega
  have hnone : ∀ x : Int, 0 ≤ x → x < succ.length → x ∉ ord → nth (tl.set (nth ord (w : Int)).toNat (nth ord (c : Int))) x = -2 := fun x x0 x1 hx => by
    rw [nth_set hwr.1 (by rw [h.ta.ltr]; exact hwr.2) x0, if_neg]
    · exact h.none_ x x0 x1 hx
    · intro e
      exact hx (e ▸ nth_mem (xs := ord) (i := (w : Int)) (by omega) (by omega))
  by_cases hwv : w < v
  · obtain ⟨h1, h2⟩ := h.dom.better (fun z z0 z1 => hO.behind z0 (by omega)) w0 hwv hc
    have hcT : c < T w := by
      have := h1.le h.dom.par
      by_cases e : c = T w
      · subst e; exact absurd (h.ta.tree w hwv) hne
      · omega
    have hcw : c < w := by have := h.dom.par.lt w w0; omega
    refine ⟨upd T w c, v, D0, ⟨⟨h2.par, h.ta.n64, by simp [h.ta.ltr], h.ta.lat, h.ta.rng, fun k hk => ?_, h.ta.place⟩, h2, h.le, fun k hk hk2 => ?_, hnone⟩, by have := msum_better hwv hcT; omega⟩
    · rw [hset k (by omega)]
      by_cases e : k = w
      · subst e; rw [if_pos rfl, show upd T k c k = c from if_pos rfl]
      · rw [if_neg e, show upd T w c k = T k from if_neg e]; exact h.ta.tree k hk
    · rw [hset k hk2, if_neg (by omega)]; exact h.wait k hk hk2
  · have hwe : w = v := by omega
    subst hwe
    have h2 := h.dom.more (hO.behind w0 w1) (fun z z0 z1 => (hst z z0 z1).2) hc
    refine ⟨upd T w c, w + 1, _, ⟨⟨h2.par, h.ta.n64, by simp [h.ta.ltr], h.ta.lat, fun k hk => hO.at_ (by omega) (by omega), fun k hk => ?_, fun k hk => hat k (by omega)⟩, h2, by omega, fun k hk hk2 => ?_, hnone⟩, ?_⟩
    · rw [hset k (by omega)]
      by_cases e : k = w
      · subst e; rw [if_pos rfl, show upd T k c k = c from if_pos rfl]
      · rw [if_neg e, show upd T w c k = T k from if_neg e]; exact h.ta.tree k (by omega)
    · rw [hset k hk2, if_neg (by omega)]; exact h.wait k (by omega) hk2
    · rw [msum_more]
      have : (ord.length - w) = (ord.length - (w + 1)) + 1 := by omega
      rw [this, Nat.add_mul]; omega
theorem TInv.same {succ : List (List Int)} {root : Int} {ord tl al : List Int} {T : Nat → Nat} {v : Nat} {D0 : Nat → Nat → Prop} (hO : OrderP succ root ord) (h : TInv succ ord tl al T v D0) {w : Nat} (w1 : w < ord.length)
    {c : Nat} (hcv : c < v) (hc : ∀ y, Dt T c y ↔ ∀ p, prO succ ord w p → p < v → Dt T p y) (he : nth tl (nth ord (w : Int)) = nth ord (c : Int)) : Stable succ ord T v w := by
  have hle := h.le
  have hwv : w < v := by
    apply Classical.byContradiction
    intro hn
    have h1 := h.wait w (by omega) w1
    have h2 := h.ta.rng c hcv
    omega
  have h1 := h.ta.tree w hwv
  rw [he] at h1
  have h2 := h.ta.inj hcv (h.ta.up hwv) h1
  exact ⟨hwv, fun y => by rw [← h2]; exact hc y⟩

theorem mem_edges : ∀ {s : List (List Int)} {k i t : Int}, (i, t) ∈ edgesFrom k s ↔ ∃ j : Nat, j < s.length ∧ i = k + j ∧ t ∈ nth s (j : Int)
  | [], k, i, t => by simp [edgesFrom]
  | r :: s, k, i, t => by
    simp only [edgesFrom, List.mem_append, List.mem_map, Prod.mk.injEq, mem_edges (s := s)]
    constructor
    · rintro (⟨u, hu, rfl, rfl⟩ | ⟨j, hj, e, ht⟩)
      · exact ⟨0, by simp, by omega, hu⟩
      · refine ⟨j + 1, by simp; omega, by omega, ?_⟩
        have : nth (r :: s) ((j + 1 : Nat) : Int) = nth s (j : Int) := by unfold nth; rfl
        rw [this]; exact ht
    · rintro ⟨j, hj, e, ht⟩
      cases j with
      | zero => exact .inl ⟨t, ht, by omega, rfl⟩
      | succ j =>
        refine .inr ⟨j, by simp at hj; omega, by omega, ?_⟩
        have : nth (r :: s) ((j + 1 : Nat) : Int) = nth s (j : Int) := by unfold nth; rfl
        rw [this] at ht; exact ht
theorem mem_preds {gr : GraphD} (h : mayG gr = true) {x : Int} (x0 : 0 ≤ x) (x1 : x < gr.succ.length) (p : Int) : p ∈ nth gr.pred x ↔ 0 ≤ p ∧ p < gr.succ.length ∧ x ∈ nth gr.succ p := by
  rw [may_pred h]
  have e : nth (predsD gr.succ) x = predsOf (edgesFrom 0 gr.succ) x.toNat := by
    unfold nth predsD
    rw [List.getD_eq_getElem?_getD, List.getElem?_map, List.getElem?_range (by omega)]; rfl
  rw [e]
  unfold predsOf
  simp only [List.mem_map, List.mem_filter, beq_iff_eq]
  constructor
  · rintro ⟨⟨i, t⟩, ⟨hm, ht⟩, rfl⟩
    obtain ⟨j, hj, e1, e2⟩ := mem_edges.1 hm
    simp only at ht e1 ⊢
    have : t = x := by omega
    subst this
    rw [show i = (j : Int) from by omega]
    exact ⟨by omega, by omega, e2⟩
  · rintro ⟨p0, p1, hx⟩
    refine ⟨(p, x), ⟨mem_edges.2 ⟨p.toNat, by omega, by omega, ?_⟩, by simp only; omega⟩, rfl⟩
    rw [show ((p.toNat : Nat) : Int) = p from by omega]
    exact hx
end Go.Proofs.YtdjemlkllbhdlaaGreat

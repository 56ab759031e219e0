/- Dominators: the plain mathematics of the tree that is made better till nothing turns. Places are numbers: 0 the root, each other one behind one that goes to it. -/
import Derived.Test.YtdjemlkllbhdlaaGreatSpec4
namespace Go.Proofs.YtdjemlkllbhdlaaGreat

def itT (T : Nat → Nat) : Nat → Nat → Nat
  | 0, z => z
  | k + 1, z => itT T k (T z)
/-- y is z, or above it. -/
def Dt (T : Nat → Nat) (z y : Nat) : Prop := ∃ k, itT T k z = y
structure Par (T : Nat → Nat) : Prop where
  zero : T 0 = 0
  lt : ∀ z, 0 < z → T z < z
theorem Dt.refl (T : Nat → Nat) (z : Nat) : Dt T z z := ⟨0, rfl⟩
theorem Dt.up {T : Nat → Nat} {z y : Nat} (h : Dt T (T z) y) : Dt T z y := let ⟨k, e⟩ := h; ⟨k + 1, e⟩
theorem itT_zero {T : Nat → Nat} (h : Par T) : ∀ k, itT T k 0 = 0
  | 0 => rfl
  | k + 1 => by show itT T k (T 0) = 0; rw [h.zero]; exact itT_zero h k
theorem Dt.iff {T : Nat → Nat} (h : Par T) {z y : Nat} : Dt T z y ↔ y = z ∨ (0 < z ∧ Dt T (T z) y) := by
  constructor
  · rintro ⟨k, e⟩
    cases k with
    | zero => exact .inl e.symm
    | succ k =>
      by_cases hz : 0 < z
      · exact .inr ⟨hz, k, e⟩
      · have : z = 0 := by omega
        subst this
        rw [itT_zero h] at e
        exact .inl e.symm
  · rintro (rfl | ⟨_, h⟩)
    · exact Dt.refl T y
    · exact h.up
theorem Dt.le {T : Nat → Nat} (h : Par T) {y : Nat} : ∀ {z : Nat}, Dt T z y → y ≤ z := by
  intro z
  induction z using Nat.strongRecOn with
  | _ z ih =>
    intro hd
    rcases (Dt.iff h).1 hd with rfl | ⟨hz, hd⟩
    · exact Nat.le_refl _
    · have := ih (T z) (h.lt z hz) hd; have := h.lt z hz; omega
theorem Dt.trans {T : Nat → Nat} (h : Par T) {y w : Nat} : ∀ {z : Nat}, Dt T z y → Dt T y w → Dt T z w := by
  intro z
  induction z using Nat.strongRecOn with
  | _ z ih =>
    intro hd hw
    rcases (Dt.iff h).1 hd with rfl | ⟨hz, hd⟩
    · exact hw
    · exact (ih (T z) (h.lt z hz) hd hw).up
theorem Dt.chain {T : Nat → Nat} (h : Par T) {y w : Nat} : ∀ {z : Nat}, Dt T z y → Dt T z w → w ≤ y → Dt T y w := by
  intro z
  induction z using Nat.strongRecOn with
  | _ z ih =>
    intro hy hw hle
    rcases (Dt.iff h).1 hy with rfl | ⟨hz, hy⟩
    · exact hw
    · have h1 := hy.le h
      have h2 := h.lt z hz
      rcases (Dt.iff h).1 hw with rfl | ⟨_, hw⟩
      · omega
      · exact ih (T z) h2 hy hw hle
theorem Dt.root {T : Nat → Nat} (h : Par T) : ∀ z, Dt T z 0 := by
  intro z
  induction z using Nat.strongRecOn with
  | _ z ih =>
    by_cases hz : 0 < z
    · exact (ih (T z) (h.lt z hz)).up
    · have : z = 0 := by omega
      subst this; exact Dt.refl T 0

/-- Another place above one. -/
def upd (T : Nat → Nat) (x c : Nat) : Nat → Nat := fun z => if z = x then c else T z
theorem Par.upd {T : Nat → Nat} (h : Par T) {x c : Nat} (hx : 0 < x) (hc : c < x) : Par (upd T x c) :=
  ⟨by unfold Go.Proofs.YtdjemlkllbhdlaaGreat.upd; rw [if_neg (by omega)]; exact h.zero, fun z hz => by
    unfold Go.Proofs.YtdjemlkllbhdlaaGreat.upd
    split
    · omega
    · exact h.lt z hz⟩
theorem Dt.upd_no {T : Nat → Nat} (h : Par T) {x c y : Nat} (hx : 0 < x) (hc : c < x) : ∀ {z : Nat}, ¬ Dt T z x → (Dt (upd T x c) z y ↔ Dt T z y) := by
  have h' := h.upd hx hc
  intro z
  induction z using Nat.strongRecOn with
  | _ z ih =>
    intro hn
    have hne : z ≠ x := fun e => hn (e ▸ Dt.refl T z)
    have e : Go.Proofs.YtdjemlkllbhdlaaGreat.upd T x c z = T z := if_neg hne
    rw [Dt.iff h', Dt.iff h, e]
    by_cases hz : 0 < z
    · rw [ih (T z) (h.lt z hz) fun hd => hn hd.up]
    · simp [hz]
theorem Dt.upd_yes {T : Nat → Nat} (h : Par T) {x c y : Nat} (hx : 0 < x) (hc : c < x) : ∀ {z : Nat}, Dt T z x → (Dt (upd T x c) z y ↔ (Dt T z y ∧ x ≤ y) ∨ Dt T c y) := by
  have h' := h.upd hx hc
  have hcx : ¬ Dt T c x := fun hd => by have := hd.le h; omega
  intro z
  induction z using Nat.strongRecOn with
  | _ z ih =>
    intro hz
    by_cases e : z = x
    · subst e
      have e1 : Go.Proofs.YtdjemlkllbhdlaaGreat.upd T z c z = c := if_pos rfl
      rw [Dt.iff h', e1, Dt.upd_no h hx hc hcx]
      constructor
      · rintro (rfl | ⟨_, hd⟩)
        · exact .inl ⟨Dt.refl T y, Nat.le_refl _⟩
        · exact .inr hd
      · rintro (⟨hd, hle⟩ | hd)
        · have := hd.le h; exact .inl (by omega)
        · exact .inr ⟨hx, hd⟩
    · rcases (Dt.iff h).1 hz with e2 | ⟨hz0, hz1⟩
      · exact absurd e2.symm e
      · have e1 : Go.Proofs.YtdjemlkllbhdlaaGreat.upd T x c z = T z := if_neg e
        rw [Dt.iff h', e1, ih (T z) (h.lt z hz0) hz1, Dt.iff h (z := z)]
        have hxz := hz.le h
        constructor
        · rintro (rfl | ⟨_, ⟨hd, hle⟩ | hd⟩)
          · exact .inl ⟨.inl rfl, by omega⟩
          · exact .inl ⟨.inr ⟨hz0, hd⟩, hle⟩
          · exact .inr hd
        · rintro (⟨rfl | ⟨_, hd⟩, hle⟩ | hd)
          · exact .inl rfl
          · exact .inr ⟨hz0, .inl ⟨hd, hle⟩⟩
          · exact .inr ⟨hz0, .inr hd⟩

/-- A way from a to b over places that aren't below lo. -/
inductive Pth (pr : Nat → Nat → Prop) (lo : Nat) : Nat → Nat → Prop
  | refl {a : Nat} : lo ≤ a → Pth pr lo a a
  | step {a b c : Nat} : Pth pr lo a b → pr c b → lo ≤ c → Pth pr lo a c
theorem Pth.mono {pr : Nat → Nat → Prop} {lo lo' a b : Nat} (hl : lo' ≤ lo) (h : Pth pr lo a b) : Pth pr lo' a b := by
  induction h with
  | refl h => exact .refl (by omega)
  | step _ hp hc ih => exact .step ih hp (by omega)
theorem Pth.trans {pr : Nat → Nat → Prop} {lo a b c : Nat} (h : Pth pr lo a b) (k : Pth pr lo b c) : Pth pr lo a c := by
  induction k with
  | refl _ => exact h
  | step _ hp hc ih => exact .step ih hp hc
/-- One comes there from the root without y. -/
inductive Av (pr : Nat → Nat → Prop) (y : Nat) : Nat → Prop
  | root : y ≠ 0 → Av pr y 0
  | step {p z : Nat} : Av pr y p → pr z p → z ≠ y → Av pr y z
theorem Av.along {pr : Nat → Nat → Prop} {y lo a b : Nat} (h : Pth pr lo a b) (hy : y < lo) (ha : Av pr y a) : Av pr y b := by
  induction h with
  | refl _ => exact ha
  | step _ hp hc ih => exact .step ih hp (by omega)

structure DInv (pr : Nat → Nat → Prop) (T : Nat → Nat) (i : Nat) (D0 : Nat → Nat → Prop) : Prop where
  par : Par T
  pos : 0 < i
  a : ∀ z, z < i → ∀ y, Dt T z y → D0 z y
  b : ∀ z, z < i → ∀ y, D0 z y → y ≠ z → ∀ p, pr z p → p + 1 < i → D0 p y
  c : ∀ z, z < i → ∀ y, D0 z y → ¬ Dt T z y → ¬ D0 (i - 1) y ∧ ∀ m, Dt T z m → m < y → D0 (i - 1) m
  k : ∀ z, 0 < z → z < i → ∀ y, (∀ p, pr z p → p < i → Dt T p y) → Dt T (T z) y
  path : ∀ z, z < i → ∀ x, Dt T z x → Pth pr x x z
  dom : ∀ z, z < i → ∀ y, ¬ Av pr y z → Dt T z y
theorem DInv.start {pr : Nat → Nat → Prop} {T : Nat → Nat} (h : Par T) : DInv pr T 1 (Dt T) where
  par := h
  pos := by omega
  a := fun _ _ _ h => h
  b := fun z hz y hd hne => by
    have : z = 0 := by omega
    subst this
    have := hd.le h
    omega
  c := fun _ _ _ h h' => absurd h h'
  k := fun z h0 h1 => by omega
  path := fun z hz x hd => by
    have : z = 0 := by omega
    subst this
    have hx := hd.le h
    have : x = 0 := by omega
    subst this
    exact .refl (Nat.le_refl _)
  dom := fun z hz y hn => by
    have : z = 0 := by omega
    subst this
    by_cases hy : y = 0
    · subst hy; exact Dt.refl T 0
    · exact absurd (Av.root hy) hn
/-- One is made better. -/
theorem DInv.better {pr : Nat → Nat → Prop} {T : Nat → Nat} {i : Nat} {D0 : Nat → Nat → Prop} (h : DInv pr T i D0) (rpo : ∀ z, 0 < z → z < i → ∃ p, p < z ∧ pr z p) {x c : Nat} (hx0 : 0 < x) (hxi : x < i)
    (hc : ∀ y, Dt T c y ↔ ∀ p, pr x p → p < i → Dt T p y) : Dt T (T x) c ∧ DInv pr (upd T x c) i D0 := by
  have hP := h.par
  obtain ⟨p0, hp0, hp0r⟩ := rpo x hx0 hxi
  have hcp : ∀ p, pr x p → p < i → Dt T p c := (hc c).1 (Dt.refl T c)
  have hcx : c < x := by have := (hcp p0 hp0r (by omega)).le hP; omega
  have hcT : Dt T (T x) c := h.k x hx0 hxi c hcp
  have hP' := hP.upd hx0 hcx
  -- less is above than was
  have hsub : ∀ z, ∀ y, Dt (upd T x c) z y → Dt T z y := fun z y hd => by
    by_cases hz : Dt T z x
    · rcases (Dt.upd_yes hP hx0 hcx hz).1 hd with ⟨h1, _⟩ | h1
      · exact h1
      · exact hz.trans hP (Dt.up (hcT.trans hP h1))
    · exact (Dt.upd_no hP hx0 hcx hz).1 hd
  -- what is lost: strictly between
  have hlost : ∀ z y, Dt T z y → ¬ Dt (upd T x c) z y → Dt T z x ∧ y < x ∧ Dt T x y ∧ ¬ Dt T c y := fun z y hd hn => by
    by_cases hz : Dt T z x
    · have h1 : ¬ ((Dt T z y ∧ x ≤ y) ∨ Dt T c y) := fun h1 => hn ((Dt.upd_yes hP hx0 hcx hz).2 h1)
      have hlt : y < x := by
        by_cases hle : x ≤ y
        · exact absurd (.inl ⟨hd, hle⟩) h1
        · omega
      exact ⟨hz, hlt, hz.chain hP hd (by omega), fun h2 => h1 (.inr h2)⟩
    · exact absurd ((Dt.upd_no hP hx0 hcx hz).2 hd) hn
  -- a predecessor that hasn't what was lost
  have hpred : ∀ y, y < x → Dt T x y → ¬ Dt T c y → ¬ D0 (i - 1) y ∧ ∀ m, Dt T c m → m < y → D0 (i - 1) m := fun y hy hxy hcy => by
    have hex : ∃ q, pr x q ∧ q < i ∧ ¬ Dt T q y := by
      apply Classical.byContradiction
      intro hno
      exact hcy ((hc y).2 fun p hp hpi => Classical.byContradiction fun hn => hno ⟨p, hp, hpi, hn⟩)
    obtain ⟨q, hq, hqi, hqy⟩ := hex
    have hcq := hcp q hq hqi
    by_cases hqv : q + 1 < i
    · have h0 : D0 q y := h.b x hxi y (h.a x hxi y hxy) (by omega) q hq hqv
      have := h.c q hqi y h0 hqy
      exact ⟨this.1, fun m hm hmy => this.2 m (hcq.trans hP hm) hmy⟩
    · have hqe : q = i - 1 := by omega
      subst hqe
      by_cases h0 : D0 (i - 1) y
      · exact absurd h0 (h.c (i - 1) hqi y h0 hqy).1
      · exact ⟨h0, fun m hm _ => h.a (i - 1) hqi m (hcq.trans hP hm)⟩
  refine ⟨hcT, hP', h.pos, fun z hz y hd => h.a z hz y (hsub z y hd), h.b, fun z hz y h0 hn => ?_, fun z hz0 hzi y hy => ?_, fun z hz w hd => ?_, fun z hz y hn => ?_⟩
  · by_cases hd : Dt T z y
    · obtain ⟨hzx, hlt, hxy, hcy⟩ := hlost z y hd hn
      have h1 := hpred y hlt hxy hcy
      refine ⟨h1.1, fun m hm hmy => ?_⟩
      rcases (Dt.upd_yes hP hx0 hcx hzx).1 hm with ⟨_, h2⟩ | h2
      · omega
      · exact h1.2 m h2 hmy
    · have h1 := h.c z hz y h0 hd
      exact ⟨h1.1, fun m hm hmy => h1.2 m (hsub z m hm) hmy⟩
  · by_cases e : z = x
    · subst e
      have e1 : upd T z c z = c := if_pos rfl
      rw [e1, Dt.upd_no hP hx0 hcx (fun hd => by have := hd.le hP; omega)]
      exact (hc y).2 fun p hp hpi => hsub p y (hy p hp hpi)
    · have e1 : upd T x c z = T z := if_neg e
      rw [e1]
      have hTy : Dt T (T z) y := h.k z hz0 hzi y fun p hp hpi => hsub p y (hy p hp hpi)
      apply Classical.byContradiction
      intro hn
      obtain ⟨hzx, hlt, hxy, hcy⟩ := hlost (T z) y hTy hn
      have h1 := hpred y hlt hxy hcy
      obtain ⟨p, hp, hpr⟩ := rpo z hz0 hzi
      have hpy := hy p hpr (by omega)
      have hpx : ¬ Dt T p x := fun hd => by
        rcases (Dt.upd_yes hP hx0 hcx hd).1 hpy with ⟨_, h2⟩ | h2
        · omega
        · exact hcy h2
      have hzx' : Dt T z x := hzx.up
      have hne : x ≠ z := Ne.symm e
      have h0 : D0 p x := h.b z hzi x (h.a z hzi x hzx') hne p hpr (by omega)
      have := (h.c p (by omega) x h0 hpx).2 y (hsub p y hpy) hlt
      exact h1.1 this
  · by_cases hzx : Dt T z x
    · rcases (Dt.upd_yes hP hx0 hcx hzx).1 hd with ⟨h1, _⟩ | h1
      · exact h.path z hz w h1
      · have hw := h1.le hP
        have hp0i : p0 < i := by omega
        have h2 := h.path p0 hp0i w ((hcp p0 hp0r hp0i).trans hP h1)
        have h3 : Pth pr w w x := .step h2 hp0r (by omega)
        exact h3.trans ((h.path z hz x hzx).mono (by omega))
    · exact h.path z hz w ((Dt.upd_no hP hx0 hcx hzx).1 hd)
  · have hd := h.dom z hz y hn
    apply Classical.byContradiction
    intro hn'
    obtain ⟨hzx, hlt, hxy, hcy⟩ := hlost z y hd hn'
    have hav : Av pr y x := by
      apply Classical.byContradiction
      intro hna
      refine hcy ((hc y).2 fun p hp hpi => h.dom p hpi y fun hap => hna (.step hap hp (by omega)))
    exact hn (Av.along (h.path z hz x hzx) hlt hav)
/-- A new one is taken, where nothing turns any more. -/
theorem DInv.more {pr : Nat → Nat → Prop} {T : Nat → Nat} {i : Nat} {D0 : Nat → Nat → Prop} (h : DInv pr T i D0) {c : Nat} (rpo : ∃ p, p < i ∧ pr i p)
    (hst : ∀ z, 0 < z → z < i → ∀ y, Dt T (T z) y ↔ ∀ p, pr z p → p < i → Dt T p y)
    (hc : ∀ y, Dt T c y ↔ ∀ p, pr i p → p < i → Dt T p y) : DInv pr (upd T i c) (i + 1) (Dt (upd T i c)) := by
  have hP := h.par
  obtain ⟨p0, hp0, hp0r⟩ := rpo
  have hcp : ∀ p, pr i p → p < i → Dt T p c := (hc c).1 (Dt.refl T c)
  have hci : c < i := by have := (hcp p0 hp0r hp0).le hP; omega
  have hP' := hP.upd h.pos hci
  have hold : ∀ z, z < i → ∀ y, Dt (upd T i c) z y ↔ Dt T z y := fun z hz y => Dt.upd_no hP h.pos hci (fun hd => by have := hd.le hP; omega)
  have hnew : ∀ y, Dt (upd T i c) i y ↔ y = i ∨ Dt T c y := fun y => by
    rw [Dt.iff hP', show upd T i c i = c from if_pos rfl, hold c hci]
    simp [h.pos]
  have hup : ∀ z, z ≠ i → upd T i c z = T z := fun z hz => if_neg hz
  refine ⟨hP', by omega, fun _ _ _ h => h, fun z hz y hd hne p hp hpi => ?_, fun _ _ _ h h' => absurd h h', fun z hz0 hzi y hy => ?_, fun z hz w hd => ?_, fun z hz y hn => ?_⟩
  · have hpi' : p < i := by omega
    rw [hold p hpi']
    by_cases e : z = i
    · subst e
      rcases (hnew y).1 hd with h1 | h1
      · exact absurd h1 hne
      · exact (hc y).1 h1 p hp hpi'
    · have hzi : z < i := by omega
      rw [hold z hzi] at hd
      rcases (Dt.iff hP).1 hd with h1 | ⟨hz0, h1⟩
      · exact absurd h1 hne
      · exact (hst z hz0 hzi y).1 h1 p hp hpi'
  · by_cases e : z = i
    · subst e
      rw [show upd T z c z = c from if_pos rfl, hold c hci]
      exact (hc y).2 fun p hp hpi => (hold p hpi y).1 (hy p hp (by omega))
    · have hzi' : z < i := by omega
      rw [hup z e]
      have hTz := hP.lt z hz0
      rw [hold (T z) (by omega)]
      exact (hst z hz0 hzi' y).2 fun p hp hpi => (hold p hpi y).1 (hy p hp (by omega))
  · by_cases e : z = i
    · subst e
      rcases (hnew w).1 hd with rfl | h1
      · exact .refl (Nat.le_refl _)
      · have hw := h1.le hP
        exact .step (h.path p0 hp0 w ((hcp p0 hp0r hp0).trans hP h1)) hp0r (by omega)
    · exact h.path z (by omega) w ((hold z (by omega) w).1 hd)
  · by_cases e : z = i
    · subst e
      refine (hnew y).2 ?_
      by_cases hy : y = z
      · exact .inl hy
      · exact .inr ((hc y).2 fun p hp hpi => h.dom p hpi y fun hap => hn (.step hap hp (Ne.symm hy)))
    · exact (hold z (by omega) y).2 (h.dom z (by omega) y hn)
/-- Where nothing turns any more, all are taken, and each one's predecessors are: what is above is what is always gone through. -/
theorem DInv.right {pr : Nat → Nat → Prop} {T : Nat → Nat} {m : Nat} {D0 : Nat → Nat → Prop} (h : DInv pr T m D0) (hm : ∀ z p, pr z p → p < m → z < m)
    (hst : ∀ z, 0 < z → z < m → ∀ y, Dt T (T z) y ↔ ∀ p, pr z p → p < m → Dt T p y) : ∀ z, z < m → ∀ y, Dt T z y ↔ ¬ Av pr y z := by
  intro z hz y
  refine ⟨fun hd ha => ?_, h.dom z hz y⟩
  have key : ∀ z, Av pr y z → z < m ∧ ¬ Dt T z y := fun z ha => by
    induction ha with
    | root hy => exact ⟨h.pos, fun hd => hy (by have := hd.le h.par; omega)⟩
    | @step p z _ hp hne ih =>
      have hzm := hm z p hp ih.1
      refine ⟨hzm, fun hd => ?_⟩
      rcases (Dt.iff h.par).1 hd with h1 | ⟨hz0, h1⟩
      · exact hne h1.symm
      · exact ih.2 ((hst z hz0 hzm y).1 h1 p hp ih.1)
  exact (key z ha).2 hd
end Go.Proofs.YtdjemlkllbhdlaaGreat

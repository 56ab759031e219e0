/- A statement whose order Go leaves open: in whatever order its operations come. -/
import Derived.Test.YtdjemlkllbhdlaaGreatData
import Derived.KernelRfl
namespace Go.Proofs.YtdjemlkllbhdlaaGreat
open Go Go.RowKit

section
variable {P : Program} {T : List TRow} {fn : Func} {w0 : World} {H0 : Hp} {X : List Nat} {k : List Item} {F : Fk} {H : Hp} {L : List Chunk} {R : Ending → World → Prop} {Hs : Hp} {Ls : List Chunk} {ops : Array Oper} {fuel : Nat} {listed : Array Bool}

/-- What stands behind the region. -/
def QD (P : Program) (fn : Func) (k : List Item) (R : Ending → World → Prop) : Exit → Act → World → Prop
  | .normal, a, w => WpS P fn k a w R
  | _, _, _ => False

/-- In the midst of such a region: these have come; in every world that is met the pieces Ls stay as they are. -/
def WpD (P : Program) (fn : Func) (w0 : World) (H0 : Hp) (X : List Nat) (k : List Item) (R : Ending → World → Prop) (Hs : Hp) (Ls : List Chunk) (ops : Array Oper) (fuel : Nat) (listed : Array Bool) (F : Fk) (H : Hp) (L : List Chunk) : Prop :=
  ∀ a w, Agrees fn.ntmps F a → SH w0 H0 X w H L → wpAnyH P .any ops (QD P fn k R) (fun w => SH w0 H0 X w Hs Ls) fuel listed a w

theorem SH.drawn {w : World} (h : SH w0 H0 X w H L) : SH w0 H0 X { w with drawn := w.drawn + 1 } H L :=
  ⟨⟨h.chg.os, h.chg.tape, h.chg.output, h.chg.size, h.chg.block⟩, h.sub, h.le, h.fresh, fun c hc => c.loc w _ (h.holds c hc) fun _ _ => rfl, h.own, h.nodup⟩
/-- What is known of less memory. -/
theorem SH.less {w : World} (h : SH w0 H0 X w H L) (h0 : H0.le Hs) (hH : Hs.le H) (hL : Ls.Sublist L) : SH w0 H0 X w Hs Ls := by
  have k := h.drop hL
  refine ⟨k.chg, fun b o hb => k.sub b o (hH b o hb), h0, fun b hb => ?_, k.holds, fun b hb => ⟨(k.own b hb).1, ?_⟩, k.nodup⟩
  · cases hs : Hs b with
    | none => exact absurd hs hb
    | some o => exact k.fresh b (by rw [hH b o hs]; simp)
  · cases hs : Hs b with
    | none => rfl
    | some o => have := (k.own b hb).2; rw [hH b o hs] at this; cases this

/-- Which have come, as a number. -/
def lst (n m : Nat) : Array Bool := ((List.range n).map fun i => m.testBit i).toArray
theorem WpG.draw {id : Nat} (n : Nat) (Ls : List Chunk) (hm : P.follows .mixedOrders = true) (hn : (ops.size == n && Array.replicate n false == lst n 0) = true) (h : WpD P fn w0 H0 X k R H Ls ops n (lst n 0) F H L) : WpG P fn w0 H0 X (.code (.region id ops true) :: k) F H L R := fun a w ha hs =>
  WpS.of_wp (Code.wp_mono (fun e a w hq => by cases e <;> exact hq) (wp_region_held (Q := QD P fn k R) hm (by
    simp only [Bool.and_eq_true] at hn
    have h1 : ops.size = n := by simpa using hn.1
    have h2 := beq_iff_eq.1 hn.2
    rw [h1, h2]
    exact h a _ ha hs.drawn)))
theorem WpD.done (hr : (Region.ready .any ops listed).isEmpty = true) (h : WpG P fn w0 H0 X k F H L R) : WpD P fn w0 H0 X k R Hs Ls ops fuel listed F H L := fun a w ha hs =>
  wpAnyH_done (List.isEmpty_iff.1 hr) (h a w ha hs) fuel

def dchk (ops : Array Oper) (listed : Array Bool) (i : Nat) : Bool := Region.noSelect ops && (Region.free .any ops listed i && (Region.ready .any ops listed).contains i)

theorem WpD.take {i d : Nat} {o : Oper} {v : Value} (hchk : dchk ops listed i = true) (ho : ops[i]? = some o) (hw : wantk ops F o.guard = some true) (hd : o.dst = some d) (hn : Nat.blt d fn.ntmps = true)
    (h0 : H0.le Hs) (hH : Hs.le H) (hL : Ls.Sublist L) (hy : ∀ (a : Act) (w : World), Agrees fn.ntmps F a → SH w0 H0 X w Hs Ls → (execOp a.eval o).run P w = .ok (.value v) w)
    (h : WpD P fn w0 H0 X k R Hs Ls ops fuel (listed.setIfInBounds i true) ((d, v) :: F) H L) : WpD P fn w0 H0 X k R Hs Ls ops (fuel + 1) listed F H L := fun a w ha hs => by
  simp only [dchk, Bool.and_eq_true] at hchk
  exact wpAnyH_take ho hchk.1 hchk.2.1 hchk.2.2 (fun _ _ _ h => h) (.inl ⟨wantk_spec ha hw, fun w hw' => hy a w ha hw'⟩) (hs.less h0 hH hL)
    (by rw [hd]; exact h _ w (ha.put (by simpa [Nat.blt_eq] using hn) v) hs)
theorem WpD.skip {i d : Nat} {o : Oper} (hchk : dchk ops listed i = true) (ho : ops[i]? = some o) (hw : wantk ops F o.guard = some false) (hd : o.dst = some d) (hn : Nat.blt d fn.ntmps = true)
    (h0 : H0.le Hs) (hH : Hs.le H) (hL : Ls.Sublist L)
    (h : WpD P fn w0 H0 X k R Hs Ls ops fuel (listed.setIfInBounds i true) ((d, undef) :: F) H L) : WpD P fn w0 H0 X k R Hs Ls ops (fuel + 1) listed F H L := fun a w ha hs => by
  simp only [dchk, Bool.and_eq_true] at hchk
  exact wpAnyH_take ho hchk.1 hchk.2.1 hchk.2.2 (fun _ _ _ h => h) (.inr ⟨wantk_spec ha hw, rfl⟩) (hs.less h0 hH hL)
    (by rw [hd]; exact h _ w (ha.put (by simpa [Nat.blt_eq] using hn) undef) hs)
/-- The one that must come now. -/
theorem WpD.force {i : Nat} {Post : Fk → Hp → List Chunk → Prop} (hchk : (Region.ready .any ops listed == [i]) = true) (hs : OpG P fn w0 H0 X ops i F H L Post) (h0 : H0.le Hs)
    (h : ∀ F' H' L', Post F' H' L' → Hs.le H' ∧ Ls.Sublist L' ∧ WpD P fn w0 H0 X k R Hs Ls ops fuel (listed.setIfInBounds i true) F' H' L') : WpD P fn w0 H0 X k R Hs Ls ops (fuel + 1) listed F H L := fun a w ha hsh => by
  obtain ⟨o, ho, hw, h1⟩ := hs
  refine wpAnyH_all (rs := [i]) (by simpa using hchk) (by simp) fun j hj => ?_
  simp only [List.mem_singleton] at hj
  subst hj
  refine OpS.wpOp ho (wantk_spec ha hw) ?_
  have hK : ∀ a' w', (∃ F' H' L', Post F' H' L' ∧ Agrees fn.ntmps F' a' ∧ SH w0 H0 X w' H' L') → SH w0 H0 X w' Hs Ls ∧ wpAnyH P .any ops (QD P fn k R) (fun w => SH w0 H0 X w Hs Ls) fuel (listed.setIfInBounds j true) a' w' := by
    rintro a' w' ⟨F', H', L', hp, ha', hs'⟩
    obtain ⟨k1, k2, k3⟩ := h F' H' L' hp
    exact ⟨hs'.less h0 k1 k2, k3 a' w' ha' hs'⟩
  cases h1 a w ha hsh with
  | value hr h => exact .value hr (hK _ _ h)
  | skip hr h => exact .skip hr (hK _ _ h)
  | call hr Q hc h => exact .call hr Q hc fun v w'' hq => hK _ _ (h v w'' hq)

/-- What only computes, one behind the other. -/
def dvals (T : List TRow) (n : Nat) (ops : Array Oper) : List Nat → Fk → Option Fk
  | [], F => some F
  | i :: is, F => match ops[i]? with
    | some o => match wantk ops F o.guard with
      | some true => match o.dst with
        | some d => bif Nat.blt d n then (match pop T F o.op with
          | some v => dvals T n ops is ((d, v) :: F)
          | none => none) else none
        | none => none
      | some false => match o.dst with
        | some d => bif Nat.blt d n then dvals T n ops is ((d, undef) :: F) else none
        | none => none
      | none => none
    | none => none
def dlist (listed : Array Bool) : List Nat → Array Bool
  | [] => listed
  | i :: is => dlist (listed.setIfInBounds i true) is
def dchks (ops : Array Oper) (listed : Array Bool) : List Nat → Bool
  | [] => true
  | i :: is => dchk ops listed i && dchks ops (listed.setIfInBounds i true) is
theorem WpD.setV {t : Nat} {v v' : Value} (hv : look F t = some v) (e : v = v') (h : WpD P fn w0 H0 X k R Hs Ls ops fuel listed ((t, v') :: F) H L) : WpD P fn w0 H0 X k R Hs Ls ops fuel listed F H L := fun a w ha hs =>
  h a w ⟨ha.defers, ha.size, fun s u hu => by
    simp only [look] at hu
    by_cases es : t = s
    · subst es; simp at hu; subst hu; exact e ▸ ha.at_ t v hv
    · rw [beq_no es] at hu; exact ha.at_ s u hu⟩ hs
theorem WpD.caseD {t : Nat} {p : Prop} [Decidable p] (hc : look F t = some (.bool (decide p))) (ht : p → WpD P fn w0 H0 X k R Hs Ls ops fuel listed ((t, .bool true) :: F) H L) (hf : ¬ p → WpD P fn w0 H0 X k R Hs Ls ops fuel listed ((t, .bool false) :: F) H L) :
    WpD P fn w0 H0 X k R Hs Ls ops fuel listed F H L := by
  by_cases hp : p
  · exact WpD.setV hc (by simp [hp]) (ht hp)
  · exact WpD.setV hc (by simp [hp]) (hf hp)
theorem WpD.caseB {t : Nat} {b : Bool} (hc : look F t = some (.bool b)) (ht : b = true → WpD P fn w0 H0 X k R Hs Ls ops fuel listed ((t, .bool true) :: F) H L) (hf : b = false → WpD P fn w0 H0 X k R Hs Ls ops fuel listed ((t, .bool false) :: F) H L) :
    WpD P fn w0 H0 X k R Hs Ls ops fuel listed F H L := by
  cases b
  · exact WpD.setV hc rfl (hf rfl)
  · exact WpD.setV hc rfl (ht rfl)
theorem WpD.caseE {t : Nat} {x y : Int} (hc : look F t = some (.bool (x == y))) (ht : x = y → WpD P fn w0 H0 X k R Hs Ls ops fuel listed ((t, .bool true) :: F) H L) (hf : x ≠ y → WpD P fn w0 H0 X k R Hs Ls ops fuel listed ((t, .bool false) :: F) H L) :
    WpD P fn w0 H0 X k R Hs Ls ops fuel listed F H L := by
  by_cases hp : x = y
  · exact WpD.setV hc (by simp [hp]) (ht hp)
  · exact WpD.setV hc (by simp [hp]) (hf hp)
theorem WpD.caseN {t : Nat} {x y : Int} (hc : look F t = some (.bool (x != y))) (ht : x ≠ y → WpD P fn w0 H0 X k R Hs Ls ops fuel listed ((t, .bool true) :: F) H L) (hf : x = y → WpD P fn w0 H0 X k R Hs Ls ops fuel listed ((t, .bool false) :: F) H L) :
    WpD P fn w0 H0 X k R Hs Ls ops fuel listed F H L := by
  by_cases hp : x = y
  · exact WpD.setV hc (by simp [hp]) (hf hp)
  · exact WpD.setV hc (by simp [hp]) (ht hp)
theorem WpD.permL {L' : List Chunk} (hL : L'.Perm L) (h : WpD P fn w0 H0 X k R Hs Ls ops fuel listed F H L') : WpD P fn w0 H0 X k R Hs Ls ops fuel listed F H L := fun a w ha hs => h a w ha (hs.perm hL)
/-- Either of two may come now. -/
theorem WpD.any2 {i j : Nat} {Pi Pj : Fk → Hp → List Chunk → Prop} (hchk : (Region.ready .any ops listed == [i, j]) = true) (h0 : H0.le Hs) (hi : OpG P fn w0 H0 X ops i F H L Pi) (hj : OpG P fn w0 H0 X ops j F H L Pj)
    (ki : ∀ F' H' L', Pi F' H' L' → Hs.le H' ∧ Ls.Sublist L' ∧ WpD P fn w0 H0 X k R Hs Ls ops fuel (listed.setIfInBounds i true) F' H' L')
    (kj : ∀ F' H' L', Pj F' H' L' → Hs.le H' ∧ Ls.Sublist L' ∧ WpD P fn w0 H0 X k R Hs Ls ops fuel (listed.setIfInBounds j true) F' H' L') : WpD P fn w0 H0 X k R Hs Ls ops (fuel + 1) listed F H L := fun a w ha hsh => by
  have gen : ∀ (i : Nat) (Post : Fk → Hp → List Chunk → Prop), OpG P fn w0 H0 X ops i F H L Post → (∀ F' H' L', Post F' H' L' → Hs.le H' ∧ Ls.Sublist L' ∧ WpD P fn w0 H0 X k R Hs Ls ops fuel (listed.setIfInBounds i true) F' H' L') →
      wpOp P ops (QD P fn k R) i (fun a' w' => SH w0 H0 X w' Hs Ls ∧ wpAnyH P .any ops (QD P fn k R) (fun w => SH w0 H0 X w Hs Ls) fuel (listed.setIfInBounds i true) a' w') a w := by
    intro i Post ⟨o, ho, hw, h1⟩ h
    refine OpS.wpOp ho (wantk_spec ha hw) ?_
    have hK : ∀ a' w', (∃ F' H' L', Post F' H' L' ∧ Agrees fn.ntmps F' a' ∧ SH w0 H0 X w' H' L') → SH w0 H0 X w' Hs Ls ∧ wpAnyH P .any ops (QD P fn k R) (fun w => SH w0 H0 X w Hs Ls) fuel (listed.setIfInBounds i true) a' w' := by
      rintro a' w' ⟨F', H', L', hp, ha', hs'⟩
      obtain ⟨k1, k2, k3⟩ := h F' H' L' hp
      exact ⟨hs'.less h0 k1 k2, k3 a' w' ha' hs'⟩
    cases h1 a w ha hsh with
    | value hr h => exact .value hr (hK _ _ h)
    | skip hr h => exact .skip hr (hK _ _ h)
    | call hr Q hc h => exact .call hr Q hc fun v w'' hq => hK _ _ (h v w'' hq)
  refine wpAnyH_all (rs := [i, j]) (by simpa using hchk) (by simp) fun x hx => ?_
  rcases List.mem_cons.1 hx with rfl | hx
  · exact gen _ _ hi ki
  · simp only [List.mem_singleton] at hx
    subst hx
    exact gen _ _ hj kj
/-! Several variables that a statement makes, in whatever order. -/
structure Al where
  i : Nat
  d : Nat
  U : Nat
  cs : List Value
def AlOps (T : List TRow) (n : Nat) (ops : Array Oper) : List Al → Prop
  | [] => True
  | x :: xs => (∃ ty pos af r, ops[x.i]? = some ⟨some x.d, .alloc x.U, ty, pos, af, none⟩ ∧ Nat.blt x.d n = true ∧ trow T x.U = some r ∧ cellsL r.zero = x.cs) ∧ AlOps T n ops xs
theorem AlOps.mem {n : Nat} : ∀ {xs : List Al}, AlOps T n ops xs → ∀ x ∈ xs, ∃ ty pos af r, ops[x.i]? = some ⟨some x.d, .alloc x.U, ty, pos, af, none⟩ ∧ Nat.blt x.d n = true ∧ trow T x.U = some r ∧ cellsL r.zero = x.cs
  | [], _, _, h => by cases h
  | y :: xs, h, x, hx => by
    rcases List.mem_cons.1 hx with rfl | hx
    · exact h.1
    · exact AlOps.mem h.2 x hx
def alchk (ops : Array Oper) : Nat → Array Bool → List Nat → Bool
  | 0, _, is => is.isEmpty
  | k + 1, listed, is => (Region.ready .any ops listed == is) && is.all fun i => alchk ops k (listed.setIfInBounds i true) (is.erase i)
def ptrs (l : List (Al × Nat)) : Fk := l.map fun p => (p.1.d, Value.pointer (some ⟨p.2, 0, none⟩))
def boxs (l : List (Al × Nat)) : List Chunk := l.map fun p => Chunk.box p.2 p.1.cs p.1.U
def setAll (listed : Array Bool) (is : List Nat) : Array Bool := is.foldl (fun l i => l.setIfInBounds i true) listed
theorem setAll_perm {is js : List Nat} (h : is.Perm js) : ∀ (listed : Array Bool), setAll listed is = setAll listed js := by
  induction h with
  | nil => intro _; rfl
  | cons x _ ih => intro l; exact ih _
  | swap x y l =>
    intro listed
    simp only [setAll, List.foldl_cons]
    by_cases e : x = y
    · rw [e]
    · rw [Array.setIfInBounds_comm _ _ (Ne.symm e)]
  | trans _ _ h1 h2 => intro l; rw [h1, h2]
theorem perm_map_inv {α β : Type} {f : α → β} {l : List α} {m : List β} (h : (l.map f).Perm m) : ∃ l', l.Perm l' ∧ l'.map f = m := by
  generalize hk : l.map f = k at h
  induction h generalizing l with
  | nil => exact ⟨[], by simp at hk; subst hk; exact .nil, rfl⟩
  | cons x _ ih =>
    cases l with
    | nil => cases hk
    | cons y l =>
      simp only [List.map_cons, List.cons.injEq] at hk
      obtain ⟨l', h1, h2⟩ := ih hk.2
      exact ⟨y :: l', h1.cons y, by simp [h2, hk.1]⟩
  | swap x y r =>
    match l, hk with
    | a :: b :: l, hk =>
      simp only [List.map_cons, List.cons.injEq] at hk
      exact ⟨b :: a :: l, List.Perm.swap b a l, by simp [hk]⟩
  | trans _ _ h1 h2 =>
    obtain ⟨l1, p1, e1⟩ := h1 hk
    obtain ⟨l2, p2, e2⟩ := h2 e1
    exact ⟨l2, p1.trans p2, e2⟩
theorem look_ptrs_perm {l l' : List (Al × Nat)} (h : l.Perm l') (hn : (l.map fun p => p.1.d).Nodup) (F : Fk) (t : Nat) : look (ptrs l ++ F) t = look (ptrs l' ++ F) t := by
  induction h with
  | nil => rfl
  | cons x _ ih =>
    simp only [ptrs, List.map_cons, List.cons_append, look]
    rw [show List.map (fun p : Al × Nat => (p.1.d, Value.pointer (some ⟨p.2, 0, none⟩))) _ = ptrs _ from rfl, show List.map (fun p : Al × Nat => (p.1.d, Value.pointer (some ⟨p.2, 0, none⟩))) _ = ptrs _ from rfl, ih (List.nodup_cons.1 hn).2]
  | swap x y l =>
    simp only [List.map_cons, List.nodup_cons, List.mem_cons, not_or] at hn
    simp only [ptrs, List.map_cons, List.cons_append, look]
    by_cases e1 : x.1.d = t
    · have : ¬ y.1.d = t := fun e2 => hn.1.1 (by rw [e1, e2])
      rw [beq_no this, e1]
      simp
    · rw [beq_no e1]
      simp
  | trans h1 _ ih1 ih2 => rw [ih1 hn, ih2 ((h1.map _).nodup_iff.1 hn)]

theorem WpD.allocs (hT : TabOK P T) (as : List Al) {listed' : Array Bool} (hops : AlOps T fn.ntmps ops as) (hchk : (alchk ops as.length listed (as.map Al.i) && (setAll listed (as.map Al.i) == listed')) = true) (hnd : (as.map Al.d).Nodup) (hni : (as.map Al.i).Nodup)
    (h0 : H0.le Hs) (hH : Hs.le H) (hL : Ls.Sublist L)
    (h : ∀ l : List (Al × Nat), l.map Prod.fst = as → WpD P fn w0 H0 X k R Hs Ls ops fuel listed' (ptrs l ++ F) H (boxs l ++ L)) : WpD P fn w0 H0 X k R Hs Ls ops (fuel + as.length) listed F H L := by
  simp only [Bool.and_eq_true] at hchk
  have hlist := beq_iff_eq.1 hchk.2
  have main : ∀ (m : Nat) (rem : List Al) (done : List (Al × Nat)) (l0 : Array Bool), rem.length = m → (done.map Prod.fst ++ rem).Perm as → l0 = setAll listed ((done.map Prod.fst).map Al.i) → alchk ops m l0 (rem.map Al.i) = true →
      WpD P fn w0 H0 X k R Hs Ls ops (fuel + m) l0 (ptrs done ++ F) H (boxs done ++ L) := by
    intro m
    induction m with
    | zero =>
      intro rem done l0 hl hp hl0 _
      have hr : rem = [] := List.eq_nil_of_length_eq_zero hl
      subst hr
      simp only [List.append_nil] at hp
      obtain ⟨l', p1, e1⟩ := perm_map_inv hp
      have hset : l0 = listed' := by rw [hl0, ← hlist]; exact setAll_perm (hp.map _) _
      rw [hset]
      have hnd' : (done.map fun p => p.1.d).Nodup := by
        have := (hp.map Al.d).nodup_iff.2 hnd
        simpa [List.map_map, Function.comp_def] using this
      intro a w ha hs
      exact h l' e1 a w ⟨ha.defers, ha.size, fun t v ht => ha.at_ t v (by rw [look_ptrs_perm p1 hnd' F t]; exact ht)⟩ (hs.perm (List.Perm.append_right L ((p1.map _).symm)))
    | succ m ih =>
      intro rem done l0 hl hp hl0 hc
      simp only [alchk, Bool.and_eq_true] at hc
      intro a w ha hsh
      refine wpAnyH_all (rs := rem.map Al.i) (beq_iff_eq.1 hc.1) (by intro e; simp at e; subst e; simp at hl) fun j hj => ?_
      obtain ⟨x, hx, rfl⟩ := List.mem_map.1 hj
      have hxa : x ∈ as := hp.mem_iff.1 (List.mem_append_right _ hx)
      obtain ⟨ty, pos, af, r, ho, hn, hr, hcs⟩ := hops.mem x hxa
      have hop := OpG.alloc (P := P) (fn := fn) (w0 := w0) (H0 := H0) (X := X) (F := ptrs done ++ F) (H := H) (L := boxs done ++ L) hT ho rfl hn hr hcs
      obtain ⟨o, ho', hw, h1⟩ := hop
      refine OpS.wpOp ho' (wantk_spec ha hw) ?_
      have hK : ∀ a' w', (∃ F' H' L', (∃ b, F' = (x.d, .pointer (some ⟨b, 0, none⟩)) :: (ptrs done ++ F) ∧ H' = H ∧ L' = Chunk.box b x.cs x.U :: (boxs done ++ L)) ∧ Agrees fn.ntmps F' a' ∧ SH w0 H0 X w' H' L') →
          SH w0 H0 X w' Hs Ls ∧ wpAnyH P .any ops (QD P fn k R) (fun w => SH w0 H0 X w Hs Ls) (fuel + m) (l0.setIfInBounds x.i true) a' w' := by
        rintro a' w' ⟨_, _, _, ⟨b, rfl, rfl, rfl⟩, ha', hs'⟩
        refine ⟨hs'.less h0 hH ((hL.trans (List.sublist_append_right _ _)).cons _), ?_⟩
        have hni' : (rem.map Al.i).Nodup := by
          have := (hp.map Al.i).nodup_iff.2 hni
          rw [List.map_append] at this
          exact (List.nodup_append.1 this).2.1
        obtain ⟨r1, r2, rfl⟩ := List.append_of_mem hx
        have her : ((r1 ++ x :: r2).map Al.i).erase x.i = (r1 ++ r2).map Al.i := by
          simp only [List.map_append, List.map_cons] at hni' ⊢
          rw [List.erase_append_right _ (fun hm => (List.nodup_append.1 hni').2.2 x.i hm x.i (.head _) rfl)]
          simp
        refine ih (r1 ++ r2) ((x, b) :: done) (l0.setIfInBounds x.i true) (by simp at hl ⊢; omega) ?_ ?_ ?_ a' w' ha' hs'
        · refine List.Perm.trans ?_ hp
          simp only [List.map_cons, List.cons_append]
          rw [← List.append_assoc, ← List.append_assoc]
          exact List.perm_middle.symm
        · rw [hl0]
          have hsn : ∀ (is : List Nat) (l : Array Bool) (i : Nat), (setAll l is).setIfInBounds i true = setAll l (i :: is) := fun is l i => by
            rw [show setAll l (i :: is) = setAll l (is ++ [i]) from setAll_perm (List.perm_append_comm (l₁ := [i])) l]
            simp [setAll]
          exact hsn _ _ _
        · have := List.all_eq_true.1 hc.2 x.i hj
          rwa [her] at this
      cases h1 a w ha hsh with
      | value hr h => exact .value hr (hK _ _ h)
      | skip hr h => exact .skip hr (hK _ _ h)
      | call hr Q hc h => exact .call hr Q hc fun v w'' hq => hK _ _ (h v w'' hq)
  have := main as.length as [] listed rfl (by simp) rfl hchk.1
  simpa [ptrs, boxs] using this
theorem WpD.weaken {G : Fk} (hG : Known F G) (h : WpD P fn w0 H0 X k R Hs Ls ops fuel listed G H L) : WpD P fn w0 H0 X k R Hs Ls ops fuel listed F H L := fun a w ha hs => h a w (ha.weaken hG.all) hs
theorem WpD.gos (hT : TabOK P T) (h0 : H0.le Hs) (hH : Hs.le H) (hL : Ls.Sublist L) : ∀ (is : List Nat) {listed : Array Bool} {F F' : Fk}, dchks ops listed is = true → dvals T fn.ntmps ops is F = some F' →
    WpD P fn w0 H0 X k R Hs Ls ops fuel (dlist listed is) F' H L → WpD P fn w0 H0 X k R Hs Ls ops (fuel + is.length) listed F H L
  | [], _, _, _, _, hv, h => by simp only [dvals, Option.some.injEq] at hv; subst hv; exact h
  | i :: is, listed, F, F', hc, hv, h => by
    simp only [dchks, Bool.and_eq_true] at hc
    simp only [dvals] at hv
    split at hv
    · rename_i o ho
      split at hv
      · rename_i hw
        split at hv
        · rename_i d hd
          cases hb : Nat.blt d fn.ntmps with
          | false => rw [hb] at hv; cases hv
          | true =>
            rw [hb] at hv
            simp only [cond_true] at hv
            split at hv
            · rename_i v hpv
              exact WpD.take hc.1 ho hw hd hb h0 hH hL (fun a w ha _ => pop_spec hT ha hpv w) (WpD.gos hT h0 hH hL is hc.2 hv h)
            · cases hv
        · cases hv
      · rename_i hw
        split at hv
        · rename_i d hd
          cases hb : Nat.blt d fn.ntmps with
          | false => rw [hb] at hv; cases hv
          | true =>
            rw [hb] at hv
            simp only [cond_true] at hv
            exact WpD.skip hc.1 ho hw hd hb h0 hH hL (WpD.gos hT h0 hH hL is hc.2 hv h)
        · cases hv
      · cases hv
    · cases hv
theorem WpD.go (hT : TabOK P T) (is : List Nat) (G : Fk) {F' : Fk} {listed' : Array Bool} (hc : (dchks ops listed is && (dlist listed is == listed')) = true) (hv : dvals T fn.ntmps ops is F = some F') (hG : Known F' G) (h0 : H0.le Hs) (hH : Hs.le H) (hL : Ls.Sublist L)
    (h : WpD P fn w0 H0 X k R Hs Ls ops fuel listed' G H L) : WpD P fn w0 H0 X k R Hs Ls ops (fuel + is.length) listed F H L := by
  simp only [Bool.and_eq_true] at hc
  exact WpD.gos hT h0 hH hL is hc.1 hv (WpD.weaken hG ((beq_iff_eq.1 hc.2) ▸ h))
end
end Go.Proofs.YtdjemlkllbhdlaaGreat

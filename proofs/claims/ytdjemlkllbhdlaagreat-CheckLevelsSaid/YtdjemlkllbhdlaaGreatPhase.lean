/- A drawn statement that reads what it writes later; arrays; a row made shorter; a call that reads the call's own rows. -/
import Derived.Test.YtdjemlkllbhdlaaGreatNest
namespace Go.Proofs.YtdjemlkllbhdlaaGreat
open Go Go.RowKit

section
variable {P : Program} {ops : Array Oper} {Q : Exit → Act → World → Prop} {md : Region.Mode} {S S' : World → Prop}
/-- Whatever order is picked; S holds behind every operation till the one with the number 'stop' has come. -/
def wpAnyP (P : Program) (md : Region.Mode) (ops : Array Oper) (Q : Exit → Act → World → Prop) (S : World → Prop) (stop : Nat) : Nat → Array Bool → Act → World → Prop
  | 0, listed, a, w => Region.ready md ops listed = [] ∧ Q .normal a w
  | fuel + 1, listed, a, w =>
    (Region.ready md ops listed = [] → Q .normal a w) ∧
    ∀ i ∈ Region.ready md ops listed, wpOp P ops Q i (fun a' w' => ((listed.setIfInBounds i true).getD stop true = false → S w') ∧ wpAnyP P md ops Q S stop fuel (listed.setIfInBounds i true) a' w') a w
theorem wpAny_of_phase {stop : Nat} : ∀ (fuel : Nat) (listed : Array Bool) (a : Act) (w : World), wpAnyP P md ops Q S stop fuel listed a w → wpAny P md ops Q fuel listed a w
  | 0, _, _, _, h => h
  | fuel + 1, _, _, _, h => ⟨h.1, fun i hi => wpOp_mono (fun a' w' h' => wpAny_of_phase fuel _ a' w' h'.2) (h.2 i hi)⟩
theorem getD_stop {listed : Array Bool} {i stop : Nat} (h : listed.getD stop true = true) : (listed.setIfInBounds i true).getD stop true = true := by
  by_cases hij : i = stop
  · subst hij
    by_cases hlt : i < listed.size
    · simp [hlt]
    · simp [hlt]
  · rw [getD_set_ne true hij]; exact h
theorem getD_self {listed : Array Bool} {i : Nat} : (listed.setIfInBounds i true).getD i true = true := by
  by_cases hlt : i < listed.size
  · simp [hlt]
  · simp [hlt]
theorem wpAnyP_of_held {stop : Nat} : ∀ (fuel : Nat) (listed : Array Bool) (a : Act) (w : World), listed.getD stop true = true → wpAnyH P md ops Q S' fuel listed a w → wpAnyP P md ops Q S stop fuel listed a w
  | 0, _, _, _, _, h => h
  | fuel + 1, listed, _, _, hst, h => ⟨h.1, fun i hi => wpOp_mono (fun a' w' h' => ⟨fun h0 => (by rw [getD_stop hst] at h0; cases h0), wpAnyP_of_held fuel _ a' w' (getD_stop hst) h'.2⟩) (h.2 i hi)⟩
/-- The one at which S ends waits for this one. -/
def waits (ops : Array Oper) (md : Region.Mode) (stop i : Nat) : Bool := !Nat.beq stop i && ((ops[stop]?.map fun o => o.after.any fun e => Region.binds md e && Nat.beq e.on i).getD false)
theorem waits_spec {stop i : Nat} (h : waits ops md stop i = true) : stop ≠ i ∧ ∃ o, ops[stop]? = some o ∧ ∃ e ∈ o.after, Region.binds md e = true ∧ e.on = i := by
  simp only [waits, Bool.and_eq_true, Bool.not_eq_true'] at h
  refine ⟨fun e => ?_, ?_⟩
  · subst e; have := h.1; simp at this
  · cases ho : ops[stop]? with
    | none => rw [ho] at h; simp at h
    | some o =>
      rw [ho] at h
      simp only [Option.map_some, Option.getD_some, Array.any_eq_true'] at h
      obtain ⟨e, he, hb⟩ := h.2
      simp only [Bool.and_eq_true] at hb
      exact ⟨o, rfl, e, he, hb.1, Nat.eq_of_beq_eq_true hb.2⟩
theorem wpAnyP_first {stop i : Nat} {oi : Oper} {v : Value} (hi : ops[i]? = some oi) (hsel : ∀ (j : Nat) (o : Oper) cs b, ops[j]? = some o → o.op ≠ .select cs b)
    (hQ : ∀ c a w, Q (.panic c) (a.put oi.dst v) w → Q (.panic c) a w) (hst : stop ≠ i) (hwt : ∃ o, ops[stop]? = some o ∧ ∃ e ∈ o.after, Region.binds md e = true ∧ e.on = i) :
    ∀ (fuel : Nat) (listed : Array Bool) (a : Act) (w : World),
      (∀ j oj, ops[j]? = some oj → j ≠ i → listed.getD j true = false → (∀ e ∈ oj.after, Region.binds md e = true → e.on ≠ i) → oi.apart ops oj = true) →
      i ∈ Region.ready md ops listed → YieldsIf P ops S oi v a → S w → listed.getD stop true = false →
      wpAnyP P md ops Q S stop fuel (listed.setIfInBounds i true) (a.put oi.dst v) w → wpAnyP P md ops Q S stop (fuel + 1) listed a w := by
  intro fuel
  induction fuel with
  | zero =>
    intro listed a w _ hr hy hS _ H
    refine ⟨fun h => (by rw [h] at hr; cases hr), fun j hj => ?_⟩
    by_cases hji : j = i
    · subst hji; exact hy.wpOp hi hS ⟨fun _ => hS, H⟩
    · have := ready_mono hj hji
      rw [H.1] at this
      cases this
  | succ fuel ih =>
    intro listed a w hfree hr hy hS hls H
    refine ⟨fun h => (by rw [h] at hr; cases hr), fun j hj => ?_⟩
    by_cases hji : j = i
    · subst hji; exact hy.wpOp hi hS ⟨fun _ => hS, H⟩
    · have h1 := H.2 j (ready_mono hj hji)
      obtain ⟨hjun, oj, hoj, hall⟩ := mem_ready.1 hj
      have hnot : ∀ e ∈ oj.after, Region.binds md e = true → e.on ≠ i := fun e he hb heq => by
        have h1 := hall e he hb
        have h0 := (mem_ready.1 hr).1
        rw [heq] at h1
        rcases Nat.lt_or_ge i listed.size with h' | h'
        · simp [h'] at h0 h1; rw [h0] at h1; cases h1
        · simp [Array.getElem?_eq_none h'] at h1
      have hjs : j ≠ stop := fun e => by
        subst e
        obtain ⟨o, ho, e, he, hb, heq⟩ := hwt
        rw [hoj] at ho; cases ho
        exact hnot e he hb heq
      have h2 := wpOp_putIf hoj (hfree j oj hoj hji hjun hnot) (fun cs b => hsel i oi cs b hi) (fun cs b => hsel j oj cs b hoj) hQ hy h1
      have hfree' : ∀ k ok, ops[k]? = some ok → k ≠ i → (listed.setIfInBounds j true).getD k true = false →
          (∀ e ∈ ok.after, Region.binds md e = true → e.on ≠ i) → oi.apart ops ok = true := fun k ok hk hki hun hno => by
        refine hfree k ok hk hki ?_ hno
        by_cases hjk : j = k
        · subst hjk; exact hjun
        · rw [getD_set_ne true hjk] at hun; exact hun
      have hls' : (listed.setIfInBounds j true).getD stop true = false := by rw [getD_set_ne true hjs]; exact hls
      have hls2 : ((listed.setIfInBounds i true).setIfInBounds j true).getD stop true = false := by rw [getD_set_ne true hjs, getD_set_ne true (Ne.symm hst)]; exact hls
      refine wpOp_mono (fun a' w' h3 => ⟨fun _ => h3.2.1 hls2, ih (listed.setIfInBounds j true) a' w' hfree' (ready_mono hr (Ne.symm hji)) h3.1 (h3.2.1 hls2) hls' ?_⟩) h2
      rw [Array.setIfInBounds_comm _ _ hji]
      exact h3.2.2
/-- One that hangs on no world may be taken first even where S ends ahead of it. -/
theorem wpAnyP_pure {stop i : Nat} {oi : Oper} {v : Value} (hi : ops[i]? = some oi) (hsel : ∀ (j : Nat) (o : Oper) cs b, ops[j]? = some o → o.op ≠ .select cs b)
    (hQ : ∀ c a w, Q (.panic c) (a.put oi.dst v) w → Q (.panic c) a w) (hst : stop ≠ i) :
    ∀ (fuel : Nat) (listed : Array Bool) (a : Act) (w : World),
      (∀ j oj, ops[j]? = some oj → j ≠ i → listed.getD j true = false → (∀ e ∈ oj.after, Region.binds md e = true → e.on ≠ i) → oi.apart ops oj = true) →
      i ∈ Region.ready md ops listed → YieldsIf P ops (fun _ => True) oi v a → (listed.getD stop true = false → S w) →
      wpAnyP P md ops Q S stop fuel (listed.setIfInBounds i true) (a.put oi.dst v) w → wpAnyP P md ops Q S stop (fuel + 1) listed a w := by
  intro fuel
  induction fuel with
  | zero =>
    intro listed a w _ hr hy hS H
    refine ⟨fun h => (by rw [h] at hr; cases hr), fun j hj => ?_⟩
    by_cases hji : j = i
    · subst hji; exact hy.wpOp hi trivial ⟨fun h0 => hS (by rw [getD_set_ne true (Ne.symm hst)] at h0; exact h0), H⟩
    · have := ready_mono hj hji
      rw [H.1] at this
      cases this
  | succ fuel ih =>
    intro listed a w hfree hr hy hS H
    refine ⟨fun h => (by rw [h] at hr; cases hr), fun j hj => ?_⟩
    by_cases hji : j = i
    · subst hji; exact hy.wpOp hi trivial ⟨fun h0 => hS (by rw [getD_set_ne true (Ne.symm hst)] at h0; exact h0), H⟩
    · have h1 := H.2 j (ready_mono hj hji)
      obtain ⟨hjun, oj, hoj, hall⟩ := mem_ready.1 hj
      have hnot : ∀ e ∈ oj.after, Region.binds md e = true → e.on ≠ i := fun e he hb heq => by
        have h1 := hall e he hb
        have h0 := (mem_ready.1 hr).1
        rw [heq] at h1
        rcases Nat.lt_or_ge i listed.size with h' | h'
        · simp [h'] at h0 h1; rw [h0] at h1; cases h1
        · simp [Array.getElem?_eq_none h'] at h1
      have h2 := wpOp_putIf hoj (hfree j oj hoj hji hjun hnot) (fun cs b => hsel i oi cs b hi) (fun cs b => hsel j oj cs b hoj) hQ hy h1
      have hfree' : ∀ k ok, ops[k]? = some ok → k ≠ i → (listed.setIfInBounds j true).getD k true = false →
          (∀ e ∈ ok.after, Region.binds md e = true → e.on ≠ i) → oi.apart ops ok = true := fun k ok hk hki hun hno => by
        refine hfree k ok hk hki ?_ hno
        by_cases hjk : j = k
        · subst hjk; exact hjun
        · rw [getD_set_ne true hjk] at hun; exact hun
      have hK : ∀ w', (((listed.setIfInBounds i true).setIfInBounds j true).getD stop true = false → S w') → (listed.setIfInBounds j true).getD stop true = false → S w' := fun w' h h0 => h (by rw [← Array.setIfInBounds_comm _ _ hji, getD_set_ne true (Ne.symm hst)]; exact h0)
      refine wpOp_mono (fun a' w' h3 => ⟨hK w' h3.2.1, ih (listed.setIfInBounds j true) a' w' hfree' (ready_mono hr (Ne.symm hji)) h3.1 (hK w' h3.2.1) ?_⟩) h2
      rw [Array.setIfInBounds_comm _ _ hji]
      exact h3.2.2
theorem wp_region_phase {id stop : Nat} {a : Act} {w : World} (hm : P.follows .mixedOrders = true)
    (h : wpAnyP P .any ops Q S stop ops.size (Array.replicate ops.size false) a { w with drawn := w.drawn + 1 }) : (Code.region id ops true).wp P Q a w :=
  wp_region_any hm (wpAny_of_phase _ _ _ _ h)
end

section
variable {P : Program} {T : List TRow} {fn : Func} {w0 : World} {H0 : Hp} {X : List Nat} {k : List Item} {F : Fk} {H : Hp} {L : List Chunk} {R : Ending → World → Prop} {Hs : Hp} {Ls Ls' : List Chunk} {ops : Array Oper} {fuel stop : Nat} {listed listed' : Array Bool}
variable {ty : TypeId} {pos : String} {af : Array Edge} {g : Option (Nat × Bool)} {dst : Option Nat}
def WpE (P : Program) (fn : Func) (w0 : World) (H0 : Hp) (X : List Nat) (k : List Item) (R : Ending → World → Prop) (Hs : Hp) (Ls : List Chunk) (ops : Array Oper) (stop fuel : Nat) (listed : Array Bool) (F : Fk) (H : Hp) (L : List Chunk) : Prop :=
  ∀ a w, Agrees fn.ntmps F a → SH w0 H0 X w H L → wpAnyP P .any ops (QD P fn k R) (fun w => SH w0 H0 X w Hs Ls) stop fuel listed a w
theorem WpG.drawE {id : Nat} (n stop : Nat) (Ls : List Chunk) (hm : P.follows .mixedOrders = true) (hn : (ops.size == n && Array.replicate n false == lst n 0) = true) (h : WpE P fn w0 H0 X k R H Ls ops stop n (lst n 0) F H L) : WpG P fn w0 H0 X (.code (.region id ops true) :: k) F H L R := fun a w ha hs =>
  WpS.of_wp (Code.wp_mono (fun e a w hq => by cases e <;> exact hq) (wp_region_phase (Q := QD P fn k R) (stop := stop) hm (by
    simp only [Bool.and_eq_true] at hn
    have h1 : ops.size = n := by simpa using hn.1
    have h2 := beq_iff_eq.1 hn.2
    rw [h1, h2]
    exact h a _ ha hs.drawn)))
def echk (ops : Array Oper) (listed : Array Bool) (stop i : Nat) : Bool := dchk ops listed i && (waits ops .any stop i && !listed.getD stop true)
def pchk (ops : Array Oper) (listed : Array Bool) (stop i : Nat) : Bool := dchk ops listed i && !Nat.beq stop i
def echks (ops : Array Oper) (stop : Nat) (listed : Array Bool) : List Nat → Bool
  | [] => true
  | i :: is => pchk ops listed stop i && echks ops stop (listed.setIfInBounds i true) is
theorem WpE.pure_ {i d : Nat} {o : Oper} {v : Value} (hchk : pchk ops listed stop i = true) (ho : ops[i]? = some o) (hw : wantk ops F o.guard = some true) (hd : o.dst = some d) (hn : Nat.blt d fn.ntmps = true)
    (h0 : H0.le Hs) (hH : Hs.le H) (hL : Ls.Sublist L) (hy : ∀ (a : Act) (w : World), Agrees fn.ntmps F a → (execOp a.eval o).run P w = .ok (.value v) w)
    (h : WpE P fn w0 H0 X k R Hs Ls ops stop fuel (listed.setIfInBounds i true) ((d, v) :: F) H L) : WpE P fn w0 H0 X k R Hs Ls ops stop (fuel + 1) listed F H L := fun a w ha hs => by
  simp only [pchk, dchk, Bool.and_eq_true, Bool.not_eq_true'] at hchk
  have h1 : stop ≠ i := fun e => by subst e; have := hchk.2; simp at this
  exact wpAnyP_pure ho (Region.noSelect_spec hchk.1.1) (fun _ _ _ h => h) h1 fuel listed a w (Region.free_spec ho hchk.1.2.1) (by simpa using hchk.1.2.2) (.inl ⟨wantk_spec ha hw, fun w _ => hy a w ha⟩) (fun _ => hs.less h0 hH hL)
    (by rw [hd]; exact h _ w (ha.put (by simpa [Nat.blt_eq] using hn) v) hs)
theorem WpE.take {i d : Nat} {o : Oper} {v : Value} (hchk : echk ops listed stop i = true) (ho : ops[i]? = some o) (hw : wantk ops F o.guard = some true) (hd : o.dst = some d) (hn : Nat.blt d fn.ntmps = true)
    (h0 : H0.le Hs) (hH : Hs.le H) (hL : Ls.Sublist L) (hy : ∀ (a : Act) (w : World), Agrees fn.ntmps F a → SH w0 H0 X w Hs Ls → (execOp a.eval o).run P w = .ok (.value v) w)
    (h : WpE P fn w0 H0 X k R Hs Ls ops stop fuel (listed.setIfInBounds i true) ((d, v) :: F) H L) : WpE P fn w0 H0 X k R Hs Ls ops stop (fuel + 1) listed F H L := fun a w ha hs => by
  simp only [echk, dchk, Bool.and_eq_true, Bool.not_eq_true'] at hchk
  obtain ⟨h1, h2⟩ := waits_spec hchk.2.1
  exact wpAnyP_first ho (Region.noSelect_spec hchk.1.1) (fun _ _ _ h => h) h1 h2 fuel listed a w (Region.free_spec ho hchk.1.2.1) (by simpa using hchk.1.2.2) (.inl ⟨wantk_spec ha hw, fun w hw' => hy a w ha hw'⟩) (hs.less h0 hH hL) hchk.2.2
    (by rw [hd]; exact h _ w (ha.put (by simpa [Nat.blt_eq] using hn) v) hs)
theorem WpE.skip {i d : Nat} {o : Oper} (hchk : pchk ops listed stop i = true) (ho : ops[i]? = some o) (hw : wantk ops F o.guard = some false) (hd : o.dst = some d) (hn : Nat.blt d fn.ntmps = true)
    (h0 : H0.le Hs) (hH : Hs.le H) (hL : Ls.Sublist L)
    (h : WpE P fn w0 H0 X k R Hs Ls ops stop fuel (listed.setIfInBounds i true) ((d, undef) :: F) H L) : WpE P fn w0 H0 X k R Hs Ls ops stop (fuel + 1) listed F H L := fun a w ha hs => by
  simp only [pchk, dchk, Bool.and_eq_true, Bool.not_eq_true'] at hchk
  have h1 : stop ≠ i := fun e => by subst e; have := hchk.2; simp at this
  exact wpAnyP_pure ho (Region.noSelect_spec hchk.1.1) (fun _ _ _ h => h) h1 fuel listed a w (Region.free_spec ho hchk.1.2.1) (by simpa using hchk.1.2.2) (.inr ⟨wantk_spec ha hw, rfl⟩) (fun _ => hs.less h0 hH hL)
    (by rw [hd]; exact h _ w (ha.put (by simpa [Nat.blt_eq] using hn) undef) hs)
/-- What hangs on no world. -/
def RunP (P : Program) (fn : Func) (F : Fk) (o : Oper) (v : Value) : Prop := ∀ (a : Act) (w : World), Agrees fn.ntmps F a → (execOp a.eval o).run P w = .ok (.value v) w
theorem RunP.indexAddr (hT : TabOK P T) {t : Nat} {x y : Operand} {b off n c e : Nat} {kd : IntKind} {j : Int} {r q : TRow} (hx : evk F x = some (.slice (some ⟨b, off, none⟩) n c)) (hy : evk F y = some (.int kd j))
    (hr : trow T t = some r) (hk : r.kind = .slice e) (hq : trow T e = some q) (h0 : 0 ≤ j) (h1 : j < n) : RunP P fn F ⟨dst, .indexAddr t x y, ty, pos, af, g⟩ (.pointer (some ⟨b, off + j.toNat * q.size, none⟩)) := fun a w ha => by
  have hd := (hT.row hr).slice hk
  have hadd : (⟨b, off, none⟩ : Addr).add (j.toNat * q.size) = ⟨b, off + j.toNat * q.size, none⟩ := by
    unfold Addr.add
    split <;> simp_all
  simp only [execOp, ha.eval hx, ha.eval hy, Instr.indexAt, asIntOf, Sem.run_bind, Sem.run_pure, run_underlying hd, Result.andThen_ok, (hT.row hq).run_size, h0, h1, and_self, if_true, hadd]
theorem WpE.p {i d : Nat} {o : Oper} {v : Value} (hchk : (pchk ops listed stop i && (listed.setIfInBounds i true == listed')) = true) (ho : ops[i]? = some o) (hw : wantk ops F o.guard = some true) (hd : o.dst = some d) (hn : Nat.blt d fn.ntmps = true)
    (h0 : H0.le Hs) (hH : Hs.le H) (hL : Ls.Sublist L) (hr : RunP P fn F o v)
    (h : WpE P fn w0 H0 X k R Hs Ls ops stop fuel listed' ((d, v) :: F) H L) : WpE P fn w0 H0 X k R Hs Ls ops stop (fuel + 1) listed F H L := by
  simp only [Bool.and_eq_true] at hchk
  exact WpE.pure_ hchk.1 ho hw hd hn h0 hH hL hr ((beq_iff_eq.1 hchk.2) ▸ h)
theorem WpE.y {i d : Nat} {o : Oper} {v : Value} (hchk : (echk ops listed stop i && (listed.setIfInBounds i true == listed')) = true) (ho : ops[i]? = some o) (hw : wantk ops F o.guard = some true) (hd : o.dst = some d) (hn : Nat.blt d fn.ntmps = true)
    (h0 : H0.le Hs) (hH : Hs.le H) (hL : Ls.Sublist L) (hr : RunY P fn w0 H0 X F Hs Ls o v)
    (h : WpE P fn w0 H0 X k R Hs Ls ops stop fuel listed' ((d, v) :: F) H L) : WpE P fn w0 H0 X k R Hs Ls ops stop (fuel + 1) listed F H L := by
  simp only [Bool.and_eq_true] at hchk
  exact WpE.take hchk.1 ho hw hd hn h0 hH hL hr ((beq_iff_eq.1 hchk.2) ▸ h)
theorem WpE.gos (hT : TabOK P T) (h0 : H0.le Hs) (hH : Hs.le H) (hL : Ls.Sublist L) : ∀ (is : List Nat) {listed : Array Bool} {F F' : Fk}, echks ops stop listed is = true → dvals T fn.ntmps ops is F = some F' →
    WpE P fn w0 H0 X k R Hs Ls ops stop fuel (dlist listed is) F' H L → WpE P fn w0 H0 X k R Hs Ls ops stop (fuel + is.length) listed F H L
  | [], _, _, _, _, hv, h => by simp only [dvals, Option.some.injEq] at hv; subst hv; exact h
  | i :: is, listed, F, F', hc, hv, h => by
    simp only [echks, Bool.and_eq_true] at hc
    simp only [dvals] at hv
    split at hv
    · rename_i o ho
      split at hv
      · rename_i hw
        split at hv
        · rename_i d hd
          cases hb : Nat.blt d fn.ntmps with
          | false => rw [hb] at hv; cases hv
          | true =>
            rw [hb] at hv
            simp only [cond_true] at hv
            split at hv
            · rename_i v hpv
              exact WpE.pure_ hc.1 ho hw hd hb h0 hH hL (fun a w ha => pop_spec hT ha hpv w) (WpE.gos hT h0 hH hL is hc.2 hv h)
            · cases hv
        · cases hv
      · rename_i hw
        split at hv
        · rename_i d hd
          cases hb : Nat.blt d fn.ntmps with
          | false => rw [hb] at hv; cases hv
          | true =>
            rw [hb] at hv
            simp only [cond_true] at hv
            exact WpE.skip hc.1 ho hw hd hb h0 hH hL (WpE.gos hT h0 hH hL is hc.2 hv h)
        · cases hv
      · cases hv
    · cases hv
theorem WpE.go (hT : TabOK P T) (is : List Nat) (G : Fk) {F' : Fk} (hc : (echks ops stop listed is && (dlist listed is == listed')) = true) (hv : dvals T fn.ntmps ops is F = some F') (hG : Known F' G) (h0 : H0.le Hs) (hH : Hs.le H) (hL : Ls.Sublist L)
    (h : WpE P fn w0 H0 X k R Hs Ls ops stop fuel listed' G H L) : WpE P fn w0 H0 X k R Hs Ls ops stop (fuel + is.length) listed F H L := by
  simp only [Bool.and_eq_true] at hc
  exact WpE.gos hT h0 hH hL is hc.1 hv (fun a w ha hs => ((beq_iff_eq.1 hc.2) ▸ h) a w (ha.weaken hG.all) hs)
/-- The one that writes: from here on only Ls' stays. -/
theorem WpE.halt {Post : Fk → Hp → List Chunk → Prop} (Ls' : List Chunk) (hchk : ((Region.ready .any ops listed == [stop]) && (listed.setIfInBounds stop true == listed')) = true) (hs : OpG P fn w0 H0 X ops stop F H L Post)
    (h : ∀ F' H' L', Post F' H' L' → WpD P fn w0 H0 X k R Hs Ls' ops fuel listed' F' H' L') : WpE P fn w0 H0 X k R Hs Ls ops stop (fuel + 1) listed F H L := fun a w ha hsh => by
  simp only [Bool.and_eq_true] at hchk
  obtain ⟨o, ho, hw, h1⟩ := hs
  have hr : Region.ready .any ops listed = [stop] := by simpa using hchk.1
  refine ⟨fun h0 => (by rw [h0] at hr; cases hr), fun j hj => ?_⟩
  rw [hr, List.mem_singleton] at hj
  subst hj
  refine OpS.wpOp ho (wantk_spec ha hw) ?_
  have hK : ∀ a' w', (∃ F' H' L', Post F' H' L' ∧ Agrees fn.ntmps F' a' ∧ SH w0 H0 X w' H' L') → ((listed.setIfInBounds j true).getD j true = false → SH w0 H0 X w' Hs Ls) ∧ wpAnyP P .any ops (QD P fn k R) (fun w => SH w0 H0 X w Hs Ls) j fuel (listed.setIfInBounds j true) a' w' := by
    rintro a' w' ⟨F', H', L', hp, ha', hs'⟩
    refine ⟨fun h0 => (by rw [getD_self] at h0; cases h0), wpAnyP_of_held (S' := fun w => SH w0 H0 X w Hs Ls') fuel _ a' w' getD_self ?_⟩
    rw [beq_iff_eq.1 hchk.2]
    exact h F' H' L' hp a' w' ha' hs'
  cases h1 a w ha hsh with
  | value hr h => exact .value hr (hK _ _ h)
  | skip hr h => exact .skip hr (hK _ _ h)
  | call hr Q hc h => exact .call hr Q hc fun v w'' hq => hK _ _ (h v w'' hq)

/-- Several ways through a drawn statement come together. -/
theorem WpD.join {σ : Type} {fuel' : Nat} {F' : Fk} {H' : Hp} {L' : List Chunk} (listed' : Array Bool) (Fs : σ → Fk) (Ls1 : σ → List Chunk) (h : (∀ s, WpD P fn w0 H0 X k R Hs Ls ops fuel' listed' (Fs s) H (Ls1 s)) → WpD P fn w0 H0 X k R Hs Ls ops fuel listed F' H' L')
    (K : ∀ s, WpD P fn w0 H0 X k R Hs Ls ops fuel' listed' (Fs s) H (Ls1 s)) : WpD P fn w0 H0 X k R Hs Ls ops fuel listed F' H' L' := h K
/-- A list from a place on. -/
theorem RdS.drop {α : Type} [Rdc α] {H : Hp} {b o : Nat} {xs : List α} (h : RdS H (some ⟨b, o, none⟩) xs) (n : Nat) : RdS H (some ⟨b, o + n * Rdc.sz α, none⟩) (xs.drop n) := by
  refine ⟨by have := h.1; simp; omega, ?_⟩
  rcases h.2 with rfl | ⟨b', o', e, hk⟩
  · exact .inl (by simp)
  · simp only [Option.some.injEq, Addr.mk.injEq, and_true] at e
    obtain ⟨rfl, rfl⟩ := e
    refine .inr ⟨b, _, rfl, fun i x hx => ?_⟩
    rw [List.getElem?_drop] at hx
    obtain ⟨cs, h1, h2⟩ := hk (n + i) x hx
    exact ⟨cs, h1, by rwa [Nat.add_mul, ← Nat.add_assoc] at h2⟩
theorem WpG.sliceR {α : Type} [Inhabited α] [Rdc α] (hT : TabOK P T) {i : Nat} {rest : List Nat} {d t e c : Nat} {x y : Operand} {A : Option Addr} {kd : IntKind} {j : Int} {r q : TRow} {xs : List α} {H1 : Hp}
    (ho : ops[i]? = some ⟨some d, .slice t x (some y) none none, ty, pos, af, g⟩) (hw : wantk ops F g = some true) (hn : Nat.blt d fn.ntmps = true) (hx : evk F x = some (.slice A xs.length c)) (hy : evk F y = some (.int kd j))
    (hr : trow T t = some r) (hk : r.kind = .slice e) (hq : trow T e = some q) (hsz : Rdc.sz α = q.size) (hR : RdS H1 A xs) (h0 : 0 ≤ j) (h1 : j ≤ xs.length) (hc : xs.length ≤ c)
    (h : ∀ A', RdS H1 A' (xs.drop j.toNat) → WpG P fn w0 H0 X (.inRegion ops rest :: k) ((d, .slice A' (xs.drop j.toNat).length (c - j.toNat)) :: F) H L R) : WpG P fn w0 H0 X (.inRegion ops (i :: rest) :: k) F H L R := by
  have hd := (hT.row hr).slice hk
  have hle : j.toNat ≤ c := by omega
  rcases hR.2 with rfl | ⟨b, o, rfl, _⟩
  · have hj : j = 0 := by simp at h1; omega
    subst hj
    refine WpG.y ho hw rfl hn (v := .slice (if c = 0 then A else A.map (·.add (0 * q.size))) 0 (c - 0)) (fun a w ha hs => ?_) (h _ (by simpa using RdS.nil H1 _))
    simp [execOp, ha.eval hx, ha.eval hy, Instr.sliceAt, Instr.slice, Instr.sliceBounds, Instr.sliceBound, asIntOf, run_underlying hd, (hT.row hq).run_size]
  · have hadd : (⟨b, o, none⟩ : Addr).add (j.toNat * q.size) = ⟨b, o + j.toNat * q.size, none⟩ := by
      unfold Addr.add
      split <;> simp_all
    have hrun : ∀ A', (if c = j.toNat then some ⟨b, o, none⟩ else some ⟨b, o + j.toNat * q.size, none⟩) = A' → RunY P fn w0 H0 X F H L ⟨some d, .slice t x (some y) none none, ty, pos, af, g⟩ (.slice A' (xs.drop j.toNat).length (c - j.toNat)) := fun A' e a w ha hs => by
      subst e
      simp [execOp, ha.eval hx, ha.eval hy, Instr.sliceAt, Instr.slice, Instr.sliceBounds, Instr.sliceBound, asIntOf, run_underlying hd, (hT.row hq).run_size, h0, h1, hadd]
    by_cases e : c = j.toNat
    · refine WpG.y ho hw rfl hn (hrun (some ⟨b, o, none⟩) (if_pos e)) (h _ ?_)
      rw [List.drop_eq_nil_of_le (by omega)]
      exact RdS.nil H1 _
    · exact WpG.y ho hw rfl hn (hrun (some ⟨b, o + j.toNat * q.size, none⟩) (if_neg e)) (h _ (hsz ▸ hR.drop _))
/-! ### Arrays -/
theorem partOf_at {r : TRow} {cs : List Value} {off : Nat} {v : Value} (h1 : r.size = 1) (h2 : r.kind.agg = false) (hv : cs[off]? = some v) : partOf r cs off = some v := by
  have hlt := (List.getElem?_eq_some_iff.1 hv).1
  unfold partOf
  rw [h1, h2, show Nat.ble (off + 1) cs.length = true from Nat.ble_eq_true_of_le (by omega)]
  rw [List.drop_eq_getElem_cons hlt]
  simp only [List.take_succ_cons, List.take_zero, cond_true]
  rw [List.getElem?_eq_getElem hlt] at hv
  simpa [mkv] using hv
theorem arr_at {α : Type} [Inhabited α] {f : α → Value} {xs : List α} {j : Int} (h0 : 0 ≤ j) (h1 : j < xs.length) : (xs.map f)[0 + j.toNat * 1]? = some (f (nth xs j)) := by
  rw [Nat.zero_add, Nat.mul_one, List.getElem?_map, nth_get h0 h1]; rfl
theorem arr_set {α : Type} {f : α → Value} {xs : List α} {j : Int} (x : α) : (xs.map f).set (0 + j.toNat * 1) (f x) = (xs.set j.toNat x).map f := by
  rw [Nat.zero_add, Nat.mul_one, List.map_set]

theorem own_int {l : List Int} {j : Int} (h0 : 0 ≤ j) (h1 : j < l.length) : ∀ (q : Nat) u, [iv (nth l j)][q]? = some u → (l.map iv)[0 + j.toNat * 1 + q]? = some u := fun q u hu => by
  cases q with
  | zero => simp only [List.getElem?_cons_zero, Option.some.injEq] at hu; subst hu; exact arr_at h0 h1
  | succ q => simp at hu
theorem own_lt {α : Type} {f : α → Value} {xs : List α} {j : Int} (h0 : 0 ≤ j) (h1 : j < xs.length) : 0 + j.toNat * 1 < (xs.map f).length := by
  rw [List.length_map]; omega
/-! ### A row made shorter -/
theorem WpG.truncOwn {ci E sz n m c : Nat} {A : Option Addr} {xs : List Value} (hL : L[ci]? = some (Chunk.own E sz A c n xs)) (hm : m ≤ n) (h : WpG P fn w0 H0 X k F H (L.set ci (Chunk.own E sz A c m (xs.take (m * sz)))) R) : WpG P fn w0 H0 X k F H L R := fun a w ha hs => by
  have hown : w.ownsRow 0 E sz (.slice A n c) n xs := hs.chunk hL
  have hnew : (Chunk.own E sz A c m (xs.take (m * sz))).holds w := by
    have hle : m * sz ≤ n * sz := Nat.mul_le_mul_right _ hm
    refine ⟨by rw [List.length_take, hown.1]; omega, ?_⟩
    rcases hown.2 with ⟨e0, hn0⟩ | ⟨g', cap, cur, e0, hb, hg, hnc, hcm, hcs, htake⟩
    · simp only [Value.slice.injEq] at e0
      have : m = 0 := by omega
      subst this
      exact .inl ⟨by rw [e0.1, e0.2.2], rfl⟩
    · simp only [Value.slice.injEq, true_and] at e0
      obtain ⟨rfl, rfl⟩ := e0
      exact .inr ⟨g', c, cur, rfl, hb, hg, by omega, hcm, hcs, by rw [← htake, List.take_take, Nat.min_eq_left hle]⟩
  have hbk : (Chunk.own E sz A c m (xs.take (m * sz))).blk = (Chunk.own E sz A c n xs).blk := by
    cases A <;> rfl
  exact h a w ha (hs.write hL hbk (Chg.refl _ _) hnew)

/-! ### A call that only reads, the call's own rows too -/
def Frz (L : List Chunk) (H : Hp) (H1 : Hp) : Prop := H.le H1 ∧ ∃ w, Sub H1 w ∧ (∀ c ∈ L, c.holds w) ∧ ∀ b ∈ blks L, H1 b = w.heap[b]?
theorem Frz.own {H1 : Hp} {ci E sz n c : Nat} {A : Option Addr} {xs : List Value} (h : Frz L H H1) (hL : L[ci]? = some (Chunk.own E sz A c n xs)) : (A = none ∧ n = 0) ∨ ∃ b, A = some ⟨b, 0, none⟩ ∧ HCells H1 b 0 xs := by
  obtain ⟨_, w, _, hh, hb⟩ := h
  have hown : w.ownsRow 0 E sz (.slice A n c) n xs := hh _ (List.mem_of_getElem? hL)
  rcases hown.2 with ⟨e0, hn0⟩ | ⟨g', cap, cur, e0, _, hg, hnc, hcm, hcs, htake⟩
  · simp only [Value.slice.injEq] at e0
    exact .inl ⟨e0.1, hn0⟩
  · simp only [Value.slice.injEq, true_and] at e0
    obtain ⟨rfl, rfl⟩ := e0
    refine .inr ⟨g', rfl, fun j u hu => ?_⟩
    have h1 : H1 g' = some (.cells cur E (0, 0)) := by rw [hb g' (mem_blks (List.mem_of_getElem? hL) rfl)]; exact hg
    simp only [hcell, h1, Nat.zero_add]
    rw [← htake, List.getElem?_take] at hu
    split at hu
    · simpa using hu
    · cases hu
theorem Frz.box {H1 : Hp} {ci b U : Nat} {cs : List Value} (h : Frz L H H1) (hL : L[ci]? = some (Chunk.box b cs U)) : HCells H1 b 0 cs := by
  obtain ⟨_, w, _, hh, hb⟩ := h
  have hg : w.heap[b]? = some (.cells cs.toArray U (0, 0)) := hh _ (List.mem_of_getElem? hL)
  intro j u hu
  have h1 : H1 b = some (.cells cs.toArray U (0, 0)) := by rw [hb b (mem_blks (List.mem_of_getElem? hL) rfl)]; exact hg
  simp only [hcell, h1, Nat.zero_add]
  simpa using hu
theorem OpG.callF {i : Nat} {d : Nat} {gi : FuncId} {f : Operand} {xs : Array Operand} {ts : Array TypeId} {first cap : Array Value} {vs args : List Value} {v : Value}
    (ho : ops[i]? = some ⟨some d, .call ⟨.value f, xs, ts⟩, ty, pos, af, g⟩) (hw : wantk ops F g = some true) (hn : Nat.blt d fn.ntmps = true) (hf : evk F f = some (.func (.func gi) first cap)) (hx : evs F xs.toList = some vs)
    (hargs : first.toList ++ (vs ++ cap.toList) = args) (hcal : Callee P gi) (hc : ∀ H1, Frz L H H1 → CallG P gi args H1 [] fun u _ L' => u = v ∧ L' = []) :
    OpG P fn w0 H0 X ops i F H L fun F' H' L' => F' = (d, v) :: F ∧ H' = H ∧ L' = L := ⟨_, ho, hw, fun a w ha hs => by
  let H1 : Hp := fun b => if b ∈ blks L then w.heap[b]? else H b
  have hle : H.le H1 := fun b o hb => by
    show (if b ∈ blks L then w.heap[b]? else H b) = some o
    split
    · rename_i hm; have := (hs.own b hm).2; rw [hb] at this; cases this
    · exact hb
  have hsub : Sub H1 w := fun b o hb => by
    have hb' : (if b ∈ blks L then w.heap[b]? else H b) = some o := hb
    split at hb'
    · exact hb'
    · exact hs.sub b o hb'
  have hfrz : Frz L H H1 := ⟨hle, w, hsub, hs.holds, fun b hb => if_pos hb⟩
  have hp : Pre w H1 [] := ⟨hsub, by simp, by simp [blks], by simp [blks]⟩
  refine .call (hargs ▸ run_callValue hcal (ha.eval hf) (ha.evs hx) w) (fun u w' => u = v ∧ Chg [] w w') (((hc H1 hfrz).2 w hp).mono ?_) ?_
  · rintro e w' ⟨u, H', L', rfl, h1, rfl, rfl⟩
    exact ⟨_, rfl, rfl, h1.chg⟩
  · rintro _ w' ⟨rfl, h1⟩
    refine ⟨_, _, _, ⟨rfl, rfl, rfl⟩, ha.put (by simpa [Nat.blt_eq] using hn) _, ?_⟩
    refine SH.frame (Lc := []) (Lc' := []) (H := H) hs ⟨h1, fun b o hb => ?_, Hp.le.refl _, fun b h => .inl h, by simp, by simp [blks], by simp [blks]⟩
    have := hs.sub b o hb
    rw [h1.block b (lt_of_get this) (by simp)]
    exact this⟩
theorem WpG.callF {i : Nat} {rest : List Nat} {d : Nat} {gi : FuncId} {f : Operand} {xs : Array Operand} {ts : Array TypeId} {first cap : Array Value} {vs args : List Value} {v : Value}
    (ho : ops[i]? = some ⟨some d, .call ⟨.value f, xs, ts⟩, ty, pos, af, g⟩) (hw : wantk ops F g = some true) (hn : Nat.blt d fn.ntmps = true) (hf : evk F f = some (.func (.func gi) first cap)) (hx : evs F xs.toList = some vs)
    (hargs : first.toList ++ (vs ++ cap.toList) = args) (hcal : Callee P gi) (hc : ∀ H1, Frz L H H1 → CallG P gi args H1 [] fun u _ L' => u = v ∧ L' = [])
    (h : WpG P fn w0 H0 X (.inRegion ops rest :: k) ((d, v) :: F) H L R) : WpG P fn w0 H0 X (.inRegion ops (i :: rest) :: k) F H L R :=
  WpG.step (OpG.callF ho hw hn hf hx hargs hcal hc) (by rintro _ _ _ ⟨rfl, rfl, rfl⟩; exact h)
end
end Go.Proofs.YtdjemlkllbhdlaaGreat

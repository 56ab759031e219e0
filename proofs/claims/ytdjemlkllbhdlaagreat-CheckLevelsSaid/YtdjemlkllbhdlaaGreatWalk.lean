/- The laws of a walk: what only computes at one go; tests; rounds; memory; calls; returns. -/
import Derived.Test.YtdjemlkllbhdlaaGreatOps
set_option linter.unusedVariables false
set_option linter.unusedSimpArgs false
namespace Go.Proofs.YtdjemlkllbhdlaaGreat
open Go Go.RowKit

/-! ### What only computes, at one go -/
def wantk (ops : Array Oper) (F : Fk) (g : Option (Nat × Bool)) : Option Bool :=
  match g with
  | none => some true
  | some (j, want) => match ops[j]? with
    | some oj => match oj.dst with
      | some d => match look F d with
        | some (.bool true) => some want
        | some (.bool false) => some (!want)
        | some (.tuple _) => some false
        | _ => none
      | none => none
    | none => none

def pstep (T : List TRow) (n : Nat) : List Item → Fk → Option (List Item × Fk)
  | .code (.seq a b) :: k, F => some (.code a :: .code b :: k, F)
  | .code .skip :: k, F => some (k, F)
  | .code (.label _) :: k, F => some (k, F)
  | .code (.block id c) :: k, F => some (.code c :: .inBlock id :: k, F)
  | .inBlock _ :: k, F => some (k, F)
  | .code (.scope c) :: k, F => some (.code c :: .inScope c :: k, F)
  | .inScope _ :: k, F => some (k, F)
  | .code (.loop c) :: k, F => some (.code c :: .inLoop c :: k, F)
  | .inLoop c :: k, F => some (.code c :: .inLoop c :: k, F)
  | .code (.exit id) :: k, F => match exitTo id k with
    | some k' => some (k', F)
    | none => none
  | .code (.goto l) :: k, F => match gotoIn l k with
    | some k' => some (k', F)
    | none => none
  | .code (.cond c a b) :: k, F => match evk F c with
    | some (.bool true) => some (.code a :: k, F)
    | some (.bool false) => some (.code b :: k, F)
    | _ => none
  | .code (.region _ ops false) :: k, F => some (.inRegion ops (List.range ops.size) :: k, F)
  | .inRegion _ [] :: k, F => some (k, F)
  | .inRegion ops (i :: rest) :: k, F => match ops[i]? with
    | some o => match wantk ops F o.guard with
      | some true => match o.dst with
        | some d => bif Nat.blt d n then (match pop T F o.op with
          | some v => some (.inRegion ops rest :: k, (d, v) :: F)
          | none => none) else none
        | none => none
      | some false => match o.dst with
        | some d => bif Nat.blt d n then some (.inRegion ops rest :: k, (d, undef) :: F) else none
        | none => some (.inRegion ops rest :: k, F)
      | none => none
    | none => none
  | _, _ => none

def pexec (T : List TRow) (n : Nat) : Nat → List Item → Fk → Option (List Item × Fk)
  | 0, k, F => some (k, F)
  | m + 1, k, F => match pstep T n k F with
    | some (k', F') => pexec T n m k' F'
    | none => none

section
variable {P : Program} {T : List TRow} {fn : Func}

theorem wantk_spec {n : Nat} {ops : Array Oper} {F : Fk} {a : Act} {o : Oper} {t : Bool} (ha : Agrees n F a) (h : wantk ops F o.guard = some t) : Region.wanted o (yielded ops a.tmps) = t := by
  unfold wantk at h
  unfold Region.wanted
  cases hg : o.guard with
  | none => rw [hg] at h; simpa using h
  | some g =>
    obtain ⟨j, want⟩ := g
    rw [hg] at h
    simp only at h ⊢
    cases hj : ops[j]? with
    | none => rw [hj] at h; cases h
    | some oj =>
      rw [hj] at h
      cases hd : oj.dst with
      | none => simp only [hd] at h; cases h
      | some d =>
        simp only [hd] at h
        split at h
        · rename_i e; simp [yielded, hj, hd, ha.at_ d _ e]; simpa using h
        · rename_i e; simp [yielded, hj, hd, ha.at_ d _ e]; cases want <;> simpa using h
        · rename_i e; simp [yielded, hj, hd, ha.at_ d _ e]; simpa using h
        · cases h

theorem pstep_spec (hT : TabOK P T) {k k' : List Item} {F F' : Fk} {a : Act} (ha : Agrees fn.ntmps F a) (h : pstep T fn.ntmps k F = some (k', F')) :
    ∃ a', Agrees fn.ntmps F' a' ∧ ∀ w R, WpS P fn k' a' w R → WpS P fn k a w R := by
  unfold pstep at h
  split at h
  · cases h; exact ⟨a, ha, fun w R => WpS.seq⟩
  · cases h; exact ⟨a, ha, fun w R => WpS.skip⟩
  · cases h; exact ⟨a, ha, fun w R => WpS.label⟩
  · cases h; exact ⟨a, ha, fun w R => WpS.block⟩
  · cases h; exact ⟨a, ha, fun w R => WpS.inBlock⟩
  · cases h; exact ⟨a, ha, fun w R => WpS.scope⟩
  · cases h; exact ⟨a, ha, fun w R => WpS.inScope⟩
  · cases h; exact ⟨a, ha, fun w R => WpS.loop⟩
  · cases h; exact ⟨a, ha, fun w R => WpS.inLoop⟩
  · split at h
    · rename_i he; cases h; exact ⟨a, ha, fun w R => WpS.exit he⟩
    · cases h
  · split at h
    · rename_i he; cases h; exact ⟨a, ha, fun w R => WpS.goto he⟩
    · cases h
  · split at h
    · rename_i hc; cases h; exact ⟨a, ha, fun w R h => WpS.cond (ha.eval hc) h⟩
    · rename_i hc; cases h; exact ⟨a, ha, fun w R h => WpS.cond (ha.eval hc) h⟩
    · cases h
  · cases h; exact ⟨a, ha, fun w R => WpS.region⟩
  · cases h; exact ⟨a, ha, fun w R => WpS.regionNil⟩
  · split at h
    · rename_i o ho
      split at h
      · rename_i hw
        split at h
        · rename_i d hd
          cases hb : Nat.blt d fn.ntmps with
          | false => rw [hb] at h; cases h
          | true =>
            rw [hb] at h
            simp only [cond_true] at h
            split at h
            · rename_i v hv
              cases h
              have hlt : d < fn.ntmps := by simpa [Nat.blt_eq] using hb
              refine ⟨a.put (some d) v, ha.put hlt v, fun w R h => ?_⟩
              exact WpS.op ho (wantk_spec ha hw) (pop_spec hT ha hv w) (hd ▸ h)
            · cases h
        · cases h
      · rename_i hw
        split at h
        · rename_i d hd
          cases hb : Nat.blt d fn.ntmps with
          | false => rw [hb] at h; cases h
          | true =>
            rw [hb] at h
            cases h
            have hlt : d < fn.ntmps := by simpa [Nat.blt_eq] using hb
            exact ⟨a.put (some d) undef, ha.put hlt undef, fun w R h => WpS.unwanted ho (wantk_spec ha hw) (hd ▸ h)⟩
        · rename_i hd
          cases h
          exact ⟨a, ha, fun w R h => WpS.unwanted ho (wantk_spec ha hw) (by rw [hd]; exact h)⟩
      · cases h
    · cases h
  · cases h

theorem pexec_spec (hT : TabOK P T) : ∀ (m : Nat) {k k' : List Item} {F F' : Fk} {a : Act}, Agrees fn.ntmps F a → pexec T fn.ntmps m k F = some (k', F') →
    ∃ a', Agrees fn.ntmps F' a' ∧ ∀ w R, WpS P fn k' a' w R → WpS P fn k a w R
  | 0, _, _, _, _, a, ha, h => by cases h; exact ⟨a, ha, fun _ _ h => h⟩
  | m + 1, k, _, F, _, a, ha, h => by
    simp only [pexec] at h
    split at h
    · rename_i k1 F1 h1
      obtain ⟨a1, ha1, hw1⟩ := pstep_spec hT ha h1
      obtain ⟨a2, ha2, hw2⟩ := pexec_spec hT m ha1 h
      exact ⟨a2, ha2, fun w R h => hw1 w R (hw2 w R h)⟩
    · cases h
end

def Known (F : Fk) : Fk → Prop
  | [] => True
  | (t, v) :: L => look F t = some v ∧ Known F L
theorem Known.all {F : Fk} : ∀ {G : Fk}, Known F G → ∀ p ∈ G, look F p.1 = some p.2
  | [], _, p, hp => by cases hp
  | (t, v) :: G, h, p, hp => by
    rcases List.mem_cons.1 hp with rfl | hp
    · exact h.1
    · exact Known.all h.2 p hp

section
variable {P : Program} {T : List TRow} {fn : Func} {w0 : World} {H0 : Hp} {X : List Nat} {k : List Item} {F : Fk} {H : Hp} {L : List Chunk} {R : Ending → World → Prop}

theorem WpG.go (hT : TabOK P T) (m : Nat) (G : Fk) {k' : List Item} {F' : Fk} (h : pexec T fn.ntmps m k F = some (k', F')) (hG : Known F' G) (next : WpG P fn w0 H0 X k' G H L R) : WpG P fn w0 H0 X k F H L R :=
  fun a w ha hs =>
    let ⟨a', ha', hw⟩ := pexec_spec hT m ha h
    hw w R (next a' w (ha'.weaken hG.all) hs)

/-! ### Tests -/
theorem WpG.setV {t : Nat} {v v' : Value} (hv : look F t = some v) (e : v = v') (h : WpG P fn w0 H0 X k ((t, v') :: F) H L R) : WpG P fn w0 H0 X k F H L R := fun a w ha hs =>
  h a w ⟨ha.defers, ha.size, fun s u hu => by
    simp only [look] at hu
    by_cases es : t = s
    · subst es; simp at hu; subst hu; exact e ▸ ha.at_ t v hv
    · rw [beq_no es] at hu; exact ha.at_ s u hu⟩ hs
theorem WpG.caseD {t : Nat} {p : Prop} [Decidable p] (hc : look F t = some (.bool (decide p))) (ht : p → WpG P fn w0 H0 X k ((t, .bool true) :: F) H L R) (hf : ¬ p → WpG P fn w0 H0 X k ((t, .bool false) :: F) H L R) :
    WpG P fn w0 H0 X k F H L R := by
  by_cases hp : p
  · exact WpG.setV hc (by simp [hp]) (ht hp)
  · exact WpG.setV hc (by simp [hp]) (hf hp)
theorem WpG.caseB {t : Nat} {b : Bool} (hc : look F t = some (.bool b)) (ht : b = true → WpG P fn w0 H0 X k ((t, .bool true) :: F) H L R) (hf : b = false → WpG P fn w0 H0 X k ((t, .bool false) :: F) H L R) :
    WpG P fn w0 H0 X k F H L R := by
  cases b
  · exact WpG.setV hc rfl (hf rfl)
  · exact WpG.setV hc rfl (ht rfl)
theorem WpG.caseE {t : Nat} {x y : Int} (hc : look F t = some (.bool (x == y))) (ht : x = y → WpG P fn w0 H0 X k ((t, .bool true) :: F) H L R) (hf : x ≠ y → WpG P fn w0 H0 X k ((t, .bool false) :: F) H L R) :
    WpG P fn w0 H0 X k F H L R := by
  by_cases hp : x = y
  · exact WpG.setV hc (by simp [hp]) (ht hp)
  · exact WpG.setV hc (by simp [hp]) (hf hp)
theorem WpG.caseN {t : Nat} {x y : Int} (hc : look F t = some (.bool (x != y))) (ht : x ≠ y → WpG P fn w0 H0 X k ((t, .bool true) :: F) H L R) (hf : x = y → WpG P fn w0 H0 X k ((t, .bool false) :: F) H L R) :
    WpG P fn w0 H0 X k F H L R := by
  by_cases hp : x = y
  · exact WpG.setV hc (by simp [hp]) (hf hp)
  · exact WpG.setV hc (by simp [hp]) (ht hp)

/-! ### Rounds -/
/-- From a place of the code on, by induction: s is what a round knows. -/
theorem WpG.ind {σ : Type} (m : σ → Nat) (Fs : σ → Fk) (Hs : σ → Hp) (Ls : σ → List Chunk) (Inv : σ → Prop)
    (h : ∀ s, Inv s → (∀ s', m s' < m s → Inv s' → WpG P fn w0 H0 X k (Fs s') (Hs s') (Ls s') R) → WpG P fn w0 H0 X k (Fs s) (Hs s) (Ls s) R) :
    ∀ s, Inv s → WpG P fn w0 H0 X k (Fs s) (Hs s) (Ls s) R := by
  intro s
  generalize hn : m s = n
  induction n using Nat.strongRecOn generalizing s with
  | _ n ih => exact fun hi => h s hi fun s' hs' hi' => ih (m s') (hn ▸ hs') s' rfl hi'

/-! ### An operation that yields a value -/
theorem WpG.op {ops : Array Oper} {i : Nat} {rest : List Nat} {o : Oper} {d : Nat} {v : Value} (ho : ops[i]? = some o) (hw : wantk ops F o.guard = some true) (hd : o.dst = some d) (hn : Nat.blt d fn.ntmps = true)
    (hr : ∀ (a : Act) (w : World), Agrees fn.ntmps F a → SH w0 H0 X w H L → (execOp a.eval o).run P w = .ok (.value v) w)
    (h : WpG P fn w0 H0 X (.inRegion ops rest :: k) ((d, v) :: F) H L R) : WpG P fn w0 H0 X (.inRegion ops (i :: rest) :: k) F H L R := fun a w ha hs =>
  WpS.op ho (wantk_spec ha hw) (hr a w ha hs) (by rw [hd]; exact h _ w (ha.put (by simpa [Nat.blt_eq] using hn) v) hs)

/-! ### Reading -/
theorem run_loadVar {t : Nat} {r : TRow} (hr : RowOK P t r) {w : World} {b o : Nat} {cs : List Value} {v : Value} (hl : cs.length = r.size) (hcs : ∀ (j : Nat) u, cs[j]? = some u → w.cell? ⟨b, o + j, none⟩ = some u)
    (hv : mkv r.kind.agg cs = some v) : (loadVar t ⟨b, o, none⟩).run P w = .ok v w := by
  have hadd : ∀ j, (⟨b, o, none⟩ : Addr).add j = ⟨b, o + j, none⟩ := fun j => by unfold Addr.add; split <;> simp_all
  unfold loadVar
  simp only [Sem.run_bind, hr.run_agg, Result.andThen_ok]
  cases hk : r.kind.agg with
  | true =>
    rw [hk] at hv
    simp only [mkv, Option.some.injEq] at hv
    subst hv
    have := run_loadCells_list (P := P) (w := w) ⟨b, o, none⟩ cs (fun j u hu => by rw [hadd]; exact hcs j u hu)
    simp [hr.run_size, ← hl, this]
  | false =>
    rw [hk] at hv
    match cs, hv with
    | [u], hv =>
      simp only [mkv, Option.some.injEq] at hv
      subst hv
      have := hcs 0 u rfl
      simp only [Nat.add_zero] at this
      simp [load, Sem.run, this]

/-- A cell read out of memory that stays: what lies there is told cell by cell. -/
def HCells (H : Hp) (b o : Nat) (cs : List Value) : Prop := ∀ (j : Nat) u, cs[j]? = some u → hcell H b (o + j) = some u
theorem HCells.nil (H : Hp) (b o : Nat) : HCells H b o [] := fun j u h => by simp at h
theorem HCells.cons {H : Hp} {b o : Nat} {v : Value} {cs : List Value} (h : hcell H b o = some v) (k : HCells H b (o + 1) cs) : HCells H b o (v :: cs) := fun j u hu => by
  cases j with
  | zero => simp at hu; subst hu; exact h
  | succ j => simp at hu; have := k j u hu; rwa [Nat.add_assoc, Nat.add_comm 1 j] at this
theorem HCells.mono {H H' : Hp} (h : H.le H') {b o : Nat} {cs : List Value} (k : HCells H b o cs) : HCells H' b o cs := fun j u hu => hcell.mono h (k j u hu)

theorem WpG.loadH (hT : TabOK P T) {ops : Array Oper} {i : Nat} {rest : List Nat} {d t : Nat} {x : Operand} {ty : TypeId} {pos : String} {af : Array Edge} {g : Option (Nat × Bool)} {b off : Nat} {cs : List Value} {v : Value} {r : TRow}
    (ho : ops[i]? = some ⟨some d, .load t x, ty, pos, af, g⟩) (hw : wantk ops F g = some true) (hn : Nat.blt d fn.ntmps = true) (hx : evk F x = some (.pointer (some ⟨b, off, none⟩)))
    (hr : trow T t = some r) (hl : cs.length = r.size) (hv : mkv r.kind.agg cs = some v) {H1 : Hp} (hc : HCells H1 b off cs) (hH : H1.le H)
    (h : WpG P fn w0 H0 X (.inRegion ops rest :: k) ((d, v) :: F) H L R) : WpG P fn w0 H0 X (.inRegion ops (i :: rest) :: k) F H L R :=
  WpG.op ho hw rfl hn (fun a w ha hs => by
    have := run_loadVar (P := P) (hT.row hr) (w := w) hl (fun j u hu => hs.sub.cell ((hc.mono hH) j u hu)) hv
    simp [execOp, ha.eval hx, Instr.loadAt, Instr.sureAddr, this]) h

theorem WpG.loadBox (hT : TabOK P T) {ops : Array Oper} {i : Nat} {rest : List Nat} {d t : Nat} {x : Operand} {ty : TypeId} {pos : String} {af : Array Edge} {g : Option (Nat × Bool)} {b off ci : Nat} {cs : List Value} {U : Nat} {v : Value} {r : TRow}
    (ho : ops[i]? = some ⟨some d, .load t x, ty, pos, af, g⟩) (hw : wantk ops F g = some true) (hn : Nat.blt d fn.ntmps = true) (hx : evk F x = some (.pointer (some ⟨b, off, none⟩)))
    (hr : trow T t = some r) (hL : L[ci]? = some (Chunk.box b cs U)) (hv : partOf r cs off = some v)
    (h : WpG P fn w0 H0 X (.inRegion ops rest :: k) ((d, v) :: F) H L R) : WpG P fn w0 H0 X (.inRegion ops (i :: rest) :: k) F H L R :=
  WpG.op ho hw rfl hn (fun a w ha hs => by
    have hb : w.heap[b]? = some (.cells cs.toArray U (0, 0)) := hs.chunk hL
    unfold partOf at hv
    cases hbl : Nat.ble (off + r.size) cs.length with
    | false => rw [hbl] at hv; cases hv
    | true =>
      rw [hbl] at hv
      have hle := Nat.le_of_ble_eq_true hbl
      have := run_loadVar (P := P) (hT.row hr) (w := w) (b := b) (o := off) (cs := (cs.drop off).take r.size) (by simp; omega) (fun j u hu => by
        rw [List.getElem?_take] at hu
        split at hu
        · simp [World.cell?, hb]; simpa using hu
        · cases hu) hv
      simp [execOp, ha.eval hx, Instr.loadAt, Instr.sureAddr, this]) h
end
end Go.Proofs.YtdjemlkllbhdlaaGreat

/- Rows of rows, all the call's own; boxes that stay. -/
import Derived.Test.YtdjemlkllbhdlaaGreatMore
import Derived.Test.YtdjemlkllbhdlaaGreatSpec1
import Derived.Laws.Cover3
namespace Go.Proofs.YtdjemlkllbhdlaaGreat
open Go Go.RowKit

section
variable {P : Program} {T : List TRow} {fn : Func} {w0 : World} {H0 : Hp} {X : List Nat} {k : List Item} {F : Fk} {H : Hp} {L : List Chunk} {R : Ending → World → Prop} {ops : Array Oper} {ty : TypeId} {pos : String} {af : Array Edge} {g : Option (Nat × Bool)} {dst : Option Nat}

/-- A box that stays. -/
theorem WpG.freezeBox {ci b U : Nat} {cs : List Value} (hL : L[ci]? = some (Chunk.box b cs U))
    (h : ∀ H', H.le H' → HCells H' b 0 cs → WpG P fn w0 H0 X k F H' (L.eraseIdx ci) R) : WpG P fn w0 H0 X k F H L R := fun a w ha hs => by
  have hs' := hs.perm (perm_at hL).symm
  have hg : w.heap[b]? = some (.cells cs.toArray U (0, 0)) := hs.chunk hL
  refine h (fun x => if x = b then some (.cells cs.toArray U (0, 0)) else H x) (Hp.le_freeze hs' (b := b) rfl _) (fun j u hu => ?_) a w ha (hs'.freeze (b := b) rfl hg)
  simp only [hcell, if_true, Nat.zero_add]
  simpa using hu

/-- A row of numbers of the call's own. -/
structure Rw where
  A : Option Addr
  c : Nat
  xs : List Int
def iv (x : Int) : Value := .int .i64 x
def Rw.ch (E : Nat) (r : Rw) : Chunk := Chunk.own E 1 r.A r.c r.xs.length (r.xs.map iv)
def Rw.val (r : Rw) : Value := .slice r.A r.xs.length r.c
def Rw.nil : Rw := ⟨none, 0, []⟩

theorem WpG.ownNils (E : Nat) : ∀ (n : Nat) {L : List Chunk}, WpG P fn w0 H0 X k F H ((List.replicate n Rw.nil).map (Rw.ch E) ++ L) R → WpG P fn w0 H0 X k F H L R
  | 0, _, h => h
  | n + 1, _, h => WpG.ownNils E n (WpG.ownNil E 1 h)
theorem WpG.freezeRows (E : Nat) : ∀ (rs : List Rw) {H : Hp} {L : List Chunk}, (∀ r ∈ rs, AllI r.xs ∧ r.xs.length ≤ 140737488355328) →
    (∀ H', H.le H' → (∀ r ∈ rs, RdS H' r.A r.xs ∧ r.xs.length ≤ r.c) → WpG P fn w0 H0 X k F H' L R) → WpG P fn w0 H0 X k F H (rs.map (Rw.ch E) ++ L) R
  | [], H, _, _, h => h H (Hp.le.refl H) (fun r hr => by cases hr)
  | r :: rs, H, L, hI, h => by
    refine WpG.ownCap (ci := 0) rfl (fun hc => ?_)
    refine WpG.freezeOwn (ci := 0) rfl (fun H1 h1 hA => ?_)
    refine WpG.freezeRows E rs (H := H1) (L := L) (fun q hq => hI q (.tail _ hq)) (fun H2 h2 hR => ?_)
    refine h H2 (h1.trans h2) (fun q hq => ?_)
    rcases List.mem_cons.1 hq with rfl | hq
    · refine ⟨RdS.mono h2 (RdS.of_own (H := H) (RdL_ints _ (hI q (.head _)).1) rfl (hI q (.head _)).2 h1 hA), hc⟩
    · exact hR q hq
theorem rows_cell {rs : List Rw} {r : Rw} {t : Nat} (h : rs[t]? = some r) : ∀ (j : Nat) u, [r.val][j]? = some u → (rs.map Rw.val)[0 + t * 1 + j]? = some u := fun j u hu => by
  cases j with
  | zero => simp only [List.getElem?_cons_zero, Option.some.injEq] at hu; subst hu; simp [h]
  | succ j => simp at hu
theorem rows_ch {E t : Nat} {rs : List Rw} {r : Rw} (h : rs[t]? = some r) (a b : Chunk) : (a :: b :: rs.map (Rw.ch E))[t + 2]? = some (Chunk.own E 1 r.A r.c r.xs.length (r.xs.map iv)) := by
  show (rs.map (Rw.ch E))[t]? = _
  rw [List.getElem?_map, h]; rfl
theorem rows_set {E t c' : Nat} {A' : Option Addr} {rs rs' : List Rw} {ys : List Int} (a b : Chunk) (h : rs' = rs.set t ⟨A', c', ys⟩) {n : Nat} (hn : n = ys.length) :
    (a :: b :: rs.map (Rw.ch E)).set (t + 2) (Chunk.own E 1 A' c' n (ys.map iv)) = a :: b :: rs'.map (Rw.ch E) := by
  subst h; subst hn
  show a :: b :: (rs.map (Rw.ch E)).set t _ = _
  rw [List.map_set]; rfl
theorem rows_vals {t c' : Nat} {A' : Option Addr} {rs rs' : List Rw} {ys : List Int} (h : rs' = rs.set t ⟨A', c', ys⟩) {n : Nat} (hn : n = ys.length) :
    (rs.map Rw.val).set (0 + t * 1) (.slice A' n c') = rs'.map Rw.val := by
  subst h; subst hn
  rw [List.map_set, Nat.zero_add, Nat.mul_one]; rfl
theorem RdL_rows {H : Hp} : ∀ (rs : List Rw), (∀ r ∈ rs, RdS H r.A r.xs ∧ r.xs.length ≤ r.c) → RdL H (rs.map Rw.val) (rs.map Rw.xs)
  | [], _ => rfl
  | r :: rs, h => ⟨[r.val], rs.map Rw.val, rfl, ⟨r.A, r.c, rfl, (h r (.head _)).2, (h r (.head _)).1⟩, RdL_rows rs fun q hq => h q (.tail _ hq)⟩
/-- A slice against nil. -/
theorem RunY.eqNil (hT : TabOK P T) {t e : Nat} {x y : Operand} {A : Option Addr} {n c : Nat} {tb : TypeId} {r : TRow} (hx : evk F x = some (.slice A n c)) (hy : evk F y = some (.slice none 0 0)) (hr : trow T t = some r) (hk : r.kind = .slice e) :
    RunY P fn w0 H0 X F H L ⟨dst, .binOp .eql t x y tb, ty, pos, af, g⟩ (.bool A.isNone) := fun a w ha hs => by
  have hd := (hT.row hr).slice hk
  have hb : (binOp .eql t (.slice A n c) (.slice none 0 0)).run P w = .ok (.bool A.isNone) w := by
    simp only [binOp]
    simp [run_equal_slice_nil w t e A n c hd]
  simp [execOp, ha.eval hx, ha.eval hy, eqGuard, hb]
theorem RunY.neNil (hT : TabOK P T) {t e : Nat} {x y : Operand} {A : Option Addr} {n c : Nat} {tb : TypeId} {r : TRow} (hx : evk F x = some (.slice A n c)) (hy : evk F y = some (.slice none 0 0)) (hr : trow T t = some r) (hk : r.kind = .slice e) :
    RunY P fn w0 H0 X F H L ⟨dst, .binOp .neq t x y tb, ty, pos, af, g⟩ (.bool (!A.isNone)) := fun a w ha hs => by
  have hd := (hT.row hr).slice hk
  have hb := run_neq_slice_nil (P := P) w t e A n c hd
  simp [execOp, ha.eval hx, ha.eval hy, eqGuard, hb]
/-- A row with room, and nothing in it. -/
theorem WpG.makeSlice0 (hT : TabOK P T) {i : Nat} {rest : List Nat} {d t e n : Nat} {x y : Operand} {kd ky : IntKind} {r q : TRow}
    (ho : ops[i]? = some ⟨some d, .makeSlice t x y, ty, pos, af, g⟩) (hw : wantk ops F g = some true) (hn : Nat.blt d fn.ntmps = true) (hx : evk F x = some (.int kd 0)) (hy : evk F y = some (.int ky (n : Int)))
    (hr : trow T t = some r) (hk : r.kind = .slice e) (hq : trow T e = some q) (hqs : (Nat.ble q.size 64 && Nat.ble q.bytes 65536) = true) (hlen : n ≤ 2147483648)
    (h : ∀ b, WpG P fn w0 H0 X (.inRegion ops rest :: k) ((d, .slice (some ⟨b, 0, none⟩) 0 n) :: F) H (Chunk.own e q.size (some ⟨b, 0, none⟩) n 0 [] :: L) R) : WpG P fn w0 H0 X (.inRegion ops (i :: rest) :: k) F H L R := by
  refine WpG.step (Post := fun F' H' L' => ∃ b, F' = (d, .slice (some ⟨b, 0, none⟩) 0 n) :: F ∧ H' = H ∧ L' = Chunk.own e q.size (some ⟨b, 0, none⟩) n 0 [] :: L) ⟨_, ho, hw, fun a w ha hs => ?_⟩ (by rintro _ _ _ ⟨b, rfl, rfl, rfl⟩; exact h b)
  have hd := (hT.row hr).slice hk
  obtain ⟨ii, hi, hs1, hb1, hz1⟩ := (hT.row hq).info
  simp only [Bool.and_eq_true] at hqs
  have hq1 := Nat.le_of_ble_eq_true hqs.1
  have hq2 := Nat.le_of_ble_eq_true hqs.2
  have hb2 : q.bytes * n ≤ 65536 * 2147483648 := Nat.mul_le_mul hq2 hlen
  have hm := run_make (P := P) w t e ii q.zero hd hi hz1 kd ky 0 n (by omega) (by omega) (by rw [hb1]; omega) (by omega)
  simp only [Int.toNat_natCast, hs1] at hm
  refine .value (v := .slice (some ⟨w.heap.size, 0, none⟩) 0 n) (w' := w.alloc (.cells (madeCells q.zero.cells (n * q.size)) e)) ?_
    ⟨_, _, _, ⟨w.heap.size, rfl, rfl, rfl⟩, ha.put (by simpa [Nat.blt_eq] using hn) _, hs.alloc (c := Chunk.own e q.size (some ⟨w.heap.size, 0, none⟩) n 0 []) (.cells (madeCells q.zero.cells (n * q.size)) e) rfl
      ⟨by simp, .inr ⟨w.heap.size, n, (madeCells q.zero.cells (n * q.size)), rfl, Nat.zero_le _, ?_, Nat.zero_le _, ?_, by simp [size_madeCells], ?_⟩⟩⟩
  · simp only [execOp, ha.eval hx, ha.eval hy, Sem.run_bind, hm]
    simp
  · show (w.heap.push _)[w.heap.size]? = _; simp
  · unfold maxLen; omega
  · simp
theorem AllI_of {A : Option Addr} {l : List Int} (h : RdS H A l) : AllI l := by
  rcases h.2 with rfl | ⟨b, o, rfl, hk⟩
  · trivial
  · clear h
    have : ∀ (j : Nat) x, l[j]? = some x → I64 x := fun j x hj => let ⟨_, h1, _⟩ := hk j x hj; h1.2
    clear hk
    induction l with
    | nil => trivial
    | cons x l ih => exact ⟨this 0 x rfl, ih fun j y hj => this (j + 1) y hj⟩
theorem iv_one (l : List Int) : (l.map iv).all (fun u => u.oneCell') = true := by
  rw [List.all_eq_true]
  intro x hx
  obtain ⟨y, _, rfl⟩ := List.mem_map.1 hx
  rfl
theorem Src.ints {H1 : Hp} {A : Option Addr} {l : List Int} (h : RdS H1 A l) (hH : H1.le H) : Src w0 H0 X H L A l.length (l.map iv) := by
  rcases h.2 with rfl | ⟨b, o, rfl, hk⟩
  · exact .inl ⟨rfl, rfl⟩
  · refine .inr ⟨b, o, rfl, fun w hs j u hu => ?_⟩
    rw [List.getElem?_map] at hu
    cases hj : l[j]? with
    | none => rw [hj] at hu; cases hu
    | some x =>
      rw [hj] at hu
      simp only [Option.map_some, Option.some.injEq] at hu
      subst hu
      obtain ⟨cs, h1, h2⟩ := hk j x hj
      have h3 : HCells H1 b (o + j * 1) cs := h2
      rw [h1.1, Nat.mul_one] at h3
      have := (h3.mono hH) 0 (iv x) rfl
      rw [Nat.add_zero] at this
      exact hs.sub.cell this
theorem RdS.nil_of {α : Type} [Rdc α] {A : Option Addr} {l : List α} (h : RdS H A l) (hA : A.isNone = true) : l = [] := by
  rcases h.2 with e | ⟨b, o, e, _⟩
  · exact e
  · rw [e] at hA; cases hA
end
end Go.Proofs.YtdjemlkllbhdlaaGreat

/- Operations that read: the same law where they come one behind the other, and where their order is open. -/
import Derived.Test.YtdjemlkllbhdlaaGreatDraw
namespace Go.Proofs.YtdjemlkllbhdlaaGreat
open Go Go.RowKit

def RunY (P : Program) (fn : Func) (w0 : World) (H0 : Hp) (X : List Nat) (F : Fk) (H : Hp) (L : List Chunk) (o : Oper) (v : Value) : Prop :=
  ∀ (a : Act) (w : World), Agrees fn.ntmps F a → SH w0 H0 X w H L → (execOp a.eval o).run P w = .ok (.value v) w

section
variable {P : Program} {T : List TRow} {fn : Func} {w0 : World} {H0 : Hp} {X : List Nat} {k : List Item} {F : Fk} {H : Hp} {L : List Chunk} {R : Ending → World → Prop} {Hs : Hp} {Ls : List Chunk} {ops : Array Oper} {fuel : Nat} {listed : Array Bool}
variable {dst : Option Nat} {ty : TypeId} {pos : String} {af : Array Edge} {g : Option (Nat × Bool)}

theorem WpG.y {i : Nat} {rest : List Nat} {o : Oper} {d : Nat} {v : Value} (ho : ops[i]? = some o) (hw : wantk ops F o.guard = some true) (hd : o.dst = some d) (hn : Nat.blt d fn.ntmps = true)
    (hr : RunY P fn w0 H0 X F H L o v) (h : WpG P fn w0 H0 X (.inRegion ops rest :: k) ((d, v) :: F) H L R) : WpG P fn w0 H0 X (.inRegion ops (i :: rest) :: k) F H L R := WpG.op ho hw hd hn hr h
theorem WpD.y {i d : Nat} {o : Oper} {v : Value} {listed' : Array Bool} (hchk : (dchk ops listed i && (listed.setIfInBounds i true == listed')) = true) (ho : ops[i]? = some o) (hw : wantk ops F o.guard = some true) (hd : o.dst = some d) (hn : Nat.blt d fn.ntmps = true)
    (h0 : H0.le Hs) (hH : Hs.le H) (hL : Ls.Sublist L) (hr : RunY P fn w0 H0 X F Hs Ls o v)
    (h : WpD P fn w0 H0 X k R Hs Ls ops fuel listed' ((d, v) :: F) H L) : WpD P fn w0 H0 X k R Hs Ls ops (fuel + 1) listed F H L := by
  simp only [Bool.and_eq_true] at hchk
  exact WpD.take hchk.1 ho hw hd hn h0 hH hL hr ((beq_iff_eq.1 hchk.2) ▸ h)
theorem WpD.f {i : Nat} {Post : Fk → Hp → List Chunk → Prop} {listed' : Array Bool} (hchk : ((Region.ready .any ops listed == [i]) && (listed.setIfInBounds i true == listed')) = true) (h0 : H0.le Hs) (hs : OpG P fn w0 H0 X ops i F H L Post)
    (h : ∀ F' H' L', Post F' H' L' → Hs.le H' ∧ Ls.Sublist L' ∧ WpD P fn w0 H0 X k R Hs Ls ops fuel listed' F' H' L') : WpD P fn w0 H0 X k R Hs Ls ops (fuel + 1) listed F H L := by
  simp only [Bool.and_eq_true] at hchk
  exact WpD.force hchk.1 hs h0 ((beq_iff_eq.1 hchk.2) ▸ h)

theorem RunY.loadH (hT : TabOK P T) {t : Nat} {x : Operand} {b off : Nat} {cs : List Value} {v : Value} {r : TRow} {H1 : Hp} (hc : HCells H1 b off cs) (hH : H1.le H) (hx : evk F x = some (.pointer (some ⟨b, off, none⟩)))
    (hr : trow T t = some r) (hl : cs.length = r.size) (hv : mkv r.kind.agg cs = some v) : RunY P fn w0 H0 X F H L ⟨dst, .load t x, ty, pos, af, g⟩ v := fun a w ha hs => by
  have := run_loadVar (P := P) (hT.row hr) (w := w) hl (fun j u hu => hs.sub.cell ((hc.mono hH) j u hu)) hv
  simp [execOp, ha.eval hx, Instr.loadAt, Instr.sureAddr, this]
theorem RunY.loadBox (hT : TabOK P T) {t : Nat} {x : Operand} {b off ci : Nat} {cs : List Value} {U : Nat} {v : Value} {r : TRow} (hx : evk F x = some (.pointer (some ⟨b, off, none⟩)))
    (hr : trow T t = some r) (hL : L[ci]? = some (Chunk.box b cs U)) (hv : partOf r cs off = some v) : RunY P fn w0 H0 X F H L ⟨dst, .load t x, ty, pos, af, g⟩ v := fun a w ha hs => by
  have hb : w.heap[b]? = some (.cells cs.toArray U (0, 0)) := hs.chunk hL
  unfold partOf at hv
  cases hbl : Nat.ble (off + r.size) cs.length with
  | false => rw [hbl] at hv; cases hv
  | true =>
    rw [hbl] at hv
    have hle := Nat.le_of_ble_eq_true hbl
    have := run_loadVar (P := P) (hT.row hr) (w := w) (b := b) (o := off) (cs := (cs.drop off).take r.size) (by simp; omega) (fun j u hu => by
      rw [List.getElem?_take] at hu
      split at hu
      · simp [World.cell?, hb]; simpa using hu
      · cases hu) hv
    simp [execOp, ha.eval hx, Instr.loadAt, Instr.sureAddr, this]
theorem RunY.loadOwn (hT : TabOK P T) {t : Nat} {x : Operand} {b off ci E sz c n : Nat} {xs cs : List Value} {v : Value} {r : TRow} (hx : evk F x = some (.pointer (some ⟨b, off, none⟩)))
    (hr : trow T t = some r) (hL : L[ci]? = some (Chunk.own E sz (some ⟨b, 0, none⟩) c n xs)) (hl : cs.length = r.size) (hv : mkv r.kind.agg cs = some v) (hc : ∀ (j : Nat) u, cs[j]? = some u → xs[off + j]? = some u) :
    RunY P fn w0 H0 X F H L ⟨dst, .load t x, ty, pos, af, g⟩ v := fun a w ha hs => by
  have hb := hs.chunk hL
  have := run_loadVar (P := P) (hT.row hr) (w := w) hl (fun j u hu => ownsRow_cells hb _ u (hc j u hu)) hv
  simp [execOp, ha.eval hx, Instr.loadAt, Instr.sureAddr, this]
theorem RunY.indexAddr (hT : TabOK P T) {t : Nat} {x y : Operand} {b off n c e : Nat} {kd : IntKind} {j : Int} {r q : TRow} (hx : evk F x = some (.slice (some ⟨b, off, none⟩) n c)) (hy : evk F y = some (.int kd j))
    (hr : trow T t = some r) (hk : r.kind = .slice e) (hq : trow T e = some q) (h0 : 0 ≤ j) (h1 : j < n) : RunY P fn w0 H0 X F H L ⟨dst, .indexAddr t x y, ty, pos, af, g⟩ (.pointer (some ⟨b, off + j.toNat * q.size, none⟩)) := fun a w ha hs => by
  have hd := (hT.row hr).slice hk
  have hadd : (⟨b, off, none⟩ : Addr).add (j.toNat * q.size) = ⟨b, off + j.toNat * q.size, none⟩ := by
    unfold Addr.add
    split <;> simp_all
  simp only [execOp, ha.eval hx, ha.eval hy, Instr.indexAt, asIntOf, Sem.run_bind, Sem.run_pure, run_underlying hd, Result.andThen_ok, (hT.row hq).run_size, h0, h1, and_self, if_true, hadd]
  done
/-- An element of an array that lies in memory. -/
theorem RunY.indexArr (hT : TabOK P T) {t : Nat} {x y : Operand} {b off n e : Nat} {kd : IntKind} {j : Int} {r q : TRow} (hx : evk F x = some (.pointer (some ⟨b, off, none⟩))) (hy : evk F y = some (.int kd j))
    (hr : trow T t = some r) (hk : r.kind = .array n e) (hq : trow T e = some q) (h0 : 0 ≤ j) (h1 : j < n) : RunY P fn w0 H0 X F H L ⟨dst, .indexAddr t x y, ty, pos, af, g⟩ (.pointer (some ⟨b, off + j.toNat * q.size, none⟩)) := fun a w ha hs => by
  obtain ⟨d', hd, hdk⟩ := (hT.row hr).under
  rw [hk] at hdk
  cases d' <;> simp only [TK.of, reduceCtorEq] at hdk
  simp only [TK.array.injEq] at hdk
  obtain ⟨rfl, rfl⟩ := hdk
  have hadd : (⟨b, off, none⟩ : Addr).add (j.toNat * q.size) = ⟨b, off + j.toNat * q.size, none⟩ := by
    unfold Addr.add
    split <;> simp_all
  simp [execOp, ha.eval hx, ha.eval hy, Instr.indexAt, asIntOf, run_underlying hd, Instr.sureAddr, (hT.row hq).run_size, h0, h1, hadd]

theorem RunY.shl {x y : Operand} {tx ty' : TypeId} {kk yk : IntKind} {u n : Int} (hx : evk F x = some (.int kk u)) (hy : evk F y = some (.int yk n)) (h0 : 0 ≤ n) :
    RunY P fn w0 H0 X F H L ⟨dst, .binOp .shl tx x y ty', ty, pos, af, g⟩ (.int kk (kk.wrap (u * 2 ^ (min n.toNat kk.bits)))) := fun a w ha _ => by
  simp [execOp, ha.eval hx, ha.eval hy, eqGuard, binOp, Op.shift, show ¬ n < 0 by omega]
theorem RunY.shr {x y : Operand} {tx ty' : TypeId} {kk yk : IntKind} {u n : Int} (hx : evk F x = some (.int kk u)) (hy : evk F y = some (.int yk n)) (h0 : 0 ≤ n) :
    RunY P fn w0 H0 X F H L ⟨dst, .binOp .shr tx x y ty', ty, pos, af, g⟩ (.int kk (u.fdiv (2 ^ (min n.toNat kk.bits)))) := fun a w ha _ => by
  simp [execOp, ha.eval hx, ha.eval hy, eqGuard, binOp, Op.shift, show ¬ n < 0 by omega]
/-- An element of a slice in memory that stays. -/
theorem WpG.indexR {α : Type} [Inhabited α] [Rdc α] (hT : TabOK P T) {i : Nat} {rest : List Nat} {d t : Nat} {x y : Operand} {A : Option Addr} {c e : Nat} {kd : IntKind} {j : Int} {r q : TRow} {xs : List α} {H1 : Hp}
    (ho : ops[i]? = some ⟨some d, .indexAddr t x y, ty, pos, af, g⟩) (hw : wantk ops F g = some true) (hn : Nat.blt d fn.ntmps = true) (hx : evk F x = some (.slice A xs.length c)) (hy : evk F y = some (.int kd j))
    (hr : trow T t = some r) (hk : r.kind = .slice e) (hq : trow T e = some q) (hsz : Rdc.sz α = q.size) (hR : RdS H1 A xs) (h0 : 0 ≤ j) (h1 : j < xs.length)
    (h : ∀ u, u = nth xs j → ∀ b o cs, Rdc.rd H1 cs u → HCells H1 b o cs → WpG P fn w0 H0 X (.inRegion ops rest :: k) ((d, .pointer (some ⟨b, o, none⟩)) :: F) H L R) : WpG P fn w0 H0 X (.inRegion ops (i :: rest) :: k) F H L R := by
  obtain ⟨b, o, rfl, cs, k1, k2⟩ := hR.at_ h0 h1
  refine WpG.y ho hw rfl hn (RunY.indexAddr hT hx hy hr hk hq h0 h1) ?_
  rw [← hsz]
  exact h _ rfl b _ cs k1 k2
theorem WpD.indexR {α : Type} [Inhabited α] [Rdc α] (hT : TabOK P T) {i : Nat} {d t : Nat} {x y : Operand} {A : Option Addr} {c e : Nat} {kd : IntKind} {j : Int} {r q : TRow} {xs : List α} {H1 : Hp} {listed' : Array Bool}
    (hchk : (dchk ops listed i && (listed.setIfInBounds i true == listed')) = true)
    (ho : ops[i]? = some ⟨some d, .indexAddr t x y, ty, pos, af, g⟩) (hw : wantk ops F g = some true) (hn : Nat.blt d fn.ntmps = true) (hx : evk F x = some (.slice A xs.length c)) (hy : evk F y = some (.int kd j))
    (hr : trow T t = some r) (hk : r.kind = .slice e) (hq : trow T e = some q) (hsz : Rdc.sz α = q.size) (h00 : H0.le Hs) (hH : Hs.le H) (hL : Ls.Sublist L) (hR : RdS H1 A xs) (h0 : 0 ≤ j) (h1 : j < xs.length)
    (h : ∀ u, u = nth xs j → ∀ b o cs, Rdc.rd H1 cs u → HCells H1 b o cs → WpD P fn w0 H0 X k R Hs Ls ops fuel listed' ((d, .pointer (some ⟨b, o, none⟩)) :: F) H L) : WpD P fn w0 H0 X k R Hs Ls ops (fuel + 1) listed F H L := by
  obtain ⟨b, o, rfl, cs, k1, k2⟩ := hR.at_ h0 h1
  refine WpD.y hchk ho hw rfl hn h00 hH hL (RunY.indexAddr hT hx hy hr hk hq h0 h1) ?_
  rw [← hsz]
  exact h _ rfl b _ cs k1 k2
/-- A row of the call's own that is not empty lies somewhere. -/
theorem WpG.ownForm {ci E sz : Nat} {A : Option Addr} {c n : Nat} {xs : List Value} (hL : L[ci]? = some (Chunk.own E sz A c n xs)) (hn : 0 < n) (h : ∀ b, A = some ⟨b, 0, none⟩ → WpG P fn w0 H0 X k F H L R) : WpG P fn w0 H0 X k F H L R := fun a w ha hs => by
  have hown : w.ownsRow 0 E sz (.slice A n c) n xs := hs.chunk hL
  rcases hown.2 with ⟨e0, hn0⟩ | ⟨g', cap, cur, e0, _⟩
  · omega
  · simp only [Value.slice.injEq, true_and] at e0
    exact h g' e0.1 a w ha hs
/-- A call that answers a value and leaves memory as it was. -/
theorem OpG.callS {i : Nat} {d : Nat} {gi : FuncId} {f : Operand} {xs : Array Operand} {ts : Array TypeId} {first cap : Array Value} {vs args : List Value} {v : Value}
    (ho : ops[i]? = some ⟨some d, .call ⟨.value f, xs, ts⟩, ty, pos, af, g⟩) (hw : wantk ops F g = some true) (hn : Nat.blt d fn.ntmps = true) (hf : evk F f = some (.func (.func gi) first cap)) (hx : evs F xs.toList = some vs)
    (hargs : first.toList ++ (vs ++ cap.toList) = args) {H1 : Hp} (hH : H1.le H) (hc : CallG P gi args H1 [] fun u _ L' => u = v ∧ L' = []) :
    OpG P fn w0 H0 X ops i F H L fun F' H' L' => F' = (d, v) :: F ∧ H' = H ∧ L' = L := ⟨_, ho, hw, fun a w ha hs => by
  have hp : Pre w H1 [] := ⟨fun b o hb => hs.sub b o (hH b o hb), by simp, by simp [blks], by simp [blks]⟩
  refine .call (hargs ▸ run_callValue hc.1 (ha.eval hf) (ha.evs hx) w) (fun u w' => u = v ∧ Chg [] w w') ((hc.2 w hp).mono ?_) ?_
  · rintro e w' ⟨u, H', L', rfl, h1, rfl, rfl⟩
    exact ⟨_, rfl, rfl, h1.chg⟩
  · rintro _ w' ⟨rfl, h1⟩
    refine ⟨_, _, _, ⟨rfl, rfl, rfl⟩, ha.put (by simpa [Nat.blt_eq] using hn) _, ?_⟩
    refine SH.frame (Lc := []) (Lc' := []) (H := H) hs ⟨h1, fun b o hb => ?_, Hp.le.refl _, fun b h => .inl h, by simp, by simp [blks], by simp [blks]⟩
    have := hs.sub b o hb
    rw [h1.block b (lt_of_get this) (by simp)]
    exact this⟩
theorem WpG.callS {i : Nat} {rest : List Nat} {d : Nat} {gi : FuncId} {f : Operand} {xs : Array Operand} {ts : Array TypeId} {first cap : Array Value} {vs args : List Value} {v : Value}
    (ho : ops[i]? = some ⟨some d, .call ⟨.value f, xs, ts⟩, ty, pos, af, g⟩) (hw : wantk ops F g = some true) (hn : Nat.blt d fn.ntmps = true) (hf : evk F f = some (.func (.func gi) first cap)) (hx : evs F xs.toList = some vs)
    (hargs : first.toList ++ (vs ++ cap.toList) = args) {H1 : Hp} (hH : H1.le H) (hc : CallG P gi args H1 [] fun u _ L' => u = v ∧ L' = [])
    (h : WpG P fn w0 H0 X (.inRegion ops rest :: k) ((d, v) :: F) H L R) : WpG P fn w0 H0 X (.inRegion ops (i :: rest) :: k) F H L R :=
  WpG.step (OpG.callS ho hw hn hf hx hargs hH hc) (by rintro _ _ _ ⟨rfl, rfl, rfl⟩; exact h)
theorem WpD.callS {i : Nat} {d : Nat} {gi : FuncId} {f : Operand} {xs : Array Operand} {ts : Array TypeId} {first cap : Array Value} {vs args : List Value} {v : Value} {listed' : Array Bool}
    (hchk : ((Region.ready .any ops listed == [i]) && (listed.setIfInBounds i true == listed')) = true)
    (ho : ops[i]? = some ⟨some d, .call ⟨.value f, xs, ts⟩, ty, pos, af, g⟩) (hw : wantk ops F g = some true) (hn : Nat.blt d fn.ntmps = true) (hf : evk F f = some (.func (.func gi) first cap)) (hx : evs F xs.toList = some vs)
    (hargs : first.toList ++ (vs ++ cap.toList) = args) {H1 : Hp} (hH1 : H1.le H) (hc : CallG P gi args H1 [] fun u _ L' => u = v ∧ L' = []) (h0 : H0.le Hs) (hH : Hs.le H) (hL : Ls.Sublist L)
    (h : WpD P fn w0 H0 X k R Hs Ls ops fuel listed' ((d, v) :: F) H L) : WpD P fn w0 H0 X k R Hs Ls ops (fuel + 1) listed F H L :=
  WpD.f hchk h0 (OpG.callS ho hw hn hf hx hargs hH1 hc) (by rintro _ _ _ ⟨rfl, rfl, rfl⟩; exact ⟨hH, hL, h⟩)
theorem WpG.caseBn {t : Nat} {b : Bool} (hc : look F t = some (.bool (!b))) (ht : b = false → WpG P fn w0 H0 X k ((t, .bool true) :: F) H L R) (hf : b = true → WpG P fn w0 H0 X k ((t, .bool false) :: F) H L R) : WpG P fn w0 H0 X k F H L R := by
  cases b
  · exact WpG.setV hc rfl (ht rfl)
  · exact WpG.setV hc rfl (hf rfl)
theorem WpD.caseBn {t : Nat} {b : Bool} (hc : look F t = some (.bool (!b))) (ht : b = false → WpD P fn w0 H0 X k R Hs Ls ops fuel listed ((t, .bool true) :: F) H L) (hf : b = true → WpD P fn w0 H0 X k R Hs Ls ops fuel listed ((t, .bool false) :: F) H L) :
    WpD P fn w0 H0 X k R Hs Ls ops fuel listed F H L := by
  cases b
  · exact WpD.setV hc rfl (ht rfl)
  · exact WpD.setV hc rfl (hf rfl)
/-- Less is known of what stays. -/
theorem WpG.lessH {H1 : Hp} (h0 : H0.le H1) (hH : H1.le H) (h : WpG P fn w0 H0 X k F H1 L R) : WpG P fn w0 H0 X k F H L R := fun a w ha hs => h a w ha (hs.less h0 hH (List.Sublist.refl L))
theorem WpD.lessH {H1 : Hp} (h0 : H0.le H1) (hH : H1.le H) (h : WpD P fn w0 H0 X k R Hs Ls ops fuel listed F H1 L) : WpD P fn w0 H0 X k R Hs Ls ops fuel listed F H L := fun a w ha hs => h a w ha (hs.less h0 hH (List.Sublist.refl L))
theorem WpD.freezeOwn {ci E sz : Nat} {A : Option Addr} {c n : Nat} {xs : List Value} (hL : L[ci]? = some (Chunk.own E sz A c n xs))
    (h : ∀ H', H.le H' → ((A = none ∧ n = 0) ∨ ∃ b, A = some ⟨b, 0, none⟩ ∧ HCells H' b 0 xs) → WpD P fn w0 H0 X k R Hs Ls ops fuel listed F H' (L.eraseIdx ci)) : WpD P fn w0 H0 X k R Hs Ls ops fuel listed F H L := fun a w ha hs => by
  have hs' := hs.perm (perm_at hL).symm
  have hown : w.ownsRow 0 E sz (.slice A n c) n xs := hs.chunk hL
  rcases hown.2 with ⟨e0, hn0⟩ | ⟨g', cap, cur, e0, _, hg, hnc, hcm, hcs, htake⟩
  · simp only [Value.slice.injEq] at e0
    exact h H (Hp.le.refl H) (.inl ⟨e0.1, hn0⟩) a w ha (hs.drop (List.eraseIdx_sublist ..))
  · simp only [Value.slice.injEq, true_and] at e0
    obtain ⟨rfl, rfl⟩ := e0
    refine h (fun x => if x = g' then some (.cells cur E (0, 0)) else H x) (Hp.le_freeze hs' (b := g') rfl _) (.inr ⟨g', rfl, fun j u hu => ?_⟩) a w ha (hs'.freeze (b := g') rfl hg)
    simp only [hcell, if_true, Nat.zero_add]
    rw [← htake, List.getElem?_take] at hu
    split at hu
    · simpa using hu
    · cases hu
theorem own_cap {w : World} {E sz : Nat} {A : Option Addr} {c n : Nat} {xs : List Value} (h : (Chunk.own E sz A c n xs).holds w) : n ≤ c := by
  have hown : w.ownsRow 0 E sz (.slice A n c) n xs := h
  rcases hown.2 with ⟨e0, hn0⟩ | ⟨g', cap, cur, e0, _, hg, hnc, _⟩
  · omega
  · simp only [Value.slice.injEq, true_and] at e0
    omega
theorem WpG.ownCap {ci E sz : Nat} {A : Option Addr} {c n : Nat} {xs : List Value} (hL : L[ci]? = some (Chunk.own E sz A c n xs)) (h : n ≤ c → WpG P fn w0 H0 X k F H L R) : WpG P fn w0 H0 X k F H L R := fun a w ha hs => h (own_cap (hs.chunk hL)) a w ha hs
theorem WpD.ownCap {ci E sz : Nat} {A : Option Addr} {c n : Nat} {xs : List Value} (hL : L[ci]? = some (Chunk.own E sz A c n xs)) (h : n ≤ c → WpD P fn w0 H0 X k R Hs Ls ops fuel listed F H L) : WpD P fn w0 H0 X k R Hs Ls ops fuel listed F H L := fun a w ha hs => h (own_cap (hs.chunk hL)) a w ha hs
theorem WpD.setL {L' : List Chunk} (e : L = L') (h : WpD P fn w0 H0 X k R Hs Ls ops fuel listed F H L') : WpD P fn w0 H0 X k R Hs Ls ops fuel listed F H L := e ▸ h
theorem WpG.setL {L' : List Chunk} (e : L = L') (h : WpG P fn w0 H0 X k F H L' R) : WpG P fn w0 H0 X k F H L R := e ▸ h
end
theorem wr {x : Int} (h0 : -9223372036854775808 ≤ x) (h1 : x ≤ 9223372036854775807) : IntKind.i64.wrap x = x := I64.wrap ⟨h0, h1⟩
end Go.Proofs.YtdjemlkllbhdlaaGreat

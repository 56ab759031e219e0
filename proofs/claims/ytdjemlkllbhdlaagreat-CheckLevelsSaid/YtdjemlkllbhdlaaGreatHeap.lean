/- What is known of memory: blocks that stay as they are, and pieces that are the call's own; a walk over them; a call by its contract. -/
import Derived.Test.YtdjemlkllbhdlaaGreatCore
namespace Go.Proofs.YtdjemlkllbhdlaaGreat
open Go Go.RowKit

/-! ### Memory that stays -/
abbrev Hp := Nat → Option Obj
def Hp.le (H H' : Hp) : Prop := ∀ b o, H b = some o → H' b = some o
theorem Hp.le.refl (H : Hp) : H.le H := fun _ _ h => h
theorem Hp.le.trans {A B C : Hp} (h : A.le B) (k : B.le C) : A.le C := fun b o e => k b o (h b o e)
def Sub (H : Hp) (w : World) : Prop := ∀ b o, H b = some o → w.heap[b]? = some o
def hcell (H : Hp) (b off : Nat) : Option Value :=
  match H b with
  | some (.cells c _ _) => c[off]?
  | _ => none
theorem hcell.mono {H H' : Hp} (h : H.le H') {b off : Nat} {v : Value} (hc : hcell H b off = some v) : hcell H' b off = some v := by
  unfold hcell at *
  cases hb : H b with
  | none => rw [hb] at hc; cases hc
  | some o => rw [hb] at hc; rw [h b o hb]; exact hc
theorem Sub.cell {H : Hp} {w : World} (h : Sub H w) {b off : Nat} {v : Value} (hc : hcell H b off = some v) : w.cell? ⟨b, off, none⟩ = some v := by
  unfold hcell at hc
  cases hb : H b with
  | none => rw [hb] at hc; cases hc
  | some o =>
    rw [hb] at hc
    have := h b o hb
    cases o <;> first | cases hc | (simp [World.cell?, this]; exact hc)

/-! ### Pieces -/
structure Chunk where
  blk : Option Nat
  holds : World → Prop
  lt : ∀ w, holds w → ∀ b, blk = some b → b < w.heap.size
  loc : ∀ w w', holds w → (∀ b, blk = some b → w'.heap[b]? = w.heap[b]?) → holds w'

theorem lt_of_get {w : World} {b : Nat} {o : Obj} (h : w.heap[b]? = some o) : b < w.heap.size := (Array.getElem?_eq_some_iff.1 h).1

/-- A block that holds just these cells. -/
def Chunk.box (b : Nat) (cs : List Value) (T : TypeId) : Chunk where
  blk := some b
  holds w := w.heap[b]? = some (.cells cs.toArray T (0, 0))
  lt w h b' e := by cases e; exact lt_of_get h
  loc w w' h k := (k b rfl).trans h

/-- A row of the call's own: a slice's value, how long it is, and its cells. -/
def Chunk.own (E sz : Nat) (A : Option Addr) (c n : Nat) (xs : List Value) : Chunk where
  blk := (Value.slice A n c).ownBlock
  holds w := w.ownsRow 0 E sz (.slice A n c) n xs
  lt w h b e := (h.lt b e).2
  loc w w' h k := by
    refine ⟨h.1, ?_⟩
    rcases h.2 with hn | ⟨g, cap, cur, e, hb, hg, rest⟩
    · exact .inl hn
    · exact .inr ⟨g, cap, cur, e, hb, (k g (by rw [e]; rfl)).trans hg, rest⟩

/-- Of the world w0 only these blocks may have turned. -/
structure Chg (X : List Nat) (w0 w : World) : Prop where
  os : w.os = w0.os
  tape : w.tape = w0.tape
  output : w.output = w0.output
  size : w0.heap.size ≤ w.heap.size
  block : ∀ b, b < w0.heap.size → b ∉ X → w.heap[b]? = w0.heap[b]?
theorem Chg.refl (X : List Nat) (w : World) : Chg X w w := ⟨rfl, rfl, rfl, Nat.le_refl _, fun _ _ _ => rfl⟩
theorem Chg.trans {X Y : List Nat} {a b c : World} (h : Chg X a b) (k : Chg Y b c) (hY : ∀ y ∈ Y, y ∈ X ∨ a.heap.size ≤ y) : Chg X a c :=
  ⟨k.os.trans h.os, k.tape.trans h.tape, k.output.trans h.output, Nat.le_trans h.size k.size, fun i hi hx =>
    (k.block i (Nat.lt_of_lt_of_le hi h.size) (fun hy => by rcases hY i hy with h1 | h1; exact hx h1; omega)).trans (h.block i hi hx)⟩
theorem Chg.below {w0 w : World} (h : Chg [] w0 w) : Below w0.heap.size w0 w := ⟨h.os, h.tape, h.output, h.size, fun k hk => h.block k hk (by simp)⟩

abbrev blks (L : List Chunk) : List Nat := L.filterMap Chunk.blk
theorem mem_blks {L : List Chunk} {c : Chunk} {b : Nat} (hc : c ∈ L) (hb : c.blk = some b) : b ∈ blks L := List.mem_filterMap.2 ⟨c, hc, hb⟩

/-- What a walk knows of memory: it began in the world w0, with H0 and the blocks X; now H stays, and L are its own. -/
structure SH (w0 : World) (H0 : Hp) (X : List Nat) (w : World) (H : Hp) (L : List Chunk) : Prop where
  chg : Chg X w0 w
  sub : Sub H w
  le : H0.le H
  fresh : ∀ b, H b ≠ none → H0 b ≠ none ∨ w0.heap.size ≤ b ∨ b ∈ X
  holds : ∀ c ∈ L, c.holds w
  own : ∀ b ∈ blks L, (b ∈ X ∨ w0.heap.size ≤ b) ∧ H b = none
  nodup : (blks L).Nodup

theorem SH.chunk {w0 : World} {H0 : Hp} {X : List Nat} {w : World} {H : Hp} {L : List Chunk} (h : SH w0 H0 X w H L) {i : Nat} {c : Chunk} (hi : L[i]? = some c) : c.holds w :=
  h.holds c (List.mem_of_getElem? hi)
theorem SH.start {w0 : World} {H0 : Hp} {L : List Chunk} (hs : Sub H0 w0) (hL : ∀ c ∈ L, c.holds w0) (hd : ∀ b ∈ blks L, H0 b = none) (hn : (blks L).Nodup) : SH w0 H0 (blks L) w0 H0 L :=
  ⟨Chg.refl _ _, hs, Hp.le.refl _, fun _ h => .inl h, hL, fun b hb => ⟨.inl hb, hd b hb⟩, hn⟩
/-- Pieces may be forgotten. -/
theorem SH.drop {w0 : World} {H0 : Hp} {X : List Nat} {w : World} {H : Hp} {L L' : List Chunk} (h : SH w0 H0 X w H L) (hL : L'.Sublist L) : SH w0 H0 X w H L' :=
  ⟨h.chg, h.sub, h.le, h.fresh, fun c hc => h.holds c (hL.subset hc), fun b hb => h.own b ((hL.filterMap _).subset hb), h.nodup.sublist (hL.filterMap _)⟩
theorem SH.perm {w0 : World} {H0 : Hp} {X : List Nat} {w : World} {H : Hp} {L L' : List Chunk} (h : SH w0 H0 X w H L) (hL : L'.Perm L) : SH w0 H0 X w H L' :=
  ⟨h.chg, h.sub, h.le, h.fresh, fun c hc => h.holds c (hL.mem_iff.1 hc), fun b hb => h.own b ((hL.filterMap _).mem_iff.1 hb), (hL.filterMap _).nodup_iff.2 h.nodup⟩

/-- What a call needs of memory. -/
structure Pre (w : World) (H : Hp) (L : List Chunk) : Prop where
  sub : Sub H w
  holds : ∀ c ∈ L, c.holds w
  off : ∀ b ∈ blks L, H b = none
  nodup : (blks L).Nodup
theorem Pre.sh {w : World} {H : Hp} {L : List Chunk} (h : Pre w H L) : SH w H (blks L) w H L := SH.start h.sub h.holds h.off h.nodup
theorem SH.pre {w0 : World} {H0 : Hp} {X : List Nat} {w : World} {H : Hp} {L L' : List Chunk} (h : SH w0 H0 X w H L) (hL : L'.Sublist L) : Pre w H L' :=
  let k := h.drop hL
  ⟨k.sub, k.holds, fun b hb => (k.own b hb).2, k.nodup⟩

/-- The frame: what the call was not handed stays. -/
theorem SH.frame {w0 w w' : World} {H0 H H' : Hp} {X : List Nat} {Lc Lf Lc' : List Chunk} (h : SH w0 H0 X w H (Lc ++ Lf)) (k : SH w H (blks Lc) w' H' Lc') :
    SH w0 H0 X w' H' (Lc' ++ Lf) := by
  have hX : ∀ y ∈ blks Lc, y ∈ X ∨ w0.heap.size ≤ y := fun y hy => (h.own y (by rw [blks, List.filterMap_append]; exact List.mem_append_left _ hy)).1
  have hlt : ∀ c ∈ Lf, ∀ b, c.blk = some b → b < w.heap.size := fun c hc b hb => c.lt w (h.holds c (List.mem_append_right _ hc)) b hb
  have hnd : (blks Lc ++ blks Lf).Nodup := by have := h.nodup; rwa [blks, List.filterMap_append] at this
  have hdis : ∀ c ∈ Lf, ∀ b, c.blk = some b → b ∉ blks Lc := fun c hc b hb hb' => (List.nodup_append.1 hnd).2.2 b hb' b (mem_blks hc hb) rfl
  have hkeep : ∀ c ∈ Lf, ∀ b, c.blk = some b → w'.heap[b]? = w.heap[b]? := fun c hc b hb => k.chg.block b (hlt c hc b hb) (hdis c hc b hb)
  refine ⟨h.chg.trans k.chg hX, k.sub, h.le.trans k.le, fun b hb => ?_, fun c hc => ?_, fun b hb => ?_, ?_⟩
  · rcases k.fresh b hb with h1 | h1 | h1
    · exact h.fresh b h1
    · exact .inr (.inl (Nat.le_trans h.chg.size h1))
    · rcases hX b h1 with h2 | h2
      · exact .inr (.inr h2)
      · exact .inr (.inl h2)
  · rcases List.mem_append.1 hc with h1 | h1
    · exact k.holds c h1
    · exact c.loc w w' (h.holds c (List.mem_append_right _ h1)) (hkeep c h1)
  · rw [blks, List.filterMap_append, List.mem_append] at hb
    rcases hb with h1 | h1
    · refine ⟨?_, (k.own b h1).2⟩
      rcases (k.own b h1).1 with h2 | h2
      · exact hX b h2
      · exact .inr (Nat.le_trans h.chg.size h2)
    · obtain ⟨c, hc, hcb⟩ := List.mem_filterMap.1 h1
      have ho := h.own b (by rw [blks, List.filterMap_append]; exact List.mem_append_right _ h1)
      refine ⟨ho.1, ?_⟩
      cases hH : H' b with
      | none => rfl
      | some o =>
        exfalso
        rcases k.fresh b (by rw [hH]; simp) with h2 | h2 | h2
        · exact h2 ho.2
        · have := hlt c hc b hcb; omega
        · exact hdis c hc b hcb h2
  · rw [blks, List.filterMap_append, List.nodup_append]
    refine ⟨k.nodup, (List.nodup_append.1 hnd).2.1, fun x hx y hy e => ?_⟩
    subst e
    obtain ⟨c, hc, hcb⟩ := List.mem_filterMap.1 hy
    rcases (k.own x hx).1 with h2 | h2
    · exact hdis c hc x hcb h2
    · have := hlt c hc x hcb; omega

/-- A new block. -/
theorem SH.alloc {w0 w : World} {H0 H : Hp} {X : List Nat} {L : List Chunk} (h : SH w0 H0 X w H L) (o : Obj) {c : Chunk} (hb : c.blk = some w.heap.size) (hc : c.holds (w.alloc o)) :
    SH w0 H0 X (w.alloc o) H (c :: L) := by
  have hkeep : ∀ b, b < w.heap.size → (w.alloc o).heap[b]? = w.heap[b]? := fun b hb => Below.heap_alloc w o b hb
  have hlt : ∀ c ∈ L, ∀ b, c.blk = some b → b < w.heap.size := fun c hc b hb => c.lt w (h.holds c hc) b hb
  have hHlt : ∀ b, H b ≠ none → b < w.heap.size := fun b hb => by
    cases hH : H b with
    | none => exact absurd hH hb
    | some o => exact lt_of_get (h.sub b o hH)
  refine ⟨h.chg.trans (Y := []) ⟨rfl, rfl, rfl, by simp, fun b hb _ => hkeep b hb⟩ (by simp), fun b o' hb => ?_, h.le, h.fresh, fun c' hc' => ?_, fun b hb' => ?_, ?_⟩
  · rw [hkeep b (hHlt b (by rw [hb]; simp))]; exact h.sub b o' hb
  · rcases List.mem_cons.1 hc' with rfl | h1
    · exact hc
    · exact c'.loc w _ (h.holds c' h1) fun b hb => hkeep b (hlt c' h1 b hb)
  · simp only [blks, List.filterMap_cons, hb] at hb'
    rcases List.mem_cons.1 hb' with rfl | h1
    · refine ⟨.inr h.chg.size, ?_⟩
      cases hH : H w.heap.size with
      | none => rfl
      | some o => have := hHlt _ (by rw [hH]; simp); omega
    · exact h.own b h1
  · simp only [blks, List.filterMap_cons, hb]
    refine List.nodup_cons.2 ⟨fun hm => ?_, h.nodup⟩
    obtain ⟨c', hc', hcb⟩ := List.mem_filterMap.1 hm
    have := hlt c' hc' _ hcb
    omega

theorem blks_set_sub {L : List Chunk} {c c' : Chunk} (hc' : c'.blk = c.blk) : ∀ {i : Nat}, L[i]? = some c → blks (L.set i c') = blks L := by
  induction L with
  | nil => intro i h; simp at h
  | cons d L ih =>
    intro i h
    cases i with
    | zero => simp at h; subst h; simp [blks, List.filterMap_cons, hc']
    | succ i => simp at h; simp [blks, List.filterMap_cons]; rw [show List.filterMap Chunk.blk (L.set i c') = List.filterMap Chunk.blk L from ih h]

/-- One piece is written: it is another one then, of the same block. -/
theorem SH.write {w0 w w' : World} {H0 H : Hp} {X : List Nat} {L : List Chunk} (h : SH w0 H0 X w H L) {i : Nat} {c c' : Chunk} (hi : L[i]? = some c) (hbk : c'.blk = c.blk)
    (hchg : Chg (blks [c]) w w') (hc : c'.holds w') : SH w0 H0 X w' H (L.set i c') := by
  have hmem : c ∈ L := List.mem_of_getElem? hi
  have hsub : ∀ y ∈ blks [c], y ∈ blks L := fun y hy => by
    obtain ⟨d, hd, hdb⟩ := List.mem_filterMap.1 hy
    simp at hd; subst hd
    exact mem_blks hmem hdb
  have hbl := blks_set_sub (L := L) hbk hi
  have hothers : ∀ (L : List Chunk) (i : Nat), L[i]? = some c → (blks L).Nodup → ∀ d ∈ L.set i c', d = c' ∨ (d ∈ L ∧ ∀ b, d.blk = some b → c.blk ≠ some b) := by
    intro L
    induction L with
    | nil => intro i h; simp at h
    | cons e L ih =>
      intro i h hn d hd
      cases i with
      | zero =>
        simp at h; subst h
        simp at hd
        rcases hd with rfl | hd
        · exact .inl rfl
        · refine .inr ⟨.tail _ hd, fun b hdb hcb => ?_⟩
          simp only [blks, List.filterMap_cons, hcb] at hn
          exact (List.nodup_cons.1 hn).1 (mem_blks hd hdb)
      | succ i =>
        simp at h
        simp at hd
        rcases hd with rfl | hd
        · refine .inr ⟨.head _, fun b hdb hcb => ?_⟩
          simp only [blks, List.filterMap_cons, hdb] at hn
          exact (List.nodup_cons.1 hn).1 (mem_blks (List.mem_of_getElem? h) hcb)
        · have hn' : (blks L).Nodup := by
            refine hn.sublist ?_
            exact (List.sublist_cons_self e L).filterMap _
          rcases ih i h hn' d hd with h1 | ⟨h1, h2⟩
          · exact .inl h1
          · exact .inr ⟨.tail _ h1, h2⟩
  refine ⟨h.chg.trans hchg fun y hy => (h.own y (hsub y hy)).1, fun b o hb' => ?_, h.le, h.fresh, fun d hd => ?_, by rw [hbl]; exact h.own, by rw [hbl]; exact h.nodup⟩
  · have hs := h.sub b o hb'
    rw [hchg.block b (lt_of_get hs) fun hm => by have := (h.own b (hsub b hm)).2; rw [hb'] at this; cases this]
    exact hs
  · rcases hothers L i hi h.nodup d hd with rfl | ⟨h1, h2⟩
    · exact hc
    · refine d.loc w w' (h.holds d h1) fun b hb => hchg.block b (d.lt w (h.holds d h1) b hb) fun hm => ?_
      obtain ⟨e, he, heb⟩ := List.mem_filterMap.1 hm
      simp at he; subst he
      exact h2 b hb heb

/-- A piece stays for good. -/
theorem SH.freeze {w0 w : World} {H0 H : Hp} {X : List Nat} {c : Chunk} {L : List Chunk} (h : SH w0 H0 X w H (c :: L)) {b : Nat} (hb : c.blk = some b) {o : Obj} (ho : w.heap[b]? = some o) :
    SH w0 H0 X w (fun x => if x = b then some o else H x) L := by
  have hbm : b ∈ blks (c :: L) := mem_blks (.head _) hb
  have hne : ∀ b' ∈ blks L, b' ≠ b := fun b' hb' e => by
    have hn := h.nodup
    simp only [blks, List.filterMap_cons, hb] at hn
    exact (List.nodup_cons.1 hn).1 (e ▸ hb')
  refine ⟨h.chg, fun x o' hx => ?_, fun x o' hx => ?_, fun x hx => ?_, fun d hd => h.holds d (.tail _ hd), fun b' hb' => ?_, ?_⟩
  · by_cases e : x = b
    · subst e; simp at hx; rw [ho, hx]
    · simp [e] at hx; exact h.sub x o' hx
  · have hx' := h.le x o' hx
    by_cases e : x = b
    · subst e; rw [(h.own x hbm).2] at hx'; cases hx'
    · simpa [e] using hx'
  · by_cases e : x = b
    · subst e; rcases (h.own x hbm).1 with h1 | h1; exact .inr (.inr h1); exact .inr (.inl h1)
    · simp [e] at hx; exact h.fresh x hx
  · have := h.own b' (by simp only [blks, List.filterMap_cons, hb]; exact .tail _ hb')
    refine ⟨this.1, ?_⟩
    simp [hne b' hb', this.2]
  · have hn := h.nodup
    simp only [blks, List.filterMap_cons, hb] at hn
    exact (List.nodup_cons.1 hn).2
theorem Hp.le_freeze {w0 w : World} {H0 H : Hp} {X : List Nat} {c : Chunk} {L : List Chunk} (h : SH w0 H0 X w H (c :: L)) {b : Nat} (hb : c.blk = some b) (o : Obj) : H.le (fun x => if x = b then some o else H x) := by
  intro x o' hx
  by_cases e : x = b
  · subst e; rw [(h.own x (mem_blks (.head _) hb)).2] at hx; cases hx
  · simpa [e] using hx

/-! ### A walk over what is known -/
def WpG (P : Program) (fn : Func) (w0 : World) (H0 : Hp) (X : List Nat) (k : List Item) (F : Fk) (H : Hp) (L : List Chunk) (R : Ending → World → Prop) : Prop :=
  ∀ a w, Agrees fn.ntmps F a → SH w0 H0 X w H L → WpS P fn k a w R

/-- What a contract says of a call's end. -/
def Ret (w0 : World) (H0 : Hp) (X : List Nat) (post : Value → Hp → List Chunk → Prop) (e : Ending) (w' : World) : Prop :=
  ∃ v H' L', e = .returned v ∧ SH w0 H0 X w' H' L' ∧ post v H' L'

def fk0 : Nat → List Value → Fk
  | _, [] => []
  | i, v :: l => (i, v) :: fk0 (i + 1) l

/-- A Go function of the program, with a body. -/
def Callee (P : Program) (g : FuncId) : Prop := ∃ fn, P.funcs[g]? = some fn ∧ (fn.name == "runtime.NumGoroutine") = false ∧ fn.body.isNone = false

/-- A contract. -/
def CallG (P : Program) (g : FuncId) (args : List Value) (H : Hp) (L : List Chunk) (post : Value → Hp → List Chunk → Prop) : Prop :=
  Callee P g ∧ ∀ w, Pre w H L → Calls P g args.toArray w (Ret w H (blks L) post)

theorem CallG.mono {P : Program} {g : FuncId} {args : List Value} {H : Hp} {L : List Chunk} {post post' : Value → Hp → List Chunk → Prop} (h : CallG P g args H L post)
    (hp : ∀ v H' L', H.le H' → post v H' L' → post' v H' L') : CallG P g args H L post' := ⟨h.1, fun w hw =>
  (h.2 w hw).mono fun _ _ ⟨v, H', L', he, hs, hq⟩ => ⟨v, H', L', he, hs, hp v H' L' hs.le hq⟩⟩

section
variable {P : Program} {fn : Func} {w0 : World} {H0 : Hp} {X : List Nat} {k : List Item} {F : Fk} {H : Hp} {L : List Chunk} {R : Ending → World → Prop}

theorem look_fk0 : ∀ (l : List Value) (i t : Nat) (v : Value), look (fk0 i l) t = some v → i ≤ t ∧ l[t - i]? = some v
  | [], _, _, _, h => by cases h
  | u :: l, i, t, v, h => by
    simp only [fk0, look] at h
    by_cases e : i = t
    · subst e; simp at h; subst h; simp
    · rw [beq_no e] at h
      obtain ⟨h1, h2⟩ := look_fk0 l (i + 1) t v h
      refine ⟨by omega, ?_⟩
      rw [show t - i = (t - (i + 1)) + 1 from by omega]
      simpa using h2
theorem CallG.of {g : FuncId} {c : Code} {args : List Value} {post : Value → Hp → List Chunk → Prop} (hf : P.funcs[g]? = some fn) (hb : fn.body = some c) (hnm : (fn.name == "runtime.NumGoroutine") = false) (hn : Nat.ble args.length fn.ntmps = true)
    (h : ∀ w0, WpG P fn w0 H (blks L) [.code c] (fk0 0 args) H L (Ret w0 H (blks L) post)) : CallG P g args H L post := ⟨⟨fn, hf, hnm, by rw [hb]; rfl⟩, fun w hw =>
  WpS.calls hf hb (h w _ w ⟨rfl, by have := Nat.le_of_ble_eq_true hn; simp; omega, fun t v ht => by
    have h1 := (look_fk0 args 0 t v ht).2
    simp only [Nat.sub_zero] at h1
    have hlt : t < args.toArray.size := by simpa using (List.getElem?_eq_some_iff.1 h1).1
    simp only
    rw [Array.getElem?_append_left hlt]
    simpa using h1⟩ hw.sh)⟩

theorem WpG.weaken {G : Fk} (hG : ∀ p ∈ G, look F p.1 = some p.2) (h : WpG P fn w0 H0 X k G H L R) : WpG P fn w0 H0 X k F H L R := fun a w ha hs => h a w (ha.weaken hG) hs
theorem WpG.dropL {L' : List Chunk} (hL : L'.Sublist L) (h : WpG P fn w0 H0 X k F H L' R) : WpG P fn w0 H0 X k F H L R := fun a w ha hs => h a w ha (hs.drop hL)
theorem WpG.permL {L' : List Chunk} (hL : L'.Perm L) (h : WpG P fn w0 H0 X k F H L' R) : WpG P fn w0 H0 X k F H L R := fun a w ha hs => h a w ha (hs.perm hL)
end
end Go.Proofs.YtdjemlkllbhdlaaGreat

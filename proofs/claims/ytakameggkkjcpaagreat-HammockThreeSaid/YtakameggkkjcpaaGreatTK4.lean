/- Of a hammock of three blocks, either way round, the hammock, its cost and its merging are found, and behind a phi or a further way out none is: 'HammockThree' answers true at every input. No conditions. -/
import Derived.Test.YtakameggkkjcpaaGreatTK3
import Derived.Laws.StructEq
import Derived.Test.YtakameggkkjcpaaGreatRows
set_option linter.unusedVariables false
set_option linter.unusedSimpArgs false
namespace Go.Proofs.YtakameggkkjcpaaGreat
open Go Go.RowKit
theorem nodup_le13 : ∀ (l m : List Nat), l.Nodup → (∀ x ∈ l, x ∈ m) → l.length ≤ m.length
  | [], _, _, _ => Nat.zero_le _
  | a :: l, m, h, hs => by
    have hn := List.nodup_cons.1 h
    have ha := hs a (.head _)
    have := nodup_le13 l (m.erase a) hn.2 (fun x hx => (List.mem_erase_of_ne (by rintro rfl; exact hn.1 hx)).2 (hs x (.tail _ hx)))
    have hl := List.length_erase_of_mem ha
    have hp : 0 < m.length := List.length_pos_of_mem ha
    simp only [List.length_cons]; omega
def CheckIs (f : FuncD) (lv e : Int) : Prop := if lv < 0 ∨ lv > 2 then e = 1 else CodeIs f lv e
theorem check_out {f : FuncD} {lv : Int} (h : lv < 0 ∨ lv > 2) : CheckIs f lv 1 := by unfold CheckIs; rw [if_pos h]
theorem check_in {f : FuncD} {lv e : Int} (h0 : ¬ lv < 0) (h1 : ¬ lv > 2) (h : CodeIs f lv e) : CheckIs f lv e := by unfold CheckIs; rw [if_neg (by omega)]; exact h
def keysOf {α : Type} (ms : List (Int × α)) : List Int := ms.map (·.1)
theorem mput_keys {α : Type} : ∀ (ms : List (Int × α)) (k : Int) (v : α), (keysOf ms).Nodup → (keysOf (mput ms k v)).Nodup ∧ ∀ q, q ∈ keysOf (mput ms k v) ↔ q = k ∨ q ∈ keysOf ms
  | [], k, v, _ => by simp [mput, keysOf]
  | (a, x) :: l, k, v, h => by
    simp only [keysOf, List.map_cons, List.nodup_cons] at h
    by_cases e : a = k
    · subst e
      simp only [mput, if_true, keysOf, List.map_cons, List.nodup_cons, List.mem_cons]
      exact ⟨h, fun q => by constructor <;> intro hq <;> simp_all⟩
    · obtain ⟨h1, h2⟩ := mput_keys l k v h.2
      simp only [mput, if_neg e, keysOf, List.map_cons, List.nodup_cons, List.mem_cons]
      refine ⟨⟨fun hm => ?_, h1⟩, fun q => ?_⟩
      · rcases (h2 a).1 hm with h3 | h3
        · exact e h3
        · exact h.1 h3
      · have := h2 q
        simp only [keysOf] at this
        rw [this]
        constructor <;> intro hq <;> rcases hq with hq | hq | hq <;> simp [hq]
theorem mget_mput {α : Type} : ∀ (ms : List (Int × α)) (k v : Int) (d : α), mget (mput ms k d) v = if v = k then some d else mget ms v
  | [], k, v, d => by
    by_cases e : v = k
    · subst e; simp [mput, mget]
    · simp [mput, mget, Ne.symm e, e]
  | (a, x) :: l, k, v, d => by
    by_cases e1 : a = k
    · subst e1
      by_cases e : v = a
      · subst e; simp [mput, mget]
      · simp [mput, mget, Ne.symm e, e]
    · by_cases e : v = a
      · subst e; simp [mput, mget, e1]
      · simp [mput, mget, e1, Ne.symm e, mget_mput l k v d]
theorem mget_none {α : Type} : ∀ {ms : List (Int × α)} {k : Int}, mget ms k = none ↔ k ∉ keysOf ms
  | [], k => by simp [mget, keysOf]
  | (a, x) :: l, k => by
    by_cases e : a = k
    · subst e; simp [mget, keysOf]
    · have := mget_none (ms := l) (k := k)
      simp only [keysOf] at this
      simp [mget, e, keysOf, this, Ne.symm e]
theorem mput_new {α : Type} {ms : List (Int × α)} {k : Int} (v : α) (h : k ∉ keysOf ms) : (mput ms k v).length = ms.length + 1 := by
  rcases mput_len k v ms with h1 | h1
  · rw [h1]; simp
  · exfalso
    have : ∀ ms : List (Int × α), k ∉ keysOf ms → mput ms k v = ms ++ [(k, v)] := by
      intro ms
      induction ms with
      | nil => intro _; rfl
      | cons a l ih =>
        intro h
        obtain ⟨a, x⟩ := a
        simp only [keysOf, List.map_cons, List.mem_cons, not_or] at h
        simp only [mput, if_neg (Ne.symm h.1), List.cons_append, ih h.2]
    rw [this ms h] at h1
    simp at h1
theorem mget_at {α : Type} : ∀ {ms : List (Int × α)} {j : Nat} {k : Int} {d : α}, (keysOf ms).Nodup → ms[j]? = some (k, d) → mget ms k = some d
  | [], _, _, _, _, h => by simp at h
  | (a, x) :: l, 0, k, d, _, h => by simp at h; obtain ⟨rfl, rfl⟩ := h; simp [mget]
  | (a, x) :: l, j + 1, k, d, hn, h => by
    simp only [keysOf, List.map_cons, List.nodup_cons] at hn
    have h' : l[j]? = some (k, d) := by simpa using h
    have hne : a ≠ k := fun e => hn.1 (e ▸ List.mem_map.2 ⟨(k, d), List.mem_of_getElem? h', rfl⟩)
    simp only [mget, if_neg hne]
    exact mget_at hn.2 h'
def Seen (ms : List (Int × DefD)) (seen : List Nat) (ss : List (Int × (Int × Int))) : Prop :=
  seen.Nodup ∧ (∀ j ∈ seen, j < ms.length) ∧ ss.length = seen.length ∧ (keysOf ss).Nodup ∧ (∀ k, k ∈ keysOf ss ↔ ∃ j ∈ seen, ∃ d, ms[j]? = some (k, d)) ∧ ∀ j ∈ seen, ∀ k d, ms[j]? = some (k, d) → mget ss k = some (d.bits, d.lanes)
theorem Seen.start (ms : List (Int × DefD)) : Seen ms [] [] := ⟨List.nodup_nil, by simp, rfl, List.nodup_nil, by simp [keysOf], by simp⟩
theorem at_inj {ms : List (Int × DefD)} (hn : (keysOf ms).Nodup) {i j : Nat} {k : Int} {d d' : DefD} (h : ms[i]? = some (k, d)) (h' : ms[j]? = some (k, d')) : i = j := by
  have h1 : (keysOf ms)[i]? = some k := by simp [keysOf, h]
  have h2 : (keysOf ms)[j]? = some k := by simp [keysOf, h']
  obtain ⟨hi, e1⟩ := List.getElem?_eq_some_iff.1 h1
  obtain ⟨hj, e2⟩ := List.getElem?_eq_some_iff.1 h2
  exact (List.getElem_inj hn).1 (e1.trans e2.symm)
theorem Seen.step {ms : List (Int × DefD)} {seen : List Nat} {ss : List (Int × (Int × Int))} (h : Seen ms seen ss) (hn : (keysOf ms).Nodup) {j : Nat} {k : Int} {d : DefD} (hj : ms[j]? = some (k, d)) (hns : j ∉ seen) : Seen ms (seen ++ [j]) (mput ss k (d.bits, d.lanes)) := by
  obtain ⟨a1, a2, a3, a4, a5, a6⟩ := h
  have hk : k ∉ keysOf ss := fun hm => by
    obtain ⟨i, hi, d', hd'⟩ := (a5 k).1 hm
    exact hns (at_inj hn hj hd' ▸ hi)
  obtain ⟨b1, b2⟩ := mput_keys ss k (d.bits, d.lanes) a4
  refine ⟨List.nodup_append.2 ⟨a1, by simp, fun x hx y hy e => ?_⟩, fun i hi => ?_, ?_, b1, fun q => ?_, fun i hi q d' hq => ?_⟩
  · simp at hy; subst hy; subst e; exact hns hx
  · rcases List.mem_append.1 hi with hi | hi
    · exact a2 i hi
    · simp at hi; subst hi; exact (List.getElem?_eq_some_iff.1 hj).1
  · rw [mput_new _ hk, a3]; simp
  · rw [b2 q, a5 q]
    constructor
    · rintro (rfl | ⟨i, hi, d', hd'⟩)
      · exact ⟨j, by simp, d, hj⟩
      · exact ⟨i, List.mem_append_left _ hi, d', hd'⟩
    · rintro ⟨i, hi, d', hd'⟩
      rcases List.mem_append.1 hi with hi | hi
      · exact .inr ⟨i, hi, d', hd'⟩
      · simp at hi; subst hi
        rw [hj] at hd'
        simp only [Option.some.injEq, Prod.mk.injEq] at hd'
        exact .inl hd'.1.symm
  · rw [mget_mput]
    rcases List.mem_append.1 hi with hi | hi
    · by_cases e : q = k
      · subst e; exact absurd (at_inj hn hj hq ▸ hi) hns
      · rw [if_neg e]; exact a6 i hi q d' hq
    · simp at hi; subst hi
      rw [hj] at hq
      simp only [Option.some.injEq, Prod.mk.injEq] at hq
      obtain ⟨rfl, rfl⟩ := hq
      rw [if_pos rfl]
theorem Seen.lt {ms : List (Int × DefD)} {seen : List Nat} {ss : List (Int × (Int × Int))} (h : Seen ms seen ss) : seen.length ≤ ms.length := by
  have h1 := h.1
  have h2 := h.2.1
  have := nodup_le13 seen (List.range ms.length) h1 fun j hj => List.mem_range.2 (h2 j hj)
  simpa using this
def ShapeMap (ms : List (Int × DefD)) (ss : List (Int × (Int × Int))) : Prop := ss.length = ms.length ∧ ∀ k, mget ss k = (mget ms k).map fun d => (d.bits, d.lanes)
theorem Seen.all {ms : List (Int × DefD)} {seen : List Nat} {ss : List (Int × (Int × Int))} (h : Seen ms seen ss) (hn : (keysOf ms).Nodup) (ha : ∀ j, j < (encm dv ms).length → j ∈ seen) : ShapeMap ms ss := by
  rw [encm_len] at ha
  obtain ⟨a1, a2, a3, a4, a5, a6⟩ := h
  have hle : ms.length ≤ seen.length := by
    have := nodup_le13 (List.range ms.length) seen List.nodup_range fun j hj => ha j (List.mem_range.1 hj)
    simpa using this
  have hge := Seen.lt ⟨a1, a2, a3, a4, a5, a6⟩
  refine ⟨by omega, fun k => ?_⟩
  cases hm : mget ms k with
  | none =>
    rw [Option.map_none, mget_none]
    intro hk
    obtain ⟨j, _, d, hd⟩ := (a5 k).1 hk
    have := mget_at hn hd
    rw [hm] at this; cases this
  | some d =>
    have hk : k ∈ keysOf ms := Classical.byContradiction fun hn' => by rw [mget_none.2 hn'] at hm; cases hm
    obtain ⟨p, hp, rfl⟩ := List.mem_map.1 hk
    obtain ⟨j, hj, e⟩ := List.getElem_of_mem hp
    have hat : ms[j]? = some (p.1, p.2) := by rw [List.getElem?_eq_getElem hj, e]
    have := mget_at hn hat
    rw [hm] at this
    cases this
    exact a6 j (ha j hj) _ _ hat
end Go.Proofs.YtakameggkkjcpaaGreat
set_option maxRecDepth 4000
namespace Go.Proofs.YtakameggkkjcpaaGreat
open Go Go.RowKit
theorem Check_calls {H : Hp} {f : FuncD} {A_f_0 A_f_2 : Option Addr} {c_f_0 c_f_2 : Nat} (u_f_0 : f.params.length ≤ c_f_0) (r_f_0 : RdS H A_f_0 f.params) (u_f_2 : f.blocks.length ≤ c_f_2) (r_f_2 : RdS H A_f_2 f.blocks) (k_f_0 : I64 f.ret) (lv : Int) : CallG Tryz.prog 58 [.agg #[.slice A_f_0 f.params.length c_f_0, .int .i64 f.ret, .slice A_f_2 f.blocks.length c_f_2], .int .i64 lv] H [] (fun v H' L' => ∃ e, v = .int .i64 e ∧ CheckIs f lv e ∧ L' = []) := by
 have rd_f' : Rdc.rd H [.slice A_f_0 f.params.length c_f_0, .int .i64 f.ret, .slice A_f_2 f.blocks.length c_f_2] f := ⟨_, _, _, _, rfl, u_f_0, r_f_0, u_f_2, r_f_2, k_f_0⟩
 have bs := r_f_2.1; have bsp := r_f_0.1
 refine CallG.of Tryz.func58 rfl rfl rfl fun w0 => ?_
 refine WpG.g tabOK 2 rfl ?_
 refine WpG.box rfl rfl rfl rfl rfl (fun b1 => ?_)
 refine WpG.g tabOK 8 rfl ?_
 refine WpG.caseD (t := 9) rfl (fun q9 => ?_) (fun q9 => ?_)
 ·refine WpG.g tabOK 9 rfl ?_
  exact WpG.ret tabOK (L' := []) (.tmp rfl .nil) (.cons _ .slnil) ⟨_, rfl, check_out (.inl q9), rfl⟩
 refine WpG.g tabOK 4 rfl ?_
 refine WpG.caseD (t := 12) rfl (fun q12 => ?_) (fun q12 => ?_)
 ·refine WpG.g tabOK 5 rfl ?_
  exact WpG.ret tabOK (L' := []) (.tmp rfl .nil) (.cons _ .slnil) ⟨_, rfl, check_out (.inr q12), rfl⟩
 refine WpG.g tabOK 4 rfl ?_
 refine WpG.y rfl rfl rfl rfl (RunY.loadBox (ci := 0) tabOK rfl rfl rfl rfl) ?_
 refine WpG.g tabOK 1 rfl ?_
 refine WpG.call0 rfl rfl rfl rfl rfl rfl (Look_calls u_f_0 r_f_0 u_f_2 r_f_2 k_f_0 lv) ?_
 rintro _ H2 L1 hH2 ⟨e2, p2, rfl, hce, hL⟩
 refine WpG.dropL (L' := [Chunk.box b1 [.slice A_f_0 f.params.length c_f_0, .int .i64 f.ret, .slice A_f_2 f.blocks.length c_f_2] 25]) (List.sublist_append_right ..) ?_
 refine WpG.g tabOK 11 rfl ?_
 exact WpG.ret tabOK (L' := []) (.tmp rfl .nil) (.cons _ .slnil) ⟨_, rfl, check_in q9 q12 hce, rfl⟩
end Go.Proofs.YtakameggkkjcpaaGreat
namespace Go.Proofs.YtakameggkkjcpaaGreat
open Go Go.RowKit
section
variable {P : Program} {T : List TRow} {fn : Func} {w0 : World} {H0 : Hp} {X : List Nat} {k : List Item} {F : Fk} {H : Hp} {L : List Chunk} {R : Ending → World → Prop} {ops : Array Oper} {ty : TypeId} {pos : String} {af : Array Edge} {g : Option (Nat × Bool)} {dst : Option Nat}
theorem OpG.callM {i : Nat} {d : Nat} {gi : FuncId} {f : Operand} {xs : Array Operand} {ts : Array TypeId} {first cap : Array Value} {vs args : List Value} {post : Value → List Chunk → Prop}
    (ho : ops[i]? = some ⟨some d, .call ⟨.value f, xs, ts⟩, ty, pos, af, g⟩) (hw : wantk ops F g = some true) (hn : Nat.blt d fn.ntmps = true) (hf : evk F f = some (.func (.func gi) first cap)) (hx : evs F xs.toList = some vs)
    (hargs : first.toList ++ (vs ++ cap.toList) = args) (hcal : Callee P gi) (hc : ∀ H1, Frz L H H1 → CallG P gi args H1 [] fun u _ L' => post u L') :
    OpG P fn w0 H0 X ops i F H L fun F' H' L' => ∃ v L1, F' = (d, v) :: F ∧ H' = H ∧ post v L1 ∧ L' = L1 ++ L := ⟨_, ho, hw, fun a w ha hs => by
  let H1 : Hp := fun b => if b ∈ blks L then w.heap[b]? else H b
  have hle : H.le H1 := fun b o hb => by
    show (if b ∈ blks L then w.heap[b]? else H b) = some o
    split
    · rename_i hm; have := (hs.own b hm).2; rw [hb] at this; cases this
    · exact hb
  have hsub : Sub H1 w := fun b o hb => by
    have hb' : (if b ∈ blks L then w.heap[b]? else H b) = some o := hb
    split at hb'
    · exact hb'
    · exact hs.sub b o hb'
  have hfrz : Frz L H H1 := ⟨hle, w, hsub, hs.holds, fun b hb => if_pos hb⟩
  have hp : Pre w H1 [] := ⟨hsub, by simp, by simp [blks], by simp [blks]⟩
  refine .call (hargs ▸ run_callValue hcal (ha.eval hf) (ha.evs hx) w) (fun u w' => ∃ L1, post u L1 ∧ SH w H [] w' H L1) (((hc H1 hfrz).2 w hp).mono ?_) ?_
  · rintro e w' ⟨u, H', L1, rfl, h1, h2⟩
    refine ⟨_, rfl, L1, h2, h1.chg, fun b o hb => h1.sub b o (h1.le b o (hle b o hb)), Hp.le.refl _, fun b h => .inl h, h1.holds, fun b hb => ⟨(h1.own b hb).1, ?_⟩, h1.nodup⟩
    cases hH : H b with
    | none => rfl
    | some o =>
      have := h1.le b o (hle b o hH)
      rw [(h1.own b hb).2] at this; cases this
  · rintro u w' ⟨L1, h2, h1⟩
    exact ⟨_, _, _, ⟨_, _, rfl, rfl, h2, rfl⟩, ha.put (by simpa [Nat.blt_eq] using hn) _, SH.frame (Lc := []) hs h1⟩⟩
theorem WpG.callM {i : Nat} {rest : List Nat} {d : Nat} {gi : FuncId} {f : Operand} {xs : Array Operand} {ts : Array TypeId} {first cap : Array Value} {vs args : List Value} {post : Value → List Chunk → Prop}
    (ho : ops[i]? = some ⟨some d, .call ⟨.value f, xs, ts⟩, ty, pos, af, g⟩) (hw : wantk ops F g = some true) (hn : Nat.blt d fn.ntmps = true) (hf : evk F f = some (.func (.func gi) first cap)) (hx : evs F xs.toList = some vs)
    (hargs : first.toList ++ (vs ++ cap.toList) = args) (hcal : Callee P gi) (hc : ∀ H1, Frz L H H1 → CallG P gi args H1 [] fun u _ L' => post u L')
    (h : ∀ v L1, post v L1 → WpG P fn w0 H0 X (.inRegion ops rest :: k) ((d, v) :: F) H (L1 ++ L) R) : WpG P fn w0 H0 X (.inRegion ops (i :: rest) :: k) F H L R :=
  WpG.step (OpG.callM ho hw hn hf hx hargs hcal hc) (by rintro _ _ _ ⟨v, L1, rfl, rfl, h1, rfl⟩; exact h v L1 h1)
end
theorem sortD_nil : sortD [] = [] := by simp [sortD]
theorem check_at {f : FuncD} {lv e : Int} (h : CheckIs f lv e) (h0 : 0 ≤ lv) (h1 : lv ≤ 2) : CodeIs f lv e := by unfold CheckIs at h; rwa [if_neg (by omega)] at h
end Go.Proofs.YtakameggkkjcpaaGreat
namespace Go.Proofs.YtakameggkkjcpaaGreat
open Go Go.RowKit
section
variable {P : Program} {T : List TRow} {fn : Func} {w0 : World} {H0 : Hp} {X : List Nat} {F : Fk} {H : Hp} {L : List Chunk} {ty : TypeId} {pos : String} {af : Array Edge} {g : Option (Nat × Bool)} {dst : Option Nat}
theorem RowOK.bool {t : Nat} {r : TRow} (h : RowOK P t r) (hk : r.kind = .bool) : P.underlying t = some .bool := by
  obtain ⟨d, hd, e⟩ := h.under
  rw [hk] at e
  cases d <;> simp only [TK.of, reduceCtorEq] at e
  exact hd
end
theorem CodeIs.at_ {f : FuncD} {lv e lv' e' : Int} (h : CodeIs f lv e) (h' : CodeIs f lv' e') : ∃ tl, e = codeOf f lv tl ∧ e' = codeOf f lv' tl := by
  obtain ⟨tl, g, rfl⟩ := h
  exact ⟨tl, rfl, h'.same ⟨tl, g, rfl⟩⟩
end Go.Proofs.YtakameggkkjcpaaGreat
namespace Go.Proofs.YtakameggkkjcpaaGreat
open Go Go.RowKit
section
variable {P : Program} {fn : Func} {w0 : World} {H0 : Hp} {X : List Nat} {F : Fk} {H : Hp} {L : List Chunk} {dst : Option Nat} {ty : TypeId} {pos : String} {af : Array Edge} {g : Option (Nat × Bool)}
theorem RunY.rem {x y : Operand} {tx ty' : TypeId} {kk : IntKind} {u n : Int} (hx : evk F x = some (.int kk u)) (hy : evk F y = some (.int kk n)) (h0 : n ≠ 0) :
    RunY P fn w0 H0 X F H L ⟨dst, .binOp .rem tx x y ty', ty, pos, af, g⟩ (.int kk (u.tmod n)) := fun a w ha _ => by
  simp [execOp, ha.eval hx, ha.eval hy, eqGuard, binOp, Op.intDiv, h0]
end
section
variable {P : Program} {fn : Func} {w0 : World} {H0 : Hp} {X : List Nat} {k k' : List Item} {F : Fk} {H : Hp} {L : List Chunk} {R : Ending → World → Prop}
theorem WpG.weak {G : Fk} (h : WpG P fn w0 H0 X k G H L R) (hk : Known F G) : WpG P fn w0 H0 X k F H L R := WpG.weaken (Known.all hk) h
theorem WpG.join {G : Fk} (h : WpG P fn w0 H0 X k' G H L R → WpG P fn w0 H0 X k F H L R) (n : WpG P fn w0 H0 X k' G H L R) : WpG P fn w0 H0 X k F H L R := h n
end
theorem bq {a b : Bool} (h : a = b) : some (Value.bool a) = some (Value.bool b) := h ▸ rfl
theorem nb {α : Type} [BEq α] [LawfulBEq α] {a b : α} (h : a ≠ b) : (a == b) = false := beq_eq_false_iff_ne.2 h
end Go.Proofs.YtakameggkkjcpaaGreat
namespace Go.Proofs.YtakameggkkjcpaaGreat
open Go Go.RowKit
section
variable {P : Program} {T : List TRow} {fn : Func} {w0 : World} {H0 : Hp} {X : List Nat} {k : List Item} {F : Fk} {H : Hp} {L : List Chunk} {R : Ending → World → Prop} {Hs : Hp} {Ls : List Chunk} {ops : Array Oper} {fuel stop : Nat} {listed listed' : Array Bool}
theorem WpE.f {i : Nat} {Post : Fk → Hp → List Chunk → Prop} (hchk : ((Region.ready .any ops listed == [i]) && (listed.setIfInBounds i true == listed')) = true) (h0 : H0.le Hs) (hs : OpG P fn w0 H0 X ops i F H L Post)
    (h : ∀ F' H' L', Post F' H' L' → Hs.le H' ∧ Ls.Sublist L' ∧ WpE P fn w0 H0 X k R Hs Ls ops stop fuel listed' F' H' L') : WpE P fn w0 H0 X k R Hs Ls ops stop (fuel + 1) listed F H L := fun a w ha hsh => by
  simp only [Bool.and_eq_true] at hchk
  obtain ⟨o, ho, hw, h1⟩ := hs
  have hr : Region.ready .any ops listed = [i] := by simpa using hchk.1
  refine ⟨fun h0 => (by rw [h0] at hr; cases hr), fun j hj => ?_⟩
  rw [hr, List.mem_singleton] at hj
  subst hj
  refine OpS.wpOp ho (wantk_spec ha hw) ?_
  have hK : ∀ a' w', (∃ F' H' L', Post F' H' L' ∧ Agrees fn.ntmps F' a' ∧ SH w0 H0 X w' H' L') → ((listed.setIfInBounds j true).getD stop true = false → SH w0 H0 X w' Hs Ls) ∧ wpAnyP P .any ops (QD P fn k R) (fun w => SH w0 H0 X w Hs Ls) stop fuel (listed.setIfInBounds j true) a' w' := by
    rintro a' w' ⟨F', H', L', hp, ha', hs'⟩
    obtain ⟨k1, k2, k3⟩ := h F' H' L' hp
    refine ⟨fun _ => hs'.less h0 k1 k2, ?_⟩
    rw [beq_iff_eq.1 hchk.2]
    exact k3 a' w' ha' hs'
  cases h1 a w ha hsh with
  | value hr h => exact .value hr (hK _ _ h)
  | skip hr h => exact .skip hr (hK _ _ h)
  | call hr Q hc h => exact .call hr Q hc fun v w'' hq => hK _ _ (h v w'' hq)
theorem WpE.setL {L' : List Chunk} (e : L = L') (h : WpE P fn w0 H0 X k R Hs Ls ops stop fuel listed F H L') : WpE P fn w0 H0 X k R Hs Ls ops stop fuel listed F H L := e ▸ h
end
end Go.Proofs.YtakameggkkjcpaaGreat
namespace Go.Proofs.YtakameggkkjcpaaGreat
open Go Go.RowKit
instance : Rdc Bool where
  sz := 1
  rd _ vs x := vs = [.bool x]
  len h := by rw [h]; rfl
  mono _ h := h
  one h := by rw [h]; rfl
section
variable {S : List (List Int)} {root wo : Int}
def RSound (S : List (List Int)) (root wo : Int) (bs : List Bool) : Prop := bs.length = S.length ∧ nth bs root = true ∧ ∀ x : Int, 0 ≤ x → x < S.length → nth bs x = true → RchN S root wo x
def ROn (S : List (List Int)) (wo : Int) (bs : List Bool) (x : Int) : Prop := ∀ y ∈ nth S x, y ≠ wo → nth bs y = true
def RExact (S : List (List Int)) (root wo : Int) (bs : List Bool) : Prop := bs.length = S.length ∧ ∀ x : Int, 0 ≤ x → x < S.length → (nth bs x = true ↔ RchN S root wo x)
def RSub (a b : List Bool) : Prop := ∀ x : Int, 0 ≤ x → nth a x = true → nth b x = true
theorem rch_range (hR : Rows S) (h0 : 0 ≤ root) (h1 : root < S.length) {x : Int} (h : RchN S root wo x) : 0 ≤ x ∧ x < S.length := by
  induction h with
  | root _ => exact ⟨h0, h1⟩
  | @step p x _ hx _ ih => exact (hR.2 _ (nth_mem ih.1 ih.2)).2 x hx
theorem RSound.exact (hR : Rows S) (h0 : 0 ≤ root) (h1 : root < S.length) {bs : List Bool} (h : RSound S root wo bs) (hc : ∀ x : Int, 0 ≤ x → x < S.length → nth bs x = true → ROn S wo bs x) : RExact S root wo bs := by
  refine ⟨h.1, fun x x0 x1 => ⟨h.2.2 x x0 x1, fun hx => ?_⟩⟩
  clear x0 x1
  induction hx with
  | root _ => exact h.2.1
  | @step p x hp hx hn ih =>
    have := rch_range hR h0 h1 hp
    exact hc p this.1 this.2 ih x hx hn
theorem RSound.set (hR : Rows S) {bs : List Bool} {i y : Int} (h : RSound S root wo bs) (i0 : 0 ≤ i) (i1 : i < S.length) (hb : nth bs i = true) (hy : y ∈ nth S i) (hn : y ≠ wo) : RSound S root wo (bs.set y.toNat true) ∧ RSub bs (bs.set y.toNat true) ∧ nth (bs.set y.toNat true) y = true := by
  obtain ⟨y0, y1⟩ := (hR.2 _ (nth_mem i0 i1)).2 y hy
  have hl := h.1
  have key : ∀ x : Int, 0 ≤ x → nth (bs.set y.toNat true) x = if x = y then true else nth bs x := fun x x0 => nth_setB y0 (by omega) x0
  have hsub : RSub bs (bs.set y.toNat true) := fun x x0 hx => by rw [key x x0]; split <;> first | rfl | exact hx
  refine ⟨⟨by simpa using hl, ?_, fun x x0 x1 hx => ?_⟩, hsub, by rw [key y y0, if_pos rfl]⟩
  · by_cases e : 0 ≤ root
    · exact hsub root e h.2.1
    · have : root.toNat = (0 : Int).toNat := by omega
      have e2 : ∀ (l : List Bool), nth l root = nth l 0 := fun l => by unfold nth; rw [this]
      rw [e2]; exact hsub 0 (by omega) (by rw [← e2]; exact h.2.1)
  · rw [key x x0] at hx
    split at hx
    · rename_i e; subst e
      exact .step (h.2.2 i i0 i1 hb) hy hn
    · exact h.2.2 x x0 x1 hx
theorem ROn.mono {a b : List Bool} (h : RSub a b) (hR : Rows S) {x : Int} (x0 : 0 ≤ x) (x1 : x < S.length) (hx : ROn S wo a x) : ROn S wo b x := fun y hy hn => h y ((hR.2 _ (nth_mem x0 x1)).2 y hy).1 (hx y hy hn)
theorem RExact.sub {a b : List Bool} (ha : RExact S root wo a) (h : RSub a b) (hb : RSound S root wo b) : RExact S root wo b :=
  ⟨hb.1, fun x x0 x1 => ⟨hb.2.2 x x0 x1, fun hx => h x x0 ((ha.2 x x0 x1).2 hx)⟩⟩
end
section
variable {S : List (List Int)} {root wo : Int}
theorem RSound.start (h0 : 0 ≤ root) (h1 : root < S.length) (hw : root ≠ wo) : RSound S root wo ((List.replicate S.length false).set root.toNat true) := by
  have key : ∀ x : Int, 0 ≤ x → x < S.length → nth ((List.replicate S.length false).set root.toNat true) x = if x = root then true else false := fun x x0 x1 => by
    rw [nth_setB h0 (by simpa using h1) x0, nth_replicateB x0 (by omega)]
  refine ⟨by simp, by rw [key root h0 h1, if_pos rfl], fun x x0 x1 hx => ?_⟩
  rw [key x x0 x1] at hx
  split at hx
  · rename_i e; subst e; exact .root hw
  · cases hx
theorem rch_root {x : Int} (h : RchN S root wo x) : root ≠ wo := by
  induction h with
  | root h => exact h
  | step _ _ _ ih => exact ih
theorem RExact.none_ (h : root = wo) : RExact S root wo (List.replicate S.length false) := by
  refine ⟨by simp, fun x x0 x1 => ⟨fun hx => ?_, fun hx => ?_⟩⟩
  · rw [nth_replicateB x0 (by omega)] at hx; cases hx
  · exact absurd h (rch_root hx)
end
end Go.Proofs.YtakameggkkjcpaaGreat
namespace Go.Proofs.YtakameggkkjcpaaGreat
open Go Go.RowKit
section
variable {P : Program} {fn : Func} {w0 : World} {H0 : Hp} {X : List Nat} {k : List Item} {F : Fk} {H : Hp} {L : List Chunk} {R : Ending → World → Prop} {Hs : Hp} {Ls : List Chunk} {ops : Array Oper} {fuel stop : Nat} {listed : Array Bool}
theorem WpE.setV {t : Nat} {v v' : Value} (hc : look F t = some v) (e : v = v') (h : WpE P fn w0 H0 X k R Hs Ls ops stop fuel listed ((t, v') :: F) H L) : WpE P fn w0 H0 X k R Hs Ls ops stop fuel listed F H L := fun a w ha hs =>
  h a w ⟨ha.defers, ha.size, fun s u hu => by
    simp only [look] at hu
    by_cases es : t = s
    · subst es; simp at hu; subst hu; exact e ▸ ha.at_ t v hc
    · rw [beq_no es] at hu; exact ha.at_ s u hu⟩ hs
theorem WpE.indexR {α : Type} [Inhabited α] [Rdc α] {T : List TRow} {ty : TypeId} {pos : String} {af : Array Edge} {g : Option (Nat × Bool)} (hT : TabOK P T) {i : Nat} {d t : Nat} {x y : Operand} {A : Option Addr} {c e : Nat} {kd : IntKind} {j : Int} {r q : TRow} {xs : List α} {H1 : Hp} {listed' : Array Bool}
    (hchk : (pchk ops listed stop i && (listed.setIfInBounds i true == listed')) = true)
    (ho : ops[i]? = some ⟨some d, .indexAddr t x y, ty, pos, af, g⟩) (hw : wantk ops F g = some true) (hn : Nat.blt d fn.ntmps = true) (hx : evk F x = some (.slice A xs.length c)) (hy : evk F y = some (.int kd j))
    (hr : trow T t = some r) (hk : r.kind = .slice e) (hq : trow T e = some q) (hsz : Rdc.sz α = q.size) (h00 : H0.le Hs) (hH : Hs.le H) (hL : Ls.Sublist L) (hR : RdS H1 A xs) (h0 : 0 ≤ j) (h1 : j < xs.length)
    (h : ∀ u, u = nth xs j → ∀ b o cs, Rdc.rd H1 cs u → HCells H1 b o cs → WpE P fn w0 H0 X k R Hs Ls ops stop fuel listed' ((d, .pointer (some ⟨b, o, none⟩)) :: F) H L) : WpE P fn w0 H0 X k R Hs Ls ops stop (fuel + 1) listed F H L := by
  obtain ⟨b, o, rfl, cs, k1, k2⟩ := hR.at_ h0 h1
  refine WpE.p hchk ho hw rfl hn h00 hH hL (RunP.indexAddr hT hx hy hr hk hq h0 h1) ?_
  rw [← hsz]
  exact h _ rfl b _ cs k1 k2
theorem WpE.caseB {t : Nat} {b : Bool} (hc : look F t = some (.bool b)) (ht : b = true → WpE P fn w0 H0 X k R Hs Ls ops stop fuel listed ((t, .bool true) :: F) H L) (hf : b = false → WpE P fn w0 H0 X k R Hs Ls ops stop fuel listed ((t, .bool false) :: F) H L) : WpE P fn w0 H0 X k R Hs Ls ops stop fuel listed F H L := by
  cases b
  · exact WpE.setV hc rfl (hf rfl)
  · exact WpE.setV hc rfl (ht rfl)
end
section
variable {S : List (List Int)} {root : Int}
def Ov (S : List (List Int)) (root a b : Int) : Prop := RchN S root (-1) b ∧ ¬ RchN S root a b
def Near (S : List (List Int)) (root a b : Int) : Prop := a ≠ b ∧ Ov S root a b ∧ ∀ c : Int, 0 ≤ c → c < S.length → c = b ∨ ¬ Ov S root c b ∨ Ov S root c a
theorem TreeP.near {tl : List Int} (h : TreeP S root tl) {b : Int} (hb : RchN S root (-1) b) (hr : b ≠ root) : Near S root (nth tl b) b := by
  obtain ⟨h1, h2, h3⟩ := h.up b hb hr
  have hne : nth tl b ≠ b := h2.ne
  refine ⟨hne, ⟨hb, fun hx => ((h3 _ hne).1 hx).ne rfl⟩, fun c _ _ => ?_⟩
  by_cases e : c = b
  · exact .inl e
  · by_cases o : Ov S root c b
    · exact .inr (.inr ⟨h1, fun hx => o.2 ((h3 c e).2 hx)⟩)
    · exact .inr (.inl o)
theorem TreeP.near_eq {tl : List Int} (h : TreeP S root tl) {a b : Int} (ha : Near S root a b) (hr : b ≠ root) : a = nth tl b := by
  obtain ⟨hne, ho, hc⟩ := ha
  obtain ⟨h1, h2, h3⟩ := h.up b ho.1 hr
  have hn2 : nth tl b ≠ b := h2.ne
  have t0 := h.range _ h1
  apply Classical.byContradiction
  intro hx
  rcases hc (nth tl b) t0.1 t0.2 with e | e | e
  · exact hn2 e
  · exact e ⟨ho.1, fun hy => ((h3 _ hn2).1 hy).ne rfl⟩
  · rcases RchN.either hx h1 with ⟨_, z⟩ | z | z
    · exact z.ne rfl
    · exact e.2 z
    · exact ho.2 ((h3 a hne).2 z)
def TAt (S : List (List Int)) (root : Int) (tl : List Int) (b a v : Int) : Prop := (RchN S root (-1) b ∧ nth tl b < a → v = nth tl b) ∧ (¬ (RchN S root (-1) b ∧ nth tl b < a) → v = -2)
theorem TAt.start {tl : List Int} (h : TreeP S root tl) {b : Int} (hr : b ≠ root) : TAt S root tl b 0 (-2) := by
  refine ⟨fun hx => ?_, fun _ => rfl⟩
  have := h.range _ (h.up b hx.1 hr).1
  omega
theorem TAt.skip {tl : List Int} {a b v : Int} (h : TreeP S root tl) (hr : b ≠ root) (ht : TAt S root tl b a v) (hn : ¬ Near S root a b) : TAt S root tl b (a + 1) v := by
  have : RchN S root (-1) b → nth tl b ≠ a := fun hb e => hn (e ▸ h.near hb hr)
  exact ⟨fun hx => ht.1 ⟨hx.1, by have := this hx.1; omega⟩, fun hx => ht.2 fun hy => hx ⟨hy.1, by omega⟩⟩
theorem TAt.take {tl : List Int} {a b : Int} (h : TreeP S root tl) (hr : b ≠ root) (hn : Near S root a b) : TAt S root tl b (a + 1) a := by
  have e := h.near_eq hn hr
  exact ⟨fun _ => e, fun hx => absurd ⟨hn.2.1.1, by omega⟩ hx⟩
theorem TAt.done {tl : List Int} {b v : Int} (h : TreeP S root tl) (hr : b ≠ root) (b0 : 0 ≤ b) (b1 : b < S.length) {a : Int} (ha : ¬ a < S.length) (ht : TAt S root tl b a v) : v = nth tl b := by
  by_cases hb : RchN S root (-1) b
  · have := h.range _ (h.up b hb hr).1
    exact ht.1 ⟨hb, by omega⟩
  · rw [ht.2 fun hx => hb hx.1, h.none_ b b0 b1 hb]
def OvRow (S : List (List Int)) (root a : Int) (r : List Bool) : Prop := r.length = S.length ∧ ∀ b : Int, 0 ≤ b → b < S.length → (nth r b = true ↔ Ov S root a b)
def OvTab (S : List (List Int)) (root : Int) (rows : List (List Bool)) (m : Int) : Prop := (rows.length : Int) = m ∧ ∀ a : Int, 0 ≤ a → a < m → OvRow S root a (nth rows a)
theorem OvTab.nil : OvTab S root [] 0 := ⟨rfl, fun a h0 h1 => by omega⟩
theorem nth_app {α : Type} [Inhabited α] {l : List α} {x : α} {k : Int} (h0 : 0 ≤ k) : nth (l ++ [x]) k = if k < l.length then nth l k else if k = l.length then x else default := by
  obtain ⟨n, rfl⟩ := Int.eq_ofNat_of_zero_le h0
  unfold nth
  rw [show ((n : Int)).toNat = n from rfl, List.getD_eq_getElem?_getD, List.getElem?_append]
  split
  · rw [if_pos (by omega), List.getD_eq_getElem?_getD]
  · rw [if_neg (by omega)]
    split
    · rename_i h1 h2
      rw [show n - l.length = 0 from by omega]; rfl
    · rename_i h1 h2
      rw [List.getElem?_eq_none (by simp; omega)]; rfl
theorem OvTab.snoc {rows : List (List Bool)} {a : Int} {r : List Bool} (h : OvTab S root rows a) (hr : OvRow S root a r) : OvTab S root (rows ++ [r]) (a + 1) := by
  refine ⟨by rw [List.length_append]; have := h.1; simp; omega, fun x x0 x1 => ?_⟩
  rw [nth_app x0]
  have := h.1
  split
  · exact h.2 x x0 (by omega)
  · rw [if_pos (by omega), show x = a from by omega]; exact hr
end
section
variable {S : List (List Int)} {root : Int}
theorem OvTab.at_ {rows : List (List Bool)} {m a b : Int} (h : OvTab S root rows m) (a0 : 0 ≤ a) (a1 : a < m) (b0 : 0 ≤ b) (b1 : b < S.length) : nth (nth rows a) b = true ↔ Ov S root a b := (h.2 a a0 a1).2 b b0 b1
theorem OvTab.no {rows : List (List Bool)} {m a b : Int} (h : OvTab S root rows m) (a0 : 0 ≤ a) (a1 : a < m) (b0 : 0 ≤ b) (b1 : b < S.length) (q : nth (nth rows a) b = false) : ¬ Ov S root a b := fun o => by
  have := (h.at_ a0 a1 b0 b1).2 o
  rw [q] at this; cases this
end
end Go.Proofs.YtakameggkkjcpaaGreat
namespace Go.Proofs.YtakameggkkjcpaaGreat
open Go Go.RowKit
def badB (bs : List Bool) (i : Int) (e : EndD) : Bool := !(nth bs i) || ((e.kind == 1 || e.kind == 3) && e.arg != 0)
def FitTo (f : FuncD) (m : Int) : Prop := ∀ x : Int, 0 ≤ x → x < m → RchN (ofD f).1.succ 0 (-1) x ∧ (nth f.blocks x).phis.all (phiFit (nth (ofD f).1.pred x)) = true
def FitAll (f : FuncD) : Prop := FitTo f f.blocks.length
theorem FitTo.zero {f : FuncD} : FitTo f 0 := fun x x0 x1 => by omega
theorem FitTo.step {f : FuncD} {bs : List Bool} {i : Int} (h : FitTo f i) (hx : RExact (ofD f).1.succ 0 (-1) bs) (hl : (ofD f).1.succ.length = f.blocks.length) (i0 : 0 ≤ i) (i1 : i < f.blocks.length) (hb : badB bs i (nth f.blocks i).en = false) (hp : (nth f.blocks i).phis.all (phiFit (nth (ofD f).1.pred i)) = true) : FitTo f (i + 1) := fun x x0 x1 => by
  by_cases e : x = i
  · subst e
    unfold badB at hb
    simp only [Bool.or_eq_false_iff, Bool.not_eq_false'] at hb
    exact ⟨(hx.2 x i0 (by omega)).1 hb.1, hp⟩
  · exact h x x0 (by omega)
theorem FitTo.all {f : FuncD} {i : Int} (h : FitTo f i) (hi : ¬ i < f.blocks.length) : FitAll f := fun x x0 x1 => h x x0 (by omega)
end Go.Proofs.YtakameggkkjcpaaGreat
namespace Go.Proofs.YtakameggkkjcpaaGreat
open Go Go.RowKit
structure DefR where
  v : Int
  blk : Int
  pos : Int
  bits : Int
  lanes : Int
  deriving Inhabited
instance : Rdc DefR where
  sz := 5
  rd _ vs x := vs = [.int .i64 x.v, .int .i64 x.blk, .int .i64 x.pos, .int .i64 x.bits, .int .i64 x.lanes] ∧ I64 x.v ∧ I64 x.blk ∧ I64 x.pos ∧ I64 x.bits ∧ I64 x.lanes
  len h := by rw [h.1]; rfl
  mono _ h := h
  one h := by rw [h.1]; rfl
theorem i64s {x : Int} (h0 : 0 ≤ x) (h1 : x ≤ 9223372036854775807) : I64 x := ⟨by omega, by omega⟩
def parR : Int → List Int → List DefR
  | _, [] => []
  | i, b :: l => ⟨i + 1, -1, 0, b, 1⟩ :: parR (i + 1) l
def toR (p : PutD) : DefR := ⟨p.v, p.d.blk, p.d.pos, p.d.bits, p.d.lanes⟩
def defsR (f : FuncD) : List DefR := parR 0 f.params ++ (allPuts 0 f.blocks).map toR
def findR (l : List DefR) (v : Int) : Int := idxFrom (fun d => d.v == v) l 0
end Go.Proofs.YtakameggkkjcpaaGreat
namespace Go.Proofs.YtakameggkkjcpaaGreat
open Go Go.RowKit
def toD (d : DefR) : DefD := ⟨d.blk, d.pos, d.bits, d.lanes⟩
def msR (l : List DefR) : List (Int × DefD) := l.map fun d => (d.v, toD d)
def vsR (l : List DefR) : List Int := l.map (·.v)
theorem msR_keys (l : List DefR) : keysOf (msR l) = vsR l := by simp [keysOf, msR, vsR]
theorem msR_snoc (l : List DefR) (d : DefR) : msR (l ++ [d]) = msR l ++ [(d.v, toD d)] := by simp [msR]
theorem mput_app {α : Type} {k : Int} (v : α) : ∀ {ms : List (Int × α)}, k ∉ keysOf ms → mput ms k v = ms ++ [(k, v)]
  | [], _ => rfl
  | (a, x) :: l, h => by
    simp only [keysOf, List.map_cons, List.mem_cons, not_or] at h
    simp only [mput, if_neg (Ne.symm h.1), List.cons_append]
    rw [mput_app v (ms := l) h.2]
theorem par_eq : ∀ (l : List Int) (pre : List DefR) (i : Int), (∀ d ∈ pre, d.v ≤ i) → parPuts (msR pre) i l = msR (pre ++ parR i l)
  | [], pre, i, _ => by simp [parPuts, parR]
  | b :: l, pre, i, h => by
    have hk : i + 1 ∉ keysOf (msR pre) := fun hm => by
      rw [msR_keys] at hm
      obtain ⟨d, hd, e⟩ := List.mem_map.1 hm
      have := h d hd; omega
    have e : mput (msR pre) (i + 1) ⟨-1, 0, b, 1⟩ = msR (pre ++ [⟨i + 1, -1, 0, b, 1⟩]) := by rw [mput_app _ hk, msR_snoc]; rfl
    show parPuts (mput (msR pre) (i + 1) ⟨-1, 0, b, 1⟩) (i + 1) l = _
    rw [e, par_eq l _ (i + 1) (fun d hd => ?_), List.append_assoc]
    · rfl
    · rcases List.mem_append.1 hd with hd | hd
      · have := h d hd; omega
      · rw [List.mem_singleton.1 hd]; exact Int.le_refl _
def PhiGood (l : List PutD) : Prop := ∀ p ∈ l, p.phi = true → 1 ≤ p.v ∧ p.v ≤ 1023
theorem put_some : ∀ (l : List PutD) (pre : List DefR) (ms : List (Int × DefD)), (vsR pre).Nodup → putAll (msR pre) l = some ms → ms = msR (pre ++ l.map toR) ∧ PhiGood l ∧ (vsR (pre ++ l.map toR)).Nodup
  | [], pre, ms, hn, h => by
    simp only [putAll, Option.some.injEq] at h
    rw [List.map_nil, List.append_nil]
    exact ⟨h.symm, (fun p hp => by cases hp), hn⟩
  | p :: l, pre, ms, hn, h => by
    simp only [putAll] at h
    split at h
    · cases h
    · rename_i hb
      have hk : p.v ∉ keysOf (msR pre) := fun hm => hb (.inr (by
        cases hg : mget (msR pre) p.v with
        | none => exact absurd hm (mget_none.1 hg)
        | some d => rfl))
      have e : mput (msR pre) p.v p.d = msR (pre ++ [toR p]) := by rw [mput_app _ hk, msR_snoc]; rfl
      rw [e] at h
      have hn' : (vsR (pre ++ [toR p])).Nodup := by
        rw [msR_keys] at hk
        unfold vsR at hk ⊢
        rw [List.map_append]
        refine List.nodup_append.2 ⟨hn, by simp, fun x hx y hy exy => ?_⟩
        simp at hy
        subst exy; subst hy; exact hk hx
      obtain ⟨h1, h2, h3⟩ := put_some l _ ms hn' h
      rw [List.append_assoc] at h1 h3
      refine ⟨h1, fun q hq hp => ?_, h3⟩
      rcases List.mem_cons.1 hq with rfl | hq
      · refine ⟨?_, ?_⟩ <;> (apply Classical.byContradiction; intro hc; exact hb (.inl ⟨hp, by omega⟩))
      · exact h2 q hq hp
theorem put_none : ∀ (l : List PutD) (pre : List DefR), PhiGood l → (vsR (pre ++ l.map toR)).Nodup → putAll (msR pre) l = some (msR (pre ++ l.map toR))
  | [], pre, _, _ => by rw [List.map_nil, List.append_nil]; rfl
  | p :: l, pre, hg, hn => by
    have hk : p.v ∉ keysOf (msR pre) := fun hm => by
      rw [msR_keys] at hm
      unfold vsR at hn hm
      rw [List.map_append] at hn
      exact (List.nodup_append.1 hn).2.2 _ hm p.v (by simp [toR]) rfl
    have e : mput (msR pre) p.v p.d = msR (pre ++ [toR p]) := by rw [mput_app _ hk, msR_snoc]; rfl
    have hb : ¬ ((p.phi = true ∧ (p.v < 1 ∨ p.v > 1023)) ∨ (mget (msR pre) p.v).isSome = true) := by
      rintro (⟨h1, h2⟩ | h1)
      · have := hg p (.head _) h1; omega
      · rw [mget_none.2 hk] at h1; cases h1
    simp only [putAll]
    rw [if_neg hb, e, put_none l (pre ++ [toR p]) (fun q hq => hg q (.tail _ hq)) (by rw [List.append_assoc]; exact hn), List.append_assoc]
    rfl
theorem parR_vs : ∀ (l : List Int) (i : Int), (∀ d ∈ parR i l, i + 1 ≤ d.v ∧ d.v ≤ i + l.length ∧ d.blk = -1 ∧ d.pos = 0) ∧ (vsR (parR i l)).Nodup
  | [], i => ⟨fun d h => (by cases h), by simp [parR, vsR]⟩
  | b :: l, i => by
    obtain ⟨h1, h2⟩ := parR_vs l (i + 1)
    refine ⟨fun d hd => ?_, ?_⟩
    · rcases List.mem_cons.1 hd with rfl | hd
      · simp; omega
      · have := h1 d hd; simp only [List.length_cons]; omega
    · show ((i + 1) :: vsR (parR (i + 1) l)).Nodup
      refine List.nodup_cons.2 ⟨fun hm => ?_, h2⟩
      obtain ⟨d, hd, e⟩ := List.mem_map.1 hm
      have := h1 d hd; omega
theorem defs_some {f : FuncD} {ms : List (Int × DefD)} (h : defsD f = some ms) : ms = msR (defsR f) ∧ PhiGood (allPuts 0 f.blocks) ∧ (vsR (defsR f)).Nodup := by
  unfold defsD at h
  have e := par_eq f.params [] 0 (fun d hd => by cases hd)
  rw [show ([] : List (Int × DefD)) = msR [] from rfl, e] at h
  exact put_some _ _ _ (parR_vs f.params 0).2 h
theorem defs_yes {f : FuncD} (h1 : PhiGood (allPuts 0 f.blocks)) (h2 : (vsR (defsR f)).Nodup) : defsD f = some (msR (defsR f)) := by
  unfold defsD
  have e := par_eq f.params [] 0 (fun d hd => by cases hd)
  rw [show ([] : List (Int × DefD)) = msR [] from rfl, e]
  exact put_none _ _ h1 h2
theorem opsPuts_ok (i : Int) : ∀ (l : List OpD) (k : Int), ∀ p ∈ opsPuts i k l, p.phi = false ∧ valueOK p.v = true ∧ p.d.blk = i ∧ k ≤ p.d.pos ∧ p.d.pos < k + l.length
  | [], _, p, h => by cases h
  | o :: l, k, p, h => by
    simp only [opsPuts] at h
    simp only [List.length_cons]
    rcases List.mem_append.1 h with h | h
    · split at h
      · rename_i hg
        simp only [List.mem_singleton] at h; subst h
        refine ⟨rfl, ?_, rfl, Int.le_refl _, by simp; omega⟩
        unfold givesF at hg
        by_cases hm : (!mayO o || storesK o.kind) = true
        · rw [if_pos hm] at hg; simp at hg
        · simp only [Bool.or_eq_true, Bool.not_eq_true', not_or, Bool.not_eq_false, Bool.not_eq_true] at hm
          have h1 := hm.1
          simp only [mayO, Bool.and_eq_true] at h1
          have h2 := h1.2.2.1
          rw [if_neg (by simp [hm.2])] at h2
          exact h2
      · cases h
    · have := opsPuts_ok i l (k + 1) p h
      exact ⟨this.1, this.2.1, this.2.2.1, by omega, by omega⟩
theorem allPuts_ok : ∀ (bs : List BlockD) (i : Int), (∀ x ∈ bs, x.ops.length ≤ 512) → ∀ p ∈ allPuts i bs, (p.phi = true ∨ valueOK p.v = true) ∧ i ≤ p.d.blk ∧ p.d.blk < i + bs.length ∧ -1 ≤ p.d.pos ∧ p.d.pos < 512
  | [], _, _, p, h => by cases h
  | b :: l, i, hb, p, h => by
    simp only [allPuts] at h
    simp only [List.length_cons]
    rcases List.mem_append.1 h with h | h
    · unfold phiPuts at h
      obtain ⟨q, _, rfl⟩ := List.mem_map.1 h
      exact ⟨.inl rfl, by simp, by simp; omega, by simp, by simp⟩
    · rcases List.mem_append.1 h with h | h
      · have h1 := opsPuts_ok i b.ops 0 p h
        have h2 := hb b (.head _)
        exact ⟨.inr h1.2.1, by omega, by omega, by omega, by omega⟩
      · have h1 := allPuts_ok l (i + 1) (fun x hx => hb x (.tail _ hx)) p h
        exact ⟨h1.1, by omega, by omega, by omega, by omega⟩
theorem defsR_ok {f : FuncD} (hp : f.params.length ≤ 16) (hb : ∀ x ∈ f.blocks, x.ops.length ≤ 512) (hg : PhiGood (allPuts 0 f.blocks)) : ∀ d ∈ defsR f, valueOK d.v = true := fun d hd => by
  unfold defsR at hd
  rcases List.mem_append.1 hd with hd | hd
  · have := (parR_vs f.params 0).1 d hd
    unfold valueOK; simp; omega
  · obtain ⟨p, hp, rfl⟩ := List.mem_map.1 hd
    have h1 := allPuts_ok f.blocks 0 hb p hp
    show valueOK p.v = true
    rcases h1.1 with h2 | h2
    · have := hg p hp h2; unfold valueOK; simp; omega
    · exact h2
theorem idx_mget (w : Int) : ∀ (l : List DefR) (i : Int), 0 ≤ i → (idxFrom (fun d => d.v == w) l i = -1 ∧ mget (msR l) w = none) ∨ (i ≤ idxFrom (fun d => d.v == w) l i ∧ idxFrom (fun d => d.v == w) l i < i + l.length ∧ (nth l (idxFrom (fun d => d.v == w) l i - i)).v = w ∧ mget (msR l) w = some (toD (nth l (idxFrom (fun d => d.v == w) l i - i))))
  | [], i, _ => .inl ⟨rfl, rfl⟩
  | d :: l, i, h0 => by
    by_cases e : d.v = w
    · right
      have e1 : idxFrom (fun d => d.v == w) (d :: l) i = i := by simp [idxFrom, e]
      rw [e1, Int.sub_self]
      refine ⟨Int.le_refl _, by simp; omega, e, ?_⟩
      show mget ((d.v, toD d) :: msR l) w = some (toD d)
      simp [mget, e]
    · have e1 : idxFrom (fun d => d.v == w) (d :: l) i = idxFrom (fun d => d.v == w) l (i + 1) := by simp [idxFrom, e]
      have e2 : mget (msR (d :: l)) w = mget (msR l) w := by show mget ((d.v, toD d) :: msR l) w = _; simp [mget, e]
      rw [e1, e2]
      rcases idx_mget w l (i + 1) (by omega) with h | ⟨h1, h2, h3, h4⟩
      · exact .inl h
      · right
        have e3 : nth (d :: l) (idxFrom (fun d => d.v == w) l (i + 1) - i) = nth l (idxFrom (fun d => d.v == w) l (i + 1) - (i + 1)) := by
          unfold nth
          rw [show (idxFrom (fun d => d.v == w) l (i + 1) - i).toNat = (idxFrom (fun d => d.v == w) l (i + 1) - (i + 1)).toNat + 1 from by omega]; rfl
        rw [e3]
        exact ⟨by omega, by simp only [List.length_cons]; omega, h3, h4⟩
theorem find_no {l : List DefR} {w : Int} (h : findR l w < 0) : mget (msR l) w = none := by
  unfold findR at h
  rcases idx_mget w l 0 (Int.le_refl 0) with h1 | h1
  · exact h1.2
  · omega
theorem find_yes {l : List DefR} {w : Int} (h : ¬ findR l w < 0) : 0 ≤ findR l w ∧ findR l w < l.length ∧ (nth l (findR l w)).v = w ∧ mget (msR l) w = some (toD (nth l (findR l w))) := by
  unfold findR at h ⊢
  rcases idx_mget w l 0 (Int.le_refl 0) with h1 | h1
  · omega
  · rw [Int.sub_zero] at h1
    exact ⟨h1.1, by omega, h1.2.2⟩
theorem nth_nat {α : Type} [Inhabited α] {l : List α} {i : Nat} (h : i < l.length) : nth l (i : Int) = l[i] := by
  unfold nth
  rw [show ((i : Int)).toNat = i from by omega]; simp [h]
def DOK (l : List DefR) (n : Int) : Prop := ∀ x : Int, 0 ≤ x → x < n → valueOK (nth l x).v = true ∧ findR l (nth l x).v = x
theorem DOK.zero {l : List DefR} : DOK l 0 := fun x x0 x1 => by omega
theorem DOK.step {l : List DefR} {i : Int} (h : DOK l i) (hb : (!(valueOK (nth l i).v) || !(findR l (nth l i).v == i)) = false) : DOK l (i + 1) := fun x x0 x1 => by
  simp only [Bool.or_eq_false_iff, Bool.not_eq_false', beq_iff_eq] at hb
  by_cases e : x = i
  · subst e; exact hb
  · exact h x x0 (by omega)
theorem DOK.nodup {l : List DefR} (h : DOK l l.length) : (vsR l).Nodup := by
  unfold vsR
  rw [List.Nodup, List.pairwise_iff_getElem]
  intro i j hi hj hij e
  simp only [List.length_map] at hi hj
  simp only [List.getElem_map] at e
  have h1 := (h i (by omega) (by omega)).2
  have h2 := (h j (by omega) (by omega)).2
  rw [nth_nat hi] at h1
  rw [nth_nat hj] at h2
  rw [e, h2] at h1
  omega
theorem DOK.good {f : FuncD} (h : DOK (defsR f) (defsR f).length) : PhiGood (allPuts 0 f.blocks) := fun p hp _ => by
  have hm : toR p ∈ defsR f := by unfold defsR; exact List.mem_append_right _ (List.mem_map.2 ⟨p, hp, rfl⟩)
  obtain ⟨j, hj, e⟩ := List.mem_iff_getElem.1 hm
  have := (h j (by omega) (by omega)).1
  rw [nth_nat hj, e] at this
  unfold valueOK at this
  simp at this
  exact this
theorem DOK.defs {f : FuncD} {i : Int} (h : DOK (defsR f) i) (h1 : ¬ i < (defsR f).length) : defsD f = some (msR (defsR f)) := by
  have h' : DOK (defsR f) (defsR f).length := fun x x0 x1 => h x x0 (by omega)
  exact defs_yes h'.good h'.nodup
theorem DOK.none_ {f : FuncD} {i : Int} (hp : f.params.length ≤ 16) (hb : ∀ x ∈ f.blocks, x.ops.length ≤ 512) (h0 : 0 ≤ i) (h1 : i < (defsR f).length) (hq : (!(valueOK (nth (defsR f) i).v) || !(findR (defsR f) (nth (defsR f) i).v == i)) = true) : defsD f = none := by
  cases hd : defsD f with
  | none => rfl
  | some ms =>
    exfalso
    obtain ⟨-, h2, h3⟩ := defs_some hd
    have hv := defsR_ok hp hb h2 _ (nth_mem h0 h1)
    rw [hv] at hq
    simp only [Bool.not_true, Bool.false_or, Bool.not_eq_true', beq_eq_false_iff_ne, ne_eq] at hq
    have hy : ¬ findR (defsR f) (nth (defsR f) i).v < 0 := fun hn => by
      have := find_no hn
      rw [mget_none, msR_keys] at this
      exact this (List.mem_map.2 ⟨_, nth_mem h0 h1, rfl⟩)
    obtain ⟨a1, a2, a3, -⟩ := find_yes hy
    refine hq ?_
    have e : (vsR (defsR f))[(findR (defsR f) (nth (defsR f) i).v).toNat]? = (vsR (defsR f))[i.toNat]? := by
      unfold vsR
      rw [List.getElem?_map, List.getElem?_map, nth_get a1 a2, nth_get h0 h1, Option.map_some, Option.map_some, a3]
    have hlen : i.toNat < (vsR (defsR f)).length := by unfold vsR; rw [List.length_map]; omega
    have := (List.getElem?_inj (by unfold vsR; rw [List.length_map]; omega) h3).1 e
    omega
structure Bnd (f : FuncD) : Prop where
  b0 : 1 ≤ f.blocks.length
  b1 : f.blocks.length ≤ 64
  p1 : f.params.length ≤ 16
  sz : sizeF f ≤ 512
  ok : ∀ b ∈ f.blocks, blockOK b = true
theorem bnd_of {f : FuncD} (h : mayF f = true) : Bnd f := by
  simp only [mayF, Bool.and_eq_true, Bool.not_eq_true', decide_eq_false_iff_not] at h
  exact ⟨by omega, by omega, by omega, by omega, fun b hb => List.all_eq_true.1 h.2.2.2.2.2.2 b hb⟩
theorem sum_mem {α : Type} (g : α → Int) : ∀ (l : List α), (∀ x ∈ l, 0 ≤ g x) → 0 ≤ (l.map g).sum ∧ ∀ x ∈ l, g x ≤ (l.map g).sum
  | [], _ => ⟨by simp, fun x h => by cases h⟩
  | a :: l, h => by
    obtain ⟨h1, h2⟩ := sum_mem g l fun x hx => h x (.tail _ hx)
    have h0 := h a (.head _)
    simp only [List.map_cons, List.sum_cons]
    refine ⟨by omega, fun x hx => ?_⟩
    rcases List.mem_cons.1 hx with rfl | hx
    · omega
    · have := h2 x hx; omega
theorem Bnd.ops {f : FuncD} (h : Bnd f) : ∀ x ∈ f.blocks, x.ops.length ≤ 512 := fun x hx => by
  have h1 := (sum_mem blockSz f.blocks fun y _ => by unfold blockSz; omega).2 x hx
  have h2 := h.sz
  unfold sizeF at h2
  have h3 : (x.ops.length : Int) ≤ blockSz x := by unfold blockSz; omega
  have := h.b0
  omega
theorem opsPuts_len (i : Int) : ∀ (l : List OpD) (k : Int), (opsPuts i k l).length ≤ l.length
  | [], _ => Nat.le_refl _
  | o :: l, k => by
    have := opsPuts_len i l (k + 1)
    simp only [opsPuts, List.length_append, List.length_cons]
    split <;> simp <;> omega
theorem allPuts_len : ∀ (bs : List BlockD) (i : Int), ((allPuts i bs).length : Int) ≤ (bs.map blockSz).sum
  | [], _ => by simp [allPuts]
  | b :: l, i => by
    have h1 := allPuts_len l (i + 1)
    have h2 := opsPuts_len i b.ops 0
    simp only [allPuts, List.length_append, List.map_cons, List.sum_cons, phiPuts, List.length_map]
    unfold blockSz
    unfold blockSz at h1
    omega
theorem parR_len : ∀ (l : List Int) (i : Int), (parR i l).length = l.length
  | [], _ => rfl
  | _ :: l, i => by simp [parR, parR_len l]
theorem Bnd.defs {f : FuncD} (h : Bnd f) : (defsR f).length ≤ 2147483000 := by
  have h1 := allPuts_len f.blocks 0
  have h2 := h.sz
  have h3 := h.p1
  unfold sizeF at h2
  unfold defsR
  rw [List.length_append, parR_len, List.length_map]
  omega
def RefIs (f : FuncD) (lv e : Int) : Prop := ((lv < 0 ∨ lv > 2) → e = 1) ∧ (¬ (lv < 0 ∨ lv > 2) → ∀ tl, TreeGood f tl → e = codeOf f lv tl)
theorem RefIs.same {f : FuncD} {lv e e' : Int} (h : RefIs f lv e) (h' : CheckIs f lv e') : e' = e := by
  unfold CheckIs at h'
  by_cases hl : lv < 0 ∨ lv > 2
  · rw [if_pos hl] at h'; rw [h', h.1 hl]
  · rw [if_neg hl] at h'
    obtain ⟨tl, ht, rfl⟩ := h'
    exact (h.2 hl tl ht).symm
section
variable {f : FuncD} {lv : Int}
variable (hl : ¬ (lv < 0 ∨ lv > 2)) (h : mayF f = true) (ho : (ofD f).2 = 0) (h3 : ∀ tl, TreeP (ofD f).1.succ 0 tl → shapeW f tl = true)
include hl h ho h3
end
end Go.Proofs.YtakameggkkjcpaaGreat
namespace Go.Proofs.YtakameggkkjcpaaGreat
open Go Go.RowKit
structure Right (f : FuncD) (lv : Int) (tl : List Int) : Prop where
  may : mayF f = true
  of_ : (ofD f).2 = 0
  tree : TreeP (ofD f).1.succ 0 tl
  shape : shapeW f tl = true
  typ : typedD f lv = true
  defs : defsD f = some (msR (defsR f))
  good : PhiGood (allPuts 0 f.blocks)
  nodup : (vsR (defsR f)).Nodup
  ask : firstA (askDef (msR (defsR f))) (asksF f) = 0
  shp : firstA (askShape (msR (defsR f))) (asksF f) = 0
  plc : firstA (askPlace (msR (defsR f)) tl) (asksF f) = 0
theorem code_right {f : FuncD} {lv : Int} (h : CodeIs f lv 0) : ∃ tl, Right f lv tl := by
  obtain ⟨tl, ht, h⟩ := h
  unfold codeOf at h
  split at h
  · cases h
  · split at h
    · cases h
    · split at h
      · cases h
      · split at h
        · cases h
        · rename_i h1 h2 h3 h4
          cases hd : defsD f with
          | none => rw [hd] at h; cases h
          | some ms =>
            rw [hd] at h
            obtain ⟨e, hg, hn⟩ := defs_some hd
            subst e
            have h1 : mayF f = true := by simpa using h1
            have h2 : (ofD f).2 = 0 := by simpa using h2
            have h3 : shapeW f tl = true := by simpa using h3
            have h4 : typedD f lv = true := by simpa using h4
            simp only at h
            split at h
            · rename_i h5; exact absurd h.symm h5
            · rename_i h5
              split at h
              · rename_i h6; exact absurd h.symm h6
              · rename_i h6
                exact ⟨tl, h1, h2, ht h1 h2, h3, h4, hd, hg, hn, by simpa using h5, by simpa using h6, h.symm⟩
end Go.Proofs.YtakameggkkjcpaaGreat
namespace Go.Proofs.YtakameggkkjcpaaGreat
open Go Go.RowKit
structure HamD where
  at_ : Int
  thn : Int
  els : Int
  join : Int
  deriving Inhabited, DecidableEq
instance : Rdc HamD where
  sz := 4
  rd _ vs x := vs = [.int .i64 x.at_, .int .i64 x.thn, .int .i64 x.els, .int .i64 x.join] ∧ I64 x.at_ ∧ I64 x.thn ∧ I64 x.els ∧ I64 x.join
  len h := by rw [h.1]; rfl
  mono _ h := h
  one h := by rw [h.1]; rfl
abbrev hamV (h : HamD) : Value := .agg #[.int .i64 h.at_, .int .i64 h.thn, .int .i64 h.els, .int .i64 h.join]
def flatH (l : List HamD) : List Value := l.flatMap fun x => [.int .i64 x.at_, .int .i64 x.thn, .int .i64 x.els, .int .i64 x.join]
theorem flatH_snoc (l : List HamD) (x : HamD) : flatH (l ++ [x]) = flatH l ++ [.int .i64 x.at_, .int .i64 x.thn, .int .i64 x.els, .int .i64 x.join] := by simp [flatH]
def IH (x : HamD) : Prop := I64 x.at_ ∧ I64 x.thn ∧ I64 x.els ∧ I64 x.join
def AllH (l : List HamD) : Prop := ∀ d ∈ l, IH d
theorem AllH_nil : AllH [] := fun d h => by cases h
theorem AllH_snoc {l : List HamD} {x : HamD} (h : AllH l) (hx : IH x) : AllH (l ++ [x]) := fun d hd => (List.mem_append.1 hd).elim (h d) fun h => by rw [List.mem_singleton.1 h]; exact hx
theorem RdL_hams {H : Hp} : ∀ (l : List HamD), AllH l → RdL H (flatH l) l
  | [], _ => rfl
  | x :: l, h => ⟨[.int .i64 x.at_, .int .i64 x.thn, .int .i64 x.els, .int .i64 x.join], flatH l, rfl, ⟨rfl, h x (.head _)⟩, RdL_hams l fun d hd => h d (.tail _ hd)⟩
def noneH : HamD := ⟨0, 0, 0, 0⟩
structure GG (f : FuncD) (gr : GraphD) : Prop where
  pl : gr.pred.length = f.blocks.length
  goes : ∀ b ∈ f.blocks, goesD b.en.kind = b.en.to.length
  rng : ∀ b ∈ f.blocks, ∀ t ∈ b.en.to, 1 ≤ t ∧ t < f.blocks.length
theorem GG.of {f : FuncD} (h : (ofD f).2 = 0) : GG f (ofD f).1 := by
  obtain ⟨_, _, _, _, _, h1, _, h2⟩ := of_ok h
  refine ⟨h1, fun b hb => ?_, fun b hb t ht => ?_⟩
  · have := List.all_eq_true.1 h2 b hb
    simp only [ofOK, Bool.and_eq_true, beq_iff_eq] at this
    exact this.1
  · have := List.all_eq_true.1 h2 b hb
    simp only [ofOK, Bool.and_eq_true, Bool.not_eq_true', List.any_eq_false] at this
    have := this.2 t ht
    simp only [Bool.or_eq_true, decide_eq_true_eq, not_or] at this
    omega
theorem GG.one {f : FuncD} {gr : GraphD} (h : GG f gr) {i : Int} (h0 : 0 ≤ i) (h1 : i < f.blocks.length) (hk : (nth f.blocks i).en.kind = 1) : (nth f.blocks i).en.to.length = 1 := by
  have := h.goes _ (nth_mem h0 h1)
  rw [hk] at this
  have e : goesD 1 = 1 := rfl
  omega
theorem GG.two {f : FuncD} {gr : GraphD} (h : GG f gr) {i : Int} (h0 : 0 ≤ i) (h1 : i < f.blocks.length) (hk : (nth f.blocks i).en.kind = 2) : (nth f.blocks i).en.to.length = 2 ∧ 1 ≤ nth (nth f.blocks i).en.to 0 ∧ nth (nth f.blocks i).en.to 0 < f.blocks.length ∧ 1 ≤ nth (nth f.blocks i).en.to 1 ∧ nth (nth f.blocks i).en.to 1 < f.blocks.length := by
  have := h.goes _ (nth_mem h0 h1)
  rw [hk] at this
  have e : goesD 2 = 2 := rfl
  have hl : (nth f.blocks i).en.to.length = 2 := by omega
  have r0 := h.rng _ (nth_mem h0 h1) _ (nth_mem (xs := (nth f.blocks i).en.to) (i := 0) (by omega) (by omega))
  have r1 := h.rng _ (nth_mem h0 h1) _ (nth_mem (xs := (nth f.blocks i).en.to) (i := 1) (by omega) (by omega))
  exact ⟨hl, r0.1, r0.2, r1.1, r1.2⟩
def betweenD (f : FuncD) (gr : GraphD) (a x j : Int) : Bool :=
  if x < 0 ∨ x ≥ f.blocks.length then false else eqL (nth gr.pred x) [a] && (((nth f.blocks x).phis.length : Int) == 0 && ((nth f.blocks x).en.kind == 1 && nth (nth f.blocks x).en.to 0 == j))
def sideD (f : FuncD) (gr : GraphD) (a to x j : Int) : Bool := if x = -1 then to == j else x == to && betweenD f gr a x j
def outH (f : FuncD) (h : HamD) : Prop := h.at_ < 0 ∨ h.at_ ≥ f.blocks.length ∨ h.join < 0 ∨ h.join ≥ f.blocks.length ∨ h.join = h.at_ ∨ (h.thn = -1 ∧ h.els = -1)
instance (f : FuncD) (h : HamD) : Decidable (outH f h) := by unfold outH; infer_instance
def isD (f : FuncD) (gr : GraphD) (h : HamD) : Bool :=
  if outH f h then false else (nth f.blocks h.at_).en.kind == 2 && (nth (nth f.blocks h.at_).en.to 0 != nth (nth f.blocks h.at_).en.to 1 &&
    (sideD f gr h.at_ (nth (nth f.blocks h.at_).en.to 0) h.thn h.join && sideD f gr h.at_ (nth (nth f.blocks h.at_).en.to 1) h.els h.join))
def onD (f : FuncD) (x : Int) : Int := if 0 < (nth f.blocks x).en.to.length then nth (nth f.blocks x).en.to 0 else -1
abbrev to0 (f : FuncD) (a : Int) : Int := nth (nth f.blocks a).en.to 0
abbrev to1 (f : FuncD) (a : Int) : Int := nth (nth f.blocks a).en.to 1
def way0 (f : FuncD) (a : Int) : HamD := ⟨a, to0 f a, to1 f a, onD f (to0 f a)⟩
def way1 (f : FuncD) (a : Int) : HamD := ⟨a, to0 f a, -1, to1 f a⟩
def way2 (f : FuncD) (a : Int) : HamD := ⟨a, -1, to1 f a, to0 f a⟩
def findD (f : FuncD) (gr : GraphD) (a : Int) : HamD × Bool :=
  if (nth f.blocks a).en.kind = 2 then
    if isD f gr (way0 f a) = true then (way0 f a, true) else if isD f gr (way1 f a) = true then (way1 f a, true) else if isD f gr (way2 f a) = true then (way2 f a, true) else (noneH, false)
  else (noneH, false)
open Classical in
noncomputable def okF (f : FuncD) : Bool := decide (CodeIs f 2 0)
theorem okF_of {f : FuncD} {e : Int} (h : CodeIs f 2 e) : (e == 0) = okF f := by
  unfold okF
  by_cases e0 : e = 0
  · subst e0; simp [h]
  · have : ¬ CodeIs f 2 0 := fun h' => e0 (h.same h')
    simp [e0, this]
theorem okF_yes {f : FuncD} (h : okF f = true) : CodeIs f 2 0 := by
  unfold okF at h; simpa using h
theorem ok_check {f : FuncD} {e : Int} (h : CheckIs f 2 e) : (e == 0) = okF f := okF_of (check_at h (by decide) (by decide))
def HasT (f : FuncD) : Prop := ∃ tl, TreeGood f tl
theorem hasT_of {f : FuncD} {e : Int} (h : CodeIs f 2 e) : HasT f := ⟨_, h.choose_spec.1⟩
theorem okF_gg {f : FuncD} (h : okF f = true) : GG f (ofD f).1 ∧ Bnd f ∧ ∃ tl, Right f 2 tl := by
  obtain ⟨tl, hR⟩ := code_right (okF_yes h)
  exact ⟨GG.of hR.of_, bnd_of hR.may, tl, hR⟩
noncomputable def isH (f : FuncD) (h : HamD) : Bool := okF f && isD f (ofD f).1 h
noncomputable def findH (f : FuncD) (a : Int) : HamD × Bool := if okF f = true ∧ 0 ≤ a ∧ a < f.blocks.length then findD f (ofD f).1 a else (noneH, false)
def opsD (f : FuncD) (h : HamD) : List OpD := (if h.thn = -1 then [] else (nth f.blocks h.thn).ops) ++ (if h.els = -1 then [] else (nth f.blocks h.els).ops)
noncomputable def costH (f : FuncD) (h : HamD) : Int := if isH f h = true then (opsD f h).length else 0
def dearO (o : OpD) : Bool := decide (o.lanes > 1) || decide (o.kind > 20)
noncomputable def mergesH (f : FuncD) (h : HamD) : Bool := isH f h && !(opsD f h).any dearO
def allTo (f : FuncD) (gr : GraphD) : Nat → List HamD
  | 0 => []
  | i + 1 => allTo f gr i ++ (if (findD f gr (i : Int)).2 = true then [(findD f gr (i : Int)).1] else [])
noncomputable def allH (f : FuncD) : List HamD := if okF f = true then allTo f (ofD f).1 f.blocks.length else []
theorem allTo_yes {f : FuncD} {gr : GraphD} {i : Int} (h0 : 0 ≤ i) (h : (findD f gr i).2 = true) : allTo f gr (i + 1).toNat = allTo f gr i.toNat ++ [(findD f gr i).1] := by
  rw [toNat_succ h0]
  show allTo f gr i.toNat ++ (if (findD f gr (i.toNat : Int)).2 = true then _ else _) = _
  rw [show ((i.toNat : Nat) : Int) = i from by omega, if_pos h]
theorem allTo_no {f : FuncD} {gr : GraphD} {i : Int} (h0 : 0 ≤ i) (h : (findD f gr i).2 = false) : allTo f gr (i + 1).toNat = allTo f gr i.toNat := by
  rw [toNat_succ h0]
  show allTo f gr i.toNat ++ (if (findD f gr (i.toNat : Int)).2 = true then _ else _) = _
  rw [show ((i.toNat : Nat) : Int) = i from by omega, if_neg (by rw [h]; simp), List.append_nil]
theorem allTo_len (f : FuncD) (gr : GraphD) : ∀ i : Nat, (allTo f gr i).length ≤ i
  | 0 => Nat.le_refl 0
  | i + 1 => by
    have := allTo_len f gr i
    show (allTo f gr i ++ _).length ≤ _
    rw [List.length_append]
    split <;> simp <;> omega
section
variable {f : FuncD} {gr : GraphD} {h : HamD}
theorem is_in (hi : isD f gr h = true) : ¬ outH f h ∧ (nth f.blocks h.at_).en.kind = 2 ∧ to0 f h.at_ ≠ to1 f h.at_ ∧ sideD f gr h.at_ (to0 f h.at_) h.thn h.join = true ∧ sideD f gr h.at_ (to1 f h.at_) h.els h.join = true := by
  unfold isD at hi
  split at hi
  · cases hi
  · rename_i ho
    simp only [Bool.and_eq_true, beq_iff_eq, bne_iff_ne] at hi
    exact ⟨ho, hi.1, hi.2.1, hi.2.2.1, hi.2.2.2⟩
theorem side_or {a to x j : Int} (hs : sideD f gr a to x j = true) : (x = -1 ∧ to = j) ∨ (x = to ∧ 0 ≤ x ∧ x < f.blocks.length ∧ nth gr.pred x = [a] ∧ (nth f.blocks x).phis = [] ∧ (nth f.blocks x).en.kind = 1 ∧ nth (nth f.blocks x).en.to 0 = j) := by
  unfold sideD at hs
  split at hs
  · rename_i e; exact .inl ⟨e, by simpa using hs⟩
  · simp only [Bool.and_eq_true, beq_iff_eq] at hs
    obtain ⟨e, hb⟩ := hs
    unfold betweenD at hb
    split at hb
    · cases hb
    · simp only [Bool.and_eq_true, beq_iff_eq] at hb
      exact .inr ⟨e, by omega, by omega, eqL_eq.1 hb.1, List.eq_nil_of_length_eq_zero (by omega), hb.2.2.1, hb.2.2.2⟩
def hamS (f : FuncD) (a s j : Int) : HamD := ⟨a, if s = 2 then -1 else to0 f a, if s = 1 then -1 else to1 f a, j⟩
def NoS (f : FuncD) (gr : GraphD) (a s : Int) : Prop := ∀ j : Int, 0 ≤ j → j < f.blocks.length → isD f gr (hamS f a s j) = false
theorem find_is {a : Int} (h : (findD f gr a).2 = true) : isD f gr (findD f gr a).1 = true ∧ (findD f gr a).1.at_ = a := by
  unfold findD at h ⊢
  split at h
  · rename_i hk
    rw [if_pos hk]
    split at h
    · rename_i h1; rw [if_pos h1]; exact ⟨h1, rfl⟩
    · rename_i h1
      rw [if_neg h1]
      split at h
      · rename_i h2; rw [if_pos h2]; exact ⟨h2, rfl⟩
      · rename_i h2
        rw [if_neg h2]
        split at h
        · rename_i h3; rw [if_pos h3]; exact ⟨h3, rfl⟩
        · cases h
  · cases h
theorem is_thn (hi : isD f gr h = true) : h.thn = -1 ∨ (0 ≤ h.thn ∧ h.thn < f.blocks.length ∧ nth gr.pred h.thn = [h.at_] ∧ h.thn = to0 f h.at_) := by
  rcases side_or (is_in hi).2.2.2.1 with ⟨e, _⟩ | ⟨e, x0, x1, p, _⟩
  · exact .inl e
  · exact .inr ⟨x0, x1, p, e⟩
theorem is_els (hi : isD f gr h = true) : h.els = -1 ∨ (0 ≤ h.els ∧ h.els < f.blocks.length ∧ nth gr.pred h.els = [h.at_] ∧ h.els = to1 f h.at_) := by
  rcases side_or (is_in hi).2.2.2.2 with ⟨e, _⟩ | ⟨e, x0, x1, p, _⟩
  · exact .inl e
  · exact .inr ⟨x0, x1, p, e⟩
theorem is_IH (hn : f.blocks.length ≤ 64) (hi : isD f gr h = true) : IH h := by
  have ho := (is_in hi).1
  unfold outH at ho
  have h1 := is_thn hi
  have h2 := is_els hi
  refine ⟨⟨?_, ?_⟩, ⟨?_, ?_⟩, ⟨?_, ?_⟩, ?_, ?_⟩ <;> omega
theorem apart {a b : HamD} (ha : isH f a = true) (hb : isH f b = true) (hne : b.at_ ≠ a.at_) : ((decide (a.thn ≥ 0) && (a.thn == b.thn || a.thn == b.els)) || (decide (a.els ≥ 0) && (a.els == b.thn || a.els == b.els))) = false := by
  unfold isH at ha hb
  simp only [Bool.and_eq_true] at ha hb
  have t1 := is_thn ha.2
  have t2 := is_els ha.2
  have t3 := is_thn hb.2
  have t4 := is_els hb.2
  have key : ∀ x y : Int, x ≥ 0 → (x = -1 ∨ (0 ≤ x ∧ x < f.blocks.length ∧ nth (ofD f).1.pred x = [a.at_])) → (y = -1 ∨ (0 ≤ y ∧ y < f.blocks.length ∧ nth (ofD f).1.pred y = [b.at_])) → (x == y) = false := by
    intro x y x0 hx hy
    rw [beq_eq_false_iff_ne]
    rintro rfl
    rcases hx with hx | hx
    · omega
    · rcases hy with hy | hy
      · omega
      · have e := hx.2.2.symm.trans hy.2.2
        simp at e
        exact hne e.symm
  have w1 : a.thn = -1 ∨ (0 ≤ a.thn ∧ a.thn < f.blocks.length ∧ nth (ofD f).1.pred a.thn = [a.at_]) := t1.imp id fun h => ⟨h.1, h.2.1, h.2.2.1⟩
  have w2 : a.els = -1 ∨ (0 ≤ a.els ∧ a.els < f.blocks.length ∧ nth (ofD f).1.pred a.els = [a.at_]) := t2.imp id fun h => ⟨h.1, h.2.1, h.2.2.1⟩
  have w3 : b.thn = -1 ∨ (0 ≤ b.thn ∧ b.thn < f.blocks.length ∧ nth (ofD f).1.pred b.thn = [b.at_]) := t3.imp id fun h => ⟨h.1, h.2.1, h.2.2.1⟩
  have w4 : b.els = -1 ∨ (0 ≤ b.els ∧ b.els < f.blocks.length ∧ nth (ofD f).1.pred b.els = [b.at_]) := t4.imp id fun h => ⟨h.1, h.2.1, h.2.2.1⟩
  by_cases c1 : a.thn ≥ 0 <;> by_cases c2 : a.els ≥ 0 <;> simp only [c1, c2, decide_true, decide_false, Bool.true_and, Bool.false_and, Bool.or_false, Bool.false_or]
  · rw [key _ _ c1 w1 w3, key _ _ c1 w1 w4, key _ _ c2 w2 w3, key _ _ c2 w2 w4]; rfl
  · rw [key _ _ c1 w1 w3, key _ _ c1 w1 w4]; rfl
  · rw [key _ _ c2 w2 w3, key _ _ c2 w2 w4]; rfl
theorem cost_len {h : HamD} (hi : isH f h = true) : costH f h = (opsD f h).length := by unfold costH; rw [if_pos hi]
theorem is_gg {h : HamD} (hi : isH f h = true) : okF f = true ∧ isD f (ofD f).1 h = true := by
  unfold isH at hi; simpa using hi
theorem cost_none {h : HamD} (hi : isH f h = false) : costH f h = 0 := by unfold costH; rw [if_neg (by rw [hi]; simp)]
theorem isH_no {h : HamD} (hok : okF f = true) (hq : isH f h = false) : isD f (ofD f).1 h = false := by unfold isH at hq; rw [hok] at hq; simpa using hq
def NoTo (f : FuncD) (gr : GraphD) (a s j : Int) : Prop := ∀ y : Int, 0 ≤ y → y < j → isD f gr (hamS f a s y) = false
theorem NoTo.step {a s j : Int} {h' : HamD} (h : NoTo f (ofD f).1 a s j) (hok : okF f = true) (e : hamS f a s j = h') (hq : isH f h' = false) : NoTo f (ofD f).1 a s (j + 1) := fun y y0 y1 => by
  by_cases ey : y = j
  · subst ey; rw [e]; exact isH_no hok hq
  · exact h y y0 (by omega)
def NoUp (f : FuncD) (gr : GraphD) (a s : Int) : Prop := ∀ t : Int, 0 ≤ t → t < s → NoS f gr a t
theorem NoUp.step {a s j : Int} (h : NoUp f gr a s) (hj : NoTo f gr a s j) (hn : ¬ j < f.blocks.length) : NoUp f gr a (s + 1) := fun t t0 t1 => by
  by_cases et : t = s
  · subst et; exact fun y y0 y1 => hj y y0 (by omega)
  · exact h t t0 (by omega)
end
end Go.Proofs.YtakameggkkjcpaaGreat
namespace Go.Proofs.YtakameggkkjcpaaGreat
open Go Go.RowKit
section
variable {P : Program} {T : List TRow} {fn : Func} {w0 : World} {H0 : Hp} {X : List Nat} {F : Fk} {H : Hp} {L : List Chunk} {ty : TypeId} {pos : String} {af : Array Edge} {g : Option (Nat × Bool)} {dst : Option Nat}
def quadB (a b c d a' b' c' d' : Int) : Bool := (a == a') && ((b == b') && ((c == c') && (d == d')))
def isQuad (P : Program) (t e : Nat) : Bool := (P.fieldsOf t).toList.map (fun f => (f.name == "_", f.type, f.offset)) == [(false, e, 0), (false, e, 1), (false, e, 2), (false, e, 3)]
theorem run_equal_quad (hT : TabOK P T) {t e : Nat} {q : TRow} (ht : P.underlying t = some (.struct (P.fieldsOf t))) (hp : P.stoodInHeld t = false) (hf : isQuad P t e = true) (hq : trow T e = some q) (hqk : q.kind = .int .i64) (hqs : q.size = 1) (a b c d a' b' c' d' : Int) (w : World) :
    (Op.equalIn 10000 t (.agg #[.int .i64 a, .int .i64 b, .int .i64 c, .int .i64 d]) (.agg #[.int .i64 a', .int .i64 b', .int .i64 c', .int .i64 d'])).run P w = .ok (quadB a b c d a' b' c' d') w := by
  have hi := (hT.row hq).int hqk
  have hpt : ∀ (xs : List Value) (off : Nat) (x : Int) w, partOf q xs off = some (.int .i64 x) → (part e xs.toArray off).run P w = .ok (.int .i64 x) w := fun xs off x w h => (hT.row hq).part h w
  have heq : ∀ (x y : Int) w, (Op.equalIn 9999 e (.int .i64 x) (.int .i64 y)).run P w = .ok (x == y) w := fun x y w => run_equalIn_int w 9998 e .i64 .i64 x y hi
  rw [run_equalIn_struct w 9999 t _ _ ht hp]
  have hf' := eq_of_beq hf
  generalize (P.fieldsOf t).toList = fs at hf'
  rcases fs with _ | ⟨f0, _ | ⟨f1, _ | ⟨f2, _ | ⟨f3, _ | ⟨f4, fs⟩⟩⟩⟩⟩ <;> try (simp at hf'; done)
  · simp only [List.map_cons, List.map_nil, List.cons.injEq, Prod.mk.injEq, and_true, beq_eq_false_iff_ne, ne_eq] at hf'
    obtain ⟨⟨n0, t0, o0⟩, ⟨n1, t1, o1⟩, ⟨n2, t2, o2⟩, n3, t3, o3⟩ := hf'
    have po : ∀ (x y z u : Int) (w : World), (part e #[.int .i64 x, .int .i64 y, .int .i64 z, .int .i64 u] 0).run P w = .ok (.int .i64 x) w ∧ (part e #[.int .i64 x, .int .i64 y, .int .i64 z, .int .i64 u] 1).run P w = .ok (.int .i64 y) w ∧ (part e #[.int .i64 x, .int .i64 y, .int .i64 z, .int .i64 u] 2).run P w = .ok (.int .i64 z) w ∧ (part e #[.int .i64 x, .int .i64 y, .int .i64 z, .int .i64 u] 3).run P w = .ok (.int .i64 u) w := fun x y z u w =>
      ⟨hpt [.int .i64 x, .int .i64 y, .int .i64 z, .int .i64 u] 0 x w (by simp [partOf, hqs, hqk, TK.agg, mkv]; rfl), hpt [.int .i64 x, .int .i64 y, .int .i64 z, .int .i64 u] 1 y w (by simp [partOf, hqs, hqk, TK.agg, mkv]; rfl), hpt [.int .i64 x, .int .i64 y, .int .i64 z, .int .i64 u] 2 z w (by simp [partOf, hqs, hqk, TK.agg, mkv]; rfl), hpt [.int .i64 x, .int .i64 y, .int .i64 z, .int .i64 u] 3 u w (by simp [partOf, hqs, hqk, TK.agg, mkv]; rfl)⟩
    have p1 := po a b c d
    have p2 := po a' b' c' d'
    have step : ∀ (f : Field) (fs : List Field) (xs ys : Array Value) (x y : Int) (w : World), ¬ f.name = "_" → f.type = e → (∀ w, (part e xs f.offset).run P w = .ok (.int .i64 x) w) → (∀ w, (part e ys f.offset).run P w = .ok (.int .i64 y) w) → (Op.eqFields 9999 xs ys (f :: fs)).run P w = bif x == y then (Op.eqFields 9999 xs ys fs).run P w else .ok false w := by
      intro f fs xs ys x y w hn ht hx hy
      simp only [Op.eqFields, hn, not_false_eq_true, ne_eq, if_true, ht, Sem.run_bind, hx, hy, Result.andThen_ok, heq]
      cases x == y <;> simp
    rw [step f0 _ _ _ a a' w n0 t0 (fun w => by rw [o0]; exact (p1 w).1) (fun w => by rw [o0]; exact (p2 w).1), step f1 _ _ _ b b' w n1 t1 (fun w => by rw [o1]; exact (p1 w).2.1) (fun w => by rw [o1]; exact (p2 w).2.1),
      step f2 _ _ _ c c' w n2 t2 (fun w => by rw [o2]; exact (p1 w).2.2.1) (fun w => by rw [o2]; exact (p2 w).2.2.1), step f3 _ _ _ d d' w n3 t3 (fun w => by rw [o3]; exact (p1 w).2.2.2) (fun w => by rw [o3]; exact (p2 w).2.2.2)]
    unfold quadB
    cases a == a' <;> cases b == b' <;> cases c == c' <;> cases d == d' <;> simp [Op.eqFields]
theorem RunY.eqQuad (hT : TabOK P T) {t ty' e : Nat} {x y : Operand} {q : TRow} {a b c d a' b' c' d' : Int} (hx : evk F x = some (.agg #[.int .i64 a, .int .i64 b, .int .i64 c, .int .i64 d])) (hy : evk F y = some (.agg #[.int .i64 a', .int .i64 b', .int .i64 c', .int .i64 d']))
    (hq : trow T e = some q) (hqk : q.kind = .int .i64) (hqs : q.size = 1) (ht : P.underlying t = some (.struct (P.fieldsOf t))) (hp : P.stoodInHeld t = false) (hf : isQuad P t e = true) (hg : P.eqGuardType P.depth t = false) : RunY P fn w0 H0 X F H L ⟨dst, .binOp .eql t x y ty', ty, pos, af, g⟩ (.bool (quadB a b c d a' b' c' d')) := fun act w ha _ => by
  have h1 := run_eqGuard_agg (P := P) (w := w) .eql t x y #[.int .i64 a, .int .i64 b, .int .i64 c, .int .i64 d] #[.int .i64 a', .int .i64 b', .int .i64 c', .int .i64 d'] hg
  simp [execOp, ha.eval hx, ha.eval hy, h1, run_eql_struct, run_equal_quad (P := P) hT ht hp hf hq hqk hqs]
theorem RunY.neQuad (hT : TabOK P T) {t ty' e : Nat} {x y : Operand} {q : TRow} {a b c d a' b' c' d' : Int} (hx : evk F x = some (.agg #[.int .i64 a, .int .i64 b, .int .i64 c, .int .i64 d])) (hy : evk F y = some (.agg #[.int .i64 a', .int .i64 b', .int .i64 c', .int .i64 d']))
    (hq : trow T e = some q) (hqk : q.kind = .int .i64) (hqs : q.size = 1) (ht : P.underlying t = some (.struct (P.fieldsOf t))) (hp : P.stoodInHeld t = false) (hf : isQuad P t e = true) (hg : P.eqGuardType P.depth t = false) : RunY P fn w0 H0 X F H L ⟨dst, .binOp .neq t x y ty', ty, pos, af, g⟩ (.bool (!quadB a b c d a' b' c' d')) := fun act w ha _ => by
  have h1 := run_eqGuard_agg (P := P) (w := w) .neq t x y #[.int .i64 a, .int .i64 b, .int .i64 c, .int .i64 d] #[.int .i64 a', .int .i64 b', .int .i64 c', .int .i64 d'] hg
  simp [execOp, ha.eval hx, ha.eval hy, h1, run_neq_struct, run_equal_quad (P := P) hT ht hp hf hq hqk hqs]
end
theorem HCells.app {H : Hp} {b o : Nat} {cs ds : List Value} (h : HCells H b o cs) (h2 : HCells H b (o + cs.length) ds) : HCells H b o (cs ++ ds) := fun j u hu => by
  rw [List.getElem?_append] at hu
  split at hu
  · exact h j u hu
  · rename_i hj
    have := h2 (j - cs.length) u hu
    rwa [show o + cs.length + (j - cs.length) = o + j from by omega] at this
theorem cells_of {α : Type} [Rdc α] {H : Hp} {b : Nat} : ∀ (xs : List α) (o : Nat), (∀ (i : Nat) x, xs[i]? = some x → ∃ cs, Rdc.rd H cs x ∧ HCells H b (o + i * Rdc.sz α) cs) → ∃ cs, RdL H cs xs ∧ HCells H b o cs
  | [], o, _ => ⟨[], rfl, HCells.nil _ _ _⟩
  | x :: l, o, h => by
    obtain ⟨c0, r0, k0⟩ := h 0 x rfl
    obtain ⟨cs, r1, k1⟩ := cells_of l (o + Rdc.sz α) fun i y hy => by
      have := h (i + 1) y (by simpa using hy)
      rwa [show o + (i + 1) * Rdc.sz α = o + Rdc.sz α + i * Rdc.sz α from by rw [Nat.add_mul, Nat.one_mul]; omega] at this
    rw [Nat.zero_mul, Nat.add_zero] at k0
    exact ⟨c0 ++ cs, ⟨c0, cs, rfl, r0, r1⟩, k0.app (by rw [Rdc.len r0]; exact k1)⟩
theorem RdS.cells {α : Type} [Rdc α] {H : Hp} {A : Option Addr} {xs : List α} (h : RdS H A xs) : ∃ cs, RdL H cs xs ∧ ((xs = [] ∧ cs = []) ∨ ∃ b o, A = some ⟨b, o, none⟩ ∧ HCells H b o cs) := by
  rcases h.2 with rfl | ⟨b, o, e, k⟩
  · exact ⟨[], rfl, .inl ⟨rfl, rfl⟩⟩
  · obtain ⟨cs, h1, h2⟩ := cells_of xs o k
    exact ⟨cs, h1, .inr ⟨b, o, e, h2⟩⟩
section
variable {P : Program} {T : List TRow} {fn : Func} {w0 : World} {H0 : Hp} {X : List Nat} {k : List Item} {F : Fk} {H : Hp} {L : List Chunk} {R : Ending → World → Prop} {ops : Array Oper}
theorem WpG.appendR {α : Type} [Rdc α] (hT : TabOK P T) {i : Nat} {rest : List Nat} {d t e ci : Nat} {x y : Operand} {ty : TypeId} {pos : String} {af : Array Edge} {g : Option (Nat × Bool)} {A B : Option Addr} {n c c2 : Nat} {xs : List Value} {ys : List α} {r q : TRow} {H1 : Hp}
    (ho : ops[i]? = some ⟨some d, .call ⟨.builtin .append, #[x, y], #[t, t]⟩, ty, pos, af, g⟩) (hw : wantk ops F g = some true) (hn : Nat.blt d fn.ntmps = true) (hx : evk F x = some (.slice A n c)) (hy : evk F y = some (.slice B ys.length c2))
    (hr : trow T t = some r) (hk : r.kind = .slice e) (hq : trow T e = some q) (hbz : (Nat.ble q.bytes 65536 && Nat.blt 0 q.size && Nat.beq (cellsL q.zero).length q.size) = true)
    (hL : L[ci]? = some (Chunk.own e q.size A c n xs)) (hsz : Rdc.sz α = q.size) (hR : RdS H1 B ys) (hH : H1.le H) (hlen : n + ys.length ≤ 2147483648)
    (h : ∀ A' c' cs, RdL H cs ys → WpG P fn w0 H0 X (.inRegion ops rest :: k) ((d, .slice A' (n + ys.length) c') :: F) H (L.set ci (Chunk.own e q.size A' c' (n + ys.length) (xs ++ cs))) R) : WpG P fn w0 H0 X (.inRegion ops (i :: rest) :: k) F H L R := by
  obtain ⟨cs, h1, h2⟩ := (hR.mono hH).cells
  refine WpG.append hT ho hw hn hx hy hr hk hq hbz hL (hsz ▸ h1.len) h1.one ?_ hlen fun A' c' => h A' c' cs h1
  rcases h2 with ⟨rfl, rfl⟩ | ⟨b, o, rfl, hc⟩
  · exact .inl ⟨rfl, rfl⟩
  · exact Src.hp hc (Hp.le.refl _)
end
theorem rows_retG {α : Type} [Rdc α] {H : Hp} {A : Option Addr} {n c : Nat} {l l' : List α} (e : l = l') (hn : n = l.length) (hc : n ≤ c) (r : RdS H A l) : ∃ A' c', Value.slice A n c = .slice A' l'.length c' ∧ l'.length ≤ c' ∧ RdS H A' l' ∧ ([] : List Chunk) = [] := by
  subst e; subst hn; exact ⟨A, c, rfl, hc, r, rfl⟩
end Go.Proofs.YtakameggkkjcpaaGreat
set_option maxRecDepth 4000
namespace Go.Proofs.YtakameggkkjcpaaGreat
open Go Go.RowKit
theorem hBetween_calls {H : Hp} {f : FuncD} {cs_f : List Value} (rd_f : Rdc.rd H cs_f f) {gr : GraphD} {cs_gr : List Value} (rd_gr : Rdc.rd H cs_gr gr) (hg : GG f gr) (a x j : Int) (ha : I64 a) : CallG Tryz.prog 96 [.agg cs_f.toArray, .agg cs_gr.toArray, .int .i64 a, .int .i64 x, .int .i64 j] H [] (fun v _ L' => v = .bool (betweenD f gr a x j) ∧ L' = []) := by
 have rd_f' := rd_f; obtain ⟨A_f_0, c_f_0, A_f_2, c_f_2, rfl, u_f_0, r_f_0, u_f_2, r_f_2, k_f_0⟩ := rd_f
 have rd_gr' := rd_gr; obtain ⟨A_gr_0, c_gr_0, A_gr_1, c_gr_1, rfl, u_gr_0, r_gr_0, u_gr_1, r_gr_1⟩ := rd_gr
 have bf := r_f_2.1; have hgp := hg.pl
 refine CallG.of Tryz.func96 rfl rfl rfl fun w0 => ?_
 refine WpG.g tabOK 2 rfl ?_
 refine WpG.box rfl rfl rfl rfl rfl (fun b1 => ?_)
 refine WpG.freezeBox (ci := 0) rfl (fun H2 hH2 hc2 => ?_)
 refine WpG.box rfl rfl rfl rfl rfl (fun b3 => ?_)
 refine WpG.freezeBox (ci := 0) rfl (fun H4 hH4 hc4 => ?_)
 refine WpG.g tabOK 4 rfl ?_
 apply WpG.join (G := [(2, .int .i64 a), (3, .int .i64 x), (4, .int .i64 j), (5, .pointer (some ⟨b1, 0, none⟩)), (6, .pointer (some ⟨b3, 0, none⟩)), (20, .bool ((decide (x < 0)) || (decide (x ≥ (f.blocks.length : Int)))))])
 ·intro nx5
  refine WpG.g tabOK 1 rfl ?_
  refine WpG.g tabOK 3 rfl ?_
  refine WpG.caseD (t := 14) rfl (fun q14 => ?_) (fun q14 => ?_)
  ·refine WpG.g tabOK 7 rfl ?_
   exact nx5.weak ⟨rfl, rfl, rfl, rfl, rfl, bq (by simp [q14]), trivial⟩
  refine WpG.g tabOK 2 rfl ?_
  refine WpG.y rfl rfl rfl rfl (RunY.loadH tabOK (hc2.sub 2 1) hH4 rfl rfl rfl rfl) ?_
  refine WpG.g tabOK 4 rfl ?_
  exact nx5.weak ⟨rfl, rfl, rfl, rfl, rfl, bq (by simp [q14]), trivial⟩
 refine WpG.caseB (t := 20) rfl (fun q20 => ?_) (fun q20 => ?_)
 ·have hx : x < 0 ∨ x ≥ f.blocks.length := by simpa using q20
  refine WpG.g tabOK 5 rfl ?_
  exact WpG.ret tabOK (L' := []) (.tmp rfl .nil) .slnil ⟨congrArg Value.bool (by unfold betweenD; rw [if_pos hx]), rfl⟩
 have hx : ¬ (x < 0 ∨ x ≥ f.blocks.length) := by simpa using q20
 refine WpG.g tabOK 5 rfl ?_
 refine WpG.y rfl rfl rfl rfl (RunY.loadH tabOK (hc2.sub 2 1) hH4 rfl rfl rfl rfl) ?_
 refine WpG.g tabOK 1 rfl ?_
 refine WpG.indexR tabOK rfl rfl rfl rfl rfl rfl rfl rfl rfl r_f_2 (by omega) (by omega) ?_
 rintro x6 hx6 b6 o6 cs6 rd6 hc6
 have rd6' := rd6; obtain ⟨A6_0, c6_0, A6_1, c6_1, A6_4, c6_4, rfl, u6_0, r6_0, u6_1, r6_1, u6_4, r6_4, k6_0, k6_1⟩ := rd6
 have bz6_0 := r6_0.1
 have bz6_1 := r6_1.1
 have bz6_4 := r6_4.1
 obtain rfl : x6 = (nth f.blocks x) := hx6
 refine WpG.y rfl rfl rfl rfl (RunY.loadH tabOK hc6 (hH2.trans hH4) rfl rfl rfl rfl) ?_
 refine WpG.alloc tabOK rfl rfl rfl rfl rfl (fun b7 => ?_)
 refine WpG.storeBox (ci := 0) (cs' := [.slice A6_0 ((nth f.blocks x).phis.length) c6_0, .slice A6_1 ((nth f.blocks x).ops.length) c6_1, .int .i64 ((nth f.blocks x).en.kind), .int .i64 ((nth f.blocks x).en.arg), .slice A6_4 ((nth f.blocks x).en.to.length) c6_4]) tabOK rfl rfl rfl rfl rfl rfl rfl rfl rfl ?_
 refine WpG.freezeBox (ci := 0) rfl (fun H8 hH8 hc8 => ?_)
 refine WpG.g tabOK 4 rfl ?_
 refine WpG.y rfl rfl rfl rfl (RunY.loadH tabOK (hc4.sub 1 1) hH8 rfl rfl rfl rfl) ?_
 refine WpG.g tabOK 1 rfl ?_
 refine WpG.indexR tabOK rfl rfl rfl rfl rfl rfl rfl rfl rfl r_gr_1 (by omega) (by omega) ?_
 rintro x9 hx9 b9 o9 _ ⟨A9, c9, rfl, u9, r9⟩ hc9
 have bz9 := r9.1
 obtain rfl : x9 = (nth gr.pred x) := hx9
 refine WpG.y rfl rfl rfl rfl (RunY.loadH tabOK hc9 ((hH2.trans hH4).trans hH8) rfl rfl rfl rfl) ?_
 refine WpG.g tabOK 1 rfl ?_
 refine WpG.buildSlice (xs := [.int .i64 a]) tabOK rfl rfl rfl rfl rfl rfl rfl rfl rfl rfl (fun b10 => ?_)
 refine WpG.ownCap (ci := 0) rfl (fun uz12 => ?_)
 refine WpG.freezeOwn (ci := 0) rfl (fun H12 hH12 fz12 => ?_)
 have rz12 : RdS H12 (some ⟨b10, 0, none⟩) [a] := RdS.of_own (H := H8) (show RdL H8 [.int .i64 a] [a] from RdL_ints [a] ⟨ha, trivial⟩) (rfl) (by simp) hH12 fz12
 refine WpG.callS rfl rfl rfl rfl rfl rfl hlr (have z := Equal_calls (r9.mono (((hH2.trans hH4).trans hH8).trans hH12)) rz12; z) ?_
 refine WpG.lessH ((hH2.trans hH4).trans hH8) hH12 ?_
 refine WpG.g tabOK 1 rfl ?_
 refine WpG.caseB (t := 34) rfl (fun q34 => ?_) (fun q34 => ?_)
 ·refine WpG.g tabOK 1 rfl ?_
  refine WpG.y rfl rfl rfl rfl (RunY.loadH tabOK (hc8.sub 0 1) hlr rfl rfl rfl rfl) ?_
  refine WpG.g tabOK 4 rfl ?_
  refine WpG.caseE (t := 40) rfl (fun q40 => ?_) (fun q40 => ?_)
  ·refine WpG.g tabOK 2 rfl ?_
   refine WpG.y rfl rfl rfl rfl (RunY.loadH tabOK (hc8.sub 2 1) hlr rfl rfl rfl rfl) ?_
   refine WpG.g tabOK 3 rfl ?_
   refine WpG.caseE (t := 46) rfl (fun q46 => ?_) (fun q46 => ?_)
   ·have hl1 := hg.one (by omega) (by omega) q46
    refine WpG.g tabOK 2 rfl ?_
    refine WpG.y rfl rfl rfl rfl (RunY.loadH tabOK (hc8.sub 4 1) hlr rfl rfl rfl rfl) ?_
    refine WpG.indexR tabOK rfl rfl rfl rfl rfl rfl rfl rfl rfl r6_4 (by omega) (by omega) ?_
    rintro x13 hx13 b13 o13 _ ⟨rfl, k13⟩ hc13
    obtain rfl : x13 = (nth ((nth f.blocks x).en.to) 0) := hx13
    refine WpG.y rfl rfl rfl rfl (RunY.loadH tabOK hc13 ((hH2.trans hH4).trans hH8) rfl rfl rfl rfl) ?_
    refine WpG.g tabOK 5 rfl ?_
    exact WpG.ret tabOK (L' := []) (.tmp rfl .nil) .slnil ⟨congrArg Value.bool (by unfold betweenD; rw [if_neg hx]; simp [q34, q40, q46]), rfl⟩
   refine WpG.g tabOK 10 rfl ?_
   exact WpG.ret tabOK (L' := []) (.tmp rfl .nil) .slnil ⟨congrArg Value.bool (by unfold betweenD; rw [if_neg hx, q34, q40, beq_false_of_ne q46]; rfl), rfl⟩
  refine WpG.g tabOK 16 rfl ?_
  exact WpG.ret tabOK (L' := []) (.tmp rfl .nil) .slnil ⟨congrArg Value.bool (by unfold betweenD; rw [if_neg hx, q34, beq_false_of_ne q40]; rfl), rfl⟩
 refine WpG.g tabOK 22 rfl ?_
 exact WpG.ret tabOK (L' := []) (.tmp rfl .nil) .slnil ⟨congrArg Value.bool (by unfold betweenD; rw [if_neg hx]; simp [q34]), rfl⟩
theorem hSide_calls {H : Hp} {f : FuncD} {cs_f : List Value} (rd_f : Rdc.rd H cs_f f) {gr : GraphD} {cs_gr : List Value} (rd_gr : Rdc.rd H cs_gr gr) (hg : GG f gr) (a to_ x j : Int) (ha : I64 a) : CallG Tryz.prog 63 [.agg cs_f.toArray, .agg cs_gr.toArray, .int .i64 a, .int .i64 to_, .int .i64 x, .int .i64 j] H [] (fun v _ L' => v = .bool (sideD f gr a to_ x j) ∧ L' = []) := by
 have rd_f' := rd_f; obtain ⟨A_f_0, c_f_0, A_f_2, c_f_2, rfl, u_f_0, r_f_0, u_f_2, r_f_2, k_f_0⟩ := rd_f
 have rd_gr' := rd_gr; obtain ⟨A_gr_0, c_gr_0, A_gr_1, c_gr_1, rfl, u_gr_0, r_gr_0, u_gr_1, r_gr_1⟩ := rd_gr
 have bf := r_f_2.1; have hgp := hg.pl
 refine CallG.of Tryz.func63 rfl rfl rfl fun w0 => ?_
 refine WpG.g tabOK 2 rfl ?_
 refine WpG.box rfl rfl rfl rfl rfl (fun b1 => ?_)
 refine WpG.freezeBox (ci := 0) rfl (fun H2 hH2 hc2 => ?_)
 refine WpG.box rfl rfl rfl rfl rfl (fun b3 => ?_)
 refine WpG.freezeBox (ci := 0) rfl (fun H4 hH4 hc4 => ?_)
 refine WpG.g tabOK 8 rfl ?_
 refine WpG.caseE (t := 14) rfl (fun q14 => ?_) (fun q14 => ?_)
 ·refine WpG.g tabOK 8 rfl ?_
  exact WpG.ret tabOK (L' := []) (.tmp rfl .nil) .slnil ⟨congrArg Value.bool (by unfold sideD; rw [if_pos q14]), rfl⟩
 refine WpG.g tabOK 3 rfl ?_
 apply WpG.join (G := [(12, .bool ((x == to_) && (betweenD f gr a x j)))])
 ·intro nx5
  refine WpG.g tabOK 1 rfl ?_
  refine WpG.g tabOK 4 rfl ?_
  refine WpG.caseE (t := 21) rfl (fun q21 => ?_) (fun q21 => ?_)
  ·refine WpG.y rfl rfl rfl rfl (RunY.loadH tabOK hc2 hH4 rfl rfl rfl rfl) ?_
   refine WpG.y rfl rfl rfl rfl (RunY.loadH tabOK hc4 hlr rfl rfl rfl rfl) ?_
   refine WpG.g tabOK 3 rfl ?_
   refine WpG.callS rfl rfl rfl rfl rfl rfl hlr (hBetween_calls (Rdc.mono (hH2.trans hH4) rd_f') (Rdc.mono (hH2.trans hH4) rd_gr') hg a x j ha) ?_
   refine WpG.g tabOK 3 rfl ?_
   exact nx5.weak ⟨bq (by simp [q21]), trivial⟩
  refine WpG.g tabOK 9 rfl ?_
  exact nx5.weak ⟨bq (by simp [q21, nb q21]), trivial⟩
 exact WpG.ret tabOK (L' := []) (.tmp rfl .nil) .slnil ⟨congrArg Value.bool (by unfold sideD; rw [if_neg q14]), rfl⟩
theorem hIs_calls {H : Hp} {f : FuncD} {cs_f : List Value} (rd_f : Rdc.rd H cs_f f) {gr : GraphD} {cs_gr : List Value} (rd_gr : Rdc.rd H cs_gr gr) (hg : GG f gr) (h : HamD) (ha : I64 h.at_) : CallG Tryz.prog 29 [.agg cs_f.toArray, .agg cs_gr.toArray, hamV h] H [] (fun v _ L' => v = .bool (isD f gr h) ∧ L' = []) := by
 have rd_f' := rd_f; obtain ⟨A_f_0, c_f_0, A_f_2, c_f_2, rfl, u_f_0, r_f_0, u_f_2, r_f_2, k_f_0⟩ := rd_f
 have rd_gr' := rd_gr; obtain ⟨A_gr_0, c_gr_0, A_gr_1, c_gr_1, rfl, u_gr_0, r_gr_0, u_gr_1, r_gr_1⟩ := rd_gr
 have bf := r_f_2.1; have hgp := hg.pl
 refine CallG.of Tryz.func29 rfl rfl rfl fun w0 => ?_
 refine WpG.g tabOK 2 rfl ?_
 refine WpG.box rfl rfl rfl rfl rfl (fun b1 => ?_)
 refine WpG.freezeBox (ci := 0) rfl (fun H2 hH2 hc2 => ?_)
 refine WpG.box rfl rfl rfl rfl rfl (fun b3 => ?_)
 refine WpG.freezeBox (ci := 0) rfl (fun H4 hH4 hc4 => ?_)
 refine WpG.box rfl rfl rfl rfl rfl (fun b5 => ?_)
 refine WpG.freezeBox (ci := 0) rfl (fun H6 hH6 hc6 => ?_)
 refine WpG.g tabOK 5 rfl ?_
 refine WpG.y rfl rfl rfl rfl (RunY.loadH tabOK (hc2.sub 2 1) (hH4.trans hH6) rfl rfl rfl rfl) ?_
 refine WpG.g tabOK 5 rfl ?_
 apply WpG.join (G := [(3, .pointer (some ⟨b1, 0, none⟩)), (4, .pointer (some ⟨b3, 0, none⟩)), (5, .pointer (some ⟨b5, 0, none⟩)), (48, .bool ((((((decide (h.at_ < 0)) || (decide (h.at_ ≥ (f.blocks.length : Int)))) || (decide (h.join < 0))) || (decide (h.join ≥ (f.blocks.length : Int)))) || (h.join == h.at_)) || ((h.thn == (-1)) && (h.els == (-1)))))])
 ·intro nx7
  refine WpG.g tabOK 1 rfl ?_
  refine WpG.g tabOK 1 rfl ?_
  refine WpG.y rfl rfl rfl rfl (RunY.loadH tabOK (hc6.sub 0 1) hlr rfl rfl rfl rfl) ?_
  refine WpG.g tabOK 2 rfl ?_
  refine WpG.caseD (t := 15) rfl (fun q15 => ?_) (fun q15 => ?_)
  ·refine WpG.g tabOK 34 rfl ?_
   exact nx7.weak ⟨rfl, rfl, rfl, bq (by simp [q15]), trivial⟩
  refine WpG.g tabOK 1 rfl ?_
  refine WpG.y rfl rfl rfl rfl (RunY.loadH tabOK (hc6.sub 0 1) hlr rfl rfl rfl rfl) ?_
  refine WpG.g tabOK 4 rfl ?_
  refine WpG.caseD (t := 21) rfl (fun q21 => ?_) (fun q21 => ?_)
  ·refine WpG.g tabOK 28 rfl ?_
   exact nx7.weak ⟨rfl, rfl, rfl, bq (by simp [q15, q21]), trivial⟩
  refine WpG.g tabOK 1 rfl ?_
  refine WpG.y rfl rfl rfl rfl (RunY.loadH tabOK (hc6.sub 3 1) hlr rfl rfl rfl rfl) ?_
  refine WpG.g tabOK 3 rfl ?_
  refine WpG.caseD (t := 26) rfl (fun q26 => ?_) (fun q26 => ?_)
  ·refine WpG.g tabOK 23 rfl ?_
   exact nx7.weak ⟨rfl, rfl, rfl, bq (by simp [q15, q21, q26]), trivial⟩
  refine WpG.g tabOK 1 rfl ?_
  refine WpG.y rfl rfl rfl rfl (RunY.loadH tabOK (hc6.sub 3 1) hlr rfl rfl rfl rfl) ?_
  refine WpG.g tabOK 4 rfl ?_
  refine WpG.caseD (t := 32) rfl (fun q32 => ?_) (fun q32 => ?_)
  ·refine WpG.g tabOK 17 rfl ?_
   exact nx7.weak ⟨rfl, rfl, rfl, bq (by simp [q15, q21, q26, q32]), trivial⟩
  refine WpG.g tabOK 1 rfl ?_
  refine WpG.y rfl rfl rfl rfl (RunY.loadH tabOK (hc6.sub 3 1) hlr rfl rfl rfl rfl) ?_
  refine WpG.g tabOK 1 rfl ?_
  refine WpG.y rfl rfl rfl rfl (RunY.loadH tabOK (hc6.sub 0 1) hlr rfl rfl rfl rfl) ?_
  refine WpG.g tabOK 3 rfl ?_
  refine WpG.caseE (t := 39) rfl (fun q39 => ?_) (fun q39 => ?_)
  ·refine WpG.g tabOK 10 rfl ?_
   exact nx7.weak ⟨rfl, rfl, rfl, bq (by simp [q15, q21, q26, q32, q39]), trivial⟩
  refine WpG.g tabOK 1 rfl ?_
  refine WpG.y rfl rfl rfl rfl (RunY.loadH tabOK (hc6.sub 1 1) hlr rfl rfl rfl rfl) ?_
  refine WpG.g tabOK 2 rfl ?_
  refine WpG.caseE (t := 43) rfl (fun q43 => ?_) (fun q43 => ?_)
  ·refine WpG.g tabOK 1 rfl ?_
   refine WpG.y rfl rfl rfl rfl (RunY.loadH tabOK (hc6.sub 2 1) hlr rfl rfl rfl rfl) ?_
   refine WpG.g tabOK 4 rfl ?_
   exact nx7.weak ⟨rfl, rfl, rfl, bq (by simp [q15, q21, q26, q32, q39, nb q39, q43]), trivial⟩
  refine WpG.g tabOK 6 rfl ?_
  exact nx7.weak ⟨rfl, rfl, rfl, bq (by simp [q15, q21, q26, q32, q39, nb q39, q43, nb q43]), trivial⟩
 refine WpG.caseB (t := 48) rfl (fun q48 => ?_) (fun q48 => ?_)
 ·have ho : outH f h := by unfold outH; simp at q48; omega
  refine WpG.g tabOK 5 rfl ?_
  exact WpG.ret tabOK (L' := []) (.tmp rfl .nil) .slnil ⟨congrArg Value.bool (by unfold isD; rw [if_pos ho]), rfl⟩
 have ho : ¬ outH f h := by unfold outH; simp at q48; omega
 have ho2 : 0 ≤ h.at_ ∧ h.at_ < f.blocks.length := by unfold outH at ho; omega
 refine WpG.g tabOK 5 rfl ?_
 refine WpG.y rfl rfl rfl rfl (RunY.loadH tabOK (hc2.sub 2 1) (hH4.trans hH6) rfl rfl rfl rfl) ?_
 refine WpG.g tabOK 1 rfl ?_
 refine WpG.y rfl rfl rfl rfl (RunY.loadH tabOK (hc6.sub 0 1) hlr rfl rfl rfl rfl) ?_
 refine WpG.indexR tabOK rfl rfl rfl rfl rfl rfl rfl rfl rfl r_f_2 (by omega) (by omega) ?_
 rintro x8 hx8 b8 o8 cs8 rd8 hc8
 have rd8' := rd8; obtain ⟨A8_0, c8_0, A8_1, c8_1, A8_4, c8_4, rfl, u8_0, r8_0, u8_1, r8_1, u8_4, r8_4, k8_0, k8_1⟩ := rd8
 have bz8_0 := r8_0.1
 have bz8_1 := r8_1.1
 have bz8_4 := r8_4.1
 obtain rfl : x8 = (nth f.blocks h.at_) := hx8
 refine WpG.g tabOK 1 rfl ?_
 refine WpG.y rfl rfl rfl rfl (RunY.loadH tabOK (hc8.sub 2 3) ((hH2.trans hH4).trans hH6) rfl rfl rfl rfl) ?_
 refine WpG.alloc tabOK rfl rfl rfl rfl rfl (fun b9 => ?_)
 refine WpG.storeBox (ci := 0) (cs' := [.int .i64 ((nth f.blocks h.at_).en.kind), .int .i64 ((nth f.blocks h.at_).en.arg), .slice A8_4 ((nth f.blocks h.at_).en.to.length) c8_4]) tabOK rfl rfl rfl rfl rfl rfl rfl rfl rfl ?_
 refine WpG.freezeBox (ci := 0) rfl (fun H10 hH10 hc10 => ?_)
 refine WpG.g tabOK 2 rfl ?_
 refine WpG.draw 45 [] mixed (by kernel_rfl) ?_
 refine WpD.g (listed' := lst 45 1) tabOK [0] (by kernel_rfl) rfl (((hH2.trans hH4).trans hH6).trans hH10) hlr .slnil ?_
 refine WpD.y (i := 1) (fuel := 43) (listed' := lst 45 3) (by kernel_rfl) rfl rfl rfl rfl (((hH2.trans hH4).trans hH6).trans hH10) hlr .slnil (RunY.loadH tabOK (hc10.sub 0 1) hlr rfl rfl rfl rfl) ?_
 refine WpD.g (listed' := lst 45 15) tabOK [2, 3] (by kernel_rfl) rfl (((hH2.trans hH4).trans hH6).trans hH10) hlr .slnil ?_
 refine WpD.caseE (t := 59) rfl (fun q59 => ?_) (fun q59 => ?_)
 ·have ht2 := hg.two ho2.1 ho2.2 q59
  refine WpD.g (listed' := lst 45 287) tabOK [4, 8] (by kernel_rfl) rfl (((hH2.trans hH4).trans hH6).trans hH10) hlr .slnil ?_
  refine WpD.y (i := 5) (fuel := 38) (listed' := lst 45 319) (by kernel_rfl) rfl rfl rfl rfl (((hH2.trans hH4).trans hH6).trans hH10) hlr .slnil (RunY.loadH tabOK (hc10.sub 2 1) hlr rfl rfl rfl rfl) ?_
  refine WpD.indexR (i := 6) (fuel := 37) (listed' := lst 45 383) tabOK (by kernel_rfl) rfl rfl rfl rfl rfl rfl rfl rfl rfl (((hH2.trans hH4).trans hH6).trans hH10) hlr .slnil r8_4 (by omega) (by omega) ?_
  rintro x11 hx11 b11 o11 _ ⟨rfl, k11⟩ hc11
  obtain rfl : x11 = (nth ((nth f.blocks h.at_).en.to) 0) := hx11
  refine WpD.y (i := 7) (fuel := 36) (listed' := lst 45 511) (by kernel_rfl) rfl rfl rfl rfl (((hH2.trans hH4).trans hH6).trans hH10) hlr .slnil (RunY.loadH tabOK hc11 (((hH2.trans hH4).trans hH6).trans hH10) rfl rfl rfl rfl) ?_
  refine WpD.y (i := 9) (fuel := 35) (listed' := lst 45 1023) (by kernel_rfl) rfl rfl rfl rfl (((hH2.trans hH4).trans hH6).trans hH10) hlr .slnil (RunY.loadH tabOK (hc10.sub 2 1) hlr rfl rfl rfl rfl) ?_
  refine WpD.indexR (i := 10) (fuel := 34) (listed' := lst 45 2047) tabOK (by kernel_rfl) rfl rfl rfl rfl rfl rfl rfl rfl rfl (((hH2.trans hH4).trans hH6).trans hH10) hlr .slnil r8_4 (by omega) (by omega) ?_
  rintro x12 hx12 b12 o12 _ ⟨rfl, k12⟩ hc12
  obtain rfl : x12 = (nth ((nth f.blocks h.at_).en.to) 1) := hx12
  refine WpD.y (i := 11) (fuel := 33) (listed' := lst 45 4095) (by kernel_rfl) rfl rfl rfl rfl (((hH2.trans hH4).trans hH6).trans hH10) hlr .slnil (RunY.loadH tabOK hc12 (((hH2.trans hH4).trans hH6).trans hH10) rfl rfl rfl rfl) ?_
  refine WpD.g (listed' := lst 45 32767) tabOK [12, 13, 14] (by kernel_rfl) rfl (((hH2.trans hH4).trans hH6).trans hH10) hlr .slnil ?_
  refine WpD.caseN (t := 70) rfl (fun q70 => ?_) (fun q70 => ?_)
  ·refine WpD.g (listed' := lst 45 42631167) tabOK [17, 19, 23, 25] (by kernel_rfl) rfl (((hH2.trans hH4).trans hH6).trans hH10) hlr .slnil ?_
   refine WpD.y (i := 15) (fuel := 25) (listed' := lst 45 42663935) (by kernel_rfl) rfl rfl rfl rfl (((hH2.trans hH4).trans hH6).trans hH10) hlr .slnil (RunY.loadH tabOK hc2 ((hH4.trans hH6).trans hH10) rfl rfl rfl rfl) ?_
   refine WpD.y (i := 16) (fuel := 24) (listed' := lst 45 42729471) (by kernel_rfl) rfl rfl rfl rfl (((hH2.trans hH4).trans hH6).trans hH10) hlr .slnil (RunY.loadH tabOK hc4 (hH6.trans hH10) rfl rfl rfl rfl) ?_
   refine WpD.y (i := 18) (fuel := 23) (listed' := lst 45 42991615) (by kernel_rfl) rfl rfl rfl rfl (((hH2.trans hH4).trans hH6).trans hH10) hlr .slnil (RunY.loadH tabOK (hc6.sub 0 1) hH10 rfl rfl rfl rfl) ?_
   refine WpD.y (i := 20) (fuel := 22) (listed' := lst 45 44040191) (by kernel_rfl) rfl rfl rfl rfl (((hH2.trans hH4).trans hH6).trans hH10) hlr .slnil (RunY.loadH tabOK (hc10.sub 2 1) hlr rfl rfl rfl rfl) ?_
   refine WpD.indexR (i := 21) (fuel := 21) (listed' := lst 45 46137343) tabOK (by kernel_rfl) rfl rfl rfl rfl rfl rfl rfl rfl rfl (((hH2.trans hH4).trans hH6).trans hH10) hlr .slnil r8_4 (by omega) (by omega) ?_
   rintro x13 hx13 b13 o13 _ ⟨rfl, k13⟩ hc13
   obtain rfl : x13 = (nth ((nth f.blocks h.at_).en.to) 0) := hx13
   refine WpD.y (i := 22) (fuel := 20) (listed' := lst 45 50331647) (by kernel_rfl) rfl rfl rfl rfl (((hH2.trans hH4).trans hH6).trans hH10) hlr .slnil (RunY.loadH tabOK hc13 (((hH2.trans hH4).trans hH6).trans hH10) rfl rfl rfl rfl) ?_
   refine WpD.y (i := 24) (fuel := 19) (listed' := lst 45 67108863) (by kernel_rfl) rfl rfl rfl rfl (((hH2.trans hH4).trans hH6).trans hH10) hlr .slnil (RunY.loadH tabOK (hc6.sub 1 1) hH10 rfl rfl rfl rfl) ?_
   refine WpD.y (i := 26) (fuel := 18) (listed' := lst 45 134217727) (by kernel_rfl) rfl rfl rfl rfl (((hH2.trans hH4).trans hH6).trans hH10) hlr .slnil (RunY.loadH tabOK (hc6.sub 3 1) hH10 rfl rfl rfl rfl) ?_
   refine WpD.callS (i := 27) (fuel := 17) (listed' := lst 45 268435455) (by kernel_rfl) rfl rfl rfl rfl rfl rfl hlr (hSide_calls (Rdc.mono (((hH2.trans hH4).trans hH6).trans hH10) rd_f') (Rdc.mono (((hH2.trans hH4).trans hH6).trans hH10) rd_gr') hg h.at_ (nth ((nth f.blocks h.at_).en.to) 0) h.thn h.join ha) (((hH2.trans hH4).trans hH6).trans hH10) hlr .slnil ?_
   refine WpD.g (listed' := lst 45 1073741823) tabOK [28, 29] (by kernel_rfl) rfl (((hH2.trans hH4).trans hH6).trans hH10) hlr .slnil ?_
   refine WpD.caseB (t := 85) rfl (fun q85 => ?_) (fun q85 => ?_)
   ·refine WpD.g (listed' := lst 45 1396938113023) tabOK [32, 34, 38, 40] (by kernel_rfl) rfl (((hH2.trans hH4).trans hH6).trans hH10) hlr .slnil ?_
    refine WpD.y (i := 30) (fuel := 10) (listed' := lst 45 1398011854847) (by kernel_rfl) rfl rfl rfl rfl (((hH2.trans hH4).trans hH6).trans hH10) hlr .slnil (RunY.loadH tabOK hc2 ((hH4.trans hH6).trans hH10) rfl rfl rfl rfl) ?_
    refine WpD.y (i := 31) (fuel := 9) (listed' := lst 45 1400159338495) (by kernel_rfl) rfl rfl rfl rfl (((hH2.trans hH4).trans hH6).trans hH10) hlr .slnil (RunY.loadH tabOK hc4 (hH6.trans hH10) rfl rfl rfl rfl) ?_
    refine WpD.y (i := 33) (fuel := 8) (listed' := lst 45 1408749273087) (by kernel_rfl) rfl rfl rfl rfl (((hH2.trans hH4).trans hH6).trans hH10) hlr .slnil (RunY.loadH tabOK (hc6.sub 0 1) hH10 rfl rfl rfl rfl) ?_
    refine WpD.y (i := 35) (fuel := 7) (listed' := lst 45 1443109011455) (by kernel_rfl) rfl rfl rfl rfl (((hH2.trans hH4).trans hH6).trans hH10) hlr .slnil (RunY.loadH tabOK (hc10.sub 2 1) hlr rfl rfl rfl rfl) ?_
    refine WpD.indexR (i := 36) (fuel := 6) (listed' := lst 45 1511828488191) tabOK (by kernel_rfl) rfl rfl rfl rfl rfl rfl rfl rfl rfl (((hH2.trans hH4).trans hH6).trans hH10) hlr .slnil r8_4 (by omega) (by omega) ?_
    rintro x14 hx14 b14 o14 _ ⟨rfl, k14⟩ hc14
    obtain rfl : x14 = (nth ((nth f.blocks h.at_).en.to) 1) := hx14
    refine WpD.y (i := 37) (fuel := 5) (listed' := lst 45 1649267441663) (by kernel_rfl) rfl rfl rfl rfl (((hH2.trans hH4).trans hH6).trans hH10) hlr .slnil (RunY.loadH tabOK hc14 (((hH2.trans hH4).trans hH6).trans hH10) rfl rfl rfl rfl) ?_
    refine WpD.y (i := 39) (fuel := 4) (listed' := lst 45 2199023255551) (by kernel_rfl) rfl rfl rfl rfl (((hH2.trans hH4).trans hH6).trans hH10) hlr .slnil (RunY.loadH tabOK (hc6.sub 2 1) hH10 rfl rfl rfl rfl) ?_
    refine WpD.y (i := 41) (fuel := 3) (listed' := lst 45 4398046511103) (by kernel_rfl) rfl rfl rfl rfl (((hH2.trans hH4).trans hH6).trans hH10) hlr .slnil (RunY.loadH tabOK (hc6.sub 3 1) hH10 rfl rfl rfl rfl) ?_
    refine WpD.callS (i := 42) (fuel := 2) (listed' := lst 45 8796093022207) (by kernel_rfl) rfl rfl rfl rfl rfl rfl hlr (hSide_calls (Rdc.mono (((hH2.trans hH4).trans hH6).trans hH10) rd_f') (Rdc.mono (((hH2.trans hH4).trans hH6).trans hH10) rd_gr') hg h.at_ (nth ((nth f.blocks h.at_).en.to) 1) h.els h.join ha) (((hH2.trans hH4).trans hH6).trans hH10) hlr .slnil ?_
    refine WpD.g (listed' := lst 45 35184372088831) tabOK [43, 44] (by kernel_rfl) rfl (((hH2.trans hH4).trans hH6).trans hH10) hlr .slnil ?_
    refine WpD.done (by kernel_rfl) ?_
    exact WpG.ret tabOK (L' := []) (.tmp rfl .nil) .slnil ⟨congrArg Value.bool (by unfold isD; rw [if_neg ho]; simp [q59, q70, q85]), rfl⟩
   refine WpD.g (listed' := lst 45 35184372088831) tabOK [30, 31, 32, 33, 34, 35, 36, 37, 38, 39, 40, 41, 42, 43, 44] (by kernel_rfl) rfl (((hH2.trans hH4).trans hH6).trans hH10) hlr .slnil ?_
   refine WpD.done (by kernel_rfl) ?_
   exact WpG.ret tabOK (L' := []) (.tmp rfl .nil) .slnil ⟨congrArg Value.bool (by unfold isD; rw [if_neg ho]; simp [q59, q70, q85]), rfl⟩
  refine WpD.g (listed' := lst 45 35184372088831) tabOK [15, 16, 17, 18, 19, 20, 21, 22, 23, 24, 25, 26, 27, 28, 29, 30, 31, 32, 33, 34, 35, 36, 37, 38, 39, 40, 41, 42, 43, 44] (by kernel_rfl) rfl (((hH2.trans hH4).trans hH6).trans hH10) hlr .slnil ?_
  refine WpD.done (by kernel_rfl) ?_
  exact WpG.ret tabOK (L' := []) (.tmp rfl .nil) .slnil ⟨congrArg Value.bool (by unfold isD; rw [if_neg ho]; simp [q59, q70]), rfl⟩
 refine WpD.g (listed' := lst 45 35184372088831) tabOK [4, 5, 6, 7, 8, 9, 10, 11, 12, 13, 14, 15, 16, 17, 18, 19, 20, 21, 22, 23, 24, 25, 26, 27, 28, 29, 30, 31, 32, 33, 34, 35, 36, 37, 38, 39, 40, 41, 42, 43, 44] (by kernel_rfl) rfl (((hH2.trans hH4).trans hH6).trans hH10) hlr .slnil ?_
 refine WpD.done (by kernel_rfl) ?_
 exact WpG.ret tabOK (L' := []) (.tmp rfl .nil) .slnil ⟨congrArg Value.bool (by unfold isD; rw [if_neg ho]; simp [q59]), rfl⟩
theorem hOn_calls {H : Hp} {f : FuncD} {cs_f : List Value} (rd_f : Rdc.rd H cs_f f) (x : Int) (h0 : 0 ≤ x) (h1 : x < f.blocks.length) : CallG Tryz.prog 60 [.agg cs_f.toArray, .int .i64 x] H [] (fun v _ L' => v = .int .i64 (onD f x) ∧ L' = []) := by
 have rd_f' := rd_f; obtain ⟨A_f_0, c_f_0, A_f_2, c_f_2, rfl, u_f_0, r_f_0, u_f_2, r_f_2, k_f_0⟩ := rd_f
 have bf := r_f_2.1
 refine CallG.of Tryz.func60 rfl rfl rfl fun w0 => ?_
 refine WpG.g tabOK 2 rfl ?_
 refine WpG.box rfl rfl rfl rfl rfl (fun b1 => ?_)
 refine WpG.freezeBox (ci := 0) rfl (fun H2 hH2 hc2 => ?_)
 refine WpG.g tabOK 6 rfl ?_
 refine WpG.y rfl rfl rfl rfl (RunY.loadH tabOK (hc2.sub 2 1) hlr rfl rfl rfl rfl) ?_
 refine WpG.g tabOK 1 rfl ?_
 refine WpG.indexR tabOK rfl rfl rfl rfl rfl rfl rfl rfl rfl r_f_2 (by omega) (by omega) ?_
 rintro x3 hx3 b3 o3 cs3 rd3 hc3
 have rd3' := rd3; obtain ⟨A3_0, c3_0, A3_1, c3_1, A3_4, c3_4, rfl, u3_0, r3_0, u3_1, r3_1, u3_4, r3_4, k3_0, k3_1⟩ := rd3
 have bz3_0 := r3_0.1
 have bz3_1 := r3_1.1
 have bz3_4 := r3_4.1
 obtain rfl : x3 = (nth f.blocks x) := hx3
 refine WpG.g tabOK 2 rfl ?_
 refine WpG.y rfl rfl rfl rfl (RunY.loadH tabOK (hc3.sub 4 1) hH2 rfl rfl rfl rfl) ?_
 refine WpG.g tabOK 8 rfl ?_
 refine WpG.caseD (t := 15) rfl (fun q15 => ?_) (fun q15 => ?_)
 ·refine WpG.g tabOK 4 rfl ?_
  refine WpG.indexR tabOK rfl rfl rfl rfl rfl rfl rfl rfl rfl r3_4 (by omega) (by omega) ?_
  rintro x4 hx4 b4 o4 _ ⟨rfl, k4⟩ hc4
  obtain rfl : x4 = (nth ((nth f.blocks x).en.to) 0) := hx4
  refine WpG.y rfl rfl rfl rfl (RunY.loadH tabOK hc4 hH2 rfl rfl rfl rfl) ?_
  refine WpG.g tabOK 2 rfl ?_
  exact WpG.ret tabOK (L' := []) (.tmp rfl .nil) .slnil ⟨congrArg (Value.int .i64) (by unfold onD; rw [if_pos (by omega)]), rfl⟩
 refine WpG.g tabOK 6 rfl ?_
 exact WpG.ret tabOK (L' := []) (.tmp rfl .nil) .slnil ⟨congrArg (Value.int .i64) (by unfold onD; rw [if_neg (by omega)]), rfl⟩
end Go.Proofs.YtakameggkkjcpaaGreat
set_option maxRecDepth 4000
namespace Go.Proofs.YtakameggkkjcpaaGreat
open Go Go.RowKit
theorem hRight_calls {H : Hp} {f : FuncD} {cs_f : List Value} (rd_f : Rdc.rd H cs_f f) : CallG Tryz.prog 27 [.agg cs_f.toArray] H [] (fun v H' L' => HasT f ∧ ((okF f = false ∧ v = .tuple #[.agg #[.slice none 0 0, .slice none 0 0], .bool false]) ∨ (okF f = true ∧ ∃ A c A' c', v = .tuple #[.agg #[.slice A (ofD f).1.succ.length c, .slice A' (ofD f).1.pred.length c'], .bool true] ∧ (ofD f).1.succ.length ≤ c ∧ RdS H' A (ofD f).1.succ ∧ (ofD f).1.pred.length ≤ c' ∧ RdS H' A' (ofD f).1.pred)) ∧ L' = []) := by
 have rd_f' := rd_f; obtain ⟨A_f_0, c_f_0, A_f_2, c_f_2, rfl, u_f_0, r_f_0, u_f_2, r_f_2, k_f_0⟩ := rd_f
 refine CallG.of Tryz.func27 rfl rfl rfl fun w0 => ?_
 refine WpG.g tabOK 2 rfl ?_
 refine WpG.box rfl rfl rfl rfl rfl (fun b1 => ?_)
 refine WpG.freezeBox (ci := 0) rfl (fun H2 hH2 hc2 => ?_)
 refine WpG.alloc tabOK rfl rfl rfl rfl rfl (fun b3 => ?_)
 refine WpG.g tabOK 5 rfl ?_
 refine WpG.y rfl rfl rfl rfl (RunY.loadH tabOK hc2 hlr rfl rfl rfl rfl) ?_
 refine WpG.call0 rfl rfl rfl rfl rfl rfl (Check_calls u_f_0 (r_f_0.mono hH2) u_f_2 (r_f_2.mono hH2) k_f_0 2) ?_
 rintro _ H4 _ hH4 ⟨e1, rfl, hc1, rfl⟩
 refine WpG.g tabOK 2 rfl ?_
 refine WpG.caseN (t := 8) rfl (fun q8 => ?_) (fun q8 => ?_)
 ·refine WpG.g tabOK 4 rfl ?_
  refine WpG.storeBox (ci := 0) (cs' := [.slice none 0 0, .slice none 0 0]) tabOK rfl rfl rfl rfl rfl rfl rfl rfl rfl ?_
  refine WpG.g tabOK 2 rfl ?_
  exact WpG.ret tabOK (L' := []) (.cell (ci := 0) rfl rfl rfl rfl (.tmp rfl .nil)) (.cons _ .slnil) ⟨hasT_of (check_at hc1 (by decide) (by decide)), .inl ⟨by rw [← ok_check hc1]; simpa using q8, rfl⟩, rfl⟩
 refine WpG.g tabOK 4 rfl ?_
 refine WpG.y rfl rfl rfl rfl (RunY.loadH tabOK hc2 hH4 rfl rfl rfl rfl) ?_
 refine WpG.call0 rfl rfl rfl rfl rfl rfl (Of_calls (Rdc.mono (hH2.trans hH4) rd_f')) ?_
 rintro _ H5 _ hH5 ⟨A5, c5, B5, d5, rfl, ua5, ra5, ub5, rb5, rfl⟩
 refine WpG.g tabOK 3 rfl ?_
 refine WpG.alloc tabOK rfl rfl rfl rfl rfl (fun b6 => ?_)
 refine WpG.storeBox (ci := 0) (cs' := [.slice A5 ((ofD f).1.succ.length) c5, .slice B5 ((ofD f).1.pred.length) d5]) tabOK rfl rfl rfl rfl rfl rfl rfl rfl rfl ?_
 refine WpG.g tabOK 4 rfl ?_
 refine WpG.y rfl rfl rfl rfl (RunY.loadBox (ci := 0) tabOK rfl rfl rfl rfl) ?_
 refine WpG.storeBox (ci := 1) (cs' := [.slice A5 ((ofD f).1.succ.length) c5, .slice B5 ((ofD f).1.pred.length) d5]) tabOK rfl rfl rfl rfl rfl rfl rfl rfl rfl ?_
 refine WpG.g tabOK 2 rfl ?_
 exact WpG.ret tabOK (L' := []) (.cell (ci := 1) rfl rfl rfl rfl (.tmp rfl .nil)) (.cons _ (.cons _ .slnil)) ⟨hasT_of (check_at hc1 (by decide) (by decide)), .inr ⟨by rw [← ok_check hc1]; simpa using q8, _, _, _, _, rfl, ua5, ra5, ub5, rb5⟩, rfl⟩
theorem hFind1_calls {H : Hp} {f : FuncD} {A_f_0 A_f_2 : Option Addr} {c_f_0 c_f_2 : Nat} (u_f_0 : f.params.length ≤ c_f_0) (r_f_0 : RdS H A_f_0 f.params) (u_f_2 : f.blocks.length ≤ c_f_2) (r_f_2 : RdS H A_f_2 f.blocks) (k_f_0 : I64 f.ret) {b5 b9 b10 : Nat} {a t u : Int} (h5 : HCells H b5 0 [.int .i64 a]) (h9 : HCells H b9 0 [.int .i64 t]) (h10 : HCells H b10 0 [.int .i64 u]) {b3 : Nat} (h3 : HCells H b3 0 [.slice A_f_0 f.params.length c_f_0, .int .i64 f.ret, .slice A_f_2 f.blocks.length c_f_2]) (t0 : 0 ≤ t) (t1 : t < f.blocks.length) : CallG Tryz.prog 59 [.pointer (some ⟨b5, 0, none⟩), .pointer (some ⟨b9, 0, none⟩), .pointer (some ⟨b10, 0, none⟩), .pointer (some ⟨b3, 0, none⟩)] H [] (fun v _ L' => v = hamV ⟨a, t, u, onD f t⟩ ∧ L' = []) := by
 have rd_f' : Rdc.rd H [.slice A_f_0 f.params.length c_f_0, .int .i64 f.ret, .slice A_f_2 f.blocks.length c_f_2] f := ⟨_, _, _, _, rfl, u_f_0, r_f_0, u_f_2, r_f_2, k_f_0⟩
 have bs := r_f_2.1; have bsp := r_f_0.1
 refine CallG.of Tryz.func59 rfl rfl rfl fun w0 => ?_
 refine WpG.g tabOK 2 rfl ?_
 refine WpG.alloc tabOK rfl rfl rfl rfl rfl (fun b1 => ?_)
 refine WpG.g tabOK 2 rfl ?_
 refine WpG.draw 8 [] mixed (by kernel_rfl) ?_
 refine WpD.y (i := 0) (fuel := 7) (listed' := lst 8 1) (by kernel_rfl) rfl rfl rfl rfl hlr hlr (.cons _ .slnil) (RunY.loadH tabOK h5 hlr rfl rfl rfl rfl) ?_
 refine WpD.y (i := 1) (fuel := 6) (listed' := lst 8 3) (by kernel_rfl) rfl rfl rfl rfl hlr hlr (.cons _ .slnil) (RunY.loadH tabOK h9 hlr rfl rfl rfl rfl) ?_
 refine WpD.y (i := 2) (fuel := 5) (listed' := lst 8 7) (by kernel_rfl) rfl rfl rfl rfl hlr hlr (.cons _ .slnil) (RunY.loadH tabOK h10 hlr rfl rfl rfl rfl) ?_
 refine WpD.y (i := 3) (fuel := 4) (listed' := lst 8 15) (by kernel_rfl) rfl rfl rfl rfl hlr hlr (.cons _ .slnil) (RunY.loadH tabOK h3 hlr rfl rfl rfl rfl) ?_
 refine WpD.y (i := 4) (fuel := 3) (listed' := lst 8 31) (by kernel_rfl) rfl rfl rfl rfl hlr hlr (.cons _ .slnil) (RunY.loadH tabOK h9 hlr rfl rfl rfl rfl) ?_
 refine WpD.callS (i := 5) (fuel := 2) (listed' := lst 8 63) (by kernel_rfl) rfl rfl rfl rfl rfl rfl hlr (hOn_calls rd_f' t t0 t1) hlr hlr (.cons _ .slnil) ?_
 refine WpD.g (listed' := lst 8 127) tabOK [6] (by kernel_rfl) rfl hlr hlr (.cons _ .slnil) ?_
 refine WpD.f (i := 7) (fuel := 0) (listed' := lst 8 255) (by kernel_rfl) hlr (OpG.storeBox (ci := 0) (cs' := [.int .i64 a, .int .i64 t, .int .i64 u, .int .i64 (onD f t)]) tabOK rfl rfl rfl rfl rfl rfl rfl rfl rfl) ?_
 rintro F1 H1 L1 ⟨eF, eH, eL⟩
 subst eF; subst eL; rw [eH]; clear eH H1
 refine ⟨hlr, (.cons _ .slnil), ?_⟩
 change WpD _ _ _ _ _ _ _ _ _ _ _ _ _ _ [Chunk.box b1 [.int .i64 a, .int .i64 t, .int .i64 u, .int .i64 (onD f t)] 27]
 refine WpD.done (by kernel_rfl) ?_
 exact WpG.ret tabOK (L' := []) (.cell (ci := 0) rfl rfl rfl rfl .nil) (.cons _ .slnil) ⟨rfl, rfl⟩
theorem hFind2_calls {H : Hp} {b5 b9 b10 : Nat} {a t u : Int} (h5 : HCells H b5 0 [.int .i64 a]) (h9 : HCells H b9 0 [.int .i64 t]) (h10 : HCells H b10 0 [.int .i64 u]) : CallG Tryz.prog 61 [.pointer (some ⟨b5, 0, none⟩), .pointer (some ⟨b9, 0, none⟩), .pointer (some ⟨b10, 0, none⟩)] H [] (fun v _ L' => v = hamV ⟨a, t, -1, u⟩ ∧ L' = []) := by
 refine CallG.of Tryz.func61 rfl rfl rfl fun w0 => ?_
 refine WpG.g tabOK 2 rfl ?_
 refine WpG.alloc tabOK rfl rfl rfl rfl rfl (fun b1 => ?_)
 refine WpG.g tabOK 3 rfl ?_
 refine WpG.y rfl rfl rfl rfl (RunY.loadH tabOK h5 hlr rfl rfl rfl rfl) ?_
 refine WpG.y rfl rfl rfl rfl (RunY.loadH tabOK h9 hlr rfl rfl rfl rfl) ?_
 refine WpG.y rfl rfl rfl rfl (RunY.loadH tabOK h10 hlr rfl rfl rfl rfl) ?_
 refine WpG.g tabOK 1 rfl ?_
 refine WpG.storeBox (ci := 0) (cs' := [.int .i64 a, .int .i64 t, .int .i64 (-1), .int .i64 u]) tabOK rfl rfl rfl rfl rfl rfl rfl rfl rfl ?_
 refine WpG.g tabOK 1 rfl ?_
 exact WpG.ret tabOK (L' := []) (.cell (ci := 0) rfl rfl rfl rfl .nil) (.cons _ .slnil) ⟨rfl, rfl⟩
theorem hFind3_calls {H : Hp} {b5 b9 b10 : Nat} {a t u : Int} (h5 : HCells H b5 0 [.int .i64 a]) (h9 : HCells H b9 0 [.int .i64 t]) (h10 : HCells H b10 0 [.int .i64 u]) : CallG Tryz.prog 62 [.pointer (some ⟨b5, 0, none⟩), .pointer (some ⟨b9, 0, none⟩), .pointer (some ⟨b10, 0, none⟩)] H [] (fun v _ L' => v = hamV ⟨a, -1, t, u⟩ ∧ L' = []) := by
 refine CallG.of Tryz.func62 rfl rfl rfl fun w0 => ?_
 refine WpG.g tabOK 2 rfl ?_
 refine WpG.alloc tabOK rfl rfl rfl rfl rfl (fun b1 => ?_)
 refine WpG.g tabOK 3 rfl ?_
 refine WpG.y rfl rfl rfl rfl (RunY.loadH tabOK h5 hlr rfl rfl rfl rfl) ?_
 refine WpG.y rfl rfl rfl rfl (RunY.loadH tabOK h9 hlr rfl rfl rfl rfl) ?_
 refine WpG.y rfl rfl rfl rfl (RunY.loadH tabOK h10 hlr rfl rfl rfl rfl) ?_
 refine WpG.g tabOK 1 rfl ?_
 refine WpG.storeBox (ci := 0) (cs' := [.int .i64 a, .int .i64 (-1), .int .i64 t, .int .i64 u]) tabOK rfl rfl rfl rfl rfl rfl rfl rfl rfl ?_
 refine WpG.g tabOK 1 rfl ?_
 exact WpG.ret tabOK (L' := []) (.cell (ci := 0) rfl rfl rfl rfl .nil) (.cons _ .slnil) ⟨rfl, rfl⟩
set_option maxHeartbeats 1000000 in
theorem hFind_calls {H : Hp} {f : FuncD} {cs_f : List Value} (rd_f : Rdc.rd H cs_f f) {gr : GraphD} {cs_gr : List Value} (rd_gr : Rdc.rd H cs_gr gr) (hg : GG f gr) (a : Int) (ha : I64 a) (a0 : 0 ≤ a) (a1 : a < f.blocks.length) : CallG Tryz.prog 28 [.agg cs_f.toArray, .agg cs_gr.toArray, .int .i64 a] H [] (fun v _ L' => v = .tuple #[hamV (findD f gr a).1, .bool (findD f gr a).2] ∧ L' = []) := by
 have rd_f' := rd_f; obtain ⟨A_f_0, c_f_0, A_f_2, c_f_2, rfl, u_f_0, r_f_0, u_f_2, r_f_2, k_f_0⟩ := rd_f
 have rd_gr' := rd_gr; obtain ⟨A_gr_0, c_gr_0, A_gr_1, c_gr_1, rfl, u_gr_0, r_gr_0, u_gr_1, r_gr_1⟩ := rd_gr
 have bf := r_f_2.1; have hgp := hg.pl
 refine CallG.of Tryz.func28 rfl rfl rfl fun w0 => ?_
 refine WpG.g tabOK 2 rfl ?_
 refine WpG.box rfl rfl rfl rfl rfl (fun b1 => ?_)
 refine WpG.freezeBox (ci := 0) rfl (fun H2 hH2 hc2 => ?_)
 refine WpG.box rfl rfl rfl rfl rfl (fun b3 => ?_)
 refine WpG.freezeBox (ci := 0) rfl (fun H4 hH4 hc4 => ?_)
 refine WpG.box rfl rfl rfl rfl rfl (fun b5 => ?_)
 refine WpG.freezeBox (ci := 0) rfl (fun H6 hH6 hc6 => ?_)
 refine WpG.alloc tabOK rfl rfl rfl rfl rfl (fun b7 => ?_)
 refine WpG.g tabOK 5 rfl ?_
 refine WpG.y rfl rfl rfl rfl (RunY.loadH tabOK (hc2.sub 2 1) (hH4.trans hH6) rfl rfl rfl rfl) ?_
 refine WpG.y rfl rfl rfl rfl (RunY.loadH tabOK hc6 hlr rfl rfl rfl rfl) ?_
 refine WpG.indexR tabOK rfl rfl rfl rfl rfl rfl rfl rfl rfl r_f_2 (by omega) (by omega) ?_
 rintro x8 hx8 b8 o8 cs8 rd8 hc8
 have rd8' := rd8; obtain ⟨A8_0, c8_0, A8_1, c8_1, A8_4, c8_4, rfl, u8_0, r8_0, u8_1, r8_1, u8_4, r8_4, k8_0, k8_1⟩ := rd8
 have bz8_0 := r8_0.1
 have bz8_1 := r8_1.1
 have bz8_4 := r8_4.1
 obtain rfl : x8 = (nth f.blocks a) := hx8
 refine WpG.g tabOK 1 rfl ?_
 refine WpG.y rfl rfl rfl rfl (RunY.loadH tabOK (hc8.sub 2 3) ((hH2.trans hH4).trans hH6) rfl rfl rfl rfl) ?_
 refine WpG.alloc tabOK rfl rfl rfl rfl rfl (fun b9 => ?_)
 refine WpG.storeBox (ci := 0) (cs' := [.int .i64 ((nth f.blocks a).en.kind), .int .i64 ((nth f.blocks a).en.arg), .slice A8_4 ((nth f.blocks a).en.to.length) c8_4]) tabOK rfl rfl rfl rfl rfl rfl rfl rfl rfl ?_
 refine WpG.freezeBox (ci := 0) rfl (fun H10 hH10 hc10 => ?_)
 refine WpG.g tabOK 5 rfl ?_
 refine WpG.y rfl rfl rfl rfl (RunY.loadH tabOK (hc10.sub 0 1) hlr rfl rfl rfl rfl) ?_
 refine WpG.g tabOK 2 rfl ?_
 refine WpG.caseN (t := 23) rfl (fun q23 => ?_) (fun q23 => ?_)
 ·refine WpG.g tabOK 4 rfl ?_
  refine WpG.storeBox (ci := 0) (cs' := [.int .i64 0, .int .i64 0, .int .i64 0, .int .i64 0]) tabOK rfl rfl rfl rfl rfl rfl rfl rfl rfl ?_
  refine WpG.g tabOK 2 rfl ?_
  exact WpG.ret tabOK (L' := []) (.cell (ci := 0) rfl rfl rfl rfl (.tmp rfl .nil)) (.cons _ .slnil) ⟨by rw [show findD f gr a = (noneH, false) from by unfold findD; rw [if_neg q23]]; rfl, rfl⟩
 have ht2 := hg.two a0 a1 q23
 refine WpG.g tabOK 3 rfl ?_
 refine WpG.draw 12 [Chunk.box b7 [.int .i64 0, .int .i64 0, .int .i64 0, .int .i64 0] 27] mixed (by kernel_rfl) ?_
 refine WpD.g (listed' := lst 12 17) tabOK [0, 4] (by kernel_rfl) rfl (((hH2.trans hH4).trans hH6).trans hH10) hlr (.refl _) ?_
 refine WpD.y (i := 1) (fuel := 9) (listed' := lst 12 19) (by kernel_rfl) rfl rfl rfl rfl (((hH2.trans hH4).trans hH6).trans hH10) hlr (.refl _) (RunY.loadH tabOK (hc10.sub 2 1) hlr rfl rfl rfl rfl) ?_
 refine WpD.indexR (i := 2) (fuel := 8) (listed' := lst 12 23) tabOK (by kernel_rfl) rfl rfl rfl rfl rfl rfl rfl rfl rfl (((hH2.trans hH4).trans hH6).trans hH10) hlr (.refl _) r8_4 (by omega) (by omega) ?_
 rintro x11 hx11 b11 o11 _ ⟨rfl, k11⟩ hc11
 obtain rfl : x11 = (nth ((nth f.blocks a).en.to) 0) := hx11
 refine WpD.y (i := 3) (fuel := 7) (listed' := lst 12 31) (by kernel_rfl) rfl rfl rfl rfl (((hH2.trans hH4).trans hH6).trans hH10) hlr (.refl _) (RunY.loadH tabOK hc11 (((hH2.trans hH4).trans hH6).trans hH10) rfl rfl rfl rfl) ?_
 refine WpD.y (i := 5) (fuel := 6) (listed' := lst 12 63) (by kernel_rfl) rfl rfl rfl rfl (((hH2.trans hH4).trans hH6).trans hH10) hlr (.refl _) (RunY.loadH tabOK (hc10.sub 2 1) hlr rfl rfl rfl rfl) ?_
 refine WpD.indexR (i := 6) (fuel := 5) (listed' := lst 12 127) tabOK (by kernel_rfl) rfl rfl rfl rfl rfl rfl rfl rfl rfl (((hH2.trans hH4).trans hH6).trans hH10) hlr (.refl _) r8_4 (by omega) (by omega) ?_
 rintro x12 hx12 b12 o12 _ ⟨rfl, k12⟩ hc12
 obtain rfl : x12 = (nth ((nth f.blocks a).en.to) 1) := hx12
 refine WpD.y (i := 7) (fuel := 4) (listed' := lst 12 255) (by kernel_rfl) rfl rfl rfl rfl (((hH2.trans hH4).trans hH6).trans hH10) hlr (.refl _) (RunY.loadH tabOK hc12 (((hH2.trans hH4).trans hH6).trans hH10) rfl rfl rfl rfl) ?_
 refine WpD.allocs (listed' := lst 12 1023) tabOK [⟨8, 9, 3, [.int .i64 0]⟩, ⟨9, 10, 3, [.int .i64 0]⟩] ⟨⟨_, _, _, _, rfl, rfl, rfl, rfl⟩, ⟨_, _, _, _, rfl, rfl, rfl, rfl⟩, trivial⟩ (by kernel_rfl) (by decide) (by decide) (((hH2.trans hH4).trans hH6).trans hH10) hlr (.refl _) ?_
 rintro l hl
 obtain ⟨b13, b14, rfl⟩ : ∃ b13 b14 : Nat, l = [(⟨8, 9, 3, [.int .i64 0]⟩, b13), (⟨9, 10, 3, [.int .i64 0]⟩, b14)] := by
  match l, hl with | [(x0, y0), (x1, y1)], hl => simp only [List.map_cons, List.map_nil, List.cons.injEq, and_true] at hl; obtain ⟨rfl, rfl⟩ := hl; exact ⟨_, _, rfl⟩
 change WpD _ _ _ _ _ _ _ _ _ _ _ _ ([(9, .pointer (some ⟨b13, 0, none⟩)), (10, .pointer (some ⟨b14, 0, none⟩))] ++ _) _ [Chunk.box b13 [.int .i64 0] 3, Chunk.box b14 [.int .i64 0] 3, Chunk.box b7 [.int .i64 0, .int .i64 0, .int .i64 0, .int .i64 0] 27]
 refine WpD.f (i := 10) (fuel := 1) (listed' := lst 12 2047) (by kernel_rfl) (((hH2.trans hH4).trans hH6).trans hH10) (OpG.storeBox (ci := 0) (cs' := [.int .i64 (nth ((nth f.blocks a).en.to) 0)]) tabOK rfl rfl rfl rfl rfl rfl rfl rfl rfl) ?_
 rintro F1 H1 L1 ⟨eF, eH, eL⟩
 subst eF; subst eL; rw [eH]; clear eH H1
 refine ⟨hlr, (.cons _ (.cons _ (.cons_cons _ .slnil))), ?_⟩
 change WpD _ _ _ _ _ _ _ _ _ _ _ _ _ _ [Chunk.box b13 [.int .i64 (nth ((nth f.blocks a).en.to) 0)] 3, Chunk.box b14 [.int .i64 0] 3, Chunk.box b7 [.int .i64 0, .int .i64 0, .int .i64 0, .int .i64 0] 27]
 refine WpD.f (i := 11) (fuel := 0) (listed' := lst 12 4095) (by kernel_rfl) (((hH2.trans hH4).trans hH6).trans hH10) (OpG.storeBox (ci := 1) (cs' := [.int .i64 (nth ((nth f.blocks a).en.to) 1)]) tabOK rfl rfl rfl rfl rfl rfl rfl rfl rfl) ?_
 rintro F1 H1 L1 ⟨eF, eH, eL⟩
 subst eF; subst eL; rw [eH]; clear eH H1
 refine ⟨hlr, (.cons _ (.cons _ (.cons_cons _ .slnil))), ?_⟩
 change WpD _ _ _ _ _ _ _ _ _ _ _ _ _ _ [Chunk.box b13 [.int .i64 (nth ((nth f.blocks a).en.to) 0)] 3, Chunk.box b14 [.int .i64 (nth ((nth f.blocks a).en.to) 1)] 3, Chunk.box b7 [.int .i64 0, .int .i64 0, .int .i64 0, .int .i64 0] 27]
 refine WpD.done (by kernel_rfl) ?_
 refine WpG.g tabOK 5 rfl ?_
 refine WpG.freezeBox (ci := 0) rfl (fun H15 hH15 hc15 => ?_)
 refine WpG.freezeBox (ci := 0) rfl (fun H16 hH16 hc16 => ?_)
 refine WpG.buildSlice (xs := [.func (.func 59) #[] #[.pointer (some ⟨b5, 0, none⟩), .pointer (some ⟨b13, 0, none⟩), .pointer (some ⟨b14, 0, none⟩), .pointer (some ⟨b1, 0, none⟩)], .func (.func 61) #[] #[.pointer (some ⟨b5, 0, none⟩), .pointer (some ⟨b13, 0, none⟩), .pointer (some ⟨b14, 0, none⟩)], .func (.func 62) #[] #[.pointer (some ⟨b5, 0, none⟩), .pointer (some ⟨b14, 0, none⟩), .pointer (some ⟨b13, 0, none⟩)]]) tabOK rfl rfl rfl rfl rfl rfl rfl rfl rfl rfl (fun b17 => ?_)
 refine WpG.g tabOK 11 rfl ?_
 refine WpG.g tabOK 11 rfl ?_
 refine WpG.y rfl rfl rfl rfl (RunY.indexAddr tabOK rfl rfl rfl rfl rfl (by decide) (by decide)) ?_
 refine WpG.y rfl rfl rfl rfl (RunY.loadOwn (ci := 0) (cs := [.func (.func 59) #[] #[.pointer (some ⟨b5, 0, none⟩), .pointer (some ⟨b13, 0, none⟩), .pointer (some ⟨b14, 0, none⟩), .pointer (some ⟨b1, 0, none⟩)]]) tabOK rfl rfl rfl rfl rfl (own_cell1 rfl)) ?_
 refine WpG.g tabOK 5 rfl ?_
 refine WpG.callS rfl rfl rfl rfl rfl rfl hlr (hFind1_calls u_f_0 (r_f_0.mono (((((hH2.trans hH4).trans hH6).trans hH10).trans hH15).trans hH16)) u_f_2 (r_f_2.mono (((((hH2.trans hH4).trans hH6).trans hH10).trans hH15).trans hH16)) k_f_0 (hc6.mono ((hH10.trans hH15).trans hH16)) (hc15.mono hH16) hc16 (hc2.mono ((((hH4.trans hH6).trans hH10).trans hH15).trans hH16)) (by omega) (by omega)) ?_
 refine WpG.alloc tabOK rfl rfl rfl rfl rfl (fun b19 => ?_)
 refine WpG.storeBox (ci := 0) (cs' := [.int .i64 a, .int .i64 (nth (nth f.blocks a).en.to 0), .int .i64 (nth (nth f.blocks a).en.to 1), .int .i64 (onD f (nth (nth f.blocks a).en.to 0))]) tabOK rfl rfl rfl rfl rfl rfl rfl rfl rfl ?_
 refine WpG.g tabOK 3 rfl ?_
 refine WpG.y rfl rfl rfl rfl (RunY.loadH tabOK hc2 ((((hH4.trans hH6).trans hH10).trans hH15).trans hH16) rfl rfl rfl rfl) ?_
 refine WpG.y rfl rfl rfl rfl (RunY.loadH tabOK hc4 (((hH6.trans hH10).trans hH15).trans hH16) rfl rfl rfl rfl) ?_
 refine WpG.y rfl rfl rfl rfl (RunY.loadBox (ci := 0) tabOK rfl rfl rfl rfl) ?_
 refine WpG.callS rfl rfl rfl rfl rfl rfl hlr (hIs_calls (Rdc.mono (((((hH2.trans hH4).trans hH6).trans hH10).trans hH15).trans hH16) rd_f') (Rdc.mono (((((hH2.trans hH4).trans hH6).trans hH10).trans hH15).trans hH16) rd_gr') hg ⟨a, (nth (nth f.blocks a).en.to 0), (nth (nth f.blocks a).en.to 1), (onD f (nth (nth f.blocks a).en.to 0))⟩ ha) ?_
 refine WpG.g tabOK 1 rfl ?_
 refine WpG.caseB (t := 48) rfl (fun q48 => ?_) (fun q48 => ?_)
 ·refine WpG.g tabOK 3 rfl ?_
  refine WpG.y rfl rfl rfl rfl (RunY.loadBox (ci := 0) tabOK rfl rfl rfl rfl) ?_
  refine WpG.storeBox (ci := 2) (cs' := [.int .i64 a, .int .i64 (nth (nth f.blocks a).en.to 0), .int .i64 (nth (nth f.blocks a).en.to 1), .int .i64 (onD f (nth (nth f.blocks a).en.to 0))]) tabOK rfl rfl rfl rfl rfl rfl rfl rfl rfl ?_
  refine WpG.g tabOK 2 rfl ?_
  exact WpG.ret tabOK (L' := []) (.cell (ci := 2) rfl rfl rfl rfl (.tmp rfl .nil)) (.cons _ (.cons _ (.cons _ .slnil))) ⟨by rw [show findD f gr a = (way0 f a, true) from by unfold findD; rw [if_pos q23, if_pos (show isD f gr (way0 f a) = true from q48)]]; rfl, rfl⟩
 refine WpG.gw tabOK 5 50 (v := .int .i64 1) rfl rfl ?_
 refine WpG.g tabOK 3 rfl ?_
 refine WpG.g tabOK 11 rfl ?_
 refine WpG.y rfl rfl rfl rfl (RunY.indexAddr tabOK rfl rfl rfl rfl rfl (by decide) (by decide)) ?_
 refine WpG.y rfl rfl rfl rfl (RunY.loadOwn (ci := 1) (cs := [.func (.func 61) #[] #[.pointer (some ⟨b5, 0, none⟩), .pointer (some ⟨b13, 0, none⟩), .pointer (some ⟨b14, 0, none⟩)]]) tabOK rfl rfl rfl rfl rfl (own_cell1 rfl)) ?_
 refine WpG.g tabOK 5 rfl ?_
 refine WpG.callS rfl rfl rfl rfl rfl rfl hlr (hFind2_calls (hc6.mono ((hH10.trans hH15).trans hH16)) (hc15.mono hH16) hc16) ?_
 refine WpG.alloc tabOK rfl rfl rfl rfl rfl (fun b20 => ?_)
 refine WpG.storeBox (ci := 0) (cs' := [.int .i64 a, .int .i64 (nth (nth f.blocks a).en.to 0), .int .i64 (-1), .int .i64 (nth (nth f.blocks a).en.to 1)]) tabOK rfl rfl rfl rfl rfl rfl rfl rfl rfl ?_
 refine WpG.g tabOK 3 rfl ?_
 refine WpG.y rfl rfl rfl rfl (RunY.loadH tabOK hc2 ((((hH4.trans hH6).trans hH10).trans hH15).trans hH16) rfl rfl rfl rfl) ?_
 refine WpG.y rfl rfl rfl rfl (RunY.loadH tabOK hc4 (((hH6.trans hH10).trans hH15).trans hH16) rfl rfl rfl rfl) ?_
 refine WpG.y rfl rfl rfl rfl (RunY.loadBox (ci := 0) tabOK rfl rfl rfl rfl) ?_
 refine WpG.callS rfl rfl rfl rfl rfl rfl hlr (hIs_calls (Rdc.mono (((((hH2.trans hH4).trans hH6).trans hH10).trans hH15).trans hH16) rd_f') (Rdc.mono (((((hH2.trans hH4).trans hH6).trans hH10).trans hH15).trans hH16) rd_gr') hg ⟨a, (nth (nth f.blocks a).en.to 0), (-1), (nth (nth f.blocks a).en.to 1)⟩ ha) ?_
 refine WpG.g tabOK 1 rfl ?_
 refine WpG.caseB (t := 48) rfl (fun q48_2 => ?_) (fun q48_2 => ?_)
 ·refine WpG.g tabOK 3 rfl ?_
  refine WpG.y rfl rfl rfl rfl (RunY.loadBox (ci := 0) tabOK rfl rfl rfl rfl) ?_
  refine WpG.storeBox (ci := 3) (cs' := [.int .i64 a, .int .i64 (nth (nth f.blocks a).en.to 0), .int .i64 (-1), .int .i64 (nth (nth f.blocks a).en.to 1)]) tabOK rfl rfl rfl rfl rfl rfl rfl rfl rfl ?_
  refine WpG.g tabOK 2 rfl ?_
  exact WpG.ret tabOK (L' := []) (.cell (ci := 3) rfl rfl rfl rfl (.tmp rfl .nil)) (.cons _ (.cons _ (.cons _ (.cons _ .slnil)))) ⟨by rw [show findD f gr a = (way1 f a, true) from by unfold findD; rw [if_pos q23, if_neg (show ¬ isD f gr (way0 f a) = true from by rw [show isD f gr (way0 f a) = false from q48]; simp), if_pos (show isD f gr (way1 f a) = true from q48_2)]]; rfl, rfl⟩
 refine WpG.gw tabOK 5 50 (v := .int .i64 2) rfl rfl ?_
 refine WpG.g tabOK 3 rfl ?_
 refine WpG.g tabOK 11 rfl ?_
 refine WpG.y rfl rfl rfl rfl (RunY.indexAddr tabOK rfl rfl rfl rfl rfl (by decide) (by decide)) ?_
 refine WpG.y rfl rfl rfl rfl (RunY.loadOwn (ci := 2) (cs := [.func (.func 62) #[] #[.pointer (some ⟨b5, 0, none⟩), .pointer (some ⟨b14, 0, none⟩), .pointer (some ⟨b13, 0, none⟩)]]) tabOK rfl rfl rfl rfl rfl (own_cell1 rfl)) ?_
 refine WpG.g tabOK 5 rfl ?_
 refine WpG.callS rfl rfl rfl rfl rfl rfl hlr (hFind3_calls (hc6.mono ((hH10.trans hH15).trans hH16)) hc16 (hc15.mono hH16)) ?_
 refine WpG.alloc tabOK rfl rfl rfl rfl rfl (fun b21 => ?_)
 refine WpG.storeBox (ci := 0) (cs' := [.int .i64 a, .int .i64 (-1), .int .i64 (nth (nth f.blocks a).en.to 1), .int .i64 (nth (nth f.blocks a).en.to 0)]) tabOK rfl rfl rfl rfl rfl rfl rfl rfl rfl ?_
 refine WpG.g tabOK 3 rfl ?_
 refine WpG.y rfl rfl rfl rfl (RunY.loadH tabOK hc2 ((((hH4.trans hH6).trans hH10).trans hH15).trans hH16) rfl rfl rfl rfl) ?_
 refine WpG.y rfl rfl rfl rfl (RunY.loadH tabOK hc4 (((hH6.trans hH10).trans hH15).trans hH16) rfl rfl rfl rfl) ?_
 refine WpG.y rfl rfl rfl rfl (RunY.loadBox (ci := 0) tabOK rfl rfl rfl rfl) ?_
 refine WpG.callS rfl rfl rfl rfl rfl rfl hlr (hIs_calls (Rdc.mono (((((hH2.trans hH4).trans hH6).trans hH10).trans hH15).trans hH16) rd_f') (Rdc.mono (((((hH2.trans hH4).trans hH6).trans hH10).trans hH15).trans hH16) rd_gr') hg ⟨a, (-1), (nth (nth f.blocks a).en.to 1), (nth (nth f.blocks a).en.to 0)⟩ ha) ?_
 refine WpG.g tabOK 1 rfl ?_
 refine WpG.caseB (t := 48) rfl (fun q48_3 => ?_) (fun q48_3 => ?_)
 ·refine WpG.g tabOK 3 rfl ?_
  refine WpG.y rfl rfl rfl rfl (RunY.loadBox (ci := 0) tabOK rfl rfl rfl rfl) ?_
  refine WpG.storeBox (ci := 4) (cs' := [.int .i64 a, .int .i64 (-1), .int .i64 (nth (nth f.blocks a).en.to 1), .int .i64 (nth (nth f.blocks a).en.to 0)]) tabOK rfl rfl rfl rfl rfl rfl rfl rfl rfl ?_
  refine WpG.g tabOK 2 rfl ?_
  exact WpG.ret tabOK (L' := []) (.cell (ci := 4) rfl rfl rfl rfl (.tmp rfl .nil)) (.cons _ (.cons _ (.cons _ (.cons _ (.cons _ .slnil))))) ⟨by rw [show findD f gr a = (way2 f a, true) from by unfold findD; rw [if_pos q23, if_neg (show ¬ isD f gr (way0 f a) = true from by rw [show isD f gr (way0 f a) = false from q48]; simp), if_neg (show ¬ isD f gr (way1 f a) = true from by rw [show isD f gr (way1 f a) = false from q48_2]; simp), if_pos (show isD f gr (way2 f a) = true from q48_3)]]; rfl, rfl⟩
 refine WpG.gw tabOK 5 50 (v := .int .i64 3) rfl rfl ?_
 refine WpG.g tabOK 3 rfl ?_
 refine WpG.g tabOK 10 rfl ?_
 refine WpG.storeBox (ci := 4) (cs' := [.int .i64 0, .int .i64 0, .int .i64 0, .int .i64 0]) tabOK rfl rfl rfl rfl rfl rfl rfl rfl rfl ?_
 refine WpG.g tabOK 2 rfl ?_
 exact WpG.ret tabOK (L' := []) (.cell (ci := 4) rfl rfl rfl rfl (.tmp rfl .nil)) (.cons _ (.cons _ (.cons _ (.cons _ (.cons _ .slnil))))) ⟨by rw [show findD f gr a = (noneH, false) from by unfold findD; rw [if_pos q23, if_neg (show ¬ isD f gr (way0 f a) = true from by rw [show isD f gr (way0 f a) = false from q48]; simp), if_neg (show ¬ isD f gr (way1 f a) = true from by rw [show isD f gr (way1 f a) = false from q48_2]; simp), if_neg (show ¬ isD f gr (way2 f a) = true from by rw [show isD f gr (way2 f a) = false from q48_3]; simp)]]; rfl, rfl⟩
end Go.Proofs.YtakameggkkjcpaaGreat
set_option maxRecDepth 4000
namespace Go.Proofs.YtakameggkkjcpaaGreat
open Go Go.RowKit
theorem HFind_calls {H : Hp} {f : FuncD} {cs_f : List Value} (rd_f : Rdc.rd H cs_f f) (a : Int) (ha : I64 a) : CallG Tryz.prog 10 [.agg cs_f.toArray, .int .i64 a] H [] (fun v _ L' => v = .tuple #[hamV (findH f a).1, .bool (findH f a).2] ∧ HasT f ∧ L' = []) := by
 have rd_f' := rd_f; obtain ⟨A_f_0, c_f_0, A_f_2, c_f_2, rfl, u_f_0, r_f_0, u_f_2, r_f_2, k_f_0⟩ := rd_f
 have bf := r_f_2.1
 refine CallG.of Tryz.func10 rfl rfl rfl fun w0 => ?_
 refine WpG.g tabOK 2 rfl ?_
 refine WpG.box rfl rfl rfl rfl rfl (fun b1 => ?_)
 refine WpG.freezeBox (ci := 0) rfl (fun H2 hH2 hc2 => ?_)
 refine WpG.alloc tabOK rfl rfl rfl rfl rfl (fun b3 => ?_)
 refine WpG.g tabOK 4 rfl ?_
 refine WpG.y rfl rfl rfl rfl (RunY.loadH tabOK hc2 hlr rfl rfl rfl rfl) ?_
 refine WpG.call0 rfl rfl rfl rfl rfl rfl (hRight_calls (Rdc.mono hH2 rd_f')) ?_
 rintro _ H4 L1 hH4 ⟨hT, (⟨hok, rfl⟩ | ⟨hok, Ag, cg, Ag', cg', rfl, uga, rga, ugb, rgb⟩), rfl⟩
 ·have hg := True.intro
  refine WpG.g tabOK 3 rfl ?_
  refine WpG.alloc tabOK rfl rfl rfl rfl rfl (fun b5 => ?_)
  refine WpG.storeBox (ci := 0) (cs' := [.slice none 0 0, .slice none 0 0]) tabOK rfl rfl rfl rfl rfl rfl rfl rfl rfl ?_
  refine WpG.freezeBox (ci := 0) rfl (fun H6 hH6 hc6 => ?_)
  refine WpG.g tabOK 4 rfl ?_
  apply WpG.join (G := [(1, .int .i64 a), (2, .pointer (some ⟨b1, 0, none⟩)), (4, .pointer (some ⟨b3, 0, none⟩)), (6, .pointer (some ⟨b5, 0, none⟩)), (25, .bool true)])
  ·intro nx7
   refine WpG.g tabOK 1 rfl ?_
   refine WpG.g tabOK 14 rfl ?_
   exact nx7.weak ⟨rfl, rfl, rfl, rfl, rfl, trivial⟩
  refine WpG.g tabOK 4 rfl ?_
  refine WpG.storeBox (ci := 0) (cs' := [.int .i64 0, .int .i64 0, .int .i64 0, .int .i64 0]) tabOK rfl rfl rfl rfl rfl rfl rfl rfl rfl ?_
  refine WpG.g tabOK 2 rfl ?_
  exact WpG.ret tabOK (L' := []) (.cell (ci := 0) rfl rfl rfl rfl (.tmp rfl .nil)) (.cons _ .slnil) ⟨by rw [show findH f a = (noneH, false) from by unfold findH; rw [if_neg (by simp [hok])]]; rfl, hT, rfl⟩
 have hg := (okF_gg hok).1; have hB := (okF_gg hok).2.1
 refine WpG.g tabOK 3 rfl ?_
 refine WpG.alloc tabOK rfl rfl rfl rfl rfl (fun b8 => ?_)
 refine WpG.storeBox (ci := 0) (cs' := [.slice Ag ((ofD f).1.succ.length) cg, .slice Ag' ((ofD f).1.pred.length) cg']) tabOK rfl rfl rfl rfl rfl rfl rfl rfl rfl ?_
 refine WpG.freezeBox (ci := 0) rfl (fun H9 hH9 hc9 => ?_)
 refine WpG.g tabOK 4 rfl ?_
 apply WpG.join (G := [(1, .int .i64 a), (2, .pointer (some ⟨b1, 0, none⟩)), (4, .pointer (some ⟨b3, 0, none⟩)), (6, .pointer (some ⟨b8, 0, none⟩)), (25, .bool ((decide (a < 0)) || (decide (a ≥ (f.blocks.length : Int)))))])
 ·intro nx10
  refine WpG.g tabOK 1 rfl ?_
  refine WpG.g tabOK 7 rfl ?_
  refine WpG.caseD (t := 19) rfl (fun q19 => ?_) (fun q19 => ?_)
  ·refine WpG.g tabOK 7 rfl ?_
   exact nx10.weak ⟨rfl, rfl, rfl, rfl, bq (by simp [q19]), trivial⟩
  refine WpG.g tabOK 2 rfl ?_
  refine WpG.y rfl rfl rfl rfl (RunY.loadH tabOK (hc2.sub 2 1) (hH4.trans hH9) rfl rfl rfl rfl) ?_
  refine WpG.g tabOK 4 rfl ?_
  exact nx10.weak ⟨rfl, rfl, rfl, rfl, bq (by simp [q19]), trivial⟩
 refine WpG.caseB (t := 25) rfl (fun q25 => ?_) (fun q25 => ?_)
 ·have hx : a < 0 ∨ a ≥ f.blocks.length := by simpa using q25
  refine WpG.g tabOK 4 rfl ?_
  refine WpG.storeBox (ci := 0) (cs' := [.int .i64 0, .int .i64 0, .int .i64 0, .int .i64 0]) tabOK rfl rfl rfl rfl rfl rfl rfl rfl rfl ?_
  refine WpG.g tabOK 2 rfl ?_
  exact WpG.ret tabOK (L' := []) (.cell (ci := 0) rfl rfl rfl rfl (.tmp rfl .nil)) (.cons _ .slnil) ⟨by rw [show findH f a = (noneH, false) from by unfold findH; rw [if_neg (by omega)]]; rfl, hT, rfl⟩
 have hx : ¬ (a < 0 ∨ a ≥ f.blocks.length) := by simpa using q25
 refine WpG.g tabOK 4 rfl ?_
 refine WpG.y rfl rfl rfl rfl (RunY.loadH tabOK hc2 (hH4.trans hH9) rfl rfl rfl rfl) ?_
 refine WpG.y rfl rfl rfl rfl (RunY.loadH tabOK hc9 hlr rfl rfl rfl rfl) ?_
 refine WpG.g tabOK 1 rfl ?_
 refine WpG.callS rfl rfl rfl rfl rfl rfl hlr (hFind_calls (Rdc.mono ((hH2.trans hH4).trans hH9) rd_f') (Rdc.mono hH9 ⟨_, _, _, _, rfl, uga, rga, ugb, rgb⟩) hg a ha (by omega) (by omega)) ?_
 refine WpG.g tabOK 2 rfl ?_
 refine WpG.storeBox (ci := 0) (cs' := [.int .i64 ((findD f (ofD f).1 a).1.at_), .int .i64 ((findD f (ofD f).1 a).1.thn), .int .i64 ((findD f (ofD f).1 a).1.els), .int .i64 ((findD f (ofD f).1 a).1.join)]) tabOK rfl rfl rfl rfl rfl rfl rfl rfl rfl ?_
 refine WpG.g tabOK 2 rfl ?_
 exact WpG.ret tabOK (L' := []) (.cell (ci := 0) rfl rfl rfl rfl (.tmp rfl .nil)) (.cons _ .slnil) ⟨by rw [show findH f a = findD f (ofD f).1 a from by unfold findH; exact if_pos ⟨hok, by omega, by omega⟩]; rfl, hT, rfl⟩
theorem HIs_calls {H : Hp} {f : FuncD} {cs_f : List Value} (rd_f : Rdc.rd H cs_f f) (h : HamD) (ha : I64 h.at_) : CallG Tryz.prog 12 [.agg cs_f.toArray, hamV h] H [] (fun v _ L' => v = .bool (isH f h) ∧ HasT f ∧ L' = []) := by
 have rd_f' := rd_f; obtain ⟨A_f_0, c_f_0, A_f_2, c_f_2, rfl, u_f_0, r_f_0, u_f_2, r_f_2, k_f_0⟩ := rd_f
 have bf := r_f_2.1
 refine CallG.of Tryz.func12 rfl rfl rfl fun w0 => ?_
 refine WpG.g tabOK 2 rfl ?_
 refine WpG.box rfl rfl rfl rfl rfl (fun b1 => ?_)
 refine WpG.freezeBox (ci := 0) rfl (fun H2 hH2 hc2 => ?_)
 refine WpG.box rfl rfl rfl rfl rfl (fun b3 => ?_)
 refine WpG.freezeBox (ci := 0) rfl (fun H4 hH4 hc4 => ?_)
 refine WpG.g tabOK 4 rfl ?_
 refine WpG.y rfl rfl rfl rfl (RunY.loadH tabOK hc2 hH4 rfl rfl rfl rfl) ?_
 refine WpG.call0 rfl rfl rfl rfl rfl rfl (hRight_calls (Rdc.mono (hH2.trans hH4) rd_f')) ?_
 rintro _ H5 L1 hH5 ⟨hT, (⟨hok, rfl⟩ | ⟨hok, Ag, cg, Ag', cg', rfl, uga, rga, ugb, rgb⟩), rfl⟩
 ·have hg := True.intro
  refine WpG.g tabOK 3 rfl ?_
  refine WpG.alloc tabOK rfl rfl rfl rfl rfl (fun b6 => ?_)
  refine WpG.storeBox (ci := 0) (cs' := [.slice none 0 0, .slice none 0 0]) tabOK rfl rfl rfl rfl rfl rfl rfl rfl rfl ?_
  refine WpG.freezeBox (ci := 0) rfl (fun H7 hH7 hc7 => ?_)
  refine WpG.g tabOK 13 rfl ?_
  exact WpG.ret tabOK (L' := []) (.tmp rfl .nil) .slnil ⟨congrArg Value.bool (by unfold isH; rw [hok]; rfl), hT, rfl⟩
 have hg := (okF_gg hok).1; have hB := (okF_gg hok).2.1
 refine WpG.g tabOK 3 rfl ?_
 refine WpG.alloc tabOK rfl rfl rfl rfl rfl (fun b8 => ?_)
 refine WpG.storeBox (ci := 0) (cs' := [.slice Ag ((ofD f).1.succ.length) cg, .slice Ag' ((ofD f).1.pred.length) cg']) tabOK rfl rfl rfl rfl rfl rfl rfl rfl rfl ?_
 refine WpG.freezeBox (ci := 0) rfl (fun H9 hH9 hc9 => ?_)
 refine WpG.g tabOK 3 rfl ?_
 apply WpG.join (G := [(4, .bool (isD f ((ofD f).1) ⟨h.at_, h.thn, h.els, h.join⟩))])
 ·intro nx10
  refine WpG.g tabOK 1 rfl ?_
  refine WpG.g tabOK 2 rfl ?_
  refine WpG.y rfl rfl rfl rfl (RunY.loadH tabOK hc2 ((hH4.trans hH5).trans hH9) rfl rfl rfl rfl) ?_
  refine WpG.y rfl rfl rfl rfl (RunY.loadH tabOK hc9 hlr rfl rfl rfl rfl) ?_
  refine WpG.y rfl rfl rfl rfl (RunY.loadH tabOK hc4 (hH5.trans hH9) rfl rfl rfl rfl) ?_
  refine WpG.callS rfl rfl rfl rfl rfl rfl hlr (hIs_calls (Rdc.mono (((hH2.trans hH4).trans hH5).trans hH9) rd_f') (Rdc.mono hH9 ⟨_, _, _, _, rfl, uga, rga, ugb, rgb⟩) hg ⟨h.at_, h.thn, h.els, h.join⟩ ha) ?_
  refine WpG.g tabOK 3 rfl ?_
  exact nx10.weak ⟨rfl, trivial⟩
 exact WpG.ret tabOK (L' := []) (.tmp rfl .nil) .slnil ⟨congrArg Value.bool (by unfold isH; rw [hok]; rfl), hT, rfl⟩
set_option maxHeartbeats 1000000 in
theorem HAll_calls {H : Hp} {f : FuncD} {cs_f : List Value} (rd_f : Rdc.rd H cs_f f) : CallG Tryz.prog 18 [.agg cs_f.toArray] H [] (fun v H' L' => HasT f ∧ ∃ A c, v = .slice A (allH f).length c ∧ (allH f).length ≤ c ∧ RdS H' A (allH f) ∧ L' = []) := by
 have rd_f' := rd_f; obtain ⟨A_f_0, c_f_0, A_f_2, c_f_2, rfl, u_f_0, r_f_0, u_f_2, r_f_2, k_f_0⟩ := rd_f
 have bf := r_f_2.1
 refine CallG.of Tryz.func18 rfl rfl rfl fun w0 => ?_
 refine WpG.g tabOK 2 rfl ?_
 refine WpG.box rfl rfl rfl rfl rfl (fun b1 => ?_)
 refine WpG.freezeBox (ci := 0) rfl (fun H2 hH2 hc2 => ?_)
 refine WpG.g tabOK 5 rfl ?_
 refine WpG.y rfl rfl rfl rfl (RunY.loadH tabOK hc2 hlr rfl rfl rfl rfl) ?_
 refine WpG.call0 rfl rfl rfl rfl rfl rfl (hRight_calls (Rdc.mono hH2 rd_f')) ?_
 rintro _ H3 L1 hH3 ⟨hT, (⟨hok, rfl⟩ | ⟨hok, Ag, cg, Ag', cg', rfl, uga, rga, ugb, rgb⟩), rfl⟩
 ·have hg := True.intro
  refine WpG.g tabOK 3 rfl ?_
  refine WpG.alloc tabOK rfl rfl rfl rfl rfl (fun b4 => ?_)
  refine WpG.storeBox (ci := 0) (cs' := [.slice none 0 0, .slice none 0 0]) tabOK rfl rfl rfl rfl rfl rfl rfl rfl rfl ?_
  refine WpG.freezeBox (ci := 0) rfl (fun H5 hH5 hc5 => ?_)
  refine WpG.g tabOK 13 rfl ?_
  exact WpG.ret tabOK (L' := []) (.tmp rfl .nil) .slnil ⟨hT, none, 0, by rw [show allH f = [] from by unfold allH; rw [if_neg (by rw [hok]; simp)]]; rfl, by rw [show allH f = [] from by unfold allH; rw [if_neg (by rw [hok]; simp)]]; exact Nat.le_refl 0, by rw [show allH f = [] from by unfold allH; rw [if_neg (by rw [hok]; simp)]]; exact RdS.nil _ _, rfl⟩
 have hg := (okF_gg hok).1; have hB := (okF_gg hok).2.1
 refine WpG.g tabOK 3 rfl ?_
 refine WpG.alloc tabOK rfl rfl rfl rfl rfl (fun b6 => ?_)
 refine WpG.storeBox (ci := 0) (cs' := [.slice Ag ((ofD f).1.succ.length) cg, .slice Ag' ((ofD f).1.pred.length) cg']) tabOK rfl rfl rfl rfl rfl rfl rfl rfl rfl ?_
 refine WpG.freezeBox (ci := 0) rfl (fun H7 hH7 hc7 => ?_)
 refine WpG.g tabOK 20 rfl ?_
 refine WpG.y rfl rfl rfl rfl (RunY.loadH tabOK (hc2.sub 2 1) (hH3.trans hH7) rfl rfl rfl rfl) ?_
 refine WpG.g tabOK 5 rfl ?_
 refine WpG.ownNil 27 4 ?_
 refine WpG.wk (WpG.ind5 (fun (i : Int) (A1 : Option Addr) (n1 : Nat) (c1 : Nat) (l1 : List HamD) => ⟨(f.blocks.length - i).toNat, [(1, .pointer (some ⟨b1, 0, none⟩)), (3, .pointer (some ⟨b6, 0, none⟩)), (5, .slice A1 n1 c1), (18, .int .i64 (f.blocks.length : Int)), (19, .int .i64 i)], H7, [Chunk.own 27 4 A1 c1 n1 (flatH l1)], 0 ≤ i ∧ i ≤ f.blocks.length ∧ l1 = allTo f (ofD f).1 i.toNat ∧ n1 = l1.length ∧ AllH l1⟩) ?_ 0 none 0 0 [] ⟨by omega, by omega, rfl, rfl, AllH_nil⟩) rfl
 intro i A1 n1 c1 l1 inv ih1
 obtain ⟨i0, i1, i2, i3, i4⟩ := inv
 have hb1 := hB.b1; have hle : l1.length ≤ i.toNat := by rw [i2]; exact allTo_len f (ofD f).1 i.toNat
 refine WpG.g tabOK 5 rfl ?_
 refine WpG.caseD (t := 20) rfl (fun q20 => ?_) (fun q20 => ?_)
 ·refine WpG.g tabOK 11 rfl ?_
  refine WpG.y rfl rfl rfl rfl (RunY.loadH tabOK hc2 (hH3.trans hH7) rfl rfl rfl rfl) ?_
  refine WpG.y rfl rfl rfl rfl (RunY.loadH tabOK hc7 hlr rfl rfl rfl rfl) ?_
  refine WpG.g tabOK 1 rfl ?_
  refine WpG.callS rfl rfl rfl rfl rfl rfl hlr (hFind_calls (Rdc.mono ((hH2.trans hH3).trans hH7) rd_f') (Rdc.mono hH7 ⟨_, _, _, _, rfl, uga, rga, ugb, rgb⟩) hg i (i64s i0 (by omega)) i0 (by omega)) ?_
  refine WpG.g tabOK 3 rfl ?_
  refine WpG.alloc tabOK rfl rfl rfl rfl rfl (fun b8 => ?_)
  refine WpG.storeBox (ci := 0) (cs' := [.int .i64 ((findD f (ofD f).1 i).1.at_), .int .i64 ((findD f (ofD f).1 i).1.thn), .int .i64 ((findD f (ofD f).1 i).1.els), .int .i64 ((findD f (ofD f).1 i).1.join)]) tabOK rfl rfl rfl rfl rfl rfl rfl rfl rfl ?_
  refine WpG.g tabOK 8 rfl ?_
  refine WpG.caseBn (t := 30) rfl (fun q30 => ?_) (fun q30 => ?_)
  ·refine WpG.gw tabOK 4 35 rfl (wrk (x := i + 1) (by omega) (by omega)) ?_
   refine WpG.g tabOK 3 rfl ?_
   refine WpG.dropL (L' := [Chunk.own 27 4 A1 c1 n1 (flatH l1)]) (.cons _ (.cons_cons _ .slnil)) ?_
   refine WpG.wk (ih1 (i + 1) A1 n1 c1 l1 ?_ ?_) rfl
   ·dsimp only
    omega
   clear ih1
   exact ⟨by omega, by omega, by rw [allTo_no i0 q30]; exact i2, i3, i4⟩
  refine WpG.g tabOK 4 rfl ?_
  refine WpG.y rfl rfl rfl rfl (RunY.loadBox (ci := 0) tabOK rfl rfl rfl rfl) ?_
  refine WpG.buildSlice (xs := [.int .i64 ((findD f (ofD f).1 i).1.at_), .int .i64 ((findD f (ofD f).1 i).1.thn), .int .i64 ((findD f (ofD f).1 i).1.els), .int .i64 ((findD f (ofD f).1 i).1.join)]) tabOK rfl rfl rfl rfl rfl rfl rfl rfl rfl rfl (fun b9 => ?_)
  refine WpG.append (ci := 2) tabOK rfl rfl rfl rfl rfl rfl rfl rfl rfl rfl rfl rfl (Src.own (ci := 0) rfl) (by omega) (fun A11 c12 => ?_)
  refine WpG.dropL (L' := [Chunk.box b8 [.int .i64 ((findD f (ofD f).1 i).1.at_), .int .i64 ((findD f (ofD f).1 i).1.thn), .int .i64 ((findD f (ofD f).1 i).1.els), .int .i64 ((findD f (ofD f).1 i).1.join)] 27, Chunk.own 27 4 A11 c12 (n1 + 1) ((flatH l1) ++ [.int .i64 ((findD f (ofD f).1 i).1.at_), .int .i64 ((findD f (ofD f).1 i).1.thn), .int .i64 ((findD f (ofD f).1 i).1.els), .int .i64 ((findD f (ofD f).1 i).1.join)])]) (.cons _ (.cons_cons _ (.cons_cons _ .slnil))) ?_
  refine WpG.setL (L' := [Chunk.box b8 [.int .i64 ((findD f (ofD f).1 i).1.at_), .int .i64 ((findD f (ofD f).1 i).1.thn), .int .i64 ((findD f (ofD f).1 i).1.els), .int .i64 ((findD f (ofD f).1 i).1.join)] 27, Chunk.own 27 4 A11 c12 (n1 + 1) (flatH (l1 ++ [(⟨(findD f (ofD f).1 i).1.at_, (findD f (ofD f).1 i).1.thn, (findD f (ofD f).1 i).1.els, (findD f (ofD f).1 i).1.join⟩ : HamD)]))]) (by rw [flatH_snoc]) ?_
  refine WpG.gw tabOK 5 35 rfl (wrk (x := i + 1) (by omega) (by omega)) ?_
  refine WpG.g tabOK 3 rfl ?_
  refine WpG.dropL (L' := [Chunk.own 27 4 A11 c12 (n1 + 1) (flatH (l1 ++ [(⟨(findD f (ofD f).1 i).1.at_, (findD f (ofD f).1 i).1.thn, (findD f (ofD f).1 i).1.els, (findD f (ofD f).1 i).1.join⟩ : HamD)]))]) (.cons _ (.cons_cons _ .slnil)) ?_
  refine WpG.wk (ih1 (i + 1) A11 (n1 + 1) c12 (l1 ++ [(⟨(findD f (ofD f).1 i).1.at_, (findD f (ofD f).1 i).1.thn, (findD f (ofD f).1 i).1.els, (findD f (ofD f).1 i).1.join⟩ : HamD)]) ?_ ?_) rfl
  ·dsimp only
   omega
  clear ih1
  exact ⟨by omega, by omega, by rw [allTo_yes i0 q30, ← i2], by rw [List.length_append, ← i3]; rfl, AllH_snoc i4 (is_IH hb1 (find_is q30).1)⟩
 refine WpG.g tabOK 7 rfl ?_
 refine WpG.ownCap (ci := 0) rfl (fun uz13 => ?_)
 refine WpG.freezeOwn (ci := 0) rfl (fun H13 hH13 fz13 => ?_)
 have rz13 : RdS H13 A1 l1 := RdS.of_own (H := H7) (show RdL H7 (flatH l1) l1 from RdL_hams _ i4) (i3) (by have := allTo_len f (ofD f).1 i.toNat; rw [← i2] at this; omega) hH13 fz13
 exact WpG.ret tabOK (L' := []) (.tmp rfl .nil) .slnil ⟨hT, rows_retG (by rw [i2]; unfold allH; rw [if_pos hok, show i.toNat = f.blocks.length from by omega]) i3 uz13 rz13⟩
end Go.Proofs.YtakameggkkjcpaaGreat
set_option maxRecDepth 4000
namespace Go.Proofs.YtakameggkkjcpaaGreat
open Go Go.RowKit
theorem hOps_calls {H : Hp} {f : FuncD} {cs_f : List Value} (rd_f : Rdc.rd H cs_f f) (h : HamD) (hi1 : I64 h.thn) (hi2 : I64 h.els) (ho1 : h.thn = -1 ∨ (0 ≤ h.thn ∧ h.thn < f.blocks.length)) (ho2 : h.els = -1 ∨ (0 ≤ h.els ∧ h.els < f.blocks.length)) (hbo : ∀ x ∈ f.blocks, x.ops.length ≤ 512) : CallG Tryz.prog 33 [.agg cs_f.toArray, hamV h] H [] (fun v H' L' => ∃ A c, v = .slice A (opsD f h).length c ∧ (opsD f h).length ≤ c ∧ RdS H' A (opsD f h) ∧ L' = []) := by
 have rd_f' := rd_f; obtain ⟨A_f_0, c_f_0, A_f_2, c_f_2, rfl, u_f_0, r_f_0, u_f_2, r_f_2, k_f_0⟩ := rd_f
 have bf := r_f_2.1
 refine CallG.of Tryz.func33 rfl rfl rfl fun w0 => ?_
 refine WpG.g tabOK 2 rfl ?_
 refine WpG.box rfl rfl rfl rfl rfl (fun b1 => ?_)
 refine WpG.freezeBox (ci := 0) rfl (fun H2 hH2 hc2 => ?_)
 refine WpG.box rfl rfl rfl rfl rfl (fun b3 => ?_)
 refine WpG.freezeBox (ci := 0) rfl (fun H4 hH4 hc4 => ?_)
 refine WpG.g tabOK 10 rfl ?_
 refine WpG.y rfl rfl rfl rfl (RunY.loadH tabOK (hc4.sub 1 1) hlr rfl rfl rfl rfl) ?_
 refine WpG.g tabOK 1 rfl ?_
 refine WpG.y rfl rfl rfl rfl (RunY.loadH tabOK (hc4.sub 2 1) hlr rfl rfl rfl rfl) ?_
 refine WpG.buildSlice (xs := [.int .i64 h.thn, .int .i64 h.els]) tabOK rfl rfl rfl rfl rfl rfl rfl rfl rfl rfl (fun b5 => ?_)
 refine WpG.g tabOK 5 rfl ?_
 refine WpG.g tabOK 11 rfl ?_
 refine WpG.y rfl rfl rfl rfl (RunY.indexAddr tabOK rfl rfl rfl rfl rfl (by decide) (by decide)) ?_
 refine WpG.y rfl rfl rfl rfl (RunY.loadOwn (ci := 0) (cs := [.int .i64 h.thn]) tabOK rfl rfl rfl rfl rfl (own_cell1 rfl)) ?_
 refine WpG.g tabOK 7 rfl ?_
 refine WpG.caseN (t := 19) rfl (fun q19 => ?_) (fun q19 => ?_)
 ·have hbthn := hbo _ (nth_mem (xs := f.blocks) (i := h.thn) (by omega) (by omega))
  refine WpG.g tabOK 4 rfl ?_
  refine WpG.y rfl rfl rfl rfl (RunY.loadH tabOK (hc2.sub 2 1) hH4 rfl rfl rfl rfl) ?_
  refine WpG.g tabOK 1 rfl ?_
  refine WpG.indexR tabOK rfl rfl rfl rfl rfl rfl rfl rfl rfl r_f_2 (by omega) (by omega) ?_
  rintro x7 hx7 b7 o7 cs7 rd7 hc7
  have rd7' := rd7; obtain ⟨A7_0, c7_0, A7_1, c7_1, A7_4, c7_4, rfl, u7_0, r7_0, u7_1, r7_1, u7_4, r7_4, k7_0, k7_1⟩ := rd7
  have bz7_0 := r7_0.1
  have bz7_1 := r7_1.1
  have bz7_4 := r7_4.1
  obtain rfl : x7 = (nth f.blocks h.thn) := hx7
  refine WpG.g tabOK 1 rfl ?_
  refine WpG.y rfl rfl rfl rfl (RunY.loadH tabOK (hc7.sub 1 1) (hH2.trans hH4) rfl rfl rfl rfl) ?_
  refine WpG.ownNil 53 6 ?_
  refine WpG.appendR (ci := 0) tabOK rfl rfl rfl rfl rfl rfl rfl rfl rfl rfl rfl r7_1 (hH2.trans hH4) (by omega) (fun A9 c10 cs11 hcs11 => ?_)
  refine WpG.gw tabOK 5 28 (v := .int .i64 1) rfl rfl ?_
  refine WpG.g tabOK 3 rfl ?_
  refine WpG.g tabOK 11 rfl ?_
  refine WpG.y rfl rfl rfl rfl (RunY.indexAddr tabOK rfl rfl rfl rfl rfl (by decide) (by decide)) ?_
  refine WpG.y rfl rfl rfl rfl (RunY.loadOwn (ci := 1) (cs := [.int .i64 h.els]) tabOK rfl rfl rfl rfl rfl (own_cell1 rfl)) ?_
  refine WpG.g tabOK 7 rfl ?_
  refine WpG.caseN (t := 19) rfl (fun q19_2 => ?_) (fun q19_2 => ?_)
  ·have hbels := hbo _ (nth_mem (xs := f.blocks) (i := h.els) (by omega) (by omega))
   refine WpG.g tabOK 4 rfl ?_
   refine WpG.y rfl rfl rfl rfl (RunY.loadH tabOK (hc2.sub 2 1) hH4 rfl rfl rfl rfl) ?_
   refine WpG.g tabOK 1 rfl ?_
   refine WpG.indexR tabOK rfl rfl rfl rfl rfl rfl rfl rfl rfl r_f_2 (by omega) (by omega) ?_
   rintro x12 hx12 b12 o12 cs12 rd12 hc12
   have rd12' := rd12; obtain ⟨A12_0, c12_0, A12_1, c12_1, A12_4, c12_4, rfl, u12_0, r12_0, u12_1, r12_1, u12_4, r12_4, k12_0, k12_1⟩ := rd12
   have bz12_0 := r12_0.1
   have bz12_1 := r12_1.1
   have bz12_4 := r12_4.1
   obtain rfl : x12 = (nth f.blocks h.els) := hx12
   refine WpG.g tabOK 1 rfl ?_
   refine WpG.y rfl rfl rfl rfl (RunY.loadH tabOK (hc12.sub 1 1) (hH2.trans hH4) rfl rfl rfl rfl) ?_
   refine WpG.appendR (ci := 0) tabOK rfl rfl rfl rfl rfl rfl rfl rfl rfl rfl rfl r12_1 (hH2.trans hH4) (by omega) (fun A13 c14 cs15 hcs15 => ?_)
   refine WpG.gw tabOK 5 28 (v := .int .i64 2) rfl rfl ?_
   refine WpG.g tabOK 3 rfl ?_
   refine WpG.g tabOK 12 rfl ?_
   refine WpG.ownCap (ci := 0) rfl (fun uz16 => ?_)
   refine WpG.freezeOwn (ci := 0) rfl (fun H16 hH16 fz16 => ?_)
   have rz16 : RdS H16 A13 ((nth f.blocks h.thn).ops ++ ((nth f.blocks h.els).ops)) := RdS.of_own (H := H4) (show RdL H4 (cs11 ++ cs15) ((nth f.blocks h.thn).ops ++ ((nth f.blocks h.els).ops)) from (RdL.append hcs11 hcs15)) ((by simp)) (by (try simp only [List.length_append]); omega) hH16 fz16
   exact WpG.ret tabOK (L' := []) (.tmp rfl .nil) (.cons _ .slnil) (rows_retG (by rw [show opsD f h = (nth f.blocks h.thn).ops ++ (nth f.blocks h.els).ops from by unfold opsD; rw [if_neg q19, if_neg q19_2]]) (by simp) uz16 rz16)
  refine WpG.gw tabOK 5 28 (v := .int .i64 2) rfl rfl ?_
  refine WpG.g tabOK 3 rfl ?_
  refine WpG.g tabOK 12 rfl ?_
  refine WpG.ownCap (ci := 0) rfl (fun uz17 => ?_)
  refine WpG.freezeOwn (ci := 0) rfl (fun H17 hH17 fz17 => ?_)
  have rz17 : RdS H17 A9 ((nth f.blocks h.thn).ops) := RdS.of_own (H := H4) (show RdL H4 cs11 ((nth f.blocks h.thn).ops) from hcs11) ((by simp)) (by (try simp only [List.length_append]); omega) hH17 fz17
  exact WpG.ret tabOK (L' := []) (.tmp rfl .nil) (.cons _ .slnil) (rows_retG (by rw [show opsD f h = (nth f.blocks h.thn).ops from by unfold opsD; rw [if_neg q19, if_pos q19_2]; simp]) (by simp) uz17 rz17)
 refine WpG.gw tabOK 5 28 (v := .int .i64 1) rfl rfl ?_
 refine WpG.g tabOK 3 rfl ?_
 refine WpG.g tabOK 11 rfl ?_
 refine WpG.y rfl rfl rfl rfl (RunY.indexAddr tabOK rfl rfl rfl rfl rfl (by decide) (by decide)) ?_
 refine WpG.y rfl rfl rfl rfl (RunY.loadOwn (ci := 0) (cs := [.int .i64 h.els]) tabOK rfl rfl rfl rfl rfl (own_cell1 rfl)) ?_
 refine WpG.g tabOK 7 rfl ?_
 refine WpG.caseN (t := 19) rfl (fun q19_2 => ?_) (fun q19_2 => ?_)
 ·have hbels := hbo _ (nth_mem (xs := f.blocks) (i := h.els) (by omega) (by omega))
  refine WpG.g tabOK 4 rfl ?_
  refine WpG.y rfl rfl rfl rfl (RunY.loadH tabOK (hc2.sub 2 1) hH4 rfl rfl rfl rfl) ?_
  refine WpG.g tabOK 1 rfl ?_
  refine WpG.indexR tabOK rfl rfl rfl rfl rfl rfl rfl rfl rfl r_f_2 (by omega) (by omega) ?_
  rintro x18 hx18 b18 o18 cs18 rd18 hc18
  have rd18' := rd18; obtain ⟨A18_0, c18_0, A18_1, c18_1, A18_4, c18_4, rfl, u18_0, r18_0, u18_1, r18_1, u18_4, r18_4, k18_0, k18_1⟩ := rd18
  have bz18_0 := r18_0.1
  have bz18_1 := r18_1.1
  have bz18_4 := r18_4.1
  obtain rfl : x18 = (nth f.blocks h.els) := hx18
  refine WpG.g tabOK 1 rfl ?_
  refine WpG.y rfl rfl rfl rfl (RunY.loadH tabOK (hc18.sub 1 1) (hH2.trans hH4) rfl rfl rfl rfl) ?_
  refine WpG.ownNil 53 6 ?_
  refine WpG.appendR (ci := 0) tabOK rfl rfl rfl rfl rfl rfl rfl rfl rfl rfl rfl r18_1 (hH2.trans hH4) (by omega) (fun A20 c21 cs22 hcs22 => ?_)
  refine WpG.gw tabOK 5 28 (v := .int .i64 2) rfl rfl ?_
  refine WpG.g tabOK 3 rfl ?_
  refine WpG.g tabOK 12 rfl ?_
  refine WpG.ownCap (ci := 0) rfl (fun uz23 => ?_)
  refine WpG.freezeOwn (ci := 0) rfl (fun H23 hH23 fz23 => ?_)
  have rz23 : RdS H23 A20 ((nth f.blocks h.els).ops) := RdS.of_own (H := H4) (show RdL H4 cs22 ((nth f.blocks h.els).ops) from hcs22) ((by simp)) (by (try simp only [List.length_append]); omega) hH23 fz23
  exact WpG.ret tabOK (L' := []) (.tmp rfl .nil) (.cons _ .slnil) (rows_retG (by rw [show opsD f h = (nth f.blocks h.els).ops from by unfold opsD; rw [if_pos q19, if_neg q19_2]; simp]) (by simp) uz23 rz23)
 refine WpG.gw tabOK 5 28 (v := .int .i64 2) rfl rfl ?_
 refine WpG.g tabOK 3 rfl ?_
 refine WpG.g tabOK 12 rfl ?_
 exact WpG.ret tabOK (L' := []) (.tmp rfl .nil) (.cons _ .slnil) ⟨none, 0, by rw [show opsD f h = [] from by unfold opsD; rw [if_pos q19, if_pos q19_2]; rfl]; rfl, by rw [show opsD f h = [] from by unfold opsD; rw [if_pos q19, if_pos q19_2]; rfl]; exact Nat.le_refl 0, by rw [show opsD f h = [] from by unfold opsD; rw [if_pos q19, if_pos q19_2]; rfl]; exact RdS.nil _ _, rfl⟩
theorem HCost_calls {H : Hp} {f : FuncD} {cs_f : List Value} (rd_f : Rdc.rd H cs_f f) (h : HamD) (hi : IH h) : CallG Tryz.prog 17 [.agg cs_f.toArray, hamV h] H [] (fun v _ L' => v = .int .i64 (costH f h) ∧ HasT f ∧ L' = []) := by
 have rd_f' := rd_f; obtain ⟨A_f_0, c_f_0, A_f_2, c_f_2, rfl, u_f_0, r_f_0, u_f_2, r_f_2, k_f_0⟩ := rd_f
 have bf := r_f_2.1
 refine CallG.of Tryz.func17 rfl rfl rfl fun w0 => ?_
 refine WpG.g tabOK 2 rfl ?_
 refine WpG.box rfl rfl rfl rfl rfl (fun b1 => ?_)
 refine WpG.freezeBox (ci := 0) rfl (fun H2 hH2 hc2 => ?_)
 refine WpG.box rfl rfl rfl rfl rfl (fun b3 => ?_)
 refine WpG.freezeBox (ci := 0) rfl (fun H4 hH4 hc4 => ?_)
 refine WpG.g tabOK 5 rfl ?_
 refine WpG.y rfl rfl rfl rfl (RunY.loadH tabOK hc2 hH4 rfl rfl rfl rfl) ?_
 refine WpG.y rfl rfl rfl rfl (RunY.loadH tabOK hc4 hlr rfl rfl rfl rfl) ?_
 refine WpG.call0 rfl rfl rfl rfl rfl rfl (HIs_calls (Rdc.mono (hH2.trans hH4) rd_f') ⟨h.at_, h.thn, h.els, h.join⟩ hi.1) ?_
 rintro _ H5 _ hH5 ⟨rfl, hT5, rfl⟩
 refine WpG.g tabOK 2 rfl ?_
 refine WpG.caseBn (t := 8) rfl (fun q8 => ?_) (fun q8 => ?_)
 ·refine WpG.g tabOK 5 rfl ?_
  exact WpG.ret tabOK (L' := []) (.tmp rfl .nil) .slnil ⟨congrArg (Value.int .i64) (cost_none q8).symm, hT5, rfl⟩
 have hd := is_gg q8
 refine WpG.g tabOK 4 rfl ?_
 refine WpG.y rfl rfl rfl rfl (RunY.loadH tabOK hc2 (hH4.trans hH5) rfl rfl rfl rfl) ?_
 refine WpG.y rfl rfl rfl rfl (RunY.loadH tabOK hc4 hH5 rfl rfl rfl rfl) ?_
 refine WpG.call0 rfl rfl rfl rfl rfl rfl (hOps_calls (Rdc.mono ((hH2.trans hH4).trans hH5) rd_f') h hi.2.1 hi.2.2.1 ((is_thn hd.2).imp id fun z => ⟨z.1, z.2.1⟩) ((is_els hd.2).imp id fun z => ⟨z.1, z.2.1⟩) (okF_gg hd.1).2.1.ops) ?_
 rintro _ H6 _ hH6 ⟨A6, c6, rfl, u6, r6, rfl⟩
 refine WpG.g tabOK 3 rfl ?_
 exact WpG.ret tabOK (L' := []) (.tmp rfl .nil) .slnil ⟨congrArg (Value.int .i64) (cost_len q8).symm, hT5, rfl⟩
theorem hMerges1_calls {H : Hp} {o : OpD} {cs_o : List Value} (rd_o : Rdc.rd H cs_o o) : CallG Tryz.prog 34 [.agg cs_o.toArray] H [] (fun v _ L' => v = .bool (dearO o) ∧ L' = []) := by
 have rd_o' := rd_o; obtain ⟨A_o_4, c_o_4, rfl, u_o_4, r_o_4, k_o_0, k_o_1, k_o_2, k_o_3, k_o_4⟩ := rd_o
 refine CallG.of Tryz.func34 rfl rfl rfl fun w0 => ?_
 refine WpG.g tabOK 2 rfl ?_
 refine WpG.box rfl rfl rfl rfl rfl (fun b1 => ?_)
 refine WpG.freezeBox (ci := 0) rfl (fun H2 hH2 hc2 => ?_)
 refine WpG.g tabOK 3 rfl ?_
 apply WpG.join (G := [(2, .bool ((decide (o.lanes > 1)) || (decide (o.kind > 20))))])
 ·intro nx3
  refine WpG.g tabOK 1 rfl ?_
  refine WpG.g tabOK 1 rfl ?_
  refine WpG.y rfl rfl rfl rfl (RunY.loadH tabOK (hc2.sub 2 1) hlr rfl rfl rfl rfl) ?_
  refine WpG.g tabOK 2 rfl ?_
  refine WpG.caseD (t := 6) rfl (fun q6 => ?_) (fun q6 => ?_)
  ·refine WpG.g tabOK 6 rfl ?_
   exact nx3.weak ⟨bq (by simp [q6]), trivial⟩
  refine WpG.g tabOK 1 rfl ?_
  refine WpG.y rfl rfl rfl rfl (RunY.loadH tabOK (hc2.sub 0 1) hlr rfl rfl rfl rfl) ?_
  refine WpG.g tabOK 4 rfl ?_
  exact nx3.weak ⟨bq (by simp [q6]), trivial⟩
 exact WpG.ret tabOK (L' := []) (.tmp rfl .nil) .slnil ⟨congrArg Value.bool (by rfl), rfl⟩
theorem HMerges_calls {H : Hp} {f : FuncD} {cs_f : List Value} (rd_f : Rdc.rd H cs_f f) (h : HamD) (hi : IH h) : CallG Tryz.prog 14 [.agg cs_f.toArray, hamV h] H [] (fun v _ L' => v = .bool (mergesH f h) ∧ HasT f ∧ L' = []) := by
 have rd_f' := rd_f; obtain ⟨A_f_0, c_f_0, A_f_2, c_f_2, rfl, u_f_0, r_f_0, u_f_2, r_f_2, k_f_0⟩ := rd_f
 have bf := r_f_2.1
 refine CallG.of Tryz.func14 rfl rfl rfl fun w0 => ?_
 refine WpG.g tabOK 2 rfl ?_
 refine WpG.box rfl rfl rfl rfl rfl (fun b1 => ?_)
 refine WpG.freezeBox (ci := 0) rfl (fun H2 hH2 hc2 => ?_)
 refine WpG.box rfl rfl rfl rfl rfl (fun b3 => ?_)
 refine WpG.freezeBox (ci := 0) rfl (fun H4 hH4 hc4 => ?_)
 refine WpG.g tabOK 4 rfl ?_
 refine WpG.y rfl rfl rfl rfl (RunY.loadH tabOK hc2 hH4 rfl rfl rfl rfl) ?_
 refine WpG.y rfl rfl rfl rfl (RunY.loadH tabOK hc4 hlr rfl rfl rfl rfl) ?_
 refine WpG.call0 rfl rfl rfl rfl rfl rfl (HIs_calls (Rdc.mono (hH2.trans hH4) rd_f') ⟨h.at_, h.thn, h.els, h.join⟩ hi.1) ?_
 rintro _ H5 _ hH5 ⟨rfl, hT5, rfl⟩
 refine WpG.g tabOK 1 rfl ?_
 refine WpG.caseB (t := 8) rfl (fun q8 => ?_) (fun q8 => ?_)
 ·have hd := is_gg q8
  refine WpG.y rfl rfl rfl rfl (RunY.loadH tabOK hc2 (hH4.trans hH5) rfl rfl rfl rfl) ?_
  refine WpG.y rfl rfl rfl rfl (RunY.loadH tabOK hc4 hH5 rfl rfl rfl rfl) ?_
  refine WpG.call0 rfl rfl rfl rfl rfl rfl (hOps_calls (Rdc.mono ((hH2.trans hH4).trans hH5) rd_f') h hi.2.1 hi.2.2.1 ((is_thn hd.2).imp id fun z => ⟨z.1, z.2.1⟩) ((is_els hd.2).imp id fun z => ⟨z.1, z.2.1⟩) (okF_gg hd.1).2.1.ops) ?_
  rintro _ H6 _ hH6 ⟨A6, c6, rfl, u6, r6, rfl⟩
  refine WpG.callS rfl rfl rfl rfl rfl rfl hlr (ContainsFunc_op r6 (p := dearO) (fun x _ cs hx => hMerges1_calls hx)) ?_
  refine WpG.g tabOK 4 rfl ?_
  exact WpG.ret tabOK (L' := []) (.tmp rfl .nil) .slnil ⟨congrArg Value.bool (by unfold mergesH; rw [q8]; rfl), hT5, rfl⟩
 refine WpG.g tabOK 8 rfl ?_
 exact WpG.ret tabOK (L' := []) (.tmp rfl .nil) .slnil ⟨congrArg Value.bool (by unfold mergesH; rw [q8]; rfl), hT5, rfl⟩
end Go.Proofs.YtakameggkkjcpaaGreat
namespace Go.Proofs.YtakameggkkjcpaaGreat
open Go Go.RowKit
def fDm : FuncD := ⟨[1], 1, [⟨[], [], ⟨2, 1, [1, 2]⟩⟩, ⟨[], [⟨7, 1, 1, 2, [1, 1], 0⟩], ⟨1, 0, [3]⟩⟩, ⟨[], [], ⟨1, 0, [3]⟩⟩, ⟨[], [], ⟨0, 1, []⟩⟩]⟩
def sDm : List (List Int) := [[1, 2], [3], [3], []]
theorem dm_reach {no x : Int} (h : RchN sDm 0 no x) : x = 0 ∨ x = 1 ∨ x = 2 ∨ x = 3 := by
  induction h with
  | root _ => exact .inl rfl
  | @step p x _ hx _ ih =>
    rcases ih with rfl | rfl | rfl | rfl
    · have : x ∈ ([1, 2] : List Int) := hx
      simp at this; omega
    · have : x ∈ ([3] : List Int) := hx
      simp at this; omega
    · have : x ∈ ([3] : List Int) := hx
      simp at this; omega
    · have : x ∈ ([] : List Int) := hx
      cases this
theorem dm0 {no : Int} (h : no ≠ 0) : RchN sDm 0 no 0 := .root (Ne.symm h)
theorem dm1 {no : Int} (h : no ≠ 0) (h1 : no ≠ 1) : RchN sDm 0 no 1 := .step (dm0 h) (by show (1 : Int) ∈ ([1, 2] : List Int); simp) (Ne.symm h1)
theorem dm2 {no : Int} (h : no ≠ 0) (h1 : no ≠ 2) : RchN sDm 0 no 2 := .step (dm0 h) (by show (2 : Int) ∈ ([1, 2] : List Int); simp) (Ne.symm h1)
theorem dm3 {no : Int} (h : no ≠ 0) (h1 : no ≠ 3) : RchN sDm 0 no 3 := by
  by_cases e : no = 1
  · exact .step (dm2 h (by omega)) (by show (3 : Int) ∈ ([3] : List Int); simp) (Ne.symm h1)
  · exact .step (dm1 h e) (by show (3 : Int) ∈ ([3] : List Int); simp) (Ne.symm h1)
theorem dm_no {x : Int} : ¬ RchN sDm 0 0 x := fun h => by
  induction h with
  | root h => exact h rfl
  | step _ _ _ ih => exact ih
theorem tree_dm : TreeP sDm 0 [-1, 0, 0, 0] := by
  refine ⟨rfl, rfl, fun x x0 x1 hn => ?_, fun x hx => ?_, fun x hx hne => ?_⟩
  · exfalso
    have hc : x = 0 ∨ x = 1 ∨ x = 2 ∨ x = 3 := by
      have : ((sDm.length : Nat) : Int) = 4 := rfl
      omega
    rcases hc with rfl | rfl | rfl | rfl
    · exact hn (dm0 (by decide))
    · exact hn (dm1 (by decide) (by decide))
    · exact hn (dm2 (by decide) (by decide))
    · exact hn (dm3 (by decide) (by decide))
  · have := dm_reach hx
    have e : ((sDm.length : Nat) : Int) = 4 := rfl
    omega
  · have hc := dm_reach hx
    have key : nth [-1, 0, 0, 0] x = 0 := by
      rcases hc with rfl | rfl | rfl | rfl
      · exact absurd rfl hne
      · rfl
      · rfl
      · rfl
    rw [key]
    refine ⟨dm0 (by decide), dm0 hne, fun y hy => ?_⟩
    by_cases y0 : y = 0
    · subst y0; exact ⟨fun h => absurd h dm_no, fun h => absurd h dm_no⟩
    · refine ⟨fun _ => dm0 y0, fun _ => ?_⟩
      rcases hc with rfl | rfl | rfl | rfl
      · exact absurd rfl hne
      · exact dm1 y0 hy
      · exact dm2 y0 hy
      · exact dm3 y0 hy
theorem sort_one (x : Int) : sortD [x] = [x] := by simp [sortD]
theorem sort_12 : sortD [1, 2] = [1, 2] := by
  unfold sortD
  first | exact List.mergeSort_of_pairwise (by simp) | exact List.mergeSort_of_sorted (by simp) | rfl | decide
theorem of_dm : ofD fDm = (⟨sDm, [[], [0], [0], [1, 2]]⟩, 0) := by
  have h2 : fDm.blocks.all (ofOK fDm.blocks.length) = true := by rfl
  rw [of_yes (by show ¬ ((4 : Nat) : Int) > 64; decide) h2]
  have e : fDm.blocks.map succOf = sDm := by
    unfold fDm sDm
    simp only [List.map_cons, List.map_nil, succOf, sort_12, sort_one, sortD_nil]; rfl
  rw [e]; rfl
theorem code_dm : codeOf fDm 2 [-1, 0, 0, 0] = 0 := by unfold codeOf shapeW; rw [of_dm]; decide
theorem is_dm : CodeIs fDm 2 0 := ⟨[-1, 0, 0, 0], fun _ _ => by rw [of_dm]; exact tree_dm, code_dm.symm⟩
theorem ok_dm : okF fDm = true := by rw [← okF_of is_dm]; rfl
theorem dm_find0 : findH fDm 0 = (⟨0, 1, 2, 3⟩, true) := by unfold findH; rw [ok_dm, of_dm]; decide
theorem dm_find1 : findH fDm 1 = (⟨0, 0, 0, 0⟩, false) := by unfold findH; rw [ok_dm, of_dm]; decide
theorem dm_is : isH fDm ⟨0, 1, 2, 3⟩ = true := by unfold isH; rw [ok_dm, of_dm]; decide
theorem dm_is0 : isH fDm ⟨0, 0, 0, 0⟩ = false := by unfold isH; rw [ok_dm, of_dm]; decide
theorem dm_cost : costH fDm ⟨0, 1, 2, 3⟩ = 1 := by unfold costH; rw [dm_is]; decide
theorem dm_merges : mergesH fDm ⟨0, 1, 2, 3⟩ = true := by unfold mergesH; rw [dm_is]; decide
theorem dm_all : allH fDm = [⟨0, 1, 2, 3⟩] := by unfold allH; rw [ok_dm, of_dm]; decide
end Go.Proofs.YtakameggkkjcpaaGreat
set_option maxRecDepth 4000
namespace Go.Proofs.YtakameggkkjcpaaGreat
open Go Go.RowKit
theorem diamond_calls {H : Hp} : CallG Tryz.prog 25 [] H [] (fun v H' L' => ∃ A0 c0 A2 c2, v = .agg #[.slice A0 fDm.params.length c0, .int .i64 fDm.ret, .slice A2 fDm.blocks.length c2] ∧ fDm.params.length ≤ c0 ∧ RdS H' A0 fDm.params ∧ fDm.blocks.length ≤ c2 ∧ RdS H' A2 fDm.blocks ∧ L' = []) := by
 refine CallG.of Tryz.func25 rfl rfl rfl fun w0 => ?_
 refine WpG.g tabOK 2 rfl ?_
 refine WpG.alloc tabOK rfl rfl rfl rfl rfl (fun b1 => ?_)
 refine WpG.g tabOK 3 rfl ?_
 refine WpG.buildSlice (xs := [.int .i64 1]) tabOK rfl rfl rfl rfl rfl rfl rfl rfl rfl rfl (fun b2 => ?_)
 refine WpG.ownCap (ci := 0) rfl (fun uz4 => ?_)
 refine WpG.freezeOwn (ci := 0) rfl (fun H4 hH4 fz4 => ?_)
 have rz4 : RdS H4 (some ⟨b2, 0, none⟩) ([1] : List Int) := RdS.of_own (H := H) (show RdL H [.int .i64 1] ([1] : List Int) from ⟨_, _, rfl, ⟨rfl, ⟨by decide, by decide⟩⟩, rfl⟩) (rfl) (by decide) hH4 fz4
 refine WpG.buildSlice (xs := [.int .i64 1, .int .i64 2]) tabOK rfl rfl rfl rfl rfl rfl rfl rfl rfl rfl (fun b5 => ?_)
 refine WpG.ownCap (ci := 0) rfl (fun uz7 => ?_)
 refine WpG.freezeOwn (ci := 0) rfl (fun H7 hH7 fz7 => ?_)
 have rz7 : RdS H7 (some ⟨b5, 0, none⟩) ([1, 2] : List Int) := RdS.of_own (H := H4) (show RdL H4 [.int .i64 1, .int .i64 2] ([1, 2] : List Int) from ⟨_, _, rfl, ⟨rfl, ⟨by decide, by decide⟩⟩, ⟨_, _, rfl, ⟨rfl, ⟨by decide, by decide⟩⟩, rfl⟩⟩) (rfl) (by decide) hH7 fz7
 refine WpG.g tabOK 2 rfl ?_
 refine WpG.buildSlice (xs := [.int .i64 1, .int .i64 1]) tabOK rfl rfl rfl rfl rfl rfl rfl rfl rfl rfl (fun b8 => ?_)
 refine WpG.ownCap (ci := 0) rfl (fun uz10 => ?_)
 refine WpG.freezeOwn (ci := 0) rfl (fun H10 hH10 fz10 => ?_)
 have rz10 : RdS H10 (some ⟨b8, 0, none⟩) ([1, 1] : List Int) := RdS.of_own (H := H7) (show RdL H7 [.int .i64 1, .int .i64 1] ([1, 1] : List Int) from ⟨_, _, rfl, ⟨rfl, ⟨by decide, by decide⟩⟩, ⟨_, _, rfl, ⟨rfl, ⟨by decide, by decide⟩⟩, rfl⟩⟩) (rfl) (by decide) hH10 fz10
 refine WpG.g tabOK 1 rfl ?_
 refine WpG.buildSlice (xs := [.int .i64 7, .int .i64 1, .int .i64 1, .int .i64 2, .slice (some ⟨b8, 0, none⟩) 2 2, .int .u64 0]) tabOK rfl rfl rfl rfl rfl rfl rfl rfl rfl rfl (fun b11 => ?_)
 refine WpG.ownCap (ci := 0) rfl (fun uz13 => ?_)
 refine WpG.freezeOwn (ci := 0) rfl (fun H13 hH13 fz13 => ?_)
 have rz13 : RdS H13 (some ⟨b11, 0, none⟩) ([⟨7, 1, 1, 2, [1, 1], 0⟩] : List OpD) := RdS.of_own (H := H10) (show RdL H10 [.int .i64 7, .int .i64 1, .int .i64 1, .int .i64 2, .slice (some ⟨b8, 0, none⟩) 2 2, .int .u64 0] ([⟨7, 1, 1, 2, [1, 1], 0⟩] : List OpD) from ⟨_, _, rfl, ⟨_, _, rfl, by decide, rz10, ⟨by decide, by decide⟩, ⟨by decide, by decide⟩, ⟨by decide, by decide⟩, ⟨by decide, by decide⟩, ⟨by decide, by decide⟩⟩, rfl⟩) (rfl) (by decide) hH13 fz13
 refine WpG.buildSlice (xs := [.int .i64 3]) tabOK rfl rfl rfl rfl rfl rfl rfl rfl rfl rfl (fun b14 => ?_)
 refine WpG.ownCap (ci := 0) rfl (fun uz16 => ?_)
 refine WpG.freezeOwn (ci := 0) rfl (fun H16 hH16 fz16 => ?_)
 have rz16 : RdS H16 (some ⟨b14, 0, none⟩) ([3] : List Int) := RdS.of_own (H := H13) (show RdL H13 [.int .i64 3] ([3] : List Int) from ⟨_, _, rfl, ⟨rfl, ⟨by decide, by decide⟩⟩, rfl⟩) (rfl) (by decide) hH16 fz16
 refine WpG.g tabOK 2 rfl ?_
 refine WpG.buildSlice (xs := [.int .i64 3]) tabOK rfl rfl rfl rfl rfl rfl rfl rfl rfl rfl (fun b17 => ?_)
 refine WpG.ownCap (ci := 0) rfl (fun uz19 => ?_)
 refine WpG.freezeOwn (ci := 0) rfl (fun H19 hH19 fz19 => ?_)
 have rz19 : RdS H19 (some ⟨b17, 0, none⟩) ([3] : List Int) := RdS.of_own (H := H16) (show RdL H16 [.int .i64 3] ([3] : List Int) from ⟨_, _, rfl, ⟨rfl, ⟨by decide, by decide⟩⟩, rfl⟩) (rfl) (by decide) hH19 fz19
 refine WpG.g tabOK 4 rfl ?_
 refine WpG.buildSlice (xs := [.slice none 0 0, .slice none 0 0, .int .i64 2, .int .i64 1, .slice (some ⟨b5, 0, none⟩) 2 2, .slice none 0 0, .slice (some ⟨b11, 0, none⟩) 1 1, .int .i64 1, .int .i64 0, .slice (some ⟨b14, 0, none⟩) 1 1, .slice none 0 0, .slice none 0 0, .int .i64 1, .int .i64 0, .slice (some ⟨b17, 0, none⟩) 1 1, .slice none 0 0, .slice none 0 0, .int .i64 0, .int .i64 1, .slice none 0 0]) tabOK rfl rfl rfl rfl rfl rfl rfl rfl rfl rfl (fun b20 => ?_)
 refine WpG.ownCap (ci := 0) rfl (fun uz22 => ?_)
 refine WpG.freezeOwn (ci := 0) rfl (fun H22 hH22 fz22 => ?_)
 have rz22 : RdS H22 (some ⟨b20, 0, none⟩) fDm.blocks := RdS.of_own (H := H19) (show RdL H19 [.slice none 0 0, .slice none 0 0, .int .i64 2, .int .i64 1, .slice (some ⟨b5, 0, none⟩) 2 2, .slice none 0 0, .slice (some ⟨b11, 0, none⟩) 1 1, .int .i64 1, .int .i64 0, .slice (some ⟨b14, 0, none⟩) 1 1, .slice none 0 0, .slice none 0 0, .int .i64 1, .int .i64 0, .slice (some ⟨b17, 0, none⟩) 1 1, .slice none 0 0, .slice none 0 0, .int .i64 0, .int .i64 1, .slice none 0 0] fDm.blocks from ⟨_, _, rfl, ⟨_, _, _, _, _, _, rfl, by decide, RdS.nil _ _, by decide, RdS.nil _ _, by decide, (rz7.mono (((hH10.trans hH13).trans hH16).trans hH19)), ⟨by decide, by decide⟩, ⟨by decide, by decide⟩⟩, ⟨_, _, rfl, ⟨_, _, _, _, _, _, rfl, by decide, RdS.nil _ _, by decide, (rz13.mono (hH16.trans hH19)), by decide, (rz16.mono hH19), ⟨by decide, by decide⟩, ⟨by decide, by decide⟩⟩, ⟨_, _, rfl, ⟨_, _, _, _, _, _, rfl, by decide, RdS.nil _ _, by decide, RdS.nil _ _, by decide, rz19, ⟨by decide, by decide⟩, ⟨by decide, by decide⟩⟩, ⟨_, _, rfl, ⟨_, _, _, _, _, _, rfl, by decide, RdS.nil _ _, by decide, RdS.nil _ _, by decide, RdS.nil _ _, ⟨by decide, by decide⟩, ⟨by decide, by decide⟩⟩, rfl⟩⟩⟩⟩) (rfl) (by decide) hH22 fz22
 refine WpG.g tabOK 1 rfl ?_
 refine WpG.storeBox (ci := 0) (cs' := [.slice (some ⟨b2, 0, none⟩) 1 1, .int .i64 1, .slice (some ⟨b20, 0, none⟩) 4 4]) tabOK rfl rfl rfl rfl rfl rfl rfl rfl rfl ?_
 refine WpG.g tabOK 1 rfl ?_
 exact WpG.ret tabOK (L' := []) (.cell (ci := 0) rfl rfl rfl rfl .nil) (.cons _ .slnil) ⟨_, _, _, _, rfl, by decide, (rz4.mono (((((hH7.trans hH10).trans hH13).trans hH16).trans hH19).trans hH22)), by decide, rz22, rfl⟩
theorem awake14_calls {H : Hp} : CallG Tryz.prog 8 [] H [] (fun v _ L' => v = .bool (true) ∧ L' = []) := by
 refine CallG.of Tryz.func8 rfl rfl rfl fun w0 => ?_
 refine WpG.g tabOK 6 rfl ?_
 refine WpG.call0 rfl rfl rfl rfl rfl rfl (diamond_calls) ?_
 rintro _ H1 _ hH1 ⟨A_f_0, c_f_0, A_f_2, c_f_2, rfl, u_f_0, r_f_0, u_f_2, r_f_2, rfl⟩
 refine WpG.alloc tabOK rfl rfl rfl rfl rfl (fun b2 => ?_)
 refine WpG.storeBox (ci := 0) (cs' := [.slice A_f_0 fDm.params.length c_f_0, .int .i64 fDm.ret, .slice A_f_2 fDm.blocks.length c_f_2]) tabOK rfl rfl rfl rfl rfl rfl rfl rfl rfl ?_
 refine WpG.freezeBox (ci := 0) rfl (fun H3 hH3 hc3 => ?_)
 refine WpG.g tabOK 3 rfl ?_
 refine WpG.y rfl rfl rfl rfl (RunY.loadH tabOK hc3 hlr rfl rfl rfl rfl) ?_
 refine WpG.call0 rfl rfl rfl rfl rfl rfl ((by have z := HFind_calls (f := fDm) (Rdc.mono hH3 ⟨_, _, _, _, rfl, u_f_0, r_f_0, u_f_2, r_f_2, (show I64 1 from ⟨by decide, by decide⟩)⟩) 0 ⟨by decide, by decide⟩; rw [dm_find0] at z; exact z)) ?_
 rintro _ H4 _ hH4 ⟨rfl, hT, rfl⟩
 refine WpG.g tabOK 3 rfl ?_
 refine WpG.alloc tabOK rfl rfl rfl rfl rfl (fun b5 => ?_)
 refine WpG.storeBox (ci := 0) (cs' := [.int .i64 0, .int .i64 1, .int .i64 2, .int .i64 3]) tabOK rfl rfl rfl rfl rfl rfl rfl rfl rfl ?_
 refine WpG.g tabOK 4 rfl ?_
 refine WpG.y rfl rfl rfl rfl (RunY.loadH tabOK hc3 hH4 rfl rfl rfl rfl) ?_
 refine WpG.call0 rfl rfl rfl rfl rfl rfl ((by have z := HFind_calls (f := fDm) (Rdc.mono (hH3.trans hH4) ⟨_, _, _, _, rfl, u_f_0, r_f_0, u_f_2, r_f_2, (show I64 1 from ⟨by decide, by decide⟩)⟩) 1 ⟨by decide, by decide⟩; rw [dm_find1] at z; exact z)) ?_
 rintro _ H6 _ hH6 ⟨rfl, hT, rfl⟩
 refine WpG.g tabOK 3 rfl ?_
 refine WpG.alloc tabOK rfl rfl rfl rfl rfl (fun b7 => ?_)
 refine WpG.storeBox (ci := 0) (cs' := [.int .i64 0, .int .i64 0, .int .i64 0, .int .i64 0]) tabOK rfl rfl rfl rfl rfl rfl rfl rfl rfl ?_
 refine WpG.g tabOK 6 rfl ?_
 refine WpG.y rfl rfl rfl rfl (RunY.loadBox (ci := 1) tabOK rfl rfl rfl rfl) ?_
 refine WpG.g tabOK 1 rfl ?_
 refine WpG.y rfl rfl rfl rfl (RunY.eqQuad (e := 3) tabOK rfl rfl rfl rfl rfl Tryz.underlying26 (by kernel_rfl) (by kernel_rfl) (by kernel_rfl)) ?_
 refine WpG.g tabOK 2 rfl ?_
 refine WpG.caseB (t := 23) rfl (fun q23 => ?_) (fun q23 => ?_)
 ·refine WpG.g tabOK 4 rfl ?_
  refine WpG.y rfl rfl rfl rfl (RunY.loadH tabOK hc3 (hH4.trans hH6) rfl rfl rfl rfl) ?_
  refine WpG.y rfl rfl rfl rfl (RunY.loadBox (ci := 1) tabOK rfl rfl rfl rfl) ?_
  refine WpG.call0 rfl rfl rfl rfl rfl rfl ((by have z := HCost_calls (f := fDm) (Rdc.mono ((hH3.trans hH4).trans hH6) ⟨_, _, _, _, rfl, u_f_0, r_f_0, u_f_2, r_f_2, (show I64 1 from ⟨by decide, by decide⟩)⟩) ⟨0, 1, 2, 3⟩ (show IH ⟨0, 1, 2, 3⟩ from ⟨⟨by decide, by decide⟩, ⟨by decide, by decide⟩, ⟨by decide, by decide⟩, by decide, by decide⟩); rw [dm_cost] at z; exact z)) ?_
  rintro _ H8 _ hH8 ⟨rfl, hT, rfl⟩
  refine WpG.g tabOK 3 rfl ?_
  refine WpG.y rfl rfl rfl rfl (RunY.loadH tabOK hc3 ((hH4.trans hH6).trans hH8) rfl rfl rfl rfl) ?_
  refine WpG.y rfl rfl rfl rfl (RunY.loadBox (ci := 1) tabOK rfl rfl rfl rfl) ?_
  refine WpG.call0 rfl rfl rfl rfl rfl rfl ((by have z := HMerges_calls (f := fDm) (Rdc.mono (((hH3.trans hH4).trans hH6).trans hH8) ⟨_, _, _, _, rfl, u_f_0, r_f_0, u_f_2, r_f_2, (show I64 1 from ⟨by decide, by decide⟩)⟩) ⟨0, 1, 2, 3⟩ (show IH ⟨0, 1, 2, 3⟩ from ⟨⟨by decide, by decide⟩, ⟨by decide, by decide⟩, ⟨by decide, by decide⟩, by decide, by decide⟩); rw [dm_merges] at z; exact z)) ?_
  rintro _ H9 _ hH9 ⟨rfl, hT, rfl⟩
  refine WpG.g tabOK 2 rfl ?_
  refine WpG.y rfl rfl rfl rfl (RunY.loadH tabOK hc3 (((hH4.trans hH6).trans hH8).trans hH9) rfl rfl rfl rfl) ?_
  refine WpG.call0 rfl rfl rfl rfl rfl rfl ((by have z := HAll_calls (f := fDm) (Rdc.mono ((((hH3.trans hH4).trans hH6).trans hH8).trans hH9) ⟨_, _, _, _, rfl, u_f_0, r_f_0, u_f_2, r_f_2, (show I64 1 from ⟨by decide, by decide⟩)⟩); rw [dm_all] at z; exact z)) ?_
  rintro _ H10 _ hH10 ⟨hT, A10, c10, rfl, u10, r10, rfl⟩
  refine WpG.g tabOK 4 rfl ?_
  refine WpG.y rfl rfl rfl rfl (RunY.loadH tabOK hc3 ((((hH4.trans hH6).trans hH8).trans hH9).trans hH10) rfl rfl rfl rfl) ?_
  refine WpG.y rfl rfl rfl rfl (RunY.loadBox (ci := 1) tabOK rfl rfl rfl rfl) ?_
  refine WpG.call0 rfl rfl rfl rfl rfl rfl ((by have z := HIs_calls (f := fDm) (Rdc.mono (((((hH3.trans hH4).trans hH6).trans hH8).trans hH9).trans hH10) ⟨_, _, _, _, rfl, u_f_0, r_f_0, u_f_2, r_f_2, (show I64 1 from ⟨by decide, by decide⟩)⟩) ⟨0, 1, 2, 3⟩ (show I64 0 from ⟨by decide, by decide⟩); rw [dm_is] at z; exact z)) ?_
  rintro _ H11 _ hH11 ⟨rfl, hT, rfl⟩
  refine WpG.g tabOK 2 rfl ?_
  refine WpG.y rfl rfl rfl rfl (RunY.loadH tabOK hc3 (((((hH4.trans hH6).trans hH8).trans hH9).trans hH10).trans hH11) rfl rfl rfl rfl) ?_
  refine WpG.g tabOK 1 rfl ?_
  refine WpG.call0 rfl rfl rfl rfl rfl rfl ((by have z := HIs_calls (f := fDm) (Rdc.mono ((((((hH3.trans hH4).trans hH6).trans hH8).trans hH9).trans hH10).trans hH11) ⟨_, _, _, _, rfl, u_f_0, r_f_0, u_f_2, r_f_2, (show I64 1 from ⟨by decide, by decide⟩)⟩) ⟨0, 0, 0, 0⟩ (show I64 0 from ⟨by decide, by decide⟩); rw [dm_is0] at z; exact z)) ?_
  rintro _ H12 _ hH12 ⟨rfl, hT, rfl⟩
  refine WpG.g tabOK 4 rfl ?_
  exact WpG.ret tabOK (L' := []) (.tmp rfl .nil) (.cons _ (.cons _ .slnil)) ⟨rfl, rfl⟩
 exact absurd q23 (by decide)
end Go.Proofs.YtakameggkkjcpaaGreat
namespace Go.Proofs.YtakameggkkjcpaaGreat
open Go Go.RowKit
def opsK : Nat → List OpD
  | 0 => []
  | i + 1 => opsK i ++ [⟨0, 8, 1, 2 + i, [], i⟩]
theorem opsK_len : ∀ n : Nat, (opsK n).length = n
  | 0 => rfl
  | n + 1 => by rw [opsK, List.length_append, opsK_len n]; rfl
theorem opsK_dear : ∀ n : Nat, (opsK n).any dearO = false
  | 0 => rfl
  | n + 1 => by rw [opsK, List.any_append, opsK_dear n]; rfl
def fT (to : List Int) (ops : List OpD) (phis : List PhiD) (e : EndD) (tail : List BlockD) : FuncD := ⟨[1], 1, ⟨[], [], ⟨2, 1, to⟩⟩ :: ⟨phis, ops, ⟨1, 0, [2]⟩⟩ :: ⟨[], [], e⟩ :: tail⟩
abbrev f1T (to : List Int) (ops : List OpD) : FuncD := fT to ops [] ⟨0, 1, []⟩ []
def sTh : List (List Int) := [[1, 2], [2], []]
theorem th_reach {no x : Int} (h : RchN sTh 0 no x) : x = 0 ∨ x = 1 ∨ x = 2 := by
  induction h with
  | root _ => exact .inl rfl
  | @step p x _ hx _ ih =>
    rcases ih with rfl | rfl | rfl
    · have : x ∈ ([1, 2] : List Int) := hx
      simp at this; omega
    · have : x ∈ ([2] : List Int) := hx
      simp at this; omega
    · have : x ∈ ([] : List Int) := hx
      cases this
theorem th0 {no : Int} (h : no ≠ 0) : RchN sTh 0 no 0 := .root (Ne.symm h)
theorem th1 {no : Int} (h : no ≠ 0) (h1 : no ≠ 1) : RchN sTh 0 no 1 := .step (th0 h) (by show (1 : Int) ∈ ([1, 2] : List Int); simp) (Ne.symm h1)
theorem th2 {no : Int} (h : no ≠ 0) (h1 : no ≠ 2) : RchN sTh 0 no 2 := .step (th0 h) (by show (2 : Int) ∈ ([1, 2] : List Int); simp) (Ne.symm h1)
theorem th_no {x : Int} : ¬ RchN sTh 0 0 x := fun h => by
  induction h with
  | root h => exact h rfl
  | step _ _ _ ih => exact ih
theorem tree_th : TreeP sTh 0 [-1, 0, 0] := by
  refine ⟨rfl, rfl, fun x x0 x1 hn => ?_, fun x hx => ?_, fun x hx hne => ?_⟩
  · exfalso
    have hc : x = 0 ∨ x = 1 ∨ x = 2 := by
      have : ((sTh.length : Nat) : Int) = 3 := rfl
      omega
    rcases hc with rfl | rfl | rfl
    · exact hn (th0 (by decide))
    · exact hn (th1 (by decide) (by decide))
    · exact hn (th2 (by decide) (by decide))
  · have := th_reach hx
    have e : ((sTh.length : Nat) : Int) = 3 := rfl
    omega
  · have hc := th_reach hx
    have key : nth [-1, 0, 0] x = 0 := by
      rcases hc with rfl | rfl | rfl
      · exact absurd rfl hne
      · rfl
      · rfl
    rw [key]
    refine ⟨th0 (by decide), th0 hne, fun y hy => ?_⟩
    by_cases y0 : y = 0
    · subst y0; exact ⟨fun h => absurd h th_no, fun h => absurd h th_no⟩
    · refine ⟨fun _ => th0 y0, fun _ => ?_⟩
      rcases hc with rfl | rfl | rfl
      · exact absurd rfl hne
      · exact th1 y0 hy
      · exact th2 y0 hy
theorem sort_21 : sortD [2, 1] = [1, 2] := by
  unfold sortD
  have h : [2, 1].mergeSort (fun (x y : Int) => decide (x ≤ y)) = [1, 2].mergeSort fun x y => decide (x ≤ y) := by
    rw [List.mergeSort, List.mergeSort]; simp [List.MergeSort.Internal.splitInTwo, List.merge]
  rw [h]; exact sort_12
theorem sort_13 : sortD [1, 3] = [1, 3] := by
  unfold sortD
  first | exact List.mergeSort_of_pairwise (by simp) | exact List.mergeSort_of_sorted (by simp) | rfl | decide
def TO (to : List Int) : Prop := to = [1, 2] ∨ to = [2, 1]
theorem of_th {to : List Int} (h : TO to) (ops : List OpD) (phis : List PhiD) : ofD (fT to ops phis ⟨0, 1, []⟩ []) = (⟨sTh, [[], [0], [0, 1]]⟩, 0) := by
  have h2 : (fT to ops phis ⟨0, 1, []⟩ []).blocks.all (ofOK (fT to ops phis ⟨0, 1, []⟩ []).blocks.length) = true := by rcases h with rfl | rfl <;> rfl
  rw [of_yes (by show ¬ ((3 : Nat) : Int) > 64; decide) h2]
  have e : (fT to ops phis ⟨0, 1, []⟩ []).blocks.map succOf = sTh := by
    unfold fT sTh
    rcases h with rfl | rfl <;> simp only [List.map_cons, List.map_nil, succOf, sort_12, sort_21, sort_one, sortD_nil] <;> rfl
  rw [e]; rfl
theorem of_th4 {to : List Int} (h : TO to) (ops : List OpD) : ofD (fT to ops [] ⟨2, 1, [1, 3]⟩ [⟨[], [], ⟨3, 0, []⟩⟩]) = (⟨[[1, 2], [2], [1, 3], []], [[], [0, 2], [0, 1], [2]]⟩, 0) := by
  have h2 : (fT to ops [] ⟨2, 1, [1, 3]⟩ [⟨[], [], ⟨3, 0, []⟩⟩]).blocks.all (ofOK (fT to ops [] ⟨2, 1, [1, 3]⟩ [⟨[], [], ⟨3, 0, []⟩⟩]).blocks.length) = true := by rcases h with rfl | rfl <;> rfl
  rw [of_yes (by show ¬ ((4 : Nat) : Int) > 64; decide) h2]
  have e : (fT to ops [] ⟨2, 1, [1, 3]⟩ [⟨[], [], ⟨3, 0, []⟩⟩]).blocks.map succOf = [[1, 2], [2], [1, 3], []] := by
    unfold fT
    rcases h with rfl | rfl <;> simp only [List.map_cons, List.map_nil, succOf, sort_12, sort_21, sort_13, sort_one, sortD_nil] <;> rfl
  rw [e]; rfl
theorem code_th {to : List Int} (h : TO to) {n : Nat} (hn : n < 9) : codeOf (f1T to (opsK n)) 2 [-1, 0, 0] = 0 := by
  unfold codeOf shapeW
  rw [of_th h]
  have hc : n = 0 ∨ n = 1 ∨ n = 2 ∨ n = 3 ∨ n = 4 ∨ n = 5 ∨ n = 6 ∨ n = 7 ∨ n = 8 := by omega
  rcases h with rfl | rfl <;> rcases hc with rfl | rfl | rfl | rfl | rfl | rfl | rfl | rfl | rfl <;> decide +kernel
theorem ok_th {to : List Int} (h : TO to) {n : Nat} (hn : n < 9) : okF (f1T to (opsK n)) = true := by
  have : CodeIs (f1T to (opsK n)) 2 0 := ⟨[-1, 0, 0], fun _ _ => by rw [of_th h]; exact tree_th, (code_th h hn).symm⟩
  rw [← okF_of this]; rfl
def wantT (to : List Int) : HamD := if to = [1, 2] then ⟨0, 1, -1, 2⟩ else ⟨0, -1, 1, 2⟩
theorem want12 : wantT [1, 2] = ⟨0, 1, -1, 2⟩ := rfl
theorem want21 : wantT [2, 1] = ⟨0, -1, 1, 2⟩ := rfl
theorem find_th {to : List Int} (h : TO to) {n : Nat} (hn : n < 9) : findH (f1T to (opsK n)) 0 = (wantT to, true) := by
  unfold findH
  rw [ok_th h hn, of_th h]
  rcases h with rfl | rfl <;> rfl
theorem is_th {to : List Int} (h : TO to) {n : Nat} (hn : n < 9) : isH (f1T to (opsK n)) (wantT to) = true := by
  unfold isH
  rw [ok_th h hn, of_th h]
  rcases h with rfl | rfl <;> rfl
theorem ops_th {to : List Int} (h : TO to) (ops : List OpD) : opsD (f1T to ops) (wantT to) = ops := by
  rcases h with rfl | rfl
  · show ops ++ [] = ops; simp
  · rfl
theorem cost_th {to : List Int} (h : TO to) {n : Nat} (hn : n < 9) : costH (f1T to (opsK n)) (wantT to) = n := by
  rw [cost_len (is_th h hn), ops_th h, opsK_len]
theorem merges_th {to : List Int} (h : TO to) {n : Nat} (hn : n < 9) : mergesH (f1T to (opsK n)) (wantT to) = true := by
  unfold mergesH
  rw [is_th h hn, ops_th h, opsK_dear]; rfl
theorem find_th2 {to : List Int} (h : TO to) (ops : List OpD) : findH (fT to ops [⟨1, 100, [0], [1]⟩] ⟨0, 1, []⟩ []) 0 = (noneH, false) := by
  unfold findH
  split
  · rw [of_th h]; rcases h with rfl | rfl <;> rfl
  · rfl
theorem find_th3 {to : List Int} (h : TO to) (ops : List OpD) : findH (fT to ops [] ⟨2, 1, [1, 3]⟩ [⟨[], [], ⟨3, 0, []⟩⟩]) 0 = (noneH, false) := by
  unfold findH
  split
  · rw [of_th4 h]; rcases h with rfl | rfl <;> rfl
  · rfl
theorem tmod9 {u : Int} (h : 0 ≤ u ∧ u ≤ 255) : ∃ n : Nat, u.tmod 9 = n ∧ n < 9 := by
  have e := Int.tmod_eq_emod_of_nonneg (b := 9) h.1
  exact ⟨(u % 9).toNat, by rw [e]; omega, by omega⟩
theorem opsK_step {H : Hp} {cs : List Value} {i : Int} (h : RdL H cs (opsK i.toNat)) (i0 : 0 ≤ i) (i8 : i < 9) : RdL H (cs ++ [.int .i64 0, .int .i64 8, .int .i64 1, .int .i64 (2 + i), .slice none 0 0, .int .u64 i]) (opsK (i + 1).toNat) := by
  rw [toNat_succ i0]
  obtain ⟨n, rfl⟩ : ∃ n : Nat, i = n := ⟨i.toNat, by omega⟩
  refine RdL.snoc h ⟨none, 0, rfl, Nat.le_refl 0, RdS.nil _ _, ⟨?_, ?_⟩, ⟨?_, ?_⟩, ⟨?_, ?_⟩, ⟨?_, ?_⟩, ?_, ?_⟩ <;> simp only <;> omega
theorem RunY.remIs {P : Program} {fn : Func} {w0 : World} {H0 : Hp} {X : List Nat} {F : Fk} {H : Hp} {L : List Chunk} {dst : Option Nat} {ty : TypeId} {pos : String} {af : Array Edge} {g : Option (Nat × Bool)} {x y : Operand} {tx ty' : TypeId} {kk : IntKind} {u n m : Int} (hx : evk F x = some (.int kk u)) (hy : evk F y = some (.int kk n)) (h0 : n ≠ 0) (e : u.tmod n = m) :
    RunY P fn w0 H0 X F H L ⟨dst, .binOp .rem tx x y ty', ty, pos, af, g⟩ (.int kk m) := e ▸ RunY.rem hx hy h0
theorem to12 : TO [1, 2] := .inl rfl
theorem to21 : TO [2, 1] := .inr rfl
end Go.Proofs.YtakameggkkjcpaaGreat
set_option maxRecDepth 4000
namespace Go.Proofs.YtakameggkkjcpaaGreat
open Go Go.RowKit
set_option maxHeartbeats 2000000 in
theorem HammockThree_calls {H : Hp} (sw : Bool) (u : Int) (hu : 0 ≤ u ∧ u ≤ 255) : CallG Tryz.prog 6 [.bool sw, .int .u8 u] H [] (fun v _ L' => v = .bool (true) ∧ L' = []) := by
 have hu0 := hu.1; have hu1 := hu.2; obtain ⟨n, hn, hn9⟩ := tmod9 hu
 refine CallG.of Tryz.func6 rfl rfl rfl fun w0 => ?_
 refine WpG.g tabOK 7 rfl ?_
 refine WpG.callS rfl rfl rfl rfl rfl rfl hlr (awake14_calls) ?_
 refine WpG.gw tabOK 8 20 rfl (wrk (x := u) (by omega) (by omega)) ?_
 refine WpG.y rfl rfl rfl rfl (RunY.remIs rfl rfl (by decide) hn) ?_
 refine WpG.g tabOK 13 rfl ?_
 refine WpG.ownNil 53 6 ?_
 refine WpG.wk (WpG.ind5 (fun (i : Int) (A5 : Option Addr) (n5 : Nat) (c5 : Nat) (cs : List Value) => ⟨(n - i).toNat, [(0, .bool sw), (5, .int .i64 (n : Int)), (6, .slice A5 n5 c5), (7, .int .i64 i)], H, [Chunk.own 53 6 A5 c5 n5 cs], 0 ≤ i ∧ i ≤ n ∧ n5 = i ∧ RdL H cs (opsK i.toNat)⟩) ?_ 0 none 0 0 [] ⟨by omega, by omega, rfl, rfl⟩) rfl
 intro i A5 n5 c5 cs inv ih1
 obtain ⟨i0, i1, i2, i3⟩ := inv
 refine WpG.g tabOK 7 rfl ?_
 refine WpG.caseD (t := 24) rfl (fun q24 => ?_) (fun q24 => ?_)
 ·refine WpG.gw tabOK 8 29 rfl (wrk (x := 2 + i) (by omega) (by omega)) ?_
  refine WpG.gw tabOK 2 31 rfl (wrku (x := i) (by omega) (by omega)) ?_
  refine WpG.g tabOK 1 rfl ?_
  refine WpG.buildSlice (xs := [.int .i64 0, .int .i64 8, .int .i64 1, .int .i64 (2 + i), .slice none 0 0, .int .u64 i]) tabOK rfl rfl rfl rfl rfl rfl rfl rfl rfl rfl (fun b1 => ?_)
  refine WpG.append (ci := 1) tabOK rfl rfl rfl rfl rfl rfl rfl rfl rfl rfl rfl rfl (Src.own (ci := 0) rfl) (by omega) (fun A3 c4 => ?_)
  refine WpG.dropL (L' := [Chunk.own 53 6 A3 c4 (n5 + 1) (cs ++ [.int .i64 0, .int .i64 8, .int .i64 1, .int .i64 (2 + i), .slice none 0 0, .int .u64 i])]) (.cons _ (.cons_cons _ .slnil)) ?_
  refine WpG.gw tabOK 6 26 rfl (wrk (x := i + 1) (by omega) (by omega)) ?_
  refine WpG.g tabOK 3 rfl ?_
  refine WpG.wk (ih1 (i + 1) A3 (n5 + 1) c4 (cs ++ [.int .i64 0, .int .i64 8, .int .i64 1, .int .i64 (2 + i), .slice none 0 0, .int .u64 i]) ?_ ?_) rfl
  ·dsimp only
   omega
  clear ih1
  exact ⟨by omega, by omega, by omega, opsK_step i3 i0 (by omega)⟩
 obtain rfl : n5 = (opsK n).length := by rw [opsK_len]; omega
 refine WpG.ownCap (ci := 0) rfl (fun uz5 => ?_)
 refine WpG.freezeOwn (ci := 0) rfl (fun H5 hH5 fz5 => ?_)
 have rz5 : RdS H5 A5 (opsK n) := RdS.of_own (H := H) (show RdL H cs (opsK n) from (by have h := i3; rw [show i.toNat = n from by omega] at h; exact h)) (rfl) (by rw [opsK_len]; omega) hH5 fz5
 refine WpG.g tabOK 4 rfl ?_
 refine WpG.buildSlice (xs := [.int .i64 1, .int .i64 2]) tabOK rfl rfl rfl rfl rfl rfl rfl rfl rfl rfl (fun b6 => ?_)
 refine WpG.ownCap (ci := 0) rfl (fun uz8 => ?_)
 refine WpG.freezeOwn (ci := 0) rfl (fun H8 hH8 fz8 => ?_)
 have rz8 : RdS H8 (some ⟨b6, 0, none⟩) ([1, 2] : List Int) := RdS.of_own (H := H5) (show RdL H5 [.int .i64 1, .int .i64 2] ([1, 2] : List Int) from ⟨_, _, rfl, ⟨rfl, ⟨by decide, by decide⟩⟩, ⟨_, _, rfl, ⟨rfl, ⟨by decide, by decide⟩⟩, rfl⟩⟩) (rfl) (by decide) hH8 fz8
 refine WpG.g tabOK 5 rfl ?_
 refine WpG.alloc tabOK rfl rfl rfl rfl rfl (fun b9 => ?_)
 refine WpG.storeBox (ci := 0) (cs' := [.int .i64 0, .int .i64 1, .int .i64 (-1), .int .i64 2]) tabOK rfl rfl rfl rfl rfl rfl rfl rfl rfl ?_
 refine WpG.g tabOK 6 rfl ?_
 refine WpG.caseB (t := 37) rfl (fun q37 => ?_) (fun q37 => ?_)
 ·refine WpG.g tabOK 3 rfl ?_
  refine WpG.buildSlice (xs := [.int .i64 2, .int .i64 1]) tabOK rfl rfl rfl rfl rfl rfl rfl rfl rfl rfl (fun b10 => ?_)
  refine WpG.ownCap (ci := 0) rfl (fun uz12 => ?_)
  refine WpG.freezeOwn (ci := 0) rfl (fun H12 hH12 fz12 => ?_)
  have rz12 : RdS H12 (some ⟨b10, 0, none⟩) ([2, 1] : List Int) := RdS.of_own (H := H8) (show RdL H8 [.int .i64 2, .int .i64 1] ([2, 1] : List Int) from ⟨_, _, rfl, ⟨rfl, ⟨by decide, by decide⟩⟩, ⟨_, _, rfl, ⟨rfl, ⟨by decide, by decide⟩⟩, rfl⟩⟩) (rfl) (by decide) hH12 fz12
  refine WpG.g tabOK 4 rfl ?_
  refine WpG.storeBox (ci := 0) (cs' := [.int .i64 0, .int .i64 (-1), .int .i64 1, .int .i64 2]) tabOK rfl rfl rfl rfl rfl rfl rfl rfl rfl ?_
  refine WpG.g tabOK 3 rfl ?_
  refine WpG.buildSlice (xs := [.int .i64 1]) tabOK rfl rfl rfl rfl rfl rfl rfl rfl rfl rfl (fun b13 => ?_)
  refine WpG.ownCap (ci := 0) rfl (fun uz15 => ?_)
  refine WpG.freezeOwn (ci := 0) rfl (fun H15 hH15 fz15 => ?_)
  have rz15 : RdS H15 (some ⟨b13, 0, none⟩) ([1] : List Int) := RdS.of_own (H := H12) (show RdL H12 [.int .i64 1] ([1] : List Int) from ⟨_, _, rfl, ⟨rfl, ⟨by decide, by decide⟩⟩, rfl⟩) (rfl) (by decide) hH15 fz15
  refine WpG.g tabOK 4 rfl ?_
  refine WpG.buildSlice (xs := [.int .i64 2]) tabOK rfl rfl rfl rfl rfl rfl rfl rfl rfl rfl (fun b16 => ?_)
  refine WpG.ownCap (ci := 0) rfl (fun uz18 => ?_)
  refine WpG.freezeOwn (ci := 0) rfl (fun H18 hH18 fz18 => ?_)
  have rz18 : RdS H18 (some ⟨b16, 0, none⟩) ([2] : List Int) := RdS.of_own (H := H15) (show RdL H15 [.int .i64 2] ([2] : List Int) from ⟨_, _, rfl, ⟨rfl, ⟨by decide, by decide⟩⟩, rfl⟩) (rfl) (by decide) hH18 fz18
  refine WpG.g tabOK 4 rfl ?_
  refine WpG.buildSlice (xs := [.slice none 0 0, .slice none 0 0, .int .i64 2, .int .i64 1, .slice (some ⟨b10, 0, none⟩) 2 2, .slice none 0 0, .slice A5 ((opsK n).length) c5, .int .i64 1, .int .i64 0, .slice (some ⟨b16, 0, none⟩) 1 1, .slice none 0 0, .slice none 0 0, .int .i64 0, .int .i64 1, .slice none 0 0]) tabOK rfl rfl rfl rfl rfl rfl rfl rfl rfl rfl (fun b19 => ?_)
  refine WpG.g tabOK 1 rfl ?_
  refine WpG.alloc tabOK rfl rfl rfl rfl rfl (fun b21 => ?_)
  refine WpG.storeBox (ci := 0) (cs' := [.slice (some ⟨b13, 0, none⟩) 1 1, .int .i64 1, .slice (some ⟨b19, 0, none⟩) 3 3]) tabOK rfl rfl rfl rfl rfl rfl rfl rfl rfl ?_
  refine WpG.g tabOK 3 rfl ?_
  refine WpG.y rfl rfl rfl rfl (RunY.loadBox (ci := 0) tabOK rfl rfl rfl rfl) ?_
  refine WpG.callM (post := fun u L' => u = .tuple #[hamV ⟨0, (-1), 1, 2⟩, .bool true] ∧ HasT (fT [2, 1] (opsK n) [] ⟨0, 1, []⟩ []) ∧ L' = []) rfl rfl rfl rfl rfl rfl ⟨_, Tryz.func10, rfl, rfl⟩ (fun H1 hz => ?_) ?_
  ·have rb : RdS H1 (some ⟨b19, 0, none⟩) (fT [2, 1] (opsK n) [] ⟨0, 1, []⟩ []).blocks := RdS.of_own (H := H1) (show RdL H1 [.slice none 0 0, .slice none 0 0, .int .i64 2, .int .i64 1, .slice (some ⟨b10, 0, none⟩) 2 2, .slice none 0 0, .slice A5 ((opsK n).length) c5, .int .i64 1, .int .i64 0, .slice (some ⟨b16, 0, none⟩) 1 1, .slice none 0 0, .slice none 0 0, .int .i64 0, .int .i64 1, .slice none 0 0] (fT [2, 1] (opsK n) [] ⟨0, 1, []⟩ []).blocks from ⟨_, _, rfl, ⟨_, _, _, _, _, _, rfl, Nat.le_refl 0, RdS.nil _ _, Nat.le_refl 0, RdS.nil _ _, by simp [fT], (rz12.mono ((hH15.trans hH18).trans hz.1)), ⟨by simp, by simp⟩, ⟨by simp, by simp⟩⟩, ⟨_, _, rfl, ⟨_, _, _, _, _, _, rfl, Nat.le_refl 0, RdS.nil _ _, uz5, (rz5.mono ((((hH8.trans hH12).trans hH15).trans hH18).trans hz.1)), by simp [fT], (rz18.mono (hlr.trans hz.1)), ⟨by simp, by simp⟩, ⟨by simp, by simp⟩⟩, ⟨_, _, rfl, ⟨_, _, _, _, _, _, rfl, Nat.le_refl 0, RdS.nil _ _, Nat.le_refl 0, RdS.nil _ _, Nat.le_refl 0, RdS.nil _ _, ⟨by simp, by simp⟩, ⟨by simp, by simp⟩⟩, rfl⟩⟩⟩) rfl (by simp [fT]) hlr (hz.own (ci := 1) rfl)
   exact CallG.mono (HFind_calls (f := fT [2, 1] (opsK n) [] ⟨0, 1, []⟩ []) ⟨_, _, _, _, rfl, by simp [fT], (rz15.mono (hH18.trans hz.1)), (by first | exact hcap | simp [fT]), rb, (show I64 1 from ⟨by decide, by decide⟩)⟩ 0 ⟨by decide, by decide⟩) (fun u w L _ h => by rw [find_th to21 hn9, want21] at h; exact h)
  rintro _ L1 ⟨rfl, -, rfl⟩
  refine WpG.g tabOK 3 rfl ?_
  refine WpG.alloc tabOK rfl rfl rfl rfl rfl (fun b22 => ?_)
  refine WpG.storeBox (ci := 0) (cs' := [.int .i64 0, .int .i64 (-1), .int .i64 1, .int .i64 2]) tabOK rfl rfl rfl rfl rfl rfl rfl rfl rfl ?_
  refine WpG.g tabOK 8 rfl ?_
  refine WpG.y rfl rfl rfl rfl (RunY.loadBox (ci := 0) tabOK rfl rfl rfl rfl) ?_
  refine WpG.y rfl rfl rfl rfl (RunY.loadBox (ci := 3) tabOK rfl rfl rfl rfl) ?_
  refine WpG.y rfl rfl rfl rfl (RunY.neQuad (e := 3) tabOK rfl rfl rfl rfl rfl Tryz.underlying26 (by kernel_rfl) (by kernel_rfl) (by kernel_rfl)) ?_
  refine WpG.g tabOK 2 rfl ?_
  refine WpG.caseBn (t := 64) rfl (fun q64 => ?_) (fun q64 => ?_)
  ·exact absurd q64 (by decide)
  refine WpG.y rfl rfl rfl rfl (RunY.loadBox (ci := 1) tabOK rfl rfl rfl rfl) ?_
  refine WpG.y rfl rfl rfl rfl (RunY.loadBox (ci := 0) tabOK rfl rfl rfl rfl) ?_
  refine WpG.callM (post := fun u L' => u = .int .i64 (n : Int) ∧ HasT (fT [2, 1] (opsK n) [] ⟨0, 1, []⟩ []) ∧ L' = []) rfl rfl rfl rfl rfl rfl ⟨_, Tryz.func17, rfl, rfl⟩ (fun H1 hz => ?_) ?_
  ·have rb : RdS H1 (some ⟨b19, 0, none⟩) (fT [2, 1] (opsK n) [] ⟨0, 1, []⟩ []).blocks := RdS.of_own (H := H1) (show RdL H1 [.slice none 0 0, .slice none 0 0, .int .i64 2, .int .i64 1, .slice (some ⟨b10, 0, none⟩) 2 2, .slice none 0 0, .slice A5 ((opsK n).length) c5, .int .i64 1, .int .i64 0, .slice (some ⟨b16, 0, none⟩) 1 1, .slice none 0 0, .slice none 0 0, .int .i64 0, .int .i64 1, .slice none 0 0] (fT [2, 1] (opsK n) [] ⟨0, 1, []⟩ []).blocks from ⟨_, _, rfl, ⟨_, _, _, _, _, _, rfl, Nat.le_refl 0, RdS.nil _ _, Nat.le_refl 0, RdS.nil _ _, by simp [fT], (rz12.mono ((hH15.trans hH18).trans hz.1)), ⟨by simp, by simp⟩, ⟨by simp, by simp⟩⟩, ⟨_, _, rfl, ⟨_, _, _, _, _, _, rfl, Nat.le_refl 0, RdS.nil _ _, uz5, (rz5.mono ((((hH8.trans hH12).trans hH15).trans hH18).trans hz.1)), by simp [fT], (rz18.mono (hlr.trans hz.1)), ⟨by simp, by simp⟩, ⟨by simp, by simp⟩⟩, ⟨_, _, rfl, ⟨_, _, _, _, _, _, rfl, Nat.le_refl 0, RdS.nil _ _, Nat.le_refl 0, RdS.nil _ _, Nat.le_refl 0, RdS.nil _ _, ⟨by simp, by simp⟩, ⟨by simp, by simp⟩⟩, rfl⟩⟩⟩) rfl (by simp [fT]) hlr (hz.own (ci := 2) rfl)
   exact CallG.mono (HCost_calls (f := fT [2, 1] (opsK n) [] ⟨0, 1, []⟩ []) ⟨_, _, _, _, rfl, by simp [fT], (rz15.mono (hH18.trans hz.1)), (by first | exact hcap | simp [fT]), rb, (show I64 1 from ⟨by decide, by decide⟩)⟩ (wantT [2, 1]) (show IH (wantT [2, 1]) from ⟨⟨by decide, by decide⟩, ⟨by decide, by decide⟩, ⟨by decide, by decide⟩, by decide, by decide⟩)) (fun u w L _ h => by rw [cost_th to21 hn9] at h; exact h)
  rintro _ L1 ⟨rfl, -, rfl⟩
  refine WpG.g tabOK 4 rfl ?_
  refine WpG.caseN (t := 71) rfl (fun q71 => ?_) (fun q71 => ?_)
  ·exact absurd rfl q71
  refine WpG.y rfl rfl rfl rfl (RunY.loadBox (ci := 1) tabOK rfl rfl rfl rfl) ?_
  refine WpG.y rfl rfl rfl rfl (RunY.loadBox (ci := 0) tabOK rfl rfl rfl rfl) ?_
  refine WpG.callM (post := fun u L' => u = .bool true ∧ HasT (fT [2, 1] (opsK n) [] ⟨0, 1, []⟩ []) ∧ L' = []) rfl rfl rfl rfl rfl rfl ⟨_, Tryz.func14, rfl, rfl⟩ (fun H1 hz => ?_) ?_
  ·have rb : RdS H1 (some ⟨b19, 0, none⟩) (fT [2, 1] (opsK n) [] ⟨0, 1, []⟩ []).blocks := RdS.of_own (H := H1) (show RdL H1 [.slice none 0 0, .slice none 0 0, .int .i64 2, .int .i64 1, .slice (some ⟨b10, 0, none⟩) 2 2, .slice none 0 0, .slice A5 ((opsK n).length) c5, .int .i64 1, .int .i64 0, .slice (some ⟨b16, 0, none⟩) 1 1, .slice none 0 0, .slice none 0 0, .int .i64 0, .int .i64 1, .slice none 0 0] (fT [2, 1] (opsK n) [] ⟨0, 1, []⟩ []).blocks from ⟨_, _, rfl, ⟨_, _, _, _, _, _, rfl, Nat.le_refl 0, RdS.nil _ _, Nat.le_refl 0, RdS.nil _ _, by simp [fT], (rz12.mono ((hH15.trans hH18).trans hz.1)), ⟨by simp, by simp⟩, ⟨by simp, by simp⟩⟩, ⟨_, _, rfl, ⟨_, _, _, _, _, _, rfl, Nat.le_refl 0, RdS.nil _ _, uz5, (rz5.mono ((((hH8.trans hH12).trans hH15).trans hH18).trans hz.1)), by simp [fT], (rz18.mono (hlr.trans hz.1)), ⟨by simp, by simp⟩, ⟨by simp, by simp⟩⟩, ⟨_, _, rfl, ⟨_, _, _, _, _, _, rfl, Nat.le_refl 0, RdS.nil _ _, Nat.le_refl 0, RdS.nil _ _, Nat.le_refl 0, RdS.nil _ _, ⟨by simp, by simp⟩, ⟨by simp, by simp⟩⟩, rfl⟩⟩⟩) rfl (by simp [fT]) hlr (hz.own (ci := 2) rfl)
   exact CallG.mono (HMerges_calls (f := fT [2, 1] (opsK n) [] ⟨0, 1, []⟩ []) ⟨_, _, _, _, rfl, by simp [fT], (rz15.mono (hH18.trans hz.1)), (by first | exact hcap | simp [fT]), rb, (show I64 1 from ⟨by decide, by decide⟩)⟩ (wantT [2, 1]) (show IH (wantT [2, 1]) from ⟨⟨by decide, by decide⟩, ⟨by decide, by decide⟩, ⟨by decide, by decide⟩, by decide, by decide⟩)) (fun u w L _ h => by rw [merges_th to21 hn9] at h; exact h)
  rintro _ L1 ⟨rfl, -, rfl⟩
  refine WpG.g tabOK 8 rfl ?_
  refine WpG.y rfl rfl rfl rfl (RunY.loadBox (ci := 1) tabOK rfl rfl rfl rfl) ?_
  refine WpG.buildSlice (xs := [.int .i64 0]) tabOK rfl rfl rfl rfl rfl rfl rfl rfl rfl rfl (fun b23 => ?_)
  refine WpG.ownCap (ci := 0) rfl (fun uz25 => ?_)
  refine WpG.freezeOwn (ci := 0) rfl (fun H25 hH25 fz25 => ?_)
  have rz25 : RdS H25 (some ⟨b23, 0, none⟩) ([0] : List Int) := RdS.of_own (H := H18) (show RdL H18 [.int .i64 0] ([0] : List Int) from ⟨_, _, rfl, ⟨rfl, ⟨by decide, by decide⟩⟩, rfl⟩) (rfl) (by decide) hH25 fz25
  refine WpG.buildSlice (xs := [.int .i64 1]) tabOK rfl rfl rfl rfl rfl rfl rfl rfl rfl rfl (fun b26 => ?_)
  refine WpG.ownCap (ci := 0) rfl (fun uz28 => ?_)
  refine WpG.freezeOwn (ci := 0) rfl (fun H28 hH28 fz28 => ?_)
  have rz28 : RdS H28 (some ⟨b26, 0, none⟩) ([1] : List Int) := RdS.of_own (H := H25) (show RdL H25 [.int .i64 1] ([1] : List Int) from ⟨_, _, rfl, ⟨rfl, ⟨by decide, by decide⟩⟩, rfl⟩) (rfl) (by decide) hH28 fz28
  refine WpG.g tabOK 1 rfl ?_
  refine WpG.buildSlice (xs := [.int .i64 1, .int .i64 100, .slice (some ⟨b23, 0, none⟩) 1 1, .slice (some ⟨b26, 0, none⟩) 1 1]) tabOK rfl rfl rfl rfl rfl rfl rfl rfl rfl rfl (fun b29 => ?_)
  refine WpG.ownCap (ci := 0) rfl (fun uz31 => ?_)
  refine WpG.freezeOwn (ci := 0) rfl (fun H31 hH31 fz31 => ?_)
  have rz31 : RdS H31 (some ⟨b29, 0, none⟩) ([⟨1, 100, [0], [1]⟩] : List PhiD) := RdS.of_own (H := H28) (show RdL H28 [.int .i64 1, .int .i64 100, .slice (some ⟨b23, 0, none⟩) 1 1, .slice (some ⟨b26, 0, none⟩) 1 1] ([⟨1, 100, [0], [1]⟩] : List PhiD) from ⟨_, _, rfl, ⟨_, _, _, _, rfl, by decide, (rz25.mono hH28), by decide, rz28, ⟨by decide, by decide⟩, ⟨by decide, by decide⟩⟩, rfl⟩) (rfl) (by decide) hH31 fz31
  refine WpG.y rfl rfl rfl rfl (RunY.indexAddr tabOK rfl rfl rfl rfl rfl (by decide) (by decide)) ?_
  refine WpG.g tabOK 1 rfl ?_
  refine WpG.storeOwn (ci := 2) (xs' := [.slice none 0 0, .slice none 0 0, .int .i64 2, .int .i64 1, .slice (some ⟨b10, 0, none⟩) 2 2, .slice (some ⟨b29, 0, none⟩) 1 1, .slice A5 ((opsK n).length) c5, .int .i64 1, .int .i64 0, .slice (some ⟨b16, 0, none⟩) 1 1, .slice none 0 0, .slice none 0 0, .int .i64 0, .int .i64 1, .slice none 0 0]) tabOK rfl rfl rfl rfl rfl rfl rfl rfl rfl ?_
  refine WpG.g tabOK 3 rfl ?_
  refine WpG.y rfl rfl rfl rfl (RunY.loadBox (ci := 1) tabOK rfl rfl rfl rfl) ?_
  refine WpG.callM (post := fun u L' => u = .tuple #[hamV noneH, .bool false] ∧ HasT (fT [2, 1] (opsK n) [⟨1, 100, [0], [1]⟩] ⟨0, 1, []⟩ []) ∧ L' = []) rfl rfl rfl rfl rfl rfl ⟨_, Tryz.func10, rfl, rfl⟩ (fun H1 hz => ?_) ?_
  ·have rb : RdS H1 (some ⟨b19, 0, none⟩) (fT [2, 1] (opsK n) [⟨1, 100, [0], [1]⟩] ⟨0, 1, []⟩ []).blocks := RdS.of_own (H := H1) (show RdL H1 [.slice none 0 0, .slice none 0 0, .int .i64 2, .int .i64 1, .slice (some ⟨b10, 0, none⟩) 2 2, .slice (some ⟨b29, 0, none⟩) 1 1, .slice A5 ((opsK n).length) c5, .int .i64 1, .int .i64 0, .slice (some ⟨b16, 0, none⟩) 1 1, .slice none 0 0, .slice none 0 0, .int .i64 0, .int .i64 1, .slice none 0 0] (fT [2, 1] (opsK n) [⟨1, 100, [0], [1]⟩] ⟨0, 1, []⟩ []).blocks from ⟨_, _, rfl, ⟨_, _, _, _, _, _, rfl, Nat.le_refl 0, RdS.nil _ _, Nat.le_refl 0, RdS.nil _ _, by simp [fT], (rz12.mono (((((hH15.trans hH18).trans hH25).trans hH28).trans hH31).trans hz.1)), ⟨by simp, by simp⟩, ⟨by simp, by simp⟩⟩, ⟨_, _, rfl, ⟨_, _, _, _, _, _, rfl, by simp [fT], (rz31.mono (hlr.trans hz.1)), uz5, (rz5.mono (((((((hH8.trans hH12).trans hH15).trans hH18).trans hH25).trans hH28).trans hH31).trans hz.1)), by simp [fT], (rz18.mono (((hH25.trans hH28).trans hH31).trans hz.1)), ⟨by simp, by simp⟩, ⟨by simp, by simp⟩⟩, ⟨_, _, rfl, ⟨_, _, _, _, _, _, rfl, Nat.le_refl 0, RdS.nil _ _, Nat.le_refl 0, RdS.nil _ _, Nat.le_refl 0, RdS.nil _ _, ⟨by simp, by simp⟩, ⟨by simp, by simp⟩⟩, rfl⟩⟩⟩) rfl (by simp [fT]) hlr (hz.own (ci := 2) rfl)
   exact CallG.mono (HFind_calls (f := fT [2, 1] (opsK n) [⟨1, 100, [0], [1]⟩] ⟨0, 1, []⟩ []) ⟨_, _, _, _, rfl, by simp [fT], (rz15.mono ((((hH18.trans hH25).trans hH28).trans hH31).trans hz.1)), (by first | exact hcap | simp [fT]), rb, (show I64 1 from ⟨by decide, by decide⟩)⟩ 0 ⟨by decide, by decide⟩) (fun u w L _ h => by rw [find_th2 to21] at h; exact h)
  rintro _ L1 ⟨rfl, -, rfl⟩
  refine WpG.g tabOK 3 rfl ?_
  refine WpG.alloc tabOK rfl rfl rfl rfl rfl (fun b32 => ?_)
  refine WpG.storeBox (ci := 0) (cs' := [.int .i64 0, .int .i64 0, .int .i64 0, .int .i64 0]) tabOK rfl rfl rfl rfl rfl rfl rfl rfl rfl ?_
  refine WpG.g tabOK 5 rfl ?_
  refine WpG.y rfl rfl rfl rfl (RunY.loadBox (ci := 2) tabOK rfl rfl rfl rfl) ?_
  refine WpG.y rfl rfl rfl rfl (RunY.indexAddr tabOK rfl rfl rfl rfl rfl (by decide) (by decide)) ?_
  refine WpG.g tabOK 1 rfl ?_
  refine WpG.storeOwn (ci := 3) (xs' := [.slice none 0 0, .slice none 0 0, .int .i64 2, .int .i64 1, .slice (some ⟨b10, 0, none⟩) 2 2, .slice none 0 0, .slice A5 ((opsK n).length) c5, .int .i64 1, .int .i64 0, .slice (some ⟨b16, 0, none⟩) 1 1, .slice none 0 0, .slice none 0 0, .int .i64 0, .int .i64 1, .slice none 0 0]) tabOK rfl rfl rfl rfl rfl rfl rfl rfl rfl ?_
  refine WpG.g tabOK 4 rfl ?_
  refine WpG.y rfl rfl rfl rfl (RunY.loadBox (ci := 2) tabOK rfl rfl rfl rfl) ?_
  refine WpG.buildSlice (xs := [.int .i64 1, .int .i64 3]) tabOK rfl rfl rfl rfl rfl rfl rfl rfl rfl rfl (fun b33 => ?_)
  refine WpG.ownCap (ci := 0) rfl (fun uz35 => ?_)
  refine WpG.freezeOwn (ci := 0) rfl (fun H35 hH35 fz35 => ?_)
  have rz35 : RdS H35 (some ⟨b33, 0, none⟩) ([1, 3] : List Int) := RdS.of_own (H := H31) (show RdL H31 [.int .i64 1, .int .i64 3] ([1, 3] : List Int) from ⟨_, _, rfl, ⟨rfl, ⟨by decide, by decide⟩⟩, ⟨_, _, rfl, ⟨rfl, ⟨by decide, by decide⟩⟩, rfl⟩⟩) (rfl) (by decide) hH35 fz35
  refine WpG.g tabOK 1 rfl ?_
  refine WpG.y rfl rfl rfl rfl (RunY.indexAddr tabOK rfl rfl rfl rfl rfl (by decide) (by decide)) ?_
  refine WpG.g tabOK 1 rfl ?_
  refine WpG.storeOwn (ci := 3) (xs' := [.slice none 0 0, .slice none 0 0, .int .i64 2, .int .i64 1, .slice (some ⟨b10, 0, none⟩) 2 2, .slice none 0 0, .slice A5 ((opsK n).length) c5, .int .i64 1, .int .i64 0, .slice (some ⟨b16, 0, none⟩) 1 1, .slice none 0 0, .slice none 0 0, .int .i64 2, .int .i64 1, .slice (some ⟨b33, 0, none⟩) 2 2]) tabOK rfl rfl rfl rfl rfl rfl rfl rfl rfl ?_
  refine WpG.g tabOK 4 rfl ?_
  refine WpG.y rfl rfl rfl rfl (RunY.loadBox (ci := 2) tabOK rfl rfl rfl rfl) ?_
  refine WpG.g tabOK 2 rfl ?_
  refine WpG.buildSlice (xs := [.slice none 0 0, .slice none 0 0, .int .i64 3, .int .i64 0, .slice none 0 0]) tabOK rfl rfl rfl rfl rfl rfl rfl rfl rfl rfl (fun b36 => ?_)
  refine WpG.append (ci := 4) tabOK rfl rfl rfl rfl rfl rfl rfl rfl rfl rfl rfl rfl (Src.own (ci := 0) rfl) (by omega) (fun A38 c39 => ?_)
  refine WpG.dropL (L' := [Chunk.box b32 [.int .i64 0, .int .i64 0, .int .i64 0, .int .i64 0] 27, Chunk.box b22 [.int .i64 0, .int .i64 (-1), .int .i64 1, .int .i64 2] 27, Chunk.box b21 [.slice (some ⟨b13, 0, none⟩) 1 1, .int .i64 1, .slice (some ⟨b19, 0, none⟩) 3 3] 25, Chunk.own 43 5 A38 c39 (3 + 1) ([.slice none 0 0, .slice none 0 0, .int .i64 2, .int .i64 1, .slice (some ⟨b10, 0, none⟩) 2 2, .slice none 0 0, .slice A5 ((opsK n).length) c5, .int .i64 1, .int .i64 0, .slice (some ⟨b16, 0, none⟩) 1 1, .slice none 0 0, .slice none 0 0, .int .i64 2, .int .i64 1, .slice (some ⟨b33, 0, none⟩) 2 2] ++ [.slice none 0 0, .slice none 0 0, .int .i64 3, .int .i64 0, .slice none 0 0]), Chunk.box b9 [.int .i64 0, .int .i64 (-1), .int .i64 1, .int .i64 2] 27]) (.cons _ (.cons_cons _ (.cons_cons _ (.cons_cons _ (.cons_cons _ (.cons_cons _ .slnil)))))) ?_
  refine WpG.setL (L' := [Chunk.box b32 [.int .i64 0, .int .i64 0, .int .i64 0, .int .i64 0] 27, Chunk.box b22 [.int .i64 0, .int .i64 (-1), .int .i64 1, .int .i64 2] 27, Chunk.box b21 [.slice (some ⟨b13, 0, none⟩) 1 1, .int .i64 1, .slice (some ⟨b19, 0, none⟩) 3 3] 25, Chunk.own 43 5 A38 c39 4 [.slice none 0 0, .slice none 0 0, .int .i64 2, .int .i64 1, .slice (some ⟨b10, 0, none⟩) 2 2, .slice none 0 0, .slice A5 ((opsK n).length) c5, .int .i64 1, .int .i64 0, .slice (some ⟨b16, 0, none⟩) 1 1, .slice none 0 0, .slice none 0 0, .int .i64 2, .int .i64 1, .slice (some ⟨b33, 0, none⟩) 2 2, .slice none 0 0, .slice none 0 0, .int .i64 3, .int .i64 0, .slice none 0 0], Chunk.box b9 [.int .i64 0, .int .i64 (-1), .int .i64 1, .int .i64 2] 27]) rfl ?_
  refine WpG.g tabOK 1 rfl ?_
  refine WpG.storeBox (ci := 2) (cs' := [.slice (some ⟨b13, 0, none⟩) 1 1, .int .i64 1, .slice A38 4 c39]) tabOK rfl rfl rfl rfl rfl rfl rfl rfl rfl ?_
  refine WpG.g tabOK 3 rfl ?_
  refine WpG.y rfl rfl rfl rfl (RunY.loadBox (ci := 2) tabOK rfl rfl rfl rfl) ?_
  refine WpG.ownCap (ci := 3) rfl (fun hcap => ?_)
  refine WpG.callM (post := fun u L' => u = .tuple #[hamV noneH, .bool false] ∧ HasT (fT [2, 1] (opsK n) [] ⟨2, 1, [1, 3]⟩ [⟨[], [], ⟨3, 0, []⟩⟩]) ∧ L' = []) rfl rfl rfl rfl rfl rfl ⟨_, Tryz.func10, rfl, rfl⟩ (fun H1 hz => ?_) ?_
  ·have rb : RdS H1 A38 (fT [2, 1] (opsK n) [] ⟨2, 1, [1, 3]⟩ [⟨[], [], ⟨3, 0, []⟩⟩]).blocks := RdS.of_own (H := H1) (show RdL H1 [.slice none 0 0, .slice none 0 0, .int .i64 2, .int .i64 1, .slice (some ⟨b10, 0, none⟩) 2 2, .slice none 0 0, .slice A5 ((opsK n).length) c5, .int .i64 1, .int .i64 0, .slice (some ⟨b16, 0, none⟩) 1 1, .slice none 0 0, .slice none 0 0, .int .i64 2, .int .i64 1, .slice (some ⟨b33, 0, none⟩) 2 2, .slice none 0 0, .slice none 0 0, .int .i64 3, .int .i64 0, .slice none 0 0] (fT [2, 1] (opsK n) [] ⟨2, 1, [1, 3]⟩ [⟨[], [], ⟨3, 0, []⟩⟩]).blocks from ⟨_, _, rfl, ⟨_, _, _, _, _, _, rfl, Nat.le_refl 0, RdS.nil _ _, Nat.le_refl 0, RdS.nil _ _, by simp [fT], (rz12.mono ((((((hH15.trans hH18).trans hH25).trans hH28).trans hH31).trans hH35).trans hz.1)), ⟨by simp, by simp⟩, ⟨by simp, by simp⟩⟩, ⟨_, _, rfl, ⟨_, _, _, _, _, _, rfl, Nat.le_refl 0, RdS.nil _ _, uz5, (rz5.mono ((((((((hH8.trans hH12).trans hH15).trans hH18).trans hH25).trans hH28).trans hH31).trans hH35).trans hz.1)), by simp [fT], (rz18.mono ((((hH25.trans hH28).trans hH31).trans hH35).trans hz.1)), ⟨by simp, by simp⟩, ⟨by simp, by simp⟩⟩, ⟨_, _, rfl, ⟨_, _, _, _, _, _, rfl, Nat.le_refl 0, RdS.nil _ _, Nat.le_refl 0, RdS.nil _ _, by simp [fT], (rz35.mono (hlr.trans hz.1)), ⟨by simp, by simp⟩, ⟨by simp, by simp⟩⟩, ⟨_, _, rfl, ⟨_, _, _, _, _, _, rfl, Nat.le_refl 0, RdS.nil _ _, Nat.le_refl 0, RdS.nil _ _, Nat.le_refl 0, RdS.nil _ _, ⟨by simp, by simp⟩, ⟨by simp, by simp⟩⟩, rfl⟩⟩⟩⟩) rfl (by simp [fT]) hlr (hz.own (ci := 3) rfl)
   exact CallG.mono (HFind_calls (f := fT [2, 1] (opsK n) [] ⟨2, 1, [1, 3]⟩ [⟨[], [], ⟨3, 0, []⟩⟩]) ⟨_, _, _, _, rfl, by simp [fT], (rz15.mono (((((hH18.trans hH25).trans hH28).trans hH31).trans hH35).trans hz.1)), (by first | exact hcap | simp [fT]), rb, (show I64 1 from ⟨by decide, by decide⟩)⟩ 0 ⟨by decide, by decide⟩) (fun u w L _ h => by rw [find_th3 to21] at h; exact h)
  rintro _ L1 ⟨rfl, -, rfl⟩
  refine WpG.g tabOK 3 rfl ?_
  refine WpG.alloc tabOK rfl rfl rfl rfl rfl (fun b40 => ?_)
  refine WpG.storeBox (ci := 0) (cs' := [.int .i64 0, .int .i64 0, .int .i64 0, .int .i64 0]) tabOK rfl rfl rfl rfl rfl rfl rfl rfl rfl ?_
  refine WpG.g tabOK 12 rfl ?_
  exact WpG.ret tabOK (L' := []) (.tmp rfl .nil) (.cons _ (.cons _ (.cons _ (.cons _ (.cons _ (.cons _ .slnil)))))) ⟨rfl, rfl⟩
 refine WpG.g tabOK 4 rfl ?_
 refine WpG.buildSlice (xs := [.int .i64 1]) tabOK rfl rfl rfl rfl rfl rfl rfl rfl rfl rfl (fun b41 => ?_)
 refine WpG.ownCap (ci := 0) rfl (fun uz43 => ?_)
 refine WpG.freezeOwn (ci := 0) rfl (fun H43 hH43 fz43 => ?_)
 have rz43 : RdS H43 (some ⟨b41, 0, none⟩) ([1] : List Int) := RdS.of_own (H := H8) (show RdL H8 [.int .i64 1] ([1] : List Int) from ⟨_, _, rfl, ⟨rfl, ⟨by decide, by decide⟩⟩, rfl⟩) (rfl) (by decide) hH43 fz43
 refine WpG.g tabOK 4 rfl ?_
 refine WpG.buildSlice (xs := [.int .i64 2]) tabOK rfl rfl rfl rfl rfl rfl rfl rfl rfl rfl (fun b44 => ?_)
 refine WpG.ownCap (ci := 0) rfl (fun uz46 => ?_)
 refine WpG.freezeOwn (ci := 0) rfl (fun H46 hH46 fz46 => ?_)
 have rz46 : RdS H46 (some ⟨b44, 0, none⟩) ([2] : List Int) := RdS.of_own (H := H43) (show RdL H43 [.int .i64 2] ([2] : List Int) from ⟨_, _, rfl, ⟨rfl, ⟨by decide, by decide⟩⟩, rfl⟩) (rfl) (by decide) hH46 fz46
 refine WpG.g tabOK 4 rfl ?_
 refine WpG.buildSlice (xs := [.slice none 0 0, .slice none 0 0, .int .i64 2, .int .i64 1, .slice (some ⟨b6, 0, none⟩) 2 2, .slice none 0 0, .slice A5 ((opsK n).length) c5, .int .i64 1, .int .i64 0, .slice (some ⟨b44, 0, none⟩) 1 1, .slice none 0 0, .slice none 0 0, .int .i64 0, .int .i64 1, .slice none 0 0]) tabOK rfl rfl rfl rfl rfl rfl rfl rfl rfl rfl (fun b47 => ?_)
 refine WpG.g tabOK 1 rfl ?_
 refine WpG.alloc tabOK rfl rfl rfl rfl rfl (fun b49 => ?_)
 refine WpG.storeBox (ci := 0) (cs' := [.slice (some ⟨b41, 0, none⟩) 1 1, .int .i64 1, .slice (some ⟨b47, 0, none⟩) 3 3]) tabOK rfl rfl rfl rfl rfl rfl rfl rfl rfl ?_
 refine WpG.g tabOK 3 rfl ?_
 refine WpG.y rfl rfl rfl rfl (RunY.loadBox (ci := 0) tabOK rfl rfl rfl rfl) ?_
 refine WpG.callM (post := fun u L' => u = .tuple #[hamV ⟨0, 1, (-1), 2⟩, .bool true] ∧ HasT (fT [1, 2] (opsK n) [] ⟨0, 1, []⟩ []) ∧ L' = []) rfl rfl rfl rfl rfl rfl ⟨_, Tryz.func10, rfl, rfl⟩ (fun H1 hz => ?_) ?_
 ·have rb : RdS H1 (some ⟨b47, 0, none⟩) (fT [1, 2] (opsK n) [] ⟨0, 1, []⟩ []).blocks := RdS.of_own (H := H1) (show RdL H1 [.slice none 0 0, .slice none 0 0, .int .i64 2, .int .i64 1, .slice (some ⟨b6, 0, none⟩) 2 2, .slice none 0 0, .slice A5 ((opsK n).length) c5, .int .i64 1, .int .i64 0, .slice (some ⟨b44, 0, none⟩) 1 1, .slice none 0 0, .slice none 0 0, .int .i64 0, .int .i64 1, .slice none 0 0] (fT [1, 2] (opsK n) [] ⟨0, 1, []⟩ []).blocks from ⟨_, _, rfl, ⟨_, _, _, _, _, _, rfl, Nat.le_refl 0, RdS.nil _ _, Nat.le_refl 0, RdS.nil _ _, by simp [fT], (rz8.mono ((hH43.trans hH46).trans hz.1)), ⟨by simp, by simp⟩, ⟨by simp, by simp⟩⟩, ⟨_, _, rfl, ⟨_, _, _, _, _, _, rfl, Nat.le_refl 0, RdS.nil _ _, uz5, (rz5.mono (((hH8.trans hH43).trans hH46).trans hz.1)), by simp [fT], (rz46.mono (hlr.trans hz.1)), ⟨by simp, by simp⟩, ⟨by simp, by simp⟩⟩, ⟨_, _, rfl, ⟨_, _, _, _, _, _, rfl, Nat.le_refl 0, RdS.nil _ _, Nat.le_refl 0, RdS.nil _ _, Nat.le_refl 0, RdS.nil _ _, ⟨by simp, by simp⟩, ⟨by simp, by simp⟩⟩, rfl⟩⟩⟩) rfl (by simp [fT]) hlr (hz.own (ci := 1) rfl)
  exact CallG.mono (HFind_calls (f := fT [1, 2] (opsK n) [] ⟨0, 1, []⟩ []) ⟨_, _, _, _, rfl, by simp [fT], (rz43.mono (hH46.trans hz.1)), (by first | exact hcap | simp [fT]), rb, (show I64 1 from ⟨by decide, by decide⟩)⟩ 0 ⟨by decide, by decide⟩) (fun u w L _ h => by rw [find_th to12 hn9, want12] at h; exact h)
 rintro _ L1 ⟨rfl, -, rfl⟩
 refine WpG.g tabOK 3 rfl ?_
 refine WpG.alloc tabOK rfl rfl rfl rfl rfl (fun b50 => ?_)
 refine WpG.storeBox (ci := 0) (cs' := [.int .i64 0, .int .i64 1, .int .i64 (-1), .int .i64 2]) tabOK rfl rfl rfl rfl rfl rfl rfl rfl rfl ?_
 refine WpG.g tabOK 8 rfl ?_
 refine WpG.y rfl rfl rfl rfl (RunY.loadBox (ci := 0) tabOK rfl rfl rfl rfl) ?_
 refine WpG.y rfl rfl rfl rfl (RunY.loadBox (ci := 3) tabOK rfl rfl rfl rfl) ?_
 refine WpG.y rfl rfl rfl rfl (RunY.neQuad (e := 3) tabOK rfl rfl rfl rfl rfl Tryz.underlying26 (by kernel_rfl) (by kernel_rfl) (by kernel_rfl)) ?_
 refine WpG.g tabOK 2 rfl ?_
 refine WpG.caseBn (t := 64) rfl (fun q64 => ?_) (fun q64 => ?_)
 ·exact absurd q64 (by decide)
 refine WpG.y rfl rfl rfl rfl (RunY.loadBox (ci := 1) tabOK rfl rfl rfl rfl) ?_
 refine WpG.y rfl rfl rfl rfl (RunY.loadBox (ci := 0) tabOK rfl rfl rfl rfl) ?_
 refine WpG.callM (post := fun u L' => u = .int .i64 (n : Int) ∧ HasT (fT [1, 2] (opsK n) [] ⟨0, 1, []⟩ []) ∧ L' = []) rfl rfl rfl rfl rfl rfl ⟨_, Tryz.func17, rfl, rfl⟩ (fun H1 hz => ?_) ?_
 ·have rb : RdS H1 (some ⟨b47, 0, none⟩) (fT [1, 2] (opsK n) [] ⟨0, 1, []⟩ []).blocks := RdS.of_own (H := H1) (show RdL H1 [.slice none 0 0, .slice none 0 0, .int .i64 2, .int .i64 1, .slice (some ⟨b6, 0, none⟩) 2 2, .slice none 0 0, .slice A5 ((opsK n).length) c5, .int .i64 1, .int .i64 0, .slice (some ⟨b44, 0, none⟩) 1 1, .slice none 0 0, .slice none 0 0, .int .i64 0, .int .i64 1, .slice none 0 0] (fT [1, 2] (opsK n) [] ⟨0, 1, []⟩ []).blocks from ⟨_, _, rfl, ⟨_, _, _, _, _, _, rfl, Nat.le_refl 0, RdS.nil _ _, Nat.le_refl 0, RdS.nil _ _, by simp [fT], (rz8.mono ((hH43.trans hH46).trans hz.1)), ⟨by simp, by simp⟩, ⟨by simp, by simp⟩⟩, ⟨_, _, rfl, ⟨_, _, _, _, _, _, rfl, Nat.le_refl 0, RdS.nil _ _, uz5, (rz5.mono (((hH8.trans hH43).trans hH46).trans hz.1)), by simp [fT], (rz46.mono (hlr.trans hz.1)), ⟨by simp, by simp⟩, ⟨by simp, by simp⟩⟩, ⟨_, _, rfl, ⟨_, _, _, _, _, _, rfl, Nat.le_refl 0, RdS.nil _ _, Nat.le_refl 0, RdS.nil _ _, Nat.le_refl 0, RdS.nil _ _, ⟨by simp, by simp⟩, ⟨by simp, by simp⟩⟩, rfl⟩⟩⟩) rfl (by simp [fT]) hlr (hz.own (ci := 2) rfl)
  exact CallG.mono (HCost_calls (f := fT [1, 2] (opsK n) [] ⟨0, 1, []⟩ []) ⟨_, _, _, _, rfl, by simp [fT], (rz43.mono (hH46.trans hz.1)), (by first | exact hcap | simp [fT]), rb, (show I64 1 from ⟨by decide, by decide⟩)⟩ (wantT [1, 2]) (show IH (wantT [1, 2]) from ⟨⟨by decide, by decide⟩, ⟨by decide, by decide⟩, ⟨by decide, by decide⟩, by decide, by decide⟩)) (fun u w L _ h => by rw [cost_th to12 hn9] at h; exact h)
 rintro _ L1 ⟨rfl, -, rfl⟩
 refine WpG.g tabOK 4 rfl ?_
 refine WpG.caseN (t := 71) rfl (fun q71 => ?_) (fun q71 => ?_)
 ·exact absurd rfl q71
 refine WpG.y rfl rfl rfl rfl (RunY.loadBox (ci := 1) tabOK rfl rfl rfl rfl) ?_
 refine WpG.y rfl rfl rfl rfl (RunY.loadBox (ci := 0) tabOK rfl rfl rfl rfl) ?_
 refine WpG.callM (post := fun u L' => u = .bool true ∧ HasT (fT [1, 2] (opsK n) [] ⟨0, 1, []⟩ []) ∧ L' = []) rfl rfl rfl rfl rfl rfl ⟨_, Tryz.func14, rfl, rfl⟩ (fun H1 hz => ?_) ?_
 ·have rb : RdS H1 (some ⟨b47, 0, none⟩) (fT [1, 2] (opsK n) [] ⟨0, 1, []⟩ []).blocks := RdS.of_own (H := H1) (show RdL H1 [.slice none 0 0, .slice none 0 0, .int .i64 2, .int .i64 1, .slice (some ⟨b6, 0, none⟩) 2 2, .slice none 0 0, .slice A5 ((opsK n).length) c5, .int .i64 1, .int .i64 0, .slice (some ⟨b44, 0, none⟩) 1 1, .slice none 0 0, .slice none 0 0, .int .i64 0, .int .i64 1, .slice none 0 0] (fT [1, 2] (opsK n) [] ⟨0, 1, []⟩ []).blocks from ⟨_, _, rfl, ⟨_, _, _, _, _, _, rfl, Nat.le_refl 0, RdS.nil _ _, Nat.le_refl 0, RdS.nil _ _, by simp [fT], (rz8.mono ((hH43.trans hH46).trans hz.1)), ⟨by simp, by simp⟩, ⟨by simp, by simp⟩⟩, ⟨_, _, rfl, ⟨_, _, _, _, _, _, rfl, Nat.le_refl 0, RdS.nil _ _, uz5, (rz5.mono (((hH8.trans hH43).trans hH46).trans hz.1)), by simp [fT], (rz46.mono (hlr.trans hz.1)), ⟨by simp, by simp⟩, ⟨by simp, by simp⟩⟩, ⟨_, _, rfl, ⟨_, _, _, _, _, _, rfl, Nat.le_refl 0, RdS.nil _ _, Nat.le_refl 0, RdS.nil _ _, Nat.le_refl 0, RdS.nil _ _, ⟨by simp, by simp⟩, ⟨by simp, by simp⟩⟩, rfl⟩⟩⟩) rfl (by simp [fT]) hlr (hz.own (ci := 2) rfl)
  exact CallG.mono (HMerges_calls (f := fT [1, 2] (opsK n) [] ⟨0, 1, []⟩ []) ⟨_, _, _, _, rfl, by simp [fT], (rz43.mono (hH46.trans hz.1)), (by first | exact hcap | simp [fT]), rb, (show I64 1 from ⟨by decide, by decide⟩)⟩ (wantT [1, 2]) (show IH (wantT [1, 2]) from ⟨⟨by decide, by decide⟩, ⟨by decide, by decide⟩, ⟨by decide, by decide⟩, by decide, by decide⟩)) (fun u w L _ h => by rw [merges_th to12 hn9] at h; exact h)
 rintro _ L1 ⟨rfl, -, rfl⟩
 refine WpG.g tabOK 8 rfl ?_
 refine WpG.y rfl rfl rfl rfl (RunY.loadBox (ci := 1) tabOK rfl rfl rfl rfl) ?_
 refine WpG.buildSlice (xs := [.int .i64 0]) tabOK rfl rfl rfl rfl rfl rfl rfl rfl rfl rfl (fun b51 => ?_)
 refine WpG.ownCap (ci := 0) rfl (fun uz53 => ?_)
 refine WpG.freezeOwn (ci := 0) rfl (fun H53 hH53 fz53 => ?_)
 have rz53 : RdS H53 (some ⟨b51, 0, none⟩) ([0] : List Int) := RdS.of_own (H := H46) (show RdL H46 [.int .i64 0] ([0] : List Int) from ⟨_, _, rfl, ⟨rfl, ⟨by decide, by decide⟩⟩, rfl⟩) (rfl) (by decide) hH53 fz53
 refine WpG.buildSlice (xs := [.int .i64 1]) tabOK rfl rfl rfl rfl rfl rfl rfl rfl rfl rfl (fun b54 => ?_)
 refine WpG.ownCap (ci := 0) rfl (fun uz56 => ?_)
 refine WpG.freezeOwn (ci := 0) rfl (fun H56 hH56 fz56 => ?_)
 have rz56 : RdS H56 (some ⟨b54, 0, none⟩) ([1] : List Int) := RdS.of_own (H := H53) (show RdL H53 [.int .i64 1] ([1] : List Int) from ⟨_, _, rfl, ⟨rfl, ⟨by decide, by decide⟩⟩, rfl⟩) (rfl) (by decide) hH56 fz56
 refine WpG.g tabOK 1 rfl ?_
 refine WpG.buildSlice (xs := [.int .i64 1, .int .i64 100, .slice (some ⟨b51, 0, none⟩) 1 1, .slice (some ⟨b54, 0, none⟩) 1 1]) tabOK rfl rfl rfl rfl rfl rfl rfl rfl rfl rfl (fun b57 => ?_)
 refine WpG.ownCap (ci := 0) rfl (fun uz59 => ?_)
 refine WpG.freezeOwn (ci := 0) rfl (fun H59 hH59 fz59 => ?_)
 have rz59 : RdS H59 (some ⟨b57, 0, none⟩) ([⟨1, 100, [0], [1]⟩] : List PhiD) := RdS.of_own (H := H56) (show RdL H56 [.int .i64 1, .int .i64 100, .slice (some ⟨b51, 0, none⟩) 1 1, .slice (some ⟨b54, 0, none⟩) 1 1] ([⟨1, 100, [0], [1]⟩] : List PhiD) from ⟨_, _, rfl, ⟨_, _, _, _, rfl, by decide, (rz53.mono hH56), by decide, rz56, ⟨by decide, by decide⟩, ⟨by decide, by decide⟩⟩, rfl⟩) (rfl) (by decide) hH59 fz59
 refine WpG.y rfl rfl rfl rfl (RunY.indexAddr tabOK rfl rfl rfl rfl rfl (by decide) (by decide)) ?_
 refine WpG.g tabOK 1 rfl ?_
 refine WpG.storeOwn (ci := 2) (xs' := [.slice none 0 0, .slice none 0 0, .int .i64 2, .int .i64 1, .slice (some ⟨b6, 0, none⟩) 2 2, .slice (some ⟨b57, 0, none⟩) 1 1, .slice A5 ((opsK n).length) c5, .int .i64 1, .int .i64 0, .slice (some ⟨b44, 0, none⟩) 1 1, .slice none 0 0, .slice none 0 0, .int .i64 0, .int .i64 1, .slice none 0 0]) tabOK rfl rfl rfl rfl rfl rfl rfl rfl rfl ?_
 refine WpG.g tabOK 3 rfl ?_
 refine WpG.y rfl rfl rfl rfl (RunY.loadBox (ci := 1) tabOK rfl rfl rfl rfl) ?_
 refine WpG.callM (post := fun u L' => u = .tuple #[hamV noneH, .bool false] ∧ HasT (fT [1, 2] (opsK n) [⟨1, 100, [0], [1]⟩] ⟨0, 1, []⟩ []) ∧ L' = []) rfl rfl rfl rfl rfl rfl ⟨_, Tryz.func10, rfl, rfl⟩ (fun H1 hz => ?_) ?_
 ·have rb : RdS H1 (some ⟨b47, 0, none⟩) (fT [1, 2] (opsK n) [⟨1, 100, [0], [1]⟩] ⟨0, 1, []⟩ []).blocks := RdS.of_own (H := H1) (show RdL H1 [.slice none 0 0, .slice none 0 0, .int .i64 2, .int .i64 1, .slice (some ⟨b6, 0, none⟩) 2 2, .slice (some ⟨b57, 0, none⟩) 1 1, .slice A5 ((opsK n).length) c5, .int .i64 1, .int .i64 0, .slice (some ⟨b44, 0, none⟩) 1 1, .slice none 0 0, .slice none 0 0, .int .i64 0, .int .i64 1, .slice none 0 0] (fT [1, 2] (opsK n) [⟨1, 100, [0], [1]⟩] ⟨0, 1, []⟩ []).blocks from ⟨_, _, rfl, ⟨_, _, _, _, _, _, rfl, Nat.le_refl 0, RdS.nil _ _, Nat.le_refl 0, RdS.nil _ _, by simp [fT], (rz8.mono (((((hH43.trans hH46).trans hH53).trans hH56).trans hH59).trans hz.1)), ⟨by simp, by simp⟩, ⟨by simp, by simp⟩⟩, ⟨_, _, rfl, ⟨_, _, _, _, _, _, rfl, by simp [fT], (rz59.mono (hlr.trans hz.1)), uz5, (rz5.mono ((((((hH8.trans hH43).trans hH46).trans hH53).trans hH56).trans hH59).trans hz.1)), by simp [fT], (rz46.mono (((hH53.trans hH56).trans hH59).trans hz.1)), ⟨by simp, by simp⟩, ⟨by simp, by simp⟩⟩, ⟨_, _, rfl, ⟨_, _, _, _, _, _, rfl, Nat.le_refl 0, RdS.nil _ _, Nat.le_refl 0, RdS.nil _ _, Nat.le_refl 0, RdS.nil _ _, ⟨by simp, by simp⟩, ⟨by simp, by simp⟩⟩, rfl⟩⟩⟩) rfl (by simp [fT]) hlr (hz.own (ci := 2) rfl)
  exact CallG.mono (HFind_calls (f := fT [1, 2] (opsK n) [⟨1, 100, [0], [1]⟩] ⟨0, 1, []⟩ []) ⟨_, _, _, _, rfl, by simp [fT], (rz43.mono ((((hH46.trans hH53).trans hH56).trans hH59).trans hz.1)), (by first | exact hcap | simp [fT]), rb, (show I64 1 from ⟨by decide, by decide⟩)⟩ 0 ⟨by decide, by decide⟩) (fun u w L _ h => by rw [find_th2 to12] at h; exact h)
 rintro _ L1 ⟨rfl, -, rfl⟩
 refine WpG.g tabOK 3 rfl ?_
 refine WpG.alloc tabOK rfl rfl rfl rfl rfl (fun b60 => ?_)
 refine WpG.storeBox (ci := 0) (cs' := [.int .i64 0, .int .i64 0, .int .i64 0, .int .i64 0]) tabOK rfl rfl rfl rfl rfl rfl rfl rfl rfl ?_
 refine WpG.g tabOK 5 rfl ?_
 refine WpG.y rfl rfl rfl rfl (RunY.loadBox (ci := 2) tabOK rfl rfl rfl rfl) ?_
 refine WpG.y rfl rfl rfl rfl (RunY.indexAddr tabOK rfl rfl rfl rfl rfl (by decide) (by decide)) ?_
 refine WpG.g tabOK 1 rfl ?_
 refine WpG.storeOwn (ci := 3) (xs' := [.slice none 0 0, .slice none 0 0, .int .i64 2, .int .i64 1, .slice (some ⟨b6, 0, none⟩) 2 2, .slice none 0 0, .slice A5 ((opsK n).length) c5, .int .i64 1, .int .i64 0, .slice (some ⟨b44, 0, none⟩) 1 1, .slice none 0 0, .slice none 0 0, .int .i64 0, .int .i64 1, .slice none 0 0]) tabOK rfl rfl rfl rfl rfl rfl rfl rfl rfl ?_
 refine WpG.g tabOK 4 rfl ?_
 refine WpG.y rfl rfl rfl rfl (RunY.loadBox (ci := 2) tabOK rfl rfl rfl rfl) ?_
 refine WpG.buildSlice (xs := [.int .i64 1, .int .i64 3]) tabOK rfl rfl rfl rfl rfl rfl rfl rfl rfl rfl (fun b61 => ?_)
 refine WpG.ownCap (ci := 0) rfl (fun uz63 => ?_)
 refine WpG.freezeOwn (ci := 0) rfl (fun H63 hH63 fz63 => ?_)
 have rz63 : RdS H63 (some ⟨b61, 0, none⟩) ([1, 3] : List Int) := RdS.of_own (H := H59) (show RdL H59 [.int .i64 1, .int .i64 3] ([1, 3] : List Int) from ⟨_, _, rfl, ⟨rfl, ⟨by decide, by decide⟩⟩, ⟨_, _, rfl, ⟨rfl, ⟨by decide, by decide⟩⟩, rfl⟩⟩) (rfl) (by decide) hH63 fz63
 refine WpG.g tabOK 1 rfl ?_
 refine WpG.y rfl rfl rfl rfl (RunY.indexAddr tabOK rfl rfl rfl rfl rfl (by decide) (by decide)) ?_
 refine WpG.g tabOK 1 rfl ?_
 refine WpG.storeOwn (ci := 3) (xs' := [.slice none 0 0, .slice none 0 0, .int .i64 2, .int .i64 1, .slice (some ⟨b6, 0, none⟩) 2 2, .slice none 0 0, .slice A5 ((opsK n).length) c5, .int .i64 1, .int .i64 0, .slice (some ⟨b44, 0, none⟩) 1 1, .slice none 0 0, .slice none 0 0, .int .i64 2, .int .i64 1, .slice (some ⟨b61, 0, none⟩) 2 2]) tabOK rfl rfl rfl rfl rfl rfl rfl rfl rfl ?_
 refine WpG.g tabOK 4 rfl ?_
 refine WpG.y rfl rfl rfl rfl (RunY.loadBox (ci := 2) tabOK rfl rfl rfl rfl) ?_
 refine WpG.g tabOK 2 rfl ?_
 refine WpG.buildSlice (xs := [.slice none 0 0, .slice none 0 0, .int .i64 3, .int .i64 0, .slice none 0 0]) tabOK rfl rfl rfl rfl rfl rfl rfl rfl rfl rfl (fun b64 => ?_)
 refine WpG.append (ci := 4) tabOK rfl rfl rfl rfl rfl rfl rfl rfl rfl rfl rfl rfl (Src.own (ci := 0) rfl) (by omega) (fun A66 c67 => ?_)
 refine WpG.dropL (L' := [Chunk.box b60 [.int .i64 0, .int .i64 0, .int .i64 0, .int .i64 0] 27, Chunk.box b50 [.int .i64 0, .int .i64 1, .int .i64 (-1), .int .i64 2] 27, Chunk.box b49 [.slice (some ⟨b41, 0, none⟩) 1 1, .int .i64 1, .slice (some ⟨b47, 0, none⟩) 3 3] 25, Chunk.own 43 5 A66 c67 (3 + 1) ([.slice none 0 0, .slice none 0 0, .int .i64 2, .int .i64 1, .slice (some ⟨b6, 0, none⟩) 2 2, .slice none 0 0, .slice A5 ((opsK n).length) c5, .int .i64 1, .int .i64 0, .slice (some ⟨b44, 0, none⟩) 1 1, .slice none 0 0, .slice none 0 0, .int .i64 2, .int .i64 1, .slice (some ⟨b61, 0, none⟩) 2 2] ++ [.slice none 0 0, .slice none 0 0, .int .i64 3, .int .i64 0, .slice none 0 0]), Chunk.box b9 [.int .i64 0, .int .i64 1, .int .i64 (-1), .int .i64 2] 27]) (.cons _ (.cons_cons _ (.cons_cons _ (.cons_cons _ (.cons_cons _ (.cons_cons _ .slnil)))))) ?_
 refine WpG.setL (L' := [Chunk.box b60 [.int .i64 0, .int .i64 0, .int .i64 0, .int .i64 0] 27, Chunk.box b50 [.int .i64 0, .int .i64 1, .int .i64 (-1), .int .i64 2] 27, Chunk.box b49 [.slice (some ⟨b41, 0, none⟩) 1 1, .int .i64 1, .slice (some ⟨b47, 0, none⟩) 3 3] 25, Chunk.own 43 5 A66 c67 4 [.slice none 0 0, .slice none 0 0, .int .i64 2, .int .i64 1, .slice (some ⟨b6, 0, none⟩) 2 2, .slice none 0 0, .slice A5 ((opsK n).length) c5, .int .i64 1, .int .i64 0, .slice (some ⟨b44, 0, none⟩) 1 1, .slice none 0 0, .slice none 0 0, .int .i64 2, .int .i64 1, .slice (some ⟨b61, 0, none⟩) 2 2, .slice none 0 0, .slice none 0 0, .int .i64 3, .int .i64 0, .slice none 0 0], Chunk.box b9 [.int .i64 0, .int .i64 1, .int .i64 (-1), .int .i64 2] 27]) rfl ?_
 refine WpG.g tabOK 1 rfl ?_
 refine WpG.storeBox (ci := 2) (cs' := [.slice (some ⟨b41, 0, none⟩) 1 1, .int .i64 1, .slice A66 4 c67]) tabOK rfl rfl rfl rfl rfl rfl rfl rfl rfl ?_
 refine WpG.g tabOK 3 rfl ?_
 refine WpG.y rfl rfl rfl rfl (RunY.loadBox (ci := 2) tabOK rfl rfl rfl rfl) ?_
 refine WpG.ownCap (ci := 3) rfl (fun hcap => ?_)
 refine WpG.callM (post := fun u L' => u = .tuple #[hamV noneH, .bool false] ∧ HasT (fT [1, 2] (opsK n) [] ⟨2, 1, [1, 3]⟩ [⟨[], [], ⟨3, 0, []⟩⟩]) ∧ L' = []) rfl rfl rfl rfl rfl rfl ⟨_, Tryz.func10, rfl, rfl⟩ (fun H1 hz => ?_) ?_
 ·have rb : RdS H1 A66 (fT [1, 2] (opsK n) [] ⟨2, 1, [1, 3]⟩ [⟨[], [], ⟨3, 0, []⟩⟩]).blocks := RdS.of_own (H := H1) (show RdL H1 [.slice none 0 0, .slice none 0 0, .int .i64 2, .int .i64 1, .slice (some ⟨b6, 0, none⟩) 2 2, .slice none 0 0, .slice A5 ((opsK n).length) c5, .int .i64 1, .int .i64 0, .slice (some ⟨b44, 0, none⟩) 1 1, .slice none 0 0, .slice none 0 0, .int .i64 2, .int .i64 1, .slice (some ⟨b61, 0, none⟩) 2 2, .slice none 0 0, .slice none 0 0, .int .i64 3, .int .i64 0, .slice none 0 0] (fT [1, 2] (opsK n) [] ⟨2, 1, [1, 3]⟩ [⟨[], [], ⟨3, 0, []⟩⟩]).blocks from ⟨_, _, rfl, ⟨_, _, _, _, _, _, rfl, Nat.le_refl 0, RdS.nil _ _, Nat.le_refl 0, RdS.nil _ _, by simp [fT], (rz8.mono ((((((hH43.trans hH46).trans hH53).trans hH56).trans hH59).trans hH63).trans hz.1)), ⟨by simp, by simp⟩, ⟨by simp, by simp⟩⟩, ⟨_, _, rfl, ⟨_, _, _, _, _, _, rfl, Nat.le_refl 0, RdS.nil _ _, uz5, (rz5.mono (((((((hH8.trans hH43).trans hH46).trans hH53).trans hH56).trans hH59).trans hH63).trans hz.1)), by simp [fT], (rz46.mono ((((hH53.trans hH56).trans hH59).trans hH63).trans hz.1)), ⟨by simp, by simp⟩, ⟨by simp, by simp⟩⟩, ⟨_, _, rfl, ⟨_, _, _, _, _, _, rfl, Nat.le_refl 0, RdS.nil _ _, Nat.le_refl 0, RdS.nil _ _, by simp [fT], (rz63.mono (hlr.trans hz.1)), ⟨by simp, by simp⟩, ⟨by simp, by simp⟩⟩, ⟨_, _, rfl, ⟨_, _, _, _, _, _, rfl, Nat.le_refl 0, RdS.nil _ _, Nat.le_refl 0, RdS.nil _ _, Nat.le_refl 0, RdS.nil _ _, ⟨by simp, by simp⟩, ⟨by simp, by simp⟩⟩, rfl⟩⟩⟩⟩) rfl (by simp [fT]) hlr (hz.own (ci := 3) rfl)
  exact CallG.mono (HFind_calls (f := fT [1, 2] (opsK n) [] ⟨2, 1, [1, 3]⟩ [⟨[], [], ⟨3, 0, []⟩⟩]) ⟨_, _, _, _, rfl, by simp [fT], (rz43.mono (((((hH46.trans hH53).trans hH56).trans hH59).trans hH63).trans hz.1)), (by first | exact hcap | simp [fT]), rb, (show I64 1 from ⟨by decide, by decide⟩)⟩ 0 ⟨by decide, by decide⟩) (fun u w L _ h => by rw [find_th3 to12] at h; exact h)
 rintro _ L1 ⟨rfl, -, rfl⟩
 refine WpG.g tabOK 3 rfl ?_
 refine WpG.alloc tabOK rfl rfl rfl rfl rfl (fun b68 => ?_)
 refine WpG.storeBox (ci := 0) (cs' := [.int .i64 0, .int .i64 0, .int .i64 0, .int .i64 0]) tabOK rfl rfl rfl rfl rfl rfl rfl rfl rfl ?_
 refine WpG.g tabOK 12 rfl ?_
 exact WpG.ret tabOK (L' := []) (.tmp rfl .nil) (.cons _ (.cons _ (.cons _ (.cons _ (.cons _ (.cons _ .slnil)))))) ⟨rfl, rfl⟩
end Go.Proofs.YtakameggkkjcpaaGreat
namespace Go.Proofs.YtakameggkkjcpaaGreat
open Go Go.RowKit Go.ChangeShapes Go.WideShapes Go.ChangeAt
set_option maxRecDepth 100000 in
theorem hammockThree_lifted (os : Os) (started : os.Started) (HH : Type) (enc : TypeId × Value → HH) :
    ReturnsInHanded {} Tryz.checked os 6 .any (Rows.hammockThreeSpec.pre6 enc Tryz.prog Tryz.f6 Rows.hammockThreeRow.domain false) (Rows.hammockThreeSpec.post enc Tryz.prog Tryz.f6 false true false false) := by
  refine returnsInHanded_of_change_sized (C := Tryz.checked) own started (by kernel_rfl) Tryz.func6
    (ChangeSpec.witness6 (enc := enc) (C := Tryz.checked) false ⟨#[], #[.bool false, .int .u8 0], []⟩ 8 (by kernel_rfl) (by kernel_rfl) (by kernel_rfl) (by kernel_rfl)) ?_
  intro W base args ds gs before hval0 hW _ hsz _
  have hW' := hW
  obtain ⟨p, q, hA0, hV, rfl, _, _⟩ := hW
  have hval : ∀ (j : Nat) t v, Tryz.f6.params[j]? = some t → args[j]? = some v → Value.okWide Tryz.prog W .any base t v := hval0
  have hA : DataW.TrodAll enc Tryz.prog W 0 (fun _ => true) true Tryz.f6.params.toList args.toList ds p := hA0
  rw [Tryz.params6] at hA hval
  obtain ⟨v0, v1, d0, d1, p0, p1, rfl, rfl, rfl, h0, h1⟩ := trodAll_two hA
  obtain ⟨rfl, rfl⟩ := trodVars_none hV
  obtain ⟨a0, rfl, rfl, rfl⟩ := open_bool Tryz.underlying4 (hval 0 4 v0 rfl rfl) h0
  obtain ⟨a1, rfl, rfl, rfl, wa1⟩ := open_int Tryz.underlying5 (hval 1 5 v1 rfl rfl) h1
  refine (law_calls (HammockThree_calls a0 a1 (wfu8 wa1))).mono fun e W' ⟨he, hb⟩ => ?_
  exact ⟨_, he, post_true hW' rfl laidOut (by kernel_rfl) Tryz.underlying4 rfl rfl hb⟩
theorem hammockThree : Rows.HammockThreeSaid :=
  OpenClaim.holds_of_wide 6 Tryz.f6 rfl rfl rfl rfl rfl rfl rfl ⟨rfl, rfl, rfl, rfl, rfl⟩ rfl rfl rfl rfl rfl (by kernel_rfl) Tryz.func6 (by kernel_rfl)
    (of_decide_eq_true (by kernel_rfl)) (by unfold Func.isWrapper; first | (rw [if_pos (by decide +kernel)]; kernel_rfl) | (rw [if_neg (by decide +kernel)]; exact ⟨rfl, rfl⟩))
    (fun os started HH enc _ => hammockThree_lifted os started HH enc)
end Go.Proofs.YtakameggkkjcpaaGreat

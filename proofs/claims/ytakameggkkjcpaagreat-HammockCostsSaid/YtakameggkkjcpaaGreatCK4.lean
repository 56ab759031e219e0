/- Part 4 of the proof: A hammock that can be merged is one, and costs as many as its blocks between have; what is none costs nothing, and can't be merged: 'HammockCosts' answers true at every input. No conditions. -/
import Derived.Test.YtakameggkkjcpaaGreatCK3
set_option linter.unusedVariables false
set_option linter.unusedSimpArgs false
namespace Go.Proofs.YtakameggkkjcpaaGreat
open Go Go.RowKit
theorem nodup_le13 : ∀ (l m : List Nat), l.Nodup → (∀ x ∈ l, x ∈ m) → l.length ≤ m.length
  | [], _, _, _ => Nat.zero_le _
  | a :: l, m, h, hs => by
    have hn := List.nodup_cons.1 h
    have ha := hs a (.head _)
    have := nodup_le13 l (m.erase a) hn.2 (fun x hx => (List.mem_erase_of_ne (by rintro rfl; exact hn.1 hx)).2 (hs x (.tail _ hx)))
    have hl := List.length_erase_of_mem ha
    have hp : 0 < m.length := List.length_pos_of_mem ha
    simp only [List.length_cons]; omega
def CheckIs (f : FuncD) (lv e : Int) : Prop := if lv < 0 ∨ lv > 2 then e = 1 else CodeIs f lv e
theorem check_out {f : FuncD} {lv : Int} (h : lv < 0 ∨ lv > 2) : CheckIs f lv 1 := by unfold CheckIs; rw [if_pos h]
theorem check_in {f : FuncD} {lv e : Int} (h0 : ¬ lv < 0) (h1 : ¬ lv > 2) (h : CodeIs f lv e) : CheckIs f lv e := by unfold CheckIs; rw [if_neg (by omega)]; exact h
def keysOf {α : Type} (ms : List (Int × α)) : List Int := ms.map (·.1)
theorem mput_keys {α : Type} : ∀ (ms : List (Int × α)) (k : Int) (v : α), (keysOf ms).Nodup → (keysOf (mput ms k v)).Nodup ∧ ∀ q, q ∈ keysOf (mput ms k v) ↔ q = k ∨ q ∈ keysOf ms
  | [], k, v, _ => by simp [mput, keysOf]
  | (a, x) :: l, k, v, h => by
    simp only [keysOf, List.map_cons, List.nodup_cons] at h
    by_cases e : a = k
    · subst e
      simp only [mput, if_true, keysOf, List.map_cons, List.nodup_cons, List.mem_cons]
      exact ⟨h, fun q => by constructor <;> intro hq <;> simp_all⟩
    · obtain ⟨h1, h2⟩ := mput_keys l k v h.2
      simp only [mput, if_neg e, keysOf, List.map_cons, List.nodup_cons, List.mem_cons]
      refine ⟨⟨fun hm => ?_, h1⟩, fun q => ?_⟩
      · rcases (h2 a).1 hm with h3 | h3
        · exact e h3
        · exact h.1 h3
      · have := h2 q
        simp only [keysOf] at this
        rw [this]
        constructor <;> intro hq <;> rcases hq with hq | hq | hq <;> simp [hq]
theorem mget_mput {α : Type} : ∀ (ms : List (Int × α)) (k v : Int) (d : α), mget (mput ms k d) v = if v = k then some d else mget ms v
  | [], k, v, d => by
    by_cases e : v = k
    · subst e; simp [mput, mget]
    · simp [mput, mget, Ne.symm e, e]
  | (a, x) :: l, k, v, d => by
    by_cases e1 : a = k
    · subst e1
      by_cases e : v = a
      · subst e; simp [mput, mget]
      · simp [mput, mget, Ne.symm e, e]
    · by_cases e : v = a
      · subst e; simp [mput, mget, e1]
      · simp [mput, mget, e1, Ne.symm e, mget_mput l k v d]
theorem mget_none {α : Type} : ∀ {ms : List (Int × α)} {k : Int}, mget ms k = none ↔ k ∉ keysOf ms
  | [], k => by simp [mget, keysOf]
  | (a, x) :: l, k => by
    by_cases e : a = k
    · subst e; simp [mget, keysOf]
    · have := mget_none (ms := l) (k := k)
      simp only [keysOf] at this
      simp [mget, e, keysOf, this, Ne.symm e]
theorem mput_new {α : Type} {ms : List (Int × α)} {k : Int} (v : α) (h : k ∉ keysOf ms) : (mput ms k v).length = ms.length + 1 := by
  rcases mput_len k v ms with h1 | h1
  · rw [h1]; simp
  · exfalso
    have : ∀ ms : List (Int × α), k ∉ keysOf ms → mput ms k v = ms ++ [(k, v)] := by
      intro ms
      induction ms with
      | nil => intro _; rfl
      | cons a l ih =>
        intro h
        obtain ⟨a, x⟩ := a
        simp only [keysOf, List.map_cons, List.mem_cons, not_or] at h
        simp only [mput, if_neg (Ne.symm h.1), List.cons_append, ih h.2]
    rw [this ms h] at h1
    simp at h1
theorem mget_at {α : Type} : ∀ {ms : List (Int × α)} {j : Nat} {k : Int} {d : α}, (keysOf ms).Nodup → ms[j]? = some (k, d) → mget ms k = some d
  | [], _, _, _, _, h => by simp at h
  | (a, x) :: l, 0, k, d, _, h => by simp at h; obtain ⟨rfl, rfl⟩ := h; simp [mget]
  | (a, x) :: l, j + 1, k, d, hn, h => by
    simp only [keysOf, List.map_cons, List.nodup_cons] at hn
    have h' : l[j]? = some (k, d) := by simpa using h
    have hne : a ≠ k := fun e => hn.1 (e ▸ List.mem_map.2 ⟨(k, d), List.mem_of_getElem? h', rfl⟩)
    simp only [mget, if_neg hne]
    exact mget_at hn.2 h'
def Seen (ms : List (Int × DefD)) (seen : List Nat) (ss : List (Int × (Int × Int))) : Prop :=
  seen.Nodup ∧ (∀ j ∈ seen, j < ms.length) ∧ ss.length = seen.length ∧ (keysOf ss).Nodup ∧ (∀ k, k ∈ keysOf ss ↔ ∃ j ∈ seen, ∃ d, ms[j]? = some (k, d)) ∧ ∀ j ∈ seen, ∀ k d, ms[j]? = some (k, d) → mget ss k = some (d.bits, d.lanes)
theorem Seen.start (ms : List (Int × DefD)) : Seen ms [] [] := ⟨List.nodup_nil, by simp, rfl, List.nodup_nil, by simp [keysOf], by simp⟩
theorem at_inj {ms : List (Int × DefD)} (hn : (keysOf ms).Nodup) {i j : Nat} {k : Int} {d d' : DefD} (h : ms[i]? = some (k, d)) (h' : ms[j]? = some (k, d')) : i = j := by
  have h1 : (keysOf ms)[i]? = some k := by simp [keysOf, h]
  have h2 : (keysOf ms)[j]? = some k := by simp [keysOf, h']
  obtain ⟨hi, e1⟩ := List.getElem?_eq_some_iff.1 h1
  obtain ⟨hj, e2⟩ := List.getElem?_eq_some_iff.1 h2
  exact (List.getElem_inj hn).1 (e1.trans e2.symm)
theorem Seen.step {ms : List (Int × DefD)} {seen : List Nat} {ss : List (Int × (Int × Int))} (h : Seen ms seen ss) (hn : (keysOf ms).Nodup) {j : Nat} {k : Int} {d : DefD} (hj : ms[j]? = some (k, d)) (hns : j ∉ seen) : Seen ms (seen ++ [j]) (mput ss k (d.bits, d.lanes)) := by
  obtain ⟨a1, a2, a3, a4, a5, a6⟩ := h
  have hk : k ∉ keysOf ss := fun hm => by
    obtain ⟨i, hi, d', hd'⟩ := (a5 k).1 hm
    exact hns (at_inj hn hj hd' ▸ hi)
  obtain ⟨b1, b2⟩ := mput_keys ss k (d.bits, d.lanes) a4
  refine ⟨List.nodup_append.2 ⟨a1, by simp, fun x hx y hy e => ?_⟩, fun i hi => ?_, ?_, b1, fun q => ?_, fun i hi q d' hq => ?_⟩
  · simp at hy; subst hy; subst e; exact hns hx
  · rcases List.mem_append.1 hi with hi | hi
    · exact a2 i hi
    · simp at hi; subst hi; exact (List.getElem?_eq_some_iff.1 hj).1
  · rw [mput_new _ hk, a3]; simp
  · rw [b2 q, a5 q]
    constructor
    · rintro (rfl | ⟨i, hi, d', hd'⟩)
      · exact ⟨j, by simp, d, hj⟩
      · exact ⟨i, List.mem_append_left _ hi, d', hd'⟩
    · rintro ⟨i, hi, d', hd'⟩
      rcases List.mem_append.1 hi with hi | hi
      · exact .inr ⟨i, hi, d', hd'⟩
      · simp at hi; subst hi
        rw [hj] at hd'
        simp only [Option.some.injEq, Prod.mk.injEq] at hd'
        exact .inl hd'.1.symm
  · rw [mget_mput]
    rcases List.mem_append.1 hi with hi | hi
    · by_cases e : q = k
      · subst e; exact absurd (at_inj hn hj hq ▸ hi) hns
      · rw [if_neg e]; exact a6 i hi q d' hq
    · simp at hi; subst hi
      rw [hj] at hq
      simp only [Option.some.injEq, Prod.mk.injEq] at hq
      obtain ⟨rfl, rfl⟩ := hq
      rw [if_pos rfl]
theorem Seen.lt {ms : List (Int × DefD)} {seen : List Nat} {ss : List (Int × (Int × Int))} (h : Seen ms seen ss) : seen.length ≤ ms.length := by
  have h1 := h.1
  have h2 := h.2.1
  have := nodup_le13 seen (List.range ms.length) h1 fun j hj => List.mem_range.2 (h2 j hj)
  simpa using this
def ShapeMap (ms : List (Int × DefD)) (ss : List (Int × (Int × Int))) : Prop := ss.length = ms.length ∧ ∀ k, mget ss k = (mget ms k).map fun d => (d.bits, d.lanes)
theorem Seen.all {ms : List (Int × DefD)} {seen : List Nat} {ss : List (Int × (Int × Int))} (h : Seen ms seen ss) (hn : (keysOf ms).Nodup) (ha : ∀ j, j < (encm dv ms).length → j ∈ seen) : ShapeMap ms ss := by
  rw [encm_len] at ha
  obtain ⟨a1, a2, a3, a4, a5, a6⟩ := h
  have hle : ms.length ≤ seen.length := by
    have := nodup_le13 (List.range ms.length) seen List.nodup_range fun j hj => ha j (List.mem_range.1 hj)
    simpa using this
  have hge := Seen.lt ⟨a1, a2, a3, a4, a5, a6⟩
  refine ⟨by omega, fun k => ?_⟩
  cases hm : mget ms k with
  | none =>
    rw [Option.map_none, mget_none]
    intro hk
    obtain ⟨j, _, d, hd⟩ := (a5 k).1 hk
    have := mget_at hn hd
    rw [hm] at this; cases this
  | some d =>
    have hk : k ∈ keysOf ms := Classical.byContradiction fun hn' => by rw [mget_none.2 hn'] at hm; cases hm
    obtain ⟨p, hp, rfl⟩ := List.mem_map.1 hk
    obtain ⟨j, hj, e⟩ := List.getElem_of_mem hp
    have hat : ms[j]? = some (p.1, p.2) := by rw [List.getElem?_eq_getElem hj, e]
    have := mget_at hn hat
    rw [hm] at this
    cases this
    exact a6 j (ha j hj) _ _ hat
end Go.Proofs.YtakameggkkjcpaaGreat
set_option maxRecDepth 4000
namespace Go.Proofs.YtakameggkkjcpaaGreat
open Go Go.RowKit
theorem Check_calls {H : Hp} {f : FuncD} {A_f_0 A_f_2 : Option Addr} {c_f_0 c_f_2 : Nat} (u_f_0 : f.params.length ≤ c_f_0) (r_f_0 : RdS H A_f_0 f.params) (u_f_2 : f.blocks.length ≤ c_f_2) (r_f_2 : RdS H A_f_2 f.blocks) (k_f_0 : I64 f.ret) (lv : Int) : CallG Tryz.prog 58 [.agg #[.slice A_f_0 f.params.length c_f_0, .int .i64 f.ret, .slice A_f_2 f.blocks.length c_f_2], .int .i64 lv] H [] (fun v H' L' => ∃ e, v = .int .i64 e ∧ CheckIs f lv e ∧ L' = []) := by
 have rd_f' : Rdc.rd H [.slice A_f_0 f.params.length c_f_0, .int .i64 f.ret, .slice A_f_2 f.blocks.length c_f_2] f := ⟨_, _, _, _, rfl, u_f_0, r_f_0, u_f_2, r_f_2, k_f_0⟩
 have bs := r_f_2.1; have bsp := r_f_0.1
 refine CallG.of Tryz.func58 rfl rfl rfl fun w0 => ?_
 refine WpG.g tabOK 2 rfl ?_
 refine WpG.box rfl rfl rfl rfl rfl (fun b1 => ?_)
 refine WpG.g tabOK 8 rfl ?_
 refine WpG.caseD (t := 9) rfl (fun q9 => ?_) (fun q9 => ?_)
 ·refine WpG.g tabOK 9 rfl ?_
  exact WpG.ret tabOK (L' := []) (.tmp rfl .nil) (.cons _ .slnil) ⟨_, rfl, check_out (.inl q9), rfl⟩
 refine WpG.g tabOK 4 rfl ?_
 refine WpG.caseD (t := 12) rfl (fun q12 => ?_) (fun q12 => ?_)
 ·refine WpG.g tabOK 5 rfl ?_
  exact WpG.ret tabOK (L' := []) (.tmp rfl .nil) (.cons _ .slnil) ⟨_, rfl, check_out (.inr q12), rfl⟩
 refine WpG.g tabOK 4 rfl ?_
 refine WpG.y rfl rfl rfl rfl (RunY.loadBox (ci := 0) tabOK rfl rfl rfl rfl) ?_
 refine WpG.g tabOK 1 rfl ?_
 refine WpG.call0 rfl rfl rfl rfl rfl rfl (Look_calls u_f_0 r_f_0 u_f_2 r_f_2 k_f_0 lv) ?_
 rintro _ H2 L1 hH2 ⟨e2, p2, rfl, hce, hL⟩
 refine WpG.dropL (L' := [Chunk.box b1 [.slice A_f_0 f.params.length c_f_0, .int .i64 f.ret, .slice A_f_2 f.blocks.length c_f_2] 25]) (List.sublist_append_right ..) ?_
 refine WpG.g tabOK 11 rfl ?_
 exact WpG.ret tabOK (L' := []) (.tmp rfl .nil) (.cons _ .slnil) ⟨_, rfl, check_in q9 q12 hce, rfl⟩
end Go.Proofs.YtakameggkkjcpaaGreat
namespace Go.Proofs.YtakameggkkjcpaaGreat
open Go Go.RowKit
theorem sortD_nil : sortD [] = [] := by simp [sortD]
theorem check_at {f : FuncD} {lv e : Int} (h : CheckIs f lv e) (h0 : 0 ≤ lv) (h1 : lv ≤ 2) : CodeIs f lv e := by unfold CheckIs at h; rwa [if_neg (by omega)] at h
end Go.Proofs.YtakameggkkjcpaaGreat
namespace Go.Proofs.YtakameggkkjcpaaGreat
open Go Go.RowKit
section
variable {P : Program} {T : List TRow} {fn : Func} {w0 : World} {H0 : Hp} {X : List Nat} {F : Fk} {H : Hp} {L : List Chunk} {ty : TypeId} {pos : String} {af : Array Edge} {g : Option (Nat × Bool)} {dst : Option Nat}
theorem RowOK.bool {t : Nat} {r : TRow} (h : RowOK P t r) (hk : r.kind = .bool) : P.underlying t = some .bool := by
  obtain ⟨d, hd, e⟩ := h.under
  rw [hk] at e
  cases d <;> simp only [TK.of, reduceCtorEq] at e
  exact hd
theorem RunY.eqBool (hT : TabOK P T) {t ty' : Nat} {x y : Operand} {r : TRow} {a b : Bool} (hx : evk F x = some (.bool a)) (hy : evk F y = some (.bool b)) (hr : trow T t = some r) (hk : r.kind = .bool) :
    RunY P fn w0 H0 X F H L ⟨dst, .binOp .eql t x y ty', ty, pos, af, g⟩ (.bool (a == b)) := fun a' w ha _ => by
  have h2 := run_equal_bool (P := P) w t a b ((hT.row hr).bool hk)
  have h1 : (eqGuard .eql t x y (.bool a) (.bool b)).run P w = .ok () w := by rw [eqGuard_at_bool]; rfl
  simp [execOp, ha.eval hx, ha.eval hy, binOp, h1, h2]
end
def phiTot (p : PhiD) : Int := 1 + p.frm.length + p.args.length
def opTot (o : OpD) : Int := 1 + o.args.length
def blkTot (b : BlockD) : Int := 1 + b.en.to.length + ((b.phis.map phiTot).sum + (b.ops.map opTot).sum)
def totalF (f : FuncD) : Int := f.params.length + (f.blocks.map blkTot).sum
theorem CodeIs.at_ {f : FuncD} {lv e lv' e' : Int} (h : CodeIs f lv e) (h' : CodeIs f lv' e') : ∃ tl, e = codeOf f lv tl ∧ e' = codeOf f lv' tl := by
  obtain ⟨tl, g, rfl⟩ := h
  exact ⟨tl, rfl, h'.same ⟨tl, g, rfl⟩⟩
theorem sum_step {α : Type} [Inhabited α] {g : α → Int} {l : List α} {i : Int} (h0 : 0 ≤ i) (h1 : i < l.length) : ((l.drop i.toNat).map g).sum = g (nth l i) + ((l.drop (i + 1).toNat).map g).sum := by
  rw [drop_nth h0 h1, toNat_succ h0]; rfl
theorem sum_end {α : Type} {g : α → Int} {l : List α} {i : Int} (h1 : ¬ i < l.length) : ((l.drop i.toNat).map g).sum = 0 := by
  rw [List.drop_eq_nil_of_le (by omega)]; rfl
end Go.Proofs.YtakameggkkjcpaaGreat
set_option maxRecDepth 4000
namespace Go.Proofs.YtakameggkkjcpaaGreat
open Go Go.RowKit
theorem Small4_calls {H : Hp} {f : FuncD} {A_f_0 A_f_2 : Option Addr} {c_f_0 c_f_2 : Nat} (u_f_0 : f.params.length ≤ c_f_0) (r_f_0 : RdS H A_f_0 f.params) (u_f_2 : f.blocks.length ≤ c_f_2) (r_f_2 : RdS H A_f_2 f.blocks) (k_f_0 : I64 f.ret) : CallG Tryz.prog 26 [.agg #[.slice A_f_0 f.params.length c_f_0, .int .i64 f.ret, .slice A_f_2 f.blocks.length c_f_2]] H [] (fun v H' L' => ∃ b, v = .bool b ∧ (b = true → totalF f ≤ 20000) ∧ L' = []) := by
 have rd_f' : Rdc.rd H [.slice A_f_0 f.params.length c_f_0, .int .i64 f.ret, .slice A_f_2 f.blocks.length c_f_2] f := ⟨_, _, _, _, rfl, u_f_0, r_f_0, u_f_2, r_f_2, k_f_0⟩
 have bs := r_f_2.1; have bsp := r_f_0.1
 refine CallG.of Tryz.func26 rfl rfl rfl fun w0 => ?_
 refine WpG.g tabOK 2 rfl ?_
 refine WpG.box rfl rfl rfl rfl rfl (fun b1 => ?_)
 refine WpG.g tabOK 5 rfl ?_
 refine WpG.y rfl rfl rfl rfl (RunY.loadBox (ci := 0) tabOK rfl rfl rfl rfl) ?_
 refine WpG.g tabOK 10 rfl ?_
 refine WpG.wk (WpG.ind2 (fun (i : Int) (n : Int) => ⟨(f.blocks.length - i).toNat, [(1, .pointer (some ⟨b1, 0, none⟩)), (3, .int .i64 n), (4, .int .i64 i)], H, [Chunk.box b1 [.slice A_f_0 f.params.length c_f_0, .int .i64 f.ret, .slice A_f_2 f.blocks.length c_f_2] 25], 0 ≤ i ∧ i ≤ f.blocks.length ∧ 0 ≤ n ∧ n ≤ 600000000000000 ∧ (n ≤ 20000 → totalF f = n + ((f.blocks.drop i.toNat).map blkTot).sum)⟩) ?_ 0 (f.params.length : Int) ⟨by omega, by omega, by omega, by omega, fun _ => rfl⟩) rfl
 intro i n inv ih1
 obtain ⟨i0, i1, i2, i3, i4⟩ := inv
 refine WpG.g tabOK 5 rfl ?_
 refine WpG.y rfl rfl rfl rfl (RunY.loadBox (ci := 0) tabOK rfl rfl rfl rfl) ?_
 refine WpG.g tabOK 3 rfl ?_
 refine WpG.caseD (t := 15) rfl (fun q15 => ?_) (fun q15 => ?_)
 ·refine WpG.g tabOK 4 rfl ?_
  refine WpG.caseD (t := 18) rfl (fun q18 => ?_) (fun q18 => ?_)
  ·refine WpG.gw tabOK 8 22 rfl (wrk (x := n + 1) (by omega) (by omega)) ?_
   refine WpG.g tabOK 1 rfl ?_
   refine WpG.y rfl rfl rfl rfl (RunY.loadBox (ci := 0) tabOK rfl rfl rfl rfl) ?_
   refine WpG.g tabOK 1 rfl ?_
   refine WpG.indexR tabOK rfl rfl rfl rfl rfl rfl rfl rfl rfl r_f_2 (by omega) (by omega) ?_
   rintro x2 hx2 b2 o2 cs2 rd2 hc2
   have rd2' := rd2; obtain ⟨A2_0, c2_0, A2_1, c2_1, A2_4, c2_4, rfl, u2_0, r2_0, u2_1, r2_1, u2_4, r2_4, k2_0, k2_1⟩ := rd2
   have bz2_0 := r2_0.1
   have bz2_1 := r2_1.1
   have bz2_4 := r2_4.1
   obtain rfl : x2 = (nth f.blocks i) := hx2
   refine WpG.g tabOK 2 rfl ?_
   refine WpG.y rfl rfl rfl rfl (RunY.loadH tabOK (hc2.sub 4 1) hlr rfl rfl rfl rfl) ?_
   refine WpG.gw tabOK 2 31 rfl (wrk (x := (n + 1) + ((nth f.blocks i).en.to.length : Int)) (by omega) (by omega)) ?_
   refine WpG.g tabOK 9 rfl ?_
   refine WpG.wk (WpG.ind2 (fun (j : Int) (n2 : Int) => ⟨((nth f.blocks i).phis.length - j).toNat, [(1, .pointer (some ⟨b1, 0, none⟩)), (3, .int .i64 n2), (4, .int .i64 i), (5, .int .i64 j)], H, [Chunk.box b1 [.slice A_f_0 f.params.length c_f_0, .int .i64 f.ret, .slice A_f_2 f.blocks.length c_f_2] 25], 0 ≤ j ∧ j ≤ (nth f.blocks i).phis.length ∧ 0 ≤ n2 ∧ n2 ≤ 600000000000000 ∧ (n2 ≤ 20000 → totalF f = n2 + (((((nth f.blocks i).phis.drop j.toNat).map phiTot).sum + ((nth f.blocks i).ops.map opTot).sum) + ((f.blocks.drop (i + 1).toNat).map blkTot).sum))⟩) ?_ 0 ((n + 1) + ((nth f.blocks i).en.to.length : Int)) ⟨by omega, by omega, by omega, by omega, fun h => by have h5 := i4 (by omega); rw [sum_step i0 q15] at h5; have eb : blkTot (nth f.blocks i) = 1 + ((nth f.blocks i).en.to.length : Int) + (((nth f.blocks i).phis.map phiTot).sum + ((nth f.blocks i).ops.map opTot).sum) := rfl; simp only [Int.toNat_zero, List.drop_zero]; omega⟩) rfl
   intro j n2 inv ih2
   obtain ⟨j0, j1, j2, j3, j4⟩ := inv
   refine WpG.g tabOK 5 rfl ?_
   refine WpG.y rfl rfl rfl rfl (RunY.loadBox (ci := 0) tabOK rfl rfl rfl rfl) ?_
   refine WpG.g tabOK 1 rfl ?_
   refine WpG.indexR tabOK rfl rfl rfl rfl rfl rfl rfl rfl rfl r_f_2 (by omega) (by omega) ?_
   rintro x3 hx3 b3 o3 cs3 rd3 hc3
   have rd3' := rd3; obtain ⟨A3_0, c3_0, A3_1, c3_1, A3_4, c3_4, rfl, u3_0, r3_0, u3_1, r3_1, u3_4, r3_4, k3_0, k3_1⟩ := rd3
   have bz3_0 := r3_0.1
   have bz3_1 := r3_1.1
   have bz3_4 := r3_4.1
   obtain rfl : x3 = (nth f.blocks i) := hx3
   refine WpG.g tabOK 1 rfl ?_
   refine WpG.y rfl rfl rfl rfl (RunY.loadH tabOK (hc3.sub 0 1) hlr rfl rfl rfl rfl) ?_
   refine WpG.g tabOK 3 rfl ?_
   refine WpG.caseD (t := 41) rfl (fun q41 => ?_) (fun q41 => ?_)
   ·refine WpG.g tabOK 4 rfl ?_
    refine WpG.caseD (t := 44) rfl (fun q44 => ?_) (fun q44 => ?_)
    ·refine WpG.g tabOK 4 rfl ?_
     refine WpG.draw 27 [Chunk.box b1 [.slice A_f_0 f.params.length c_f_0, .int .i64 f.ret, .slice A_f_2 f.blocks.length c_f_2] 25] mixed (by kernel_rfl) ?_
     refine WpD.gw (listed' := lst 27 3) tabOK [0, 1] 48 (by kernel_rfl) rfl (wrk (x := n2 + 1) (by omega) (by omega)) hlr hlr (.refl _) ?_
     refine WpD.g (listed' := lst 27 1130775) tabOK [2, 4, 8, 14, 16, 20] (by kernel_rfl) rfl hlr hlr (.refl _) ?_
     refine WpD.y (i := 3) (fuel := 18) (listed' := lst 27 1130783) (by kernel_rfl) rfl rfl rfl rfl hlr hlr (.refl _) (RunY.loadBox (ci := 0) tabOK rfl rfl rfl rfl) ?_
     refine WpD.indexR (i := 5) (fuel := 17) (listed' := lst 27 1130815) tabOK (by kernel_rfl) rfl rfl rfl rfl rfl rfl rfl rfl rfl hlr hlr (.refl _) r_f_2 (by omega) (by omega) ?_
     rintro x4 hx4 b4 o4 cs4 rd4 hc4
     have rd4' := rd4; obtain ⟨A4_0, c4_0, A4_1, c4_1, A4_4, c4_4, rfl, u4_0, r4_0, u4_1, r4_1, u4_4, r4_4, k4_0, k4_1⟩ := rd4
     have bz4_0 := r4_0.1
     have bz4_1 := r4_1.1
     have bz4_4 := r4_4.1
     obtain rfl : x4 = (nth f.blocks i) := hx4
     refine WpD.g (listed' := lst 27 1130879) tabOK [6] (by kernel_rfl) rfl hlr hlr (.refl _) ?_
     refine WpD.y (i := 7) (fuel := 15) (listed' := lst 27 1131007) (by kernel_rfl) rfl rfl rfl rfl hlr hlr (.refl _) (RunY.loadH tabOK (hc4.sub 0 1) hlr rfl rfl rfl rfl) ?_
     refine WpD.indexR (i := 9) (fuel := 14) (listed' := lst 27 1131519) tabOK (by kernel_rfl) rfl rfl rfl rfl rfl rfl rfl rfl rfl hlr hlr (.refl _) r4_0 (by omega) (by omega) ?_
     rintro x5 hx5 b5 o5 cs5 rd5 hc5
     have rd5' := rd5; obtain ⟨A5_2, c5_2, A5_3, c5_3, rfl, u5_2, r5_2, u5_3, r5_3, k5_0, k5_1⟩ := rd5
     have bz5_2 := r5_2.1
     have bz5_3 := r5_3.1
     obtain rfl : x5 = (nth ((nth f.blocks i).phis) j) := hx5
     refine WpD.g (listed' := lst 27 1132543) tabOK [10] (by kernel_rfl) rfl hlr hlr (.refl _) ?_
     refine WpD.y (i := 11) (fuel := 12) (listed' := lst 27 1134591) (by kernel_rfl) rfl rfl rfl rfl hlr hlr (.refl _) (RunY.loadH tabOK (hc5.sub 2 1) hlr rfl rfl rfl rfl) ?_
     refine WpD.gw (listed' := lst 27 1146879) tabOK [12, 13] 60 (by kernel_rfl) rfl (wrk (x := (n2 + 1) + ((nth ((nth f.blocks i).phis) j).frm.length : Int)) (by omega) (by omega)) hlr hlr (.refl _) ?_
     refine WpD.y (i := 15) (fuel := 9) (listed' := lst 27 1179647) (by kernel_rfl) rfl rfl rfl rfl hlr hlr (.refl _) (RunY.loadBox (ci := 0) tabOK rfl rfl rfl rfl) ?_
     refine WpD.indexR (i := 17) (fuel := 8) (listed' := lst 27 1310719) tabOK (by kernel_rfl) rfl rfl rfl rfl rfl rfl rfl rfl rfl hlr hlr (.refl _) r_f_2 (by omega) (by omega) ?_
     rintro x6 hx6 b6 o6 cs6 rd6 hc6
     have rd6' := rd6; obtain ⟨A6_0, c6_0, A6_1, c6_1, A6_4, c6_4, rfl, u6_0, r6_0, u6_1, r6_1, u6_4, r6_4, k6_0, k6_1⟩ := rd6
     have bz6_0 := r6_0.1
     have bz6_1 := r6_1.1
     have bz6_4 := r6_4.1
     obtain rfl : x6 = (nth f.blocks i) := hx6
     refine WpD.g (listed' := lst 27 1572863) tabOK [18] (by kernel_rfl) rfl hlr hlr (.refl _) ?_
     refine WpD.y (i := 19) (fuel := 6) (listed' := lst 27 2097151) (by kernel_rfl) rfl rfl rfl rfl hlr hlr (.refl _) (RunY.loadH tabOK (hc6.sub 0 1) hlr rfl rfl rfl rfl) ?_
     refine WpD.indexR (i := 21) (fuel := 5) (listed' := lst 27 4194303) tabOK (by kernel_rfl) rfl rfl rfl rfl rfl rfl rfl rfl rfl hlr hlr (.refl _) r6_0 (by omega) (by omega) ?_
     rintro x7 hx7 b7 o7 cs7 rd7 hc7
     have rd7' := rd7; obtain ⟨A7_2, c7_2, A7_3, c7_3, rfl, u7_2, r7_2, u7_3, r7_3, k7_0, k7_1⟩ := rd7
     have bz7_2 := r7_2.1
     have bz7_3 := r7_3.1
     obtain rfl : x7 = (nth ((nth f.blocks i).phis) j) := hx7
     refine WpD.g (listed' := lst 27 8388607) tabOK [22] (by kernel_rfl) rfl hlr hlr (.refl _) ?_
     refine WpD.y (i := 23) (fuel := 3) (listed' := lst 27 16777215) (by kernel_rfl) rfl rfl rfl rfl hlr hlr (.refl _) (RunY.loadH tabOK (hc7.sub 3 1) hlr rfl rfl rfl rfl) ?_
     refine WpD.gw (listed' := lst 27 67108863) tabOK [24, 25] 72 (by kernel_rfl) rfl (wrk (x := ((n2 + 1) + ((nth ((nth f.blocks i).phis) j).frm.length : Int)) + ((nth ((nth f.blocks i).phis) j).args.length : Int)) (by omega) (by omega)) hlr hlr (.refl _) ?_
     refine WpD.g (listed' := lst 27 134217727) tabOK [26] (by kernel_rfl) rfl hlr hlr (.refl _) ?_
     refine WpD.done (by kernel_rfl) ?_
     refine WpG.gw tabOK 4 46 rfl (wrk (x := j + 1) (by omega) (by omega)) ?_
     refine WpG.g tabOK 3 rfl ?_
     refine WpG.wk (ih2 (j + 1) (((n2 + 1) + ((nth ((nth f.blocks i).phis) j).frm.length : Int)) + ((nth ((nth f.blocks i).phis) j).args.length : Int)) ?_ ?_) rfl
     ·dsimp only
      omega
     clear ih1 ih2
     exact ⟨by omega, by omega, by omega, by omega, fun h => by have h5 := j4 (by omega); rw [sum_step j0 q41] at h5; have eb : phiTot (nth (nth f.blocks i).phis j) = 1 + ((nth (nth f.blocks i).phis j).frm.length : Int) + (nth (nth f.blocks i).phis j).args.length := rfl; omega⟩
    refine WpG.g tabOK 8 rfl ?_
    refine WpG.wk (WpG.ind2 (fun (k : Int) (n3 : Int) => ⟨((nth f.blocks i).ops.length - k).toNat, [(1, .pointer (some ⟨b1, 0, none⟩)), (3, .int .i64 n3), (4, .int .i64 i), (6, .int .i64 k)], H, [Chunk.box b1 [.slice A_f_0 f.params.length c_f_0, .int .i64 f.ret, .slice A_f_2 f.blocks.length c_f_2] 25], 0 ≤ k ∧ k ≤ (nth f.blocks i).ops.length ∧ 0 ≤ n3 ∧ n3 ≤ 600000000000000 ∧ (n3 ≤ 20000 → totalF f = n3 + ((((nth f.blocks i).ops.drop k.toNat).map opTot).sum + ((f.blocks.drop (i + 1).toNat).map blkTot).sum))⟩) ?_ 0 n2 ⟨by omega, by omega, by omega, by omega, fun h => by first | (exfalso; omega) | (have h5 := j4 (by omega); rw [sum_end q41] at h5; simp only [Int.toNat_zero, List.drop_zero]; omega)⟩) rfl
    intro k n3 inv ih3
    obtain ⟨k0, k1, k2, k3, k4⟩ := inv
    refine WpG.g tabOK 5 rfl ?_
    refine WpG.y rfl rfl rfl rfl (RunY.loadBox (ci := 0) tabOK rfl rfl rfl rfl) ?_
    refine WpG.g tabOK 1 rfl ?_
    refine WpG.indexR tabOK rfl rfl rfl rfl rfl rfl rfl rfl rfl r_f_2 (by omega) (by omega) ?_
    rintro x8 hx8 b8 o8 cs8 rd8 hc8
    have rd8' := rd8; obtain ⟨A8_0, c8_0, A8_1, c8_1, A8_4, c8_4, rfl, u8_0, r8_0, u8_1, r8_1, u8_4, r8_4, k8_0, k8_1⟩ := rd8
    have bz8_0 := r8_0.1
    have bz8_1 := r8_1.1
    have bz8_4 := r8_4.1
    obtain rfl : x8 = (nth f.blocks i) := hx8
    refine WpG.g tabOK 1 rfl ?_
    refine WpG.y rfl rfl rfl rfl (RunY.loadH tabOK (hc8.sub 1 1) hlr rfl rfl rfl rfl) ?_
    refine WpG.g tabOK 3 rfl ?_
    refine WpG.caseD (t := 82) rfl (fun q82 => ?_) (fun q82 => ?_)
    ·refine WpG.g tabOK 4 rfl ?_
     refine WpG.caseD (t := 85) rfl (fun q85 => ?_) (fun q85 => ?_)
     ·refine WpG.gw tabOK 7 89 rfl (wrk (x := n3 + 1) (by omega) (by omega)) ?_
      refine WpG.g tabOK 1 rfl ?_
      refine WpG.y rfl rfl rfl rfl (RunY.loadBox (ci := 0) tabOK rfl rfl rfl rfl) ?_
      refine WpG.g tabOK 1 rfl ?_
      refine WpG.indexR tabOK rfl rfl rfl rfl rfl rfl rfl rfl rfl r_f_2 (by omega) (by omega) ?_
      rintro x9 hx9 b9 o9 cs9 rd9 hc9
      have rd9' := rd9; obtain ⟨A9_0, c9_0, A9_1, c9_1, A9_4, c9_4, rfl, u9_0, r9_0, u9_1, r9_1, u9_4, r9_4, k9_0, k9_1⟩ := rd9
      have bz9_0 := r9_0.1
      have bz9_1 := r9_1.1
      have bz9_4 := r9_4.1
      obtain rfl : x9 = (nth f.blocks i) := hx9
      refine WpG.g tabOK 1 rfl ?_
      refine WpG.y rfl rfl rfl rfl (RunY.loadH tabOK (hc9.sub 1 1) hlr rfl rfl rfl rfl) ?_
      refine WpG.g tabOK 1 rfl ?_
      refine WpG.indexR tabOK rfl rfl rfl rfl rfl rfl rfl rfl rfl r9_1 (by omega) (by omega) ?_
      rintro x10 hx10 b10 o10 cs10 rd10 hc10
      have rd10' := rd10; obtain ⟨A10_4, c10_4, rfl, u10_4, r10_4, k10_0, k10_1, k10_2, k10_3, k10_4⟩ := rd10
      have bz10_4 := r10_4.1
      obtain rfl : x10 = (nth ((nth f.blocks i).ops) k) := hx10
      refine WpG.g tabOK 1 rfl ?_
      refine WpG.y rfl rfl rfl rfl (RunY.loadH tabOK (hc10.sub 4 1) hlr rfl rfl rfl rfl) ?_
      refine WpG.gw tabOK 2 101 rfl (wrk (x := (n3 + 1) + ((nth ((nth f.blocks i).ops) k).args.length : Int)) (by omega) (by omega)) ?_
      refine WpG.gw tabOK 6 87 rfl (wrk (x := k + 1) (by omega) (by omega)) ?_
      refine WpG.g tabOK 3 rfl ?_
      refine WpG.wk (ih3 (k + 1) ((n3 + 1) + ((nth ((nth f.blocks i).ops) k).args.length : Int)) ?_ ?_) rfl
      ·dsimp only
       omega
      clear ih1 ih2 ih3
      exact ⟨by omega, by omega, by omega, by omega, fun h => by have h5 := k4 (by omega); rw [sum_step k0 q82] at h5; have eb : opTot (nth (nth f.blocks i).ops k) = 1 + ((nth (nth f.blocks i).ops k).args.length : Int) := rfl; omega⟩
     refine WpG.gw tabOK 6 20 rfl (wrk (x := i + 1) (by omega) (by omega)) ?_
     refine WpG.g tabOK 3 rfl ?_
     refine WpG.wk (ih1 (i + 1) n3 ?_ ?_) rfl
     ·dsimp only
      omega
     clear ih1 ih2 ih3
     exact ⟨by omega, by omega, by omega, by omega, fun h => by first | (exfalso; omega) | (have h5 := k4 (by omega); rw [sum_end q82] at h5; omega)⟩
    refine WpG.gw tabOK 10 20 rfl (wrk (x := i + 1) (by omega) (by omega)) ?_
    refine WpG.g tabOK 3 rfl ?_
    refine WpG.wk (ih1 (i + 1) n3 ?_ ?_) rfl
    ·dsimp only
     omega
    clear ih1 ih2 ih3
    exact ⟨by omega, by omega, by omega, by omega, fun h => by first | (exfalso; omega) | (have h5 := k4 (by omega); rw [sum_end q82] at h5; omega)⟩
   refine WpG.g tabOK 12 rfl ?_
   refine WpG.wk (WpG.ind2 (fun (k : Int) (n3 : Int) => ⟨((nth f.blocks i).ops.length - k).toNat, [(1, .pointer (some ⟨b1, 0, none⟩)), (3, .int .i64 n3), (4, .int .i64 i), (6, .int .i64 k)], H, [Chunk.box b1 [.slice A_f_0 f.params.length c_f_0, .int .i64 f.ret, .slice A_f_2 f.blocks.length c_f_2] 25], 0 ≤ k ∧ k ≤ (nth f.blocks i).ops.length ∧ 0 ≤ n3 ∧ n3 ≤ 600000000000000 ∧ (n3 ≤ 20000 → totalF f = n3 + ((((nth f.blocks i).ops.drop k.toNat).map opTot).sum + ((f.blocks.drop (i + 1).toNat).map blkTot).sum))⟩) ?_ 0 n2 ⟨by omega, by omega, by omega, by omega, fun h => by first | (exfalso; omega) | (have h5 := j4 (by omega); rw [sum_end q41] at h5; simp only [Int.toNat_zero, List.drop_zero]; omega)⟩) rfl
   intro k n3 inv ih3
   obtain ⟨k0, k1, k2, k3, k4⟩ := inv
   refine WpG.g tabOK 5 rfl ?_
   refine WpG.y rfl rfl rfl rfl (RunY.loadBox (ci := 0) tabOK rfl rfl rfl rfl) ?_
   refine WpG.g tabOK 1 rfl ?_
   refine WpG.indexR tabOK rfl rfl rfl rfl rfl rfl rfl rfl rfl r_f_2 (by omega) (by omega) ?_
   rintro x11 hx11 b11 o11 cs11 rd11 hc11
   have rd11' := rd11; obtain ⟨A11_0, c11_0, A11_1, c11_1, A11_4, c11_4, rfl, u11_0, r11_0, u11_1, r11_1, u11_4, r11_4, k11_0, k11_1⟩ := rd11
   have bz11_0 := r11_0.1
   have bz11_1 := r11_1.1
   have bz11_4 := r11_4.1
   obtain rfl : x11 = (nth f.blocks i) := hx11
   refine WpG.g tabOK 1 rfl ?_
   refine WpG.y rfl rfl rfl rfl (RunY.loadH tabOK (hc11.sub 1 1) hlr rfl rfl rfl rfl) ?_
   refine WpG.g tabOK 3 rfl ?_
   refine WpG.caseD (t := 82) rfl (fun q82 => ?_) (fun q82 => ?_)
   ·refine WpG.g tabOK 4 rfl ?_
    refine WpG.caseD (t := 85) rfl (fun q85 => ?_) (fun q85 => ?_)
    ·refine WpG.gw tabOK 7 89 rfl (wrk (x := n3 + 1) (by omega) (by omega)) ?_
     refine WpG.g tabOK 1 rfl ?_
     refine WpG.y rfl rfl rfl rfl (RunY.loadBox (ci := 0) tabOK rfl rfl rfl rfl) ?_
     refine WpG.g tabOK 1 rfl ?_
     refine WpG.indexR tabOK rfl rfl rfl rfl rfl rfl rfl rfl rfl r_f_2 (by omega) (by omega) ?_
     rintro x12 hx12 b12 o12 cs12 rd12 hc12
     have rd12' := rd12; obtain ⟨A12_0, c12_0, A12_1, c12_1, A12_4, c12_4, rfl, u12_0, r12_0, u12_1, r12_1, u12_4, r12_4, k12_0, k12_1⟩ := rd12
     have bz12_0 := r12_0.1
     have bz12_1 := r12_1.1
     have bz12_4 := r12_4.1
     obtain rfl : x12 = (nth f.blocks i) := hx12
     refine WpG.g tabOK 1 rfl ?_
     refine WpG.y rfl rfl rfl rfl (RunY.loadH tabOK (hc12.sub 1 1) hlr rfl rfl rfl rfl) ?_
     refine WpG.g tabOK 1 rfl ?_
     refine WpG.indexR tabOK rfl rfl rfl rfl rfl rfl rfl rfl rfl r12_1 (by omega) (by omega) ?_
     rintro x13 hx13 b13 o13 cs13 rd13 hc13
     have rd13' := rd13; obtain ⟨A13_4, c13_4, rfl, u13_4, r13_4, k13_0, k13_1, k13_2, k13_3, k13_4⟩ := rd13
     have bz13_4 := r13_4.1
     obtain rfl : x13 = (nth ((nth f.blocks i).ops) k) := hx13
     refine WpG.g tabOK 1 rfl ?_
     refine WpG.y rfl rfl rfl rfl (RunY.loadH tabOK (hc13.sub 4 1) hlr rfl rfl rfl rfl) ?_
     refine WpG.gw tabOK 2 101 rfl (wrk (x := (n3 + 1) + ((nth ((nth f.blocks i).ops) k).args.length : Int)) (by omega) (by omega)) ?_
     refine WpG.gw tabOK 6 87 rfl (wrk (x := k + 1) (by omega) (by omega)) ?_
     refine WpG.g tabOK 3 rfl ?_
     refine WpG.wk (ih3 (k + 1) ((n3 + 1) + ((nth ((nth f.blocks i).ops) k).args.length : Int)) ?_ ?_) rfl
     ·dsimp only
      omega
     clear ih1 ih2 ih3
     exact ⟨by omega, by omega, by omega, by omega, fun h => by have h5 := k4 (by omega); rw [sum_step k0 q82] at h5; have eb : opTot (nth (nth f.blocks i).ops k) = 1 + ((nth (nth f.blocks i).ops k).args.length : Int) := rfl; omega⟩
    refine WpG.gw tabOK 6 20 rfl (wrk (x := i + 1) (by omega) (by omega)) ?_
    refine WpG.g tabOK 3 rfl ?_
    refine WpG.wk (ih1 (i + 1) n3 ?_ ?_) rfl
    ·dsimp only
     omega
    clear ih1 ih2 ih3
    exact ⟨by omega, by omega, by omega, by omega, fun h => by first | (exfalso; omega) | (have h5 := k4 (by omega); rw [sum_end q82] at h5; omega)⟩
   refine WpG.gw tabOK 10 20 rfl (wrk (x := i + 1) (by omega) (by omega)) ?_
   refine WpG.g tabOK 3 rfl ?_
   refine WpG.wk (ih1 (i + 1) n3 ?_ ?_) rfl
   ·dsimp only
    omega
   clear ih1 ih2 ih3
   exact ⟨by omega, by omega, by omega, by omega, fun h => by first | (exfalso; omega) | (have h5 := k4 (by omega); rw [sum_end q82] at h5; omega)⟩
  refine WpG.g tabOK 8 rfl ?_
  exact WpG.ret tabOK (L' := []) (.tmp rfl .nil) (.cons _ .slnil) ⟨_, rfl, fun h => by first | (exfalso; have h6 := of_decide_eq_true h; omega) | (have h6 := of_decide_eq_true h; have h5 := i4 (by omega); rw [sum_end q15] at h5; omega), rfl⟩
 refine WpG.g tabOK 12 rfl ?_
 exact WpG.ret tabOK (L' := []) (.tmp rfl .nil) (.cons _ .slnil) ⟨_, rfl, fun h => by first | (exfalso; have h6 := of_decide_eq_true h; omega) | (have h6 := of_decide_eq_true h; have h5 := i4 (by omega); rw [sum_end q15] at h5; omega), rfl⟩
theorem Small_calls {H : Hp} {f : FuncD} {A_f_0 A_f_2 : Option Addr} {c_f_0 c_f_2 : Nat} (u_f_0 : f.params.length ≤ c_f_0) (r_f_0 : RdS H A_f_0 f.params) (u_f_2 : f.blocks.length ≤ c_f_2) (r_f_2 : RdS H A_f_2 f.blocks) (k_f_0 : I64 f.ret) : CallG Tryz.prog 9 [.agg #[.slice A_f_0 f.params.length c_f_0, .int .i64 f.ret, .slice A_f_2 f.blocks.length c_f_2]] H [] (fun v H' L' => ∃ b, v = .bool b ∧ (b = true → totalF f ≤ 20000) ∧ L' = []) := by
 have rd_f' : Rdc.rd H [.slice A_f_0 f.params.length c_f_0, .int .i64 f.ret, .slice A_f_2 f.blocks.length c_f_2] f := ⟨_, _, _, _, rfl, u_f_0, r_f_0, u_f_2, r_f_2, k_f_0⟩
 have bs := r_f_2.1; have bsp := r_f_0.1
 refine CallG.of Tryz.func9 rfl rfl rfl fun w0 => ?_
 refine WpG.g tabOK 2 rfl ?_
 refine WpG.box rfl rfl rfl rfl rfl (fun b1 => ?_)
 refine WpG.g tabOK 13 rfl ?_
 refine WpG.wk (WpG.ind2 (fun (i : Int) (n : Int) => ⟨(f.blocks.length - i).toNat, [(1, .pointer (some ⟨b1, 0, none⟩)), (3, .int .i64 n), (4, .int .i64 i)], H, [Chunk.box b1 [.slice A_f_0 f.params.length c_f_0, .int .i64 f.ret, .slice A_f_2 f.blocks.length c_f_2] 25], 0 ≤ i ∧ i ≤ f.blocks.length⟩) ?_ 0 0 ⟨by omega, by omega⟩) rfl
 intro i n inv ih1
 obtain ⟨i0, i1⟩ := inv
 refine WpG.g tabOK 5 rfl ?_
 refine WpG.y rfl rfl rfl rfl (RunY.loadBox (ci := 0) tabOK rfl rfl rfl rfl) ?_
 refine WpG.g tabOK 3 rfl ?_
 refine WpG.caseD (t := 9) rfl (fun q9 => ?_) (fun q9 => ?_)
 ·refine WpG.g tabOK 4 rfl ?_
  refine WpG.draw 19 [Chunk.box b1 [.slice A_f_0 f.params.length c_f_0, .int .i64 f.ret, .slice A_f_2 f.blocks.length c_f_2] 25] mixed (by kernel_rfl) ?_
  refine WpD.g (listed' := lst 19 5143) tabOK [0, 1, 2, 4, 10, 12] (by kernel_rfl) rfl hlr hlr (.refl _) ?_
  refine WpD.y (i := 3) (fuel := 12) (listed' := lst 19 5151) (by kernel_rfl) rfl rfl rfl rfl hlr hlr (.refl _) (RunY.loadBox (ci := 0) tabOK rfl rfl rfl rfl) ?_
  refine WpD.indexR (i := 5) (fuel := 11) (listed' := lst 19 5183) tabOK (by kernel_rfl) rfl rfl rfl rfl rfl rfl rfl rfl rfl hlr hlr (.refl _) r_f_2 (by omega) (by omega) ?_
  rintro x2 hx2 b2 o2 cs2 rd2 hc2
  have rd2' := rd2; obtain ⟨A2_0, c2_0, A2_1, c2_1, A2_4, c2_4, rfl, u2_0, r2_0, u2_1, r2_1, u2_4, r2_4, k2_0, k2_1⟩ := rd2
  have bz2_0 := r2_0.1
  have bz2_1 := r2_1.1
  have bz2_4 := r2_4.1
  obtain rfl : x2 = (nth f.blocks i) := hx2
  refine WpD.g (listed' := lst 19 5247) tabOK [6] (by kernel_rfl) rfl hlr hlr (.refl _) ?_
  refine WpD.y (i := 7) (fuel := 9) (listed' := lst 19 5375) (by kernel_rfl) rfl rfl rfl rfl hlr hlr (.refl _) (RunY.loadH tabOK (hc2.sub 1 1) hlr rfl rfl rfl rfl) ?_
  refine WpD.g (listed' := lst 19 6143) tabOK [8, 9] (by kernel_rfl) rfl hlr hlr (.refl _) ?_
  refine WpD.y (i := 11) (fuel := 6) (listed' := lst 19 8191) (by kernel_rfl) rfl rfl rfl rfl hlr hlr (.refl _) (RunY.loadBox (ci := 0) tabOK rfl rfl rfl rfl) ?_
  refine WpD.indexR (i := 13) (fuel := 5) (listed' := lst 19 16383) tabOK (by kernel_rfl) rfl rfl rfl rfl rfl rfl rfl rfl rfl hlr hlr (.refl _) r_f_2 (by omega) (by omega) ?_
  rintro x3 hx3 b3 o3 cs3 rd3 hc3
  have rd3' := rd3; obtain ⟨A3_0, c3_0, A3_1, c3_1, A3_4, c3_4, rfl, u3_0, r3_0, u3_1, r3_1, u3_4, r3_4, k3_0, k3_1⟩ := rd3
  have bz3_0 := r3_0.1
  have bz3_1 := r3_1.1
  have bz3_4 := r3_4.1
  obtain rfl : x3 = (nth f.blocks i) := hx3
  refine WpD.g (listed' := lst 19 32767) tabOK [14] (by kernel_rfl) rfl hlr hlr (.refl _) ?_
  refine WpD.y (i := 15) (fuel := 3) (listed' := lst 19 65535) (by kernel_rfl) rfl rfl rfl rfl hlr hlr (.refl _) (RunY.loadH tabOK (hc3.sub 0 1) hlr rfl rfl rfl rfl) ?_
  refine WpD.g (listed' := lst 19 524287) tabOK [16, 17, 18] (by kernel_rfl) rfl hlr hlr (.refl _) ?_
  refine WpD.done (by kernel_rfl) ?_
  refine WpG.gw tabOK 4 11 rfl (wrk (x := i + 1) (by omega) (by omega)) ?_
  refine WpG.g tabOK 3 rfl ?_
  refine WpG.wk (ih1 (i + 1) (IntKind.i64.wrap ((IntKind.i64.wrap ((IntKind.i64.wrap (n + 1)) + ((nth f.blocks i).ops.length : Int))) + ((nth f.blocks i).phis.length : Int))) ?_ ?_) rfl
  ·dsimp only
   omega
  clear ih1
  exact ⟨by omega, by omega⟩
 refine WpG.g tabOK 4 rfl ?_
 refine WpG.y rfl rfl rfl rfl (RunY.loadBox (ci := 0) tabOK rfl rfl rfl rfl) ?_
 refine WpG.call0 rfl rfl rfl rfl rfl rfl (Small4_calls u_f_0 (r_f_0.mono hlr) u_f_2 (r_f_2.mono hlr) k_f_0) ?_
 rintro _ H4 _ hH4 ⟨bs4, rfl, hs4, rfl⟩
 refine WpG.g tabOK 1 rfl ?_
 refine WpG.caseB (t := 32) rfl (fun q32 => ?_) (fun q32 => ?_)
 ·refine WpG.g tabOK 1 rfl ?_
  refine WpG.y rfl rfl rfl rfl (RunY.loadBox (ci := 0) tabOK rfl rfl rfl rfl) ?_
  refine WpG.g tabOK 3 rfl ?_
  refine WpG.caseD (t := 37) rfl (fun q37 => ?_) (fun q37 => ?_)
  ·refine WpG.g tabOK 4 rfl ?_
   refine WpG.caseD (t := 41) rfl (fun q41 => ?_) (fun q41 => ?_)
   ·refine WpG.g tabOK 12 rfl ?_
    exact WpG.ret tabOK (L' := []) (.tmp rfl .nil) (.cons _ .slnil) ⟨_, rfl, fun _ => hs4 q32, rfl⟩
   refine WpG.g tabOK 1 rfl ?_
   refine WpG.y rfl rfl rfl rfl (RunY.loadBox (ci := 0) tabOK rfl rfl rfl rfl) ?_
   refine WpG.g tabOK 4 rfl ?_
   refine WpG.caseD (t := 47) rfl (fun q47 => ?_) (fun q47 => ?_)
   ·refine WpG.g tabOK 6 rfl ?_
    exact WpG.ret tabOK (L' := []) (.tmp rfl .nil) (.cons _ .slnil) ⟨_, rfl, fun _ => hs4 q32, rfl⟩
   refine WpG.g tabOK 6 rfl ?_
   exact WpG.ret tabOK (L' := []) (.tmp rfl .nil) (.cons _ .slnil) ⟨_, rfl, fun _ => hs4 q32, rfl⟩
  refine WpG.g tabOK 5 rfl ?_
  refine WpG.y rfl rfl rfl rfl (RunY.loadBox (ci := 0) tabOK rfl rfl rfl rfl) ?_
  refine WpG.g tabOK 4 rfl ?_
  refine WpG.caseD (t := 47) rfl (fun q47 => ?_) (fun q47 => ?_)
  ·refine WpG.g tabOK 6 rfl ?_
   exact WpG.ret tabOK (L' := []) (.tmp rfl .nil) (.cons _ .slnil) ⟨_, rfl, fun _ => hs4 q32, rfl⟩
  refine WpG.g tabOK 6 rfl ?_
  exact WpG.ret tabOK (L' := []) (.tmp rfl .nil) (.cons _ .slnil) ⟨_, rfl, fun _ => hs4 q32, rfl⟩
 refine WpG.g tabOK 21 rfl ?_
 exact WpG.ret tabOK (L' := []) (.tmp rfl .nil) (.cons _ .slnil) ⟨_, rfl, (fun h => by cases h), rfl⟩
end Go.Proofs.YtakameggkkjcpaaGreat
namespace Go.Proofs.YtakameggkkjcpaaGreat
open Go Go.RowKit
section
variable {P : Program} {fn : Func} {w0 : World} {H0 : Hp} {X : List Nat} {F : Fk} {H : Hp} {L : List Chunk} {dst : Option Nat} {ty : TypeId} {pos : String} {af : Array Edge} {g : Option (Nat × Bool)}
theorem RunY.rem {x y : Operand} {tx ty' : TypeId} {kk : IntKind} {u n : Int} (hx : evk F x = some (.int kk u)) (hy : evk F y = some (.int kk n)) (h0 : n ≠ 0) :
    RunY P fn w0 H0 X F H L ⟨dst, .binOp .rem tx x y ty', ty, pos, af, g⟩ (.int kk (u.tmod n)) := fun a w ha _ => by
  simp [execOp, ha.eval hx, ha.eval hy, eqGuard, binOp, Op.intDiv, h0]
end
section
variable {P : Program} {fn : Func} {w0 : World} {H0 : Hp} {X : List Nat} {k k' : List Item} {F : Fk} {H : Hp} {L : List Chunk} {R : Ending → World → Prop}
theorem WpG.weak {G : Fk} (h : WpG P fn w0 H0 X k G H L R) (hk : Known F G) : WpG P fn w0 H0 X k F H L R := WpG.weaken (Known.all hk) h
theorem WpG.joinP (Q : Prop) {G : Fk} {L' : List Chunk} (h : (Q → WpG P fn w0 H0 X k' G H L' R) → WpG P fn w0 H0 X k F H L R) (n : Q → WpG P fn w0 H0 X k' G H L' R) : WpG P fn w0 H0 X k F H L R := h n
theorem WpG.join {G : Fk} (h : WpG P fn w0 H0 X k' G H L R → WpG P fn w0 H0 X k F H L R) (n : WpG P fn w0 H0 X k' G H L R) : WpG P fn w0 H0 X k F H L R := h n
end
theorem shl_one {b : Int} (hb : mayW b = true) (h : b ≠ 64) : IntKind.u64.wrap (1 * 2 ^ (min b.toNat 64)) = 2 ^ b.toNat := by
  rcases mayW_cases hb with rfl | rfl | rfl | rfl | rfl <;> first | rfl | exact absurd rfl h
theorem shl_ne {b : Int} (hb : mayW b = true) (h : b ≠ 64) : IntKind.u64.wrap (1 * 2 ^ (min b.toNat 64)) ≠ 0 := by
  rcases mayW_cases hb with rfl | rfl | rfl | rfl | rfl <;> first | decide | exact absurd rfl h
theorem cut_rem {v b : Int} (hb : mayW b = true) (h : b ≠ 64) (h0 : 0 ≤ v) : v.tmod (IntKind.u64.wrap (1 * 2 ^ (min b.toNat 64))) = cutD v b := by
  rw [shl_one hb h, Int.tmod_eq_emod_of_nonneg h0]; unfold cutD; rw [if_pos hb]
theorem cut_64 {v : Int} (h0 : 0 ≤ v) (h1 : v ≤ 18446744073709551615) : v = cutD v 64 := by
  unfold cutD; rw [if_pos (by decide)]; show v = v % 18446744073709551616; omega
theorem bq {a b : Bool} (h : a = b) : some (Value.bool a) = some (Value.bool b) := h ▸ rfl
theorem nb {α : Type} [BEq α] [LawfulBEq α] {a b : α} (h : a ≠ b) : (a == b) = false := beq_eq_false_iff_ne.2 h
theorem nt {b : Bool} (h : b = false) : ¬ b = true := by rw [h]; exact Bool.false_ne_true
def argsR (k n : Int) : Int :=
  if k = 0 then 0 else if (k == 1 || (k == 2 || (k == 3 || (k == 4 || (k == 5 || (k == 6 || (k == 7 || (k == 8 || (k == 9 || (k == 10 || (k == 11 || (k == 12 || k == 17)))))))))))) = true then 2 else
  if (k == 13 || (k == 18 || k == 19)) = true then 3 else if (k == 14 || (k == 15 || (k == 16 || k == 22))) = true then 1 else if k = 20 then 4 else if k = 21 then n else -1
theorem shape_r {b n : Int} (h : mayW b = true) (h1 : n ≠ 1) : ((n == 2 || n == 4 || n == 8 || n == 16) && decide (b > 1) && decide (b * n ≤ 128)) = shapeD b n := by
  have hb := mayW_cases h
  have e : (b ≥ 8) = (b > 1) := propext ⟨fun h => by omega, fun h => by omega⟩
  unfold shapeD; rw [h, nb h1]; simp only [e, Bool.true_and, Bool.false_or, Bool.and_assoc]
def fit1 (o : OpD) : Bool := o.kind == 4 || decide (o.kind ≥ 10) && decide (o.kind ≤ 12) || o.kind == 14 || o.kind == 15 || decide (o.kind ≥ 18) && decide (o.kind ≤ 20)
def fit2 (o : OpD) : Bool := decide (o.kind ≥ 16) && decide (o.kind ≤ 19) && decide (o.bits < 8) || decide (o.kind ≥ 21) && decide (o.lanes < 2)
def fitV (o : OpD) : Bool :=
  if o.kind = 0 then cutD o.imm o.bits == o.imm else
  if o.kind = 14 then decide (o.imm < o.bits) && mayW o.imm else
  if o.kind = 15 then decide (o.imm > o.bits) && decide (o.imm ≤ 64) && mayW o.imm else
  if o.kind = 22 then decide (o.imm < o.lanes) else o.imm == 0
def fitsR (o : OpD) : Bool := if fit1 o = true ∧ o.lanes ≠ 1 then false else if fit2 o = true then false else fitV o
theorem fits_a {o : OpD} (h1 : fit1 o = true) (h2 : o.lanes ≠ 1) : false = fitsR o := by unfold fitsR; rw [if_pos ⟨h1, h2⟩]
theorem fits_b {o : OpD} (h1 : fit1 o = false ∨ o.lanes = 1) (h2 : fit2 o = true) : false = fitsR o := by
  unfold fitsR; rw [if_neg (fun h => h1.elim (fun a => by rw [h.1] at a; cases a) h.2), if_pos h2]
theorem fits_c {o : OpD} {b : Bool} (h1 : fit1 o = false ∨ o.lanes = 1) (h2 : fit2 o = false) (h3 : fitV o = b) : b = fitsR o := by
  unfold fitsR; rw [if_neg (fun h => h1.elim (fun a => by rw [h.1] at a; cases a) h.2), if_neg (by simp [h2]), h3]
def mayR (o : OpD) : Bool := shapeD o.bits o.lanes && (argsR o.kind o.lanes == o.args.length && (fitsR o && (o.args.all valueOK && (if storesK o.kind then o.dst == 0 else valueOK o.dst))))
theorem takesOK_no {o : OpD} (h : o.kind < 0 ∨ 22 < o.kind) : takesOK o = false := by
  unfold takesOK
  simp only
  rw [if_neg (by omega), if_neg (by omega), if_neg (by omega), if_neg (by omega), if_neg (by omega), if_neg (by omega), if_neg (by omega), if_neg (by omega), if_neg (by omega), if_neg (by omega), if_neg (by omega)]
theorem kind_cases {k : Int} (h : ¬ (k < 0 ∨ 22 < k)) : k = 0 ∨ k = 1 ∨ k = 2 ∨ k = 3 ∨ k = 4 ∨ k = 5 ∨ k = 6 ∨ k = 7 ∨ k = 8 ∨ k = 9 ∨ k = 10 ∨ k = 11 ∨ k = 12 ∨ k = 13 ∨ k = 14 ∨ k = 15 ∨ k = 16 ∨ k = 17 ∨ k = 18 ∨ k = 19 ∨ k = 20 ∨ k = 21 ∨ k = 22 := by omega
theorem args_eq {o : OpD} (hs : shapeD o.bits o.lanes = true) (hk : ¬ (o.kind < 0 ∨ 22 < o.kind)) : ((takesD o).length : Int) = argsR o.kind o.lanes := by
  have hl := lanes_of hs
  have h0 : ((o.lanes.toNat : Nat) : Int) = o.lanes := by omega
  rcases kind_cases hk with h | h | h | h | h | h | h | h | h | h | h | h | h | h | h | h | h | h | h | h | h | h | h <;> simp [takesD, argsR, h, h0]
theorem fits_eq {o : OpD} (hs : shapeD o.bits o.lanes = true) (hk : ¬ (o.kind < 0 ∨ 22 < o.kind)) : takesOK o = fitsR o := by
  have hl := lanes_of hs
  have hb := bits_of hs
  have e1 : (o.lanes == 1) = decide (o.lanes = 1) := rfl
  have e2 : (o.lanes = 1) = (o.lanes < 2) := propext ⟨fun h => by omega, fun h => by omega⟩
  have e3 : (o.bits ≥ 8) = ¬ (o.bits < 8) := propext ⟨fun h => by omega, fun h => by omega⟩
  rcases kind_cases hk with h | h | h | h | h | h | h | h | h | h | h | h | h | h | h | h | h | h | h | h | h | h | h <;>
    by_cases g1 : o.lanes < 2 <;> by_cases g2 : o.bits < 8 <;> simp [takesOK, fitsR, fit1, fit2, fitV, h, e1, e2, e3, g1, g2, Bool.and_assoc]
theorem mayR_eq (o : OpD) : mayR o = mayO o := by
  unfold mayR mayO
  by_cases hs : shapeD o.bits o.lanes = true
  · by_cases hk : o.kind < 0 ∨ 22 < o.kind
    · rw [takesOK_no hk]
      have : argsR o.kind o.lanes = -1 := by
        unfold argsR
        rw [if_neg (by omega), if_neg (by simp; omega), if_neg (by simp; omega), if_neg (by simp; omega), if_neg (by omega), if_neg (by omega)]
      have e : (argsR o.kind o.lanes == (o.args.length : Int)) = false := by rw [this]; simp
      rw [e]; simp
    · rw [args_eq hs hk, fits_eq hs hk]
      cases shapeD o.bits o.lanes <;> cases fitsR o <;> cases (argsR o.kind o.lanes == (o.args.length : Int)) <;> cases (o.args.all valueOK) <;> cases (if storesK o.kind = true then o.dst == 0 else valueOK o.dst) <;> rfl
  · have : shapeD o.bits o.lanes = false := by simpa using hs
    rw [this]; rfl
theorem mayR_st {o : OpD} (h1 : shapeD o.bits o.lanes = true) (h2 : argsR o.kind o.lanes = o.args.length) (h3 : fitsR o = true) (h4 : o.args.all valueOK = true) (h5 : (o.kind == 17 || o.kind == 19) = true) : (o.dst == 0) = mayO o := by
  rw [← mayR_eq]; unfold mayR; rw [h1, h2, h3, h4, if_pos (show storesK o.kind = true from h5)]; simp
theorem mayR_ns {o : OpD} (h1 : shapeD o.bits o.lanes = true) (h2 : argsR o.kind o.lanes = o.args.length) (h3 : fitsR o = true) (h4 : o.args.all valueOK = true) (h5 : (o.kind == 17 || o.kind == 19) = false) : valueOK o.dst = mayO o := by
  have : ¬ storesK o.kind = true := by unfold storesK; rw [h5]; simp
  rw [← mayR_eq]; unfold mayR; rw [h1, h2, h3, h4, if_neg this]; simp
def takeAt (o : OpD) (i : Int) : Int × Int :=
  if (o.kind == 13 || o.kind == 20) = true then (if i = 0 then (1, 1) else (o.bits, o.lanes)) else if (o.kind == 14 || o.kind == 15) = true then (o.imm, 1) else
  if (o.kind == 16 || o.kind == 17) = true then (if i = 0 then (64, 1) else (o.bits, o.lanes)) else
  if (o.kind == 18 || o.kind == 19) = true then (if i = 1 then (64, 1) else if i = 0 then (1, 1) else (o.bits, o.lanes)) else if o.kind = 21 then (o.bits, 1) else (o.bits, o.lanes)
theorem gives_a {o : OpD} (h : (!mayO o || o.kind == 17 || o.kind == 19) = true) : givesF o = (0, 0) := by
  unfold givesF; rw [if_pos (by rw [← h]; unfold storesK; rw [Bool.or_assoc])]
theorem gives_n {o : OpD} (h : (!mayO o || o.kind == 17 || o.kind == 19) = false) : givesF o = if 10 ≤ o.kind ∧ o.kind ≤ 12 then (1, 1) else if o.kind = 22 then (o.bits, 1) else (o.bits, o.lanes) := by
  unfold givesF; rw [if_neg (nt (by rw [← h]; unfold storesK; rw [Bool.or_assoc]))]
theorem gives_b {o : OpD} (h : (!mayO o || o.kind == 17 || o.kind == 19) = false) (h2 : (decide (o.kind ≥ 10) && decide (o.kind ≤ 12)) = true) : givesF o = (1, 1) := by
  rw [gives_n h, if_pos (by simpa using h2)]
theorem gives_c {o : OpD} (h : (!mayO o || o.kind == 17 || o.kind == 19) = false) (h2 : (decide (o.kind ≥ 10) && decide (o.kind ≤ 12)) = false) (h3 : o.kind = 22) : givesF o = (o.bits, 1) := by
  rw [gives_n h, if_neg (by omega), if_pos h3]
theorem gives_d {o : OpD} (h : (!mayO o || o.kind == 17 || o.kind == 19) = false) (h2 : (decide (o.kind ≥ 10) && decide (o.kind ≤ 12)) = false) (h3 : o.kind ≠ 22) : givesF o = (o.bits, o.lanes) := by
  rw [gives_n h, if_neg (by simp at h2; omega), if_neg h3]
theorem may_kind {o : OpD} (h : mayO o = true) : ¬ (o.kind < 0 ∨ 22 < o.kind) := fun hk => by
  unfold mayO at h; rw [takesOK_no hk] at h; simp at h
theorem may_len {o : OpD} (h : mayO o = true) : (takesD o).length = o.args.length := by
  simp only [mayO, Bool.and_eq_true, beq_iff_eq] at h
  omega
theorem may_le {o : OpD} (h : mayO o = true) : o.args.length ≤ 16 := by
  have h1 := args_eq (may_shape h) (may_kind h)
  have h2 := may_len h
  have h3 := lanes_of (may_shape h)
  have h4 : argsR o.kind o.lanes ≤ 16 := by
    unfold argsR
    repeat' split
    all_goals omega
  omega
theorem may_imm {o : OpD} (h : mayO o = true) (hk : o.kind = 14 ∨ o.kind = 15) : o.imm ≤ 64 := by
  have hb := bits_of (may_shape h)
  simp only [mayO, Bool.and_eq_true] at h
  have h2 := h.2.1
  rcases hk with hk | hk <;> simp [takesOK, hk] at h2 <;> omega
theorem may_imm2 {o : OpD} (h : mayO o = true) : ¬ (o.kind = 14 ∨ o.kind = 15) ∨ o.imm ≤ 64 := by
  by_cases hk : o.kind = 14 ∨ o.kind = 15
  · exact .inr (may_imm h hk)
  · exact .inl hk
theorem take_at {o : OpD} (h : mayO o = true) {i : Int} (h0 : 0 ≤ i) (h1 : i < o.args.length) : nth (takesD o) i = takeAt o i := by
  have hl := may_len h
  have hi := fun hk => may_imm h hk
  obtain ⟨n, rfl⟩ := Int.eq_ofNat_of_zero_le h0
  have h1' : n < (takesD o).length := by omega
  have key : (takesD o)[n]? = some (takeAt o n) := by
    rcases kind_cases (may_kind h) with k | k | k | k | k | k | k | k | k | k | k | k | k | k | k | k | k | k | k | k | k | k | k
    all_goals first
      | (simp [takesD, k] at h1'; done)
      | (have e : takesD o = List.replicate o.lanes.toNat (o.bits, 1) := by simp [takesD, k]
         rw [e] at h1' ⊢; rw [List.getElem?_replicate, if_pos (by simpa using h1')]; simp [takeAt, k]; done)
      | (have h8 := hi (.inl k); have h9 : ¬ 128 < o.imm := by omega
         simp [takesD, takeAt, k, h9] at h1' ⊢; subst h1'; rfl)
      | (have h8 := hi (.inr k); have h9 : ¬ 128 < o.imm := by omega
         simp [takesD, takeAt, k, h9] at h1' ⊢; subst h1'; rfl)
      | (simp [takesD, takeAt, k] at h1' ⊢; omega)
      | (rcases n with _ | _ | _ | _ | n <;> first | (simp [takesD, takeAt, k]; done) | (simp [takesD, takeAt, k]; omega) | (simp [takesD, k] at h1'; done) | (simp [takesD, k] at h1'; omega))
  unfold nth
  rw [show ((n : Int)).toNat = n from rfl, List.getD_eq_getElem?_getD, key]; rfl
theorem AllP_takes {o : OpD} (h1 : I64 o.bits) (h2 : I64 o.lanes) (h3 : U64 o.imm) : AllP (takesD o) := by
  have e1 : I64 1 := ⟨by decide, by decide⟩
  have e64 : I64 64 := ⟨by decide, by decide⟩
  unfold takesD
  simp only
  repeat' split
  all_goals first | exact trivial | exact AllP_replicate ⟨h1, e1⟩ _ | (simp only [AllP]; exact ⟨⟨h1, h2⟩, trivial⟩) | (simp only [AllP]; exact ⟨⟨h1, h2⟩, ⟨h1, h2⟩, trivial⟩) | (simp only [AllP]; exact ⟨⟨e1, e1⟩, ⟨h1, h2⟩, ⟨h1, h2⟩, trivial⟩) | (simp only [AllP]; exact ⟨⟨e64, e1⟩, ⟨h1, h2⟩, trivial⟩) | (simp only [AllP]; exact ⟨⟨e64, e1⟩, trivial⟩) | (simp only [AllP]; exact ⟨⟨e1, e1⟩, ⟨e64, e1⟩, ⟨h1, h2⟩, trivial⟩) | (simp only [AllP]; exact ⟨⟨e1, e1⟩, ⟨h1, h2⟩, ⟨h1, h2⟩, ⟨h1, h2⟩, trivial⟩) | (simp only [AllP]; exact ⟨⟨by have := h3.1; constructor <;> omega, e1⟩, trivial⟩)
theorem flatP_snoc (l : List (Int × Int)) (x : Int × Int) : flatP (l ++ [x]) = flatP l ++ [.int .i64 x.1, .int .i64 x.2] := by simp [flatP]
theorem tk_back {o : OpD} {i : Int} {n5 : Nat} {ps : List (Int × Int)} {x : Int × Int} (h : mayO o = true) (i0 : 0 ≤ i) (i3 : (n5 : Int) = i) (i4 : ps = (takesD o).take i.toNat) (q : i < (o.args.length : Int)) (hx : takeAt o i = x) :
    0 ≤ i + 1 ∧ i + 1 ≤ (o.args.length : Int) ∧ ((n5 + 1 : Nat) : Int) = i + 1 ∧ ps ++ [x] = (takesD o).take (i + 1).toNat := by
  refine ⟨by omega, by omega, by omega, ?_⟩
  rw [take_snoc_nth i0 (by rw [may_len h]; omega), ← i4, take_at h i0 q, hx]
end Go.Proofs.YtakameggkkjcpaaGreat
set_option maxRecDepth 4000
namespace Go.Proofs.YtakameggkkjcpaaGreat
open Go Go.RowKit
theorem rMayW_calls {H : Hp} (bits : Int) : CallG Tryz.prog 80 [.int .i64 bits] H [] (fun v _ L' => v = .bool (mayW bits) ∧ L' = []) := by
 refine CallG.of Tryz.func80 rfl rfl rfl fun w0 => ?_
 refine WpG.g tabOK 5 rfl ?_
 apply WpG.join (G := [(2, .bool (((((bits == 1) || (bits == 8)) || (bits == 16)) || (bits == 32)) || (bits == 64)))])
 ·intro nx1
  refine WpG.g tabOK 1 rfl ?_
  refine WpG.g tabOK 3 rfl ?_
  refine WpG.caseE (t := 5) rfl (fun q5 => ?_) (fun q5 => ?_)
  ·refine WpG.g tabOK 17 rfl ?_
   exact nx1.weak ⟨bq (by simp [q5]), trivial⟩
  refine WpG.g tabOK 4 rfl ?_
  refine WpG.caseE (t := 9) rfl (fun q9 => ?_) (fun q9 => ?_)
  ·refine WpG.g tabOK 13 rfl ?_
   exact nx1.weak ⟨bq (by simp [q5, nb q5, q9]), trivial⟩
  refine WpG.g tabOK 4 rfl ?_
  refine WpG.caseE (t := 13) rfl (fun q13 => ?_) (fun q13 => ?_)
  ·refine WpG.g tabOK 9 rfl ?_
   exact nx1.weak ⟨bq (by simp [q5, nb q5, q9, nb q9, q13]), trivial⟩
  refine WpG.g tabOK 4 rfl ?_
  refine WpG.caseE (t := 17) rfl (fun q17 => ?_) (fun q17 => ?_)
  ·refine WpG.g tabOK 5 rfl ?_
   exact nx1.weak ⟨bq (by simp [q5, nb q5, q9, nb q9, q13, nb q13, q17]), trivial⟩
  refine WpG.g tabOK 5 rfl ?_
  exact nx1.weak ⟨bq (by simp [q5, nb q5, q9, nb q9, q13, nb q13, q17, nb q17]), trivial⟩
 exact WpG.ret tabOK (L' := []) (.tmp rfl .nil) .slnil ⟨congrArg Value.bool (by simp_all [mayW]), rfl⟩
theorem rCut_calls {H : Hp} (v bits : Int) (hv : U64 v) : CallG Tryz.prog 127 [.int .u64 v, .int .i64 bits] H [] (fun u _ L' => u = .int .u64 (cutD v bits) ∧ L' = []) := by
 have hv0 := hv.1; have hv1 := hv.2
 refine CallG.of Tryz.func127 rfl rfl rfl fun w0 => ?_
 refine WpG.g tabOK 8 rfl ?_
 refine WpG.callS rfl rfl rfl rfl rfl rfl hlr (rMayW_calls bits) ?_
 refine WpG.g tabOK 2 rfl ?_
 refine WpG.caseBn (t := 7) rfl (fun q7 => ?_) (fun q7 => ?_)
 ·refine WpG.g tabOK 5 rfl ?_
  exact WpG.ret tabOK (L' := []) (.tmp rfl .nil) .slnil ⟨congrArg (Value.int .u64) (by unfold cutD; rw [if_neg (by simp [q7])]), rfl⟩
 have hc := mayW_cases q7
 refine WpG.g tabOK 8 rfl ?_
 refine WpG.caseE (t := 9) rfl (fun q9 => ?_) (fun q9 => ?_)
 ·refine WpG.g tabOK 6 rfl ?_
  exact WpG.ret tabOK (L' := []) (.tmp rfl .nil) .slnil ⟨congrArg (Value.int .u64) (by rw [q9]; exact cut_64 hv0 hv1), rfl⟩
 refine WpG.gw tabOK 7 13 rfl (wrku (x := bits) (by omega) (by omega)) ?_
 refine WpG.y rfl rfl rfl rfl (RunY.shl rfl rfl (by omega)) ?_
 refine WpG.y rfl rfl rfl rfl (RunY.rem rfl rfl (shl_ne q7 q9)) ?_
 refine WpG.g tabOK 2 rfl ?_
 exact WpG.ret tabOK (L' := []) (.tmp rfl .nil) .slnil ⟨congrArg (Value.int .u64) (cut_rem q7 q9 hv0), rfl⟩
theorem rInts_calls {H : Hp} {A A' : Option Addr} {c c' : Nat} {l m : List Int} (hl : RdS H A l) (hm : RdS H A' m) : CallG Tryz.prog 79 [.slice A l.length c, .slice A' m.length c'] H [] (fun v _ L' => v = .bool (eqL l m) ∧ L' = []) := by
 have bl := hl.1; have bm := hm.1
 refine CallG.of Tryz.func79 rfl rfl rfl fun w0 => ?_
 refine WpG.g tabOK 13 rfl ?_
 refine WpG.caseN (t := 10) rfl (fun q10 => ?_) (fun q10 => ?_)
 ·refine WpG.g tabOK 5 rfl ?_
  exact WpG.ret tabOK (L' := []) (.tmp rfl .nil) .slnil ⟨congrArg Value.bool (by exact (eqL_len (by omega)).symm), rfl⟩
 refine WpG.g tabOK 9 rfl ?_
 refine WpG.wk (WpG.ind1 (fun (i : Int) => ⟨(l.length - i).toNat, [(0, .slice A l.length c), (1, .slice A' m.length c'), (5, .int .i64 i)], H, [], 0 ≤ i ∧ i ≤ l.length ∧ eqL l m = eqL (l.drop i.toNat) (m.drop i.toNat)⟩) ?_ 0 ⟨by omega, by omega, rfl⟩) rfl
 intro i inv ih1
 obtain ⟨i0, i1, i2⟩ := inv
 refine WpG.g tabOK 8 rfl ?_
 refine WpG.caseD (t := 14) rfl (fun q14 => ?_) (fun q14 => ?_)
 ·refine WpG.g tabOK 5 rfl ?_
  refine WpG.draw 9 [] mixed (by kernel_rfl) ?_
  refine WpD.g (listed' := lst 9 51) tabOK [0, 1, 4, 5] (by kernel_rfl) rfl hlr hlr .slnil ?_
  refine WpD.indexR (i := 2) (fuel := 4) (listed' := lst 9 55) tabOK (by kernel_rfl) rfl rfl rfl rfl rfl rfl rfl rfl rfl hlr hlr .slnil hl (by omega) (by omega) ?_
  rintro x1 hx1 b1 o1 _ ⟨rfl, k1⟩ hc1
  refine WpD.y (i := 3) (fuel := 3) (listed' := lst 9 63) (by kernel_rfl) rfl rfl rfl rfl hlr hlr .slnil (RunY.loadH tabOK hc1 hlr rfl rfl rfl rfl) ?_
  refine WpD.indexR (i := 6) (fuel := 2) (listed' := lst 9 127) tabOK (by kernel_rfl) rfl rfl rfl rfl rfl rfl rfl rfl rfl hlr hlr .slnil hm (by omega) (by omega) ?_
  rintro x2 hx2 b2 o2 _ ⟨rfl, k2⟩ hc2
  refine WpD.y (i := 7) (fuel := 1) (listed' := lst 9 255) (by kernel_rfl) rfl rfl rfl rfl hlr hlr .slnil (RunY.loadH tabOK hc2 hlr rfl rfl rfl rfl) ?_
  refine WpD.g (listed' := lst 9 511) tabOK [8] (by kernel_rfl) rfl hlr hlr .slnil ?_
  refine WpD.done (by kernel_rfl) ?_
  refine WpG.caseN (t := 25) rfl (fun q25 => ?_) (fun q25 => ?_)
  ·refine WpG.g tabOK 5 rfl ?_
   exact WpG.ret tabOK (L' := []) (.tmp rfl .nil) .slnil ⟨congrArg Value.bool (by clear ih1; rw [i2, drop_nth i0 q14, drop_nth i0 (by omega), ← hx1, ← hx2]; simp only [eqL, beq_eq_false_iff_ne.2 q25, Bool.false_and]), rfl⟩
  refine WpG.gw tabOK 6 16 rfl (wrk (x := i + 1) (by omega) (by omega)) ?_
  refine WpG.g tabOK 3 rfl ?_
  refine WpG.wk (ih1 (i + 1) ?_ ?_) rfl
  ·dsimp only
   omega
  clear ih1
  refine ⟨by omega, by omega, ?_⟩
  rw [i2, drop_nth i0 q14, drop_nth i0 (by omega), ← hx1, ← hx2, toNat_succ i0]; simp only [eqL, q25, beq_self_eq_true, Bool.true_and]
 refine WpG.g tabOK 6 rfl ?_
 exact WpG.ret tabOK (L' := []) (.tmp rfl .nil) .slnil ⟨congrArg Value.bool (by clear ih1; rw [i2, drop_end i0 q14, drop_end i0 (by omega)]; rfl), rfl⟩
theorem rShape_calls {H : Hp} (b n : Int) : CallG Tryz.prog 101 [.int .i64 b, .int .i64 n] H [] (fun v _ L' => v = .bool (shapeD b n) ∧ L' = []) := by
 refine CallG.of Tryz.func101 rfl rfl rfl fun w0 => ?_
 refine WpG.g tabOK 8 rfl ?_
 refine WpG.callS rfl rfl rfl rfl rfl rfl hlr (rMayW_calls b) ?_
 refine WpG.g tabOK 2 rfl ?_
 refine WpG.caseBn (t := 7) rfl (fun q7 => ?_) (fun q7 => ?_)
 ·refine WpG.g tabOK 5 rfl ?_
  exact WpG.ret tabOK (L' := []) (.tmp rfl .nil) .slnil ⟨congrArg Value.bool (by simp [shapeD, q7]), rfl⟩
 refine WpG.g tabOK 8 rfl ?_
 refine WpG.caseE (t := 9) rfl (fun q9 => ?_) (fun q9 => ?_)
 ·refine WpG.g tabOK 5 rfl ?_
  exact WpG.ret tabOK (L' := []) (.tmp rfl .nil) .slnil ⟨congrArg Value.bool (by simp [shapeD, q7, q9]), rfl⟩
 refine WpG.g tabOK 3 rfl ?_
 apply WpG.join (G := [(4, .bool ((((((n == 2) || (n == 4)) || (n == 8)) || (n == 16)) && (decide (b > 1))) && (decide ((b * n) ≤ 128))))])
 ·intro nx1
  refine WpG.g tabOK 1 rfl ?_
  refine WpG.g tabOK 3 rfl ?_
  refine WpG.caseE (t := 12) rfl (fun q12 => ?_) (fun q12 => ?_)
  ·refine WpG.g tabOK 16 rfl ?_
   refine WpG.caseD (t := 28) rfl (fun q28 => ?_) (fun q28 => ?_)
   ·have hn : n = 2 ∨ n = 4 ∨ n = 8 ∨ n = 16 := by omega
    have hb := mayW_cases q7
    have h8 : 8 ≤ b := by omega
    have hm : 0 ≤ b * n ∧ b * n ≤ 1024 := by rcases mayW_cases q7 with h | h | h | h | h <;> rcases hn with k | k | k | k <;> rw [h, k] <;> omega
    refine WpG.gw tabOK 3 31 rfl (wrk (x := b * n) (by omega) (by omega)) ?_
    refine WpG.g tabOK 4 rfl ?_
    exact nx1.weak ⟨bq (by simp [q12, q28]), trivial⟩
   refine WpG.g tabOK 7 rfl ?_
   exact nx1.weak ⟨bq (by simp [q12, q28]), trivial⟩
  refine WpG.g tabOK 4 rfl ?_
  refine WpG.caseE (t := 16) rfl (fun q16 => ?_) (fun q16 => ?_)
  ·refine WpG.g tabOK 12 rfl ?_
   refine WpG.caseD (t := 28) rfl (fun q28 => ?_) (fun q28 => ?_)
   ·have hn : n = 2 ∨ n = 4 ∨ n = 8 ∨ n = 16 := by omega
    have hb := mayW_cases q7
    have h8 : 8 ≤ b := by omega
    have hm : 0 ≤ b * n ∧ b * n ≤ 1024 := by rcases mayW_cases q7 with h | h | h | h | h <;> rcases hn with k | k | k | k <;> rw [h, k] <;> omega
    refine WpG.gw tabOK 3 31 rfl (wrk (x := b * n) (by omega) (by omega)) ?_
    refine WpG.g tabOK 4 rfl ?_
    exact nx1.weak ⟨bq (by simp [q12, nb q12, q16, q28]), trivial⟩
   refine WpG.g tabOK 7 rfl ?_
   exact nx1.weak ⟨bq (by simp [q12, nb q12, q16, q28]), trivial⟩
  refine WpG.g tabOK 4 rfl ?_
  refine WpG.caseE (t := 20) rfl (fun q20 => ?_) (fun q20 => ?_)
  ·refine WpG.g tabOK 8 rfl ?_
   refine WpG.caseD (t := 28) rfl (fun q28 => ?_) (fun q28 => ?_)
   ·have hn : n = 2 ∨ n = 4 ∨ n = 8 ∨ n = 16 := by omega
    have hb := mayW_cases q7
    have h8 : 8 ≤ b := by omega
    have hm : 0 ≤ b * n ∧ b * n ≤ 1024 := by rcases mayW_cases q7 with h | h | h | h | h <;> rcases hn with k | k | k | k <;> rw [h, k] <;> omega
    refine WpG.gw tabOK 3 31 rfl (wrk (x := b * n) (by omega) (by omega)) ?_
    refine WpG.g tabOK 4 rfl ?_
    exact nx1.weak ⟨bq (by simp [q12, nb q12, q16, nb q16, q20, q28]), trivial⟩
   refine WpG.g tabOK 7 rfl ?_
   exact nx1.weak ⟨bq (by simp [q12, nb q12, q16, nb q16, q20, q28]), trivial⟩
  refine WpG.g tabOK 4 rfl ?_
  refine WpG.caseE (t := 24) rfl (fun q24 => ?_) (fun q24 => ?_)
  ·refine WpG.g tabOK 4 rfl ?_
   refine WpG.caseD (t := 28) rfl (fun q28 => ?_) (fun q28 => ?_)
   ·have hn : n = 2 ∨ n = 4 ∨ n = 8 ∨ n = 16 := by omega
    have hb := mayW_cases q7
    have h8 : 8 ≤ b := by omega
    have hm : 0 ≤ b * n ∧ b * n ≤ 1024 := by rcases mayW_cases q7 with h | h | h | h | h <;> rcases hn with k | k | k | k <;> rw [h, k] <;> omega
    refine WpG.gw tabOK 3 31 rfl (wrk (x := b * n) (by omega) (by omega)) ?_
    refine WpG.g tabOK 4 rfl ?_
    exact nx1.weak ⟨bq (by simp [q12, nb q12, q16, nb q16, q20, nb q20, q24, q28]), trivial⟩
   refine WpG.g tabOK 7 rfl ?_
   exact nx1.weak ⟨bq (by simp [q12, nb q12, q16, nb q16, q20, nb q20, q24, q28]), trivial⟩
  refine WpG.g tabOK 11 rfl ?_
  exact nx1.weak ⟨bq (by simp [q12, nb q12, q16, nb q16, q20, nb q20, q24, nb q24]), trivial⟩
 exact WpG.ret tabOK (L' := []) (.tmp rfl .nil) .slnil ⟨congrArg Value.bool (by exact shape_r q7 q9), rfl⟩
theorem rvalue_calls {H : Hp} (x : Int) : CallG Tryz.prog 46 [.int .i64 x] H [] (fun v _ L' => v = .bool (valueOK x) ∧ L' = []) := by
 refine CallG.of Tryz.func46 rfl rfl rfl fun w0 => ?_
 refine WpG.g tabOK 5 rfl ?_
 apply WpG.join (G := [(2, .bool ((decide (x > 0)) && (decide (x < 1024))))])
 ·intro nx1
  refine WpG.g tabOK 1 rfl ?_
  refine WpG.g tabOK 3 rfl ?_
  refine WpG.caseD (t := 5) rfl (fun q5 => ?_) (fun q5 => ?_)
  ·refine WpG.g tabOK 5 rfl ?_
   exact nx1.weak ⟨bq (by simp [q5]), trivial⟩
  refine WpG.g tabOK 5 rfl ?_
  exact nx1.weak ⟨bq (by simp [q5]), trivial⟩
 exact WpG.ret tabOK (L' := []) (.tmp rfl .nil) .slnil ⟨congrArg Value.bool (by rw [Bool.eq_iff_iff]; simp [valueOK]; omega), rfl⟩
theorem rArgs_calls {H : Hp} {o : OpD} {cs_o : List Value} (rd_o : Rdc.rd H cs_o o) : CallG Tryz.prog 102 [.agg cs_o.toArray] H [] (fun v _ L' => v = .int .i64 (argsR o.kind o.lanes) ∧ L' = []) := by
 have rd_o' := rd_o; obtain ⟨A_o_4, c_o_4, rfl, u_o_4, r_o_4, k_o_0, k_o_1, k_o_2, k_o_3, k_o_4⟩ := rd_o
 refine CallG.of Tryz.func102 rfl rfl rfl fun w0 => ?_
 refine WpG.g tabOK 2 rfl ?_
 refine WpG.box rfl rfl rfl rfl rfl (fun b1 => ?_)
 refine WpG.freezeBox (ci := 0) rfl (fun H2 hH2 hc2 => ?_)
 refine WpG.g tabOK 6 rfl ?_
 refine WpG.y rfl rfl rfl rfl (RunY.loadH tabOK (hc2.sub 0 1) hlr rfl rfl rfl rfl) ?_
 refine WpG.g tabOK 7 rfl ?_
 refine WpG.caseE (t := 5) rfl (fun q5 => ?_) (fun q5 => ?_)
 ·refine WpG.g tabOK 5 rfl ?_
  exact WpG.ret tabOK (L' := []) (.tmp rfl .nil) .slnil ⟨congrArg (Value.int .i64) (by unfold argsR; rw [if_pos q5]), rfl⟩
 refine WpG.g tabOK 7 rfl ?_
 apply WpG.join (G := [(1, .pointer (some ⟨b1, 0, none⟩)), (4, .int .i64 o.kind), (7, .bool ((o.kind == 1) || ((o.kind == 2) || ((o.kind == 3) || ((o.kind == 4) || ((o.kind == 5) || ((o.kind == 6) || ((o.kind == 7) || ((o.kind == 8) || ((o.kind == 9) || ((o.kind == 10) || ((o.kind == 11) || ((o.kind == 12) || (o.kind == 17))))))))))))))])
 ·intro nx3
  refine WpG.caseE (t := 7) rfl (fun q7 => ?_) (fun q7 => ?_)
  ·refine WpG.g tabOK 2 rfl ?_
   exact nx3.weak ⟨rfl, rfl, bq (by simp [q7]), trivial⟩
  refine WpG.g tabOK 6 rfl ?_
  refine WpG.caseE (t := 7) rfl (fun q7_2 => ?_) (fun q7_2 => ?_)
  ·refine WpG.g tabOK 2 rfl ?_
   exact nx3.weak ⟨rfl, rfl, bq (by simp [q7, nb q7, q7_2]), trivial⟩
  refine WpG.g tabOK 6 rfl ?_
  refine WpG.caseE (t := 7) rfl (fun q7_3 => ?_) (fun q7_3 => ?_)
  ·refine WpG.g tabOK 2 rfl ?_
   exact nx3.weak ⟨rfl, rfl, bq (by simp [q7, nb q7, q7_2, nb q7_2, q7_3]), trivial⟩
  refine WpG.g tabOK 6 rfl ?_
  refine WpG.caseE (t := 7) rfl (fun q7_4 => ?_) (fun q7_4 => ?_)
  ·refine WpG.g tabOK 2 rfl ?_
   exact nx3.weak ⟨rfl, rfl, bq (by simp [q7, nb q7, q7_2, nb q7_2, q7_3, nb q7_3, q7_4]), trivial⟩
  refine WpG.g tabOK 6 rfl ?_
  refine WpG.caseE (t := 7) rfl (fun q7_5 => ?_) (fun q7_5 => ?_)
  ·refine WpG.g tabOK 2 rfl ?_
   exact nx3.weak ⟨rfl, rfl, bq (by simp [q7, nb q7, q7_2, nb q7_2, q7_3, nb q7_3, q7_4, nb q7_4, q7_5]), trivial⟩
  refine WpG.g tabOK 6 rfl ?_
  refine WpG.caseE (t := 7) rfl (fun q7_6 => ?_) (fun q7_6 => ?_)
  ·refine WpG.g tabOK 2 rfl ?_
   exact nx3.weak ⟨rfl, rfl, bq (by simp [q7, nb q7, q7_2, nb q7_2, q7_3, nb q7_3, q7_4, nb q7_4, q7_5, nb q7_5, q7_6]), trivial⟩
  refine WpG.g tabOK 6 rfl ?_
  refine WpG.caseE (t := 7) rfl (fun q7_7 => ?_) (fun q7_7 => ?_)
  ·refine WpG.g tabOK 2 rfl ?_
   exact nx3.weak ⟨rfl, rfl, bq (by simp [q7, nb q7, q7_2, nb q7_2, q7_3, nb q7_3, q7_4, nb q7_4, q7_5, nb q7_5, q7_6, nb q7_6, q7_7]), trivial⟩
  refine WpG.g tabOK 6 rfl ?_
  refine WpG.caseE (t := 7) rfl (fun q7_8 => ?_) (fun q7_8 => ?_)
  ·refine WpG.g tabOK 2 rfl ?_
   exact nx3.weak ⟨rfl, rfl, bq (by simp [q7, nb q7, q7_2, nb q7_2, q7_3, nb q7_3, q7_4, nb q7_4, q7_5, nb q7_5, q7_6, nb q7_6, q7_7, nb q7_7, q7_8]), trivial⟩
  refine WpG.g tabOK 6 rfl ?_
  refine WpG.caseE (t := 7) rfl (fun q7_9 => ?_) (fun q7_9 => ?_)
  ·refine WpG.g tabOK 2 rfl ?_
   exact nx3.weak ⟨rfl, rfl, bq (by simp [q7, nb q7, q7_2, nb q7_2, q7_3, nb q7_3, q7_4, nb q7_4, q7_5, nb q7_5, q7_6, nb q7_6, q7_7, nb q7_7, q7_8, nb q7_8, q7_9]), trivial⟩
  refine WpG.g tabOK 6 rfl ?_
  refine WpG.caseE (t := 7) rfl (fun q7_10 => ?_) (fun q7_10 => ?_)
  ·refine WpG.g tabOK 2 rfl ?_
   exact nx3.weak ⟨rfl, rfl, bq (by simp [q7, nb q7, q7_2, nb q7_2, q7_3, nb q7_3, q7_4, nb q7_4, q7_5, nb q7_5, q7_6, nb q7_6, q7_7, nb q7_7, q7_8, nb q7_8, q7_9, nb q7_9, q7_10]), trivial⟩
  refine WpG.g tabOK 6 rfl ?_
  refine WpG.caseE (t := 7) rfl (fun q7_11 => ?_) (fun q7_11 => ?_)
  ·refine WpG.g tabOK 2 rfl ?_
   exact nx3.weak ⟨rfl, rfl, bq (by simp [q7, nb q7, q7_2, nb q7_2, q7_3, nb q7_3, q7_4, nb q7_4, q7_5, nb q7_5, q7_6, nb q7_6, q7_7, nb q7_7, q7_8, nb q7_8, q7_9, nb q7_9, q7_10, nb q7_10, q7_11]), trivial⟩
  refine WpG.g tabOK 6 rfl ?_
  refine WpG.caseE (t := 7) rfl (fun q7_12 => ?_) (fun q7_12 => ?_)
  ·refine WpG.g tabOK 2 rfl ?_
   exact nx3.weak ⟨rfl, rfl, bq (by simp [q7, nb q7, q7_2, nb q7_2, q7_3, nb q7_3, q7_4, nb q7_4, q7_5, nb q7_5, q7_6, nb q7_6, q7_7, nb q7_7, q7_8, nb q7_8, q7_9, nb q7_9, q7_10, nb q7_10, q7_11, nb q7_11, q7_12]), trivial⟩
  refine WpG.g tabOK 5 rfl ?_
  exact nx3.weak ⟨rfl, rfl, bq (by simp [q7, nb q7, q7_2, nb q7_2, q7_3, nb q7_3, q7_4, nb q7_4, q7_5, nb q7_5, q7_6, nb q7_6, q7_7, nb q7_7, q7_8, nb q7_8, q7_9, nb q7_9, q7_10, nb q7_10, q7_11, nb q7_11, q7_12, nb q7_12]), trivial⟩
 refine WpG.caseB (t := 7) rfl (fun q7 => ?_) (fun q7 => ?_)
 ·refine WpG.g tabOK 5 rfl ?_
  exact WpG.ret tabOK (L' := []) (.tmp rfl .nil) .slnil ⟨congrArg (Value.int .i64) (by unfold argsR; rw [if_neg q5, if_pos q7]), rfl⟩
 refine WpG.g tabOK 7 rfl ?_
 apply WpG.join (G := [(1, .pointer (some ⟨b1, 0, none⟩)), (4, .int .i64 o.kind), (21, .bool ((o.kind == 13) || ((o.kind == 18) || (o.kind == 19))))])
 ·intro nx4
  refine WpG.caseE (t := 21) rfl (fun q21 => ?_) (fun q21 => ?_)
  ·refine WpG.g tabOK 2 rfl ?_
   exact nx4.weak ⟨rfl, rfl, bq (by simp [q21]), trivial⟩
  refine WpG.g tabOK 6 rfl ?_
  refine WpG.caseE (t := 21) rfl (fun q21_2 => ?_) (fun q21_2 => ?_)
  ·refine WpG.g tabOK 2 rfl ?_
   exact nx4.weak ⟨rfl, rfl, bq (by simp [q21, nb q21, q21_2]), trivial⟩
  refine WpG.g tabOK 5 rfl ?_
  exact nx4.weak ⟨rfl, rfl, bq (by simp [q21, nb q21, q21_2, nb q21_2]), trivial⟩
 refine WpG.caseB (t := 21) rfl (fun q21 => ?_) (fun q21 => ?_)
 ·refine WpG.g tabOK 5 rfl ?_
  exact WpG.ret tabOK (L' := []) (.tmp rfl .nil) .slnil ⟨congrArg (Value.int .i64) (by unfold argsR; rw [if_neg q5, if_neg (nt q7), if_pos q21]), rfl⟩
 refine WpG.g tabOK 7 rfl ?_
 apply WpG.join (G := [(1, .pointer (some ⟨b1, 0, none⟩)), (4, .int .i64 o.kind), (25, .bool ((o.kind == 14) || ((o.kind == 15) || ((o.kind == 16) || (o.kind == 22)))))])
 ·intro nx5
  refine WpG.caseE (t := 25) rfl (fun q25 => ?_) (fun q25 => ?_)
  ·refine WpG.g tabOK 2 rfl ?_
   exact nx5.weak ⟨rfl, rfl, bq (by simp [q25]), trivial⟩
  refine WpG.g tabOK 6 rfl ?_
  refine WpG.caseE (t := 25) rfl (fun q25_2 => ?_) (fun q25_2 => ?_)
  ·refine WpG.g tabOK 2 rfl ?_
   exact nx5.weak ⟨rfl, rfl, bq (by simp [q25, nb q25, q25_2]), trivial⟩
  refine WpG.g tabOK 6 rfl ?_
  refine WpG.caseE (t := 25) rfl (fun q25_3 => ?_) (fun q25_3 => ?_)
  ·refine WpG.g tabOK 2 rfl ?_
   exact nx5.weak ⟨rfl, rfl, bq (by simp [q25, nb q25, q25_2, nb q25_2, q25_3]), trivial⟩
  refine WpG.g tabOK 5 rfl ?_
  exact nx5.weak ⟨rfl, rfl, bq (by simp [q25, nb q25, q25_2, nb q25_2, q25_3, nb q25_3]), trivial⟩
 refine WpG.caseB (t := 25) rfl (fun q25 => ?_) (fun q25 => ?_)
 ·refine WpG.g tabOK 5 rfl ?_
  exact WpG.ret tabOK (L' := []) (.tmp rfl .nil) .slnil ⟨congrArg (Value.int .i64) (by unfold argsR; rw [if_neg q5, if_neg (nt q7), if_neg (nt q21), if_pos q25]), rfl⟩
 refine WpG.g tabOK 6 rfl ?_
 refine WpG.caseE (t := 30) rfl (fun q30 => ?_) (fun q30 => ?_)
 ·refine WpG.g tabOK 5 rfl ?_
  exact WpG.ret tabOK (L' := []) (.tmp rfl .nil) .slnil ⟨congrArg (Value.int .i64) (by unfold argsR; rw [if_neg q5, if_neg (nt q7), if_neg (nt q21), if_neg (nt q25), if_pos q30]), rfl⟩
 refine WpG.g tabOK 6 rfl ?_
 refine WpG.caseE (t := 32) rfl (fun q32 => ?_) (fun q32 => ?_)
 ·refine WpG.g tabOK 4 rfl ?_
  refine WpG.y rfl rfl rfl rfl (RunY.loadH tabOK (hc2.sub 2 1) hlr rfl rfl rfl rfl) ?_
  refine WpG.g tabOK 2 rfl ?_
  exact WpG.ret tabOK (L' := []) (.tmp rfl .nil) .slnil ⟨congrArg (Value.int .i64) (by unfold argsR; rw [if_neg q5, if_neg (nt q7), if_neg (nt q21), if_neg (nt q25), if_neg q30, if_pos q32]), rfl⟩
 refine WpG.g tabOK 7 rfl ?_
 exact WpG.ret tabOK (L' := []) (.tmp rfl .nil) .slnil ⟨congrArg (Value.int .i64) (by unfold argsR; rw [if_neg q5, if_neg (nt q7), if_neg (nt q21), if_neg (nt q25), if_neg q30, if_neg q32]), rfl⟩
theorem rFits_calls {H : Hp} {o : OpD} {cs_o : List Value} (rd_o : Rdc.rd H cs_o o) (hs : shapeD o.bits o.lanes = true) : CallG Tryz.prog 103 [.agg cs_o.toArray] H [] (fun v _ L' => v = .bool (fitsR o) ∧ L' = []) := by
 have rd_o' := rd_o; obtain ⟨A_o_4, c_o_4, rfl, u_o_4, r_o_4, k_o_0, k_o_1, k_o_2, k_o_3, k_o_4⟩ := rd_o
 have hl := lanes_of hs
 have hb := bits_of hs
 have := k_o_4.1; have := k_o_4.2
 refine CallG.of Tryz.func103 rfl rfl rfl fun w0 => ?_
 refine WpG.g tabOK 2 rfl ?_
 refine WpG.box rfl rfl rfl rfl rfl (fun b1 => ?_)
 refine WpG.freezeBox (ci := 0) rfl (fun H2 hH2 hc2 => ?_)
 refine WpG.g tabOK 5 rfl ?_
 refine WpG.y rfl rfl rfl rfl (RunY.loadH tabOK (hc2.sub 0 1) hlr rfl rfl rfl rfl) ?_
 refine WpG.g tabOK 4 rfl ?_
 apply WpG.join (G := [(1, .pointer (some ⟨b1, 0, none⟩)), (3, .int .i64 o.kind), (31, .bool (((((o.kind == 4) || ((decide (o.kind ≥ 10)) && (decide (o.kind ≤ 12)))) || (o.kind == 14)) || (o.kind == 15)) || ((decide (o.kind ≥ 18)) && (decide (o.kind ≤ 20)))))])
 ·intro nx3
  refine WpG.g tabOK 1 rfl ?_
  refine WpG.g tabOK 3 rfl ?_
  refine WpG.caseE (t := 8) rfl (fun q8 => ?_) (fun q8 => ?_)
  ·refine WpG.g tabOK 24 rfl ?_
   exact nx3.weak ⟨rfl, rfl, bq (by simp [q8]), trivial⟩
  refine WpG.g tabOK 3 rfl ?_
  refine WpG.caseD (t := 11) rfl (fun q11 => ?_) (fun q11 => ?_)
  ·refine WpG.g tabOK 5 rfl ?_
   refine WpG.caseD (t := 16) rfl (fun q16 => ?_) (fun q16 => ?_)
   ·refine WpG.g tabOK 16 rfl ?_
    exact nx3.weak ⟨rfl, rfl, bq (by simp [q8, nb q8, q11, q16]), trivial⟩
   refine WpG.g tabOK 4 rfl ?_
   refine WpG.caseE (t := 20) rfl (fun q20 => ?_) (fun q20 => ?_)
   ·refine WpG.g tabOK 12 rfl ?_
    exact nx3.weak ⟨rfl, rfl, bq (by simp [q8, nb q8, q11, q16, q20]), trivial⟩
   refine WpG.g tabOK 4 rfl ?_
   refine WpG.caseE (t := 24) rfl (fun q24 => ?_) (fun q24 => ?_)
   ·refine WpG.g tabOK 8 rfl ?_
    exact nx3.weak ⟨rfl, rfl, bq (by simp [q8, nb q8, q11, q16, q20, nb q20, q24]), trivial⟩
   refine WpG.g tabOK 3 rfl ?_
   refine WpG.caseD (t := 27) rfl (fun q27 => ?_) (fun q27 => ?_)
   ·refine WpG.g tabOK 5 rfl ?_
    exact nx3.weak ⟨rfl, rfl, bq (by simp [q8, nb q8, q11, q16, q20, nb q20, q24, nb q24, q27]), trivial⟩
   refine WpG.g tabOK 5 rfl ?_
   exact nx3.weak ⟨rfl, rfl, bq (by simp [q8, nb q8, q11, q16, q20, nb q20, q24, nb q24, q27]), trivial⟩
  refine WpG.g tabOK 9 rfl ?_
  refine WpG.caseE (t := 20) rfl (fun q20 => ?_) (fun q20 => ?_)
  ·refine WpG.g tabOK 12 rfl ?_
   exact nx3.weak ⟨rfl, rfl, bq (by simp [q8, nb q8, q11, q20]), trivial⟩
  refine WpG.g tabOK 4 rfl ?_
  refine WpG.caseE (t := 24) rfl (fun q24 => ?_) (fun q24 => ?_)
  ·refine WpG.g tabOK 8 rfl ?_
   exact nx3.weak ⟨rfl, rfl, bq (by simp [q8, nb q8, q11, q20, nb q20, q24]), trivial⟩
  refine WpG.g tabOK 3 rfl ?_
  refine WpG.caseD (t := 27) rfl (fun q27 => ?_) (fun q27 => ?_)
  ·refine WpG.g tabOK 5 rfl ?_
   exact nx3.weak ⟨rfl, rfl, bq (by simp [q8, nb q8, q11, q20, nb q20, q24, nb q24, q27]), trivial⟩
  refine WpG.g tabOK 5 rfl ?_
  exact nx3.weak ⟨rfl, rfl, bq (by simp [q8, nb q8, q11, q20, nb q20, q24, nb q24, q27]), trivial⟩
 apply WpG.joinP (fit1 o = false ∨ o.lanes = 1) (G := [(1, .pointer (some ⟨b1, 0, none⟩)), (3, .int .i64 o.kind)])
 ·intro nx4
  refine WpG.caseB (t := 31) rfl (fun q31 => ?_) (fun q31 => ?_)
  ·refine WpG.g tabOK 4 rfl ?_
   refine WpG.y rfl rfl rfl rfl (RunY.loadH tabOK (hc2.sub 2 1) hlr rfl rfl rfl rfl) ?_
   refine WpG.g tabOK 2 rfl ?_
   refine WpG.caseN (t := 34) rfl (fun q34 => ?_) (fun q34 => ?_)
   ·refine WpG.g tabOK 5 rfl ?_
    exact WpG.ret tabOK (L' := []) (.tmp rfl .nil) .slnil ⟨congrArg Value.bool (by exact fits_a q31 q34), rfl⟩
   refine WpG.g tabOK 2 rfl ?_
   exact (nx4 (.inr q34)).weak ⟨rfl, rfl, trivial⟩
  refine WpG.g tabOK 2 rfl ?_
  exact (nx4 (.inl q31)).weak ⟨rfl, rfl, trivial⟩
 intro hj
 refine WpG.g tabOK 2 rfl ?_
 apply WpG.join (G := [(1, .pointer (some ⟨b1, 0, none⟩)), (3, .int .i64 o.kind), (54, .bool ((((decide (o.kind ≥ 16)) && (decide (o.kind ≤ 19))) && (decide (o.bits < 8))) || ((decide (o.kind ≥ 21)) && (decide (o.lanes < 2)))))])
 ·intro nx5
  refine WpG.g tabOK 1 rfl ?_
  refine WpG.g tabOK 3 rfl ?_
  refine WpG.caseD (t := 37) rfl (fun q37 => ?_) (fun q37 => ?_)
  ·refine WpG.g tabOK 4 rfl ?_
   refine WpG.caseD (t := 41) rfl (fun q41 => ?_) (fun q41 => ?_)
   ·refine WpG.g tabOK 1 rfl ?_
    refine WpG.y rfl rfl rfl rfl (RunY.loadH tabOK (hc2.sub 1 1) hlr rfl rfl rfl rfl) ?_
    refine WpG.g tabOK 3 rfl ?_
    refine WpG.caseD (t := 46) rfl (fun q46 => ?_) (fun q46 => ?_)
    ·refine WpG.g tabOK 9 rfl ?_
     exact nx5.weak ⟨rfl, rfl, bq (by simp [q37, q41, q46]), trivial⟩
    refine WpG.g tabOK 3 rfl ?_
    refine WpG.caseD (t := 49) rfl (fun q49 => ?_) (fun q49 => ?_)
    ·refine WpG.g tabOK 1 rfl ?_
     refine WpG.y rfl rfl rfl rfl (RunY.loadH tabOK (hc2.sub 2 1) hlr rfl rfl rfl rfl) ?_
     refine WpG.g tabOK 4 rfl ?_
     exact nx5.weak ⟨rfl, rfl, bq (by simp [q37, q41, q46, q49]), trivial⟩
    refine WpG.g tabOK 6 rfl ?_
    exact nx5.weak ⟨rfl, rfl, bq (by simp [q37, q41, q46, q49]), trivial⟩
   refine WpG.g tabOK 8 rfl ?_
   refine WpG.caseD (t := 49) rfl (fun q49 => ?_) (fun q49 => ?_)
   ·refine WpG.g tabOK 1 rfl ?_
    refine WpG.y rfl rfl rfl rfl (RunY.loadH tabOK (hc2.sub 2 1) hlr rfl rfl rfl rfl) ?_
    refine WpG.g tabOK 4 rfl ?_
    exact nx5.weak ⟨rfl, rfl, bq (by simp [q37, q41, q49]), trivial⟩
   refine WpG.g tabOK 6 rfl ?_
   exact nx5.weak ⟨rfl, rfl, bq (by simp [q37, q41, q49]), trivial⟩
  refine WpG.g tabOK 12 rfl ?_
  refine WpG.caseD (t := 49) rfl (fun q49 => ?_) (fun q49 => ?_)
  ·refine WpG.g tabOK 1 rfl ?_
   refine WpG.y rfl rfl rfl rfl (RunY.loadH tabOK (hc2.sub 2 1) hlr rfl rfl rfl rfl) ?_
   refine WpG.g tabOK 4 rfl ?_
   exact nx5.weak ⟨rfl, rfl, bq (by simp [q37, q49]), trivial⟩
  refine WpG.g tabOK 6 rfl ?_
  exact nx5.weak ⟨rfl, rfl, bq (by simp [q37, q49]), trivial⟩
 refine WpG.caseB (t := 54) rfl (fun q54 => ?_) (fun q54 => ?_)
 ·refine WpG.g tabOK 5 rfl ?_
  exact WpG.ret tabOK (L' := []) (.tmp rfl .nil) .slnil ⟨congrArg Value.bool (by exact fits_b hj q54), rfl⟩
 refine WpG.g tabOK 13 rfl ?_
 refine WpG.caseE (t := 56) rfl (fun q56 => ?_) (fun q56 => ?_)
 ·refine WpG.g tabOK 2 rfl ?_
  refine WpG.draw 9 [] mixed (by kernel_rfl) ?_
  refine WpD.g (listed' := lst 9 37) tabOK [0, 2, 5] (by kernel_rfl) rfl hH2 hlr .slnil ?_
  refine WpD.y (i := 1) (fuel := 5) (listed' := lst 9 39) (by kernel_rfl) rfl rfl rfl rfl hH2 hlr .slnil (RunY.loadH tabOK (hc2.sub 5 1) hlr rfl rfl rfl rfl) ?_
  refine WpD.y (i := 3) (fuel := 4) (listed' := lst 9 47) (by kernel_rfl) rfl rfl rfl rfl hH2 hlr .slnil (RunY.loadH tabOK (hc2.sub 1 1) hlr rfl rfl rfl rfl) ?_
  refine WpD.y (i := 6) (fuel := 3) (listed' := lst 9 111) (by kernel_rfl) rfl rfl rfl rfl hH2 hlr .slnil (RunY.loadH tabOK (hc2.sub 5 1) hlr rfl rfl rfl rfl) ?_
  refine WpD.callS (i := 4) (fuel := 2) (listed' := lst 9 127) (by kernel_rfl) rfl rfl rfl rfl rfl rfl hlr (rCut_calls o.imm o.bits k_o_4) hH2 hlr .slnil ?_
  refine WpD.g (listed' := lst 9 511) tabOK [7, 8] (by kernel_rfl) rfl hH2 hlr .slnil ?_
  refine WpD.done (by kernel_rfl) ?_
  exact WpG.ret tabOK (L' := []) (.tmp rfl .nil) .slnil ⟨congrArg Value.bool (by exact fits_c hj q54 (by simp [fitV, q56])), rfl⟩
 refine WpG.g tabOK 6 rfl ?_
 refine WpG.caseE (t := 66) rfl (fun q66 => ?_) (fun q66 => ?_)
 ·refine WpG.g tabOK 2 rfl ?_
  apply WpG.join (G := [(2, .bool ((decide (o.imm < o.bits)) && (mayW o.imm)))])
  ·intro nx6
   refine WpG.g tabOK 1 rfl ?_
   refine WpG.g tabOK 1 rfl ?_
   refine WpG.y rfl rfl rfl rfl (RunY.loadH tabOK (hc2.sub 5 1) hlr rfl rfl rfl rfl) ?_
   refine WpG.g tabOK 1 rfl ?_
   refine WpG.y rfl rfl rfl rfl (RunY.loadH tabOK (hc2.sub 1 1) hlr rfl rfl rfl rfl) ?_
   refine WpG.gw tabOK 1 72 rfl (wrku (x := o.bits) (by omega) (by omega)) ?_
   refine WpG.g tabOK 2 rfl ?_
   refine WpG.caseD (t := 74) rfl (fun q74 => ?_) (fun q74 => ?_)
   ·refine WpG.g tabOK 1 rfl ?_
    refine WpG.y rfl rfl rfl rfl (RunY.loadH tabOK (hc2.sub 5 1) hlr rfl rfl rfl rfl) ?_
    refine WpG.gw tabOK 1 77 rfl (wrk (x := o.imm) (by omega) (by omega)) ?_
    refine WpG.callS rfl rfl rfl rfl rfl rfl hlr (rMayW_calls o.imm) ?_
    refine WpG.g tabOK 3 rfl ?_
    exact nx6.weak ⟨bq (by simp [q74]), trivial⟩
   refine WpG.g tabOK 7 rfl ?_
   exact nx6.weak ⟨bq (by simp [q74]), trivial⟩
  exact WpG.ret tabOK (L' := []) (.tmp rfl .nil) .slnil ⟨congrArg Value.bool (by exact fits_c hj q54 (by simp [fitV, q66])), rfl⟩
 refine WpG.g tabOK 6 rfl ?_
 refine WpG.caseE (t := 80) rfl (fun q80 => ?_) (fun q80 => ?_)
 ·refine WpG.g tabOK 2 rfl ?_
  apply WpG.join (G := [(2, .bool (((decide (o.imm > o.bits)) && (decide (o.imm ≤ 64))) && (mayW o.imm)))])
  ·intro nx7
   refine WpG.g tabOK 1 rfl ?_
   refine WpG.g tabOK 1 rfl ?_
   refine WpG.y rfl rfl rfl rfl (RunY.loadH tabOK (hc2.sub 5 1) hlr rfl rfl rfl rfl) ?_
   refine WpG.g tabOK 1 rfl ?_
   refine WpG.y rfl rfl rfl rfl (RunY.loadH tabOK (hc2.sub 1 1) hlr rfl rfl rfl rfl) ?_
   refine WpG.gw tabOK 1 86 rfl (wrku (x := o.bits) (by omega) (by omega)) ?_
   refine WpG.g tabOK 2 rfl ?_
   refine WpG.caseD (t := 88) rfl (fun q88 => ?_) (fun q88 => ?_)
   ·refine WpG.g tabOK 1 rfl ?_
    refine WpG.y rfl rfl rfl rfl (RunY.loadH tabOK (hc2.sub 5 1) hlr rfl rfl rfl rfl) ?_
    refine WpG.g tabOK 3 rfl ?_
    refine WpG.caseD (t := 93) rfl (fun q93 => ?_) (fun q93 => ?_)
    ·refine WpG.g tabOK 1 rfl ?_
     refine WpG.y rfl rfl rfl rfl (RunY.loadH tabOK (hc2.sub 5 1) hlr rfl rfl rfl rfl) ?_
     refine WpG.gw tabOK 1 96 rfl (wrk (x := o.imm) (by omega) (by omega)) ?_
     refine WpG.callS rfl rfl rfl rfl rfl rfl hlr (rMayW_calls o.imm) ?_
     refine WpG.g tabOK 3 rfl ?_
     exact nx7.weak ⟨bq (by simp [q88, q93]), trivial⟩
    refine WpG.g tabOK 7 rfl ?_
    exact nx7.weak ⟨bq (by simp [q88, q93]), trivial⟩
   refine WpG.g tabOK 12 rfl ?_
   exact nx7.weak ⟨bq (by simp [q88]), trivial⟩
  exact WpG.ret tabOK (L' := []) (.tmp rfl .nil) .slnil ⟨congrArg Value.bool (by exact fits_c hj q54 (by simp [fitV, q80])), rfl⟩
 refine WpG.g tabOK 6 rfl ?_
 refine WpG.caseE (t := 99) rfl (fun q99 => ?_) (fun q99 => ?_)
 ·refine WpG.g tabOK 4 rfl ?_
  refine WpG.y rfl rfl rfl rfl (RunY.loadH tabOK (hc2.sub 5 1) hlr rfl rfl rfl rfl) ?_
  refine WpG.g tabOK 1 rfl ?_
  refine WpG.y rfl rfl rfl rfl (RunY.loadH tabOK (hc2.sub 2 1) hlr rfl rfl rfl rfl) ?_
  refine WpG.gw tabOK 1 105 rfl (wrku (x := o.lanes) (by omega) (by omega)) ?_
  refine WpG.g tabOK 3 rfl ?_
  exact WpG.ret tabOK (L' := []) (.tmp rfl .nil) .slnil ⟨congrArg Value.bool (by exact fits_c hj q54 (by simp [fitV, q99])), rfl⟩
 refine WpG.g tabOK 6 rfl ?_
 refine WpG.y rfl rfl rfl rfl (RunY.loadH tabOK (hc2.sub 5 1) hlr rfl rfl rfl rfl) ?_
 refine WpG.g tabOK 3 rfl ?_
 exact WpG.ret tabOK (L' := []) (.tmp rfl .nil) .slnil ⟨congrArg Value.bool (by exact fits_c hj q54 (by simp [fitV, q56, q66, q80, q99])), rfl⟩
theorem rMayO_calls {H : Hp} {o : OpD} {cs_o : List Value} (rd_o : Rdc.rd H cs_o o) : CallG Tryz.prog 81 [.agg cs_o.toArray] H [] (fun v _ L' => v = .bool (mayO o) ∧ L' = []) := by
 have rd_o' := rd_o; obtain ⟨A_o_4, c_o_4, rfl, u_o_4, r_o_4, k_o_0, k_o_1, k_o_2, k_o_3, k_o_4⟩ := rd_o
 have bo := r_o_4.1
 refine CallG.of Tryz.func81 rfl rfl rfl fun w0 => ?_
 refine WpG.g tabOK 2 rfl ?_
 refine WpG.box rfl rfl rfl rfl rfl (fun b1 => ?_)
 refine WpG.freezeBox (ci := 0) rfl (fun H2 hH2 hc2 => ?_)
 refine WpG.g tabOK 4 rfl ?_
 refine WpG.draw 19 [] mixed (by kernel_rfl) ?_
 refine WpD.g (listed' := lst 19 5) tabOK [0, 2] (by kernel_rfl) rfl hH2 hlr .slnil ?_
 refine WpD.y (i := 1) (fuel := 16) (listed' := lst 19 7) (by kernel_rfl) rfl rfl rfl rfl hH2 hlr .slnil (RunY.loadH tabOK (hc2.sub 1 1) hlr rfl rfl rfl rfl) ?_
 refine WpD.y (i := 3) (fuel := 15) (listed' := lst 19 15) (by kernel_rfl) rfl rfl rfl rfl hH2 hlr .slnil (RunY.loadH tabOK (hc2.sub 2 1) hlr rfl rfl rfl rfl) ?_
 refine WpD.callS (i := 4) (fuel := 14) (listed' := lst 19 31) (by kernel_rfl) rfl rfl rfl rfl rfl rfl hlr (rShape_calls o.bits o.lanes) hH2 hlr .slnil ?_
 refine WpD.g (listed' := lst 19 127) tabOK [5, 6] (by kernel_rfl) rfl hH2 hlr .slnil ?_
 refine WpD.caseBn (t := 10) rfl (fun q10 => ?_) (fun q10 => ?_)
 ·refine WpD.g (listed' := lst 19 524287) tabOK [7, 8, 9, 10, 11, 12, 13, 14, 15, 16, 17, 18] (by kernel_rfl) rfl hH2 hlr .slnil ?_
  refine WpD.done (by kernel_rfl) ?_
  refine WpG.g tabOK 5 rfl ?_
  exact WpG.ret tabOK (L' := []) (.tmp rfl .nil) .slnil ⟨congrArg Value.bool (by rw [← mayR_eq]; simp [mayR, q10]), rfl⟩
 refine WpD.g (listed' := lst 19 639) tabOK [9] (by kernel_rfl) rfl hH2 hlr .slnil ?_
 refine WpD.y (i := 7) (fuel := 10) (listed' := lst 19 767) (by kernel_rfl) rfl rfl rfl rfl hH2 hlr .slnil (RunY.loadH tabOK hc2 hlr rfl rfl rfl rfl) ?_
 refine WpD.y (i := 10) (fuel := 9) (listed' := lst 19 1791) (by kernel_rfl) rfl rfl rfl rfl hH2 hlr .slnil (RunY.loadH tabOK (hc2.sub 4 1) hlr rfl rfl rfl rfl) ?_
 refine WpD.g (listed' := lst 19 3839) tabOK [11] (by kernel_rfl) rfl hH2 hlr .slnil ?_
 refine WpD.callS (i := 8) (fuel := 7) (listed' := lst 19 4095) (by kernel_rfl) rfl rfl rfl rfl rfl rfl hlr (rArgs_calls (Rdc.mono hH2 rd_o')) hH2 hlr .slnil ?_
 refine WpD.g (listed' := lst 19 32767) tabOK [12, 13, 14] (by kernel_rfl) rfl hH2 hlr .slnil ?_
 refine WpD.caseN (t := 18) rfl (fun q18 => ?_) (fun q18 => ?_)
 ·refine WpD.g (listed' := lst 19 524287) tabOK [15, 16, 17, 18] (by kernel_rfl) rfl hH2 hlr .slnil ?_
  refine WpD.done (by kernel_rfl) ?_
  refine WpG.g tabOK 5 rfl ?_
  exact WpG.ret tabOK (L' := []) (.tmp rfl .nil) .slnil ⟨congrArg Value.bool (by rw [← mayR_eq]; simp [mayR, q18]), rfl⟩
 refine WpD.y (i := 15) (fuel := 3) (listed' := lst 19 65535) (by kernel_rfl) rfl rfl rfl rfl hH2 hlr .slnil (RunY.loadH tabOK hc2 hlr rfl rfl rfl rfl) ?_
 refine WpD.callS (i := 16) (fuel := 2) (listed' := lst 19 131071) (by kernel_rfl) rfl rfl rfl rfl rfl rfl hlr (rFits_calls (Rdc.mono hH2 rd_o') q10) hH2 hlr .slnil ?_
 refine WpD.g (listed' := lst 19 524287) tabOK [17, 18] (by kernel_rfl) rfl hH2 hlr .slnil ?_
 refine WpD.done (by kernel_rfl) ?_
 refine WpG.caseBn (t := 22) rfl (fun q22 => ?_) (fun q22 => ?_)
 ·refine WpG.g tabOK 5 rfl ?_
  exact WpG.ret tabOK (L' := []) (.tmp rfl .nil) .slnil ⟨congrArg Value.bool (by rw [← mayR_eq]; simp [mayR, q22]), rfl⟩
 refine WpG.g tabOK 9 rfl ?_
 refine WpG.wk (WpG.ind1 (fun (i : Int) => ⟨(o.args.length - i).toNat, [(1, .pointer (some ⟨b1, 0, none⟩)), (3, .int .i64 i)], H2, [], 0 ≤ i ∧ i ≤ o.args.length ∧ o.args.all valueOK = (o.args.drop i.toNat).all valueOK⟩) ?_ 0 ⟨by omega, by omega, rfl⟩) rfl
 intro i inv ih1
 obtain ⟨i0, i1, i2⟩ := inv
 refine WpG.g tabOK 5 rfl ?_
 refine WpG.y rfl rfl rfl rfl (RunY.loadH tabOK (hc2.sub 4 1) hlr rfl rfl rfl rfl) ?_
 refine WpG.g tabOK 3 rfl ?_
 refine WpG.caseD (t := 27) rfl (fun q27 => ?_) (fun q27 => ?_)
 ·refine WpG.g tabOK 7 rfl ?_
  refine WpG.y rfl rfl rfl rfl (RunY.loadH tabOK (hc2.sub 4 1) hlr rfl rfl rfl rfl) ?_
  refine WpG.g tabOK 1 rfl ?_
  refine WpG.indexR tabOK rfl rfl rfl rfl rfl rfl rfl rfl rfl r_o_4 (by omega) (by omega) ?_
  rintro x3 hx3 b3 o3 _ ⟨rfl, k3⟩ hc3
  refine WpG.y rfl rfl rfl rfl (RunY.loadH tabOK hc3 hH2 rfl rfl rfl rfl) ?_
  refine WpG.callS rfl rfl rfl rfl rfl rfl hlr (rvalue_calls x3) ?_
  refine WpG.g tabOK 2 rfl ?_
  refine WpG.caseBn (t := 36) rfl (fun q36 => ?_) (fun q36 => ?_)
  ·refine WpG.g tabOK 5 rfl ?_
   exact WpG.ret tabOK (L' := []) (.tmp rfl .nil) .slnil ⟨congrArg Value.bool (by clear ih1; rw [← mayR_eq]; simp [mayR, all_no i2 i0 q27 hx3 q36]), rfl⟩
  refine WpG.gw tabOK 6 29 rfl (wrk (x := i + 1) (by omega) (by omega)) ?_
  refine WpG.g tabOK 3 rfl ?_
  refine WpG.wk (ih1 (i + 1) ?_ ?_) rfl
  ·dsimp only
   omega
  clear ih1
  exact ⟨by omega, by omega, all_step i2 i0 q27 hx3 q36⟩
 refine WpG.g tabOK 4 rfl ?_
 apply WpG.join (G := [(1, .pointer (some ⟨b1, 0, none⟩)), (44, .bool ((o.kind == 17) || (o.kind == 19)))])
 ·intro nx4
  refine WpG.g tabOK 1 rfl ?_
  refine WpG.g tabOK 1 rfl ?_
  refine WpG.y rfl rfl rfl rfl (RunY.loadH tabOK (hc2.sub 0 1) hlr rfl rfl rfl rfl) ?_
  refine WpG.g tabOK 2 rfl ?_
  refine WpG.caseE (t := 40) rfl (fun q40 => ?_) (fun q40 => ?_)
  ·refine WpG.g tabOK 5 rfl ?_
   exact nx4.weak ⟨rfl, bq (by simp [q40]), trivial⟩
  refine WpG.g tabOK 1 rfl ?_
  refine WpG.y rfl rfl rfl rfl (RunY.loadH tabOK (hc2.sub 0 1) hlr rfl rfl rfl rfl) ?_
  refine WpG.g tabOK 3 rfl ?_
  exact nx4.weak ⟨rfl, bq (by simp [q40, nb q40]), trivial⟩
 refine WpG.caseB (t := 44) rfl (fun q44 => ?_) (fun q44 => ?_)
 ·refine WpG.g tabOK 4 rfl ?_
  refine WpG.y rfl rfl rfl rfl (RunY.loadH tabOK (hc2.sub 3 1) hlr rfl rfl rfl rfl) ?_
  refine WpG.g tabOK 3 rfl ?_
  exact WpG.ret tabOK (L' := []) (.tmp rfl .nil) .slnil ⟨congrArg Value.bool (by clear ih1; exact mayR_st q10 q18 q22 (all_end i2 i0 q27) q44), rfl⟩
 refine WpG.g tabOK 5 rfl ?_
 refine WpG.y rfl rfl rfl rfl (RunY.loadH tabOK (hc2.sub 3 1) hlr rfl rfl rfl rfl) ?_
 refine WpG.callS rfl rfl rfl rfl rfl rfl hlr (rvalue_calls o.dst) ?_
 refine WpG.g tabOK 2 rfl ?_
 exact WpG.ret tabOK (L' := []) (.tmp rfl .nil) .slnil ⟨congrArg Value.bool (by clear ih1; exact mayR_ns q10 q18 q22 (all_end i2 i0 q27) q44), rfl⟩
theorem rTakes_calls {H : Hp} {o : OpD} {cs_o : List Value} (rd_o : Rdc.rd H cs_o o) : CallG Tryz.prog 83 [.agg cs_o.toArray] H [] (fun v H' L' => ∃ A c, v = .slice A (takesF o).length c ∧ RdS H' A (takesF o) ∧ L' = []) := by
 have rd_o' := rd_o; obtain ⟨A_o_4, c_o_4, rfl, u_o_4, r_o_4, k_o_0, k_o_1, k_o_2, k_o_3, k_o_4⟩ := rd_o
 have bo := r_o_4.1; have bi := k_o_4.1
 refine CallG.of Tryz.func83 rfl rfl rfl fun w0 => ?_
 refine WpG.g tabOK 2 rfl ?_
 refine WpG.box rfl rfl rfl rfl rfl (fun b1 => ?_)
 refine WpG.freezeBox (ci := 0) rfl (fun H2 hH2 hc2 => ?_)
 refine WpG.g tabOK 9 rfl ?_
 refine WpG.y rfl rfl rfl rfl (RunY.loadH tabOK hc2 hlr rfl rfl rfl rfl) ?_
 refine WpG.callS rfl rfl rfl rfl rfl rfl hlr (rMayO_calls (Rdc.mono hH2 rd_o')) ?_
 refine WpG.g tabOK 2 rfl ?_
 refine WpG.caseBn (t := 8) rfl (fun q8 => ?_) (fun q8 => ?_)
 ·refine WpG.g tabOK 5 rfl ?_
  exact WpG.ret tabOK (L' := []) (.tmp rfl .nil) .slnil (Takes_ret (by simp [takesF, q8]) rfl (RdS.nil _ _))
 refine WpG.g tabOK 9 rfl ?_
 refine WpG.ownNil 81 2 ?_
 refine WpG.wk (WpG.ind5 (fun (i : Int) (A5 : Option Addr) (n5 : Nat) (c5 : Nat) (ps : List (Int × Int)) => ⟨(o.args.length - i).toNat, [(1, .pointer (some ⟨b1, 0, none⟩)), (3, .slice A5 n5 c5), (4, .int .i64 i)], H2, [Chunk.own 81 2 A5 c5 n5 (flatP ps)], 0 ≤ i ∧ i ≤ o.args.length ∧ n5 = i ∧ ps = (takesD o).take i.toNat⟩) ?_ 0 none 0 0 [] ⟨by omega, by omega, by simp, rfl⟩) rfl
 intro i A5 n5 c5 ps inv ih1
 obtain ⟨i0, i1, i3, i4⟩ := inv
 have h128 : ¬ (o.kind = 14 ∨ o.kind = 15) ∨ o.imm ≤ 64 := may_imm2 q8
 have bl16 := may_le q8
 refine WpG.g tabOK 5 rfl ?_
 refine WpG.y rfl rfl rfl rfl (RunY.loadH tabOK (hc2.sub 4 1) hlr rfl rfl rfl rfl) ?_
 refine WpG.g tabOK 3 rfl ?_
 refine WpG.caseD (t := 13) rfl (fun q13 => ?_) (fun q13 => ?_)
 ·refine WpG.g tabOK 7 rfl ?_
  refine WpG.y rfl rfl rfl rfl (RunY.loadH tabOK (hc2.sub 1 1) hlr rfl rfl rfl rfl) ?_
  refine WpG.g tabOK 1 rfl ?_
  refine WpG.y rfl rfl rfl rfl (RunY.loadH tabOK (hc2.sub 2 1) hlr rfl rfl rfl rfl) ?_
  refine WpG.g tabOK 1 rfl ?_
  refine WpG.alloc tabOK rfl rfl rfl rfl rfl (fun b3 => ?_)
  refine WpG.storeBox (ci := 0) (cs' := [.int .i64 o.bits, .int .i64 o.lanes]) tabOK rfl rfl rfl rfl rfl rfl rfl rfl rfl ?_
  refine WpG.g tabOK 5 rfl ?_
  refine WpG.y rfl rfl rfl rfl (RunY.loadH tabOK (hc2.sub 0 1) hlr rfl rfl rfl rfl) ?_
  refine WpG.g tabOK 8 rfl ?_
  apply WpG.join (G := [(1, .pointer (some ⟨b1, 0, none⟩)), (3, .slice A5 n5 c5), (4, .int .i64 i), (5, .pointer (some ⟨b3, 0, none⟩)), (22, .int .i64 o.kind), (23, .bool ((o.kind == 13) || (o.kind == 20)))])
  ·intro nx4
   refine WpG.caseE (t := 23) rfl (fun q23 => ?_) (fun q23 => ?_)
   ·refine WpG.g tabOK 2 rfl ?_
    exact nx4.weak ⟨rfl, rfl, rfl, rfl, rfl, bq (by simp [q23]), trivial⟩
   refine WpG.g tabOK 5 rfl ?_
   exact nx4.weak ⟨rfl, rfl, rfl, rfl, rfl, bq (by simp [q23, nb q23]), trivial⟩
  apply WpG.joinP (True) (G := [(1, .pointer (some ⟨b1, 0, none⟩)), (3, .slice A5 n5 c5), (4, .int .i64 i), (5, .pointer (some ⟨b3, 0, none⟩))])
  ·intro nx5
   refine WpG.caseB (t := 23) rfl (fun q23 => ?_) (fun q23 => ?_)
   ·have q23' := q23; simp only [Bool.or_eq_true, Bool.and_eq_true, beq_iff_eq, bne_iff_ne, decide_eq_true_eq, Bool.not_eq_true] at q23'
    refine WpG.g tabOK 6 rfl ?_
    refine WpG.caseE (t := 27) rfl (fun q27 => ?_) (fun q27 => ?_)
    ·refine WpG.g tabOK 3 rfl ?_
     refine WpG.storeBox (ci := 0) (cs' := [.int .i64 1, .int .i64 1]) tabOK rfl rfl rfl rfl rfl rfl rfl rfl rfl ?_
     refine WpG.g tabOK 1 rfl ?_
     refine WpG.setL (L' := [Chunk.box b3 [.int .i64 ((takeAt o i).1), .int .i64 ((takeAt o i).2)] 81, Chunk.own 81 2 A5 c5 n5 (flatP ps)]) (by first | (simp [takeAt, q23, q27]; done) | (exfalso; omega)) ?_
     exact (nx5 (trivial)).weak ⟨rfl, rfl, rfl, rfl, trivial⟩
    refine WpG.g tabOK 2 rfl ?_
    refine WpG.setL (L' := [Chunk.box b3 [.int .i64 ((takeAt o i).1), .int .i64 ((takeAt o i).2)] 81, Chunk.own 81 2 A5 c5 n5 (flatP ps)]) (by first | (simp [takeAt, q23, q27, nb q27]; done) | (exfalso; omega)) ?_
    exact (nx5 (trivial)).weak ⟨rfl, rfl, rfl, rfl, trivial⟩
   have q23' := q23; simp only [Bool.or_eq_false_iff, Bool.and_eq_false_iff, beq_eq_false_iff_ne, bne_eq_false_iff_eq, decide_eq_false_iff_not, Bool.not_eq_false] at q23'
   refine WpG.g tabOK 7 rfl ?_
   apply WpG.join (G := [(1, .pointer (some ⟨b1, 0, none⟩)), (3, .slice A5 n5 c5), (4, .int .i64 i), (5, .pointer (some ⟨b3, 0, none⟩)), (22, .int .i64 o.kind), (29, .bool ((o.kind == 14) || (o.kind == 15)))])
   ·intro nx6
    refine WpG.caseE (t := 29) rfl (fun q29 => ?_) (fun q29 => ?_)
    ·refine WpG.g tabOK 2 rfl ?_
     exact nx6.weak ⟨rfl, rfl, rfl, rfl, rfl, bq (by simp [q29]), trivial⟩
    refine WpG.g tabOK 5 rfl ?_
    exact nx6.weak ⟨rfl, rfl, rfl, rfl, rfl, bq (by simp [q29, nb q29]), trivial⟩
   refine WpG.caseB (t := 29) rfl (fun q29 => ?_) (fun q29 => ?_)
   ·have q29' := q29; simp only [Bool.or_eq_true, Bool.and_eq_true, beq_iff_eq, bne_iff_ne, decide_eq_true_eq, Bool.not_eq_true] at q29'
    refine WpG.g tabOK 3 rfl ?_
    refine WpG.y rfl rfl rfl rfl (RunY.loadH tabOK (hc2.sub 5 1) hlr rfl rfl rfl rfl) ?_
    refine WpG.gw tabOK 1 34 rfl (wrk (x := o.imm) (by omega) (by omega)) ?_
    refine WpG.g tabOK 1 rfl ?_
    refine WpG.storeBox (ci := 0) (cs' := [.int .i64 o.imm, .int .i64 1]) tabOK rfl rfl rfl rfl rfl rfl rfl rfl rfl ?_
    refine WpG.g tabOK 1 rfl ?_
    refine WpG.setL (L' := [Chunk.box b3 [.int .i64 ((takeAt o i).1), .int .i64 ((takeAt o i).2)] 81, Chunk.own 81 2 A5 c5 n5 (flatP ps)]) (by first | (simp [takeAt, q23, q29]; done) | (exfalso; omega)) ?_
    exact (nx5 (trivial)).weak ⟨rfl, rfl, rfl, rfl, trivial⟩
   have q29' := q29; simp only [Bool.or_eq_false_iff, Bool.and_eq_false_iff, beq_eq_false_iff_ne, bne_eq_false_iff_eq, decide_eq_false_iff_not, Bool.not_eq_false] at q29'
   refine WpG.g tabOK 7 rfl ?_
   apply WpG.join (G := [(1, .pointer (some ⟨b1, 0, none⟩)), (3, .slice A5 n5 c5), (4, .int .i64 i), (5, .pointer (some ⟨b3, 0, none⟩)), (22, .int .i64 o.kind), (36, .bool ((o.kind == 16) || (o.kind == 17)))])
   ·intro nx7
    refine WpG.caseE (t := 36) rfl (fun q36 => ?_) (fun q36 => ?_)
    ·refine WpG.g tabOK 2 rfl ?_
     exact nx7.weak ⟨rfl, rfl, rfl, rfl, rfl, bq (by simp [q36]), trivial⟩
    refine WpG.g tabOK 5 rfl ?_
    exact nx7.weak ⟨rfl, rfl, rfl, rfl, rfl, bq (by simp [q36, nb q36]), trivial⟩
   refine WpG.caseB (t := 36) rfl (fun q36 => ?_) (fun q36 => ?_)
   ·have q36' := q36; simp only [Bool.or_eq_true, Bool.and_eq_true, beq_iff_eq, bne_iff_ne, decide_eq_true_eq, Bool.not_eq_true] at q36'
    refine WpG.g tabOK 6 rfl ?_
    refine WpG.caseE (t := 40) rfl (fun q40 => ?_) (fun q40 => ?_)
    ·refine WpG.g tabOK 3 rfl ?_
     refine WpG.storeBox (ci := 0) (cs' := [.int .i64 64, .int .i64 1]) tabOK rfl rfl rfl rfl rfl rfl rfl rfl rfl ?_
     refine WpG.g tabOK 1 rfl ?_
     refine WpG.setL (L' := [Chunk.box b3 [.int .i64 ((takeAt o i).1), .int .i64 ((takeAt o i).2)] 81, Chunk.own 81 2 A5 c5 n5 (flatP ps)]) (by first | (simp [takeAt, q23, q29, q36, q40]; done) | (exfalso; omega)) ?_
     exact (nx5 (trivial)).weak ⟨rfl, rfl, rfl, rfl, trivial⟩
    refine WpG.g tabOK 2 rfl ?_
    refine WpG.setL (L' := [Chunk.box b3 [.int .i64 ((takeAt o i).1), .int .i64 ((takeAt o i).2)] 81, Chunk.own 81 2 A5 c5 n5 (flatP ps)]) (by first | (simp [takeAt, q23, q29, q36, q40, nb q40]; done) | (exfalso; omega)) ?_
    exact (nx5 (trivial)).weak ⟨rfl, rfl, rfl, rfl, trivial⟩
   have q36' := q36; simp only [Bool.or_eq_false_iff, Bool.and_eq_false_iff, beq_eq_false_iff_ne, bne_eq_false_iff_eq, decide_eq_false_iff_not, Bool.not_eq_false] at q36'
   refine WpG.g tabOK 7 rfl ?_
   apply WpG.join (G := [(1, .pointer (some ⟨b1, 0, none⟩)), (3, .slice A5 n5 c5), (4, .int .i64 i), (5, .pointer (some ⟨b3, 0, none⟩)), (22, .int .i64 o.kind), (42, .bool ((o.kind == 18) || (o.kind == 19)))])
   ·intro nx8
    refine WpG.caseE (t := 42) rfl (fun q42 => ?_) (fun q42 => ?_)
    ·refine WpG.g tabOK 2 rfl ?_
     exact nx8.weak ⟨rfl, rfl, rfl, rfl, rfl, bq (by simp [q42]), trivial⟩
    refine WpG.g tabOK 5 rfl ?_
    exact nx8.weak ⟨rfl, rfl, rfl, rfl, rfl, bq (by simp [q42, nb q42]), trivial⟩
   refine WpG.caseB (t := 42) rfl (fun q42 => ?_) (fun q42 => ?_)
   ·have q42' := q42; simp only [Bool.or_eq_true, Bool.and_eq_true, beq_iff_eq, bne_iff_ne, decide_eq_true_eq, Bool.not_eq_true] at q42'
    refine WpG.g tabOK 7 rfl ?_
    refine WpG.caseE (t := 46) rfl (fun q46 => ?_) (fun q46 => ?_)
    ·refine WpG.g tabOK 3 rfl ?_
     refine WpG.storeBox (ci := 0) (cs' := [.int .i64 1, .int .i64 1]) tabOK rfl rfl rfl rfl rfl rfl rfl rfl rfl ?_
     refine WpG.g tabOK 6 rfl ?_
     refine WpG.caseE (t := 49) rfl (fun q49 => ?_) (fun q49 => ?_)
     ·refine WpG.g tabOK 3 rfl ?_
      refine WpG.storeBox (ci := 0) (cs' := [.int .i64 64, .int .i64 1]) tabOK rfl rfl rfl rfl rfl rfl rfl rfl rfl ?_
      refine WpG.g tabOK 1 rfl ?_
      refine WpG.setL (L' := [Chunk.box b3 [.int .i64 ((takeAt o i).1), .int .i64 ((takeAt o i).2)] 81, Chunk.own 81 2 A5 c5 n5 (flatP ps)]) (by first | (simp [takeAt, q23, q29, q36, q42, q46, q49]; done) | (exfalso; omega)) ?_
      exact (nx5 (trivial)).weak ⟨rfl, rfl, rfl, rfl, trivial⟩
     refine WpG.g tabOK 2 rfl ?_
     refine WpG.setL (L' := [Chunk.box b3 [.int .i64 ((takeAt o i).1), .int .i64 ((takeAt o i).2)] 81, Chunk.own 81 2 A5 c5 n5 (flatP ps)]) (by first | (simp [takeAt, q23, q29, q36, q42, q46, q49, nb q49]; done) | (exfalso; omega)) ?_
     exact (nx5 (trivial)).weak ⟨rfl, rfl, rfl, rfl, trivial⟩
    refine WpG.g tabOK 7 rfl ?_
    refine WpG.caseE (t := 49) rfl (fun q49 => ?_) (fun q49 => ?_)
    ·refine WpG.g tabOK 3 rfl ?_
     refine WpG.storeBox (ci := 0) (cs' := [.int .i64 64, .int .i64 1]) tabOK rfl rfl rfl rfl rfl rfl rfl rfl rfl ?_
     refine WpG.g tabOK 1 rfl ?_
     refine WpG.setL (L' := [Chunk.box b3 [.int .i64 ((takeAt o i).1), .int .i64 ((takeAt o i).2)] 81, Chunk.own 81 2 A5 c5 n5 (flatP ps)]) (by first | (simp [takeAt, q23, q29, q36, q42, q46, nb q46, q49]; done) | (exfalso; omega)) ?_
     exact (nx5 (trivial)).weak ⟨rfl, rfl, rfl, rfl, trivial⟩
    refine WpG.g tabOK 2 rfl ?_
    refine WpG.setL (L' := [Chunk.box b3 [.int .i64 ((takeAt o i).1), .int .i64 ((takeAt o i).2)] 81, Chunk.own 81 2 A5 c5 n5 (flatP ps)]) (by first | (simp [takeAt, q23, q29, q36, q42, q46, nb q46, q49, nb q49]; done) | (exfalso; omega)) ?_
    exact (nx5 (trivial)).weak ⟨rfl, rfl, rfl, rfl, trivial⟩
   have q42' := q42; simp only [Bool.or_eq_false_iff, Bool.and_eq_false_iff, beq_eq_false_iff_ne, bne_eq_false_iff_eq, decide_eq_false_iff_not, Bool.not_eq_false] at q42'
   refine WpG.g tabOK 6 rfl ?_
   refine WpG.caseE (t := 51) rfl (fun q51 => ?_) (fun q51 => ?_)
   ·refine WpG.g tabOK 3 rfl ?_
    refine WpG.y rfl rfl rfl rfl (RunY.loadH tabOK (hc2.sub 1 1) hlr rfl rfl rfl rfl) ?_
    refine WpG.g tabOK 1 rfl ?_
    refine WpG.storeBox (ci := 0) (cs' := [.int .i64 o.bits, .int .i64 1]) tabOK rfl rfl rfl rfl rfl rfl rfl rfl rfl ?_
    refine WpG.g tabOK 1 rfl ?_
    refine WpG.setL (L' := [Chunk.box b3 [.int .i64 ((takeAt o i).1), .int .i64 ((takeAt o i).2)] 81, Chunk.own 81 2 A5 c5 n5 (flatP ps)]) (by first | (simp [takeAt, q23, q29, q36, q42, q51]; done) | (exfalso; omega)) ?_
    exact (nx5 (trivial)).weak ⟨rfl, rfl, rfl, rfl, trivial⟩
   refine WpG.g tabOK 2 rfl ?_
   refine WpG.setL (L' := [Chunk.box b3 [.int .i64 ((takeAt o i).1), .int .i64 ((takeAt o i).2)] 81, Chunk.own 81 2 A5 c5 n5 (flatP ps)]) (by first | (simp [takeAt, q23, q29, q36, q42, q51, nb q51]; done) | (exfalso; omega)) ?_
   exact (nx5 (trivial)).weak ⟨rfl, rfl, rfl, rfl, trivial⟩
  intro _
  refine WpG.g tabOK 3 rfl ?_
  refine WpG.y rfl rfl rfl rfl (RunY.loadBox (ci := 0) tabOK rfl rfl rfl rfl) ?_
  refine WpG.buildSlice (xs := [.int .i64 ((takeAt o i).1), .int .i64 ((takeAt o i).2)]) tabOK rfl rfl rfl rfl rfl rfl rfl rfl rfl rfl (fun b9 => ?_)
  refine WpG.append (ci := 2) tabOK rfl rfl rfl rfl rfl rfl rfl rfl rfl rfl rfl rfl (Src.own (ci := 0) rfl) (by omega) (fun A11 c12 => ?_)
  refine WpG.dropL (L' := [Chunk.box b3 [.int .i64 ((takeAt o i).1), .int .i64 ((takeAt o i).2)] 81, Chunk.own 81 2 A11 c12 (n5 + 1) ((flatP ps) ++ [.int .i64 ((takeAt o i).1), .int .i64 ((takeAt o i).2)])]) (.cons _ (.cons_cons _ (.cons_cons _ .slnil))) ?_
  refine WpG.setL (L' := [Chunk.box b3 [.int .i64 ((takeAt o i).1), .int .i64 ((takeAt o i).2)] 81, Chunk.own 81 2 A11 c12 (n5 + 1) (flatP (ps ++ [((takeAt o i).1, (takeAt o i).2)]))]) (by rw [flatP_snoc]) ?_
  refine WpG.gw tabOK 6 15 rfl (wrk (x := i + 1) (by omega) (by omega)) ?_
  refine WpG.g tabOK 3 rfl ?_
  refine WpG.dropL (L' := [Chunk.own 81 2 A11 c12 (n5 + 1) (flatP (ps ++ [((takeAt o i).1, (takeAt o i).2)]))]) (.cons _ (.cons_cons _ .slnil)) ?_
  refine WpG.wk (ih1 (i + 1) A11 (n5 + 1) c12 (ps ++ [((takeAt o i).1, (takeAt o i).2)]) ?_ ?_) rfl
  ·dsimp only
   omega
  clear ih1
  show 0 ≤ (i + 1) ∧ (i + 1) ≤ o.args.length ∧ (n5 + 1) = (i + 1) ∧ (ps ++ [((takeAt o i).1, (takeAt o i).2)]) = (takesD o).take (i + 1).toNat
  exact tk_back q8 i0 i3 i4 q13 rfl
 obtain rfl : n5 = o.args.length := by omega
 obtain rfl : ps = takesD o := by rw [i4, List.take_of_length_le (by rw [may_len q8]; omega)]
 refine WpG.g tabOK 7 rfl ?_
 refine WpG.ownCap (ci := 0) rfl (fun uz13 => ?_)
 refine WpG.freezeOwn (ci := 0) rfl (fun H13 hH13 fz13 => ?_)
 have rz13 : RdS H13 A5 (takesD o) := RdS.of_own (H := H2) (show RdL H2 (flatP (takesD o)) (takesD o) from RdL_pairs _ (AllP_takes k_o_1 k_o_2 k_o_4)) ((may_len q8).symm) (by rw [may_len q8]; omega) hH13 fz13
 exact WpG.ret tabOK (L' := []) (.tmp rfl .nil) .slnil (Takes_ret (by simp [takesF, q8]) (may_len q8).symm rz13)
theorem rGives_calls {H : Hp} {o : OpD} {cs_o : List Value} (rd_o : Rdc.rd H cs_o o) : CallG Tryz.prog 82 [.agg cs_o.toArray] H [] (fun v H' L' => v = .tuple #[.int .i64 (givesF o).1, .int .i64 (givesF o).2] ∧ L' = []) := by
 have rd_o' := rd_o; obtain ⟨A_o_4, c_o_4, rfl, u_o_4, r_o_4, k_o_0, k_o_1, k_o_2, k_o_3, k_o_4⟩ := rd_o
 refine CallG.of Tryz.func82 rfl rfl rfl fun w0 => ?_
 refine WpG.g tabOK 2 rfl ?_
 refine WpG.box rfl rfl rfl rfl rfl (fun b1 => ?_)
 refine WpG.freezeBox (ci := 0) rfl (fun H2 hH2 hc2 => ?_)
 refine WpG.g tabOK 5 rfl ?_
 apply WpG.join (G := [(1, .pointer (some ⟨b1, 0, none⟩)), (16, .bool (((!(mayO o)) || (o.kind == 17)) || (o.kind == 19)))])
 ·intro nx3
  refine WpG.g tabOK 1 rfl ?_
  refine WpG.y rfl rfl rfl rfl (RunY.loadH tabOK hc2 hlr rfl rfl rfl rfl) ?_
  refine WpG.callS rfl rfl rfl rfl rfl rfl hlr (rMayO_calls (Rdc.mono hH2 rd_o')) ?_
  refine WpG.g tabOK 2 rfl ?_
  refine WpG.caseBn (t := 7) rfl (fun q7 => ?_) (fun q7 => ?_)
  ·refine WpG.g tabOK 10 rfl ?_
   exact nx3.weak ⟨rfl, bq (by simp [q7]), trivial⟩
  refine WpG.g tabOK 1 rfl ?_
  refine WpG.y rfl rfl rfl rfl (RunY.loadH tabOK (hc2.sub 0 1) hlr rfl rfl rfl rfl) ?_
  refine WpG.g tabOK 3 rfl ?_
  refine WpG.caseE (t := 12) rfl (fun q12 => ?_) (fun q12 => ?_)
  ·refine WpG.g tabOK 5 rfl ?_
   exact nx3.weak ⟨rfl, bq (by simp [q7, q12]), trivial⟩
  refine WpG.g tabOK 1 rfl ?_
  refine WpG.y rfl rfl rfl rfl (RunY.loadH tabOK (hc2.sub 0 1) hlr rfl rfl rfl rfl) ?_
  refine WpG.g tabOK 3 rfl ?_
  exact nx3.weak ⟨rfl, bq (by simp [q7, q12, nb q12]), trivial⟩
 refine WpG.caseB (t := 16) rfl (fun q16 => ?_) (fun q16 => ?_)
 ·refine WpG.g tabOK 6 rfl ?_
  exact WpG.ret tabOK (L' := []) (.tmp rfl (.tmp rfl .nil)) .slnil (Gives_ret (gives_a q16) rfl)
 refine WpG.g tabOK 4 rfl ?_
 apply WpG.join (G := [(1, .pointer (some ⟨b1, 0, none⟩)), (24, .bool ((decide (o.kind ≥ 10)) && (decide (o.kind ≤ 12))))])
 ·intro nx4
  refine WpG.g tabOK 1 rfl ?_
  refine WpG.g tabOK 1 rfl ?_
  refine WpG.y rfl rfl rfl rfl (RunY.loadH tabOK (hc2.sub 0 1) hlr rfl rfl rfl rfl) ?_
  refine WpG.g tabOK 2 rfl ?_
  refine WpG.caseD (t := 20) rfl (fun q20 => ?_) (fun q20 => ?_)
  ·refine WpG.g tabOK 1 rfl ?_
   refine WpG.y rfl rfl rfl rfl (RunY.loadH tabOK (hc2.sub 0 1) hlr rfl rfl rfl rfl) ?_
   refine WpG.g tabOK 3 rfl ?_
   exact nx4.weak ⟨rfl, bq (by simp [q20]), trivial⟩
  refine WpG.g tabOK 5 rfl ?_
  exact nx4.weak ⟨rfl, bq (by simp [q20]), trivial⟩
 refine WpG.caseB (t := 24) rfl (fun q24 => ?_) (fun q24 => ?_)
 ·refine WpG.g tabOK 6 rfl ?_
  exact WpG.ret tabOK (L' := []) (.tmp rfl (.tmp rfl .nil)) .slnil (Gives_ret (gives_b q16 q24) rfl)
 refine WpG.g tabOK 6 rfl ?_
 refine WpG.y rfl rfl rfl rfl (RunY.loadH tabOK (hc2.sub 0 1) hlr rfl rfl rfl rfl) ?_
 refine WpG.g tabOK 2 rfl ?_
 refine WpG.caseE (t := 27) rfl (fun q27 => ?_) (fun q27 => ?_)
 ·refine WpG.g tabOK 4 rfl ?_
  refine WpG.y rfl rfl rfl rfl (RunY.loadH tabOK (hc2.sub 1 1) hlr rfl rfl rfl rfl) ?_
  refine WpG.g tabOK 3 rfl ?_
  exact WpG.ret tabOK (L' := []) (.tmp rfl (.tmp rfl .nil)) .slnil (Gives_ret (gives_c q16 q24 q27) rfl)
 refine WpG.g tabOK 3 rfl ?_
 refine WpG.draw 6 [] mixed (by kernel_rfl) ?_
 refine WpD.g (listed' := lst 6 5) tabOK [0, 2] (by kernel_rfl) rfl hH2 hlr .slnil ?_
 refine WpD.y (i := 1) (fuel := 3) (listed' := lst 6 7) (by kernel_rfl) rfl rfl rfl rfl hH2 hlr .slnil (RunY.loadH tabOK (hc2.sub 1 1) hlr rfl rfl rfl rfl) ?_
 refine WpD.g (listed' := lst 6 23) tabOK [4] (by kernel_rfl) rfl hH2 hlr .slnil ?_
 refine WpD.y (i := 3) (fuel := 1) (listed' := lst 6 31) (by kernel_rfl) rfl rfl rfl rfl hH2 hlr .slnil (RunY.loadH tabOK (hc2.sub 2 1) hlr rfl rfl rfl rfl) ?_
 refine WpD.g (listed' := lst 6 63) tabOK [5] (by kernel_rfl) rfl hH2 hlr .slnil ?_
 refine WpD.done (by kernel_rfl) ?_
 exact WpG.ret tabOK (L' := []) (.tmp rfl (.tmp rfl .nil)) .slnil (Gives_ret (gives_d q16 q24 q27) rfl)
end Go.Proofs.YtakameggkkjcpaaGreat
namespace Go.Proofs.YtakameggkkjcpaaGreat
open Go Go.RowKit
theorem list_yes {l : List Int} (h : l.all numOK = true) : decide ((l.length : Int) ≤ 64) = listOK l := by
  unfold listOK; rw [h, Bool.and_true]; exact decide_eq_decide.2 (by omega)
theorem list_no {l : List Int} (h : l.all numOK = false) : false = listOK l := by unfold listOK; rw [h, Bool.and_false]
def head4 (f : FuncD) : Bool := (f.blocks.length : Int) == 0 || decide ((f.blocks.length : Int) > 64) || decide ((f.params.length : Int) > 16) || !listOK f.params || !numOK f.ret || decide (sizeF f > 512)
theorem may4 (f : FuncD) : mayF f = (!head4 f && f.blocks.all blockOK) := by
  unfold mayF head4 listOK
  have e : ((f.blocks.length : Int) == 0) = decide ((f.blocks.length : Int) < 1) := by rw [Bool.eq_iff_iff, beq_iff_eq, decide_eq_true_iff]; omega
  rw [e]
  by_cases h1 : (f.params.length : Int) > 16
  · simp [h1]
  · have h2 : decide (f.params.length ≤ 64) = true := by simp; omega
    rw [h2, decide_eq_false h1]
    cases decide ((f.blocks.length : Int) < 1) <;> cases decide ((f.blocks.length : Int) > 64) <;> cases decide (sizeF f > 512) <;> cases h : numOK f.ret <;> cases f.params.all numOK <;> cases f.blocks.all blockOK <;> simp [h]
theorem may4_head {f : FuncD} (h : head4 f = true) : false = mayF f := by rw [may4, h]; rfl
theorem may4_no {f : FuncD} (h : head4 f = false) (h2 : f.blocks.all blockOK = false) : false = mayF f := by rw [may4, h, h2]; rfl
theorem may4_yes {f : FuncD} (h : head4 f = false) (h2 : f.blocks.all blockOK = true) : true = mayF f := by rw [may4, h, h2]; rfl
def badP (p : PhiD) : Bool := !numOK p.bits || !numOK p.dst || !listOK p.frm || !listOK p.args
theorem badP_eq (p : PhiD) : phiOK p = !badP p := by
  unfold phiOK badP; simp only [List.all_cons, List.all_nil, Bool.and_true]
  cases numOK p.bits <;> cases numOK p.dst <;> cases listOK p.frm <;> cases listOK p.args <;> rfl
def badO (o : OpD) : Bool := !numOK o.kind || !numOK o.bits || !numOK o.lanes || !numOK o.dst || !listOK o.args
theorem badO_eq (o : OpD) : opOK o = !badO o := by
  unfold opOK badO; simp only [List.all_cons, List.all_nil, Bool.and_true]
  cases numOK o.kind <;> cases numOK o.bits <;> cases numOK o.lanes <;> cases numOK o.dst <;> cases listOK o.args <;> rfl
def badE (e : EndD) : Bool := !numOK e.kind || !numOK e.arg || !listOK e.to
theorem badE_eq (e : EndD) : endOK e = !badE e := by
  unfold endOK badE; simp only [List.all_cons, List.all_nil, Bool.and_true]
  cases numOK e.kind <;> cases numOK e.arg <;> cases listOK e.to <;> rfl
theorem badP_t {p : PhiD} (h : badP p = true) : phiOK p = false := by rw [badP_eq, h]; rfl
theorem badP_f {p : PhiD} (h : badP p = false) : phiOK p = true := by rw [badP_eq, h]; rfl
theorem badO_t {p : OpD} (h : badO p = true) : opOK p = false := by rw [badO_eq, h]; rfl
theorem badO_f {p : OpD} (h : badO p = false) : opOK p = true := by rw [badO_eq, h]; rfl
theorem block_p {b : BlockD} (h : b.phis.all phiOK = false) : blockOK b = false := by unfold blockOK; rw [h]; rfl
theorem block_o {b : BlockD} (h : b.ops.all opOK = false) : blockOK b = false := by unfold blockOK; rw [h]; simp
theorem block_e {b : BlockD} (h : badE b.en = true) : blockOK b = false := by unfold blockOK; rw [badE_eq, h]; simp
theorem block_y {b : BlockD} (h1 : b.phis.all phiOK = true) (h2 : b.ops.all opOK = true) (h : badE b.en = false) : blockOK b = true := by unfold blockOK; rw [badE_eq, h, h1, h2]; rfl
def hasD (l : List Int) (x : Int) : Bool := l.any fun y => y == x
theorem hasD_iff {l : List Int} {x : Int} : hasD l x = true ↔ x ∈ l := by simp [hasD]
theorem has_step {l : List Int} {i x y : Int} {r : Bool} (h : r = hasD (l.drop i.toNat) x) (h0 : 0 ≤ i) (h1 : i < l.length) (hy : y = nth l i) (hp : y ≠ x) : r = hasD (l.drop (i + 1).toNat) x := by
  rw [h, drop_nth h0 h1, ← hy, toNat_succ h0]; simp [hasD, hp]
theorem has_yes {l : List Int} {i x y : Int} {r : Bool} (h : r = hasD (l.drop i.toNat) x) (h0 : 0 ≤ i) (h1 : i < l.length) (hy : y = nth l i) (hp : y = x) : true = r := by
  rw [h, drop_nth h0 h1, ← hy]; simp [hasD, hp]
theorem has_no {l : List Int} {i x : Int} {r : Bool} (h : r = hasD (l.drop i.toNat) x) (h0 : 0 ≤ i) (h1 : ¬ i < l.length) : false = r := by
  rw [h, drop_end h0 h1]; rfl
theorem eqLL_no {l m : List (List Int)} {i : Int} {r : Bool} (hl : l.length = m.length) (h : r = eqLL (l.drop i.toNat) (m.drop i.toNat)) (h0 : 0 ≤ i) (h1 : i < l.length) (hp : eqL (nth l i) (nth m i) = false) : r = false := by
  rw [h, drop_nth h0 h1, drop_nth h0 (by omega)]; simp only [eqLL, hp, Bool.false_and]
theorem eqLL_step {l m : List (List Int)} {i : Int} {r : Bool} (hl : l.length = m.length) (h : r = eqLL (l.drop i.toNat) (m.drop i.toNat)) (h0 : 0 ≤ i) (h1 : i < l.length) (hp : eqL (nth l i) (nth m i) = true) : r = eqLL (l.drop (i + 1).toNat) (m.drop (i + 1).toNat) := by
  rw [h, drop_nth h0 h1, drop_nth h0 (by omega), toNat_succ h0]; simp only [eqLL, hp, Bool.true_and]
theorem eqLL_end {l m : List (List Int)} {i : Int} {r : Bool} (hl : l.length = m.length) (h : r = eqLL (l.drop i.toNat) (m.drop i.toNat)) (h0 : 0 ≤ i) (h1 : ¬ i < l.length) : r = true := by
  rw [h, drop_end h0 h1, drop_end h0 (by omega)]; rfl
def sameG (a b : GraphD) : Bool := eqLL a.succ b.succ && eqLL a.pred b.pred
theorem sameG_len {a b : GraphD} (h : (a.succ.length : Int) ≠ b.succ.length ∨ (a.pred.length : Int) ≠ b.pred.length) : false = sameG a b := by
  unfold sameG
  rcases h with h | h
  · rw [eqLL_len (by omega)]; rfl
  · rw [eqLL_len (l := a.pred) (by omega)]; simp
theorem mayG_same {g : GraphD} (h : (makeD g.succ).2 = 0) : sameG (makeD g.succ).1 g = mayG g := by
  unfold mayG sameG
  have e : (makeD g.succ).1.succ = g.succ := by
    unfold makeD at h ⊢; split at h
    · rename_i h2; rw [if_pos h2]
    · simp at h
  have e2 : eqLL g.succ g.succ = true := eqLL_eq.2 rfl
  rw [e, e2, h]; rfl
theorem mayG_no {g : GraphD} (h : (makeD g.succ).2 ≠ 0) : false = mayG g := by unfold mayG; rw [nb h]; rfl
end Go.Proofs.YtakameggkkjcpaaGreat
set_option maxRecDepth 4000
namespace Go.Proofs.YtakameggkkjcpaaGreat
open Go Go.RowKit
theorem rnum_calls {H : Hp} (n : Int) : CallG Tryz.prog 77 [.int .i64 n] H [] (fun v _ L' => v = .bool (numOK n) ∧ L' = []) := by
 refine CallG.of Tryz.func77 rfl rfl rfl fun w0 => ?_
 refine WpG.g tabOK 5 rfl ?_
 apply WpG.join (G := [(2, .bool ((decide (n ≥ 0)) && (decide (n ≤ 2147483647))))])
 ·intro nx1
  refine WpG.g tabOK 1 rfl ?_
  refine WpG.g tabOK 3 rfl ?_
  refine WpG.caseD (t := 5) rfl (fun q5 => ?_) (fun q5 => ?_)
  ·refine WpG.g tabOK 5 rfl ?_
   exact nx1.weak ⟨bq (by simp [q5]), trivial⟩
  refine WpG.g tabOK 5 rfl ?_
  exact nx1.weak ⟨bq (by simp [q5]), trivial⟩
 exact WpG.ret tabOK (L' := []) (.tmp rfl .nil) .slnil ⟨congrArg Value.bool (by rfl), rfl⟩
theorem rlist_calls {H : Hp} {A : Option Addr} {c : Nat} {l : List Int} (hl : RdS H A l) : CallG Tryz.prog 76 [.slice A l.length c] H [] (fun v _ L' => v = .bool (listOK l) ∧ L' = []) := by
 have bl := hl.1
 refine CallG.of Tryz.func76 rfl rfl rfl fun w0 => ?_
 refine WpG.g tabOK 11 rfl ?_
 refine WpG.wk (WpG.ind1 (fun (i : Int) => ⟨(l.length - i).toNat, [(0, .slice A l.length c), (3, .int .i64 i)], H, [], 0 ≤ i ∧ i ≤ l.length ∧ l.all numOK = (l.drop i.toNat).all numOK⟩) ?_ 0 ⟨by omega, by omega, rfl⟩) rfl
 intro i inv ih1
 obtain ⟨i0, i1, i2⟩ := inv
 refine WpG.g tabOK 8 rfl ?_
 refine WpG.caseD (t := 7) rfl (fun q7 => ?_) (fun q7 => ?_)
 ·refine WpG.g tabOK 8 rfl ?_
  refine WpG.indexR tabOK rfl rfl rfl rfl rfl rfl rfl rfl rfl hl (by omega) (by omega) ?_
  rintro x1 hx1 b1 o1 _ ⟨rfl, k1⟩ hc1
  refine WpG.y rfl rfl rfl rfl (RunY.loadH tabOK hc1 hlr rfl rfl rfl rfl) ?_
  refine WpG.callS rfl rfl rfl rfl rfl rfl hlr (rnum_calls x1) ?_
  refine WpG.g tabOK 2 rfl ?_
  refine WpG.caseBn (t := 15) rfl (fun q15 => ?_) (fun q15 => ?_)
  ·refine WpG.g tabOK 5 rfl ?_
   exact WpG.ret tabOK (L' := []) (.tmp rfl .nil) .slnil ⟨congrArg Value.bool (by clear ih1; exact list_no (all_no i2 i0 q7 hx1 q15)), rfl⟩
  refine WpG.gw tabOK 6 9 rfl (wrk (x := i + 1) (by omega) (by omega)) ?_
  refine WpG.g tabOK 3 rfl ?_
  refine WpG.wk (ih1 (i + 1) ?_ ?_) rfl
  ·dsimp only
   omega
  clear ih1
  exact ⟨by omega, by omega, all_step i2 i0 q7 hx1 q15⟩
 refine WpG.g tabOK 9 rfl ?_
 exact WpG.ret tabOK (L' := []) (.tmp rfl .nil) .slnil ⟨congrArg Value.bool (by clear ih1; exact list_yes (all_end i2 i0 q7)), rfl⟩
theorem rSize_calls {H : Hp} {f : FuncD} {cs_f : List Value} (rd_f : Rdc.rd H cs_f f) (hs : f.blocks.length ≤ 64) : CallG Tryz.prog 78 [.agg cs_f.toArray] H [] (fun v _ L' => v = .int .i64 (sizeF f) ∧ L' = []) := by
 have rd_f' := rd_f; obtain ⟨A_f_0, c_f_0, A_f_2, c_f_2, rfl, u_f_0, r_f_0, u_f_2, r_f_2, k_f_0⟩ := rd_f
 refine CallG.of Tryz.func78 rfl rfl rfl fun w0 => ?_
 refine WpG.g tabOK 2 rfl ?_
 refine WpG.box rfl rfl rfl rfl rfl (fun b1 => ?_)
 refine WpG.freezeBox (ci := 0) rfl (fun H2 hH2 hc2 => ?_)
 refine WpG.g tabOK 13 rfl ?_
 refine WpG.wk (WpG.ind2 (fun (i : Int) (n : Int) => ⟨(f.blocks.length - i).toNat, [(1, .pointer (some ⟨b1, 0, none⟩)), (3, .int .i64 n), (4, .int .i64 i)], H2, [], 0 ≤ i ∧ i ≤ f.blocks.length ∧ 0 ≤ n ∧ n ≤ i * 562949953421313 ∧ sizeF f = n + (f.blocks.length - i) + ((f.blocks.drop i.toNat).map blockSz).sum⟩) ?_ 0 0 ⟨by omega, by omega, by omega, by omega, by unfold sizeF; simp⟩) rfl
 intro i n inv ih1
 obtain ⟨i0, i1, i2, i3, i4⟩ := inv
 refine WpG.g tabOK 5 rfl ?_
 refine WpG.y rfl rfl rfl rfl (RunY.loadH tabOK (hc2.sub 2 1) hlr rfl rfl rfl rfl) ?_
 refine WpG.g tabOK 3 rfl ?_
 refine WpG.caseD (t := 9) rfl (fun q9 => ?_) (fun q9 => ?_)
 ·refine WpG.g tabOK 4 rfl ?_
  refine WpG.draw 19 [] mixed (by kernel_rfl) ?_
  refine WpD.g (listed' := lst 19 2571) tabOK [0, 1, 3, 9, 11] (by kernel_rfl) rfl hH2 hlr .slnil ?_
  refine WpD.y (i := 2) (fuel := 13) (listed' := lst 19 2575) (by kernel_rfl) rfl rfl rfl rfl hH2 hlr .slnil (RunY.loadH tabOK (hc2.sub 2 1) hlr rfl rfl rfl rfl) ?_
  refine WpD.indexR (i := 4) (fuel := 12) (listed' := lst 19 2591) tabOK (by kernel_rfl) rfl rfl rfl rfl rfl rfl rfl rfl rfl hH2 hlr .slnil r_f_2 (by omega) (by omega) ?_
  rintro x3 hx3 b3 o3 cs3 rd3 hc3
  have rd3' := rd3; obtain ⟨A3_0, c3_0, A3_1, c3_1, A3_4, c3_4, rfl, u3_0, r3_0, u3_1, r3_1, u3_4, r3_4, k3_0, k3_1⟩ := rd3
  have bz3_0 := r3_0.1
  have bz3_1 := r3_1.1
  have bz3_4 := r3_4.1
  obtain rfl : x3 = (nth f.blocks i) := hx3
  refine WpD.g (listed' := lst 19 2623) tabOK [5] (by kernel_rfl) rfl hH2 hlr .slnil ?_
  refine WpD.y (i := 6) (fuel := 10) (listed' := lst 19 2687) (by kernel_rfl) rfl rfl rfl rfl hH2 hlr .slnil (RunY.loadH tabOK (hc3.sub 0 1) hH2 rfl rfl rfl rfl) ?_
  refine WpD.gw (listed' := lst 19 3071) tabOK [7, 8] 20 (by kernel_rfl) rfl (wrk (x := n + ((nth f.blocks i).phis.length : Int)) (by omega) (by omega)) hH2 hlr .slnil ?_
  refine WpD.y (i := 10) (fuel := 7) (listed' := lst 19 4095) (by kernel_rfl) rfl rfl rfl rfl hH2 hlr .slnil (RunY.loadH tabOK (hc2.sub 2 1) hlr rfl rfl rfl rfl) ?_
  refine WpD.indexR (i := 12) (fuel := 6) (listed' := lst 19 8191) tabOK (by kernel_rfl) rfl rfl rfl rfl rfl rfl rfl rfl rfl hH2 hlr .slnil r_f_2 (by omega) (by omega) ?_
  rintro x4 hx4 b4 o4 cs4 rd4 hc4
  have rd4' := rd4; obtain ⟨A4_0, c4_0, A4_1, c4_1, A4_4, c4_4, rfl, u4_0, r4_0, u4_1, r4_1, u4_4, r4_4, k4_0, k4_1⟩ := rd4
  have bz4_0 := r4_0.1
  have bz4_1 := r4_1.1
  have bz4_4 := r4_4.1
  obtain rfl : x4 = (nth f.blocks i) := hx4
  refine WpD.g (listed' := lst 19 16383) tabOK [13] (by kernel_rfl) rfl hH2 hlr .slnil ?_
  refine WpD.y (i := 14) (fuel := 4) (listed' := lst 19 32767) (by kernel_rfl) rfl rfl rfl rfl hH2 hlr .slnil (RunY.loadH tabOK (hc4.sub 1 1) hH2 rfl rfl rfl rfl) ?_
  refine WpD.gw (listed' := lst 19 131071) tabOK [15, 16] 28 (by kernel_rfl) rfl (wrk (x := (n + ((nth f.blocks i).phis.length : Int)) + ((nth f.blocks i).ops.length : Int)) (by omega) (by omega)) hH2 hlr .slnil ?_
  refine WpD.gw (listed' := lst 19 262143) tabOK [17] 29 (by kernel_rfl) rfl (wrk (x := ((n + ((nth f.blocks i).phis.length : Int)) + ((nth f.blocks i).ops.length : Int)) + 1) (by omega) (by omega)) hH2 hlr .slnil ?_
  refine WpD.g (listed' := lst 19 524287) tabOK [18] (by kernel_rfl) rfl hH2 hlr .slnil ?_
  refine WpD.done (by kernel_rfl) ?_
  refine WpG.gw tabOK 4 11 rfl (wrk (x := i + 1) (by omega) (by omega)) ?_
  refine WpG.g tabOK 3 rfl ?_
  refine WpG.wk (ih1 (i + 1) (((n + ((nth f.blocks i).phis.length : Int)) + ((nth f.blocks i).ops.length : Int)) + 1) ?_ ?_) rfl
  ·dsimp only
   omega
  clear ih1
  refine ⟨by omega, by omega, by omega, by omega, ?_⟩
  rw [i4, sum_drop _ i0 q9, toNat_succ i0]; simp only [blockSz]; omega
 refine WpG.g tabOK 7 rfl ?_
 exact WpG.ret tabOK (L' := []) (.tmp rfl .nil) .slnil ⟨congrArg (Value.int .i64) (by clear ih1; rw [i4, drop_end i0 q9]; simp; omega), rfl⟩
theorem rMayF_calls {H : Hp} {f : FuncD} {cs_f : List Value} (rd_f : Rdc.rd H cs_f f) : CallG Tryz.prog 42 [.agg cs_f.toArray] H [] (fun v _ L' => v = .bool (mayF f) ∧ L' = []) := by
 have rd_f' := rd_f; obtain ⟨A_f_0, c_f_0, A_f_2, c_f_2, rfl, u_f_0, r_f_0, u_f_2, r_f_2, k_f_0⟩ := rd_f
 have bf := r_f_2.1
 refine CallG.of Tryz.func42 rfl rfl rfl fun w0 => ?_
 refine WpG.g tabOK 2 rfl ?_
 refine WpG.box rfl rfl rfl rfl rfl (fun b1 => ?_)
 refine WpG.freezeBox (ci := 0) rfl (fun H2 hH2 hc2 => ?_)
 refine WpG.g tabOK 4 rfl ?_
 apply WpG.join (G := [(1, .pointer (some ⟨b1, 0, none⟩)), (41, .bool (((((((f.blocks.length : Int) == 0) || (decide ((f.blocks.length : Int) > 64))) || (decide ((f.params.length : Int) > 16))) || (!(listOK f.params))) || (!(numOK f.ret))) || (decide ((sizeF f) > 512))))])
 ·intro nx3
  refine WpG.g tabOK 1 rfl ?_
  refine WpG.g tabOK 1 rfl ?_
  refine WpG.y rfl rfl rfl rfl (RunY.loadH tabOK (hc2.sub 2 1) hlr rfl rfl rfl rfl) ?_
  refine WpG.g tabOK 3 rfl ?_
  refine WpG.caseE (t := 13) rfl (fun q13 => ?_) (fun q13 => ?_)
  ·refine WpG.g tabOK 29 rfl ?_
   exact nx3.weak ⟨rfl, bq (by simp [q13]), trivial⟩
  refine WpG.g tabOK 1 rfl ?_
  refine WpG.y rfl rfl rfl rfl (RunY.loadH tabOK (hc2.sub 2 1) hlr rfl rfl rfl rfl) ?_
  refine WpG.g tabOK 4 rfl ?_
  refine WpG.caseD (t := 19) rfl (fun q19 => ?_) (fun q19 => ?_)
  ·refine WpG.g tabOK 23 rfl ?_
   exact nx3.weak ⟨rfl, bq (by simp [q13, nb q13, q19]), trivial⟩
  refine WpG.g tabOK 1 rfl ?_
  refine WpG.y rfl rfl rfl rfl (RunY.loadH tabOK (hc2.sub 0 1) hlr rfl rfl rfl rfl) ?_
  refine WpG.g tabOK 4 rfl ?_
  refine WpG.caseD (t := 25) rfl (fun q25 => ?_) (fun q25 => ?_)
  ·refine WpG.g tabOK 17 rfl ?_
   exact nx3.weak ⟨rfl, bq (by simp [q13, nb q13, q19, q25]), trivial⟩
  refine WpG.g tabOK 1 rfl ?_
  refine WpG.y rfl rfl rfl rfl (RunY.loadH tabOK (hc2.sub 0 1) hlr rfl rfl rfl rfl) ?_
  refine WpG.callS rfl rfl rfl rfl rfl rfl hlr (rlist_calls (r_f_0.mono hH2)) ?_
  refine WpG.g tabOK 3 rfl ?_
  refine WpG.caseBn (t := 31) rfl (fun q31 => ?_) (fun q31 => ?_)
  ·refine WpG.g tabOK 11 rfl ?_
   exact nx3.weak ⟨rfl, bq (by simp [q13, nb q13, q19, q25, q31]), trivial⟩
  refine WpG.g tabOK 1 rfl ?_
  refine WpG.y rfl rfl rfl rfl (RunY.loadH tabOK (hc2.sub 1 1) hlr rfl rfl rfl rfl) ?_
  refine WpG.callS rfl rfl rfl rfl rfl rfl hlr (rnum_calls f.ret) ?_
  refine WpG.g tabOK 3 rfl ?_
  refine WpG.caseBn (t := 37) rfl (fun q37 => ?_) (fun q37 => ?_)
  ·refine WpG.g tabOK 5 rfl ?_
   exact nx3.weak ⟨rfl, bq (by simp [q13, nb q13, q19, q25, q31, q37]), trivial⟩
  refine WpG.y rfl rfl rfl rfl (RunY.loadH tabOK hc2 hlr rfl rfl rfl rfl) ?_
  refine WpG.callS rfl rfl rfl rfl rfl rfl hlr (rSize_calls (Rdc.mono hH2 rd_f') (by omega)) ?_
  refine WpG.g tabOK 3 rfl ?_
  exact nx3.weak ⟨rfl, bq (by simp [q13, nb q13, q19, q25, q31, q37]), trivial⟩
 refine WpG.caseB (t := 41) rfl (fun q41 => ?_) (fun q41 => ?_)
 ·refine WpG.g tabOK 5 rfl ?_
  exact WpG.ret tabOK (L' := []) (.tmp rfl .nil) .slnil ⟨congrArg Value.bool (by exact may4_head q41), rfl⟩
 refine WpG.g tabOK 9 rfl ?_
 refine WpG.wk (WpG.ind1 (fun (i : Int) => ⟨(f.blocks.length - i).toNat, [(1, .pointer (some ⟨b1, 0, none⟩)), (3, .int .i64 i)], H2, [], 0 ≤ i ∧ i ≤ f.blocks.length ∧ f.blocks.all blockOK = (f.blocks.drop i.toNat).all blockOK⟩) ?_ 0 ⟨by omega, by omega, rfl⟩) rfl
 intro i inv ih1
 obtain ⟨i0, i1, i2⟩ := inv
 refine WpG.g tabOK 5 rfl ?_
 refine WpG.y rfl rfl rfl rfl (RunY.loadH tabOK (hc2.sub 2 1) hlr rfl rfl rfl rfl) ?_
 refine WpG.g tabOK 3 rfl ?_
 refine WpG.caseD (t := 46) rfl (fun q46 => ?_) (fun q46 => ?_)
 ·refine WpG.g tabOK 7 rfl ?_
  refine WpG.y rfl rfl rfl rfl (RunY.loadH tabOK (hc2.sub 2 1) hlr rfl rfl rfl rfl) ?_
  refine WpG.g tabOK 1 rfl ?_
  refine WpG.indexR tabOK rfl rfl rfl rfl rfl rfl rfl rfl rfl r_f_2 (by omega) (by omega) ?_
  rintro x4 hx4 b4 o4 cs4 rd4 hc4
  have rd4' := rd4; obtain ⟨A4_0, c4_0, A4_1, c4_1, A4_4, c4_4, rfl, u4_0, r4_0, u4_1, r4_1, u4_4, r4_4, k4_0, k4_1⟩ := rd4
  have bz4_0 := r4_0.1
  have bz4_1 := r4_1.1
  have bz4_4 := r4_4.1
  obtain rfl : x4 = (nth f.blocks i) := hx4
  refine WpG.y rfl rfl rfl rfl (RunY.loadH tabOK hc4 hH2 rfl rfl rfl rfl) ?_
  refine WpG.alloc tabOK rfl rfl rfl rfl rfl (fun b5 => ?_)
  refine WpG.storeBox (ci := 0) (cs' := [.slice A4_0 ((nth f.blocks i).phis.length) c4_0, .slice A4_1 ((nth f.blocks i).ops.length) c4_1, .int .i64 ((nth f.blocks i).en.kind), .int .i64 ((nth f.blocks i).en.arg), .slice A4_4 ((nth f.blocks i).en.to.length) c4_4]) tabOK rfl rfl rfl rfl rfl rfl rfl rfl rfl ?_
  refine WpG.freezeBox (ci := 0) rfl (fun H6 hH6 hc6 => ?_)
  refine WpG.g tabOK 8 rfl ?_
  refine WpG.wk (WpG.ind1 (fun (j : Int) => ⟨((nth f.blocks i).phis.length - j).toNat, [(1, .pointer (some ⟨b1, 0, none⟩)), (3, .int .i64 i), (4, .pointer (some ⟨b5, 0, none⟩)), (5, .int .i64 j)], H6, [], 0 ≤ j ∧ j ≤ (nth f.blocks i).phis.length ∧ (nth f.blocks i).phis.all phiOK = ((nth f.blocks i).phis.drop j.toNat).all phiOK⟩) ?_ 0 ⟨by omega, by omega, rfl⟩) rfl
  intro j inv ih2
  obtain ⟨j0, j1, j2⟩ := inv
  refine WpG.g tabOK 5 rfl ?_
  refine WpG.y rfl rfl rfl rfl (RunY.loadH tabOK (hc6.sub 0 1) hlr rfl rfl rfl rfl) ?_
  refine WpG.g tabOK 3 rfl ?_
  refine WpG.caseD (t := 58) rfl (fun q58 => ?_) (fun q58 => ?_)
  ·refine WpG.g tabOK 7 rfl ?_
   refine WpG.y rfl rfl rfl rfl (RunY.loadH tabOK (hc6.sub 0 1) hlr rfl rfl rfl rfl) ?_
   refine WpG.g tabOK 1 rfl ?_
   refine WpG.indexR tabOK rfl rfl rfl rfl rfl rfl rfl rfl rfl r4_0 (by omega) (by omega) ?_
   rintro x7 hx7 b7 o7 cs7 rd7 hc7
   have rd7' := rd7; obtain ⟨A7_2, c7_2, A7_3, c7_3, rfl, u7_2, r7_2, u7_3, r7_3, k7_0, k7_1⟩ := rd7
   have bz7_2 := r7_2.1
   have bz7_3 := r7_3.1
   obtain rfl : x7 = (nth ((nth f.blocks i).phis) j) := hx7
   refine WpG.y rfl rfl rfl rfl (RunY.loadH tabOK hc7 (hH2.trans hH6) rfl rfl rfl rfl) ?_
   refine WpG.alloc tabOK rfl rfl rfl rfl rfl (fun b8 => ?_)
   refine WpG.storeBox (ci := 0) (cs' := [.int .i64 ((nth ((nth f.blocks i).phis) j).bits), .int .i64 ((nth ((nth f.blocks i).phis) j).dst), .slice A7_2 ((nth ((nth f.blocks i).phis) j).frm.length) c7_2, .slice A7_3 ((nth ((nth f.blocks i).phis) j).args.length) c7_3]) tabOK rfl rfl rfl rfl rfl rfl rfl rfl rfl ?_
   refine WpG.freezeBox (ci := 0) rfl (fun H9 hH9 hc9 => ?_)
   refine WpG.g tabOK 2 rfl ?_
   apply WpG.join (G := [(1, .pointer (some ⟨b1, 0, none⟩)), (3, .int .i64 i), (4, .pointer (some ⟨b5, 0, none⟩)), (5, .int .i64 j), (87, .bool ((((!(numOK ((nth ((nth f.blocks i).phis) j).bits))) || (!(numOK ((nth ((nth f.blocks i).phis) j).dst)))) || (!(listOK ((nth ((nth f.blocks i).phis) j).frm)))) || (!(listOK ((nth ((nth f.blocks i).phis) j).args)))))])
   ·intro nx10
    refine WpG.g tabOK 1 rfl ?_
    refine WpG.g tabOK 1 rfl ?_
    refine WpG.y rfl rfl rfl rfl (RunY.loadH tabOK (hc9.sub 0 1) hlr rfl rfl rfl rfl) ?_
    refine WpG.callS rfl rfl rfl rfl rfl rfl hlr (rnum_calls ((nth ((nth f.blocks i).phis) j).bits)) ?_
    refine WpG.g tabOK 2 rfl ?_
    refine WpG.caseBn (t := 70) rfl (fun q70 => ?_) (fun q70 => ?_)
    ·refine WpG.g tabOK 18 rfl ?_
     exact nx10.weak ⟨rfl, rfl, rfl, rfl, bq (by simp [q70]), trivial⟩
    refine WpG.g tabOK 1 rfl ?_
    refine WpG.y rfl rfl rfl rfl (RunY.loadH tabOK (hc9.sub 1 1) hlr rfl rfl rfl rfl) ?_
    refine WpG.callS rfl rfl rfl rfl rfl rfl hlr (rnum_calls ((nth ((nth f.blocks i).phis) j).dst)) ?_
    refine WpG.g tabOK 3 rfl ?_
    refine WpG.caseBn (t := 76) rfl (fun q76 => ?_) (fun q76 => ?_)
    ·refine WpG.g tabOK 12 rfl ?_
     exact nx10.weak ⟨rfl, rfl, rfl, rfl, bq (by simp [q70, q76]), trivial⟩
    refine WpG.g tabOK 1 rfl ?_
    refine WpG.y rfl rfl rfl rfl (RunY.loadH tabOK (hc9.sub 2 1) hlr rfl rfl rfl rfl) ?_
    refine WpG.callS rfl rfl rfl rfl rfl rfl hlr (rlist_calls (r7_2.mono ((hH2.trans hH6).trans hH9))) ?_
    refine WpG.g tabOK 3 rfl ?_
    refine WpG.caseBn (t := 82) rfl (fun q82 => ?_) (fun q82 => ?_)
    ·refine WpG.g tabOK 6 rfl ?_
     exact nx10.weak ⟨rfl, rfl, rfl, rfl, bq (by simp [q70, q76, q82]), trivial⟩
    refine WpG.g tabOK 1 rfl ?_
    refine WpG.y rfl rfl rfl rfl (RunY.loadH tabOK (hc9.sub 3 1) hlr rfl rfl rfl rfl) ?_
    refine WpG.callS rfl rfl rfl rfl rfl rfl hlr (rlist_calls (r7_3.mono ((hH2.trans hH6).trans hH9))) ?_
    refine WpG.g tabOK 3 rfl ?_
    exact nx10.weak ⟨rfl, rfl, rfl, rfl, bq (by simp [q70, q76, q82]), trivial⟩
   refine WpG.caseB (t := 87) rfl (fun q87 => ?_) (fun q87 => ?_)
   ·refine WpG.g tabOK 5 rfl ?_
    exact WpG.ret tabOK (L' := []) (.tmp rfl .nil) .slnil ⟨congrArg Value.bool (by clear ih1 ih2; exact may4_no q41 (all_no i2 i0 q46 rfl (block_p (all_no j2 j0 q58 rfl (badP_t q87))))), rfl⟩
   refine WpG.gw tabOK 6 60 rfl (wrk (x := j + 1) (by omega) (by omega)) ?_
   refine WpG.g tabOK 3 rfl ?_
   refine WpG.lessH (hH2.trans hH6) hH9 ?_
   refine WpG.wk (ih2 (j + 1) ?_ ?_) rfl
   ·dsimp only
    omega
   clear ih1 ih2
   exact ⟨by omega, by omega, all_step j2 j0 q58 rfl (badP_f q87)⟩
  refine WpG.g tabOK 9 rfl ?_
  refine WpG.wk (WpG.ind1 (fun (k : Int) => ⟨((nth f.blocks i).ops.length - k).toNat, [(1, .pointer (some ⟨b1, 0, none⟩)), (3, .int .i64 i), (4, .pointer (some ⟨b5, 0, none⟩)), (7, .int .i64 k)], H6, [], 0 ≤ k ∧ k ≤ (nth f.blocks i).ops.length ∧ (nth f.blocks i).ops.all opOK = ((nth f.blocks i).ops.drop k.toNat).all opOK⟩) ?_ 0 ⟨by omega, by omega, rfl⟩) rfl
  intro k inv ih3
  obtain ⟨k0, k1, k2⟩ := inv
  refine WpG.g tabOK 5 rfl ?_
  refine WpG.y rfl rfl rfl rfl (RunY.loadH tabOK (hc6.sub 1 1) hlr rfl rfl rfl rfl) ?_
  refine WpG.g tabOK 3 rfl ?_
  refine WpG.caseD (t := 92) rfl (fun q92 => ?_) (fun q92 => ?_)
  ·refine WpG.g tabOK 7 rfl ?_
   refine WpG.y rfl rfl rfl rfl (RunY.loadH tabOK (hc6.sub 1 1) hlr rfl rfl rfl rfl) ?_
   refine WpG.g tabOK 1 rfl ?_
   refine WpG.indexR tabOK rfl rfl rfl rfl rfl rfl rfl rfl rfl r4_1 (by omega) (by omega) ?_
   rintro x11 hx11 b11 o11 cs11 rd11 hc11
   have rd11' := rd11; obtain ⟨A11_4, c11_4, rfl, u11_4, r11_4, k11_0, k11_1, k11_2, k11_3, k11_4⟩ := rd11
   have bz11_4 := r11_4.1
   obtain rfl : x11 = (nth ((nth f.blocks i).ops) k) := hx11
   refine WpG.y rfl rfl rfl rfl (RunY.loadH tabOK hc11 (hH2.trans hH6) rfl rfl rfl rfl) ?_
   refine WpG.alloc tabOK rfl rfl rfl rfl rfl (fun b12 => ?_)
   refine WpG.storeBox (ci := 0) (cs' := [.int .i64 ((nth ((nth f.blocks i).ops) k).kind), .int .i64 ((nth ((nth f.blocks i).ops) k).bits), .int .i64 ((nth ((nth f.blocks i).ops) k).lanes), .int .i64 ((nth ((nth f.blocks i).ops) k).dst), .slice A11_4 ((nth ((nth f.blocks i).ops) k).args.length) c11_4, .int .u64 ((nth ((nth f.blocks i).ops) k).imm)]) tabOK rfl rfl rfl rfl rfl rfl rfl rfl rfl ?_
   refine WpG.freezeBox (ci := 0) rfl (fun H13 hH13 hc13 => ?_)
   refine WpG.g tabOK 2 rfl ?_
   apply WpG.join (G := [(1, .pointer (some ⟨b1, 0, none⟩)), (3, .int .i64 i), (4, .pointer (some ⟨b5, 0, none⟩)), (7, .int .i64 k), (127, .bool (((((!(numOK ((nth ((nth f.blocks i).ops) k).kind))) || (!(numOK ((nth ((nth f.blocks i).ops) k).bits)))) || (!(numOK ((nth ((nth f.blocks i).ops) k).lanes)))) || (!(numOK ((nth ((nth f.blocks i).ops) k).dst)))) || (!(listOK ((nth ((nth f.blocks i).ops) k).args)))))])
   ·intro nx14
    refine WpG.g tabOK 1 rfl ?_
    refine WpG.g tabOK 1 rfl ?_
    refine WpG.y rfl rfl rfl rfl (RunY.loadH tabOK (hc13.sub 0 1) hlr rfl rfl rfl rfl) ?_
    refine WpG.callS rfl rfl rfl rfl rfl rfl hlr (rnum_calls ((nth ((nth f.blocks i).ops) k).kind)) ?_
    refine WpG.g tabOK 2 rfl ?_
    refine WpG.caseBn (t := 104) rfl (fun q104 => ?_) (fun q104 => ?_)
    ·refine WpG.g tabOK 24 rfl ?_
     exact nx14.weak ⟨rfl, rfl, rfl, rfl, bq (by simp [q104]), trivial⟩
    refine WpG.g tabOK 1 rfl ?_
    refine WpG.y rfl rfl rfl rfl (RunY.loadH tabOK (hc13.sub 1 1) hlr rfl rfl rfl rfl) ?_
    refine WpG.callS rfl rfl rfl rfl rfl rfl hlr (rnum_calls ((nth ((nth f.blocks i).ops) k).bits)) ?_
    refine WpG.g tabOK 3 rfl ?_
    refine WpG.caseBn (t := 110) rfl (fun q110 => ?_) (fun q110 => ?_)
    ·refine WpG.g tabOK 18 rfl ?_
     exact nx14.weak ⟨rfl, rfl, rfl, rfl, bq (by simp [q104, q110]), trivial⟩
    refine WpG.g tabOK 1 rfl ?_
    refine WpG.y rfl rfl rfl rfl (RunY.loadH tabOK (hc13.sub 2 1) hlr rfl rfl rfl rfl) ?_
    refine WpG.callS rfl rfl rfl rfl rfl rfl hlr (rnum_calls ((nth ((nth f.blocks i).ops) k).lanes)) ?_
    refine WpG.g tabOK 3 rfl ?_
    refine WpG.caseBn (t := 116) rfl (fun q116 => ?_) (fun q116 => ?_)
    ·refine WpG.g tabOK 12 rfl ?_
     exact nx14.weak ⟨rfl, rfl, rfl, rfl, bq (by simp [q104, q110, q116]), trivial⟩
    refine WpG.g tabOK 1 rfl ?_
    refine WpG.y rfl rfl rfl rfl (RunY.loadH tabOK (hc13.sub 3 1) hlr rfl rfl rfl rfl) ?_
    refine WpG.callS rfl rfl rfl rfl rfl rfl hlr (rnum_calls ((nth ((nth f.blocks i).ops) k).dst)) ?_
    refine WpG.g tabOK 3 rfl ?_
    refine WpG.caseBn (t := 122) rfl (fun q122 => ?_) (fun q122 => ?_)
    ·refine WpG.g tabOK 6 rfl ?_
     exact nx14.weak ⟨rfl, rfl, rfl, rfl, bq (by simp [q104, q110, q116, q122]), trivial⟩
    refine WpG.g tabOK 1 rfl ?_
    refine WpG.y rfl rfl rfl rfl (RunY.loadH tabOK (hc13.sub 4 1) hlr rfl rfl rfl rfl) ?_
    refine WpG.callS rfl rfl rfl rfl rfl rfl hlr (rlist_calls (r11_4.mono ((hH2.trans hH6).trans hH13))) ?_
    refine WpG.g tabOK 3 rfl ?_
    exact nx14.weak ⟨rfl, rfl, rfl, rfl, bq (by simp [q104, q110, q116, q122]), trivial⟩
   refine WpG.caseB (t := 127) rfl (fun q127 => ?_) (fun q127 => ?_)
   ·refine WpG.g tabOK 5 rfl ?_
    exact WpG.ret tabOK (L' := []) (.tmp rfl .nil) .slnil ⟨congrArg Value.bool (by clear ih1 ih2 ih3; exact may4_no q41 (all_no i2 i0 q46 rfl (block_o (all_no k2 k0 q92 rfl (badO_t q127))))), rfl⟩
   refine WpG.gw tabOK 6 94 rfl (wrk (x := k + 1) (by omega) (by omega)) ?_
   refine WpG.g tabOK 3 rfl ?_
   refine WpG.lessH (hH2.trans hH6) hH13 ?_
   refine WpG.wk (ih3 (k + 1) ?_ ?_) rfl
   ·dsimp only
    omega
   clear ih1 ih2 ih3
   exact ⟨by omega, by omega, all_step k2 k0 q92 rfl (badO_f q127)⟩
  refine WpG.g tabOK 3 rfl ?_
  apply WpG.join (G := [(1, .pointer (some ⟨b1, 0, none⟩)), (3, .int .i64 i), (146, .bool (((!(numOK ((nth f.blocks i).en.kind))) || (!(numOK ((nth f.blocks i).en.arg)))) || (!(listOK ((nth f.blocks i).en.to)))))])
  ·intro nx15
   refine WpG.g tabOK 1 rfl ?_
   refine WpG.g tabOK 2 rfl ?_
   refine WpG.y rfl rfl rfl rfl (RunY.loadH tabOK (hc6.sub 2 1) hlr rfl rfl rfl rfl) ?_
   refine WpG.callS rfl rfl rfl rfl rfl rfl hlr (rnum_calls ((nth f.blocks i).en.kind)) ?_
   refine WpG.g tabOK 2 rfl ?_
   refine WpG.caseBn (t := 133) rfl (fun q133 => ?_) (fun q133 => ?_)
   ·refine WpG.g tabOK 14 rfl ?_
    exact nx15.weak ⟨rfl, rfl, bq (by simp [q133]), trivial⟩
   refine WpG.g tabOK 2 rfl ?_
   refine WpG.y rfl rfl rfl rfl (RunY.loadH tabOK (hc6.sub 3 1) hlr rfl rfl rfl rfl) ?_
   refine WpG.callS rfl rfl rfl rfl rfl rfl hlr (rnum_calls ((nth f.blocks i).en.arg)) ?_
   refine WpG.g tabOK 3 rfl ?_
   refine WpG.caseBn (t := 140) rfl (fun q140 => ?_) (fun q140 => ?_)
   ·refine WpG.g tabOK 7 rfl ?_
    exact nx15.weak ⟨rfl, rfl, bq (by simp [q133, q140]), trivial⟩
   refine WpG.g tabOK 2 rfl ?_
   refine WpG.y rfl rfl rfl rfl (RunY.loadH tabOK (hc6.sub 4 1) hlr rfl rfl rfl rfl) ?_
   refine WpG.callS rfl rfl rfl rfl rfl rfl hlr (rlist_calls (r4_4.mono (hH2.trans hH6))) ?_
   refine WpG.g tabOK 3 rfl ?_
   exact nx15.weak ⟨rfl, rfl, bq (by simp [q133, q140]), trivial⟩
  refine WpG.caseB (t := 146) rfl (fun q146 => ?_) (fun q146 => ?_)
  ·refine WpG.g tabOK 5 rfl ?_
   exact WpG.ret tabOK (L' := []) (.tmp rfl .nil) .slnil ⟨congrArg Value.bool (by clear ih1 ih2 ih3; exact may4_no q41 (all_no i2 i0 q46 rfl (block_e q146))), rfl⟩
  refine WpG.gw tabOK 6 48 rfl (wrk (x := i + 1) (by omega) (by omega)) ?_
  refine WpG.g tabOK 3 rfl ?_
  refine WpG.lessH hH2 hH6 ?_
  refine WpG.wk (ih1 (i + 1) ?_ ?_) rfl
  ·dsimp only
   omega
  clear ih1 ih2 ih3
  exact ⟨by omega, by omega, all_step i2 i0 q46 rfl (block_y (all_end j2 j0 q58) (all_end k2 k0 q92) q146)⟩
 refine WpG.g tabOK 6 rfl ?_
 exact WpG.ret tabOK (L' := []) (.tmp rfl .nil) .slnil ⟨congrArg Value.bool (by clear ih1; exact may4_yes q41 (all_end i2 i0 q46)), rfl⟩
theorem rHas_calls {H : Hp} {A : Option Addr} {c : Nat} {l : List Int} (hl : RdS H A l) (x : Int) : CallG Tryz.prog 64 [.slice A l.length c, .int .i64 x] H [] (fun v _ L' => v = .bool (hasD l x) ∧ L' = []) := by
 have bl := hl.1
 refine CallG.of Tryz.func64 rfl rfl rfl fun w0 => ?_
 refine WpG.g tabOK 11 rfl ?_
 refine WpG.wk (WpG.ind1 (fun (i : Int) => ⟨(l.length - i).toNat, [(0, .slice A l.length c), (1, .int .i64 x), (5, .int .i64 i)], H, [], 0 ≤ i ∧ i ≤ l.length ∧ hasD l x = hasD (l.drop i.toNat) x⟩) ?_ 0 ⟨by omega, by omega, rfl⟩) rfl
 intro i inv ih1
 obtain ⟨i0, i1, i2⟩ := inv
 refine WpG.g tabOK 8 rfl ?_
 refine WpG.caseD (t := 9) rfl (fun q9 => ?_) (fun q9 => ?_)
 ·refine WpG.g tabOK 8 rfl ?_
  refine WpG.indexR tabOK rfl rfl rfl rfl rfl rfl rfl rfl rfl hl (by omega) (by omega) ?_
  rintro x1 hx1 b1 o1 _ ⟨rfl, k1⟩ hc1
  refine WpG.y rfl rfl rfl rfl (RunY.loadH tabOK hc1 hlr rfl rfl rfl rfl) ?_
  refine WpG.g tabOK 3 rfl ?_
  refine WpG.caseE (t := 17) rfl (fun q17 => ?_) (fun q17 => ?_)
  ·refine WpG.g tabOK 5 rfl ?_
   exact WpG.ret tabOK (L' := []) (.tmp rfl .nil) .slnil ⟨congrArg Value.bool (by clear ih1; exact has_yes i2 i0 q9 hx1 q17), rfl⟩
  refine WpG.gw tabOK 6 11 rfl (wrk (x := i + 1) (by omega) (by omega)) ?_
  refine WpG.g tabOK 3 rfl ?_
  refine WpG.wk (ih1 (i + 1) ?_ ?_) rfl
  ·dsimp only
   omega
  clear ih1
  exact ⟨by omega, by omega, has_step i2 i0 q9 hx1 q17⟩
 refine WpG.g tabOK 6 rfl ?_
 exact WpG.ret tabOK (L' := []) (.tmp rfl .nil) .slnil ⟨congrArg Value.bool (by clear ih1; exact has_no i2 i0 q9), rfl⟩
theorem rSame_calls {H : Hp} {a : GraphD} {cs_a : List Value} (rd_a : Rdc.rd H cs_a a) {b : GraphD} {cs_b : List Value} (rd_b : Rdc.rd H cs_b b) : CallG Tryz.prog 104 [.agg cs_a.toArray, .agg cs_b.toArray] H [] (fun v _ L' => v = .bool (sameG a b) ∧ L' = []) := by
 have rd_a' := rd_a; obtain ⟨A_a_0, c_a_0, A_a_1, c_a_1, rfl, u_a_0, r_a_0, u_a_1, r_a_1⟩ := rd_a
 have rd_b' := rd_b; obtain ⟨A_b_0, c_b_0, A_b_1, c_b_1, rfl, u_b_0, r_b_0, u_b_1, r_b_1⟩ := rd_b
 have ba0 := r_a_0.1; have ba1 := r_a_1.1
 refine CallG.of Tryz.func104 rfl rfl rfl fun w0 => ?_
 refine WpG.g tabOK 2 rfl ?_
 refine WpG.box rfl rfl rfl rfl rfl (fun b1 => ?_)
 refine WpG.freezeBox (ci := 0) rfl (fun H2 hH2 hc2 => ?_)
 refine WpG.box rfl rfl rfl rfl rfl (fun b3 => ?_)
 refine WpG.freezeBox (ci := 0) rfl (fun H4 hH4 hc4 => ?_)
 refine WpG.g tabOK 4 rfl ?_
 apply WpG.join (G := [(2, .pointer (some ⟨b1, 0, none⟩)), (3, .pointer (some ⟨b3, 0, none⟩)), (22, .bool (((a.succ.length : Int) != (b.succ.length : Int)) || ((a.pred.length : Int) != (b.pred.length : Int))))])
 ·intro nx5
  refine WpG.g tabOK 1 rfl ?_
  refine WpG.g tabOK 1 rfl ?_
  refine WpG.y rfl rfl rfl rfl (RunY.loadH tabOK (hc2.sub 0 1) hH4 rfl rfl rfl rfl) ?_
  refine WpG.g tabOK 2 rfl ?_
  refine WpG.y rfl rfl rfl rfl (RunY.loadH tabOK (hc4.sub 0 1) hlr rfl rfl rfl rfl) ?_
  refine WpG.g tabOK 3 rfl ?_
  refine WpG.caseN (t := 14) rfl (fun q14 => ?_) (fun q14 => ?_)
  ·refine WpG.g tabOK 9 rfl ?_
   exact nx5.weak ⟨rfl, rfl, bq (by simp [q14]), trivial⟩
  refine WpG.g tabOK 1 rfl ?_
  refine WpG.y rfl rfl rfl rfl (RunY.loadH tabOK (hc2.sub 1 1) hH4 rfl rfl rfl rfl) ?_
  refine WpG.g tabOK 2 rfl ?_
  refine WpG.y rfl rfl rfl rfl (RunY.loadH tabOK (hc4.sub 1 1) hlr rfl rfl rfl rfl) ?_
  refine WpG.g tabOK 4 rfl ?_
  exact nx5.weak ⟨rfl, rfl, bq (by simp [q14]), trivial⟩
 refine WpG.caseB (t := 22) rfl (fun q22 => ?_) (fun q22 => ?_)
 ·have q22' := q22; simp only [Bool.or_eq_true, Bool.and_eq_true, beq_iff_eq, bne_iff_ne, decide_eq_true_eq, Bool.not_eq_true] at q22'
  refine WpG.g tabOK 5 rfl ?_
  exact WpG.ret tabOK (L' := []) (.tmp rfl .nil) .slnil ⟨congrArg Value.bool (by exact sameG_len q22'), rfl⟩
 have q22' := q22; simp only [Bool.or_eq_false_iff, Bool.and_eq_false_iff, beq_eq_false_iff_ne, bne_eq_false_iff_eq, decide_eq_false_iff_not, Bool.not_eq_false] at q22'
 refine WpG.g tabOK 9 rfl ?_
 refine WpG.wk (WpG.ind1 (fun (i : Int) => ⟨(a.succ.length - i).toNat, [(2, .pointer (some ⟨b1, 0, none⟩)), (3, .pointer (some ⟨b3, 0, none⟩)), (5, .int .i64 i)], H4, [], 0 ≤ i ∧ i ≤ a.succ.length ∧ eqLL a.succ b.succ = eqLL (a.succ.drop i.toNat) (b.succ.drop i.toNat)⟩) ?_ 0 ⟨by omega, by omega, rfl⟩) rfl
 intro i inv ih1
 obtain ⟨i0, i1, i2⟩ := inv
 refine WpG.g tabOK 5 rfl ?_
 refine WpG.y rfl rfl rfl rfl (RunY.loadH tabOK (hc2.sub 0 1) hH4 rfl rfl rfl rfl) ?_
 refine WpG.g tabOK 3 rfl ?_
 refine WpG.caseD (t := 27) rfl (fun q27 => ?_) (fun q27 => ?_)
 ·refine WpG.g tabOK 5 rfl ?_
  refine WpG.draw 12 [] mixed (by kernel_rfl) ?_
  refine WpD.g (listed' := lst 12 165) tabOK [0, 2, 5, 7] (by kernel_rfl) rfl (hH2.trans hH4) hlr .slnil ?_
  refine WpD.y (i := 1) (fuel := 7) (listed' := lst 12 167) (by kernel_rfl) rfl rfl rfl rfl (hH2.trans hH4) hlr .slnil (RunY.loadH tabOK (hc2.sub 0 1) hH4 rfl rfl rfl rfl) ?_
  refine WpD.indexR (i := 3) (fuel := 6) (listed' := lst 12 175) tabOK (by kernel_rfl) rfl rfl rfl rfl rfl rfl rfl rfl rfl (hH2.trans hH4) hlr .slnil r_a_0 (by omega) (by omega) ?_
  rintro x6 hx6 b6 o6 _ ⟨A6, c6, rfl, u6, r6⟩ hc6
  have bz6 := r6.1
  obtain rfl : x6 = (nth a.succ i) := hx6
  refine WpD.y (i := 4) (fuel := 5) (listed' := lst 12 191) (by kernel_rfl) rfl rfl rfl rfl (hH2.trans hH4) hlr .slnil (RunY.loadH tabOK hc6 (hH2.trans hH4) rfl rfl rfl rfl) ?_
  refine WpD.y (i := 6) (fuel := 4) (listed' := lst 12 255) (by kernel_rfl) rfl rfl rfl rfl (hH2.trans hH4) hlr .slnil (RunY.loadH tabOK (hc4.sub 0 1) hlr rfl rfl rfl rfl) ?_
  refine WpD.indexR (i := 8) (fuel := 3) (listed' := lst 12 511) tabOK (by kernel_rfl) rfl rfl rfl rfl rfl rfl rfl rfl rfl (hH2.trans hH4) hlr .slnil r_b_0 (by omega) (by omega) ?_
  rintro x7 hx7 b7 o7 _ ⟨A7, c7, rfl, u7, r7⟩ hc7
  have bz7 := r7.1
  obtain rfl : x7 = (nth b.succ i) := hx7
  refine WpD.y (i := 9) (fuel := 2) (listed' := lst 12 1023) (by kernel_rfl) rfl rfl rfl rfl (hH2.trans hH4) hlr .slnil (RunY.loadH tabOK hc7 (hH2.trans hH4) rfl rfl rfl rfl) ?_
  refine WpD.callS (i := 10) (fuel := 1) (listed' := lst 12 2047) (by kernel_rfl) rfl rfl rfl rfl rfl rfl hlr (rInts_calls (r6.mono (hH2.trans hH4)) (r7.mono (hH2.trans hH4))) (hH2.trans hH4) hlr .slnil ?_
  refine WpD.g (listed' := lst 12 4095) tabOK [11] (by kernel_rfl) rfl (hH2.trans hH4) hlr .slnil ?_
  refine WpD.done (by kernel_rfl) ?_
  refine WpG.caseBn (t := 41) rfl (fun q41 => ?_) (fun q41 => ?_)
  ·refine WpG.g tabOK 5 rfl ?_
   exact WpG.ret tabOK (L' := []) (.tmp rfl .nil) .slnil ⟨congrArg Value.bool (by clear ih1; unfold sameG; rw [eqLL_no (by omega) i2 i0 q27 q41]; rfl), rfl⟩
  refine WpG.gw tabOK 6 29 rfl (wrk (x := i + 1) (by omega) (by omega)) ?_
  refine WpG.g tabOK 3 rfl ?_
  refine WpG.wk (ih1 (i + 1) ?_ ?_) rfl
  ·dsimp only
   omega
  clear ih1
  exact ⟨by omega, by omega, eqLL_step (by omega) i2 i0 q27 q41⟩
 refine WpG.g tabOK 9 rfl ?_
 refine WpG.wk (WpG.ind1 (fun (j : Int) => ⟨(a.pred.length - j).toNat, [(2, .pointer (some ⟨b1, 0, none⟩)), (3, .pointer (some ⟨b3, 0, none⟩)), (6, .int .i64 j)], H4, [], 0 ≤ j ∧ j ≤ a.pred.length ∧ eqLL a.pred b.pred = eqLL (a.pred.drop j.toNat) (b.pred.drop j.toNat)⟩) ?_ 0 ⟨by omega, by omega, rfl⟩) rfl
 intro j inv ih2
 obtain ⟨j0, j1, j2⟩ := inv
 refine WpG.g tabOK 5 rfl ?_
 refine WpG.y rfl rfl rfl rfl (RunY.loadH tabOK (hc2.sub 1 1) hH4 rfl rfl rfl rfl) ?_
 refine WpG.g tabOK 3 rfl ?_
 refine WpG.caseD (t := 46) rfl (fun q46 => ?_) (fun q46 => ?_)
 ·refine WpG.g tabOK 5 rfl ?_
  refine WpG.draw 12 [] mixed (by kernel_rfl) ?_
  refine WpD.g (listed' := lst 12 165) tabOK [0, 2, 5, 7] (by kernel_rfl) rfl (hH2.trans hH4) hlr .slnil ?_
  refine WpD.y (i := 1) (fuel := 7) (listed' := lst 12 167) (by kernel_rfl) rfl rfl rfl rfl (hH2.trans hH4) hlr .slnil (RunY.loadH tabOK (hc2.sub 1 1) hH4 rfl rfl rfl rfl) ?_
  refine WpD.indexR (i := 3) (fuel := 6) (listed' := lst 12 175) tabOK (by kernel_rfl) rfl rfl rfl rfl rfl rfl rfl rfl rfl (hH2.trans hH4) hlr .slnil r_a_1 (by omega) (by omega) ?_
  rintro x8 hx8 b8 o8 _ ⟨A8, c8, rfl, u8, r8⟩ hc8
  have bz8 := r8.1
  obtain rfl : x8 = (nth a.pred j) := hx8
  refine WpD.y (i := 4) (fuel := 5) (listed' := lst 12 191) (by kernel_rfl) rfl rfl rfl rfl (hH2.trans hH4) hlr .slnil (RunY.loadH tabOK hc8 (hH2.trans hH4) rfl rfl rfl rfl) ?_
  refine WpD.y (i := 6) (fuel := 4) (listed' := lst 12 255) (by kernel_rfl) rfl rfl rfl rfl (hH2.trans hH4) hlr .slnil (RunY.loadH tabOK (hc4.sub 1 1) hlr rfl rfl rfl rfl) ?_
  refine WpD.indexR (i := 8) (fuel := 3) (listed' := lst 12 511) tabOK (by kernel_rfl) rfl rfl rfl rfl rfl rfl rfl rfl rfl (hH2.trans hH4) hlr .slnil r_b_1 (by omega) (by omega) ?_
  rintro x9 hx9 b9 o9 _ ⟨A9, c9, rfl, u9, r9⟩ hc9
  have bz9 := r9.1
  obtain rfl : x9 = (nth b.pred j) := hx9
  refine WpD.y (i := 9) (fuel := 2) (listed' := lst 12 1023) (by kernel_rfl) rfl rfl rfl rfl (hH2.trans hH4) hlr .slnil (RunY.loadH tabOK hc9 (hH2.trans hH4) rfl rfl rfl rfl) ?_
  refine WpD.callS (i := 10) (fuel := 1) (listed' := lst 12 2047) (by kernel_rfl) rfl rfl rfl rfl rfl rfl hlr (rInts_calls (r8.mono (hH2.trans hH4)) (r9.mono (hH2.trans hH4))) (hH2.trans hH4) hlr .slnil ?_
  refine WpD.g (listed' := lst 12 4095) tabOK [11] (by kernel_rfl) rfl (hH2.trans hH4) hlr .slnil ?_
  refine WpD.done (by kernel_rfl) ?_
  refine WpG.caseBn (t := 60) rfl (fun q60 => ?_) (fun q60 => ?_)
  ·refine WpG.g tabOK 5 rfl ?_
   exact WpG.ret tabOK (L' := []) (.tmp rfl .nil) .slnil ⟨congrArg Value.bool (by clear ih1 ih2; unfold sameG; rw [eqLL_no (by omega) j2 j0 q46 q60]; simp), rfl⟩
  refine WpG.gw tabOK 6 48 rfl (wrk (x := j + 1) (by omega) (by omega)) ?_
  refine WpG.g tabOK 3 rfl ?_
  refine WpG.wk (ih2 (j + 1) ?_ ?_) rfl
  ·dsimp only
   omega
  clear ih1 ih2
  exact ⟨by omega, by omega, eqLL_step (by omega) j2 j0 q46 q60⟩
 refine WpG.g tabOK 6 rfl ?_
 exact WpG.ret tabOK (L' := []) (.tmp rfl .nil) .slnil ⟨congrArg Value.bool (by clear ih1 ih2; unfold sameG; rw [eqLL_end (by omega) i2 i0 q27, eqLL_end (by omega) j2 j0 q46]; rfl), rfl⟩
end Go.Proofs.YtakameggkkjcpaaGreat
namespace Go.Proofs.YtakameggkkjcpaaGreat
open Go Go.RowKit
section
variable {P : Program} {T : List TRow} {fn : Func} {w0 : World} {H0 : Hp} {X : List Nat} {k : List Item} {F : Fk} {H : Hp} {L : List Chunk} {R : Ending → World → Prop} {Hs : Hp} {Ls : List Chunk} {ops : Array Oper} {fuel stop : Nat} {listed listed' : Array Bool}
theorem WpE.f {i : Nat} {Post : Fk → Hp → List Chunk → Prop} (hchk : ((Region.ready .any ops listed == [i]) && (listed.setIfInBounds i true == listed')) = true) (h0 : H0.le Hs) (hs : OpG P fn w0 H0 X ops i F H L Post)
    (h : ∀ F' H' L', Post F' H' L' → Hs.le H' ∧ Ls.Sublist L' ∧ WpE P fn w0 H0 X k R Hs Ls ops stop fuel listed' F' H' L') : WpE P fn w0 H0 X k R Hs Ls ops stop (fuel + 1) listed F H L := fun a w ha hsh => by
  simp only [Bool.and_eq_true] at hchk
  obtain ⟨o, ho, hw, h1⟩ := hs
  have hr : Region.ready .any ops listed = [i] := by simpa using hchk.1
  refine ⟨fun h0 => (by rw [h0] at hr; cases hr), fun j hj => ?_⟩
  rw [hr, List.mem_singleton] at hj
  subst hj
  refine OpS.wpOp ho (wantk_spec ha hw) ?_
  have hK : ∀ a' w', (∃ F' H' L', Post F' H' L' ∧ Agrees fn.ntmps F' a' ∧ SH w0 H0 X w' H' L') → ((listed.setIfInBounds j true).getD stop true = false → SH w0 H0 X w' Hs Ls) ∧ wpAnyP P .any ops (QD P fn k R) (fun w => SH w0 H0 X w Hs Ls) stop fuel (listed.setIfInBounds j true) a' w' := by
    rintro a' w' ⟨F', H', L', hp, ha', hs'⟩
    obtain ⟨k1, k2, k3⟩ := h F' H' L' hp
    refine ⟨fun _ => hs'.less h0 k1 k2, ?_⟩
    rw [beq_iff_eq.1 hchk.2]
    exact k3 a' w' ha' hs'
  cases h1 a w ha hsh with
  | value hr h => exact .value hr (hK _ _ h)
  | skip hr h => exact .skip hr (hK _ _ h)
  | call hr Q hc h => exact .call hr Q hc fun v w'' hq => hK _ _ (h v w'' hq)
theorem WpE.setL {L' : List Chunk} (e : L = L') (h : WpE P fn w0 H0 X k R Hs Ls ops stop fuel listed F H L') : WpE P fn w0 H0 X k R Hs Ls ops stop fuel listed F H L := e ▸ h
theorem OpG.ofY {i d : Nat} {o : Oper} {v : Value} (ho : ops[i]? = some o) (hw : wantk ops F o.guard = some true) (hd : o.dst = some d) (hn : Nat.blt d fn.ntmps = true) (hr : RunY P fn w0 H0 X F H L o v) :
    OpG P fn w0 H0 X ops i F H L fun F' H' L' => F' = (d, v) :: F ∧ H' = H ∧ L' = L :=
  ⟨o, ho, hw, fun a w ha hs => .value (hr a w ha hs) ⟨_, _, _, ⟨rfl, rfl, rfl⟩, (by rw [hd]; exact ha.put (by simpa [Nat.blt_eq] using hn) v), hs⟩⟩
end
theorem rows_ch3 {E t : Nat} {rs : List Rw} {r : Rw} (h : rs[t]? = some r) (a b c : Chunk) : (a :: b :: c :: rs.map (Rw.ch E))[t + 3]? = some (Chunk.own E 1 r.A r.c r.xs.length (r.xs.map iv)) := by
  show (rs.map (Rw.ch E))[t]? = _
  rw [List.getElem?_map, h]; rfl
theorem rows_set3 {E t c' : Nat} {A' : Option Addr} {rs rs' : List Rw} {ys : List Int} (a b c : Chunk) (h : rs' = rs.set t ⟨A', c', ys⟩) {n : Nat} (hn : n = ys.length) :
    (a :: b :: c :: rs.map (Rw.ch E)).set (t + 3) (Chunk.own E 1 A' c' n (ys.map iv)) = a :: b :: c :: rs'.map (Rw.ch E) := by
  subst h; subst hn
  show a :: b :: c :: (rs.map (Rw.ch E)).set t _ = _
  rw [List.map_set]; rfl
def srcs : Int → List (List Int) → Int → List Int
  | _, [], _ => []
  | j, r :: l, t => (if hasD r t = true then [j] else []) ++ srcs (j + 1) l t
theorem srcs_cons (j : Int) (r : List Int) (l : List (List Int)) (t : Int) : srcs j (r :: l) t = (if hasD r t = true then [j] else []) ++ srcs (j + 1) l t := rfl
def tgtE (s : List (List Int)) (m : Nat) : List (Int × Int) := (List.range m).flatMap fun (t : Nat) => (srcs 0 s t).map fun k => (k, (t : Int))
theorem predsOf_app (a b : List (Int × Int)) (t : Nat) : predsOf (a ++ b) t = predsOf a t ++ predsOf b t := by simp [predsOf]
theorem predsOf_one (l : List Int) (u : Int) (t : Nat) : predsOf (l.map fun k => (k, u)) t = if u = t then l else [] := by
  by_cases h : u = t
  · rw [if_pos h]; subst h
    induction l with
    | nil => rfl
    | cons a l ih => simp only [predsOf, List.map_cons, List.filter_cons, beq_self_eq_true, if_true] at *; rw [ih]
  · rw [if_neg h]
    induction l with
    | nil => rfl
    | cons a l ih => simp only [predsOf, List.map_cons, List.filter_cons] at *; rw [if_neg (by simpa using h)]; exact ih
theorem predsOf_tgt (s : List (List Int)) (t : Nat) : ∀ m, predsOf (tgtE s m) t = if t < m then srcs 0 s t else []
  | 0 => rfl
  | m + 1 => by
    have e : tgtE s (m + 1) = tgtE s m ++ (srcs 0 s m).map fun k => (k, (m : Int)) := by simp [tgtE, List.range_succ]
    rw [e, predsOf_app, predsOf_tgt s t m, predsOf_one]
    by_cases h : t < m
    · rw [if_pos h, if_neg (by omega), if_pos (by omega), List.append_nil]
    · by_cases h2 : m = t
      · subst h2; rw [if_neg h, if_pos rfl, if_pos (by omega), List.nil_append]
      · rw [if_neg h, if_neg (by omega), if_neg (by omega)]; rfl
theorem tgtE_succ (s : List (List Int)) {t : Int} (h : 0 ≤ t) : tgtE s (t + 1).toNat = tgtE s t.toNat ++ (srcs 0 s t).map fun k => (k, t) := by
  rw [toNat_succ h]
  have e : ((t.toNat : Nat) : Int) = t := by omega
  simp [tgtE, List.range_succ, e]
theorem rising_gt {n : Int} : ∀ {r : List Int} {last : Int}, risingD n r last = true → ∀ y ∈ r, last < y
  | [], _, _, y, hy => by cases hy
  | x :: l, last, h, y, hy => by
    unfold risingD at h
    split at h
    · cases h
    · split at h
      · cases h
      · rcases List.mem_cons.1 hy with rfl | hy
        · omega
        · have := rising_gt h y hy; omega
theorem rising_one {n : Int} {t : Int} : ∀ {r : List Int} {last : Int}, risingD n r last = true → r.filter (fun x => x == t) = if hasD r t = true then [t] else []
  | [], _, _ => rfl
  | x :: l, last, h => by
    unfold risingD at h
    split at h
    · cases h
    · split at h
      · cases h
      · have ih := rising_one (t := t) h
        have hg := rising_gt h
        by_cases e : x = t
        · subst e
          have : hasD l x = false := by
            cases hh : hasD l x with
            | false => rfl
            | true => have := hg x (hasD_iff.1 hh); omega
          rw [this] at ih
          simp only [List.filter_cons, beq_self_eq_true, if_true, ih]
          simp [hasD]
        · have e2 : hasD (x :: l) t = hasD l t := by simp [hasD, e]
          rw [e2, List.filter_cons, if_neg (by simpa using e), ih]
theorem predsOf_edges {n : Int} (t : Nat) : ∀ (s : List (List Int)) (j : Int), (∀ r ∈ s, risingD n r (-1) = true) → predsOf (edgesFrom j s) t = srcs j s t
  | [], _, _ => rfl
  | r :: l, j, h => by
    have e : edgesFrom j (r :: l) = (r.map fun x => (j, x)) ++ edgesFrom (j + 1) l := rfl
    rw [e, predsOf_app, predsOf_edges t l (j + 1) fun q hq => h q (.tail _ hq)]
    have h1 := rising_one (t := (t : Int)) (h r (.head _))
    have h2 : predsOf (r.map fun x => (j, x)) t = (r.filter fun x => x == (t : Int)).map fun _ => j := by
      unfold predsOf
      rw [List.filter_map, List.map_map]; rfl
    rw [h2, h1, srcs_cons]
    split <;> rfl
theorem make_preds {s : List (List Int)} {rs : List Rw} {m : Nat} (hok : makeOK s = true) (hm : m = s.length) (h : rs.map Rw.xs = (List.range s.length).map (predsOf (tgtE s m))) : rs.map Rw.xs = predsD s := by
  subst hm
  rw [h]
  unfold predsD
  refine List.map_congr_left fun t ht => ?_
  have ht := List.mem_range.1 ht
  rw [predsOf_tgt, if_pos ht, predsOf_edges (n := s.length) t s 0 (fun r hr => ?_)]
  simp only [makeOK, Bool.and_eq_true] at hok
  exact List.all_eq_true.1 hok.2.2 r hr
theorem srcs_step {s : List (List Int)} {k t : Int} {D : List Int} (h : srcs 0 s t = D ++ srcs k (s.drop k.toNat) t) (h0 : 0 ≤ k) (h1 : k < s.length) :
    srcs 0 s t = (D ++ if hasD (nth s k) t = true then [k] else []) ++ srcs (k + 1) (s.drop (k + 1).toNat) t := by
  rw [h, drop_nth h0 h1, toNat_succ h0, srcs_cons, List.append_assoc]
theorem srcs_end {s : List (List Int)} {k t : Int} {D : List Int} (h : srcs 0 s t = D ++ srcs k (s.drop k.toNat) t) (h0 : 0 ≤ k) (h1 : ¬ k < s.length) : srcs 0 s t = D := by
  rw [h, drop_end h0 h1]; simp [srcs]
def prev (r : List Int) (k : Int) : Int := if k = 0 then -1 else nth r (k - 1)
def badR (n : Int) (r : List Int) (k : Int) : Prop := nth r k < 0 ∨ n ≤ nth r k ∨ 0 < k ∧ nth r k ≤ nth r (k - 1)
theorem prev_succ {r : List Int} {k : Int} (h0 : 0 ≤ k) : prev r (k + 1) = nth r k := by
  unfold prev; rw [if_neg (by omega), show k + 1 - 1 = k from by omega]
theorem rise_no {n : Int} {r : List Int} {k : Int} (h : risingD n r (-1) = risingD n (r.drop k.toNat) (prev r k)) (hp : -1 ≤ prev r k) (h0 : 0 ≤ k) (h1 : k < r.length) (hb : badR n r k) : risingD n r (-1) = false := by
  rw [h, drop_nth h0 h1]; unfold risingD
  by_cases e : nth r k ≤ prev r k
  · rw [if_pos e]
  · rw [if_neg e]
    by_cases e2 : nth r k ≥ n
    · rw [if_pos e2]
    · exfalso
      rcases hb with hb | hb | hb
      · omega
      · omega
      · unfold prev at e; rw [if_neg (by omega)] at e; omega
theorem rise_step {n : Int} {r : List Int} {k : Int} (h : risingD n r (-1) = risingD n (r.drop k.toNat) (prev r k)) (hp : -1 ≤ prev r k) (h0 : 0 ≤ k) (h1 : k < r.length) (hb : ¬ badR n r k) : risingD n r (-1) = risingD n (r.drop (k + 1).toNat) (prev r (k + 1)) ∧ -1 ≤ prev r (k + 1) := by
  unfold badR at hb
  rw [h, drop_nth h0 h1, toNat_succ h0, prev_succ h0]
  refine ⟨?_, by omega⟩
  have e : ¬ nth r k ≤ prev r k := fun e => by
    unfold prev at e
    split at e <;> omega
  show (if nth r k ≤ prev r k then false else if nth r k ≥ n then false else risingD n (r.drop (k.toNat + 1)) (nth r k)) = _
  rw [if_neg e, if_neg (by omega)]
theorem rise_end {n : Int} {r : List Int} {k : Int} (h : risingD n r (-1) = risingD n (r.drop k.toNat) (prev r k)) (h0 : 0 ≤ k) (h1 : ¬ k < r.length) : risingD n r (-1) = true := by
  rw [h, drop_end h0 h1]; rfl
theorem make_ok {s : List (List Int)} (h : ((s.length : Int) == 0 || decide ((s.length : Int) > 64)) = false) (h2 : s.all (fun r => risingD s.length r (-1)) = true) : makeOK s = true := by
  simp only [Bool.or_eq_false_iff, beq_eq_false_iff_ne, decide_eq_false_iff_not] at h
  unfold makeOK; rw [h2, decide_eq_false (by omega), decide_eq_false (by omega)]; rfl
theorem make_no1 {s : List (List Int)} (h : ((s.length : Int) == 0 || decide ((s.length : Int) > 64)) = true) : makeOK s = false := by
  simp only [Bool.or_eq_true, beq_iff_eq, decide_eq_true_eq] at h
  unfold makeOK
  rcases h with h | h
  · rw [decide_eq_true (by omega)]; rfl
  · rw [decide_eq_true (p := (s.length : Int) > 64) (by omega)]; simp
theorem make_no2 {s : List (List Int)} (h2 : s.all (fun r => risingD s.length r (-1)) = false) : makeOK s = false := by
  unfold makeOK; rw [h2]; simp
theorem rMake_yes {s : List (List Int)} {H : Hp} {A B : Option Addr} {c n : Nat} {rs : List Rw} (hok : makeOK s = true) (hc : s.length ≤ c) (hs : RdS H A s) (e : rs.map Rw.xs = predsD s) (hn : s.length = n) (u : s.length ≤ n) (r : RdS H B (rs.map Rw.xs)) :
    ∃ A1 c1 A2 c2, Value.tuple #[.agg #[.slice A s.length c, .slice B s.length n], .int .i64 0] = .tuple #[.agg #[.slice A1 (makeD s).1.succ.length c1, .slice A2 (makeD s).1.pred.length c2], .int .i64 (makeD s).2] ∧ (makeD s).1.succ.length ≤ c1 ∧ RdS H A1 (makeD s).1.succ ∧ (makeD s).1.pred.length ≤ c2 ∧ RdS H A2 (makeD s).1.pred ∧ ([] : List Chunk) = [] := by
  have hl : (predsD s).length = s.length := by simp [predsD]
  have h : makeD s = (⟨s, predsD s⟩, 0) := by unfold makeD; rw [if_pos hok]
  rw [e] at r
  rw [h]
  exact ⟨_, _, _, _, by show _ = Value.tuple #[.agg #[.slice A s.length c, .slice B (predsD s).length n], .int .i64 0]; rw [hl], hc, hs, by show (predsD s).length ≤ n; rw [hl]; exact u, r, rfl⟩
end Go.Proofs.YtakameggkkjcpaaGreat
set_option maxRecDepth 4000
namespace Go.Proofs.YtakameggkkjcpaaGreat
open Go Go.RowKit
theorem rMake_calls {H : Hp} {A : Option Addr} {c : Nat} {s : List (List Int)} (hs : RdS H A s) (hc : s.length ≤ c) : CallG Tryz.prog 65 [.slice A s.length c] H [] (fun v H' L' => ∃ A c A' c', v = .tuple #[.agg #[.slice A (makeD s).1.succ.length c, .slice A' (makeD s).1.pred.length c'], .int .i64 (makeD s).2] ∧ (makeD s).1.succ.length ≤ c ∧ RdS H' A (makeD s).1.succ ∧ (makeD s).1.pred.length ≤ c' ∧ RdS H' A' (makeD s).1.pred ∧ L' = []) := by
 have bs := hs.1
 refine CallG.of Tryz.func65 rfl rfl rfl fun w0 => ?_
 refine WpG.g tabOK 2 rfl ?_
 refine WpG.alloc tabOK rfl rfl rfl rfl rfl (fun b1 => ?_)
 refine WpG.g tabOK 10 rfl ?_
 apply WpG.join (G := [(0, .slice A s.length c), (2, .pointer (some ⟨b1, 0, none⟩)), (4, .int .i64 (s.length : Int)), (17, .bool (((s.length : Int) == 0) || (decide ((s.length : Int) > 64))))])
 ·intro nx2
  refine WpG.g tabOK 1 rfl ?_
  refine WpG.g tabOK 3 rfl ?_
  refine WpG.caseE (t := 14) rfl (fun q14 => ?_) (fun q14 => ?_)
  ·refine WpG.g tabOK 4 rfl ?_
   exact nx2.weak ⟨rfl, rfl, rfl, bq (by simp [q14]), trivial⟩
  refine WpG.g tabOK 4 rfl ?_
  exact nx2.weak ⟨rfl, rfl, rfl, bq (by simp [q14, nb q14]), trivial⟩
 refine WpG.caseB (t := 17) rfl (fun q17 => ?_) (fun q17 => ?_)
 ·refine WpG.g tabOK 4 rfl ?_
  refine WpG.storeBox (ci := 0) (cs' := [.slice none 0 0, .slice none 0 0]) tabOK rfl rfl rfl rfl rfl rfl rfl rfl rfl ?_
  refine WpG.g tabOK 2 rfl ?_
  exact WpG.ret tabOK (L' := []) (.cell (ci := 0) rfl rfl rfl rfl (.tmp rfl .nil)) (.cons _ .slnil) (Make_no (make_no1 q17))
 refine WpG.g tabOK 9 rfl ?_
 refine WpG.wk (WpG.ind1 (fun (i : Int) => ⟨(s.length - i).toNat, [(0, .slice A s.length c), (2, .pointer (some ⟨b1, 0, none⟩)), (4, .int .i64 (s.length : Int)), (5, .int .i64 i)], H, [Chunk.box b1 [.slice none 0 0, .slice none 0 0] 46], 0 ≤ i ∧ i ≤ s.length ∧ s.all (fun r => risingD s.length r (-1)) = (s.drop i.toNat).all (fun r => risingD s.length r (-1))⟩) ?_ 0 ⟨by omega, by omega, rfl⟩) rfl
 intro i inv ih1
 obtain ⟨v0, v1, v2⟩ := inv
 refine WpG.g tabOK 7 rfl ?_
 refine WpG.caseD (t := 21) rfl (fun q21 => ?_) (fun q21 => ?_)
 ·refine WpG.g tabOK 10 rfl ?_
  refine WpG.wk (WpG.ind1 (fun (k : Int) => ⟨((nth s i).length - k).toNat, [(0, .slice A s.length c), (2, .pointer (some ⟨b1, 0, none⟩)), (4, .int .i64 (s.length : Int)), (5, .int .i64 i), (6, .int .i64 k)], H, [Chunk.box b1 [.slice none 0 0, .slice none 0 0] 46], 0 ≤ k ∧ k ≤ (nth s i).length ∧ risingD s.length (nth s i) (-1) = risingD s.length ((nth s i).drop k.toNat) (prev (nth s i) k) ∧ -1 ≤ prev (nth s i) k⟩) ?_ 0 ⟨by omega, by omega, rfl, Int.le_refl (-1)⟩) rfl
  intro k inv ih2
  obtain ⟨w0, w1, w2, w3⟩ := inv
  refine WpG.g tabOK 6 rfl ?_
  refine WpG.indexR tabOK rfl rfl rfl rfl rfl rfl rfl rfl rfl hs (by omega) (by omega) ?_
  rintro x3 hx3 b3 o3 _ ⟨A3, c3, rfl, u3, r3⟩ hc3
  have bz3 := r3.1
  obtain rfl : x3 = (nth s i) := hx3
  refine WpG.y rfl rfl rfl rfl (RunY.loadH tabOK hc3 hlr rfl rfl rfl rfl) ?_
  refine WpG.g tabOK 3 rfl ?_
  refine WpG.caseD (t := 30) rfl (fun q30 => ?_) (fun q30 => ?_)
  ·refine WpG.g tabOK 5 rfl ?_
   refine WpG.draw 41 [Chunk.box b1 [.slice none 0 0, .slice none 0 0] 46] mixed (by kernel_rfl) ?_
   refine WpD.g (listed' := lst 41 19) tabOK [0, 1, 4] (by kernel_rfl) rfl hlr hlr (.refl _) ?_
   refine WpD.indexR (i := 2) (fuel := 37) (listed' := lst 41 23) tabOK (by kernel_rfl) rfl rfl rfl rfl rfl rfl rfl rfl rfl hlr hlr (.refl _) hs (by omega) (by omega) ?_
   rintro x4 hx4 b4 o4 _ ⟨A4, c4, rfl, u4, r4⟩ hc4
   have bz4 := r4.1
   obtain rfl : x4 = (nth s i) := hx4
   refine WpD.y (i := 3) (fuel := 36) (listed' := lst 41 31) (by kernel_rfl) rfl rfl rfl rfl hlr hlr (.refl _) (RunY.loadH tabOK hc4 hlr rfl rfl rfl rfl) ?_
   refine WpD.indexR (i := 5) (fuel := 35) (listed' := lst 41 63) tabOK (by kernel_rfl) rfl rfl rfl rfl rfl rfl rfl rfl rfl hlr hlr (.refl _) r4 (by omega) (by omega) ?_
   rintro x5 hx5 b5 o5 _ ⟨rfl, k5⟩ hc5
   obtain rfl : x5 = (nth (nth s i) k) := hx5
   refine WpD.y (i := 6) (fuel := 34) (listed' := lst 41 127) (by kernel_rfl) rfl rfl rfl rfl hlr hlr (.refl _) (RunY.loadH tabOK hc5 hlr rfl rfl rfl rfl) ?_
   refine WpD.g (listed' := lst 41 511) tabOK [7, 8] (by kernel_rfl) rfl hlr hlr (.refl _) ?_
   refine WpD.caseD (t := 41) rfl (fun q41 => ?_) (fun q41 => ?_)
   ·refine WpD.g (listed' := lst 41 2199023255551) tabOK [9, 10, 11, 12, 13, 14, 15, 16, 17, 18, 19, 20, 21, 22, 23, 24, 25, 26, 27, 28, 29, 30, 31, 32, 33, 34, 35, 36, 37, 38, 39, 40] (by kernel_rfl) rfl hlr hlr (.refl _) ?_
    refine WpD.done (by kernel_rfl) ?_
    refine WpG.g tabOK 4 rfl ?_
    refine WpG.storeBox (ci := 0) (cs' := [.slice none 0 0, .slice none 0 0]) tabOK rfl rfl rfl rfl rfl rfl rfl rfl rfl ?_
    refine WpG.g tabOK 2 rfl ?_
    exact WpG.ret tabOK (L' := []) (.cell (ci := 0) rfl rfl rfl rfl (.tmp rfl .nil)) (.cons _ .slnil) (Make_no (make_no2 (all_no v2 v0 q21 rfl (rise_no w2 w3 w0 q30 (by unfold badR; omega)))))
   refine WpD.g (listed' := lst 41 75775) tabOK [9, 10, 13, 16] (by kernel_rfl) rfl hlr hlr (.refl _) ?_
   refine WpD.indexR (i := 11) (fuel := 27) (listed' := lst 41 77823) tabOK (by kernel_rfl) rfl rfl rfl rfl rfl rfl rfl rfl rfl hlr hlr (.refl _) hs (by omega) (by omega) ?_
   rintro x6 hx6 b6 o6 _ ⟨A6, c6, rfl, u6, r6⟩ hc6
   have bz6 := r6.1
   obtain rfl : x6 = (nth s i) := hx6
   refine WpD.y (i := 12) (fuel := 26) (listed' := lst 41 81919) (by kernel_rfl) rfl rfl rfl rfl hlr hlr (.refl _) (RunY.loadH tabOK hc6 hlr rfl rfl rfl rfl) ?_
   refine WpD.indexR (i := 14) (fuel := 25) (listed' := lst 41 98303) tabOK (by kernel_rfl) rfl rfl rfl rfl rfl rfl rfl rfl rfl hlr hlr (.refl _) r6 (by omega) (by omega) ?_
   rintro x7 hx7 b7 o7 _ ⟨rfl, k7⟩ hc7
   obtain rfl : x7 = (nth (nth s i) k) := hx7
   refine WpD.y (i := 15) (fuel := 24) (listed' := lst 41 131071) (by kernel_rfl) rfl rfl rfl rfl hlr hlr (.refl _) (RunY.loadH tabOK hc7 hlr rfl rfl rfl rfl) ?_
   refine WpD.g (listed' := lst 41 1048575) tabOK [17, 18, 19] (by kernel_rfl) rfl hlr hlr (.refl _) ?_
   refine WpD.caseD (t := 52) rfl (fun q52 => ?_) (fun q52 => ?_)
   ·refine WpD.g (listed' := lst 41 2199023255551) tabOK [20, 21, 22, 23, 24, 25, 26, 27, 28, 29, 30, 31, 32, 33, 34, 35, 36, 37, 38, 39, 40] (by kernel_rfl) rfl hlr hlr (.refl _) ?_
    refine WpD.done (by kernel_rfl) ?_
    refine WpG.g tabOK 4 rfl ?_
    refine WpG.storeBox (ci := 0) (cs' := [.slice none 0 0, .slice none 0 0]) tabOK rfl rfl rfl rfl rfl rfl rfl rfl rfl ?_
    refine WpG.g tabOK 2 rfl ?_
    exact WpG.ret tabOK (L' := []) (.cell (ci := 0) rfl rfl rfl rfl (.tmp rfl .nil)) (.cons _ .slnil) (Make_no (make_no2 (all_no v2 v0 q21 rfl (rise_no w2 w3 w0 q30 (by unfold badR; omega)))))
   refine WpD.g (listed' := lst 41 8388607) tabOK [20, 21, 22] (by kernel_rfl) rfl hlr hlr (.refl _) ?_
   refine WpD.caseD (t := 55) rfl (fun q55 => ?_) (fun q55 => ?_)
   ·refine WpD.gw (listed' := lst 41 54928605183) tabOK [23, 24, 27, 30, 31, 34, 35] 68 (by kernel_rfl) rfl (wrk (x := k - 1) (by omega) (by omega)) hlr hlr (.refl _) ?_
    refine WpD.indexR (i := 25) (fuel := 10) (listed' := lst 41 54962159615) tabOK (by kernel_rfl) rfl rfl rfl rfl rfl rfl rfl rfl rfl hlr hlr (.refl _) hs (by omega) (by omega) ?_
    rintro x8 hx8 b8 o8 _ ⟨A8, c8, rfl, u8, r8⟩ hc8
    have bz8 := r8.1
    obtain rfl : x8 = (nth s i) := hx8
    refine WpD.y (i := 26) (fuel := 9) (listed' := lst 41 55029268479) (by kernel_rfl) rfl rfl rfl rfl hlr hlr (.refl _) (RunY.loadH tabOK hc8 hlr rfl rfl rfl rfl) ?_
    refine WpD.indexR (i := 28) (fuel := 8) (listed' := lst 41 55297703935) tabOK (by kernel_rfl) rfl rfl rfl rfl rfl rfl rfl rfl rfl hlr hlr (.refl _) r8 (by omega) (by omega) ?_
    rintro x9 hx9 b9 o9 _ ⟨rfl, k9⟩ hc9
    obtain rfl : x9 = (nth (nth s i) k) := hx9
    refine WpD.y (i := 29) (fuel := 7) (listed' := lst 41 55834574847) (by kernel_rfl) rfl rfl rfl rfl hlr hlr (.refl _) (RunY.loadH tabOK hc9 hlr rfl rfl rfl rfl) ?_
    refine WpD.indexR (i := 32) (fuel := 6) (listed' := lst 41 60129542143) tabOK (by kernel_rfl) rfl rfl rfl rfl rfl rfl rfl rfl rfl hlr hlr (.refl _) hs (by omega) (by omega) ?_
    rintro x10 hx10 b10 o10 _ ⟨A10, c10, rfl, u10, r10⟩ hc10
    have bz10 := r10.1
    obtain rfl : x10 = (nth s i) := hx10
    refine WpD.y (i := 33) (fuel := 5) (listed' := lst 41 68719476735) (by kernel_rfl) rfl rfl rfl rfl hlr hlr (.refl _) (RunY.loadH tabOK hc10 hlr rfl rfl rfl rfl) ?_
    refine WpD.indexR (i := 36) (fuel := 4) (listed' := lst 41 137438953471) tabOK (by kernel_rfl) rfl rfl rfl rfl rfl rfl rfl rfl rfl hlr hlr (.refl _) r10 (by omega) (by omega) ?_
    rintro x11 hx11 b11 o11 _ ⟨rfl, k11⟩ hc11
    obtain rfl : x11 = (nth (nth s i) (k - 1)) := hx11
    refine WpD.y (i := 37) (fuel := 3) (listed' := lst 41 274877906943) (by kernel_rfl) rfl rfl rfl rfl hlr hlr (.refl _) (RunY.loadH tabOK hc11 hlr rfl rfl rfl rfl) ?_
    refine WpD.g (listed' := lst 41 2199023255551) tabOK [38, 39, 40] (by kernel_rfl) rfl hlr hlr (.refl _) ?_
    refine WpD.done (by kernel_rfl) ?_
    refine WpG.caseD (t := 73) rfl (fun q73 => ?_) (fun q73 => ?_)
    ·refine WpG.g tabOK 4 rfl ?_
     refine WpG.storeBox (ci := 0) (cs' := [.slice none 0 0, .slice none 0 0]) tabOK rfl rfl rfl rfl rfl rfl rfl rfl rfl ?_
     refine WpG.g tabOK 2 rfl ?_
     exact WpG.ret tabOK (L' := []) (.cell (ci := 0) rfl rfl rfl rfl (.tmp rfl .nil)) (.cons _ .slnil) (Make_no (make_no2 (all_no v2 v0 q21 rfl (rise_no w2 w3 w0 q30 (by unfold badR; omega)))))
    refine WpG.gw tabOK 6 32 rfl (wrk (x := k + 1) (by omega) (by omega)) ?_
    refine WpG.g tabOK 3 rfl ?_
    refine WpG.wk (ih2 (k + 1) ?_ ?_) rfl
    ·dsimp only
     omega
    clear ih1 ih2
    show 0 ≤ (k + 1) ∧ (k + 1) ≤ (nth s i).length ∧ risingD s.length (nth s i) (-1) = risingD s.length ((nth s i).drop (k + 1).toNat) (prev (nth s i) (k + 1)) ∧ -1 ≤ prev (nth s i) (k + 1)
    have z := rise_step w2 w3 w0 q30 (by unfold badR; omega)
    exact ⟨by omega, by omega, z.1, z.2⟩
   refine WpD.g (listed' := lst 41 2199023255551) tabOK [23, 24, 25, 26, 27, 28, 29, 30, 31, 32, 33, 34, 35, 36, 37, 38, 39, 40] (by kernel_rfl) rfl hlr hlr (.refl _) ?_
   refine WpD.done (by kernel_rfl) ?_
   refine WpG.gw tabOK 6 32 rfl (wrk (x := k + 1) (by omega) (by omega)) ?_
   refine WpG.g tabOK 3 rfl ?_
   refine WpG.wk (ih2 (k + 1) ?_ ?_) rfl
   ·dsimp only
    omega
   clear ih1 ih2
   show 0 ≤ (k + 1) ∧ (k + 1) ≤ (nth s i).length ∧ risingD s.length (nth s i) (-1) = risingD s.length ((nth s i).drop (k + 1).toNat) (prev (nth s i) (k + 1)) ∧ -1 ≤ prev (nth s i) (k + 1)
   have z := rise_step w2 w3 w0 q30 (by unfold badR; omega)
   exact ⟨by omega, by omega, z.1, z.2⟩
  refine WpG.gw tabOK 6 23 rfl (wrk (x := i + 1) (by omega) (by omega)) ?_
  refine WpG.g tabOK 3 rfl ?_
  refine WpG.wk (ih1 (i + 1) ?_ ?_) rfl
  ·dsimp only
   omega
  clear ih1 ih2
  exact ⟨by omega, by omega, all_step v2 v0 q21 rfl (rise_end w2 w0 q30)⟩
 have hok : makeOK s = true := make_ok q17 (all_end v2 v0 q21)
 have hl64 := (makeOK_rows hok).2.1
 refine WpG.g tabOK 6 rfl ?_
 refine WpG.makeSlice (n := s.length) tabOK rfl rfl rfl rfl rfl rfl rfl rfl rfl (by omega) (fun b12 => ?_)
 refine WpG.g tabOK 1 rfl ?_
 refine WpG.alloc tabOK rfl rfl rfl rfl rfl (fun b14 => ?_)
 refine WpG.storeBox (ci := 0) (cs' := [.slice A s.length c, .slice (some ⟨b12, 0, none⟩) s.length s.length]) tabOK rfl rfl rfl rfl rfl rfl rfl rfl rfl ?_
 refine WpG.freezeBox (ci := 0) rfl (fun H15 hH15 hc15 => ?_)
 refine WpG.g tabOK 8 rfl ?_
 refine WpG.ownNils 3 s.length (WpG.permL (L' := (Chunk.own 22 1 (some ⟨b12, 0, none⟩) s.length s.length (List.replicate s.length (.slice none 0 0)) :: Chunk.box b1 [.slice none 0 0, .slice none 0 0] 46 :: (List.replicate s.length Rw.nil).map (Rw.ch 3))) (List.perm_append_comm (l₁ := [Chunk.own 22 1 (some ⟨b12, 0, none⟩) s.length s.length (List.replicate s.length (.slice none 0 0)), Chunk.box b1 [.slice none 0 0, .slice none 0 0] 46]) (l₂ := (List.replicate s.length Rw.nil).map (Rw.ch 3))) ?_)
 refine WpG.setL (L' := (Chunk.own 22 1 (some ⟨b12, 0, none⟩) s.length s.length ((List.replicate s.length Rw.nil).map Rw.val) :: Chunk.box b1 [.slice none 0 0, .slice none 0 0] 46 :: (List.replicate s.length Rw.nil).map (Rw.ch 3))) (by rw [List.map_replicate (f := Rw.val)]; rfl) ?_
 refine WpG.wk (WpG.ind3 (fun (t : Int) (E : List (Int × Int)) (rs : List Rw) => ⟨(s.length - t).toNat, [(0, .slice A s.length c), (2, .pointer (some ⟨b1, 0, none⟩)), (4, .int .i64 (s.length : Int)), (7, .pointer (some ⟨b14, 0, none⟩)), (8, .int .i64 t)], H15, (Chunk.own 22 1 (some ⟨b12, 0, none⟩) s.length s.length (rs.map Rw.val) :: Chunk.box b1 [.slice none 0 0, .slice none 0 0] 46 :: rs.map (Rw.ch 3)), 0 ≤ t ∧ t ≤ s.length ∧ E = tgtE s t.toNat ∧ rs.map Rw.xs = (List.range s.length).map (predsOf E) ∧ (E.length : Int) ≤ t * 64 ∧ ∀ e ∈ E, I64 e.1⟩) ?_ 0 [] (List.replicate s.length Rw.nil) ⟨by omega, by omega, rfl, preds_start _, by simp, by simp⟩) rfl
 intro t E rs inv ih3
 obtain ⟨t0, t1, i2, i3, i4, i5⟩ := inv
 refine WpG.g tabOK 7 rfl ?_
 refine WpG.caseD (t := 81) rfl (fun q81 => ?_) (fun q81 => ?_)
 ·refine WpG.g tabOK 10 rfl ?_
  refine WpG.wk (WpG.ind3 (fun (k : Int) (E : List (Int × Int)) (rs : List Rw) => ⟨(s.length - k).toNat, [(0, .slice A s.length c), (2, .pointer (some ⟨b1, 0, none⟩)), (4, .int .i64 (s.length : Int)), (7, .pointer (some ⟨b14, 0, none⟩)), (8, .int .i64 t), (9, .int .i64 k)], H15, (Chunk.own 22 1 (some ⟨b12, 0, none⟩) s.length s.length (rs.map Rw.val) :: Chunk.box b1 [.slice none 0 0, .slice none 0 0] 46 :: rs.map (Rw.ch 3)), 0 ≤ k ∧ k ≤ s.length ∧ (∃ D, E = tgtE s t.toNat ++ (D.map fun y => (y, t)) ∧ srcs 0 s t = D ++ srcs k (s.drop k.toNat) t) ∧ rs.map Rw.xs = (List.range s.length).map (predsOf E) ∧ (E.length : Int) ≤ t * 64 + k ∧ ∀ e ∈ E, I64 e.1⟩) ?_ 0 E rs ⟨by omega, by omega, ⟨[], by simp [i2], rfl⟩, i3, by show (E.length : Int) ≤ t * 64 + 0; omega, i5⟩) rfl
  intro k E rs inv ih4
  obtain ⟨j0, j1, j2, j3, j4, j5⟩ := inv
  refine WpG.g tabOK 7 rfl ?_
  refine WpG.caseD (t := 86) rfl (fun q86 => ?_) (fun q86 => ?_)
  ·refine WpG.g tabOK 8 rfl ?_
   refine WpG.indexR tabOK rfl rfl rfl rfl rfl rfl rfl rfl rfl hs (by omega) (by omega) ?_
   rintro x16 hx16 b16 o16 _ ⟨A16, c16, rfl, u16, r16⟩ hc16
   have bz16 := r16.1
   obtain rfl : x16 = (nth s k) := hx16
   refine WpG.y rfl rfl rfl rfl (RunY.loadH tabOK hc16 hH15 rfl rfl rfl rfl) ?_
   refine WpG.g tabOK 1 rfl ?_
   refine WpG.callS rfl rfl rfl rfl rfl rfl hlr (rHas_calls (r16.mono hH15) t) ?_
   refine WpG.g tabOK 1 rfl ?_
   refine WpG.caseB (t := 94) rfl (fun q94 => ?_) (fun q94 => ?_)
   ·refine WpG.g tabOK 1 rfl ?_
    refine WpG.drawE 13 12 [Chunk.own 22 1 (some ⟨b12, 0, none⟩) s.length s.length (rs.map Rw.val), Chunk.box b1 [.slice none 0 0, .slice none 0 0] 46] mixed (by kernel_rfl) ?_
    refine WpE.gg (listed' := lst 13 301) tabOK [0, 2, 3, 5, 8] (by kernel_rfl) rfl hH15 hlr (.cons_cons _ (.cons_cons _ (List.nil_sublist _))) ?_
    refine WpE.y (i := 1) (fuel := 7) (listed' := lst 13 303) (by kernel_rfl) rfl rfl rfl rfl hH15 hlr (.cons_cons _ (.cons_cons _ (List.nil_sublist _))) (RunY.loadH tabOK (hc15.sub 1 1) hlr rfl rfl rfl rfl) ?_
    refine WpE.y (i := 4) (fuel := 6) (listed' := lst 13 319) (by kernel_rfl) rfl rfl rfl rfl hH15 hlr (.cons_cons _ (.cons_cons _ (List.nil_sublist _))) (RunY.loadH tabOK (hc15.sub 1 1) hlr rfl rfl rfl rfl) ?_
    refine WpE.p (i := 6) (fuel := 5) (listed' := lst 13 383) (by kernel_rfl) rfl rfl rfl rfl hH15 hlr (.cons_cons _ (.cons_cons _ (List.nil_sublist _))) (RunP.indexAddr tabOK rfl rfl rfl rfl rfl (by omega) (by omega)) ?_
    obtain ⟨r, hr, hrx⟩ := row_of j3 t0 q81
    refine WpE.y (i := 7) (fuel := 4) (listed' := lst 13 511) (by kernel_rfl) rfl rfl rfl rfl hH15 hlr (.cons_cons _ (.cons_cons _ (List.nil_sublist _))) (RunY.loadOwn (ci := 0) (cs := [Rw.val r]) tabOK rfl rfl rfl rfl rfl (rows_cell hr)) ?_
    refine WpE.f (i := 9) (fuel := 3) (listed' := lst 13 1023) (by kernel_rfl) hH15 (OpG.buildSlice (xs := [.int .i64 k]) tabOK rfl rfl rfl rfl rfl rfl rfl rfl rfl rfl) ?_
    rintro F1 H1 L1 ⟨b17, eF, eH, eL⟩
    subst eF; subst eL; rw [eH]; clear eH H1
    refine ⟨hlr, (.cons _ (.cons_cons _ (.cons_cons _ (List.nil_sublist _)))), ?_⟩
    refine WpE.f (i := 10) (fuel := 2) (listed' := lst 13 2047) (by kernel_rfl) hH15 (OpG.append (ci := t.toNat + 3) (xs := r.xs.map iv) tabOK rfl rfl rfl rfl rfl rfl rfl rfl rfl (rows_ch3 hr _ _ _) rfl rfl (Src.own (ci := 0) rfl) (by have := predsOf_len E t.toNat; rw [hrx]; omega)) ?_
    rintro F1 H1 L1 ⟨A', c', eF, eH, eL⟩
    subst eF; subst eL; rw [eH]; clear eH H1
    obtain ⟨rs', hrs⟩ : ∃ rs', rs' = rs.set t.toNat ⟨A', c', r.xs ++ [k]⟩ := ⟨_, rfl⟩
    refine ⟨hlr, (by rw [show r.xs.map iv ++ [.int .i64 k] = (r.xs ++ [k]).map iv from by rw [List.map_append]; rfl, rows_set3 _ _ _ hrs (n := r.xs.length + 1) (by simp)]; exact (.cons _ (.cons_cons _ (.cons_cons _ (List.nil_sublist _))))), ?_⟩
    refine WpE.setL (L' := (Chunk.own 3 1 (some ⟨b17, 0, none⟩) 1 1 [.int .i64 k] :: Chunk.own 22 1 (some ⟨b12, 0, none⟩) s.length s.length (rs.map Rw.val) :: Chunk.box b1 [.slice none 0 0, .slice none 0 0] 46 :: rs'.map (Rw.ch 3))) (by rw [← rows_set3 _ _ _ hrs (n := r.xs.length + 1) (by simp), List.map_append]; rfl) ?_
    refine WpE.p (i := 11) (fuel := 1) (listed' := lst 13 4095) (by kernel_rfl) rfl rfl rfl rfl hH15 hlr (.cons _ (.cons_cons _ (.cons_cons _ (List.nil_sublist _)))) (RunP.indexAddr tabOK rfl rfl rfl rfl rfl (by omega) (by omega)) ?_
    refine WpE.halt [Chunk.box b1 [.slice none 0 0, .slice none 0 0] 46] (fuel := 0) (listed' := lst 13 8191) (by kernel_rfl) (OpG.storeOwn (ci := 1) tabOK rfl rfl rfl rfl rfl rfl rfl rfl (putAt_one (by simp only [List.length_map]; have := (List.getElem?_eq_some_iff.1 hr).1; show 0 + t.toNat * 1 < _; omega))) ?_
    rintro F1 H1 L1 ⟨eF, eH, eL⟩
    subst eF; subst eL; rw [eH]; clear eH H1
    refine WpD.setL (L' := (Chunk.own 3 1 (some ⟨b17, 0, none⟩) 1 1 [.int .i64 k] :: Chunk.own 22 1 (some ⟨b12, 0, none⟩) s.length s.length (rs'.map Rw.val) :: Chunk.box b1 [.slice none 0 0, .slice none 0 0] 46 :: rs'.map (Rw.ch 3))) (by rw [← rows_vals hrs (n := r.xs.length + 1) (by simp)]; rfl) ?_
    refine WpD.done (by kernel_rfl) ?_
    refine WpG.gw tabOK 4 88 rfl (wrk (x := k + 1) (by omega) (by omega)) ?_
    refine WpG.g tabOK 3 rfl ?_
    refine WpG.dropL (L' := (Chunk.own 22 1 (some ⟨b12, 0, none⟩) s.length s.length (rs'.map Rw.val) :: Chunk.box b1 [.slice none 0 0, .slice none 0 0] 46 :: rs'.map (Rw.ch 3))) (.cons _ (.cons_cons _ (.cons_cons _ (List.Sublist.refl _)))) ?_
    refine WpG.wk (ih4 (k + 1) (E ++ [(k, t)]) rs' ?_ ?_) rfl
    ·dsimp only
     omega
    clear ih1 ih3 ih4
    show 0 ≤ (k + 1) ∧ (k + 1) ≤ s.length ∧ (∃ D, (E ++ [(k, t)]) = tgtE s t.toNat ++ (D.map fun y => (y, t)) ∧ srcs 0 s t = D ++ srcs (k + 1) (s.drop (k + 1).toNat) t) ∧ rs'.map Rw.xs = (List.range s.length).map (predsOf (E ++ [(k, t)])) ∧ ((E ++ [(k, t)]).length : Int) ≤ t * 64 + (k + 1) ∧ ∀ e ∈ (E ++ [(k, t)]), I64 e.1
    obtain ⟨D, e1, e2⟩ := j2
    have z := srcs_step e2 j0 q86; rw [if_pos q94] at z
    refine ⟨by omega, by omega, ⟨D ++ [k], by rw [e1]; simp, z⟩, preds_step j3 hr t0 hrs, by simp only [List.length_append, List.length_cons, List.length_nil]; omega, ?_⟩
    intro e he; rcases List.mem_append.1 he with h | h
    ·exact j5 e h
    ·rw [List.mem_singleton.1 h]; exact ⟨by omega, by omega⟩
   refine WpG.gw tabOK 6 88 rfl (wrk (x := k + 1) (by omega) (by omega)) ?_
   refine WpG.g tabOK 3 rfl ?_
   refine WpG.wk (ih4 (k + 1) E rs ?_ ?_) rfl
   ·dsimp only
    omega
   clear ih1 ih3 ih4
   show 0 ≤ (k + 1) ∧ (k + 1) ≤ s.length ∧ (∃ D, E = tgtE s t.toNat ++ (D.map fun y => (y, t)) ∧ srcs 0 s t = D ++ srcs (k + 1) (s.drop (k + 1).toNat) t) ∧ rs.map Rw.xs = (List.range s.length).map (predsOf E) ∧ (E.length : Int) ≤ t * 64 + (k + 1) ∧ ∀ e ∈ E, I64 e.1
   obtain ⟨D, e1, e2⟩ := j2
   have z := srcs_step e2 j0 q86; rw [if_neg (by simp [q94])] at z
   exact ⟨by omega, by omega, ⟨D, e1, by simpa using z⟩, j3, by omega, j5⟩
  refine WpG.gw tabOK 6 83 rfl (wrk (x := t + 1) (by omega) (by omega)) ?_
  refine WpG.g tabOK 3 rfl ?_
  refine WpG.wk (ih3 (t + 1) E rs ?_ ?_) rfl
  ·dsimp only
   omega
  clear ih1 ih3 ih4
  exact ⟨by omega, by omega, by obtain ⟨D, e1, e2⟩ := j2; rw [e1, tgtE_succ s t0, srcs_end e2 j0 q86], j3, by omega, j5⟩
 refine WpG.g tabOK 4 rfl ?_
 refine WpG.y rfl rfl rfl rfl (RunY.loadH tabOK hc15 hlr rfl rfl rfl rfl) ?_
 refine WpG.storeBox (ci := 1) (cs' := [.slice A s.length c, .slice (some ⟨b12, 0, none⟩) s.length s.length]) tabOK rfl rfl rfl rfl rfl rfl rfl rfl rfl ?_
 refine WpG.g tabOK 2 rfl ?_
 refine WpG.permL (L' := rs.map (Rw.ch 3) ++ [Chunk.own 22 1 (some ⟨b12, 0, none⟩) s.length s.length (rs.map Rw.val), Chunk.box b1 [.slice A s.length c, .slice (some ⟨b12, 0, none⟩) s.length s.length] 46]) (List.perm_append_comm (l₁ := rs.map (Rw.ch 3)) (l₂ := [Chunk.own 22 1 (some ⟨b12, 0, none⟩) s.length s.length (rs.map Rw.val), Chunk.box b1 [.slice A s.length c, .slice (some ⟨b12, 0, none⟩) s.length s.length] 46])) ?_
 refine WpG.freezeRows 3 rs (rows_all i3 i5 (by omega)) (fun Hr hHr hR => ?_)
 refine WpG.ownCap (ci := 0) rfl (fun uz19 => ?_)
 refine WpG.freezeOwn (ci := 0) rfl (fun H19 hH19 fz19 => ?_)
 have rz19 : RdS H19 (some ⟨b12, 0, none⟩) (rs.map Rw.xs) := RdS.of_own (H := Hr) (show RdL Hr (rs.map Rw.val) (rs.map Rw.xs) from RdL_rows rs hR) ((by rw [i3]; simp)) (by rw [i3]; simp; omega) hH19 fz19
 exact WpG.ret tabOK (L' := []) (.cell (ci := 0) rfl rfl rfl rfl (.tmp rfl .nil)) (.cons _ .slnil) (rMake_yes hok hc (hs.mono ((hH15.trans hHr).trans hH19)) (make_preds (m := t.toNat) hok (by omega) (i2 ▸ i3)) rfl (Nat.le_refl _) rz19)
theorem rMayG_calls {H : Hp} {gr : GraphD} {cs_gr : List Value} (rd_gr : Rdc.rd H cs_gr gr) : CallG Tryz.prog 84 [.agg cs_gr.toArray] H [] (fun v _ L' => v = .bool (mayG gr) ∧ L' = []) := by
 have rd_gr' := rd_gr; obtain ⟨A_gr_0, c_gr_0, A_gr_1, c_gr_1, rfl, u_gr_0, r_gr_0, u_gr_1, r_gr_1⟩ := rd_gr
 refine CallG.of Tryz.func84 rfl rfl rfl fun w0 => ?_
 refine WpG.g tabOK 2 rfl ?_
 refine WpG.box rfl rfl rfl rfl rfl (fun b1 => ?_)
 refine WpG.freezeBox (ci := 0) rfl (fun H2 hH2 hc2 => ?_)
 refine WpG.g tabOK 5 rfl ?_
 refine WpG.y rfl rfl rfl rfl (RunY.loadH tabOK (hc2.sub 0 1) hlr rfl rfl rfl rfl) ?_
 refine WpG.call0 rfl rfl rfl rfl rfl rfl (rMake_calls (r_gr_0.mono hH2) u_gr_0) ?_
 rintro _ H3 _ hH3 ⟨A3, c3, B3, d3, rfl, ua3, ra3, ub3, rb3, rfl⟩
 refine WpG.g tabOK 3 rfl ?_
 refine WpG.alloc tabOK rfl rfl rfl rfl rfl (fun b4 => ?_)
 refine WpG.storeBox (ci := 0) (cs' := [.slice A3 ((makeD gr.succ).1.succ.length) c3, .slice B3 ((makeD gr.succ).1.pred.length) d3]) tabOK rfl rfl rfl rfl rfl rfl rfl rfl rfl ?_
 refine WpG.freezeBox (ci := 0) rfl (fun H5 hH5 hc5 => ?_)
 refine WpG.g tabOK 7 rfl ?_
 refine WpG.caseE (t := 13) rfl (fun q13 => ?_) (fun q13 => ?_)
 ·refine WpG.y rfl rfl rfl rfl (RunY.loadH tabOK hc5 hlr rfl rfl rfl rfl) ?_
  refine WpG.y rfl rfl rfl rfl (RunY.loadH tabOK hc2 (hH3.trans hH5) rfl rfl rfl rfl) ?_
  refine WpG.callS rfl rfl rfl rfl rfl rfl hlr (rSame_calls (Rdc.mono hH5 ⟨_, _, _, _, rfl, ua3, ra3, ub3, rb3⟩) (Rdc.mono ((hH2.trans hH3).trans hH5) rd_gr')) ?_
  refine WpG.g tabOK 3 rfl ?_
  exact WpG.ret tabOK (L' := []) (.tmp rfl .nil) .slnil ⟨congrArg Value.bool (by first | exact mayG_no q13 | exact mayG_same q13), rfl⟩
 refine WpG.g tabOK 6 rfl ?_
 exact WpG.ret tabOK (L' := []) (.tmp rfl .nil) .slnil ⟨congrArg Value.bool (by first | exact mayG_no q13 | exact mayG_same q13), rfl⟩
end Go.Proofs.YtakameggkkjcpaaGreat
namespace Go.Proofs.YtakameggkkjcpaaGreat
open Go Go.RowKit
theorem own_goes {k : Int} (h0 : 0 ≤ k) (h1 : k ≤ 3) : ∀ (q : Nat) u, [Value.int .i64 (goesD k)][q]? = some u → [Value.int .i64 0, .int .i64 1, .int .i64 2, .int .i64 0][0 + k.toNat * 1 + q]? = some u := fun q u hu => by
  cases q with
  | zero =>
    simp only [List.getElem?_cons_zero, Option.some.injEq] at hu
    subst hu
    have : k = 0 ∨ k = 1 ∨ k = 2 ∨ k = 3 := by omega
    rcases this with rfl | rfl | rfl | rfl <;> rfl
  | succ q => simp at hu
def upTo (l : List Int) (m : Nat) : List Int := ((List.range m).filter fun (j : Nat) => decide (1 ≤ j) && hasD l (j : Int)).map fun (j : Nat) => (j : Int)
theorem upTo_one (l : List Int) : upTo l 1 = [] := by simp [upTo, List.range_succ]
theorem upTo_succ {l : List Int} {k : Int} (h : 1 ≤ k) : upTo l (k + 1).toNat = upTo l k.toNat ++ if hasD l k = true then [k] else [] := by
  rw [toNat_succ (by omega)]
  have e : ((k.toNat : Nat) : Int) = k := by omega
  unfold upTo
  rw [List.range_succ, List.filter_append, List.map_append]
  congr 1
  by_cases hh : hasD l k = true
  · rw [if_pos hh, List.filter_cons, if_pos (by rw [e, hh]; simp; omega)]; simp [e]
  · have hh' : hasD l k = false := by simpa using hh
    rw [if_neg hh, List.filter_cons, if_neg (by rw [e, hh']; simp)]; rfl
theorem mem_upTo {l : List Int} {m : Nat} {x : Int} : x ∈ upTo l m ↔ 1 ≤ x ∧ x < m ∧ x ∈ l := by
  unfold upTo
  simp only [List.mem_map, List.mem_filter, List.mem_range, Bool.and_eq_true, decide_eq_true_eq, hasD_iff]
  constructor
  · rintro ⟨j, ⟨h1, h2, h3⟩, rfl⟩; exact ⟨by omega, by omega, h3⟩
  · rintro ⟨h1, h2, h3⟩
    obtain ⟨n, rfl⟩ := Int.eq_ofNat_of_zero_le (show 0 ≤ x by omega)
    exact ⟨n, ⟨by omega, by omega, h3⟩, rfl⟩
theorem upTo_lt (l : List Int) : ∀ m, (upTo l m).Pairwise (· < ·) := fun m => by
  unfold upTo
  rw [List.pairwise_map]
  exact (List.Pairwise.filter _ List.pairwise_lt_range).imp fun h => by omega
theorem lt_ext : ∀ {a b : List Int}, a.Pairwise (· < ·) → b.Pairwise (· < ·) → (∀ x, x ∈ a ↔ x ∈ b) → a = b
  | [], [], _, _, _ => rfl
  | [], y :: b, _, _, h => absurd ((h y).2 (.head _)) (by simp)
  | x :: a, [], _, _, h => absurd ((h x).1 (.head _)) (by simp)
  | x :: a, y :: b, ha, hb, h => by
    rw [List.pairwise_cons] at ha hb
    have e : x = y := by
      rcases List.mem_cons.1 ((h x).1 (.head _)) with e | hx
      · exact e
      · rcases List.mem_cons.1 ((h y).2 (.head _)) with e | hy
        · exact e.symm
        · have := hb.1 x hx; have := ha.1 y hy; omega
    subst e
    rw [lt_ext ha.2 hb.2 fun z => ?_]
    constructor
    · intro hz
      rcases List.mem_cons.1 ((h z).1 (.tail _ hz)) with e | hz'
      · subst e; have := ha.1 z hz; omega
      · exact hz'
    · intro hz
      rcases List.mem_cons.1 ((h z).2 (.tail _ hz)) with e | hz'
      · subst e; have := hb.1 z hz; omega
      · exact hz'
theorem sort2 (l : List Int) (h : l.length ≤ 2) : (compact2 (sortD l)).Pairwise (· < ·) ∧ ∀ x, x ∈ compact2 (sortD l) ↔ x ∈ l := by
  have hs : (sortD l).Pairwise (· ≤ ·) := by
    have := List.pairwise_mergeSort (le := fun (a b : Int) => decide (a ≤ b)) (fun a b c h1 h2 => by simp at *; omega) (fun a b => by simp; omega) l
    exact this.imp fun h => by simpa using h
  have hl := sortD_len l
  have hm : ∀ x, x ∈ sortD l ↔ x ∈ l := fun x => sortD_mem
  generalize sortD l = s at hs hl hm
  match s, hl with
  | [], _ => exact ⟨.nil, hm⟩
  | [a], _ => exact ⟨by simp [compact2], hm⟩
  | [a, b], _ =>
    rw [List.pairwise_cons] at hs
    have hab := hs.1 b (.head _)
    by_cases e : a = b
    · subst e
      refine ⟨by simp [compact2], fun x => ?_⟩
      rw [← hm]; simp [compact2]
    · refine ⟨?_, fun x => ?_⟩
      · simp only [compact2, e, if_false]; simp; omega
      · rw [← hm]; simp [compact2, e]
  | _ :: _ :: _ :: _, hl => simp at hl; omega
theorem upTo_end {b : BlockD} {n : Nat} (h2 : b.en.to.length ≤ 2) (h : ∀ x ∈ b.en.to, 1 ≤ x ∧ x < n) : upTo b.en.to n = succOf b := by
  have h3 := sort2 b.en.to h2
  unfold succOf
  refine lt_ext (upTo_lt _ _) h3.1 fun x => ?_
  rw [mem_upTo, h3.2]
  exact ⟨fun h => h.2.2, fun hx => ⟨(h x hx).1, (h x hx).2, hx⟩⟩
def inR (n x : Int) : Bool := !(decide (x < 1) || decide (x ≥ n))
theorem inR_no {n x : Int} (h : (decide (x ≤ 0) || decide (x ≥ n)) = true) : inR n x = false := by
  unfold inR; rw [show decide (x < 1) = decide (x ≤ 0) from decide_eq_decide.2 (by omega), h]; rfl
theorem inR_yes {n x : Int} (h : (decide (x ≤ 0) || decide (x ≥ n)) = false) : inR n x = true := by
  unfold inR; rw [show decide (x < 1) = decide (x ≤ 0) from decide_eq_decide.2 (by omega), h]; rfl
theorem any_not_all {α : Type} {p : α → Bool} {l : List α} : l.any p = !l.all fun x => !p x := by
  induction l with
  | nil => rfl
  | cons a l ih => simp only [List.any_cons, List.all_cons, ih, Bool.not_and, Bool.not_not]
theorem inR_any {n : Int} {l : List Int} {t : Bool} (h : l.all (inR n) = t) : (l.any fun k => decide (k < 1) || decide (k ≥ n)) = !t := by
  rw [← h]; unfold inR; exact any_not_all
theorem inR_all {n : Int} {l : List Int} (h : l.all (inR n) = true) : ∀ x ∈ l, 1 ≤ x ∧ x < n := fun x hx => by
  have := List.all_eq_true.1 h x hx
  unfold inR at this
  simp at this
  omega
theorem ofR_a {n : Int} {b : BlockD} (h : b.en.kind < 0 ∨ b.en.kind > 3 ∨ (b.en.to.length : Int) ≠ goesD b.en.kind) : ofOK n b = false := by
  refine ofOK_a fun e => ?_
  rcases h with h | h | h
  · have : goesD b.en.kind = -1 := by unfold goesD; rw [if_neg (by omega), if_neg (by omega), if_neg (by omega), if_neg (by omega)]
    omega
  · have : goesD b.en.kind = -1 := by unfold goesD; rw [if_neg (by omega), if_neg (by omega), if_neg (by omega), if_neg (by omega)]
    omega
  · exact h e.symm
theorem of_head {f : FuncD} (h : ((f.blocks.length : Int) == 0 || decide ((f.blocks.length : Int) > 64)) = true) : ofD f = (⟨[], []⟩, 5) := by
  simp only [Bool.or_eq_true, beq_iff_eq, decide_eq_true_eq] at h
  rcases h with h | h
  · have e : f.blocks = [] := List.eq_nil_of_length_eq_zero (by omega)
    unfold ofD; rw [e]; rfl
  · exact of_no1 h
theorem of_64 {f : FuncD} (h : ((f.blocks.length : Int) == 0 || decide ((f.blocks.length : Int) > 64)) = false) : ¬ (f.blocks.length : Int) > 64 := by
  simp only [Bool.or_eq_false_iff, decide_eq_false_iff_not] at h
  exact h.2
end Go.Proofs.YtakameggkkjcpaaGreat
set_option maxRecDepth 4000
namespace Go.Proofs.YtakameggkkjcpaaGreat
open Go Go.RowKit
theorem rMake_n {H : Hp} {A : Option Addr} {n c : Nat} {s : List (List Int)} (hs : RdS H A s) (hn : n = s.length) (hc : n ≤ c) : CallG Tryz.prog 65 [.slice A n c] H [] (fun v H' L' => ∃ A c A' c', v = .tuple #[.agg #[.slice A (makeD s).1.succ.length c, .slice A' (makeD s).1.pred.length c'], .int .i64 (makeD s).2] ∧ (makeD s).1.succ.length ≤ c ∧ RdS H' A (makeD s).1.succ ∧ (makeD s).1.pred.length ≤ c' ∧ RdS H' A' (makeD s).1.pred ∧ L' = []) := by
 subst hn
 exact rMake_calls hs hc
theorem rOf_calls {H : Hp} {f : FuncD} {cs_f : List Value} (rd_f : Rdc.rd H cs_f f) : CallG Tryz.prog 30 [.agg cs_f.toArray] H [] (fun v H' L' => ∃ A c A' c', v = .tuple #[.agg #[.slice A (ofD f).1.succ.length c, .slice A' (ofD f).1.pred.length c'], .int .i64 (ofD f).2] ∧ (ofD f).1.succ.length ≤ c ∧ RdS H' A (ofD f).1.succ ∧ (ofD f).1.pred.length ≤ c' ∧ RdS H' A' (ofD f).1.pred ∧ L' = []) := by
 have rd_f' := rd_f; obtain ⟨A_f_0, c_f_0, A_f_2, c_f_2, rfl, u_f_0, r_f_0, u_f_2, r_f_2, k_f_0⟩ := rd_f
 have bs := r_f_2.1
 refine CallG.of Tryz.func30 rfl rfl rfl fun w0 => ?_
 refine WpG.g tabOK 2 rfl ?_
 refine WpG.box rfl rfl rfl rfl rfl (fun b1 => ?_)
 refine WpG.freezeBox (ci := 0) rfl (fun H2 hH2 hc2 => ?_)
 refine WpG.alloc tabOK rfl rfl rfl rfl rfl (fun b3 => ?_)
 refine WpG.g tabOK 5 rfl ?_
 refine WpG.y rfl rfl rfl rfl (RunY.loadH tabOK (hc2.sub 2 1) hlr rfl rfl rfl rfl) ?_
 refine WpG.g tabOK 5 rfl ?_
 apply WpG.join (G := [(1, .pointer (some ⟨b1, 0, none⟩)), (2, .pointer (some ⟨b3, 0, none⟩)), (4, .int .i64 (f.blocks.length : Int)), (19, .bool (((f.blocks.length : Int) == 0) || (decide ((f.blocks.length : Int) > 64))))])
 ·intro nx4
  refine WpG.g tabOK 1 rfl ?_
  refine WpG.g tabOK 3 rfl ?_
  refine WpG.caseE (t := 16) rfl (fun q16 => ?_) (fun q16 => ?_)
  ·refine WpG.g tabOK 4 rfl ?_
   exact nx4.weak ⟨rfl, rfl, rfl, bq (by simp [q16]), trivial⟩
  refine WpG.g tabOK 4 rfl ?_
  exact nx4.weak ⟨rfl, rfl, rfl, bq (by simp [q16, nb q16]), trivial⟩
 refine WpG.caseB (t := 19) rfl (fun q19 => ?_) (fun q19 => ?_)
 ·refine WpG.g tabOK 4 rfl ?_
  refine WpG.storeBox (ci := 0) (cs' := [.slice none 0 0, .slice none 0 0]) tabOK rfl rfl rfl rfl rfl rfl rfl rfl rfl ?_
  refine WpG.g tabOK 2 rfl ?_
  exact WpG.ret tabOK (L' := []) (.cell (ci := 0) rfl rfl rfl rfl (.tmp rfl .nil)) (.cons _ .slnil) (Of_no (of_head q19))
 have h64 := of_64 q19
 refine WpG.g tabOK 13 rfl ?_
 refine WpG.ownNil 22 1 ?_
 refine WpG.wk (WpG.ind6 (fun (i : Int) (A5 : Option Addr) (n5 : Nat) (c5 : Nat) (cs : List Value) (G : Hp) => ⟨(f.blocks.length - i).toNat, [(1, .pointer (some ⟨b1, 0, none⟩)), (2, .pointer (some ⟨b3, 0, none⟩)), (4, .int .i64 (f.blocks.length : Int)), (5, .slice A5 n5 c5), (6, .int .i64 i)], G, [Chunk.own 22 1 A5 c5 n5 cs, Chunk.box b3 [.slice none 0 0, .slice none 0 0] 46], 0 ≤ i ∧ i ≤ f.blocks.length ∧ n5 = i ∧ H2.le G ∧ RdL G cs ((f.blocks.take i.toNat).map succOf) ∧ (f.blocks.take i.toNat).all (ofOK f.blocks.length) = true⟩) ?_ 0 none 0 0 [] H2 ⟨by omega, by omega, by simp, Hp.le.refl _, rfl, rfl⟩) rfl
 intro i A5 n5 c5 cs G inv ih1
 obtain ⟨i0, i1, i2, i3, i4, i5⟩ := inv
 refine WpG.g tabOK 7 rfl ?_
 refine WpG.caseD (t := 23) rfl (fun q23 => ?_) (fun q23 => ?_)
 ·refine WpG.g tabOK 7 rfl ?_
  refine WpG.y rfl rfl rfl rfl (RunY.loadH tabOK (hc2.sub 2 1) i3 rfl rfl rfl rfl) ?_
  refine WpG.g tabOK 1 rfl ?_
  refine WpG.indexR tabOK rfl rfl rfl rfl rfl rfl rfl rfl rfl r_f_2 (by omega) (by omega) ?_
  rintro x5 hx5 b5 o5 cs5 rd5 hc5
  have rd5' := rd5; obtain ⟨A5_0, c5_0, A5_1, c5_1, A5_4, c5_4, rfl, u5_0, r5_0, u5_1, r5_1, u5_4, r5_4, k5_0, k5_1⟩ := rd5
  have bz5_0 := r5_0.1
  have bz5_1 := r5_1.1
  have bz5_4 := r5_4.1
  obtain rfl : x5 = (nth f.blocks i) := hx5
  refine WpG.g tabOK 1 rfl ?_
  refine WpG.y rfl rfl rfl rfl (RunY.loadH tabOK (hc5.sub 2 3) (hH2.trans i3) rfl rfl rfl rfl) ?_
  refine WpG.alloc tabOK rfl rfl rfl rfl rfl (fun b6 => ?_)
  refine WpG.storeBox (ci := 0) (cs' := [.int .i64 ((nth f.blocks i).en.kind), .int .i64 ((nth f.blocks i).en.arg), .slice A5_4 ((nth f.blocks i).en.to.length) c5_4]) tabOK rfl rfl rfl rfl rfl rfl rfl rfl rfl ?_
  refine WpG.freezeBox (ci := 0) rfl (fun H7 hH7 hc7 => ?_)
  refine WpG.g tabOK 3 rfl ?_
  refine WpG.draw 19 [Chunk.own 22 1 A5 c5 n5 cs, Chunk.box b3 [.slice none 0 0, .slice none 0 0] 46] mixed (by kernel_rfl) ?_
  refine WpD.g (listed' := lst 19 1) tabOK [0] (by kernel_rfl) rfl ((hH2.trans i3).trans hH7) hlr (.refl _) ?_
  refine WpD.y (i := 1) (fuel := 17) (listed' := lst 19 3) (by kernel_rfl) rfl rfl rfl rfl ((hH2.trans i3).trans hH7) hlr (.refl _) (RunY.loadH tabOK (hc7.sub 0 1) hlr rfl rfl rfl rfl) ?_
  refine WpD.g (listed' := lst 19 15) tabOK [2, 3] (by kernel_rfl) rfl ((hH2.trans i3).trans hH7) hlr (.refl _) ?_
  refine WpD.caseD (t := 35) rfl (fun q35 => ?_) (fun q35 => ?_)
  ·refine WpD.g (listed' := lst 19 524287) tabOK [4, 5, 6, 7, 8, 9, 10, 11, 12, 13, 14, 15, 16, 17, 18] (by kernel_rfl) rfl ((hH2.trans i3).trans hH7) hlr (.refl _) ?_
   refine WpD.done (by kernel_rfl) ?_
   refine WpG.g tabOK 4 rfl ?_
   refine WpG.storeBox (ci := 1) (cs' := [.slice none 0 0, .slice none 0 0]) tabOK rfl rfl rfl rfl rfl rfl rfl rfl rfl ?_
   refine WpG.g tabOK 2 rfl ?_
   exact WpG.ret tabOK (L' := []) (.cell (ci := 1) rfl rfl rfl rfl (.tmp rfl .nil)) (.cons _ (.cons _ .slnil)) (Of_no (of_no2 (of_64 q19) (of_bad i0 q23 rfl (ofR_a (.inl q35)))))
  refine WpD.g (listed' := lst 19 31) tabOK [4] (by kernel_rfl) rfl ((hH2.trans i3).trans hH7) hlr (.refl _) ?_
  refine WpD.y (i := 5) (fuel := 13) (listed' := lst 19 63) (by kernel_rfl) rfl rfl rfl rfl ((hH2.trans i3).trans hH7) hlr (.refl _) (RunY.loadH tabOK (hc7.sub 0 1) hlr rfl rfl rfl rfl) ?_
  refine WpD.g (listed' := lst 19 511) tabOK [6, 7, 8] (by kernel_rfl) rfl ((hH2.trans i3).trans hH7) hlr (.refl _) ?_
  refine WpD.caseD (t := 40) rfl (fun q40 => ?_) (fun q40 => ?_)
  ·refine WpD.g (listed' := lst 19 524287) tabOK [9, 10, 11, 12, 13, 14, 15, 16, 17, 18] (by kernel_rfl) rfl ((hH2.trans i3).trans hH7) hlr (.refl _) ?_
   refine WpD.done (by kernel_rfl) ?_
   refine WpG.g tabOK 4 rfl ?_
   refine WpG.storeBox (ci := 1) (cs' := [.slice none 0 0, .slice none 0 0]) tabOK rfl rfl rfl rfl rfl rfl rfl rfl rfl ?_
   refine WpG.g tabOK 2 rfl ?_
   exact WpG.ret tabOK (L' := []) (.cell (ci := 1) rfl rfl rfl rfl (.tmp rfl .nil)) (.cons _ (.cons _ .slnil)) (Of_no (of_no2 (of_64 q19) (of_bad i0 q23 rfl (ofR_a (.inr (.inl q40))))))
  refine WpD.g (listed' := lst 19 9215) tabOK [9, 13] (by kernel_rfl) rfl ((hH2.trans i3).trans hH7) hlr (.refl _) ?_
  refine WpD.y (i := 10) (fuel := 7) (listed' := lst 19 10239) (by kernel_rfl) rfl rfl rfl rfl ((hH2.trans i3).trans hH7) hlr (.refl _) (RunY.loadH tabOK (hc7.sub 2 1) hlr rfl rfl rfl rfl) ?_
  refine WpD.g (listed' := lst 19 12287) tabOK [11] (by kernel_rfl) rfl ((hH2.trans i3).trans hH7) hlr (.refl _) ?_
  refine WpD.y (i := 14) (fuel := 5) (listed' := lst 19 28671) (by kernel_rfl) rfl rfl rfl rfl ((hH2.trans i3).trans hH7) hlr (.refl _) (RunY.loadH tabOK (hc7.sub 0 1) hlr rfl rfl rfl rfl) ?_
  refine WpD.f (i := 12) (fuel := 4) (listed' := lst 19 32767) (by kernel_rfl) ((hH2.trans i3).trans hH7) (OpG.buildSlice (xs := [.int .i64 0, .int .i64 1, .int .i64 2, .int .i64 0]) tabOK rfl rfl rfl rfl rfl rfl rfl rfl rfl rfl) ?_
  rintro F1 H1 L1 ⟨b8, eF, eH, eL⟩
  subst eF; subst eL; rw [eH]; clear eH H1
  refine ⟨hlr, (.cons _ (.cons_cons _ (.cons_cons _ .slnil))), ?_⟩
  change WpD _ _ _ _ _ _ _ _ _ _ _ _ _ _ [Chunk.own 3 1 (some ⟨b8, 0, none⟩) 4 4 [.int .i64 0, .int .i64 1, .int .i64 2, .int .i64 0], Chunk.own 22 1 A5 c5 n5 cs, Chunk.box b3 [.slice none 0 0, .slice none 0 0] 46]
  refine WpD.y (i := 15) (fuel := 3) (listed' := lst 19 65535) (by kernel_rfl) rfl rfl rfl rfl ((hH2.trans i3).trans hH7) hlr (.cons _ (.cons_cons _ (.cons_cons _ .slnil))) (RunY.indexAddr tabOK rfl rfl rfl rfl rfl (by omega) (by omega)) ?_
  refine WpD.f (i := 16) (fuel := 2) (listed' := lst 19 131071) (by kernel_rfl) ((hH2.trans i3).trans hH7) (OpG.ofY rfl rfl rfl rfl (RunY.loadOwn (ci := 0) (cs := [.int .i64 (goesD (nth f.blocks i).en.kind)]) tabOK rfl rfl rfl rfl rfl (own_goes (by omega) (by omega)))) ?_
  rintro F1 H1 L1 ⟨eF, eH, eL⟩
  subst eF; subst eL; rw [eH]; clear eH H1
  refine ⟨hlr, (.cons _ (.cons_cons _ (.cons_cons _ .slnil))), ?_⟩
  change WpD _ _ _ _ _ _ _ _ _ _ _ _ _ _ [Chunk.own 3 1 (some ⟨b8, 0, none⟩) 4 4 [.int .i64 0, .int .i64 1, .int .i64 2, .int .i64 0], Chunk.own 22 1 A5 c5 n5 cs, Chunk.box b3 [.slice none 0 0, .slice none 0 0] 46]
  refine WpD.g (listed' := lst 19 524287) tabOK [17, 18] (by kernel_rfl) rfl ((hH2.trans i3).trans hH7) hlr (.cons _ (.cons_cons _ (.cons_cons _ .slnil))) ?_
  refine WpD.done (by kernel_rfl) ?_
  refine WpG.caseN (t := 50) rfl (fun q50 => ?_) (fun q50 => ?_)
  ·refine WpG.g tabOK 4 rfl ?_
   refine WpG.storeBox (ci := 2) (cs' := [.slice none 0 0, .slice none 0 0]) tabOK rfl rfl rfl rfl rfl rfl rfl rfl rfl ?_
   refine WpG.g tabOK 2 rfl ?_
   exact WpG.ret tabOK (L' := []) (.cell (ci := 2) rfl rfl rfl rfl (.tmp rfl .nil)) (.cons _ (.cons _ (.cons _ .slnil))) (Of_no (of_no2 (of_64 q19) (of_bad i0 q23 rfl (ofR_a (.inr (.inr q50))))))
  have hle : (nth f.blocks i).en.to.length ≤ 2 := by have := goesD_le (nth f.blocks i).en.kind; omega
  refine WpG.g tabOK 13 rfl ?_
  refine WpG.dropL (L' := [Chunk.own 22 1 A5 c5 n5 cs, Chunk.box b3 [.slice none 0 0, .slice none 0 0] 46]) (.cons _ (.cons_cons _ (.cons_cons _ .slnil))) ?_
  refine WpG.wk (WpG.ind1 (fun (k : Int) => ⟨((nth f.blocks i).en.to.length - k).toNat, [(1, .pointer (some ⟨b1, 0, none⟩)), (2, .pointer (some ⟨b3, 0, none⟩)), (4, .int .i64 (f.blocks.length : Int)), (5, .slice A5 n5 c5), (6, .int .i64 i), (7, .pointer (some ⟨b6, 0, none⟩)), (8, .slice none 0 0), (9, .int .i64 k)], H7, [Chunk.own 22 1 A5 c5 n5 cs, Chunk.box b3 [.slice none 0 0, .slice none 0 0] 46], 0 ≤ k ∧ k ≤ (nth f.blocks i).en.to.length ∧ (nth f.blocks i).en.to.all (inR f.blocks.length) = ((nth f.blocks i).en.to.drop k.toNat).all (inR f.blocks.length)⟩) ?_ 0 ⟨by omega, by omega, rfl⟩) rfl
  intro k inv ih2
  obtain ⟨k0, k1, k2⟩ := inv
  refine WpG.g tabOK 5 rfl ?_
  refine WpG.y rfl rfl rfl rfl (RunY.loadH tabOK (hc7.sub 2 1) hlr rfl rfl rfl rfl) ?_
  refine WpG.g tabOK 3 rfl ?_
  refine WpG.caseD (t := 56) rfl (fun q56 => ?_) (fun q56 => ?_)
  ·refine WpG.g tabOK 7 rfl ?_
   refine WpG.y rfl rfl rfl rfl (RunY.loadH tabOK (hc7.sub 2 1) hlr rfl rfl rfl rfl) ?_
   refine WpG.g tabOK 1 rfl ?_
   refine WpG.indexR tabOK rfl rfl rfl rfl rfl rfl rfl rfl rfl r5_4 (by omega) (by omega) ?_
   rintro x10 hx10 b10 o10 _ ⟨rfl, k10⟩ hc10
   obtain rfl : x10 = (nth ((nth f.blocks i).en.to) k) := hx10
   refine WpG.y rfl rfl rfl rfl (RunY.loadH tabOK hc10 ((hH2.trans i3).trans hH7) rfl rfl rfl rfl) ?_
   refine WpG.g tabOK 2 rfl ?_
   refine WpG.caseD (t := 65) rfl (fun q65 => ?_) (fun q65 => ?_)
   ·refine WpG.g tabOK 13 rfl ?_
    refine WpG.storeBox (ci := 1) (cs' := [.slice none 0 0, .slice none 0 0]) tabOK rfl rfl rfl rfl rfl rfl rfl rfl rfl ?_
    refine WpG.g tabOK 2 rfl ?_
    exact WpG.ret tabOK (L' := []) (.cell (ci := 1) rfl rfl rfl rfl (.tmp rfl .nil)) (.cons _ (.cons _ .slnil)) (Of_no (of_no2 (of_64 q19) (of_bad i0 q23 rfl (ofOK_b q50.symm true (inR_any (t := false) (all_no k2 k0 q56 rfl (inR_no (by simp; omega))))))))
   refine WpG.g tabOK 1 rfl ?_
   refine WpG.y rfl rfl rfl rfl (RunY.loadH tabOK (hc7.sub 2 1) hlr rfl rfl rfl rfl) ?_
   refine WpG.g tabOK 1 rfl ?_
   refine WpG.indexR tabOK rfl rfl rfl rfl rfl rfl rfl rfl rfl r5_4 (by omega) (by omega) ?_
   rintro x11 hx11 b11 o11 _ ⟨rfl, k11⟩ hc11
   obtain rfl : x11 = (nth ((nth f.blocks i).en.to) k) := hx11
   refine WpG.y rfl rfl rfl rfl (RunY.loadH tabOK hc11 ((hH2.trans i3).trans hH7) rfl rfl rfl rfl) ?_
   refine WpG.g tabOK 4 rfl ?_
   refine WpG.caseD (t := 73) rfl (fun q73 => ?_) (fun q73 => ?_)
   ·refine WpG.g tabOK 4 rfl ?_
    refine WpG.storeBox (ci := 1) (cs' := [.slice none 0 0, .slice none 0 0]) tabOK rfl rfl rfl rfl rfl rfl rfl rfl rfl ?_
    refine WpG.g tabOK 2 rfl ?_
    exact WpG.ret tabOK (L' := []) (.cell (ci := 1) rfl rfl rfl rfl (.tmp rfl .nil)) (.cons _ (.cons _ .slnil)) (Of_no (of_no2 (of_64 q19) (of_bad i0 q23 rfl (ofOK_b q50.symm true (inR_any (t := false) (all_no k2 k0 q56 rfl (inR_no (by simp; omega))))))))
   refine WpG.gw tabOK 6 58 rfl (wrk (x := k + 1) (by omega) (by omega)) ?_
   refine WpG.g tabOK 3 rfl ?_
   refine WpG.wk (ih2 (k + 1) ?_ ?_) rfl
   ·dsimp only
    omega
   clear ih1 ih2
   exact ⟨by omega, by omega, all_step k2 k0 q56 rfl (inR_yes (by simp; omega))⟩
  refine WpG.g tabOK 9 rfl ?_
  refine WpG.ownNil 3 1 ?_
  refine WpG.wk (WpG.ind5 (fun (t : Int) (A8 : Option Addr) (n8 : Nat) (c8 : Nat) (l : List Int) => ⟨(f.blocks.length - t).toNat, [(1, .pointer (some ⟨b1, 0, none⟩)), (2, .pointer (some ⟨b3, 0, none⟩)), (4, .int .i64 (f.blocks.length : Int)), (5, .slice A5 n5 c5), (6, .int .i64 i), (7, .pointer (some ⟨b6, 0, none⟩)), (8, .slice A8 n8 c8), (10, .int .i64 t)], H7, [Chunk.own 3 1 A8 c8 n8 (l.map iv), Chunk.own 22 1 A5 c5 n5 cs, Chunk.box b3 [.slice none 0 0, .slice none 0 0] 46], 1 ≤ t ∧ l = upTo (nth f.blocks i).en.to t.toNat ∧ t ≤ f.blocks.length ∧ n8 = l.length ∧ n8 ≤ t⟩) ?_ 1 none 0 0 [] ⟨by omega, (upTo_one _).symm, by omega, rfl, by simp⟩) rfl
  intro t A8 n8 c8 l inv ih3
  obtain ⟨t0, l2, t1, l3, l4⟩ := inv
  refine WpG.g tabOK 7 rfl ?_
  refine WpG.caseD (t := 77) rfl (fun q77 => ?_) (fun q77 => ?_)
  ·refine WpG.g tabOK 7 rfl ?_
   refine WpG.y rfl rfl rfl rfl (RunY.loadH tabOK (hc7.sub 2 1) hlr rfl rfl rfl rfl) ?_
   refine WpG.g tabOK 1 rfl ?_
   refine WpG.callS rfl rfl rfl rfl rfl rfl hlr (rHas_calls (r5_4.mono ((hH2.trans i3).trans hH7)) t) ?_
   refine WpG.g tabOK 1 rfl ?_
   refine WpG.caseB (t := 83) rfl (fun q83 => ?_) (fun q83 => ?_)
   ·refine WpG.g tabOK 4 rfl ?_
    refine WpG.buildSlice (xs := [.int .i64 t]) tabOK rfl rfl rfl rfl rfl rfl rfl rfl rfl rfl (fun b12 => ?_)
    refine WpG.append (ci := 1) tabOK rfl rfl rfl rfl rfl rfl rfl rfl rfl rfl rfl rfl (Src.own (ci := 0) rfl) (by omega) (fun A14 c15 => ?_)
    refine WpG.dropL (L' := [Chunk.own 3 1 A14 c15 (n8 + 1) ((l.map iv) ++ [.int .i64 t]), Chunk.own 22 1 A5 c5 n5 cs, Chunk.box b3 [.slice none 0 0, .slice none 0 0] 46]) (.cons _ (.cons_cons _ (.cons_cons _ (.cons_cons _ .slnil)))) ?_
    refine WpG.setL (L' := [Chunk.own 3 1 A14 c15 (n8 + 1) ((l ++ [t]).map iv), Chunk.own 22 1 A5 c5 n5 cs, Chunk.box b3 [.slice none 0 0, .slice none 0 0] 46]) (by rw [List.map_append]; rfl) ?_
    refine WpG.gw tabOK 6 79 rfl (wrk (x := t + 1) (by omega) (by omega)) ?_
    refine WpG.g tabOK 3 rfl ?_
    refine WpG.wk (ih3 (t + 1) A14 (n8 + 1) c15 (l ++ [t]) ?_ ?_) rfl
    ·dsimp only
     omega
    clear ih1 ih2 ih3
    exact ⟨by omega, by rw [upTo_succ t0, l2, if_pos q83], by omega, by rw [l3, List.length_append]; rfl, by omega⟩
   refine WpG.gw tabOK 6 79 rfl (wrk (x := t + 1) (by omega) (by omega)) ?_
   refine WpG.g tabOK 3 rfl ?_
   refine WpG.wk (ih3 (t + 1) A8 n8 c8 l ?_ ?_) rfl
   ·dsimp only
    omega
   clear ih1 ih2 ih3
   exact ⟨by omega, by rw [upTo_succ t0, l2, if_neg (nt q83), List.append_nil], by omega, l3, by omega⟩
  refine WpG.g tabOK 5 rfl ?_
  obtain rfl : l = succOf (nth f.blocks i) := by rw [l2]; exact upTo_end hle (fun x hx => by have z := inR_all (all_end k2 k0 q56) x hx; omega)
  subst l3
  refine WpG.ownCap (ci := 0) rfl (fun uz16 => ?_)
  refine WpG.freezeOwn (ci := 0) rfl (fun H16 hH16 fz16 => ?_)
  have rz16 : RdS H16 A8 (succOf (nth f.blocks i)) := RdS.of_own (H := H7) (show RdL H7 ((succOf (nth f.blocks i)).map iv) (succOf (nth f.blocks i)) from RdL_ints _ (succOf_all (AllI_of r5_4))) (rfl) (by have := succOf_len (nth f.blocks i); omega) hH16 fz16
  refine WpG.buildSlice (xs := [.slice A8 ((succOf (nth f.blocks i)).length) c8]) tabOK rfl rfl rfl rfl rfl rfl rfl rfl rfl rfl (fun b17 => ?_)
  refine WpG.append (ci := 1) tabOK rfl rfl rfl rfl rfl rfl rfl rfl rfl rfl rfl rfl (Src.own (ci := 0) rfl) (by omega) (fun A19 c20 => ?_)
  refine WpG.dropL (L' := [Chunk.own 22 1 A19 c20 (n5 + 1) (cs ++ [.slice A8 ((succOf (nth f.blocks i)).length) c8]), Chunk.box b3 [.slice none 0 0, .slice none 0 0] 46]) (.cons _ (.cons_cons _ (.cons_cons _ .slnil))) ?_
  refine WpG.gw tabOK 6 25 rfl (wrk (x := i + 1) (by omega) (by omega)) ?_
  refine WpG.g tabOK 3 rfl ?_
  refine WpG.wk (ih1 (i + 1) A19 (n5 + 1) c20 (cs ++ [.slice A8 ((succOf (nth f.blocks i)).length) c8]) H16 ?_ ?_) rfl
  ·dsimp only
   omega
  clear ih1 ih2 ih3
  exact ⟨by omega, by omega, by omega, i3.trans (hH7.trans hH16), by rw [map_snoc succOf i0 q23 rfl]; exact (i4.mono (hH7.trans hH16)).snoc ⟨_, _, rfl, uz16, rz16⟩, by rw [take_snoc_nth i0 q23, List.all_append, i5]; simp [ofOK_b q50.symm _ (inR_any (all_end k2 k0 q56))]⟩
 obtain rfl : n5 = f.blocks.length := by omega
 refine WpG.g tabOK 5 rfl ?_
 refine WpG.ownCap (ci := 0) rfl (fun uz21 => ?_)
 refine WpG.freezeOwn (ci := 0) rfl (fun H21 hH21 fz21 => ?_)
 have rz21 : RdS H21 A5 (f.blocks.map succOf) := RdS.of_own (H := G) (show RdL G cs (f.blocks.map succOf) from by have h := i4; rw [List.take_of_length_le (by omega)] at h; exact h) ((by rw [List.length_map])) (by rw [List.length_map]; omega) hH21 fz21
 refine WpG.call0 rfl rfl rfl rfl rfl rfl (rMake_n rz21 (by rw [List.length_map]) uz21) ?_
 rintro _ H22 _ hH22 ⟨A22, c22, B22, d22, rfl, ua22, ra22, ub22, rb22, rfl⟩
 refine WpG.g tabOK 2 rfl ?_
 refine WpG.storeBox (ci := 0) (cs' := [.slice A22 ((makeD (f.blocks.map succOf)).1.succ.length) c22, .slice B22 ((makeD (f.blocks.map succOf)).1.pred.length) d22]) tabOK rfl rfl rfl rfl rfl rfl rfl rfl rfl ?_
 refine WpG.g tabOK 2 rfl ?_
 exact WpG.ret tabOK (L' := []) (.cell (ci := 0) rfl rfl rfl rfl (.tmp rfl .nil)) (.cons _ .slnil) (by rw [of_yes (of_64 q19) (by have h := i5; rw [List.take_of_length_le (by omega)] at h; exact h)]; exact ⟨_, _, _, _, rfl, ua22, ra22, ub22, rb22, rfl⟩)
end Go.Proofs.YtakameggkkjcpaaGreat
namespace Go.Proofs.YtakameggkkjcpaaGreat
open Go Go.RowKit
instance : Rdc Bool where
  sz := 1
  rd _ vs x := vs = [.bool x]
  len h := by rw [h]; rfl
  mono _ h := h
  one h := by rw [h]; rfl
theorem RdL_bools {H : Hp} : ∀ (l : List Bool), RdL H (l.map Value.bool) l
  | [] => rfl
  | x :: l => ⟨[.bool x], _, rfl, rfl, RdL_bools l⟩
theorem own_f {α : Type} [Inhabited α] {f : α → Value} {l : List α} {j : Int} (h0 : 0 ≤ j) (h1 : j < l.length) : ∀ (q : Nat) u, [f (nth l j)][q]? = some u → (l.map f)[0 + j.toNat * 1 + q]? = some u := fun q u hu => by
  cases q with
  | zero =>
    simp only [List.getElem?_cons_zero, Option.some.injEq] at hu
    subst hu
    exact arr_at (f := f) h0 h1
  | succ q => simp at hu
section
variable {S : List (List Int)} {root wo : Int}
def RSound (S : List (List Int)) (root wo : Int) (bs : List Bool) : Prop := bs.length = S.length ∧ nth bs root = true ∧ ∀ x : Int, 0 ≤ x → x < S.length → nth bs x = true → RchN S root wo x
def ROn (S : List (List Int)) (wo : Int) (bs : List Bool) (x : Int) : Prop := ∀ y ∈ nth S x, y ≠ wo → nth bs y = true
def RExact (S : List (List Int)) (root wo : Int) (bs : List Bool) : Prop := bs.length = S.length ∧ ∀ x : Int, 0 ≤ x → x < S.length → (nth bs x = true ↔ RchN S root wo x)
def RSub (a b : List Bool) : Prop := ∀ x : Int, 0 ≤ x → nth a x = true → nth b x = true
theorem rch_range (hR : Rows S) (h0 : 0 ≤ root) (h1 : root < S.length) {x : Int} (h : RchN S root wo x) : 0 ≤ x ∧ x < S.length := by
  induction h with
  | root _ => exact ⟨h0, h1⟩
  | @step p x _ hx _ ih => exact (hR.2 _ (nth_mem ih.1 ih.2)).2 x hx
theorem RSound.exact (hR : Rows S) (h0 : 0 ≤ root) (h1 : root < S.length) {bs : List Bool} (h : RSound S root wo bs) (hc : ∀ x : Int, 0 ≤ x → x < S.length → nth bs x = true → ROn S wo bs x) : RExact S root wo bs := by
  refine ⟨h.1, fun x x0 x1 => ⟨h.2.2 x x0 x1, fun hx => ?_⟩⟩
  clear x0 x1
  induction hx with
  | root _ => exact h.2.1
  | @step p x hp hx hn ih =>
    have := rch_range hR h0 h1 hp
    exact hc p this.1 this.2 ih x hx hn
theorem RSound.set (hR : Rows S) {bs : List Bool} {i y : Int} (h : RSound S root wo bs) (i0 : 0 ≤ i) (i1 : i < S.length) (hb : nth bs i = true) (hy : y ∈ nth S i) (hn : y ≠ wo) : RSound S root wo (bs.set y.toNat true) ∧ RSub bs (bs.set y.toNat true) ∧ nth (bs.set y.toNat true) y = true := by
  obtain ⟨y0, y1⟩ := (hR.2 _ (nth_mem i0 i1)).2 y hy
  have hl := h.1
  have key : ∀ x : Int, 0 ≤ x → nth (bs.set y.toNat true) x = if x = y then true else nth bs x := fun x x0 => nth_setB y0 (by omega) x0
  have hsub : RSub bs (bs.set y.toNat true) := fun x x0 hx => by rw [key x x0]; split <;> first | rfl | exact hx
  refine ⟨⟨by simpa using hl, ?_, fun x x0 x1 hx => ?_⟩, hsub, by rw [key y y0, if_pos rfl]⟩
  · by_cases e : 0 ≤ root
    · exact hsub root e h.2.1
    · have : root.toNat = (0 : Int).toNat := by omega
      have e2 : ∀ (l : List Bool), nth l root = nth l 0 := fun l => by unfold nth; rw [this]
      rw [e2]; exact hsub 0 (by omega) (by rw [← e2]; exact h.2.1)
  · rw [key x x0] at hx
    split at hx
    · rename_i e; subst e
      exact .step (h.2.2 i i0 i1 hb) hy hn
    · exact h.2.2 x x0 x1 hx
theorem ROn.mono {a b : List Bool} (h : RSub a b) (hR : Rows S) {x : Int} (x0 : 0 ≤ x) (x1 : x < S.length) (hx : ROn S wo a x) : ROn S wo b x := fun y hy hn => h y ((hR.2 _ (nth_mem x0 x1)).2 y hy).1 (hx y hy hn)
theorem RExact.sub {a b : List Bool} (ha : RExact S root wo a) (h : RSub a b) (hb : RSound S root wo b) : RExact S root wo b :=
  ⟨hb.1, fun x x0 x1 => ⟨hb.2.2 x x0 x1, fun hx => h x x0 ((ha.2 x x0 x1).2 hx)⟩⟩
end
theorem count_le {a b : List Bool} (hl : a.length = b.length) (h : RSub a b) : a.count true ≤ b.count true := by
  induction a generalizing b with
  | nil => simp
  | cons x a ih =>
    match b, hl with
    | y :: b, hl =>
      have h1 := ih (b := b) (by simpa using hl) fun z z0 hz => by
        have := h (z + 1) (by omega)
        unfold nth at this hz ⊢
        rw [toNat_succ z0] at this
        simpa using this (by simpa using hz)
      have h0 : x = true → y = true := fun e => by have := h 0 (by omega); unfold nth at this; simpa [e] using this
      rw [List.count_cons, List.count_cons]
      cases x <;> cases y <;> simp_all <;> omega
theorem count_lt {a b : List Bool} (hl : a.length = b.length) (h : RSub a b) (hne : a ≠ b) : a.count true + 1 ≤ b.count true := by
  induction a generalizing b with
  | nil => exact absurd (List.eq_nil_of_length_eq_zero (by simpa using hl.symm)).symm hne
  | cons x a ih =>
    match b, hl with
    | y :: b, hl =>
      have hs : RSub a b := fun z z0 hz => by
        have := h (z + 1) (by omega)
        unfold nth at this hz ⊢
        rw [toNat_succ z0] at this
        simpa using this (by simpa using hz)
      have h0 : x = true → y = true := fun e => by have := h 0 (by omega); unfold nth at this; simpa [e] using this
      have h2 := count_le (by simpa using hl) hs
      rw [List.count_cons, List.count_cons]
      by_cases e : a = b
      · subst e
        have : x ≠ y := fun e2 => hne (by rw [e2])
        cases x <;> cases y <;> simp_all
      · have h1 := ih (by simpa using hl) hs e
        cases x <;> cases y <;> simp_all <;> omega
section
variable {S : List (List Int)} {root wo : Int}
theorem round_end (hR : Rows S) (h0 : 0 ≤ root) (h1 : root < S.length) {a b : List Bool} {rd : Int} (hx : RExact S root wo a ∨ rd + 1 ≤ (a.count true : Int)) (hl : a.length = S.length) (hsub : RSub a b) (hb : RSound S root wo b)
    (hc : ∀ x : Int, 0 ≤ x → x < S.length → nth a x = true → ROn S wo b x) : RExact S root wo b ∨ rd + 2 ≤ (b.count true : Int) := by
  rcases hx with hx | hx
  · exact .inl (hx.sub hsub hb)
  · by_cases e : a = b
    · subst e; exact .inl (hb.exact hR h0 h1 hc)
    · have := count_lt (hl.trans hb.1.symm) hsub e
      exact .inr (by omega)
theorem rounds_end {b : List Bool} {rd : Int} (hx : RExact S root wo b ∨ rd + 1 ≤ (b.count true : Int)) (hb : RSound S root wo b) (hr : ¬ rd < S.length) : RExact S root wo b := by
  rcases hx with hx | hx
  · exact hx
  · have := List.count_le_length (a := true) (l := b)
    have := hb.1
    omega
theorem RSound.start (h0 : 0 ≤ root) (h1 : root < S.length) (hw : root ≠ wo) : RSound S root wo ((List.replicate S.length false).set root.toNat true) := by
  have key : ∀ x : Int, 0 ≤ x → x < S.length → nth ((List.replicate S.length false).set root.toNat true) x = if x = root then true else false := fun x x0 x1 => by
    rw [nth_setB h0 (by simpa using h1) x0, nth_replicateB x0 (by omega)]
  refine ⟨by simp, by rw [key root h0 h1, if_pos rfl], fun x x0 x1 hx => ?_⟩
  rw [key x x0 x1] at hx
  split at hx
  · rename_i e; subst e; exact .root hw
  · cases hx
theorem count_start (h0 : 0 ≤ root) (h1 : root < S.length) : (1 : Int) ≤ (((List.replicate S.length false).set root.toNat true).count true : Int) := by
  have hm := nth_mem (xs := (List.replicate S.length false).set root.toNat true) h0 (by simpa using h1)
  rw [nth_setB h0 (by simpa using h1) h0, if_pos rfl] at hm
  have := List.count_pos_iff.2 hm
  omega
theorem reach_i {a b : List Bool} {i k : Int} {hR : Rows S} (h2 : RSub a b) (h3 : ∀ x : Int, 0 ≤ x → x < i → nth a x = true → ROn S wo b x) (h5 : ∀ y ∈ (nth S i).take k.toNat, y ≠ wo → nth b y = true) (hk : nth b i = false ∨ ((nth S i).length : Int) ≤ k) :
    ∀ x : Int, 0 ≤ x → x < i + 1 → nth a x = true → ROn S wo b x := fun x x0 x1 hx => by
  by_cases e : x = i
  · subst e
    rcases hk with hk | hk
    · rw [h2 x x0 hx] at hk; cases hk
    · rw [List.take_of_length_le (by omega)] at h5; exact h5
  · exact h3 x x0 (by omega) hx
theorem reach_k0 {b : List Bool} {i k : Int} (k0 : 0 ≤ k) (hk : k < (nth S i).length) (h5 : ∀ y ∈ (nth S i).take k.toNat, y ≠ wo → nth b y = true) (hy : nth (nth S i) k = wo) : ∀ y ∈ (nth S i).take (k + 1).toNat, y ≠ wo → nth b y = true := fun y hm hn => by
  rw [take_snoc_nth k0 hk] at hm
  rcases List.mem_append.1 hm with h | h
  · exact h5 y h hn
  · exact absurd (by rw [List.mem_singleton.1 h, hy]) hn
theorem reach_k1 {b b' : List Bool} {i k : Int} (hR : Rows S) (i0 : 0 ≤ i) (i1 : i < S.length) (k0 : 0 ≤ k) (hk : k < (nth S i).length) (h5 : ∀ y ∈ (nth S i).take k.toNat, y ≠ wo → nth b y = true) (hs : RSub b b') (hy : nth b' (nth (nth S i) k) = true) : ∀ y ∈ (nth S i).take (k + 1).toNat, y ≠ wo → nth b' y = true := fun y hm hn => by
  rw [take_snoc_nth k0 hk] at hm
  rcases List.mem_append.1 hm with h | h
  · exact hs y ((hR.2 _ (nth_mem i0 i1)).2 y (List.mem_of_mem_take h)).1 (h5 y h hn)
  · rw [List.mem_singleton.1 h, hy]
theorem rch_root {x : Int} (h : RchN S root wo x) : root ≠ wo := by
  induction h with
  | root h => exact h
  | step _ _ _ ih => exact ih
theorem RExact.none_ (h : root = wo) : RExact S root wo (List.replicate S.length false) := by
  refine ⟨by simp, fun x x0 x1 => ⟨fun hx => ?_, fun hx => ?_⟩⟩
  · rw [nth_replicateB x0 (by omega)] at hx; cases hx
  · exact absurd h (rch_root hx)
theorem reach_ret {H : Hp} {A : Option Addr} {bs : List Bool} (hx : RExact S root wo bs) (r : RdS H A bs) : ∃ A' c bs', RExact S root wo bs' ∧ Value.slice A S.length S.length = .slice A' bs'.length c ∧ bs'.length ≤ c ∧ RdS H A' bs' ∧ ([] : List Chunk) = [] :=
  ⟨A, S.length, bs, hx, by rw [hx.1], by rw [hx.1]; exact Nat.le_refl _, r, rfl⟩
end
end Go.Proofs.YtakameggkkjcpaaGreat
set_option maxRecDepth 4000
namespace Go.Proofs.YtakameggkkjcpaaGreat
open Go Go.RowKit
theorem rReach_calls {H : Hp} {gr : GraphD} {cs_gr : List Value} (rd_gr : Rdc.rd H cs_gr gr) (root wo : Int) (hR : Rows gr.succ) (h0 : 0 ≤ root) (h1 : root < gr.succ.length) : CallG Tryz.prog 24 [.agg cs_gr.toArray, .int .i64 root, .int .i64 wo] H [] (fun v H' L' => ∃ A c bs, RExact gr.succ root wo bs ∧ v = .slice A bs.length c ∧ bs.length ≤ c ∧ RdS H' A bs ∧ L' = []) := by
 have rd_gr' := rd_gr; obtain ⟨A_gr_0, c_gr_0, A_gr_1, c_gr_1, rfl, u_gr_0, r_gr_0, u_gr_1, r_gr_1⟩ := rd_gr
 have h64 := hR.1
 refine CallG.of Tryz.func24 rfl rfl rfl fun w0 => ?_
 refine WpG.g tabOK 2 rfl ?_
 refine WpG.box rfl rfl rfl rfl rfl (fun b1 => ?_)
 refine WpG.freezeBox (ci := 0) rfl (fun H2 hH2 hc2 => ?_)
 refine WpG.setL (L' := []) rfl ?_
 refine WpG.g tabOK 5 rfl ?_
 refine WpG.y rfl rfl rfl rfl (RunY.loadH tabOK (hc2.sub 0 1) hlr rfl rfl rfl rfl) ?_
 refine WpG.g tabOK 1 rfl ?_
 refine WpG.makeSlice (n := gr.succ.length) tabOK rfl rfl rfl rfl rfl rfl rfl rfl rfl (by omega) (fun b3 => ?_)
 refine WpG.setL (L' := [Chunk.own 4 1 (some ⟨b3, 0, none⟩) gr.succ.length gr.succ.length ((List.replicate gr.succ.length false).map Value.bool)]) (by rw [List.map_replicate]) ?_
 refine WpG.g tabOK 9 rfl ?_
 refine WpG.caseE (t := 17) rfl (fun q17 => ?_) (fun q17 => ?_)
 ·refine WpG.g tabOK 6 rfl ?_
  refine WpG.ownCap (ci := 0) rfl (fun uz4 => ?_)
  refine WpG.freezeOwn (ci := 0) rfl (fun H4 hH4 fz4 => ?_)
  have rz4 : RdS H4 (some ⟨b3, 0, none⟩) (List.replicate gr.succ.length false) := RdS.of_own (H := H2) (show RdL H2 ((List.replicate gr.succ.length false).map Value.bool) (List.replicate gr.succ.length false) from RdL_bools _) ((by first | omega | simp)) (by first | omega | (simp; omega)) hH4 fz4
  refine WpG.setL (L' := []) rfl ?_
  exact WpG.ret tabOK (L' := []) (.tmp rfl .nil) .slnil (reach_ret (RExact.none_ q17) rz4)
 refine WpG.g tabOK 6 rfl ?_
 refine WpG.y rfl rfl rfl rfl (RunY.indexAddr tabOK rfl rfl rfl rfl rfl (by omega) (by omega)) ?_
 refine WpG.storeOwn (ci := 0) tabOK rfl rfl rfl rfl rfl rfl rfl rfl (putAt_one (own_lt (by omega) (by simpa using h1))) ?_
 refine WpG.setL (L' := [Chunk.own 4 1 (some ⟨b3, 0, none⟩) gr.succ.length gr.succ.length (((List.replicate gr.succ.length false).set root.toNat true).map Value.bool)]) (by rw [← arr_set (f := Value.bool) (xs := List.replicate gr.succ.length false) (j := root) true]; rfl) ?_
 refine WpG.g tabOK 8 rfl ?_
 refine WpG.wk (WpG.ind2 (fun (rd : Int) (bs : List Bool) => ⟨(gr.succ.length - rd).toNat, [(2, .int .i64 wo), (3, .pointer (some ⟨b1, 0, none⟩)), (7, .slice (some ⟨b3, 0, none⟩) gr.succ.length gr.succ.length), (8, .int .i64 rd)], H2, [Chunk.own 4 1 (some ⟨b3, 0, none⟩) gr.succ.length gr.succ.length (bs.map Value.bool)], 0 ≤ rd ∧ rd ≤ gr.succ.length ∧ RSound gr.succ root wo bs ∧ (RExact gr.succ root wo bs ∨ rd + 1 ≤ (bs.count true : Int))⟩) ?_ 0 ((List.replicate gr.succ.length false).set root.toNat true) ⟨by omega, by omega, RSound.start h0 h1 q17, .inr (count_start h0 h1)⟩) rfl
 intro rd bs inv ih1
 obtain ⟨a0, a3, a1, a2⟩ := inv
 have bl := a1.1
 refine WpG.g tabOK 8 rfl ?_
 refine WpG.caseD (t := 25) rfl (fun q25 => ?_) (fun q25 => ?_)
 ·refine WpG.g tabOK 10 rfl ?_
  refine WpG.wk (WpG.ind2 (fun (i : Int) (bs2 : List Bool) => ⟨(gr.succ.length - i).toNat, [(2, .int .i64 wo), (3, .pointer (some ⟨b1, 0, none⟩)), (7, .slice (some ⟨b3, 0, none⟩) gr.succ.length gr.succ.length), (8, .int .i64 rd), (9, .int .i64 i)], H2, [Chunk.own 4 1 (some ⟨b3, 0, none⟩) gr.succ.length gr.succ.length (bs2.map Value.bool)], 0 ≤ i ∧ i ≤ gr.succ.length ∧ RSound gr.succ root wo bs2 ∧ RSub bs bs2 ∧ ∀ x : Int, 0 ≤ x → x < i → nth bs x = true → ROn gr.succ wo bs2 x⟩) ?_ 0 bs ⟨by omega, by omega, a1, fun _ _ h => h, fun x x0 x1 => by exfalso; have : x < 0 := x1; omega⟩) rfl
  intro i bs2 inv ih2
  obtain ⟨i0, i1, d1, d2, d3⟩ := inv
  have bl2 := d1.1
  refine WpG.g tabOK 8 rfl ?_
  refine WpG.caseD (t := 31) rfl (fun q31 => ?_) (fun q31 => ?_)
  ·refine WpG.g tabOK 10 rfl ?_
   refine WpG.wk (WpG.ind2 (fun (k : Int) (bs3 : List Bool) => ⟨((nth gr.succ i).length - k).toNat, [(2, .int .i64 wo), (3, .pointer (some ⟨b1, 0, none⟩)), (7, .slice (some ⟨b3, 0, none⟩) gr.succ.length gr.succ.length), (8, .int .i64 rd), (9, .int .i64 i), (10, .int .i64 k)], H2, [Chunk.own 4 1 (some ⟨b3, 0, none⟩) gr.succ.length gr.succ.length (bs3.map Value.bool)], 0 ≤ k ∧ RSound gr.succ root wo bs3 ∧ RSub bs bs3 ∧ (∀ x : Int, 0 ≤ x → x < i → nth bs x = true → ROn gr.succ wo bs3 x) ∧ k ≤ (nth gr.succ i).length ∧ ∀ y ∈ (nth gr.succ i).take k.toNat, y ≠ wo → nth bs3 y = true⟩) ?_ 0 bs2 ⟨by omega, d1, d2, d3, by omega, by simp⟩) rfl
   intro k bs3 inv ih3
   obtain ⟨k0, e1, e2, e3, e4, e5⟩ := inv
   have bl3 := e1.1
   refine WpG.g tabOK 5 rfl ?_
   refine WpG.y rfl rfl rfl rfl (RunY.indexAddr tabOK rfl rfl rfl rfl rfl (by omega) (by omega)) ?_
   refine WpG.y rfl rfl rfl rfl (RunY.loadOwn (ci := 0) (cs := [.bool (nth bs3 i)]) tabOK rfl rfl rfl rfl rfl (own_f (f := Value.bool) (by omega) (by omega))) ?_
   refine WpG.g tabOK 1 rfl ?_
   refine WpG.caseB (t := 38) rfl (fun q38 => ?_) (fun q38 => ?_)
   ·refine WpG.g tabOK 2 rfl ?_
    refine WpG.y rfl rfl rfl rfl (RunY.loadH tabOK (hc2.sub 0 1) hlr rfl rfl rfl rfl) ?_
    refine WpG.g tabOK 1 rfl ?_
    refine WpG.indexR tabOK rfl rfl rfl rfl rfl rfl rfl rfl rfl r_gr_0 (by omega) (by omega) ?_
    rintro x5 hx5 b5 o5 _ ⟨A5, c5, rfl, u5, r5⟩ hc5
    have bz5 := r5.1
    obtain rfl : x5 = (nth gr.succ i) := hx5
    refine WpG.y rfl rfl rfl rfl (RunY.loadH tabOK hc5 hH2 rfl rfl rfl rfl) ?_
    refine WpG.g tabOK 4 rfl ?_
    refine WpG.caseD (t := 47) rfl (fun q47 => ?_) (fun q47 => ?_)
    ·refine WpG.g tabOK 7 rfl ?_
     refine WpG.y rfl rfl rfl rfl (RunY.loadH tabOK (hc2.sub 0 1) hlr rfl rfl rfl rfl) ?_
     refine WpG.g tabOK 1 rfl ?_
     refine WpG.indexR tabOK rfl rfl rfl rfl rfl rfl rfl rfl rfl r_gr_0 (by omega) (by omega) ?_
     rintro x6 hx6 b6 o6 _ ⟨A6, c6, rfl, u6, r6⟩ hc6
     have bz6 := r6.1
     obtain rfl : x6 = (nth gr.succ i) := hx6
     refine WpG.y rfl rfl rfl rfl (RunY.loadH tabOK hc6 hH2 rfl rfl rfl rfl) ?_
     refine WpG.g tabOK 1 rfl ?_
     refine WpG.indexR tabOK rfl rfl rfl rfl rfl rfl rfl rfl rfl r6 (by omega) (by omega) ?_
     rintro x7 hx7 b7 o7 _ ⟨rfl, k7⟩ hc7
     obtain rfl : x7 = (nth (nth gr.succ i) k) := hx7
     refine WpG.y rfl rfl rfl rfl (RunY.loadH tabOK hc7 hH2 rfl rfl rfl rfl) ?_
     refine WpG.g tabOK 3 rfl ?_
     refine WpG.caseN (t := 59) rfl (fun q59 => ?_) (fun q59 => ?_)
     ·have hk := nth_mem (xs := (nth gr.succ i)) k0 q47
      have hy := (hR.2 _ (nth_mem i0 q31)).2 _ hk
      refine WpG.g tabOK 4 rfl ?_
      refine WpG.y rfl rfl rfl rfl (RunY.loadH tabOK (hc2.sub 0 1) hlr rfl rfl rfl rfl) ?_
      refine WpG.g tabOK 1 rfl ?_
      refine WpG.indexR tabOK rfl rfl rfl rfl rfl rfl rfl rfl rfl r_gr_0 (by omega) (by omega) ?_
      rintro x8 hx8 b8 o8 _ ⟨A8, c8, rfl, u8, r8⟩ hc8
      have bz8 := r8.1
      obtain rfl : x8 = (nth gr.succ i) := hx8
      refine WpG.y rfl rfl rfl rfl (RunY.loadH tabOK hc8 hH2 rfl rfl rfl rfl) ?_
      refine WpG.g tabOK 1 rfl ?_
      refine WpG.indexR tabOK rfl rfl rfl rfl rfl rfl rfl rfl rfl r8 (by omega) (by omega) ?_
      rintro x9 hx9 b9 o9 _ ⟨rfl, k9⟩ hc9
      obtain rfl : x9 = (nth (nth gr.succ i) k) := hx9
      refine WpG.y rfl rfl rfl rfl (RunY.loadH tabOK hc9 hH2 rfl rfl rfl rfl) ?_
      refine WpG.y rfl rfl rfl rfl (RunY.indexAddr tabOK rfl rfl rfl rfl rfl (by omega) (by omega)) ?_
      refine WpG.storeOwn (ci := 0) tabOK rfl rfl rfl rfl rfl rfl rfl rfl (putAt_one (own_lt (by omega) (by omega))) ?_
      refine WpG.setL (L' := [Chunk.own 4 1 (some ⟨b3, 0, none⟩) gr.succ.length gr.succ.length ((bs3.set (nth (nth gr.succ i) k).toNat true).map Value.bool)]) (by rw [← arr_set (f := Value.bool) (xs := bs3) (j := (nth (nth gr.succ i) k)) true]; rfl) ?_
      refine WpG.gw tabOK 5 49 rfl (wrk (x := k + 1) (by omega) (by omega)) ?_
      refine WpG.g tabOK 3 rfl ?_
      refine WpG.wk (ih3 (k + 1) (bs3.set (nth (nth gr.succ i) k).toNat true) ?_ ?_) rfl
      ·dsimp only
       omega
      clear ih1 ih2 ih3
      show 0 ≤ (k + 1) ∧ RSound gr.succ root wo (bs3.set (nth (nth gr.succ i) k).toNat true) ∧ RSub bs (bs3.set (nth (nth gr.succ i) k).toNat true) ∧ (∀ x : Int, 0 ≤ x → x < i → nth bs x = true → ROn gr.succ wo (bs3.set (nth (nth gr.succ i) k).toNat true) x) ∧ (k + 1) ≤ (nth gr.succ i).length ∧ ∀ y ∈ (nth gr.succ i).take (k + 1).toNat, y ≠ wo → nth (bs3.set (nth (nth gr.succ i) k).toNat true) y = true
      have z := e1.set hR i0 q31 q38 hk q59
      exact ⟨by omega, z.1, fun x x0 h => z.2.1 x x0 (e2 x x0 h), fun x x0 x1 h => (e3 x x0 x1 h).mono z.2.1 hR x0 (by omega), by omega, reach_k1 hR i0 q31 k0 q47 e5 z.2.1 z.2.2⟩
     refine WpG.gw tabOK 6 49 rfl (wrk (x := k + 1) (by omega) (by omega)) ?_
     refine WpG.g tabOK 3 rfl ?_
     refine WpG.wk (ih3 (k + 1) bs3 ?_ ?_) rfl
     ·dsimp only
      omega
     clear ih1 ih2 ih3
     exact ⟨by omega, e1, e2, e3, by omega, reach_k0 k0 q47 e5 q59⟩
    refine WpG.gw tabOK 6 33 rfl (wrk (x := i + 1) (by omega) (by omega)) ?_
    refine WpG.g tabOK 3 rfl ?_
    refine WpG.wk (ih2 (i + 1) bs3 ?_ ?_) rfl
    ·dsimp only
     omega
    clear ih1 ih2 ih3
    exact ⟨by omega, by omega, e1, e2, reach_i (hR := hR) e2 e3 e5 (.inr (by omega))⟩
   refine WpG.gw tabOK 16 33 rfl (wrk (x := i + 1) (by omega) (by omega)) ?_
   refine WpG.g tabOK 3 rfl ?_
   refine WpG.wk (ih2 (i + 1) bs3 ?_ ?_) rfl
   ·dsimp only
    omega
   clear ih1 ih2 ih3
   exact ⟨by omega, by omega, e1, e2, reach_i (hR := hR) e2 e3 e5 (.inl q38)⟩
  refine WpG.gw tabOK 6 27 rfl (wrk (x := rd + 1) (by omega) (by omega)) ?_
  refine WpG.g tabOK 3 rfl ?_
  refine WpG.wk (ih1 (rd + 1) bs2 ?_ ?_) rfl
  ·dsimp only
   omega
  clear ih1 ih2
  exact ⟨by omega, by omega, d1, by have z := round_end hR h0 h1 a2 bl d2 d1 (fun x x0 x1 => d3 x x0 (by omega)); exact z.imp id (fun h => by omega)⟩
 refine WpG.g tabOK 7 rfl ?_
 refine WpG.ownCap (ci := 0) rfl (fun uz10 => ?_)
 refine WpG.freezeOwn (ci := 0) rfl (fun H10 hH10 fz10 => ?_)
 have rz10 : RdS H10 (some ⟨b3, 0, none⟩) bs := RdS.of_own (H := H2) (show RdL H2 (bs.map Value.bool) bs from RdL_bools _) ((by first | omega | simp)) (by first | omega | (simp; omega)) hH10 fz10
 refine WpG.setL (L' := []) rfl ?_
 exact WpG.ret tabOK (L' := []) (.tmp rfl .nil) .slnil (reach_ret (rounds_end a2 a1 q25) rz10)
end Go.Proofs.YtakameggkkjcpaaGreat
namespace Go.Proofs.YtakameggkkjcpaaGreat
open Go Go.RowKit
section
variable {P : Program} {fn : Func} {w0 : World} {H0 : Hp} {X : List Nat} {k : List Item} {F : Fk} {H : Hp} {L : List Chunk} {R : Ending → World → Prop} {Hs : Hp} {Ls : List Chunk} {ops : Array Oper} {fuel stop : Nat} {listed : Array Bool}
theorem WpE.setV {t : Nat} {v v' : Value} (hc : look F t = some v) (e : v = v') (h : WpE P fn w0 H0 X k R Hs Ls ops stop fuel listed ((t, v') :: F) H L) : WpE P fn w0 H0 X k R Hs Ls ops stop fuel listed F H L := fun a w ha hs =>
  h a w ⟨ha.defers, ha.size, fun s u hu => by
    simp only [look] at hu
    by_cases es : t = s
    · subst es; simp at hu; subst hu; exact e ▸ ha.at_ t v hc
    · rw [beq_no es] at hu; exact ha.at_ s u hu⟩ hs
theorem WpE.indexR {α : Type} [Inhabited α] [Rdc α] {T : List TRow} {ty : TypeId} {pos : String} {af : Array Edge} {g : Option (Nat × Bool)} (hT : TabOK P T) {i : Nat} {d t : Nat} {x y : Operand} {A : Option Addr} {c e : Nat} {kd : IntKind} {j : Int} {r q : TRow} {xs : List α} {H1 : Hp} {listed' : Array Bool}
    (hchk : (pchk ops listed stop i && (listed.setIfInBounds i true == listed')) = true)
    (ho : ops[i]? = some ⟨some d, .indexAddr t x y, ty, pos, af, g⟩) (hw : wantk ops F g = some true) (hn : Nat.blt d fn.ntmps = true) (hx : evk F x = some (.slice A xs.length c)) (hy : evk F y = some (.int kd j))
    (hr : trow T t = some r) (hk : r.kind = .slice e) (hq : trow T e = some q) (hsz : Rdc.sz α = q.size) (h00 : H0.le Hs) (hH : Hs.le H) (hL : Ls.Sublist L) (hR : RdS H1 A xs) (h0 : 0 ≤ j) (h1 : j < xs.length)
    (h : ∀ u, u = nth xs j → ∀ b o cs, Rdc.rd H1 cs u → HCells H1 b o cs → WpE P fn w0 H0 X k R Hs Ls ops stop fuel listed' ((d, .pointer (some ⟨b, o, none⟩)) :: F) H L) : WpE P fn w0 H0 X k R Hs Ls ops stop (fuel + 1) listed F H L := by
  obtain ⟨b, o, rfl, cs, k1, k2⟩ := hR.at_ h0 h1
  refine WpE.p hchk ho hw rfl hn h00 hH hL (RunP.indexAddr hT hx hy hr hk hq h0 h1) ?_
  rw [← hsz]
  exact h _ rfl b _ cs k1 k2
theorem WpE.caseB {t : Nat} {b : Bool} (hc : look F t = some (.bool b)) (ht : b = true → WpE P fn w0 H0 X k R Hs Ls ops stop fuel listed ((t, .bool true) :: F) H L) (hf : b = false → WpE P fn w0 H0 X k R Hs Ls ops stop fuel listed ((t, .bool false) :: F) H L) : WpE P fn w0 H0 X k R Hs Ls ops stop fuel listed F H L := by
  cases b
  · exact WpE.setV hc rfl (hf rfl)
  · exact WpE.setV hc rfl (ht rfl)
end
section
variable {S : List (List Int)} {root : Int}
def Ov (S : List (List Int)) (root a b : Int) : Prop := RchN S root (-1) b ∧ ¬ RchN S root a b
def Near (S : List (List Int)) (root a b : Int) : Prop := a ≠ b ∧ Ov S root a b ∧ ∀ c : Int, 0 ≤ c → c < S.length → c = b ∨ ¬ Ov S root c b ∨ Ov S root c a
theorem TreeP.near {tl : List Int} (h : TreeP S root tl) {b : Int} (hb : RchN S root (-1) b) (hr : b ≠ root) : Near S root (nth tl b) b := by
  obtain ⟨h1, h2, h3⟩ := h.up b hb hr
  have hne : nth tl b ≠ b := h2.ne
  refine ⟨hne, ⟨hb, fun hx => ((h3 _ hne).1 hx).ne rfl⟩, fun c _ _ => ?_⟩
  by_cases e : c = b
  · exact .inl e
  · by_cases o : Ov S root c b
    · exact .inr (.inr ⟨h1, fun hx => o.2 ((h3 c e).2 hx)⟩)
    · exact .inr (.inl o)
theorem TreeP.near_eq {tl : List Int} (h : TreeP S root tl) {a b : Int} (ha : Near S root a b) (hr : b ≠ root) : a = nth tl b := by
  obtain ⟨hne, ho, hc⟩ := ha
  obtain ⟨h1, h2, h3⟩ := h.up b ho.1 hr
  have hn2 : nth tl b ≠ b := h2.ne
  have t0 := h.range _ h1
  apply Classical.byContradiction
  intro hx
  rcases hc (nth tl b) t0.1 t0.2 with e | e | e
  · exact hn2 e
  · exact e ⟨ho.1, fun hy => ((h3 _ hn2).1 hy).ne rfl⟩
  · rcases RchN.either hx h1 with ⟨_, z⟩ | z | z
    · exact z.ne rfl
    · exact e.2 z
    · exact ho.2 ((h3 a hne).2 z)
def TAt (S : List (List Int)) (root : Int) (tl : List Int) (b a v : Int) : Prop := (RchN S root (-1) b ∧ nth tl b < a → v = nth tl b) ∧ (¬ (RchN S root (-1) b ∧ nth tl b < a) → v = -2)
theorem TAt.start {tl : List Int} (h : TreeP S root tl) {b : Int} (hr : b ≠ root) : TAt S root tl b 0 (-2) := by
  refine ⟨fun hx => ?_, fun _ => rfl⟩
  have := h.range _ (h.up b hx.1 hr).1
  omega
theorem TAt.skip {tl : List Int} {a b v : Int} (h : TreeP S root tl) (hr : b ≠ root) (ht : TAt S root tl b a v) (hn : ¬ Near S root a b) : TAt S root tl b (a + 1) v := by
  have : RchN S root (-1) b → nth tl b ≠ a := fun hb e => hn (e ▸ h.near hb hr)
  exact ⟨fun hx => ht.1 ⟨hx.1, by have := this hx.1; omega⟩, fun hx => ht.2 fun hy => hx ⟨hy.1, by omega⟩⟩
theorem TAt.take {tl : List Int} {a b : Int} (h : TreeP S root tl) (hr : b ≠ root) (hn : Near S root a b) : TAt S root tl b (a + 1) a := by
  have e := h.near_eq hn hr
  exact ⟨fun _ => e, fun hx => absurd ⟨hn.2.1.1, by omega⟩ hx⟩
theorem TAt.done {tl : List Int} {b v : Int} (h : TreeP S root tl) (hr : b ≠ root) (b0 : 0 ≤ b) (b1 : b < S.length) {a : Int} (ha : ¬ a < S.length) (ht : TAt S root tl b a v) : v = nth tl b := by
  by_cases hb : RchN S root (-1) b
  · have := h.range _ (h.up b hb hr).1
    exact ht.1 ⟨hb, by omega⟩
  · rw [ht.2 fun hx => hb hx.1, h.none_ b b0 b1 hb]
def OvRow (S : List (List Int)) (root a : Int) (r : List Bool) : Prop := r.length = S.length ∧ ∀ b : Int, 0 ≤ b → b < S.length → (nth r b = true ↔ Ov S root a b)
def OvTab (S : List (List Int)) (root : Int) (rows : List (List Bool)) (m : Int) : Prop := (rows.length : Int) = m ∧ ∀ a : Int, 0 ≤ a → a < m → OvRow S root a (nth rows a)
theorem OvTab.nil : OvTab S root [] 0 := ⟨rfl, fun a h0 h1 => by omega⟩
theorem nth_app {α : Type} [Inhabited α] {l : List α} {x : α} {k : Int} (h0 : 0 ≤ k) : nth (l ++ [x]) k = if k < l.length then nth l k else if k = l.length then x else default := by
  obtain ⟨n, rfl⟩ := Int.eq_ofNat_of_zero_le h0
  unfold nth
  rw [show ((n : Int)).toNat = n from rfl, List.getD_eq_getElem?_getD, List.getElem?_append]
  split
  · rw [if_pos (by omega), List.getD_eq_getElem?_getD]
  · rw [if_neg (by omega)]
    split
    · rename_i h1 h2
      rw [show n - l.length = 0 from by omega]; rfl
    · rename_i h1 h2
      rw [List.getElem?_eq_none (by simp; omega)]; rfl
theorem OvTab.snoc {rows : List (List Bool)} {a : Int} {r : List Bool} (h : OvTab S root rows a) (hr : OvRow S root a r) : OvTab S root (rows ++ [r]) (a + 1) := by
  refine ⟨by rw [List.length_append]; have := h.1; simp; omega, fun x x0 x1 => ?_⟩
  rw [nth_app x0]
  have := h.1
  split
  · exact h.2 x x0 (by omega)
  · rw [if_pos (by omega), show x = a from by omega]; exact hr
end
section
variable {S : List (List Int)} {root : Int}
theorem ov_step {a b : Int} {bsr : List Bool} {v : Bool} (b0 : 0 ≤ b) (b1 : b < S.length) (hl : bsr.length = S.length) (h : ∀ x : Int, 0 ≤ x → x < b → (nth bsr x = true ↔ Ov S root a x)) (hv : v = true ↔ Ov S root a b) :
    0 ≤ b + 1 ∧ b + 1 ≤ S.length ∧ (bsr.set b.toNat v).length = S.length ∧ ∀ x : Int, 0 ≤ x → x < b + 1 → (nth (bsr.set b.toNat v) x = true ↔ Ov S root a x) := by
  refine ⟨by omega, by omega, by simpa using hl, fun x x0 x1 => ?_⟩
  rw [nth_setB b0 (by omega) x0]
  split
  · rename_i e; rw [e]; exact hv
  · exact h x x0 (by omega)
theorem ov_t {a b : Int} {A B : List Bool} (hA : RExact S root (-1) A) (hB : RExact S root a B) (b0 : 0 ≤ b) (b1 : b < S.length) (q : nth A b = true) : (!(nth B b)) = true ↔ Ov S root a b := by
  unfold Ov
  rw [← hA.2 b b0 b1, ← hB.2 b b0 b1, q]; simp
theorem ov_f {a b : Int} {A : List Bool} (hA : RExact S root (-1) A) (b0 : 0 ≤ b) (b1 : b < S.length) (q : nth A b = false) : false = true ↔ Ov S root a b := by
  unfold Ov
  rw [← hA.2 b b0 b1, q]; simp
theorem OvTab.at_ {rows : List (List Bool)} {m a b : Int} (h : OvTab S root rows m) (a0 : 0 ≤ a) (a1 : a < m) (b0 : 0 ≤ b) (b1 : b < S.length) : nth (nth rows a) b = true ↔ Ov S root a b := (h.2 a a0 a1).2 b b0 b1
theorem OvTab.no {rows : List (List Bool)} {m a b : Int} (h : OvTab S root rows m) (a0 : 0 ≤ a) (a1 : a < m) (b0 : 0 ≤ b) (b1 : b < S.length) (q : nth (nth rows a) b = false) : ¬ Ov S root a b := fun o => by
  have := (h.at_ a0 a1 b0 b1).2 o
  rw [q] at this; cases this
theorem tree_done {tl ou : List Int} (ht : TreeP S root tl) {t p : Int} (t0 : 0 ≤ t) (t1 : t < S.length) (hp : ¬ p < S.length ∨ t = root) (g4 : ∀ x : Int, 0 ≤ x → x < t → nth ou x = nth tl x) (g5 : t = root → nth ou t = -1) (g6 : t ≠ root → TAt S root tl t p (nth ou t)) :
    ∀ x : Int, 0 ≤ x → x < t + 1 → nth ou x = nth tl x := fun x x0 x1 => by
  by_cases e : x = t
  · rw [e]
    by_cases e2 : t = root
    · rw [g5 e2, e2, ht.top]
    · exact (g6 e2).done ht e2 t0 t1 (by omega)
  · exact g4 x x0 (by omega)
theorem tree_start {out : List Int} {t : Int} (t0 : 0 ≤ t) (t1 : t < S.length) (f2 : out.length = S.length) (f3 : AllI out) (f4 : ∀ tl, TreeP S root tl → ∀ x : Int, 0 ≤ x → x < t → nth out x = nth tl x) :
    (out.set t.toNat (if t = root then -1 else -2)).length = S.length ∧ AllI (out.set t.toNat (if t = root then -1 else -2)) ∧ (∀ tl, TreeP S root tl → ∀ x : Int, 0 ≤ x → x < t → nth (out.set t.toNat (if t = root then -1 else -2)) x = nth tl x) ∧
    (t = root → nth (out.set t.toNat (if t = root then -1 else -2)) t = -1) ∧ (t ≠ root → ∀ tl, TreeP S root tl → TAt S root tl t 0 (nth (out.set t.toNat (if t = root then -1 else -2)) t)) := by
  refine ⟨by simpa using f2, AllI_set f3 (by split <;> exact ⟨by decide, by decide⟩), fun tl ht x x0 x1 => ?_, fun e => ?_, fun e tl ht => ?_⟩
  · rw [nth_set t0 (by omega) x0, if_neg (by omega)]; exact f4 tl ht x x0 x1
  · rw [nth_set t0 (by omega) t0, if_pos rfl, if_pos e]
  · rw [nth_set t0 (by omega) t0, if_pos rfl, if_neg e]; exact TAt.start ht e
theorem tree_set {ou : List Int} {t p : Int} (t0 : 0 ≤ t) (t1 : t < S.length) (p0 : 0 ≤ p) (p1 : p < 64) (g2 : ou.length = S.length) (g3 : AllI ou) (g4 : ∀ tl, TreeP S root tl → ∀ x : Int, 0 ≤ x → x < t → nth ou x = nth tl x) (hr : t ≠ root) (hn : Near S root p t) :
    (ou.set t.toNat p).length = S.length ∧ AllI (ou.set t.toNat p) ∧ (∀ tl, TreeP S root tl → ∀ x : Int, 0 ≤ x → x < t → nth (ou.set t.toNat p) x = nth tl x) ∧
    (t = root → nth (ou.set t.toNat p) t = -1) ∧ (t ≠ root → ∀ tl, TreeP S root tl → TAt S root tl t (p + 1) (nth (ou.set t.toNat p) t)) := by
  refine ⟨by simpa using g2, AllI_set g3 ⟨by omega, by omega⟩, fun tl ht x x0 x1 => ?_, fun e => absurd e hr, fun e tl ht => ?_⟩
  · rw [nth_set t0 (by omega) x0, if_neg (by omega)]; exact g4 tl ht x x0 x1
  · rw [nth_set t0 (by omega) t0, if_pos rfl]; exact TAt.take ht e hn
theorem near_step {c : Int} {near v : Bool} {Q : Int → Prop} (c0 : 0 ≤ c) (h : near = true ↔ ∀ x : Int, 0 ≤ x → x < c → Q x) (hv : v = true ↔ near = true ∧ Q c) : v = true ↔ ∀ x : Int, 0 ≤ x → x < c + 1 → Q x := by
  rw [hv, h]
  constructor
  · rintro ⟨h1, h2⟩ x x0 x1
    by_cases e : x = c
    · rw [e]; exact h2
    · exact h1 x x0 (by omega)
  · exact fun h1 => ⟨fun x x0 x1 => h1 x x0 (by omega), h1 c c0 (by omega)⟩
theorem near_2 {near v : Bool} {c t p : Int} (hn : near = true) (ht : c ≠ t) (o1 : Ov S root c t) (o2 : v = true ↔ Ov S root c p) : v = true ↔ near = true ∧ (c = t ∨ ¬ Ov S root c t ∨ Ov S root c p) := by
  refine ⟨fun hv => ⟨hn, .inr (.inr (o2.1 hv))⟩, fun h => ?_⟩
  rcases h.2 with e | e | e
  · exact absurd e ht
  · exact absurd o1 e
  · exact o2.2 e
theorem tree_ret {H : Hp} {A : Option Addr} {n c : Nat} {out : List Int} (hn : n = S.length) (hc : n ≤ c) (f2 : out.length = S.length) (f4 : ∀ tl, TreeP S root tl → ∀ x : Int, 0 ≤ x → x < S.length → nth out x = nth tl x) (r : RdS H A out) :
    ∃ A' c' out', out'.length = S.length ∧ (∀ tl, TreeP S root tl → out' = tl) ∧ Value.slice A n c = .slice A' out'.length c' ∧ out'.length ≤ c' ∧ RdS H A' out' ∧ ([] : List Chunk) = [] :=
  ⟨A, c, out, f2, fun tl ht => nth_ext (by have := ht.len; omega) fun x x0 x1 => f4 tl ht x x0 (by omega), by rw [f2, hn], by omega, r, rfl⟩
end
theorem cs_set {cs : List Value} {n : Nat} {a : Int} {v z : Value} (a0 : 0 ≤ a) (hc : (cs.length : Int) = a) (h : a < n) : (cs ++ List.replicate (n - a.toNat) z).set (0 + a.toNat * 1) v = (cs ++ [v]) ++ List.replicate (n - (a + 1).toNat) z := by
  have e : n - a.toNat = (n - (a + 1).toNat) + 1 := by omega
  have e2 : 0 + a.toNat * 1 = cs.length := by omega
  rw [e, e2, List.replicate_succ]
  simp [List.set_append]
theorem cs_at {cs rest : List Value} {a : Int} {v : Value} (hc : (cs.length : Int) = a) : ∀ (q : Nat) u, [v][q]? = some u → ((cs ++ [v]) ++ rest)[0 + a.toNat * 1 + q]? = some u := fun q u hu => by
  cases q with
  | zero =>
    simp only [List.getElem?_cons_zero, Option.some.injEq] at hu
    subst hu
    rw [show 0 + a.toNat * 1 + 0 = cs.length from by omega]; simp
  | succ q => simp at hu
theorem AllI_zero (n : Nat) : AllI (List.replicate n (0 : Int)) := AllI_iff.2 fun y hy => by rw [List.eq_of_mem_replicate hy]; exact ⟨by decide, by decide⟩
end Go.Proofs.YtakameggkkjcpaaGreat
set_option maxRecDepth 4000
namespace Go.Proofs.YtakameggkkjcpaaGreat
open Go Go.RowKit
set_option maxHeartbeats 1000000 in
theorem rTree_calls {H : Hp} {gr : GraphD} {cs_gr : List Value} (rd_gr : Rdc.rd H cs_gr gr) (root : Int) (hm : mayG gr = true) (hR : Rows gr.succ) (h0 : 0 ≤ root) (h1 : root < gr.succ.length) : CallG Tryz.prog 49 [.agg cs_gr.toArray, .int .i64 root] H [] (fun v H' L' => ∃ A c out, out.length = gr.succ.length ∧ (∀ tl, TreeP gr.succ root tl → out = tl) ∧ v = .slice A out.length c ∧ out.length ≤ c ∧ RdS H' A out ∧ L' = []) := by
 have rd_gr' := rd_gr; obtain ⟨A_gr_0, c_gr_0, A_gr_1, c_gr_1, rfl, u_gr_0, r_gr_0, u_gr_1, r_gr_1⟩ := rd_gr
 have h64 := hR.1
 refine CallG.of Tryz.func49 rfl rfl rfl fun w0 => ?_
 refine WpG.g tabOK 2 rfl ?_
 refine WpG.box rfl rfl rfl rfl rfl (fun b1 => ?_)
 refine WpG.freezeBox (ci := 0) rfl (fun H2 hH2 hc2 => ?_)
 refine WpG.g tabOK 4 rfl ?_
 apply WpG.join (G := [(1, .int .i64 root), (2, .pointer (some ⟨b1, 0, none⟩)), (29, .bool (((!(mayG gr)) || (decide (root < 0))) || (decide (root ≥ (gr.succ.length : Int)))))])
 ·intro nx3
  refine WpG.g tabOK 1 rfl ?_
  refine WpG.y rfl rfl rfl rfl (RunY.loadH tabOK hc2 hlr rfl rfl rfl rfl) ?_
  refine WpG.callS rfl rfl rfl rfl rfl rfl hlr (rMayG_calls (Rdc.mono hH2 rd_gr')) ?_
  refine WpG.g tabOK 2 rfl ?_
  refine WpG.caseBn (t := 19) rfl (fun q19 => ?_) (fun q19 => ?_)
  ·refine WpG.g tabOK 11 rfl ?_
   exact nx3.weak ⟨rfl, rfl, bq (by simp [q19]), trivial⟩
  refine WpG.g tabOK 4 rfl ?_
  refine WpG.caseD (t := 23) rfl (fun q23 => ?_) (fun q23 => ?_)
  ·refine WpG.g tabOK 7 rfl ?_
   exact nx3.weak ⟨rfl, rfl, bq (by simp [q19, q23]), trivial⟩
  refine WpG.g tabOK 2 rfl ?_
  refine WpG.y rfl rfl rfl rfl (RunY.loadH tabOK (hc2.sub 0 1) hlr rfl rfl rfl rfl) ?_
  refine WpG.g tabOK 4 rfl ?_
  exact nx3.weak ⟨rfl, rfl, bq (by simp [q19, q23]), trivial⟩
 refine WpG.caseB (t := 29) rfl (fun q29 => ?_) (fun q29 => ?_)
 ·have q29' := q29; simp only [Bool.or_eq_true, Bool.and_eq_true, beq_iff_eq, bne_iff_ne, decide_eq_true_eq, Bool.not_eq_true] at q29'
  exfalso; simp only [hm, Bool.not_true, Bool.false_or, Bool.or_eq_true, decide_eq_true_eq] at q29; omega
 have q29' := q29; simp only [Bool.or_eq_false_iff, Bool.and_eq_false_iff, beq_eq_false_iff_ne, bne_eq_false_iff_eq, decide_eq_false_iff_not, Bool.not_eq_false] at q29'
 refine WpG.g tabOK 5 rfl ?_
 refine WpG.y rfl rfl rfl rfl (RunY.loadH tabOK (hc2.sub 0 1) hlr rfl rfl rfl rfl) ?_
 refine WpG.g tabOK 5 rfl ?_
 refine WpG.y rfl rfl rfl rfl (RunY.loadH tabOK hc2 hlr rfl rfl rfl rfl) ?_
 refine WpG.g tabOK 1 rfl ?_
 refine WpG.call0 rfl rfl rfl rfl rfl rfl (rReach_calls (Rdc.mono hH2 rd_gr') root (-1) hR h0 h1) ?_
 rintro _ H4 _ hH4 ⟨A4, c4, bs4, hx4, rfl, u4, r4, rfl⟩
 have hl4 := hx4.1
 refine WpG.g tabOK 5 rfl ?_
 refine WpG.makeSlice (n := gr.succ.length) tabOK rfl rfl rfl rfl rfl rfl rfl rfl rfl (by omega) (fun b5 => ?_)
 refine WpG.g tabOK 9 rfl ?_
 refine WpG.wk (WpG.ind4 (fun (a : Int) (cs : List Value) (rows : List (List Bool)) (G : Hp) => ⟨(gr.succ.length - a).toNat, [(1, .int .i64 root), (2, .pointer (some ⟨b1, 0, none⟩)), (5, .int .i64 (gr.succ.length : Int)), (6, .slice A4 bs4.length c4), (7, .slice (some ⟨b5, 0, none⟩) gr.succ.length gr.succ.length), (8, .int .i64 a)], G, [Chunk.own 59 1 (some ⟨b5, 0, none⟩) gr.succ.length gr.succ.length (cs ++ List.replicate (gr.succ.length - a.toNat) (.slice none 0 0))], 0 ≤ a ∧ a ≤ gr.succ.length ∧ (cs.length : Int) = a ∧ H4.le G ∧ OvTab gr.succ root rows a ∧ RdL G cs rows⟩) ?_ 0 [] [] H4 ⟨by omega, by omega, rfl, Hp.le.refl _, OvTab.nil, rfl⟩) rfl
 intro a cs rows G inv ih1
 obtain ⟨a0, a1, a2, a3, a4, a5⟩ := inv
 refine WpG.g tabOK 7 rfl ?_
 refine WpG.caseD (t := 40) rfl (fun q40 => ?_) (fun q40 => ?_)
 ·refine WpG.g tabOK 9 rfl ?_
  refine WpG.makeSlice (n := gr.succ.length) tabOK rfl rfl rfl rfl rfl rfl rfl rfl rfl (by omega) (fun b6 => ?_)
  refine WpG.setL (L' := [Chunk.own 4 1 (some ⟨b6, 0, none⟩) gr.succ.length gr.succ.length ((List.replicate gr.succ.length false).map Value.bool), Chunk.own 59 1 (some ⟨b5, 0, none⟩) gr.succ.length gr.succ.length (cs ++ List.replicate (gr.succ.length - a.toNat) (.slice none 0 0))]) (by rw [List.map_replicate]) ?_
  refine WpG.y rfl rfl rfl rfl (RunY.indexAddr tabOK rfl rfl rfl rfl rfl (by omega) (by omega)) ?_
  refine WpG.storeOwn (ci := 1) tabOK rfl rfl rfl rfl rfl rfl rfl rfl (putAt_one (by simp; omega)) ?_
  refine WpG.setL (L' := [Chunk.own 4 1 (some ⟨b6, 0, none⟩) gr.succ.length gr.succ.length ((List.replicate gr.succ.length false).map Value.bool), Chunk.own 59 1 (some ⟨b5, 0, none⟩) gr.succ.length gr.succ.length ((cs ++ [.slice (some ⟨b6, 0, none⟩) gr.succ.length gr.succ.length]) ++ List.replicate (gr.succ.length - (a + 1).toNat) (.slice none 0 0))]) (by rw [← cs_set (a := a) a0 a2 q40]; rfl) ?_
  refine WpG.g tabOK 3 rfl ?_
  refine WpG.y rfl rfl rfl rfl (RunY.loadH tabOK hc2 (hH4.trans a3) rfl rfl rfl rfl) ?_
  refine WpG.g tabOK 2 rfl ?_
  refine WpG.call0 rfl rfl rfl rfl rfl rfl (rReach_calls (Rdc.mono ((hH2.trans hH4).trans a3) rd_gr') root a hR h0 h1) ?_
  rintro _ H7 _ hH7 ⟨A7, c7, bs7, hx7, rfl, u7, r7, rfl⟩
  have hl7 := hx7.1
  refine WpG.g tabOK 8 rfl ?_
  refine WpG.wk (WpG.ind2 (fun (b : Int) (bsr : List Bool) => ⟨(gr.succ.length - b).toNat, [(1, .int .i64 root), (2, .pointer (some ⟨b1, 0, none⟩)), (5, .int .i64 (gr.succ.length : Int)), (6, .slice A4 bs4.length c4), (7, .slice (some ⟨b5, 0, none⟩) gr.succ.length gr.succ.length), (8, .int .i64 a), (9, .slice A7 bs7.length c7), (10, .int .i64 b)], H7, [Chunk.own 4 1 (some ⟨b6, 0, none⟩) gr.succ.length gr.succ.length (bsr.map Value.bool), Chunk.own 59 1 (some ⟨b5, 0, none⟩) gr.succ.length gr.succ.length ((cs ++ [.slice (some ⟨b6, 0, none⟩) gr.succ.length gr.succ.length]) ++ List.replicate (gr.succ.length - (a + 1).toNat) (.slice none 0 0))], 0 ≤ b ∧ b ≤ gr.succ.length ∧ bsr.length = gr.succ.length ∧ ∀ x : Int, 0 ≤ x → x < b → (nth bsr x = true ↔ Ov gr.succ root a x)⟩) ?_ 0 (List.replicate gr.succ.length false) ⟨by omega, by omega, by simp, fun x x0 x1 => by exfalso; have : x < 0 := x1; omega⟩) rfl
  intro b bsr inv ih2
  obtain ⟨d0, d1, d2, d3⟩ := inv
  refine WpG.g tabOK 7 rfl ?_
  refine WpG.caseD (t := 54) rfl (fun q54 => ?_) (fun q54 => ?_)
  ·refine WpG.g tabOK 4 rfl ?_
   refine WpG.drawE 18 17 [Chunk.own 4 1 (some ⟨b6, 0, none⟩) gr.succ.length gr.succ.length (bsr.map Value.bool), Chunk.own 59 1 (some ⟨b5, 0, none⟩) gr.succ.length gr.succ.length ((cs ++ [.slice (some ⟨b6, 0, none⟩) gr.succ.length gr.succ.length]) ++ List.replicate (gr.succ.length - (a + 1).toNat) (.slice none 0 0))] mixed (by kernel_rfl) ?_
   refine WpE.gg (listed' := lst 18 115) tabOK [0, 1, 4, 5, 6] (by kernel_rfl) rfl (((hH2.trans hH4).trans a3).trans hH7) hlr (.refl _) ?_
   refine WpE.p (i := 2) (fuel := 12) (listed' := lst 18 119) (by kernel_rfl) rfl rfl rfl rfl (((hH2.trans hH4).trans a3).trans hH7) hlr (.refl _) (RunP.indexAddr tabOK rfl rfl rfl rfl rfl (by omega) (by omega)) ?_
   refine WpE.y (i := 3) (fuel := 11) (listed' := lst 18 127) (by kernel_rfl) rfl rfl rfl rfl (((hH2.trans hH4).trans a3).trans hH7) hlr (.refl _) (RunY.loadOwn (ci := 1) (cs := [.slice (some ⟨b6, 0, none⟩) gr.succ.length gr.succ.length]) tabOK rfl rfl rfl rfl rfl (cs_at a2)) ?_
   refine WpE.indexR (i := 7) (fuel := 10) (listed' := lst 18 255) tabOK (by kernel_rfl) rfl rfl rfl rfl rfl rfl rfl rfl rfl (((hH2.trans hH4).trans a3).trans hH7) hlr (.refl _) r4 (by omega) (by omega) ?_
   rintro x8 hx8 b8 o8 _ rfl hc8
   obtain rfl : x8 = (nth bs4 b) := hx8
   refine WpE.y (i := 8) (fuel := 9) (listed' := lst 18 511) (by kernel_rfl) rfl rfl rfl rfl (((hH2.trans hH4).trans a3).trans hH7) hlr (.refl _) (RunY.loadH tabOK hc8 (a3.trans hH7) rfl rfl rfl rfl) ?_
   refine WpE.gg (listed' := lst 18 1023) tabOK [9] (by kernel_rfl) rfl (((hH2.trans hH4).trans a3).trans hH7) hlr (.refl _) ?_
   refine WpE.caseB (t := 66) rfl (fun q66 => ?_) (fun q66 => ?_)
   ·refine WpE.gg (listed' := lst 18 4095) tabOK [10, 11] (by kernel_rfl) rfl (((hH2.trans hH4).trans a3).trans hH7) hlr (.refl _) ?_
    refine WpE.indexR (i := 12) (fuel := 5) (listed' := lst 18 8191) tabOK (by kernel_rfl) rfl rfl rfl rfl rfl rfl rfl rfl rfl (((hH2.trans hH4).trans a3).trans hH7) hlr (.refl _) r7 (by omega) (by omega) ?_
    rintro x9 hx9 b9 o9 _ rfl hc9
    obtain rfl : x9 = (nth bs7 b) := hx9
    refine WpE.y (i := 13) (fuel := 4) (listed' := lst 18 16383) (by kernel_rfl) rfl rfl rfl rfl (((hH2.trans hH4).trans a3).trans hH7) hlr (.refl _) (RunY.loadH tabOK hc9 hlr rfl rfl rfl rfl) ?_
    refine WpE.gg (listed' := lst 18 65535) tabOK [14, 15] (by kernel_rfl) rfl (((hH2.trans hH4).trans a3).trans hH7) hlr (.refl _) ?_
    refine WpE.p (i := 16) (fuel := 1) (listed' := lst 18 131071) (by kernel_rfl) rfl rfl rfl rfl (((hH2.trans hH4).trans a3).trans hH7) hlr (.refl _) (RunP.indexAddr tabOK rfl rfl rfl rfl rfl (by omega) (by omega)) ?_
    refine WpE.halt [Chunk.own 59 1 (some ⟨b5, 0, none⟩) gr.succ.length gr.succ.length ((cs ++ [.slice (some ⟨b6, 0, none⟩) gr.succ.length gr.succ.length]) ++ List.replicate (gr.succ.length - (a + 1).toNat) (.slice none 0 0))] (fuel := 0) (listed' := lst 18 262143) (by kernel_rfl) (OpG.storeOwn (ci := 0) tabOK rfl rfl rfl rfl rfl rfl rfl rfl (putAt_one (own_lt (by omega) (by omega)))) ?_
    rintro F1 H1 L1 ⟨eF, eH, eL⟩
    subst eF; subst eL; rw [eH]; clear eH H1
    refine WpD.setL (L' := [Chunk.own 4 1 (some ⟨b6, 0, none⟩) gr.succ.length gr.succ.length ((bsr.set b.toNat (!(nth bs7 b))).map Value.bool), Chunk.own 59 1 (some ⟨b5, 0, none⟩) gr.succ.length gr.succ.length ((cs ++ [.slice (some ⟨b6, 0, none⟩) gr.succ.length gr.succ.length]) ++ List.replicate (gr.succ.length - (a + 1).toNat) (.slice none 0 0))]) (by rw [← arr_set (f := Value.bool) (xs := bsr) (j := b) (!(nth bs7 b))]; rfl) ?_
    refine WpD.done (by kernel_rfl) ?_
    refine WpG.gw tabOK 4 56 rfl (wrk (x := b + 1) (by omega) (by omega)) ?_
    refine WpG.g tabOK 3 rfl ?_
    refine WpG.wk (ih2 (b + 1) (bsr.set b.toNat (!(nth bs7 b))) ?_ ?_) rfl
    ·dsimp only
     omega
    clear ih1 ih2
    show 0 ≤ (b + 1) ∧ (b + 1) ≤ gr.succ.length ∧ (bsr.set b.toNat (!(nth bs7 b))).length = gr.succ.length ∧ ∀ x : Int, 0 ≤ x → x < (b + 1) → (nth (bsr.set b.toNat (!(nth bs7 b))) x = true ↔ Ov gr.succ root a x)
    exact ov_step d0 q54 d2 d3 (ov_t hx4 hx7 d0 q54 q66)
   refine WpE.gg (listed' := lst 18 65535) tabOK [10, 11, 12, 13, 14, 15] (by kernel_rfl) rfl (((hH2.trans hH4).trans a3).trans hH7) hlr (.refl _) ?_
   refine WpE.p (i := 16) (fuel := 1) (listed' := lst 18 131071) (by kernel_rfl) rfl rfl rfl rfl (((hH2.trans hH4).trans a3).trans hH7) hlr (.refl _) (RunP.indexAddr tabOK rfl rfl rfl rfl rfl (by omega) (by omega)) ?_
   refine WpE.halt [Chunk.own 59 1 (some ⟨b5, 0, none⟩) gr.succ.length gr.succ.length ((cs ++ [.slice (some ⟨b6, 0, none⟩) gr.succ.length gr.succ.length]) ++ List.replicate (gr.succ.length - (a + 1).toNat) (.slice none 0 0))] (fuel := 0) (listed' := lst 18 262143) (by kernel_rfl) (OpG.storeOwn (ci := 0) tabOK rfl rfl rfl rfl rfl rfl rfl rfl (putAt_one (own_lt (by omega) (by omega)))) ?_
   rintro F1 H1 L1 ⟨eF, eH, eL⟩
   subst eF; subst eL; rw [eH]; clear eH H1
   refine WpD.setL (L' := [Chunk.own 4 1 (some ⟨b6, 0, none⟩) gr.succ.length gr.succ.length ((bsr.set b.toNat false).map Value.bool), Chunk.own 59 1 (some ⟨b5, 0, none⟩) gr.succ.length gr.succ.length ((cs ++ [.slice (some ⟨b6, 0, none⟩) gr.succ.length gr.succ.length]) ++ List.replicate (gr.succ.length - (a + 1).toNat) (.slice none 0 0))]) (by rw [← arr_set (f := Value.bool) (xs := bsr) (j := b) false]; rfl) ?_
   refine WpD.done (by kernel_rfl) ?_
   refine WpG.gw tabOK 4 56 rfl (wrk (x := b + 1) (by omega) (by omega)) ?_
   refine WpG.g tabOK 3 rfl ?_
   refine WpG.wk (ih2 (b + 1) (bsr.set b.toNat false) ?_ ?_) rfl
   ·dsimp only
    omega
   clear ih1 ih2
   show 0 ≤ (b + 1) ∧ (b + 1) ≤ gr.succ.length ∧ (bsr.set b.toNat false).length = gr.succ.length ∧ ∀ x : Int, 0 ≤ x → x < (b + 1) → (nth (bsr.set b.toNat false) x = true ↔ Ov gr.succ root a x)
   exact ov_step d0 q54 d2 d3 (ov_f hx4 d0 q54 q66)
  refine WpG.ownCap (ci := 0) rfl (fun uz10 => ?_)
  refine WpG.freezeOwn (ci := 0) rfl (fun H10 hH10 fz10 => ?_)
  have rz10 : RdS H10 (some ⟨b6, 0, none⟩) bsr := RdS.of_own (H := H7) (show RdL H7 (bsr.map Value.bool) bsr from RdL_bools _) ((by omega)) (by omega) hH10 fz10
  refine WpG.gw tabOK 6 42 rfl (wrk (x := a + 1) (by omega) (by omega)) ?_
  refine WpG.g tabOK 3 rfl ?_
  refine WpG.wk (ih1 (a + 1) (cs ++ [Value.slice (some ⟨b6, 0, none⟩) gr.succ.length gr.succ.length]) (rows ++ [bsr]) H10 ?_ ?_) rfl
  ·dsimp only
   omega
  clear ih1 ih2
  exact ⟨by omega, by omega, by simp; omega, a3.trans (hH7.trans hH10), a4.snoc ⟨d2, fun b b0 b1 => d3 b b0 (by omega)⟩, (a5.mono (hH7.trans hH10)).snoc ⟨_, gr.succ.length, by rw [d2], by omega, rz10⟩⟩
 have a9 : a = (gr.succ.length : Int) := by omega
 refine WpG.setL (L' := [Chunk.own 59 1 (some ⟨b5, 0, none⟩) gr.succ.length gr.succ.length cs]) (by rw [show gr.succ.length - a.toNat = 0 from by omega, List.replicate_zero, List.append_nil]) ?_
 have hrl : gr.succ.length = rows.length := by have := a4.1; omega
 refine WpG.ownCap (ci := 0) rfl (fun uz11 => ?_)
 refine WpG.freezeOwn (ci := 0) rfl (fun H11 hH11 fz11 => ?_)
 have rz11 : RdS H11 (some ⟨b5, 0, none⟩) rows := RdS.of_own (H := G) (show RdL G cs rows from a5) (hrl) (by omega) hH11 fz11
 refine WpG.weaken (G := [(1, .int .i64 root), (2, .pointer (some ⟨b1, 0, none⟩)), (5, .int .i64 (gr.succ.length : Int)), (6, .slice A4 bs4.length c4), (7, .slice (some ⟨b5, 0, none⟩) rows.length gr.succ.length), (8, .int .i64 a), (40, .bool false)]) (Known.all ⟨rfl, rfl, rfl, rfl, (congrArg (fun n => some (Value.slice (some ⟨b5, 0, none⟩) n gr.succ.length)) hrl), rfl, rfl, trivial⟩) ?_
 refine WpG.g tabOK 5 rfl ?_
 refine WpG.makeSlice (n := gr.succ.length) tabOK rfl rfl rfl rfl rfl rfl rfl rfl rfl (by omega) (fun b12 => ?_)
 refine WpG.setL (L' := [Chunk.own 3 1 (some ⟨b12, 0, none⟩) gr.succ.length gr.succ.length ((List.replicate gr.succ.length (0 : Int)).map iv)]) (by rw [List.map_replicate]; rfl) ?_
 refine WpG.g tabOK 9 rfl ?_
 refine WpG.wk (WpG.ind2 (fun (t : Int) (out : List Int) => ⟨(gr.succ.length - t).toNat, [(1, .int .i64 root), (5, .int .i64 (gr.succ.length : Int)), (7, .slice (some ⟨b5, 0, none⟩) rows.length gr.succ.length), (11, .slice (some ⟨b12, 0, none⟩) gr.succ.length gr.succ.length), (12, .int .i64 t)], H11, [Chunk.own 3 1 (some ⟨b12, 0, none⟩) gr.succ.length gr.succ.length (out.map iv)], 0 ≤ t ∧ t ≤ gr.succ.length ∧ out.length = gr.succ.length ∧ AllI out ∧ ∀ tl, TreeP gr.succ root tl → ∀ x : Int, 0 ≤ x → x < t → nth out x = nth tl x⟩) ?_ 0 (List.replicate gr.succ.length (0 : Int)) ⟨by omega, by omega, by simp, AllI_zero _, fun tl _ x x0 x1 => by exfalso; have : x < 0 := x1; omega⟩) rfl
 intro t out inv ih3
 obtain ⟨f0, f1, f2, f3, f4⟩ := inv
 refine WpG.g tabOK 7 rfl ?_
 refine WpG.caseD (t := 78) rfl (fun q78 => ?_) (fun q78 => ?_)
 ·refine WpG.g tabOK 8 rfl ?_
  refine WpG.y rfl rfl rfl rfl (RunY.indexAddr tabOK rfl rfl rfl rfl rfl (by omega) (by omega)) ?_
  refine WpG.storeOwn (ci := 0) tabOK rfl rfl rfl rfl rfl rfl rfl rfl (putAt_one (own_lt (by omega) (by omega))) ?_
  refine WpG.setL (L' := [Chunk.own 3 1 (some ⟨b12, 0, none⟩) gr.succ.length gr.succ.length ((out.set t.toNat (-2)).map iv)]) (by rw [← arr_set (f := iv) (xs := out) (j := t) (-2)]; rfl) ?_
  refine WpG.g tabOK 8 rfl ?_
  apply WpG.joinP (True) (G := [(1, .int .i64 root), (5, .int .i64 (gr.succ.length : Int)), (7, .slice (some ⟨b5, 0, none⟩) rows.length gr.succ.length), (11, .slice (some ⟨b12, 0, none⟩) gr.succ.length gr.succ.length), (12, .int .i64 t)])
  ·intro nx13
   refine WpG.caseE (t := 86) rfl (fun q86 => ?_) (fun q86 => ?_)
   ·refine WpG.g tabOK 4 rfl ?_
    refine WpG.y rfl rfl rfl rfl (RunY.indexAddr tabOK rfl rfl rfl rfl rfl (by omega) (by omega)) ?_
    refine WpG.storeOwn (ci := 0) tabOK rfl rfl rfl rfl rfl rfl rfl rfl (putAt_one (own_lt (by omega) (by simp; omega))) ?_
    refine WpG.setL (L' := [Chunk.own 3 1 (some ⟨b12, 0, none⟩) gr.succ.length gr.succ.length (((out.set t.toNat (-2)).set t.toNat (-1)).map iv)]) (by rw [← arr_set (f := iv) (xs := out.set t.toNat (-2)) (j := t) (-1)]; rfl) ?_
    refine WpG.g tabOK 1 rfl ?_
    refine WpG.setL (L' := [Chunk.own 3 1 (some ⟨b12, 0, none⟩) gr.succ.length gr.succ.length ((out.set t.toNat (if t = root then -1 else -2)).map iv)]) (by rw [if_pos q86, List.set_set]) ?_
    exact (nx13 (trivial)).weak ⟨rfl, rfl, rfl, rfl, rfl, trivial⟩
   refine WpG.g tabOK 2 rfl ?_
   refine WpG.setL (L' := [Chunk.own 3 1 (some ⟨b12, 0, none⟩) gr.succ.length gr.succ.length ((out.set t.toNat (if t = root then -1 else -2)).map iv)]) (by rw [if_neg q86]) ?_
   exact (nx13 (trivial)).weak ⟨rfl, rfl, rfl, rfl, rfl, trivial⟩
  intro _
  refine WpG.g tabOK 6 rfl ?_
  refine WpG.wk (WpG.ind2 (fun (p : Int) (ou : List Int) => ⟨(gr.succ.length - p).toNat, [(1, .int .i64 root), (5, .int .i64 (gr.succ.length : Int)), (7, .slice (some ⟨b5, 0, none⟩) rows.length gr.succ.length), (11, .slice (some ⟨b12, 0, none⟩) gr.succ.length gr.succ.length), (12, .int .i64 t), (13, .int .i64 p)], H11, [Chunk.own 3 1 (some ⟨b12, 0, none⟩) gr.succ.length gr.succ.length (ou.map iv)], 0 ≤ p ∧ p ≤ gr.succ.length ∧ ou.length = gr.succ.length ∧ AllI ou ∧ (∀ tl, TreeP gr.succ root tl → ∀ x : Int, 0 ≤ x → x < t → nth ou x = nth tl x) ∧ (t = root → nth ou t = -1) ∧ (t ≠ root → ∀ tl, TreeP gr.succ root tl → TAt gr.succ root tl t p (nth ou t))⟩) ?_ 0 (out.set t.toNat (if t = root then -1 else -2)) ⟨by omega, by omega, tree_start f0 q78 f2 f3 f4⟩) rfl
  intro p ou inv ih4
  obtain ⟨g0, g1, g2, g3, g4, g5, g6⟩ := inv
  refine WpG.g tabOK 2 rfl ?_
  apply WpG.join (G := [(1, .int .i64 root), (5, .int .i64 (gr.succ.length : Int)), (7, .slice (some ⟨b5, 0, none⟩) rows.length gr.succ.length), (11, .slice (some ⟨b12, 0, none⟩) gr.succ.length gr.succ.length), (12, .int .i64 t), (13, .int .i64 p), (97, .bool ((decide (p < (gr.succ.length : Int))) && (t != root)))])
  ·intro nx14
   refine WpG.g tabOK 1 rfl ?_
   refine WpG.g tabOK 4 rfl ?_
   refine WpG.caseD (t := 93) rfl (fun q93 => ?_) (fun q93 => ?_)
   ·refine WpG.g tabOK 5 rfl ?_
    exact nx14.weak ⟨rfl, rfl, rfl, rfl, rfl, rfl, bq (by simp [q93]), trivial⟩
   refine WpG.g tabOK 5 rfl ?_
   exact nx14.weak ⟨rfl, rfl, rfl, rfl, rfl, rfl, bq (by simp [q93]), trivial⟩
  refine WpG.caseB (t := 97) rfl (fun q97 => ?_) (fun q97 => ?_)
  ·have q97' := q97; simp only [Bool.or_eq_true, Bool.and_eq_true, beq_iff_eq, bne_iff_ne, decide_eq_true_eq, Bool.not_eq_true] at q97'
   have hrp := (a4.2 p g0 (by omega)).1
   refine WpG.g tabOK 11 rfl ?_
   refine WpG.caseE (t := 103) rfl (fun q103 => ?_) (fun q103 => ?_)
   ·refine WpG.gw tabOK 15 99 rfl (wrk (x := p + 1) (by omega) (by omega)) ?_
    refine WpG.g tabOK 3 rfl ?_
    refine WpG.wk (ih4 (p + 1) ou ?_ ?_) rfl
    ·dsimp only
     omega
    clear ih1 ih3 ih4
    exact ⟨by omega, by omega, g2, g3, g4, g5, fun e tl ht => (g6 e tl ht).skip ht e (fun h => h.1 q103)⟩
   refine WpG.g tabOK 2 rfl ?_
   refine WpG.indexR tabOK rfl rfl rfl rfl rfl rfl rfl rfl rfl rz11 (by omega) (by omega) ?_
   rintro x15 hx15 b15 o15 _ ⟨A15, c15, rfl, u15, r15⟩ hc15
   have bz15 := r15.1
   obtain rfl : x15 = (nth rows p) := hx15
   refine WpG.y rfl rfl rfl rfl (RunY.loadH tabOK hc15 hlr rfl rfl rfl rfl) ?_
   refine WpG.g tabOK 1 rfl ?_
   refine WpG.indexR tabOK rfl rfl rfl rfl rfl rfl rfl rfl rfl r15 (by omega) (by omega) ?_
   rintro x16 hx16 b16 o16 _ rfl hc16
   obtain rfl : x16 = (nth (nth rows p) t) := hx16
   refine WpG.y rfl rfl rfl rfl (RunY.loadH tabOK hc16 hlr rfl rfl rfl rfl) ?_
   refine WpG.g tabOK 3 rfl ?_
   refine WpG.caseBn (t := 112) rfl (fun q112 => ?_) (fun q112 => ?_)
   ·refine WpG.gw tabOK 5 99 rfl (wrk (x := p + 1) (by omega) (by omega)) ?_
    refine WpG.g tabOK 3 rfl ?_
    refine WpG.wk (ih4 (p + 1) ou ?_ ?_) rfl
    ·dsimp only
     omega
    clear ih1 ih3 ih4
    exact ⟨by omega, by omega, g2, g3, g4, g5, fun e tl ht => (g6 e tl ht).skip ht e (fun h => a4.no g0 (by omega) f0 q78 q112 h.2.1)⟩
   refine WpG.g tabOK 13 rfl ?_
   refine WpG.wk (WpG.ind2 (fun (c : Int) (near : Bool) => ⟨(gr.succ.length - c).toNat, [(1, .int .i64 root), (5, .int .i64 (gr.succ.length : Int)), (7, .slice (some ⟨b5, 0, none⟩) rows.length gr.succ.length), (11, .slice (some ⟨b12, 0, none⟩) gr.succ.length gr.succ.length), (12, .int .i64 t), (13, .int .i64 p), (14, .bool near), (15, .int .i64 c)], H11, [Chunk.own 3 1 (some ⟨b12, 0, none⟩) gr.succ.length gr.succ.length (ou.map iv)], 0 ≤ c ∧ c ≤ gr.succ.length ∧ (near = true ↔ ∀ x : Int, 0 ≤ x → x < c → (x = t ∨ ¬ Ov gr.succ root x t ∨ Ov gr.succ root x p))⟩) ?_ 0 true ⟨by omega, by omega, ⟨fun _ x x0 x1 => by exfalso; have : x < 0 := x1; omega, fun _ => rfl⟩⟩) rfl
   intro c near inv ih5
   obtain ⟨h0_, h1_, h2_⟩ := inv
   refine WpG.g tabOK 7 rfl ?_
   refine WpG.caseD (t := 115) rfl (fun q115 => ?_) (fun q115 => ?_)
   ·have hrc := (a4.2 c h0_ (by omega)).1
    refine WpG.g tabOK 7 rfl ?_
    refine WpG.caseB (t := 119) rfl (fun q119 => ?_) (fun q119 => ?_)
    ·refine WpG.g tabOK 4 rfl ?_
     refine WpG.caseE (t := 123) rfl (fun q123 => ?_) (fun q123 => ?_)
     ·refine WpG.gw tabOK 25 117 rfl (wrk (x := c + 1) (by omega) (by omega)) ?_
      refine WpG.g tabOK 3 rfl ?_
      refine WpG.wk (ih5 (c + 1) true ?_ ?_) rfl
      ·dsimp only
       omega
      clear ih1 ih3 ih4 ih5
      exact ⟨by omega, by omega, near_step h0_ h2_ ⟨fun _ => ⟨q119, .inl q123⟩, fun _ => rfl⟩⟩
     refine WpG.g tabOK 2 rfl ?_
     refine WpG.indexR tabOK rfl rfl rfl rfl rfl rfl rfl rfl rfl rz11 (by omega) (by omega) ?_
     rintro x17 hx17 b17 o17 _ ⟨A17, c17, rfl, u17, r17⟩ hc17
     have bz17 := r17.1
     obtain rfl : x17 = (nth rows c) := hx17
     refine WpG.y rfl rfl rfl rfl (RunY.loadH tabOK hc17 hlr rfl rfl rfl rfl) ?_
     refine WpG.g tabOK 1 rfl ?_
     refine WpG.indexR tabOK rfl rfl rfl rfl rfl rfl rfl rfl rfl r17 (by omega) (by omega) ?_
     rintro x18 hx18 b18 o18 _ rfl hc18
     obtain rfl : x18 = (nth (nth rows c) t) := hx18
     refine WpG.y rfl rfl rfl rfl (RunY.loadH tabOK hc18 hlr rfl rfl rfl rfl) ?_
     refine WpG.g tabOK 3 rfl ?_
     refine WpG.caseBn (t := 133) rfl (fun q133 => ?_) (fun q133 => ?_)
     ·refine WpG.gw tabOK 15 117 rfl (wrk (x := c + 1) (by omega) (by omega)) ?_
      refine WpG.g tabOK 3 rfl ?_
      refine WpG.wk (ih5 (c + 1) true ?_ ?_) rfl
      ·dsimp only
       omega
      clear ih1 ih3 ih4 ih5
      exact ⟨by omega, by omega, near_step h0_ h2_ ⟨fun _ => ⟨q119, .inr (.inl (a4.no h0_ (by omega) f0 q78 q133))⟩, fun _ => rfl⟩⟩
     refine WpG.g tabOK 2 rfl ?_
     refine WpG.indexR tabOK rfl rfl rfl rfl rfl rfl rfl rfl rfl rz11 (by omega) (by omega) ?_
     rintro x19 hx19 b19 o19 _ ⟨A19, c19, rfl, u19, r19⟩ hc19
     have bz19 := r19.1
     obtain rfl : x19 = (nth rows c) := hx19
     refine WpG.y rfl rfl rfl rfl (RunY.loadH tabOK hc19 hlr rfl rfl rfl rfl) ?_
     refine WpG.g tabOK 1 rfl ?_
     refine WpG.indexR tabOK rfl rfl rfl rfl rfl rfl rfl rfl rfl r19 (by omega) (by omega) ?_
     rintro x20 hx20 b20 o20 _ rfl hc20
     obtain rfl : x20 = (nth (nth rows c) p) := hx20
     refine WpG.y rfl rfl rfl rfl (RunY.loadH tabOK hc20 hlr rfl rfl rfl rfl) ?_
     refine WpG.gw tabOK 8 117 rfl (wrk (x := c + 1) (by omega) (by omega)) ?_
     refine WpG.g tabOK 3 rfl ?_
     refine WpG.wk (ih5 (c + 1) (nth (nth rows c) p) ?_ ?_) rfl
     ·dsimp only
      omega
     clear ih1 ih3 ih4 ih5
     exact ⟨by omega, by omega, near_step h0_ h2_ (near_2 q119 q123 ((a4.at_ h0_ (by omega) f0 q78).1 q133) (a4.at_ h0_ (by omega) g0 (by omega)))⟩
    refine WpG.gw tabOK 29 117 rfl (wrk (x := c + 1) (by omega) (by omega)) ?_
    refine WpG.g tabOK 3 rfl ?_
    refine WpG.wk (ih5 (c + 1) false ?_ ?_) rfl
    ·dsimp only
     omega
    clear ih1 ih3 ih4 ih5
    exact ⟨by omega, by omega, near_step h0_ h2_ ⟨fun h => (by cases h), fun h => (by rw [q119] at h; cases h.1)⟩⟩
   refine WpG.g tabOK 6 rfl ?_
   refine WpG.caseB (t := 143) rfl (fun q143 => ?_) (fun q143 => ?_)
   ·refine WpG.g tabOK 5 rfl ?_
    refine WpG.y rfl rfl rfl rfl (RunY.indexAddr tabOK rfl rfl rfl rfl rfl (by omega) (by omega)) ?_
    refine WpG.storeOwn (ci := 0) tabOK rfl rfl rfl rfl rfl rfl rfl rfl (putAt_one (own_lt (by omega) (by omega))) ?_
    refine WpG.setL (L' := [Chunk.own 3 1 (some ⟨b12, 0, none⟩) gr.succ.length gr.succ.length ((ou.set t.toNat p).map iv)]) (by rw [← arr_set (f := iv) (xs := ou) (j := t) p]; rfl) ?_
    refine WpG.gw tabOK 5 99 rfl (wrk (x := p + 1) (by omega) (by omega)) ?_
    refine WpG.g tabOK 3 rfl ?_
    refine WpG.wk (ih4 (p + 1) (ou.set t.toNat p) ?_ ?_) rfl
    ·dsimp only
     omega
    clear ih1 ih3 ih4 ih5
    exact ⟨by omega, by omega, tree_set f0 q78 g0 (by omega) g2 g3 g4 q97'.2 ⟨q103, (a4.at_ g0 (by omega) f0 q78).1 q112, fun x x0 x1 => h2_.1 q143 x x0 (by omega)⟩⟩
   refine WpG.gw tabOK 6 99 rfl (wrk (x := p + 1) (by omega) (by omega)) ?_
   refine WpG.g tabOK 3 rfl ?_
   refine WpG.wk (ih4 (p + 1) ou ?_ ?_) rfl
   ·dsimp only
    omega
   clear ih1 ih3 ih4 ih5
   exact ⟨by omega, by omega, g2, g3, g4, g5, fun e tl ht => (g6 e tl ht).skip ht e (fun h => by have := h2_.2 (fun x x0 x1 => h.2.2 x x0 (by omega)); rw [q143] at this; cases this)⟩
  have q97' := q97; simp only [Bool.or_eq_false_iff, Bool.and_eq_false_iff, beq_eq_false_iff_ne, bne_eq_false_iff_eq, decide_eq_false_iff_not, Bool.not_eq_false] at q97'
  refine WpG.gw tabOK 6 80 rfl (wrk (x := t + 1) (by omega) (by omega)) ?_
  refine WpG.g tabOK 3 rfl ?_
  refine WpG.wk (ih3 (t + 1) ou ?_ ?_) rfl
  ·dsimp only
   omega
  clear ih1 ih3 ih4
  exact ⟨by omega, by omega, g2, g3, fun tl ht => tree_done ht f0 q78 q97' (g4 tl ht) g5 (fun e => g6 e tl ht)⟩
 refine WpG.g tabOK 7 rfl ?_
 refine WpG.ownCap (ci := 0) rfl (fun uz21 => ?_)
 refine WpG.freezeOwn (ci := 0) rfl (fun H21 hH21 fz21 => ?_)
 have rz21 : RdS H21 (some ⟨b12, 0, none⟩) out := RdS.of_own (H := H11) (show RdL H11 (out.map iv) out from RdL_ints _ f3) ((by omega)) (by omega) hH21 fz21
 exact WpG.ret tabOK (L' := []) (.tmp rfl .nil) .slnil (tree_ret rfl (Nat.le_refl _) f2 (fun tl ht x x0 x1 => f4 tl ht x x0 (by omega)) rz21)
end Go.Proofs.YtakameggkkjcpaaGreat
namespace Go.Proofs.YtakameggkkjcpaaGreat
open Go Go.RowKit
def onto (l r : List Int) : List Int := if r = [] then [] else l ++ r
def pathF (tree : List Int) : Nat → Int → List Int
  | 0, _ => []
  | k + 1, a => if a < 0 ∨ a ≥ tree.length then [] else if nth tree a = -1 then [a] else onto [a] (pathF tree k (nth tree a))
def pathD (tree : List Int) (a : Int) : List Int := pathF tree tree.length a
theorem pathF_succ (tree : List Int) (k : Nat) (a : Int) : pathF tree (k + 1) a = if a < 0 ∨ a ≥ tree.length then [] else if nth tree a = -1 then [a] else onto [a] (pathF tree k (nth tree a)) := rfl
theorem onto_onto (l m r : List Int) : onto l (onto m r) = onto (l ++ m) r := by
  unfold onto
  by_cases h : r = []
  · simp [h]
  · by_cases h2 : m ++ r = []
    · exact absurd (List.append_eq_nil_iff.1 h2).2 h
    · simp only [h, h2, if_false, List.append_assoc]
theorem path_depth (tree : List Int) : ∀ (k : Nat) (n a : Int), 0 ≤ n → (depthF tree k n a = -1 ∧ pathF tree k a = []) ∨ (0 ≤ depthF tree k n a ∧ pathF tree k a ≠ [])
  | 0, _, _, _ => .inl ⟨rfl, rfl⟩
  | k + 1, n, a, hn => by
    rw [depthF_succ, pathF_succ]
    by_cases h1 : a < 0 ∨ a ≥ tree.length
    · rw [if_pos h1, if_pos h1]; exact .inl ⟨rfl, rfl⟩
    · rw [if_neg h1, if_neg h1]
      by_cases h2 : nth tree a = -1
      · rw [if_pos h2, if_pos h2]; exact .inr ⟨hn, by simp⟩
      · rw [if_neg h2, if_neg h2]
        rcases path_depth tree k (n + 1) (nth tree a) (by omega) with h | h
        · exact .inl ⟨h.1, by rw [h.2]; rfl⟩
        · exact .inr ⟨h.1, by unfold onto; rw [if_neg h.2]; simp⟩
theorem path_none {tree : List Int} {a : Int} (h : pathD tree a = []) : depthD tree a < 0 := by
  rcases path_depth tree tree.length 0 a (by omega) with h1 | h1
  · unfold depthD; omega
  · exact absurd h h1.2
theorem path_some {tree : List Int} {a : Int} (h : pathD tree a ≠ []) : ¬ depthD tree a < 0 := by
  rcases path_depth tree tree.length 0 a (by omega) with h1 | h1
  · exact absurd h1.2 h
  · unfold depthD; omega
theorem pathF_more (tree : List Int) : ∀ (k : Nat) (a : Int), pathF tree k a ≠ [] → pathF tree (k + 1) a = pathF tree k a
  | 0, a, h => absurd rfl h
  | k + 1, a, h => by
    rw [pathF_succ tree (k + 1) a, pathF_succ tree k a]
    rw [pathF_succ tree k a] at h
    by_cases h1 : a < 0 ∨ a ≥ tree.length
    · rw [if_pos h1, if_pos h1]
    · rw [if_neg h1] at h ⊢
      rw [if_neg h1]
      by_cases h2 : nth tree a = -1
      · rw [if_pos h2, if_pos h2]
      · rw [if_neg h2] at h ⊢
        rw [if_neg h2, pathF_more tree k (nth tree a) (fun e => h (by rw [e]; rfl))]
theorem path_top {tree : List Int} {a : Int} (h : 0 ≤ depthD tree a) (ht : nth tree a = -1) : pathD tree a = [a] := by
  have hr := depth_range h
  unfold pathD
  obtain ⟨k, hk⟩ : ∃ k, tree.length = k + 1 := ⟨tree.length - 1, by omega⟩
  rw [hk, pathF_succ, if_neg (by omega), if_pos ht]
theorem path_up {tree : List Int} {a : Int} (h : 0 ≤ depthD tree a) (ht : nth tree a ≠ -1) : pathD tree a = a :: pathD tree (nth tree a) := by
  have hr := depth_range h
  have hd := depth_less h ht
  obtain ⟨k, hk⟩ : ∃ k, tree.length = k + 1 := ⟨tree.length - 1, by omega⟩
  have e : pathD tree a = onto [a] (pathF tree k (nth tree a)) := by
    unfold pathD; rw [hk, pathF_succ, if_neg (by omega), if_neg ht]
  have hne : pathF tree k (nth tree a) ≠ [] := fun e2 => by
    have : pathD tree a = [] := by rw [e, e2]; rfl
    have := path_none this; omega
  have e3 : pathD tree (nth tree a) = pathF tree k (nth tree a) := by unfold pathD; rw [hk]; exact pathF_more tree k _ hne
  rw [e, e3]; unfold onto; rw [if_neg hne]; rfl
theorem path_mem {tree : List Int} : ∀ (n : Nat) {a x : Int}, 0 ≤ depthD tree a → (depthD tree a).toNat ≤ n → x ∈ pathD tree a → x = a ∨ depthD tree x < depthD tree a
  | n, a, x, h, hn, hx => by
    by_cases ht : nth tree a = -1
    · rw [path_top h ht] at hx; exact .inl (List.mem_singleton.1 hx)
    · have hd := depth_less h ht
      rw [path_up h ht] at hx
      rcases List.mem_cons.1 hx with e | hx
      · exact .inl e
      · match n, hn with
        | 0, hn => omega
        | n + 1, hn =>
          rcases path_mem n (a := nth tree a) (by omega) (by omega) hx with e | e
          · right; rw [e]; omega
          · right; omega
theorem path_self {tree : List Int} {a : Int} (h : 0 ≤ depthD tree a) : a ∈ pathD tree a := by
  by_cases ht : nth tree a = -1
  · rw [path_top h ht]; simp
  · rw [path_up h ht]; simp
theorem meet_depth {tree : List Int} (hr : rightD tree = true) : ∀ (n : Nat) {a b : Int}, 0 ≤ depthD tree a → 0 ≤ depthD tree b → (depthD tree a + depthD tree b).toNat ≤ n → depthD tree (meetF tree (depthD tree a + depthD tree b).toNat a b) ≤ depthD tree a
  | n, a, b, ha, hb, hn => by
    by_cases e : a = b
    · subst e; rw [meet_same]; exact Int.le_refl _
    · by_cases hge : depthD tree a ≥ depthD tree b
      · obtain ⟨h1, h2, h3⟩ := meet_left hr ha hb e hge
        rw [h3]
        match n, hn with
        | 0, hn => omega
        | n + 1, hn => have := meet_depth hr n h1 hb (by omega); omega
      · obtain ⟨h1, h2, h3⟩ := meet_right hr ha hb e hge
        rw [h3]
        match n, hn with
        | 0, hn => omega
        | n + 1, hn => exact meet_depth hr n ha h1 (by omega)
theorem meet_mem {tree : List Int} (hr : rightD tree = true) : ∀ (n : Nat) {a b : Int}, 0 ≤ depthD tree a → 0 ≤ depthD tree b → (depthD tree a + depthD tree b).toNat ≤ n → (meetF tree (depthD tree a + depthD tree b).toNat a b = a ↔ a ∈ pathD tree b)
  | n, a, b, ha, hb, hn => by
    by_cases e : a = b
    · subst e; rw [meet_same]; exact ⟨fun _ => path_self ha, fun _ => rfl⟩
    · by_cases hge : depthD tree a ≥ depthD tree b
      · obtain ⟨h1, h2, h3⟩ := meet_left hr ha hb e hge
        rw [h3]
        have hd := meet_depth hr _ h1 hb (Nat.le_refl _)
        refine ⟨fun h => ?_, fun h => ?_⟩
        · rw [h] at hd; omega
        · rcases path_mem _ hb (Nat.le_refl _) h with h4 | h4
          · exact absurd h4 e
          · omega
      · obtain ⟨h1, h2, h3⟩ := meet_right hr ha hb e hge
        rw [h3]
        have ht : nth tree b ≠ -1 := meet_up hr hb ha (Ne.symm e) (by omega)
        match n, hn with
        | 0, hn => omega
        | n + 1, hn =>
          rw [meet_mem hr n ha h1 (by omega), path_up hb ht]
          simp [e]
def firstIn : List Int → List Int → Int
  | [], _ => -2
  | x :: p, q => if hasD q x = true then x else firstIn p q
def meetR (tree : List Int) (a b : Int) : Int := if rightD tree = true then firstIn (pathD tree a) (pathD tree b) else -2
theorem firstIn_mem : ∀ {p q : List Int} {x : Int}, firstIn p q = x → x = -2 ∨ x ∈ q
  | [], _, x, h => .inl h.symm
  | y :: p, q, x, h => by
    unfold firstIn at h
    split at h
    · rename_i h2; subst h; exact .inr (hasD_iff.1 h2)
    · exact firstIn_mem h
theorem overR {tree : List Int} {a b : Int} (h : inD tree [a, b] = true) : (meetR tree a b == a) = overD tree a b := by
  obtain ⟨hr, ha, hb⟩ := in_two h
  unfold overD meetD meetR
  rw [if_pos hr, if_pos h, h, Bool.true_and, Bool.eq_iff_iff, beq_iff_eq, beq_iff_eq, meet_mem hr _ ha hb (Nat.le_refl _)]
  have hr0 := depth_range ha
  constructor
  · intro h1
    rcases firstIn_mem h1 with e | e
    · omega
    · exact e
  · intro h1
    have : ∃ l, pathD tree a = a :: l := by
      by_cases ht : nth tree a = -1
      · exact ⟨[], path_top ha ht⟩
      · exact ⟨_, path_up ha ht⟩
    obtain ⟨l, e⟩ := this
    rw [e]; unfold firstIn; rw [if_pos (hasD_iff.2 h1)]
theorem AllI_app {l m : List Int} (h1 : AllI l) (h2 : AllI m) : AllI (l ++ m) := AllI_iff.2 fun x hx => (List.mem_append.1 hx).elim (AllI_iff.1 h1 x) (AllI_iff.1 h2 x)
theorem path_go {tree l r : List Int} {a : Int} (h : r = onto l (pathF tree (tree.length - l.length) a)) (h1 : (l.length : Int) < tree.length) (h2 : 0 ≤ a ∧ a < tree.length) (h3 : nth tree a ≠ -1) : r = onto (l ++ [a]) (pathF tree (tree.length - (l ++ [a]).length) (nth tree a)) := by
  obtain ⟨k, hk⟩ : ∃ k, tree.length - l.length = k + 1 := ⟨tree.length - l.length - 1, by omega⟩
  rw [h, hk, pathF_succ, if_neg (by omega), if_neg h3, onto_onto, List.length_append, show tree.length - (l.length + [a].length) = k from by simp; omega]
theorem path_top_ {tree l r : List Int} {a : Int} (h : r = onto l (pathF tree (tree.length - l.length) a)) (h1 : (l.length : Int) < tree.length) (h2 : 0 ≤ a ∧ a < tree.length) (h3 : nth tree a = -1) : r = l ++ [a] := by
  obtain ⟨k, hk⟩ : ∃ k, tree.length - l.length = k + 1 := ⟨tree.length - l.length - 1, by omega⟩
  rw [h, hk, pathF_succ, if_neg (by omega), if_pos h3]; rfl
theorem path_end {tree l r : List Int} {a : Int} (h : r = onto l (pathF tree (tree.length - l.length) a)) (h1 : ¬ ((l.length : Int) < tree.length) ∨ ¬ 0 ≤ a ∨ ¬ a < tree.length) : r = [] := by
  rw [h]
  cases hk : tree.length - l.length with
  | zero => rfl
  | succ k => rw [pathF_succ, if_pos (by omega)]; rfl
theorem path_ret {H : Hp} {tree l : List Int} {a : Int} {A : Option Addr} {n c : Nat} (e : pathD tree a = l) (hn : n = l.length) (hc : n ≤ c) (r : RdS H A l) :
    ∃ A' c', Value.slice A n c = .slice A' (pathD tree a).length c' ∧ (pathD tree a).length ≤ c' ∧ RdS H A' (pathD tree a) ∧ ([] : List Chunk) = [] := by
  subst hn; rw [e]; exact ⟨A, c, rfl, hc, r, rfl⟩
theorem right_no {tree : List Int} {i tops : Int} (h : rightD tree = rightF tree (tree.drop i.toNat) i tops) (h0 : 0 ≤ i) (h1 : i < tree.length) (h2 : nth tree i ≠ -2) (h3 : pathD tree i = []) : false = rightD tree := by
  rw [h, drop_nth h0 h1]; simp only [rightF]; rw [if_pos ⟨h2, path_none h3⟩]
theorem right_step {tree : List Int} {i tops : Int} (h : rightD tree = rightF tree (tree.drop i.toNat) i tops) (h0 : 0 ≤ i) (h1 : i < tree.length) (h2 : nth tree i = -2 ∨ pathD tree i ≠ []) : rightD tree = rightF tree (tree.drop (i + 1).toNat) (i + 1) (if nth tree i = -1 then tops + 1 else tops) := by
  rw [h, drop_nth h0 h1, toNat_succ h0]; simp only [rightF]
  rw [if_neg (fun hx => h2.elim hx.1 fun h3 => path_some h3 hx.2)]
theorem right_end {tree : List Int} {i tops : Int} (h : rightD tree = rightF tree (tree.drop i.toNat) i tops) (h0 : 0 ≤ i) (h1 : ¬ i < tree.length) : (tops == 1) = rightD tree := by
  rw [h, drop_end h0 h1]; rfl
theorem first_step {p q : List Int} {i r : Int} (h : r = firstIn (p.drop i.toNat) q) (h0 : 0 ≤ i) (h1 : i < p.length) (h2 : hasD q (nth p i) = false) : r = firstIn (p.drop (i + 1).toNat) q := by
  rw [h, drop_nth h0 h1, toNat_succ h0]
  show (if hasD q (nth p i) = true then nth p i else _) = _
  rw [if_neg (nt h2)]
theorem first_yes {p q : List Int} {i r : Int} (h : r = firstIn (p.drop i.toNat) q) (h0 : 0 ≤ i) (h1 : i < p.length) (h2 : hasD q (nth p i) = true) : nth p i = r := by
  rw [h, drop_nth h0 h1]
  show _ = (if hasD q (nth p i) = true then nth p i else _)
  rw [if_pos h2]
theorem first_no {p q : List Int} {i r : Int} (h : r = firstIn (p.drop i.toNat) q) (h0 : 0 ≤ i) (h1 : ¬ i < p.length) : -2 = r := by
  rw [h, drop_end h0 h1]; rfl
end Go.Proofs.YtakameggkkjcpaaGreat

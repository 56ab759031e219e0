/- From what a row says of a call's start to what the walks ask. -/
import Derived.Test.YtdjemlkllbhdlaaGreatT21
import Derived.ProofKit
import Derived.OpenVars
import Derived.SizedLaws
import Derived.ReadAgain
namespace Go.Proofs.YtdjemlkllbhdlaaGreat
open Go Go.RowKit Go.ChangeShapes Go.WideShapes

def hpW (W : World) : Hp := fun b => W.heap[b]?
theorem pre_all (W : World) : Pre W (hpW W) [] := ⟨fun _ _ h => h, by simp, by simp [blks], by simp [blks]⟩
theorem hp_cell {W : World} {b o : Nat} {v : Value} (h : W.cell? ⟨b, o, none⟩ = some v) : hcell (hpW W) b o = some v := by
  unfold World.cell? at h
  unfold hcell hpW
  simp only at h ⊢
  cases hb : W.heap[b]? with
  | none => rw [hb] at h; cases h
  | some ob =>
    rw [hb] at h
    cases ob <;> first | cases h | simpa using h

section
variable {P : Program} {W : World}
/-- What reads as data of the type t is some x. -/
def Dec (P : Program) (W : World) (t : Nat) (α : Type) [Rdc α] : Prop :=
  ∀ (HH : Type) (enc : TypeId × Value → HH) (fuel : Nat) (cs : List Value) (x : DataW HH × List MemPlace), DataW.trod enc P W 0 (fun _ => true) true fuel t cs = some x → (∀ n ∈ DataW.weights P t x.1, n ≤ reachBytes) → ∃ y : α, Rdc.rd (hpW W) cs y

theorem wf64 {n : Int} (h : (Lit.int .i64 n).wf = true) : I64 n := by
  unfold I64
  have e1 : IntKind.i64.min = -9223372036854775808 := by decide
  have e2 : IntKind.i64.max = 9223372036854775807 := by decide
  simp [Lit.wf] at h
  omega
theorem wfu64 {n : Int} (h : (Lit.int .u64 n).wf = true) : U64 n := by
  unfold U64
  have e1 : IntKind.u64.min = 0 := by decide
  have e2 : IntKind.u64.max = 18446744073709551615 := by decide
  simp [Lit.wf] at h
  omega
theorem dec_int {t : Nat} (ht : P.underlying t = some (.int .i64)) : Dec P W t Int := fun HH enc fuel cs x h _ => by
  obtain ⟨n, rfl, _, hw⟩ := DataW.trod_int ht h
  exact ⟨n, rfl, wf64 hw⟩
theorem list_of {α : Type} (Q : Nat → α → Prop) : ∀ n : Nat, (∀ i, i < n → ∃ x, Q i x) → ∃ xs : List α, xs.length = n ∧ ∀ i x, xs[i]? = some x → Q i x
  | 0, _ => ⟨[], rfl, fun i x h => by simp at h⟩
  | n + 1, h => by
    obtain ⟨xs, hl, hx⟩ := list_of Q n fun i hi => h i (by omega)
    obtain ⟨y, hy⟩ := h n (by omega)
    refine ⟨xs ++ [y], by simp [hl], fun i x hi => ?_⟩
    rw [List.getElem?_append] at hi
    split at hi
    · exact hx i x hi
    · rename_i hlt
      have : i = n := by
        have := (List.getElem?_eq_some_iff.1 hi).1
        simp at this; omega
      subst this
      rw [hl, Nat.sub_self] at hi
      simp at hi; subst hi; exact hy
theorem weights_mem {HH : Type} {e : Nat} : ∀ {l : List (DataW HH)} {d : DataW HH}, d ∈ l → ∀ n ∈ DataW.weights P e d, n ∈ DataW.weightsAll P e l
  | [], _, h, _, _ => by cases h
  | a :: l, d, h, n, hn => by
    rw [DataW.weightsAll]
    rcases List.mem_cons.1 h with rfl | h
    · exact List.mem_append_left _ hn
    · exact List.mem_append_right _ (weights_mem h n hn)
theorem mapM_at {α β : Type} {g : α → Option β} : ∀ {l : List α} {r : List β}, l.mapM g = some r → ∀ (j : Nat) a, l[j]? = some a → g a = r[j]?
  | [], r, h, j, a, ha => by simp at ha
  | b :: l, r, h, j, a, ha => by
    rw [List.mapM_cons] at h
    cases hb : g b with
    | none => rw [hb] at h; cases h
    | some y =>
      rw [hb] at h
      cases hl : l.mapM g with
      | none => rw [hl] at h; cases h
      | some ys =>
        rw [hl] at h
        obtain rfl : y :: ys = r := by simpa using h
        cases j with
        | zero => simp at ha; subst ha; simpa using hb
        | succ j => simp at ha; simpa using mapM_at hl j a ha
theorem dec_slice {α : Type} [Rdc α] {t e : Nat} (ht : P.underlying t = some (.slice e)) (hsz : P.cellsOf e = Rdc.sz α) (h0 : 0 < Rdc.sz α) (hby : Nat.ble 1 (P.bytesOf e) = true) (hd : Dec P W e α) (HH : Type) (enc : TypeId × Value → HH) (fuel : Nat) (cs : List Value) (x : DataW HH × List MemPlace)
    (h : DataW.trod enc P W 0 (fun _ => true) true fuel t cs = some x) (hw : ∀ n ∈ DataW.weights P t x.1, n ≤ reachBytes) : ∃ A c, ∃ xs : List α, cs = [.slice A xs.length c] ∧ xs.length ≤ c ∧ RdS (hpW W) A xs := by
  rcases DataW.trod_slice ht h with ⟨rfl, rfl⟩ | ⟨a, len, cap, elems, rest, n, rfl, rfl, rfl, _, hlc, _, hel, hat, _, _⟩
  · exact ⟨none, 0, [], rfl, Nat.le_refl _, RdS.nil _ _⟩
  · simp only [DataW.weights, ht] at hw
    have hlen : len ≤ 140737488355328 := by
      have := hw _ (.head _)
      have h2 : elems.length * 1 ≤ ((elems.map (·.1)).length + (rest.map (·.1)).length) * P.bytesOf e := by
        simp only [List.length_map]
        exact Nat.mul_le_mul (by omega) (Nat.le_of_ble_eq_true hby)
      have h3 := reachBytes_lt
      omega
    have hone : ∀ i, i < len → ∃ cs' y, W.cells? 0 (a.add (i * P.cellsOf e)) (P.cellsOf e) = some cs' ∧ Rdc.rd (α := α) (hpW W) cs' y := by
      intro i hi
      have h1 := hat i hi
      have hi' : i < elems.length := by omega
      rw [List.getElem?_eq_getElem hi'] at h1
      obtain ⟨cs', h2, h3⟩ := Option.bind_eq_some_iff.1 h1
      obtain ⟨y, hy⟩ := hd HH enc n cs' _ h3 fun m hm => hw m (.tail _ (List.mem_append_left _ (weights_mem (List.mem_map.2 ⟨_, List.getElem_mem hi', rfl⟩) m hm)))
      exact ⟨cs', y, h2, hy⟩
    have hcells : ∀ i, i < len → ∀ cs', W.cells? 0 (a.add (i * P.cellsOf e)) (P.cellsOf e) = some cs' → ∀ (j : Nat) u, cs'[j]? = some u → W.cell? ((a.add (i * P.cellsOf e)).add j) = some u := by
      intro i hi cs' hc j u hu
      unfold World.cells? at hc
      rw [if_pos (Nat.zero_le _)] at hc
      have hl := mapM_some_length hc
      have hj : j < P.cellsOf e := by
        have := (List.getElem?_eq_some_iff.1 hu).1
        simp at hl; omega
      have := mapM_at hc j j (by simp [hj])
      rw [this, hu]
    by_cases hz : len = 0
    · subst hz; exact ⟨some a, cap, [], rfl, Nat.zero_le _, RdS.nil _ _⟩
    · obtain ⟨cs0, y0, hc0, hr0⟩ := hone 0 (by omega)
      have hspot : a.spot = none := by
        have hl0 : 0 < cs0.length := by rw [Rdc.len hr0]; exact h0
        have := hcells 0 (by omega) cs0 hc0 0 _ (List.getElem?_eq_getElem hl0)
        cases hs : a.spot with
        | none => rfl
        | some sp =>
          exfalso
          have hne : (((a.add (0 * P.cellsOf e)).add 0)).spot.isSome = true := by
            unfold Addr.add
            cases a
            simp only at hs
            subst hs
            simp
          unfold World.cell? at this
          split at this
          · rw [if_pos hne] at this; cases this
          · cases this
      obtain ⟨b, o, sp⟩ := a
      simp only at hspot
      subst hspot
      obtain ⟨xs, hxl, hxs⟩ := list_of (fun i (y : α) => ∃ cs', W.cells? 0 ((⟨b, o, none⟩ : Addr).add (i * P.cellsOf e)) (P.cellsOf e) = some cs' ∧ Rdc.rd (hpW W) cs' y ∧ i < len) len fun i hi => by
        obtain ⟨cs', y, h1, h2⟩ := hone i hi
        exact ⟨y, cs', h1, h2, hi⟩
      have hadd : ∀ (o k : Nat), (⟨b, o, none⟩ : Addr).add k = ⟨b, o + k, none⟩ := fun o k => by unfold Addr.add; split <;> simp_all
      refine ⟨some ⟨b, o, none⟩, cap, xs, by rw [hxl], by omega, by omega, .inr ⟨b, o, rfl, fun i y hy => ?_⟩⟩
      obtain ⟨cs', h1, h2, hi⟩ := hxs i y hy
      refine ⟨cs', h2, fun j u hu => ?_⟩
      have := hcells i hi cs' h1 j u hu
      rw [hadd, hadd, hsz] at this
      exact hp_cell this
end

/-! ### The types of the program -/
theorem len_list {α : Type} : ∀ {xs : List α} {n : Nat}, xs.length = n → xs = (List.range n).filterMap fun i => xs[i]? := by
  intro xs n h
  subst h
  induction xs with
  | nil => rfl
  | cons x l ih =>
    rw [List.length_cons, List.range_succ_eq_map]
    simp only [List.filterMap_cons, List.getElem?_cons_zero, List.filterMap_map, Function.comp_def, List.getElem?_cons_succ]
    rw [← ih]
theorem each3 {HH : Type} {P : Program} {a b c : Nat} {x y z : DataW HH} {Q : Nat → Prop} (h : ∀ n ∈ DataW.weightsEach P [a, b, c] [x, y, z], Q n) : (∀ n ∈ DataW.weights P a x, Q n) ∧ (∀ n ∈ DataW.weights P b y, Q n) ∧ (∀ n ∈ DataW.weights P c z, Q n) := by
  simp only [DataW.weightsEach, List.append_nil, List.mem_append] at h
  exact ⟨fun n hn => h n (.inl hn), fun n hn => h n (.inr (.inl hn)), fun n hn => h n (.inr (.inr hn))⟩
variable {W : World}
theorem dInt : Dec Tryz.prog W 3 Int := dec_int Tryz.underlying3
theorem rdInts {HH : Type} (enc : TypeId × Value → HH) (fuel : Nat) (cs : List Value) (x : DataW HH × List MemPlace) (h : DataW.trod enc Tryz.prog W 0 (fun _ => true) true fuel 22 cs = some x) (hw : ∀ n ∈ DataW.weights Tryz.prog 22 x.1, n ≤ reachBytes) :
    ∃ A c, ∃ xs : List Int, cs = [.slice A xs.length c] ∧ xs.length ≤ c ∧ RdS (hpW W) A xs := dec_slice Tryz.underlying22 (by kernel_rfl) (by decide) (by kernel_rfl) dInt HH enc fuel cs x h hw
theorem one_of {cs : List Value} {n : Nat} {v : Value} {i : Nat} (h : (cs.drop i).take n = [v]) : cs[i]? = some v := by
  have := congrArg (·[0]?) h
  simp only [List.getElem?_cons_zero, List.getElem?_take, List.getElem?_drop, Nat.add_zero] at this
  split at this
  · exact this
  · cases this
theorem list3 {cs : List Value} {a b c : Value} (hl : cs.length = 3) (h0 : cs[0]? = some a) (h1 : cs[1]? = some b) (h2 : cs[2]? = some c) : cs = [a, b, c] := by
  match cs, hl with
  | [_, _, _], _ => simp at h0 h1 h2; subst h0; subst h1; subst h2; rfl
theorem list4 {cs : List Value} {a b c d : Value} (hl : cs.length = 4) (h0 : cs[0]? = some a) (h1 : cs[1]? = some b) (h2 : cs[2]? = some c) (h3 : cs[3]? = some d) : cs = [a, b, c, d] := by
  match cs, hl with
  | [_, _, _, _], _ => simp at h0 h1 h2 h3; subst h0; subst h1; subst h2; subst h3; rfl
theorem list5 {cs : List Value} {a b c d e : Value} (hl : cs.length = 5) (h0 : cs[0]? = some a) (h1 : cs[1]? = some b) (h2 : cs[2]? = some c) (h3 : cs[3]? = some d) (h4 : cs[4]? = some e) : cs = [a, b, c, d, e] := by
  match cs, hl with
  | [_, _, _, _, _], _ => simp at h0 h1 h2 h3 h4; subst h0; subst h1; subst h2; subst h3; subst h4; rfl
theorem list6 {cs : List Value} {a b c d e f : Value} (hl : cs.length = 6) (h0 : cs[0]? = some a) (h1 : cs[1]? = some b) (h2 : cs[2]? = some c) (h3 : cs[3]? = some d) (h4 : cs[4]? = some e) (h5 : cs[5]? = some f) : cs = [a, b, c, d, e, f] := by
  match cs, hl with
  | [_, _, _, _, _, _], _ => simp at h0 h1 h2 h3 h4 h5; subst h0; subst h1; subst h2; subst h3; subst h4; subst h5; rfl
/-- A struct's fields, one by one. -/
theorem dec_fields {HH : Type} {enc : TypeId × Value → HH} {t : Nat} {fs : Array Field} (ht : Tryz.prog.underlying t = some (.struct fs)) {fuel : Nat} {cs : List Value} {x : DataW HH × List MemPlace} (h : DataW.trod enc Tryz.prog W 0 (fun _ => true) true fuel t cs = some x) (hw : ∀ n ∈ DataW.weights Tryz.prog t x.1, n ≤ reachBytes) :
    cs.length = Tryz.prog.cellsOf t ∧ ∀ (i : Nat) (f : Field), fs[i]? = some f → ∃ fuel' y, DataW.trod enc Tryz.prog W 0 (fun _ => true) true fuel' f.type ((cs.drop f.offset).take (Tryz.prog.cellsOf f.type)) = some y ∧ ∀ n ∈ DataW.weights Tryz.prog f.type y.1, n ≤ reachBytes := by
  obtain ⟨xs, n, rfl, rfl, hl, hx, hf⟩ := DataW.trod_struct ht h
  refine ⟨hl, fun i f hi => ?_⟩
  have h1 := hf i f hi
  have hi' : i < xs.length := by rw [hx]; exact (Array.getElem?_eq_some_iff.1 hi).1
  rw [List.getElem?_eq_getElem hi'] at h1
  refine ⟨n, _, h1, fun m hm => hw m ?_⟩
  simp only [DataW.weights, ht]
  have key : ∀ (ts : List Nat) (ds : List (DataW HH)) (i : Nat) (t : Nat) (d : DataW HH), ts[i]? = some t → ds[i]? = some d → ∀ m ∈ DataW.weights Tryz.prog t d, m ∈ DataW.weightsEach Tryz.prog ts ds := by
    intro ts
    induction ts with
    | nil => intro ds i t d h; simp at h
    | cons t0 ts ih =>
      intro ds i t d h1 h2 m hm
      match ds, i, h1, h2 with
      | d0 :: ds, 0, h1, h2 => simp at h1 h2; subst h1; subst h2; rw [DataW.weightsEach]; exact List.mem_append_left _ hm
      | d0 :: ds, i + 1, h1, h2 => simp at h1 h2; rw [DataW.weightsEach]; exact List.mem_append_right _ (ih ds i t d h1 h2 m hm)
      | [], _, _, h2 => simp at h2
  exact key _ _ i f.type xs[i].1 (by simp only [List.getElem?_map, Array.getElem?_toList, hi, Option.map_some]) (by simp [List.getElem?_eq_getElem hi']) m hm
theorem three_of {cs : List Value} {n : Nat} {a b c : Value} {i : Nat} (h : (cs.drop i).take n = [a, b, c]) : cs[i]? = some a ∧ cs[i + 1]? = some b ∧ cs[i + 2]? = some c := by
  have key : ∀ (j : Nat) (v : Value), ([a, b, c] : List Value)[j]? = some v → cs[i + j]? = some v := by
    intro j v hv
    rw [← h, List.getElem?_take, List.getElem?_drop] at hv
    split at hv
    · exact hv
    · cases hv
  exact ⟨key 0 a rfl, key 1 b rfl, key 2 c rfl⟩
theorem dEnd : Dec Tryz.prog W 42 EndD := fun HH enc fuel cs x h hw => by
  obtain ⟨hl, hf⟩ := dec_fields Tryz.underlying42 h hw
  have hl' : cs.length = 3 := hl.trans (by kernel_rfl)
  obtain ⟨f0, y0, t0, w0⟩ := hf 0 _ rfl
  obtain ⟨n0, e0, -, k0⟩ := DataW.trod_int Tryz.underlying3 t0
  have c0 := one_of e0
  obtain ⟨f1, y1, t1, w1⟩ := hf 1 _ rfl
  obtain ⟨n1, e1, -, k1⟩ := DataW.trod_int Tryz.underlying3 t1
  have c1 := one_of e1
  obtain ⟨f2, y2, t2, w2⟩ := hf 2 _ rfl
  obtain ⟨A2, d2, xs2, e2, hc2, hr2⟩ := rdInts enc f2 _ y2 t2 w2
  have c2 := one_of e2
  exact ⟨⟨n0, n1, xs2⟩, A2, d2, list3 hl' c0 c1 c2, hc2, hr2, wf64 k0, wf64 k1⟩
theorem dPhi : Dec Tryz.prog W 51 PhiD := fun HH enc fuel cs x h hw => by
  obtain ⟨hl, hf⟩ := dec_fields Tryz.underlying51 h hw
  have hl' : cs.length = 4 := hl.trans (by kernel_rfl)
  obtain ⟨f0, y0, t0, w0⟩ := hf 0 _ rfl
  obtain ⟨n0, e0, -, k0⟩ := DataW.trod_int Tryz.underlying3 t0
  have c0 := one_of e0
  obtain ⟨f1, y1, t1, w1⟩ := hf 1 _ rfl
  obtain ⟨n1, e1, -, k1⟩ := DataW.trod_int Tryz.underlying3 t1
  have c1 := one_of e1
  obtain ⟨f2, y2, t2, w2⟩ := hf 2 _ rfl
  obtain ⟨A2, d2, xs2, e2, hc2, hr2⟩ := rdInts enc f2 _ y2 t2 w2
  have c2 := one_of e2
  obtain ⟨f3, y3, t3, w3⟩ := hf 3 _ rfl
  obtain ⟨A3, d3, xs3, e3, hc3, hr3⟩ := rdInts enc f3 _ y3 t3 w3
  have c3 := one_of e3
  exact ⟨⟨n0, n1, xs2, xs3⟩, A2, d2, A3, d3, list4 hl' c0 c1 c2 c3, hc2, hr2, hc3, hr3, wf64 k0, wf64 k1⟩
theorem dOp : Dec Tryz.prog W 47 OpD := fun HH enc fuel cs x h hw => by
  obtain ⟨hl, hf⟩ := dec_fields Tryz.underlying47 h hw
  have hl' : cs.length = 6 := hl.trans (by kernel_rfl)
  obtain ⟨f0, y0, t0, w0⟩ := hf 0 _ rfl
  obtain ⟨n0, e0, -, k0⟩ := DataW.trod_int Tryz.underlying3 t0
  have c0 := one_of e0
  obtain ⟨f1, y1, t1, w1⟩ := hf 1 _ rfl
  obtain ⟨n1, e1, -, k1⟩ := DataW.trod_int Tryz.underlying3 t1
  have c1 := one_of e1
  obtain ⟨f2, y2, t2, w2⟩ := hf 2 _ rfl
  obtain ⟨n2, e2, -, k2⟩ := DataW.trod_int Tryz.underlying3 t2
  have c2 := one_of e2
  obtain ⟨f3, y3, t3, w3⟩ := hf 3 _ rfl
  obtain ⟨n3, e3, -, k3⟩ := DataW.trod_int Tryz.underlying3 t3
  have c3 := one_of e3
  obtain ⟨f4, y4, t4, w4⟩ := hf 4 _ rfl
  obtain ⟨A4, d4, xs4, e4, hc4, hr4⟩ := rdInts enc f4 _ y4 t4 w4
  have c4 := one_of e4
  obtain ⟨f5, y5, t5, w5⟩ := hf 5 _ rfl
  obtain ⟨n5, e5, -, k5⟩ := DataW.trod_int Tryz.underlying45 t5
  have c5 := one_of e5
  exact ⟨⟨n0, n1, n2, n3, xs4, n5⟩, A4, d4, list6 hl' c0 c1 c2 c3 c4 c5, hc4, hr4, wf64 k0, wf64 k1, wf64 k2, wf64 k3, wfu64 k5⟩
theorem rdPhis {HH : Type} (enc : TypeId × Value → HH) (fuel : Nat) (cs : List Value) (x : DataW HH × List MemPlace) (h : DataW.trod enc Tryz.prog W 0 (fun _ => true) true fuel 39 cs = some x) (hw : ∀ n ∈ DataW.weights Tryz.prog 39 x.1, n ≤ reachBytes) :
    ∃ A c, ∃ xs : List PhiD, cs = [.slice A xs.length c] ∧ xs.length ≤ c ∧ RdS (hpW W) A xs := dec_slice Tryz.underlying39 (by kernel_rfl) (by decide) (by kernel_rfl) dPhi HH enc fuel cs x h hw
theorem rdOps {HH : Type} (enc : TypeId × Value → HH) (fuel : Nat) (cs : List Value) (x : DataW HH × List MemPlace) (h : DataW.trod enc Tryz.prog W 0 (fun _ => true) true fuel 40 cs = some x) (hw : ∀ n ∈ DataW.weights Tryz.prog 40 x.1, n ≤ reachBytes) :
    ∃ A c, ∃ xs : List OpD, cs = [.slice A xs.length c] ∧ xs.length ≤ c ∧ RdS (hpW W) A xs := dec_slice Tryz.underlying40 (by kernel_rfl) (by decide) (by kernel_rfl) dOp HH enc fuel cs x h hw
theorem dBlock : Dec Tryz.prog W 44 BlockD := fun HH enc fuel cs x h hw => by
  obtain ⟨hl, hf⟩ := dec_fields Tryz.underlying44 h hw
  have hl' : cs.length = 5 := hl.trans (by kernel_rfl)
  obtain ⟨f0, y0, t0, w0⟩ := hf 0 _ rfl
  obtain ⟨A0, d0, xs0, e0, hc0, hr0⟩ := rdPhis enc f0 _ y0 t0 w0
  have c0 := one_of e0
  obtain ⟨f1, y1, t1, w1⟩ := hf 1 _ rfl
  obtain ⟨A1, d1, xs1, e1, hc1, hr1⟩ := rdOps enc f1 _ y1 t1 w1
  have c1 := one_of e1
  obtain ⟨f2, y2, t2, w2⟩ := hf 2 _ rfl
  obtain ⟨z2, A2, d2, e2, hc2, hr2, ka2, kb2⟩ := dEnd HH enc f2 _ y2 t2 w2
  obtain ⟨c2, c3, c4⟩ := three_of e2
  exact ⟨⟨xs0, xs1, z2⟩, A0, d0, A1, d1, A2, d2, list5 hl' c0 c1 c2 c3 c4, hc0, hr0, hc1, hr1, hc2, hr2, ka2, kb2⟩
theorem rdBlocks {HH : Type} (enc : TypeId × Value → HH) (fuel : Nat) (cs : List Value) (x : DataW HH × List MemPlace) (h : DataW.trod enc Tryz.prog W 0 (fun _ => true) true fuel 23 cs = some x) (hw : ∀ n ∈ DataW.weights Tryz.prog 23 x.1, n ≤ reachBytes) :
    ∃ A c, ∃ xs : List BlockD, cs = [.slice A xs.length c] ∧ xs.length ≤ c ∧ RdS (hpW W) A xs := dec_slice Tryz.underlying23 (by kernel_rfl) (by decide) (by kernel_rfl) dBlock HH enc fuel cs x h hw
theorem dFunc : Dec Tryz.prog W 25 FuncD := fun HH enc fuel cs x h hw => by
  obtain ⟨hl, hf⟩ := dec_fields Tryz.underlying25 h hw
  have hl' : cs.length = 3 := hl.trans (by kernel_rfl)
  obtain ⟨f0, y0, t0, w0⟩ := hf 0 _ rfl
  obtain ⟨A0, d0, xs0, e0, hc0, hr0⟩ := rdInts enc f0 _ y0 t0 w0
  have c0 := one_of e0
  obtain ⟨f1, y1, t1, w1⟩ := hf 1 _ rfl
  obtain ⟨n1, e1, -, k1⟩ := DataW.trod_int Tryz.underlying3 t1
  have c1 := one_of e1
  obtain ⟨f2, y2, t2, w2⟩ := hf 2 _ rfl
  obtain ⟨A2, d2, xs2, e2, hc2, hr2⟩ := rdBlocks enc f2 _ y2 t2 w2
  have c2 := one_of e2
  exact ⟨⟨xs0, n1, xs2⟩, A0, d0, A2, d2, list3 hl' c0 c1 c2, hc0, hr0, hc2, hr2, wf64 k1⟩

/-! ### What a row says of a law that is true -/
section
variable {HH : Type} {enc : TypeId × Value → HH} {P : Program}
theorem trodAll_below (hl : laidOutB P = true) {W W' : World} (hb : Below W.heap.size W W') : ∀ {ts : List Nat} {vs : List Value} {ds : List (DataW HH)} {ps : List MemPlace}, (ts.all fun t => P.readableRec t && Nat.blt t P.types.size) = true → (∀ x ∈ ps, x.block < W.heap.size) →
    DataW.TrodAll enc P W 0 (fun _ => true) true ts vs ds ps → DataW.TrodAll enc P W' 0 (fun b => decide (b < W.heap.size)) true ts vs ds ps
  | [], [], [], _, _, _, h => h
  | [], [], _ :: _, _, _, _, h => h.elim
  | [], _ :: _, _, _, _, _, h => h.elim
  | _ :: _, [], _, _, _, _, h => h.elim
  | _ :: _, _ :: _, [], _, _, _, h => h.elim
  | t :: ts, v :: vs, d :: ds, ps, ht, hlt, ⟨p, q, h1, h2, e⟩ => by
    simp only [List.all_cons, Bool.and_eq_true] at ht
    refine ⟨p, q, ?_, ?_, e⟩
    · exact Below.trod hl ht.1.1 (by simpa [Nat.blt_eq] using ht.1.2) h1 hb fun x hx => hlt x (by rw [e]; exact List.mem_append_left _ hx)
    · exact trodAll_below hl hb ht.2 (fun x hx => hlt x (by rw [e]; exact List.mem_append_right _ hx)) h2
theorem post_true {f : Func} {s : ChangeSpec} {W W' : World} {args : Array Value} {ds gs : List (DataW HH)} {before : List MemPlace} (hW : DataW.Whole enc P f.params.toList s.vars false W args.toList ds gs before)
    (hv : s.vars = []) (hl : laidOutB P = true) (hpar : (f.params.toList.all fun t => P.readableRec t && Nat.blt t P.types.size) = true) {bt : Nat} (hbt : P.underlying bt = some .bool) (hres : f.resultTypes = #[bt])
    (hs : s.fn HH (ds ++ gs) = { results := [.lit (.bool true)], args := ds }) (hb : Below W.heap.size W W') : s.post enc P f false true false false W args (.bool true) W' := by
  have hlt := fun x hx => hW.lt x hx
  have hW2 := hW
  obtain ⟨p, q, hA, hV, rfl, _, _⟩ := hW
  rw [hv] at hV
  obtain ⟨rfl, rfl⟩ := trodVars_none hV
  refine ⟨ds, [], p ++ [], [], p, [], hW2, ?_, ?_, ?_, ?_, fun h => by cases h⟩
  · rw [hs, hres]
    exact trodAll_mk1 (shut_bool hbt true)
  · rw [hs]
    exact trodAll_below hl hb hpar (fun x hx => hlt x (by simpa using hx)) hA
  · rw [hs, hv]; rfl
  · exact hb.frame _
end
theorem law_calls {g : Nat} {args : List Value} {W : World} (h : CallG Tryz.prog g args (hpW W) [] fun v _ L' => v = .bool true ∧ L' = []) : Calls Tryz.prog g args.toArray W fun e W' => e = .returned (.bool true) ∧ Below W.heap.size W W' :=
  (h.2 W (pre_all W)).mono fun _ _ ⟨_, _, _, he, hs, hv, _⟩ => ⟨by rw [he, hv], hs.chg.below⟩
theorem own : ownKnob Tryz.prog.godebug = none := by kernel_rfl
theorem laidOut : laidOutB Tryz.prog = true := by kernel_rfl
theorem okWide_agg {P : Program} {t : Nat} {fs : Array Field} {base : Nat} {v : Value} (ht : P.underlying t = some (.struct fs)) (h : Value.okWide P W .any base t v) : ∃ cs, v = .agg cs ∧ cs.size = P.cellsOf t := by
  unfold Value.okWide at h
  rw [ht] at h
  obtain ⟨cs, h1, h2, _⟩ := h
  exact ⟨cs, h1, h2⟩
theorem weights_one {HH : Type} {P : Program} {t : Nat} {ts : List Nat} {d : DataW HH} {ds : List (DataW HH)} (h : (DataW.weightsEach P (t :: ts) (d :: ds)).all (fun x => decide (x ≤ reachBytes)) = true) : ∀ n ∈ DataW.weights P t d, n ≤ reachBytes := fun n hn => by
  have := List.all_eq_true.1 h n (by rw [DataW.weightsEach]; exact List.mem_append_left _ hn)
  simpa using this
end Go.Proofs.YtdjemlkllbhdlaaGreat

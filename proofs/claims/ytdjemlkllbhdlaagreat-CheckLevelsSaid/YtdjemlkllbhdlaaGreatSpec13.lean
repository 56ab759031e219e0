/- The greatest number; the shapes as a map. -/
import Derived.Test.YtdjemlkllbhdlaaGreatT17
set_option linter.unusedVariables false
set_option linter.unusedSimpArgs false
namespace Go.Proofs.YtdjemlkllbhdlaaGreat
open Go Go.RowKit

theorem nodup_le13 : ∀ (l m : List Nat), l.Nodup → (∀ x ∈ l, x ∈ m) → l.length ≤ m.length
  | [], _, _, _ => Nat.zero_le _
  | a :: l, m, h, hs => by
    have hn := List.nodup_cons.1 h
    have ha := hs a (.head _)
    have := nodup_le13 l (m.erase a) hn.2 (fun x hx => (List.mem_erase_of_ne (by rintro rfl; exact hn.1 hx)).2 (hs x (.tail _ hx)))
    have hl := List.length_erase_of_mem ha
    have hp : 0 < m.length := List.length_pos_of_mem ha
    simp only [List.length_cons]; omega
def mx (x y : Int) : Int := if y > x then y else x
def lastB (out : Int) (b : BlockD) : Int := (b.ops.map (·.dst)).foldl mx ((b.phis.map (·.dst)).foldl mx out)
def lastD (f : FuncD) : Int := f.blocks.foldl lastB f.params.length
theorem foldl_step {α β : Type} [Inhabited α] {g : β → α → β} {l : List α} {i : Int} {x : α} {n : β} (h0 : 0 ≤ i) (h1 : i < l.length) (hx : x = nth l i) : (l.drop i.toNat).foldl g n = (l.drop (i + 1).toNat).foldl g (g n x) := by
  rw [drop_nth h0 h1, ← hx, toNat_succ h0]; rfl
theorem foldm_step {α : Type} [Inhabited α] {g : α → Int} {l : List α} {i : Int} {x : α} {n : Int} (h0 : 0 ≤ i) (h1 : i < l.length) (hx : x = nth l i) : ((l.drop i.toNat).map g).foldl mx n = ((l.drop (i + 1).toNat).map g).foldl mx (mx n (g x)) := by
  rw [drop_nth h0 h1, ← hx, toNat_succ h0]; rfl
def CheckIs (f : FuncD) (lv e : Int) : Prop := if lv < 0 ∨ lv > 2 then e = 1 else CodeIs f lv e
theorem check_out {f : FuncD} {lv : Int} (h : lv < 0 ∨ lv > 2) : CheckIs f lv 1 := by unfold CheckIs; rw [if_pos h]
theorem check_in {f : FuncD} {lv e : Int} (h0 : ¬ lv < 0) (h1 : ¬ lv > 2) (h : CodeIs f lv e) : CheckIs f lv e := by unfold CheckIs; rw [if_neg (by omega)]; exact h

def keysOf {α : Type} (ms : List (Int × α)) : List Int := ms.map (·.1)
theorem mput_keys {α : Type} : ∀ (ms : List (Int × α)) (k : Int) (v : α), (keysOf ms).Nodup → (keysOf (mput ms k v)).Nodup ∧ ∀ q, q ∈ keysOf (mput ms k v) ↔ q = k ∨ q ∈ keysOf ms
  | [], k, v, _ => by simp [mput, keysOf]
  | (a, x) :: l, k, v, h => by
    simp only [keysOf, List.map_cons, List.nodup_cons] at h
    by_cases e : a = k
    · subst e
      simp only [mput, if_true, keysOf, List.map_cons, List.nodup_cons, List.mem_cons]
      exact ⟨h, fun q => by constructor <;> intro hq <;> simp_all⟩
    · obtain ⟨h1, h2⟩ := mput_keys l k v h.2
      simp only [mput, if_neg e, keysOf, List.map_cons, List.nodup_cons, List.mem_cons]
      refine ⟨⟨fun hm => ?_, h1⟩, fun q => ?_⟩
      · rcases (h2 a).1 hm with h3 | h3
        · exact e h3
        · exact h.1 h3
      · have := h2 q
        simp only [keysOf] at this
        rw [this]
        constructor <;> intro hq <;> rcases hq with hq | hq | hq <;> simp [hq]
theorem mget_mput {α : Type} : ∀ (ms : List (Int × α)) (k v : Int) (d : α), mget (mput ms k d) v = if v = k then some d else mget ms v
  | [], k, v, d => by
    by_cases e : v = k
    · subst e; simp [mput, mget]
    · simp [mput, mget, Ne.symm e, e]
  | (a, x) :: l, k, v, d => by
    by_cases e1 : a = k
    · subst e1
      by_cases e : v = a
      · subst e; simp [mput, mget]
      · simp [mput, mget, Ne.symm e, e]
    · by_cases e : v = a
      · subst e; simp [mput, mget, e1]
      · simp [mput, mget, e1, Ne.symm e, mget_mput l k v d]
theorem mget_none {α : Type} : ∀ {ms : List (Int × α)} {k : Int}, mget ms k = none ↔ k ∉ keysOf ms
  | [], k => by simp [mget, keysOf]
  | (a, x) :: l, k => by
    by_cases e : a = k
    · subst e; simp [mget, keysOf]
    · have := mget_none (ms := l) (k := k)
      simp only [keysOf] at this
      simp [mget, e, keysOf, this, Ne.symm e]
theorem mput_new {α : Type} {ms : List (Int × α)} {k : Int} (v : α) (h : k ∉ keysOf ms) : (mput ms k v).length = ms.length + 1 := by
  rcases mput_len k v ms with h1 | h1
  · rw [h1]; simp
  · exfalso
    have : ∀ ms : List (Int × α), k ∉ keysOf ms → mput ms k v = ms ++ [(k, v)] := by
      intro ms
      induction ms with
      | nil => intro _; rfl
      | cons a l ih =>
        intro h
        obtain ⟨a, x⟩ := a
        simp only [keysOf, List.map_cons, List.mem_cons, not_or] at h
        simp only [mput, if_neg (Ne.symm h.1), List.cons_append, ih h.2]
    rw [this ms h] at h1
    simp at h1
theorem mget_at {α : Type} : ∀ {ms : List (Int × α)} {j : Nat} {k : Int} {d : α}, (keysOf ms).Nodup → ms[j]? = some (k, d) → mget ms k = some d
  | [], _, _, _, _, h => by simp at h
  | (a, x) :: l, 0, k, d, _, h => by simp at h; obtain ⟨rfl, rfl⟩ := h; simp [mget]
  | (a, x) :: l, j + 1, k, d, hn, h => by
    simp only [keysOf, List.map_cons, List.nodup_cons] at hn
    have h' : l[j]? = some (k, d) := by simpa using h
    have hne : a ≠ k := fun e => hn.1 (e ▸ List.mem_map.2 ⟨(k, d), List.mem_of_getElem? h', rfl⟩)
    simp only [mget, if_neg hne]
    exact mget_at hn.2 h'
theorem keys_par : ∀ (l : List Int) (ms : List (Int × DefD)) (i : Int), (keysOf ms).Nodup → (keysOf (parPuts ms i l)).Nodup
  | [], _, _, h => h
  | _ :: l, ms, i, h => keys_par l _ _ (mput_keys ms _ _ h).1
theorem keys_all : ∀ (l : List PutD) (ms ms' : List (Int × DefD)), (keysOf ms).Nodup → putAll ms l = some ms' → (keysOf ms').Nodup
  | [], ms, ms', h, e => by simp only [putAll, Option.some.injEq] at e; exact e ▸ h
  | p :: l, ms, ms', h, e => by
    simp only [putAll] at e
    split at e
    · cases e
    · exact keys_all l _ ms' (mput_keys ms _ _ h).1 e
theorem defs_keys {f : FuncD} {ms : List (Int × DefD)} (h : defsD f = some ms) : (keysOf ms).Nodup := keys_all _ _ _ (keys_par _ _ _ (by simp [keysOf])) h
/-- What has come of a map: of these places. -/
def picks (ms : List (Int × DefD)) (seen : List Nat) : List (Int × (Int × Int)) := seen.foldl (fun s j => match ms[j]? with | some p => mput s p.1 (p.2.bits, p.2.lanes) | none => s) []
theorem picks_snoc {ms : List (Int × DefD)} {seen : List Nat} {j : Nat} {k : Int} {d : DefD} (h : ms[j]? = some (k, d)) : picks ms (seen ++ [j]) = mput (picks ms seen) k (d.bits, d.lanes) := by
  unfold picks; rw [List.foldl_append]; simp [h]
def Seen (ms : List (Int × DefD)) (seen : List Nat) (ss : List (Int × (Int × Int))) : Prop :=
  seen.Nodup ∧ (∀ j ∈ seen, j < ms.length) ∧ ss.length = seen.length ∧ (keysOf ss).Nodup ∧ (∀ k, k ∈ keysOf ss ↔ ∃ j ∈ seen, ∃ d, ms[j]? = some (k, d)) ∧ ∀ j ∈ seen, ∀ k d, ms[j]? = some (k, d) → mget ss k = some (d.bits, d.lanes)
theorem Seen.start (ms : List (Int × DefD)) : Seen ms [] [] := ⟨List.nodup_nil, by simp, rfl, List.nodup_nil, by simp [keysOf], by simp⟩
theorem at_inj {ms : List (Int × DefD)} (hn : (keysOf ms).Nodup) {i j : Nat} {k : Int} {d d' : DefD} (h : ms[i]? = some (k, d)) (h' : ms[j]? = some (k, d')) : i = j := by
  have h1 : (keysOf ms)[i]? = some k := by simp [keysOf, h]
  have h2 : (keysOf ms)[j]? = some k := by simp [keysOf, h']
  obtain ⟨hi, e1⟩ := List.getElem?_eq_some_iff.1 h1
  obtain ⟨hj, e2⟩ := List.getElem?_eq_some_iff.1 h2
  exact (List.getElem_inj hn).1 (e1.trans e2.symm)
theorem Seen.step {ms : List (Int × DefD)} {seen : List Nat} {ss : List (Int × (Int × Int))} (h : Seen ms seen ss) (hn : (keysOf ms).Nodup) {j : Nat} {k : Int} {d : DefD} (hj : ms[j]? = some (k, d)) (hns : j ∉ seen) : Seen ms (seen ++ [j]) (mput ss k (d.bits, d.lanes)) := by
  obtain ⟨a1, a2, a3, a4, a5, a6⟩ := h
  have hk : k ∉ keysOf ss := fun hm => by
    obtain ⟨i, hi, d', hd'⟩ := (a5 k).1 hm
    exact hns (at_inj hn hj hd' ▸ hi)
  obtain ⟨b1, b2⟩ := mput_keys ss k (d.bits, d.lanes) a4
  refine ⟨List.nodup_append.2 ⟨a1, by simp, fun x hx y hy e => ?_⟩, fun i hi => ?_, ?_, b1, fun q => ?_, fun i hi q d' hq => ?_⟩
  · simp at hy; subst hy; subst e; exact hns hx
  · rcases List.mem_append.1 hi with hi | hi
    · exact a2 i hi
    · simp at hi; subst hi; exact (List.getElem?_eq_some_iff.1 hj).1
  · rw [mput_new _ hk, a3]; simp
  · rw [b2 q, a5 q]
    constructor
    · rintro (rfl | ⟨i, hi, d', hd'⟩)
      · exact ⟨j, by simp, d, hj⟩
      · exact ⟨i, List.mem_append_left _ hi, d', hd'⟩
    · rintro ⟨i, hi, d', hd'⟩
      rcases List.mem_append.1 hi with hi | hi
      · exact .inr ⟨i, hi, d', hd'⟩
      · simp at hi; subst hi
        rw [hj] at hd'
        simp only [Option.some.injEq, Prod.mk.injEq] at hd'
        exact .inl hd'.1.symm
  · rw [mget_mput]
    rcases List.mem_append.1 hi with hi | hi
    · by_cases e : q = k
      · subst e; exact absurd (at_inj hn hj hq ▸ hi) hns
      · rw [if_neg e]; exact a6 i hi q d' hq
    · simp at hi; subst hi
      rw [hj] at hq
      simp only [Option.some.injEq, Prod.mk.injEq] at hq
      obtain ⟨rfl, rfl⟩ := hq
      rw [if_pos rfl]
theorem Seen.lt {ms : List (Int × DefD)} {seen : List Nat} {ss : List (Int × (Int × Int))} (h : Seen ms seen ss) : seen.length ≤ ms.length := by
  have h1 := h.1
  have h2 := h.2.1
  have := nodup_le13 seen (List.range ms.length) h1 fun j hj => List.mem_range.2 (h2 j hj)
  simpa using this
def ShapeMap (ms : List (Int × DefD)) (ss : List (Int × (Int × Int))) : Prop := ss.length = ms.length ∧ ∀ k, mget ss k = (mget ms k).map fun d => (d.bits, d.lanes)
theorem Seen.all {ms : List (Int × DefD)} {seen : List Nat} {ss : List (Int × (Int × Int))} (h : Seen ms seen ss) (hn : (keysOf ms).Nodup) (ha : ∀ j, j < (encm dv ms).length → j ∈ seen) : ShapeMap ms ss := by
  rw [encm_len] at ha
  obtain ⟨a1, a2, a3, a4, a5, a6⟩ := h
  have hle : ms.length ≤ seen.length := by
    have := nodup_le13 (List.range ms.length) seen List.nodup_range fun j hj => ha j (List.mem_range.1 hj)
    simpa using this
  have hge := Seen.lt ⟨a1, a2, a3, a4, a5, a6⟩
  refine ⟨by omega, fun k => ?_⟩
  cases hm : mget ms k with
  | none =>
    rw [Option.map_none, mget_none]
    intro hk
    obtain ⟨j, _, d, hd⟩ := (a5 k).1 hk
    have := mget_at hn hd
    rw [hm] at this; cases this
  | some d =>
    have hk : k ∈ keysOf ms := Classical.byContradiction fun hn' => by rw [mget_none.2 hn'] at hm; cases hm
    obtain ⟨p, hp, rfl⟩ := List.mem_map.1 hk
    obtain ⟨j, hj, e⟩ := List.getElem_of_mem hp
    have hat : ms[j]? = some (p.1, p.2) := by rw [List.getElem?_eq_getElem hj, e]
    have := mget_at hn hat
    rw [hm] at this
    cases this
    exact a6 j (ha j hj) _ _ hat
theorem encm_at {α : Type} {enc : α → Value} {ms : List (Int × α)} {j : Nat} {k : Int} {v : Value} (h : (encm enc ms)[j]? = some (k, v)) : ∃ d, ms[j]? = some (k, d) ∧ v = enc d := by
  unfold encm at h
  rw [List.getElem?_map] at h
  cases hm : ms[j]? with
  | none => rw [hm] at h; cases h
  | some p =>
    rw [hm] at h
    simp only [Option.map_some, Option.some.injEq, Prod.mk.injEq] at h
    exact ⟨p.2, by rw [← h.1], h.2.symm⟩
end Go.Proofs.YtdjemlkllbhdlaaGreat

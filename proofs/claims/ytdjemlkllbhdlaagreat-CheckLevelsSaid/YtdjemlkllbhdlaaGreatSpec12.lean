/- What is wrong with a function. -/
import Derived.Test.YtdjemlkllbhdlaaGreatT16
namespace Go.Proofs.YtdjemlkllbhdlaaGreat
open Go Go.RowKit

theorem RchN.ne {succ : List (List Int)} {root no x : Int} (h : RchN succ root no x) : x ≠ no := by
  cases h with
  | root h => exact h
  | step _ _ h => exact h
/-- On the way to x either both p and q are missed, or one of them is met ahead of the other. -/
theorem RchN.either {succ : List (List Int)} {root p q x : Int} (hpq : p ≠ q) (h : RchN succ root (-1) x) : (RchN succ root p x ∧ RchN succ root q x) ∨ RchN succ root q p ∨ RchN succ root p q := by
  induction h with
  | root _ =>
    by_cases e : root = p
    · subst e; exact .inr (.inl (.root hpq))
    · by_cases e2 : root = q
      · subst e2; exact .inr (.inr (.root e))
      · exact .inl ⟨.root e, .root e2⟩
  | @step y x _ hx _ ih =>
    rcases ih with ⟨h1, h2⟩ | h
    · by_cases e : x = p
      · subst e; exact .inr (.inl (.step h2 hx hpq))
      · by_cases e2 : x = q
        · subst e2; exact .inr (.inr (.step h1 hx e))
        · exact .inl ⟨.step h1 hx e, .step h2 hx e2⟩
    · exact .inr h
theorem TreeP.unique {succ : List (List Int)} {root : Int} {t1 t2 : List Int} (h1 : TreeP succ root t1) (h2 : TreeP succ root t2) : t1 = t2 := by
  refine nth_ext (h1.len.trans h2.len.symm) fun k k0 k1 => ?_
  rw [h1.len] at k1
  by_cases hr : RchN succ root (-1) k
  · by_cases e : k = root
    · subst e; rw [h1.top, h2.top]
    · obtain ⟨a1, a2, a3⟩ := h1.up k hr e
      obtain ⟨b1, b2, b3⟩ := h2.up k hr e
      apply Classical.byContradiction
      intro hne
      have n1 : nth t1 k ≠ k := a2.ne
      have n2 : nth t2 k ≠ k := b2.ne
      have c1 : ¬ RchN succ root (nth t1 k) (nth t2 k) := fun h => by
        have := (b3 _ n1).2 h
        exact ((a3 _ n1).1 this).ne rfl
      have c2 : ¬ RchN succ root (nth t2 k) (nth t1 k) := fun h => by
        have := (a3 _ n2).2 h
        exact ((b3 _ n2).1 this).ne rfl
      rcases RchN.either hne a1 with ⟨h, _⟩ | h | h
      · exact h.ne rfl
      · exact c2 h
      · exact c1 h
  · rw [h1.none_ k k0 k1 hr, h2.none_ k k0 k1 hr]

def codeOf (f : FuncD) (lv : Int) (tl : List Int) : Int :=
  if mayF f = false then 4 else if (ofD f).2 ≠ 0 then 5 else if shapeW f tl = false then 5 else if typedD f lv = false then 6 else
  match defsD f with
  | none => 7
  | some ms => if firstA (askDef ms) (asksF f) ≠ 0 then firstA (askDef ms) (asksF f) else if firstA (askShape ms) (asksF f) ≠ 0 then firstA (askShape ms) (asksF f) else firstA (askPlace ms tl) (asksF f)
def TreeGood (f : FuncD) (tl : List Int) : Prop := mayF f = true → (ofD f).2 = 0 → TreeP (ofD f).1.succ 0 tl
def CodeIs (f : FuncD) (lv e : Int) : Prop := ∃ tl, TreeGood f tl ∧ e = codeOf f lv tl
theorem CodeIs.same {f : FuncD} {lv e e' : Int} (h : CodeIs f lv e) (h' : CodeIs f lv e') : e = e' := by
  obtain ⟨tl, g, rfl⟩ := h
  obtain ⟨tl', g', rfl⟩ := h'
  by_cases h1 : mayF f = true
  · by_cases h2 : (ofD f).2 = 0
    · rw [(g h1 h2).unique (g' h1 h2)]
    · unfold codeOf; rw [if_neg (by rw [h1]; simp), if_pos h2, if_neg (by rw [h1]; simp), if_pos h2]
  · have h1' : mayF f = false := by simpa using h1
    unfold codeOf; rw [if_pos h1', if_pos h1']
theorem code4 {f : FuncD} {lv : Int} (h' : mayF f = false) : CodeIs f lv 4 := by
  exact ⟨[], (fun h2 => by rw [h'] at h2; cases h2), by unfold codeOf; rw [if_pos h']⟩
theorem code5 {f : FuncD} {lv : Int} (h : mayF f = true) (h2 : (ofD f).2 ≠ 0) : CodeIs f lv 5 :=
  ⟨[], fun _ h3 => absurd h3 h2, by unfold codeOf; rw [if_neg (by rw [h]; simp), if_pos h2]⟩
theorem code5' {f : FuncD} {lv : Int} {tl : List Int} (h : mayF f = true) (h2 : (ofD f).2 = 0) (ht : TreeP (ofD f).1.succ 0 tl) (h3 : shapeW f tl = false) : CodeIs f lv 5 :=
  ⟨tl, fun _ _ => ht, by unfold codeOf; rw [if_neg (by rw [h]; simp), if_neg (by simp [h2]), if_pos h3]⟩
theorem code6 {f : FuncD} {lv : Int} {tl : List Int} (h : mayF f = true) (h2 : (ofD f).2 = 0) (ht : TreeP (ofD f).1.succ 0 tl) (h3 : shapeW f tl = true) (h4 : (if typedD f lv = true then (0 : Int) else 6) ≠ 0) : CodeIs f lv (if typedD f lv = true then 0 else 6) := by
  have h4' : typedD f lv = false := by
    cases h : typedD f lv with
    | false => rfl
    | true => rw [h] at h4; simp at h4
  refine ⟨tl, fun _ _ => ht, ?_⟩
  have e : (if typedD f lv = true then (0 : Int) else 6) = 6 := by rw [h4']; rfl
  have e2 : codeOf f lv tl = 6 := by unfold codeOf; rw [if_neg (by rw [h]; simp), if_neg (by simp [h2]), if_neg (by simp [h3]), if_pos h4']
  rw [e, e2]
theorem typed_of {f : FuncD} {lv : Int} (h4 : (if typedD f lv = true then (0 : Int) else 6) = 0) : typedD f lv = true := by
  cases h : typedD f lv with
  | true => rfl
  | false => rw [h] at h4; simp at h4
theorem code7 {f : FuncD} {lv : Int} {tl : List Int} (h : mayF f = true) (h2 : (ofD f).2 = 0) (ht : TreeP (ofD f).1.succ 0 tl) (h3 : shapeW f tl = true) (h4 : (if typedD f lv = true then (0 : Int) else 6) = 0) (h5 : defsD f = none) : CodeIs f lv 7 := by
  refine ⟨tl, fun _ _ => ht, ?_⟩
  unfold codeOf; rw [if_neg (by rw [h]; simp), if_neg (by simp [h2]), if_neg (by simp [h3]), if_neg (by simp [typed_of h4]), h5]
theorem code_ms {f : FuncD} {lv : Int} {tl : List Int} {ms : List (Int × DefD)} {e : Int} (h : mayF f = true) (h2 : (ofD f).2 = 0) (ht : TreeP (ofD f).1.succ 0 tl) (h3 : shapeW f tl = true) (h4 : (if typedD f lv = true then (0 : Int) else 6) = 0) (h5 : defsD f = some ms)
    (he : e = if firstA (askDef ms) (asksF f) ≠ 0 then firstA (askDef ms) (asksF f) else if firstA (askShape ms) (asksF f) ≠ 0 then firstA (askShape ms) (asksF f) else firstA (askPlace ms tl) (asksF f)) : CodeIs f lv e := by
  refine ⟨tl, fun _ _ => ht, ?_⟩
  unfold codeOf; rw [if_neg (by rw [h]; simp), if_neg (by simp [h2]), if_neg (by simp [h3]), if_neg (by simp [typed_of h4]), h5, he]
/-- What fits has as many arguments as places that it comes from. -/
theorem shape_phis {f : FuncD} {tl : List Int} (h : shapeW f tl = true) : ∀ x ∈ f.blocks, ∀ p ∈ x.phis, p.args.length = p.frm.length := by
  have key : ∀ (bs : List BlockD) (g : GraphD) (i : Int), fitFrom g tl i bs = true → ∀ x ∈ bs, ∀ p ∈ x.phis, p.args.length = p.frm.length := by
    intro bs
    induction bs with
    | nil => intro g i _ x hx; cases hx
    | cons b l ih =>
      intro g i h x hx p hp
      simp only [fitFrom, Bool.and_eq_true] at h
      rcases List.mem_cons.1 hx with rfl | hx
      · have h1 := h.1
        unfold blkFit at h1
        simp only [Bool.and_eq_true] at h1
        have h2 := List.all_eq_true.1 h1.2.1 p hp
        unfold phiFit at h2
        simp only [Bool.and_eq_true, beq_iff_eq] at h2
        omega
      · exact ih g (i + 1) h.2 x hx p hp
  exact key f.blocks _ 0 h
/-! ### The numbers of blocks are small -/
theorem small_put {ms : List (Int × DefD)} {k : Int} {d : DefD} (h : Small64 ms) (hd : I64 d.blk) : Small64 (mput ms k d) := by
  have key : ∀ (ms : List (Int × DefD)) (v : Int), mget (mput ms k d) v = if v = k then some d else mget ms v := by
    intro ms
    induction ms with
    | nil => intro v; by_cases e : v = k
             · subst e; simp [mput, mget]
             · simp [mput, mget, Ne.symm e, e]
    | cons a l ih =>
      obtain ⟨a, x⟩ := a
      intro v
      by_cases e1 : a = k
      · subst e1
        by_cases e : v = a
        · subst e; simp [mput, mget]
        · simp [mput, mget, Ne.symm e, e]
      · by_cases e : v = a
        · subst e; simp [mput, mget, e1]
        · simp [mput, mget, e1, Ne.symm e, ih v]
  intro v
  rw [key]
  by_cases e : v = k
  · rw [if_pos e]; exact hd
  · rw [if_neg e]; exact h v
theorem small_nil : Small64 [] := fun _ => ⟨by show (-9223372036854775808 : Int) ≤ 0; decide, by show (0 : Int) ≤ 9223372036854775807; decide⟩
theorem small_par : ∀ (l : List Int) (ms : List (Int × DefD)) (i : Int), Small64 ms → Small64 (parPuts ms i l)
  | [], _, _, h => h
  | b :: l, ms, i, h => small_par l _ _ (small_put h ⟨by show (-9223372036854775808 : Int) ≤ -1; decide, by show (-1 : Int) ≤ 9223372036854775807; decide⟩)
theorem small_all : ∀ (l : List PutD) (ms ms' : List (Int × DefD)), (∀ p ∈ l, I64 p.d.blk) → Small64 ms → putAll ms l = some ms' → Small64 ms'
  | [], ms, ms', _, h, e => by simp only [putAll, Option.some.injEq] at e; exact e ▸ h
  | p :: l, ms, ms', hp, h, e => by
    simp only [putAll] at e
    split at e
    · cases e
    · exact small_all l _ ms' (fun q hq => hp q (.tail _ hq)) (small_put h (hp p (.head _))) e
theorem opsPuts_blk (i : Int) : ∀ (l : List OpD) (k : Int), ∀ p ∈ opsPuts i k l, p.d.blk = i
  | [], _, p, h => by cases h
  | o :: l, k, p, h => by
    simp only [opsPuts] at h
    rcases List.mem_append.1 h with h | h
    · split at h
      · simp at h; subst h; rfl
      · cases h
    · exact opsPuts_blk i l (k + 1) p h
theorem allPuts_blk : ∀ (bs : List BlockD) (i : Int), ∀ p ∈ allPuts i bs, i ≤ p.d.blk ∧ p.d.blk < i + bs.length
  | [], _, p, h => by cases h
  | b :: l, i, p, h => by
    simp only [allPuts] at h
    simp only [List.length_cons]
    rcases List.mem_append.1 h with h | h
    · unfold phiPuts at h
      obtain ⟨q, _, rfl⟩ := List.mem_map.1 h
      simp; omega
    · rcases List.mem_append.1 h with h | h
      · have := opsPuts_blk i b.ops 0 p h; omega
      · have := allPuts_blk l (i + 1) p h; omega
theorem defs_small {f : FuncD} {ms : List (Int × DefD)} (h : defsD f = some ms) (hn : f.blocks.length ≤ 64) : Small64 ms :=
  small_all _ _ _ (fun p hp => by have := allPuts_blk f.blocks 0 p hp; exact ⟨by omega, by omega⟩) (small_par _ _ _ small_nil) h
end Go.Proofs.YtdjemlkllbhdlaaGreat


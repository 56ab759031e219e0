/- Asking a tree. -/
import Derived.Test.YtdjemlkllbhdlaaGreatSpec7
namespace Go.Proofs.YtdjemlkllbhdlaaGreat
open Go Go.RowKit

def depthF (tree : List Int) : Nat → Int → Int → Int
  | 0, _, _ => -1
  | k + 1, n, a => if a < 0 ∨ a ≥ tree.length then -1 else if nth tree a = -1 then n else depthF tree k (n + 1) (nth tree a)
def depthD (tree : List Int) (a : Int) : Int := depthF tree tree.length 0 a
theorem depth_out {tree : List Int} {d i a : Int} (h : d = depthF tree (tree.length - i).toNat i a) (i1 : i < tree.length) (ha : a < 0 ∨ a ≥ tree.length) : d = -1 := by
  obtain ⟨k, hk⟩ : ∃ k, (tree.length - i).toNat = k + 1 := ⟨(tree.length - i).toNat - 1, by omega⟩
  rw [h, hk]; simp only [depthF]; rw [if_pos ha]
theorem depth_top {tree : List Int} {d i a : Int} (h : d = depthF tree (tree.length - i).toNat i a) (i1 : i < tree.length) (ha : ¬ (a < 0 ∨ a ≥ tree.length)) (ht : nth tree a = -1) : d = i := by
  obtain ⟨k, hk⟩ : ∃ k, (tree.length - i).toNat = k + 1 := ⟨(tree.length - i).toNat - 1, by omega⟩
  rw [h, hk]; simp only [depthF]; rw [if_neg ha, if_pos ht]
theorem depth_up {tree : List Int} {d i a : Int} (h : d = depthF tree (tree.length - i).toNat i a) (i1 : i < tree.length) (ha : ¬ (a < 0 ∨ a ≥ tree.length)) (ht : nth tree a ≠ -1) : d = depthF tree (tree.length - (i + 1)).toNat (i + 1) (nth tree a) := by
  obtain ⟨k, hk⟩ : ∃ k, (tree.length - i).toNat = k + 1 := ⟨(tree.length - i).toNat - 1, by omega⟩
  rw [h, hk, show (tree.length - (i + 1)).toNat = k from by omega]; simp only [depthF]; rw [if_neg ha, if_neg ht]
theorem depth_end {tree : List Int} {d i a : Int} (h : d = depthF tree (tree.length - i).toNat i a) (i1 : ¬ i < tree.length) : d = -1 := by
  rw [h, show (tree.length - i).toNat = 0 from by omega]; rfl
/-- How many roots, up to the first place that leads to none. -/
def rightF (tree : List Int) : List Int → Int → Int → Bool
  | [], _, tops => tops == 1
  | x :: l, a, tops => if x ≠ -2 ∧ depthD tree a < 0 then false else rightF tree l (a + 1) (if x = -1 then tops + 1 else tops)
def rightD (tree : List Int) : Bool := rightF tree tree 0 0
def inD (tree : List Int) (l : List Int) : Bool := rightD tree && l.all fun a => !decide (depthD tree a < 0)

theorem depth_range {tree : List Int} {a : Int} (h : 0 ≤ depthD tree a) : 0 ≤ a ∧ a < tree.length := by
  apply Classical.byContradiction
  intro hn
  unfold depthD at h
  cases hl : tree.length with
  | zero => rw [hl] at h; simp [depthF] at h
  | succ k => rw [hl] at h; simp only [depthF] at h; rw [if_pos (by omega)] at h; omega
theorem depthF_shift (tree : List Int) : ∀ (k : Nat) (n m a : Int), 0 ≤ n → 0 ≤ m → (depthF tree k n a = -1 ∧ depthF tree k m a = -1) ∨ (n ≤ depthF tree k n a ∧ depthF tree k m a = depthF tree k n a - n + m)
  | 0, _, _, _, _, _ => .inl ⟨rfl, rfl⟩
  | k + 1, n, m, a, hn, hm => by
    simp only [depthF]
    by_cases h1 : a < 0 ∨ a ≥ tree.length
    · rw [if_pos h1, if_pos h1]; exact .inl ⟨rfl, rfl⟩
    · rw [if_neg h1, if_neg h1]
      by_cases h2 : nth tree a = -1
      · rw [if_pos h2, if_pos h2]; exact .inr ⟨by omega, by omega⟩
      · rw [if_neg h2, if_neg h2]
        rcases depthF_shift tree k (n + 1) (m + 1) (nth tree a) (by omega) (by omega) with h | h
        · exact .inl h
        · exact .inr ⟨by omega, by omega⟩

theorem depthF_succ (tree : List Int) (k : Nat) (n a : Int) : depthF tree (k + 1) n a = if a < 0 ∨ a ≥ tree.length then -1 else if nth tree a = -1 then n else depthF tree k (n + 1) (nth tree a) := rfl
theorem depthF_more (tree : List Int) : ∀ (k : Nat) (n a : Int), 0 ≤ n → 0 ≤ depthF tree k n a → depthF tree (k + 1) n a = depthF tree k n a
  | 0, n, a, _, h => by simp [depthF] at h
  | k + 1, n, a, hn, h => by
    rw [depthF_succ tree (k + 1) n a, depthF_succ tree k n a]
    rw [depthF_succ tree k n a] at h
    by_cases h1 : a < 0 ∨ a ≥ tree.length
    · rw [if_pos h1, if_pos h1]
    · rw [if_neg h1] at h ⊢
      rw [if_neg h1]
      by_cases h2 : nth tree a = -1
      · rw [if_pos h2, if_pos h2]
      · rw [if_neg h2] at h ⊢
        rw [if_neg h2]
        exact depthF_more tree k (n + 1) (nth tree a) (by omega) h
theorem depth_less {tree : List Int} {a : Int} (h : 0 ≤ depthD tree a) (ht : nth tree a ≠ -1) : depthD tree (nth tree a) = depthD tree a - 1 ∧ 1 ≤ depthD tree a := by
  have hr := depth_range h
  unfold depthD at *
  obtain ⟨k, hk⟩ : ∃ k, tree.length = k + 1 := ⟨tree.length - 1, by omega⟩
  rw [hk] at h ⊢
  have e : depthF tree (k + 1) 0 a = depthF tree k (0 + 1) (nth tree a) := by
    rw [depthF_succ, if_neg (by omega), if_neg ht]
  rw [e] at h ⊢
  rcases depthF_shift tree k (0 + 1) 0 (nth tree a) (by omega) (by omega) with h1 | h1
  · omega
  · have := depthF_more tree k 0 (nth tree a) (by omega) (by omega)
    omega
theorem depth_zero {tree : List Int} {a : Int} (h : 0 ≤ a ∧ a < tree.length) (ht : nth tree a = -1) : depthD tree a = 0 := by
  unfold depthD
  obtain ⟨k, hk⟩ : ∃ k, tree.length = k + 1 := ⟨tree.length - 1, by omega⟩
  rw [hk, depthF_succ, if_neg (by omega), if_pos ht]

theorem rightF_count (tree : List Int) : ∀ (l : List Int) (a tops : Int), rightF tree l a tops = true → tops + l.count (-1) = 1
  | [], a, tops, h => by simpa [rightF] using h
  | x :: l, a, tops, h => by
    simp only [rightF] at h
    by_cases h1 : x ≠ -2 ∧ depthD tree a < 0
    · rw [if_pos h1] at h; cases h
    · rw [if_neg h1] at h
      have := rightF_count tree l (a + 1) _ h
      rw [List.count_cons]
      by_cases h2 : x = -1
      · rw [if_pos h2] at this; simp [h2]; omega
      · rw [if_neg h2] at this; simp [h2]; omega
theorem count_two {l : List Int} {i j : Int} (i0 : 0 ≤ i) (hij : i < j) (j1 : j < l.length) (hi : nth l i = -1) (hj : nth l j = -1) : 2 ≤ l.count (-1) := by
  have e : l = l.take (i + 1).toNat ++ l.drop (i + 1).toNat := (List.take_append_drop _ _).symm
  rw [e, List.count_append]
  have h1 : (-1 : Int) ∈ l.take (i + 1).toNat := by
    rw [take_snoc_nth i0 (by omega), hi]; simp
  have h2 : (-1 : Int) ∈ l.drop (i + 1).toNat := by
    have := nth_get (xs := l) (i := j) (by omega) j1
    rw [hj] at this
    refine List.mem_of_getElem? (i := (j - i - 1).toNat) ?_
    rw [List.getElem?_drop, show (i + 1).toNat + (j - i - 1).toNat = j.toNat from by omega]
    exact this
  have := List.count_pos_iff.2 h1
  have := List.count_pos_iff.2 h2
  omega
theorem right_one {tree : List Int} (h : rightD tree = true) {a b : Int} (a0 : 0 ≤ a) (a1 : a < tree.length) (b0 : 0 ≤ b) (b1 : b < tree.length) (ha : nth tree a = -1) (hb : nth tree b = -1) : a = b := by
  have hc := rightF_count tree tree 0 0 h
  apply Classical.byContradiction
  intro hn
  by_cases hlt : a < b
  · have := count_two a0 hlt b1 ha hb; omega
  · have := count_two b0 (by omega : b < a) a1 hb ha; omega
def meetF (tree : List Int) : Nat → Int → Int → Int
  | 0, a, _ => a
  | k + 1, a, b => if a = b then a else if depthD tree a ≥ depthD tree b then meetF tree k (nth tree a) b else meetF tree k a (nth tree b)
def meetD (tree : List Int) (a b : Int) : Int := if inD tree [a, b] then meetF tree (depthD tree a + depthD tree b).toNat a b else -2

theorem meet_up {tree : List Int} (hr : rightD tree = true) {a b : Int} (ha : 0 ≤ depthD tree a) (hb : 0 ≤ depthD tree b) (hne : a ≠ b) (hge : depthD tree b ≤ depthD tree a) : nth tree a ≠ -1 := by
  intro ht
  have hra := depth_range ha
  have hrb := depth_range hb
  have h0 := depth_zero hra ht
  by_cases h1 : nth tree b = -1
  · exact hne (right_one hr hra.1 hra.2 hrb.1 hrb.2 ht h1)
  · have := (depth_less hb h1).2; omega
theorem meet_left {tree : List Int} (hr : rightD tree = true) {a b : Int} (ha : 0 ≤ depthD tree a) (hb : 0 ≤ depthD tree b) (hne : a ≠ b) (hge : depthD tree a ≥ depthD tree b) :
    0 ≤ depthD tree (nth tree a) ∧ depthD tree (nth tree a) < depthD tree a ∧ meetF tree (depthD tree a + depthD tree b).toNat a b = meetF tree (depthD tree (nth tree a) + depthD tree b).toNat (nth tree a) b := by
  have h1 := depth_less ha (meet_up hr ha hb hne hge)
  refine ⟨by omega, by omega, ?_⟩
  rw [h1.1, show (depthD tree a + depthD tree b).toNat = (depthD tree a - 1 + depthD tree b).toNat + 1 from by omega, meetF, if_neg hne, if_pos hge]
theorem meet_right {tree : List Int} (hr : rightD tree = true) {a b : Int} (ha : 0 ≤ depthD tree a) (hb : 0 ≤ depthD tree b) (hne : a ≠ b) (hge : ¬ depthD tree a ≥ depthD tree b) :
    0 ≤ depthD tree (nth tree b) ∧ depthD tree (nth tree b) < depthD tree b ∧ meetF tree (depthD tree a + depthD tree b).toNat a b = meetF tree (depthD tree a + depthD tree (nth tree b)).toNat a (nth tree b) := by
  have h1 := depth_less hb (meet_up hr hb ha (Ne.symm hne) (by omega))
  refine ⟨by omega, by omega, ?_⟩
  rw [h1.1, show (depthD tree a + depthD tree b).toNat = (depthD tree a + (depthD tree b - 1)).toNat + 1 from by omega, meetF, if_neg hne, if_neg hge]
theorem meet_same (tree : List Int) (k : Nat) (a : Int) : meetF tree k a a = a := by
  cases k with
  | zero => rfl
  | succ k => rw [meetF, if_pos rfl]
theorem in_two {tree : List Int} {a b : Int} (h : inD tree [a, b] = true) : rightD tree = true ∧ 0 ≤ depthD tree a ∧ 0 ≤ depthD tree b := by
  simp [inD] at h
  exact ⟨h.1, h.2.1, h.2.2⟩
def overD (tree : List Int) (a b : Int) : Bool := inD tree [a, b] && meetD tree a b == a
end Go.Proofs.YtdjemlkllbhdlaaGreat

/- The graph of a function. -/
import Derived.Test.YtdjemlkllbhdlaaGreatT10
namespace Go.Proofs.YtdjemlkllbhdlaaGreat
open Go Go.RowKit

def ofOK (n : Int) (b : BlockD) : Bool := goesD b.en.kind == (b.en.to.length : Int) && !(b.en.to.any fun k => decide (k < 1) || decide (k ≥ n))
def succOf (b : BlockD) : List Int := compact2 (sortD b.en.to)
def ofD (f : FuncD) : GraphD × Int := if (f.blocks.length : Int) > 64 then (⟨[], []⟩, 5) else if f.blocks.all (ofOK f.blocks.length) then makeD (f.blocks.map succOf) else (⟨[], []⟩, 5)
theorem compact2_len (l : List Int) : (compact2 l).length ≤ l.length := by
  unfold compact2
  split
  · split <;> simp
  · exact Nat.le_refl _
theorem compact2_sub {l : List Int} {x : Int} (h : x ∈ compact2 l) : x ∈ l := by
  unfold compact2 at h
  split at h
  · split at h
    · simp at h; simp [h]
    · exact h
  · exact h
theorem sortD_mem {l : List Int} {x : Int} : x ∈ sortD l ↔ x ∈ l := List.mem_mergeSort
theorem succOf_len (b : BlockD) : (succOf b).length ≤ b.en.to.length := Nat.le_trans (compact2_len _) (by rw [sortD_len]; exact Nat.le_refl _)
theorem succOf_all {b : BlockD} (h : AllI b.en.to) : AllI (succOf b) := AllI_iff.2 fun x hx => AllI_iff.1 h x (sortD_mem.1 (compact2_sub hx))
theorem goesD_le (k : Int) : goesD k ≤ 2 := by unfold goesD; repeat' split; all_goals omega
theorem Compact_calls {H : Hp} {A : Option Addr} {c : Nat} {l : List Int} (hl : l.length ≤ 2) {n : Nat} (hn : n = l.length) : CallG Tryz.prog 81 [.slice A n c] H [Chunk.own 3 1 A c n (l.map iv)]
    fun v H' L' => H' = H ∧ v = .slice A (compact2 l).length c ∧ L' = [Chunk.own 3 1 A c (compact2 l).length ((compact2 l).map iv)] := by
  subst hn
  by_cases h2 : l.length < 2
  · have e : compact2 l = l := by
      unfold compact2; split
      · simp at h2
      · rfl
    rw [e]
    exact Compact_short h2
  · match l, hl, h2 with
    | [x, y], _, _ =>
      refine ⟨(Compact_two (H := H) (b := 0) (c := c) (x := x) (y := y)).1, fun w hw => ?_⟩
      have hown : w.ownsRow 0 3 1 (.slice A 2 c) 2 ([x, y].map iv) := hw.holds _ (.head _)
      rcases hown.2 with ⟨e0, hn⟩ | ⟨g, cap, cur, e0, _⟩
      · cases hn
      · simp only [Value.slice.injEq, true_and] at e0
        obtain ⟨rfl, rfl⟩ := e0
        exact Compact_two.2 w hw
    | [], _, h2 => simp at h2
    | [_], _, h2 => simp at h2
    | _ :: _ :: _ :: _, hl, _ => simp at hl
theorem of_no1 {f : FuncD} (h : (f.blocks.length : Int) > 64) : ofD f = (⟨[], []⟩, 5) := by unfold ofD; rw [if_pos h]
theorem of_no2 {f : FuncD} (h : ¬ (f.blocks.length : Int) > 64) (h2 : f.blocks.all (ofOK f.blocks.length) = false) : ofD f = (⟨[], []⟩, 5) := by unfold ofD; rw [if_neg h, h2]; rfl
theorem of_yes {f : FuncD} (h : ¬ (f.blocks.length : Int) > 64) (h2 : f.blocks.all (ofOK f.blocks.length) = true) : ofD f = makeD (f.blocks.map succOf) := by unfold ofD; rw [if_neg h, if_pos h2]
theorem Of_no {f : FuncD} {H : Hp} (h : ofD f = (⟨[], []⟩, 5)) : ∃ A c A' c', Value.tuple #[.agg #[.slice none 0 0, .slice none 0 0], .int .i64 5] = .tuple #[.agg #[.slice A (ofD f).1.succ.length c, .slice A' (ofD f).1.pred.length c'], .int .i64 (ofD f).2] ∧
    (ofD f).1.succ.length ≤ c ∧ RdS H A (ofD f).1.succ ∧ (ofD f).1.pred.length ≤ c' ∧ RdS H A' (ofD f).1.pred ∧ ([] : List Chunk) = [] := by
  rw [h]
  exact ⟨none, 0, none, 0, rfl, Nat.le_refl _, RdS.nil _ _, Nat.le_refl _, RdS.nil _ _, rfl⟩
theorem ofOK_a {n : Int} {b : BlockD} (h : goesD b.en.kind ≠ (b.en.to.length : Int)) : ofOK n b = false := by
  unfold ofOK; rw [beq_false_of_ne h]; rfl
theorem ofOK_b {n : Int} {b : BlockD} (h : goesD b.en.kind = (b.en.to.length : Int)) (t : Bool) (h2 : (b.en.to.any fun k => decide (k < 1) || decide (k ≥ n)) = t) : ofOK n b = !t := by
  unfold ofOK; rw [h2, h]; simp
theorem of_bad {f : FuncD} {i : Int} {x : BlockD} (h0 : 0 ≤ i) (h1 : i < f.blocks.length) (hx : x = nth f.blocks i) (hp : ofOK f.blocks.length x = false) : f.blocks.all (ofOK f.blocks.length) = false := by
  rw [List.all_eq_false]
  exact ⟨x, hx ▸ nth_mem h0 h1, by simp [hp]⟩
theorem map_snoc {α β : Type} [Inhabited α] (g : α → β) {xs : List α} {i : Int} {x : α} (h0 : 0 ≤ i) (h1 : i < xs.length) (hx : x = nth xs i) : (xs.take (i + 1).toNat).map g = (xs.take i.toNat).map g ++ [g x] := by
  rw [take_snoc_nth h0 h1, List.map_append, ← hx]; rfl
end Go.Proofs.YtdjemlkllbhdlaaGreat

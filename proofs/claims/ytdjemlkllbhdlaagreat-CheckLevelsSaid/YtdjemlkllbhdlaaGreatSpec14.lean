/- The function that shows that the program is awake. -/
import Derived.Test.YtdjemlkllbhdlaaGreatT18
namespace Go.Proofs.YtdjemlkllbhdlaaGreat
open Go Go.RowKit
section
variable {P : Program} {T : List TRow} {fn : Func} {w0 : World} {H0 : Hp} {X : List Nat} {k : List Item} {F : Fk} {H : Hp} {L : List Chunk} {R : Ending → World → Prop} {ops : Array Oper} {ty : TypeId} {pos : String} {af : Array Edge} {g : Option (Nat × Bool)} {dst : Option Nat}
/-- A call that reads the call's own rows, and makes something. -/
theorem OpG.callM {i : Nat} {d : Nat} {gi : FuncId} {f : Operand} {xs : Array Operand} {ts : Array TypeId} {first cap : Array Value} {vs args : List Value} {post : Value → List Chunk → Prop}
    (ho : ops[i]? = some ⟨some d, .call ⟨.value f, xs, ts⟩, ty, pos, af, g⟩) (hw : wantk ops F g = some true) (hn : Nat.blt d fn.ntmps = true) (hf : evk F f = some (.func (.func gi) first cap)) (hx : evs F xs.toList = some vs)
    (hargs : first.toList ++ (vs ++ cap.toList) = args) (hcal : Callee P gi) (hc : ∀ H1, Frz L H H1 → CallG P gi args H1 [] fun u _ L' => post u L') :
    OpG P fn w0 H0 X ops i F H L fun F' H' L' => ∃ v L1, F' = (d, v) :: F ∧ H' = H ∧ post v L1 ∧ L' = L1 ++ L := ⟨_, ho, hw, fun a w ha hs => by
  let H1 : Hp := fun b => if b ∈ blks L then w.heap[b]? else H b
  have hle : H.le H1 := fun b o hb => by
    show (if b ∈ blks L then w.heap[b]? else H b) = some o
    split
    · rename_i hm; have := (hs.own b hm).2; rw [hb] at this; cases this
    · exact hb
  have hsub : Sub H1 w := fun b o hb => by
    have hb' : (if b ∈ blks L then w.heap[b]? else H b) = some o := hb
    split at hb'
    · exact hb'
    · exact hs.sub b o hb'
  have hfrz : Frz L H H1 := ⟨hle, w, hsub, hs.holds, fun b hb => if_pos hb⟩
  have hp : Pre w H1 [] := ⟨hsub, by simp, by simp [blks], by simp [blks]⟩
  refine .call (hargs ▸ run_callValue hcal (ha.eval hf) (ha.evs hx) w) (fun u w' => ∃ L1, post u L1 ∧ SH w H [] w' H L1) (((hc H1 hfrz).2 w hp).mono ?_) ?_
  · rintro e w' ⟨u, H', L1, rfl, h1, h2⟩
    refine ⟨_, rfl, L1, h2, h1.chg, fun b o hb => h1.sub b o (h1.le b o (hle b o hb)), Hp.le.refl _, fun b h => .inl h, h1.holds, fun b hb => ⟨(h1.own b hb).1, ?_⟩, h1.nodup⟩
    cases hH : H b with
    | none => rfl
    | some o =>
      have := h1.le b o (hle b o hH)
      rw [(h1.own b hb).2] at this; cases this
  · rintro u w' ⟨L1, h2, h1⟩
    exact ⟨_, _, _, ⟨_, _, rfl, rfl, h2, rfl⟩, ha.put (by simpa [Nat.blt_eq] using hn) _, SH.frame (Lc := []) hs h1⟩⟩
theorem WpG.callM {i : Nat} {rest : List Nat} {d : Nat} {gi : FuncId} {f : Operand} {xs : Array Operand} {ts : Array TypeId} {first cap : Array Value} {vs args : List Value} {post : Value → List Chunk → Prop}
    (ho : ops[i]? = some ⟨some d, .call ⟨.value f, xs, ts⟩, ty, pos, af, g⟩) (hw : wantk ops F g = some true) (hn : Nat.blt d fn.ntmps = true) (hf : evk F f = some (.func (.func gi) first cap)) (hx : evs F xs.toList = some vs)
    (hargs : first.toList ++ (vs ++ cap.toList) = args) (hcal : Callee P gi) (hc : ∀ H1, Frz L H H1 → CallG P gi args H1 [] fun u _ L' => post u L')
    (h : ∀ v L1, post v L1 → WpG P fn w0 H0 X (.inRegion ops rest :: k) ((d, v) :: F) H (L1 ++ L) R) : WpG P fn w0 H0 X (.inRegion ops (i :: rest) :: k) F H L R :=
  WpG.step (OpG.callM ho hw hn hf hx hargs hcal hc) (by rintro _ _ _ ⟨v, L1, rfl, rfl, h1, rfl⟩; exact h v L1 h1)
end
theorem sortD_nil : sortD [] = [] := by simp [sortD]
/-- A graph of one block that goes nowhere. -/
theorem tree_one : TreeP [[]] 0 [-1] := by
  have hr : ∀ no x, RchN [[]] 0 no x → x = 0 := by
    intro no x h
    cases h with
    | root _ => rfl
    | @step p x hp hx _ =>
      exfalso
      have : nth ([[]] : List (List Int)) p = [] := by
        unfold nth
        cases hn : p.toNat with
        | zero => rfl
        | succ n => rfl
      rw [this] at hx; cases hx
  refine ⟨rfl, rfl, fun x x0 x1 hn => ?_, fun x hx => by rw [hr _ _ hx]; decide, fun x hx hne => absurd (hr _ _ hx) hne⟩
  exfalso
  have : x = 0 := by simp at x1; omega
  subst this
  exact hn (.root (by decide))
theorem of_one {ps : List Int} {ret : Int} {ops : List OpD} {phis : List PhiD} {kind arg : Int} (hk : kind = 0 ∨ kind = 3) : ofD ⟨ps, ret, [⟨phis, ops, ⟨kind, arg, []⟩⟩]⟩ = (⟨[[]], [[]]⟩, 0) := by
  have h2 : (FuncD.blocks ⟨ps, ret, [⟨phis, ops, ⟨kind, arg, []⟩⟩]⟩).all (ofOK 1) = true := by rcases hk with rfl | rfl <;> rfl
  rw [of_yes (by show ¬ ((1 : Nat) : Int) > 64; decide) h2]
  show makeD [succOf _] = _
  have h3 : succOf ⟨phis, ops, ⟨kind, arg, []⟩⟩ = [] := by unfold succOf; rw [sortD_nil]; rfl
  rw [h3]; rfl
theorem good_one {f : FuncD} (h : ofD f = (⟨[[]], [[]]⟩, 0)) : TreeGood f [-1] := fun _ _ => by rw [h]; exact tree_one

def fA (a : Int) : FuncD := ⟨[8], 8, [⟨[], [⟨1, 8, 1, 2, [1, 1], 0⟩], ⟨0, a, []⟩⟩]⟩
def msA : List (Int × DefD) := [(1, ⟨-1, 0, 8, 1⟩), (2, ⟨0, 0, 8, 1⟩)]
theorem ofA (a : Int) : ofD (fA a) = (⟨[[]], [[]]⟩, 0) := of_one (.inl rfl)
theorem isA (a lv : Int) : CodeIs (fA a) lv (codeOf (fA a) lv [-1]) := ⟨_, good_one (ofA a), rfl⟩
theorem codeA0 : codeOf (fA 2) 0 [-1] = 0 := by unfold codeOf shapeW; rw [ofA]; decide
theorem codeA2 : codeOf (fA 2) 2 [-1] = 0 := by unfold codeOf shapeW; rw [ofA]; decide
theorem codeA3 : codeOf (fA 3) 0 [-1] = 7 := by unfold codeOf shapeW; rw [ofA]; decide
theorem lastA : lastD (fA 2) = 2 := by decide
theorem defsA : defsD (fA 2) = some msA := by decide
theorem isA20 : CodeIs (fA 2) 0 0 := by have h := isA 2 0; rw [codeA0] at h; exact h
theorem isA22 : CodeIs (fA 2) 2 0 := by have h := isA 2 2; rw [codeA2] at h; exact h
theorem isA30 : CodeIs (fA 3) 0 7 := by have h := isA 3 0; rw [codeA3] at h; exact h
theorem check_at {f : FuncD} {lv e : Int} (h : CheckIs f lv e) (h0 : 0 ≤ lv) (h1 : lv ≤ 2) : CodeIs f lv e := by unfold CheckIs at h; rwa [if_neg (by omega)] at h
theorem check_off {f : FuncD} {lv e : Int} (h : CheckIs f lv e) (h0 : lv < 0 ∨ lv > 2) : e = 1 := by unfold CheckIs at h; rwa [if_pos h0] at h
end Go.Proofs.YtdjemlkllbhdlaaGreat

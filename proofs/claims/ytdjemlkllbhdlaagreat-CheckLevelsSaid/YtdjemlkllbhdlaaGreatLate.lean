/- More operations: clear. -/
import Derived.Test.YtdjemlkllbhdlaaGreatSeq
set_option linter.unusedVariables false
set_option linter.unusedSimpArgs false
namespace Go.Proofs.YtdjemlkllbhdlaaGreat
open Go Go.RowKit
section
variable {P : Program} {T : List TRow} {fn : Func} {w0 : World} {H0 : Hp} {X : List Nat} {k : List Item} {F : Fk} {H : Hp} {L : List Chunk} {R : Ending → World → Prop} {ops : Array Oper} {ty : TypeId} {pos : String} {af : Array Edge} {g : Option (Nat × Bool)}
/-- One element is cleared. -/
theorem OpG.clear1 (hT : TabOK P T) {i : Nat} {t e ci : Nat} {x : Operand} {b off E cc c n : Nat} {xs xs' : List Value} {r q : TRow} {z : Value}
    (ho : ops[i]? = some ⟨none, .call ⟨.builtin .clear, #[x], #[t]⟩, ty, pos, af, g⟩) (hw : wantk ops F g = some true)
    (hx : evk F x = some (.slice (some ⟨b, off, none⟩) 1 cc)) (hr : trow T t = some r) (hk : r.kind = .slice e) (hq : trow T e = some q) (hz : q.zero.cells = #[z]) (h1 : z.oneCell' = true) (hsz : q.size = 1)
    (hL : L[ci]? = some (Chunk.own E 1 (some ⟨b, 0, none⟩) c n xs)) (hp : putAt xs off [z] = some xs') :
    OpG P fn w0 H0 X ops i F H L fun F' H' L' => F' = F ∧ H' = H ∧ L' = L.set ci (Chunk.own E 1 (some ⟨b, 0, none⟩) c n xs') := ⟨_, ho, hw, fun a w ha hs => by
  have hd := (hT.row hr).slice hk
  have hown : w.ownsRow 0 E 1 (.slice (some ⟨b, 0, none⟩) n c) n xs := hs.chunk hL
  obtain ⟨cur, hg, hle, hown'⟩ := ownsRow_put hown hp
  have hst := run_storeCells_at P b off E [z] 0 cur w hg (by simpa using hle) (by simpa using h1)
  simp only [Nat.add_zero] at hst
  have hzc : (Builtin.zeroCells #[z] 1).toList = [z] := by simp [Builtin.zeroCells, Array.range_succ]
  refine .value (v := .tuple #[]) (w' := w.setRow b (cur.toList.take off ++ [z] ++ cur.toList.drop (off + [z].length)).toArray) ?_
    ⟨_, _, _, ⟨rfl, rfl, rfl⟩, ha.putNone _, hs.set_ hL (SH.one (hs.pre1 hL) (Chg.setRow _ _ (mem_blks (.head _) rfl)) hown' (fun b' e => .inl e))⟩
  simp [execOp, ha.eval hx, resolve, invoke, builtin, Builtin.clear_, run_underlying hd, (hT.row hq).run_zero, hz, hzc, hst]⟩
theorem WpG.clear1 (hT : TabOK P T) {i : Nat} {rest : List Nat} {t e ci : Nat} {x : Operand} {b off E cc c n : Nat} {xs xs' : List Value} {r q : TRow} {z : Value}
    (ho : ops[i]? = some ⟨none, .call ⟨.builtin .clear, #[x], #[t]⟩, ty, pos, af, g⟩) (hw : wantk ops F g = some true)
    (hx : evk F x = some (.slice (some ⟨b, off, none⟩) 1 cc)) (hr : trow T t = some r) (hk : r.kind = .slice e) (hq : trow T e = some q) (hz : q.zero.cells = #[z]) (h1 : z.oneCell' = true) (hsz : q.size = 1)
    (hL : L[ci]? = some (Chunk.own E 1 (some ⟨b, 0, none⟩) c n xs)) (hp : putAt xs off [z] = some xs')
    (h : WpG P fn w0 H0 X (.inRegion ops rest :: k) F H (L.set ci (Chunk.own E 1 (some ⟨b, 0, none⟩) c n xs')) R) : WpG P fn w0 H0 X (.inRegion ops (i :: rest) :: k) F H L R :=
  WpG.step (OpG.clear1 hT ho hw hx hr hk hq hz h1 hsz hL hp) (by rintro _ _ _ ⟨rfl, rfl, rfl⟩; exact h)
end
def compact2 : List Int → List Int
  | [x, y] => if x = y then [x] else [x, y]
  | l => l
end Go.Proofs.YtdjemlkllbhdlaaGreat

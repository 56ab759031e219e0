/-
  No cell of these rows narrows 'for every input' (looked for: loops, veiled, ifaces, maps, wideKeys, modest, calm, conditions, laid).
  DERIVED. THE GIVEN ROWS OF THIS SEAT. 5 by the template 'for every input the law returns true; each argument reads behind the call as it read before'; 0 by the template 'total and deterministic' (their statements: YtakameggkkjcpaaGreatTotals.lean).
  GIVEN WITH THE SEED: the statements are not yours to turn. If you find one false, say at which input.
  Laid BY PROGRAM, IN A SANDBOX (cutbox-rows.mjs): the forced cells as the released guide's own fill.sh prints them over the translation e65326040ff00ce9… (all of the seat's roots in one cut). By AI agents, Wed Nov 11 2026. No macro, syntax, notation, axiom, sorry.
-/
import Derived.Test.YtakameggkkjcpaaGreatChecked
import GoSem.Claim
import GoSem.ClaimJoined
import GoSem.ClaimMapViews
import Derived.JoinedTies
import Derived.KernelRfl
namespace Go.Proofs.YtakameggkkjcpaaGreat
/- THE CELL 'sum', in the pinned program and in every row, IS THE sha256 OF THE DUMP (.gsa) THAT YtakameggkkjcpaaGreatProg.lean LOADS. Nothing in Lean hashes anything: it is a label: what it is worth is what the hold of that sum in a sandbox is worth. -/
noncomputable def Tryz.pinned : Pinned := { name := "ytakameggkkjcpaagreat", sum := "e65326040ff00ce96fe36ac06df5961775ee01619b87f14f91b8a4ffea201255", checked := Tryz.checked }
namespace Rows
def none {H : Type} : Left H := { results := [], args := [] }

/-- 'locksteplaw14.HammockFinds': WHATEVER THE INPUT: true; the input reads as it did. -/
def hammockFindsSpec : ChangeSpec := { name := "hammockFinds", fn := fun _ => fun
  | [d1, d2, d3] => { results := [.lit (.bool true)], args := [d1, d2, d3] }
  | _ => none }
def hammockFindsRow : OpenClaim := { program := "ytakameggkkjcpaagreat", sum := "e65326040ff00ce96fe36ac06df5961775ee01619b87f14f91b8a4ffea201255", func := "lockstep/locksteplaw14.HammockFinds", spec := "hammockFinds", unfollowed := true, recurses := true, apart := false }
def HammockFindsSaid : Prop := hammockFindsRow.holds Tryz.pinned (OpenSpec.ofChange hammockFindsSpec)

/-- ITS FALSE NEIGHBOUR: 'it returns false'. Refute it at one input. -/
def hammockFindsWrong : ChangeSpec := { name := "hammockFinds", fn := fun _ => fun
  | [d1, d2, d3] => { results := [.lit (.bool false)], args := [d1, d2, d3] }
  | _ => none }
def HammockFindsWrongFalsely : Prop := hammockFindsRow.holds Tryz.pinned (OpenSpec.ofChange hammockFindsWrong)

/-- 'locksteplaw14.HammockApart': WHATEVER THE INPUT: true; the input reads as it did. -/
def hammockApartSpec : ChangeSpec := { name := "hammockApart", fn := fun _ => fun
  | [d] => { results := [.lit (.bool true)], args := [d] }
  | _ => none }
def hammockApartRow : OpenClaim := { program := "ytakameggkkjcpaagreat", sum := "e65326040ff00ce96fe36ac06df5961775ee01619b87f14f91b8a4ffea201255", func := "lockstep/locksteplaw14.HammockApart", spec := "hammockApart", unfollowed := true, recurses := true, apart := false }
def HammockApartSaid : Prop := hammockApartRow.holds Tryz.pinned (OpenSpec.ofChange hammockApartSpec)

/-- ITS FALSE NEIGHBOUR: 'it returns false'. Refute it at one input. -/
def hammockApartWrong : ChangeSpec := { name := "hammockApart", fn := fun _ => fun
  | [d] => { results := [.lit (.bool false)], args := [d] }
  | _ => none }
def HammockApartWrongFalsely : Prop := hammockApartRow.holds Tryz.pinned (OpenSpec.ofChange hammockApartWrong)

/-- 'locksteplaw14.HammockCosts': WHATEVER THE INPUT: true; the input reads as it did. -/
def hammockCostsSpec : ChangeSpec := { name := "hammockCosts", fn := fun _ => fun
  | [d1, d2] => { results := [.lit (.bool true)], args := [d1, d2] }
  | _ => none }
def hammockCostsRow : OpenClaim := { program := "ytakameggkkjcpaagreat", sum := "e65326040ff00ce96fe36ac06df5961775ee01619b87f14f91b8a4ffea201255", func := "lockstep/locksteplaw14.HammockCosts", spec := "hammockCosts", unfollowed := true, recurses := true, apart := false }
def HammockCostsSaid : Prop := hammockCostsRow.holds Tryz.pinned (OpenSpec.ofChange hammockCostsSpec)

/-- ITS FALSE NEIGHBOUR: 'it returns false'. Refute it at one input. -/
def hammockCostsWrong : ChangeSpec := { name := "hammockCosts", fn := fun _ => fun
  | [d1, d2] => { results := [.lit (.bool false)], args := [d1, d2] }
  | _ => none }
def HammockCostsWrongFalsely : Prop := hammockCostsRow.holds Tryz.pinned (OpenSpec.ofChange hammockCostsWrong)

/-- 'locksteplaw14.HammockThree': WHATEVER THE INPUT: true; the input reads as it did. -/
def hammockThreeSpec : ChangeSpec := { name := "hammockThree", fn := fun _ => fun
  | [d1, d2] => { results := [.lit (.bool true)], args := [d1, d2] }
  | _ => none }
def hammockThreeRow : OpenClaim := { program := "ytakameggkkjcpaagreat", sum := "e65326040ff00ce96fe36ac06df5961775ee01619b87f14f91b8a4ffea201255", func := "lockstep/locksteplaw14.HammockThree", spec := "hammockThree", unfollowed := true, recurses := true, apart := false }
def HammockThreeSaid : Prop := hammockThreeRow.holds Tryz.pinned (OpenSpec.ofChange hammockThreeSpec)

/-- ITS FALSE NEIGHBOUR: 'it returns false'. Refute it at one input. -/
def hammockThreeWrong : ChangeSpec := { name := "hammockThree", fn := fun _ => fun
  | [d1, d2] => { results := [.lit (.bool false)], args := [d1, d2] }
  | _ => none }
def HammockThreeWrongFalsely : Prop := hammockThreeRow.holds Tryz.pinned (OpenSpec.ofChange hammockThreeWrong)

/-- 'locksteplaw14.HammockMeets': WHATEVER THE INPUT: true; the input reads as it did. -/
def hammockMeetsSpec : ChangeSpec := { name := "hammockMeets", fn := fun _ => fun
  | [d] => { results := [.lit (.bool true)], args := [d] }
  | _ => none }
def hammockMeetsRow : OpenClaim := { program := "ytakameggkkjcpaagreat", sum := "e65326040ff00ce96fe36ac06df5961775ee01619b87f14f91b8a4ffea201255", func := "lockstep/locksteplaw14.HammockMeets", spec := "hammockMeets", unfollowed := true, recurses := true, apart := false }
def HammockMeetsSaid : Prop := hammockMeetsRow.holds Tryz.pinned (OpenSpec.ofChange hammockMeetsSpec)

/-- ITS FALSE NEIGHBOUR: 'it returns false'. Refute it at one input. -/
def hammockMeetsWrong : ChangeSpec := { name := "hammockMeets", fn := fun _ => fun
  | [d] => { results := [.lit (.bool false)], args := [d] }
  | _ => none }
def HammockMeetsWrongFalsely : Prop := hammockMeetsRow.holds Tryz.pinned (OpenSpec.ofChange hammockMeetsWrong)

/- THE SECOND FORM. 'bulk': how many values and letters a reading holds, each counted each time it is reached (what is shared counts as often as it is met; a slice's spare places count too). A statement '..UptoSaid' is the law's where the arguments, and the package variables that the reading takes, are together of bulk at most 1048576: NARROWER than '..Said'. Prove '..Said' where nothing that the law and all that it calls make is longer than what came in: it says more and counts as full. Else prove '..UptoSaid'. A law counts once. -/
mutual
def uptoBulk {H : Type} : DataW H → Nat
  | .lit (.string bytes) => bytes.length + 1
  | .lit _ => 1
  | .nil => 1
  | .ptr d => uptoBulk d + 1
  | .slice elems spare => uptoBulkAll elems + uptoBulkAll spare + 1
  | .agg parts => uptoBulkAll parts + 1
  | .iface _ d => uptoBulk d + 1
  | .map entries => uptoBulkEntries entries + 1
  | .held _ => 1
def uptoBulkAll {H : Type} : List (DataW H) → Nat
  | [] => 0
  | d :: r => uptoBulk d + uptoBulkAll r
def uptoBulkEntries {H : Type} : List (Lit × DataW H) → Nat
  | [] => 0
  | x :: r => uptoBulkEntry x + uptoBulkEntries r
def uptoBulkEntry {H : Type} : Lit × DataW H → Nat
  | (.string bytes, d) => bytes.length + uptoBulk d + 1
  | (_, d) => uptoBulk d + 1
 end
def uptoSmall : (H : Type) → List (DataW H) → Bool := fun _ ds => decide (uptoBulkAll ds ≤ 1048576)
def OpenSpec.upto (s : _root_.Go.ChangeSpec) : _root_.Go.OpenSpec := { _root_.Go.OpenSpec.ofChange s with cond := some uptoSmall }

/-- 'locksteplaw14.HammockFinds', WHERE WHAT IT READS IS OF BULK AT MOST 1048576: true; the input reads as it did. -/
def hammockFindsUptoRow : OpenClaim := { program := "ytakameggkkjcpaagreat", sum := "e65326040ff00ce96fe36ac06df5961775ee01619b87f14f91b8a4ffea201255", func := "lockstep/locksteplaw14.HammockFinds", spec := "hammockFinds", unfollowed := true, recurses := true, apart := false, narrowed := true }
def HammockFindsUptoSaid : Prop := hammockFindsUptoRow.holds Tryz.pinned (OpenSpec.upto hammockFindsSpec)

/-- 'locksteplaw14.HammockApart', WHERE WHAT IT READS IS OF BULK AT MOST 1048576: true; the input reads as it did. -/
def hammockApartUptoRow : OpenClaim := { program := "ytakameggkkjcpaagreat", sum := "e65326040ff00ce96fe36ac06df5961775ee01619b87f14f91b8a4ffea201255", func := "lockstep/locksteplaw14.HammockApart", spec := "hammockApart", unfollowed := true, recurses := true, apart := false, narrowed := true }
def HammockApartUptoSaid : Prop := hammockApartUptoRow.holds Tryz.pinned (OpenSpec.upto hammockApartSpec)

/-- 'locksteplaw14.HammockCosts', WHERE WHAT IT READS IS OF BULK AT MOST 1048576: true; the input reads as it did. -/
def hammockCostsUptoRow : OpenClaim := { program := "ytakameggkkjcpaagreat", sum := "e65326040ff00ce96fe36ac06df5961775ee01619b87f14f91b8a4ffea201255", func := "lockstep/locksteplaw14.HammockCosts", spec := "hammockCosts", unfollowed := true, recurses := true, apart := false, narrowed := true }
def HammockCostsUptoSaid : Prop := hammockCostsUptoRow.holds Tryz.pinned (OpenSpec.upto hammockCostsSpec)

/-- 'locksteplaw14.HammockThree', WHERE WHAT IT READS IS OF BULK AT MOST 1048576: true; the input reads as it did. -/
def hammockThreeUptoRow : OpenClaim := { program := "ytakameggkkjcpaagreat", sum := "e65326040ff00ce96fe36ac06df5961775ee01619b87f14f91b8a4ffea201255", func := "lockstep/locksteplaw14.HammockThree", spec := "hammockThree", unfollowed := true, recurses := true, apart := false, narrowed := true }
def HammockThreeUptoSaid : Prop := hammockThreeUptoRow.holds Tryz.pinned (OpenSpec.upto hammockThreeSpec)

/-- 'locksteplaw14.HammockMeets', WHERE WHAT IT READS IS OF BULK AT MOST 1048576: true; the input reads as it did. -/
def hammockMeetsUptoRow : OpenClaim := { program := "ytakameggkkjcpaagreat", sum := "e65326040ff00ce96fe36ac06df5961775ee01619b87f14f91b8a4ffea201255", func := "lockstep/locksteplaw14.HammockMeets", spec := "hammockMeets", unfollowed := true, recurses := true, apart := false, narrowed := true }
def HammockMeetsUptoSaid : Prop := hammockMeetsUptoRow.holds Tryz.pinned (OpenSpec.upto hammockMeetsSpec)

end Rows
end Go.Proofs.YtakameggkkjcpaaGreat

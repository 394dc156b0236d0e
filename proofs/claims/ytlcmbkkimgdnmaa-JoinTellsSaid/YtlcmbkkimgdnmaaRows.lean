/-
  No cell of these rows narrows 'for every input' (looked for: loops, veiled, ifaces, maps, wideKeys, modest, calm, conditions, laid).
  DERIVED. THE GIVEN ROWS OF THIS SEAT. 8 by the template 'for every input the law returns true; each argument reads behind the call as it read before'; 0 by the template 'total and deterministic' (their statements: YtlcmbkkimgdnmaaTotals.lean).
  GIVEN WITH THE SEED: the statements are not yours to turn. If you find one false, say at which input.
  Laid BY PROGRAM, IN A SANDBOX (cutbox-rows.mjs): the forced cells as the released guide's own fill.sh prints them over the translation 1e08ccdcc978c279… (all of the seat's roots in one cut). By AI agents, Wed Nov 11 2026. No macro, syntax, notation, axiom, sorry.
-/
import Derived.Test.YtlcmbkkimgdnmaaChecked
import GoSem.Claim
import GoSem.ClaimJoined
import GoSem.ClaimMapViews
import Derived.JoinedTies
import Derived.KernelRfl
namespace Go.Proofs.Ytlcmbkkimgdnmaa
/- THE CELL 'sum', in the pinned program and in every row, IS THE sha256 OF THE DUMP (.gsa) THAT YtlcmbkkimgdnmaaProg.lean LOADS. Nothing in Lean hashes anything: it is a label: what it is worth is what the hold of that sum in a sandbox is worth. -/
noncomputable def Try.pinned : Pinned := { name := "ytlcmbkkimgdnmaa", sum := "1e08ccdcc978c27995486ee44c8df1c480958ef6c0be789e630153851ff9ffd7", checked := Try.checked }
namespace Rows
def none {H : Type} : Left H := { results := [], args := [] }

/-- 'burgagelaw14.PartNumbers': WHATEVER THE INPUT: true; the input reads as it did. -/
def partNumbersSpec : ChangeSpec := { name := "partNumbers", fn := fun _ => fun
  | [] => { results := [.lit (.bool true)], args := [] }
  | _ => none }
def partNumbersRow : OpenClaim := { program := "ytlcmbkkimgdnmaa", sum := "1e08ccdcc978c27995486ee44c8df1c480958ef6c0be789e630153851ff9ffd7", func := "burgage/burgagelaw14.PartNumbers", spec := "partNumbers", unfollowed := true, recurses := true, apart := false }
def PartNumbersSaid : Prop := partNumbersRow.holds Try.pinned (OpenSpec.ofChange partNumbersSpec)

/-- ITS FALSE NEIGHBOUR: 'it returns false'. Refute it at one input. -/
def partNumbersWrong : ChangeSpec := { name := "partNumbers", fn := fun _ => fun
  | [] => { results := [.lit (.bool false)], args := [] }
  | _ => none }
def PartNumbersWrongFalsely : Prop := partNumbersRow.holds Try.pinned (OpenSpec.ofChange partNumbersWrong)

/-- 'burgagelaw14.PartTells': WHATEVER THE INPUT: true; the input reads as it did. -/
def partTellsSpec : ChangeSpec := { name := "partTells", fn := fun _ => fun
  | [d1, d2, d3, d4, d5, d6, d7] => { results := [.lit (.bool true)], args := [d1, d2, d3, d4, d5, d6, d7] }
  | _ => none }
def partTellsRow : OpenClaim := { program := "ytlcmbkkimgdnmaa", sum := "1e08ccdcc978c27995486ee44c8df1c480958ef6c0be789e630153851ff9ffd7", func := "burgage/burgagelaw14.PartTells", spec := "partTells", unfollowed := true, recurses := true, apart := false }
def PartTellsSaid : Prop := partTellsRow.holds Try.pinned (OpenSpec.ofChange partTellsSpec)

/-- ITS FALSE NEIGHBOUR: 'it returns false'. Refute it at one input. -/
def partTellsWrong : ChangeSpec := { name := "partTells", fn := fun _ => fun
  | [d1, d2, d3, d4, d5, d6, d7] => { results := [.lit (.bool false)], args := [d1, d2, d3, d4, d5, d6, d7] }
  | _ => none }
def PartTellsWrongFalsely : Prop := partTellsRow.holds Try.pinned (OpenSpec.ofChange partTellsWrong)

/-- 'burgagelaw14.PartWithin': WHATEVER THE INPUT: true; the input reads as it did. -/
def partWithinSpec : ChangeSpec := { name := "partWithin", fn := fun _ => fun
  | [d1, d2, d3] => { results := [.lit (.bool true)], args := [d1, d2, d3] }
  | _ => none }
def partWithinRow : OpenClaim := { program := "ytlcmbkkimgdnmaa", sum := "1e08ccdcc978c27995486ee44c8df1c480958ef6c0be789e630153851ff9ffd7", func := "burgage/burgagelaw14.PartWithin", spec := "partWithin", unfollowed := true, recurses := true, apart := false }
def PartWithinSaid : Prop := partWithinRow.holds Try.pinned (OpenSpec.ofChange partWithinSpec)

/-- ITS FALSE NEIGHBOUR: 'it returns false'. Refute it at one input. -/
def partWithinWrong : ChangeSpec := { name := "partWithin", fn := fun _ => fun
  | [d1, d2, d3] => { results := [.lit (.bool false)], args := [d1, d2, d3] }
  | _ => none }
def PartWithinWrongFalsely : Prop := partWithinRow.holds Try.pinned (OpenSpec.ofChange partWithinWrong)

/-- 'burgagelaw14.PartFunctions': WHATEVER THE INPUT: true; the input reads as it did. -/
def partFunctionsSpec : ChangeSpec := { name := "partFunctions", fn := fun _ => fun
  | [d1, d2, d3, d4] => { results := [.lit (.bool true)], args := [d1, d2, d3, d4] }
  | _ => none }
def partFunctionsRow : OpenClaim := { program := "ytlcmbkkimgdnmaa", sum := "1e08ccdcc978c27995486ee44c8df1c480958ef6c0be789e630153851ff9ffd7", func := "burgage/burgagelaw14.PartFunctions", spec := "partFunctions", unfollowed := true, recurses := true, apart := false }
def PartFunctionsSaid : Prop := partFunctionsRow.holds Try.pinned (OpenSpec.ofChange partFunctionsSpec)

/-- ITS FALSE NEIGHBOUR: 'it returns false'. Refute it at one input. -/
def partFunctionsWrong : ChangeSpec := { name := "partFunctions", fn := fun _ => fun
  | [d1, d2, d3, d4] => { results := [.lit (.bool false)], args := [d1, d2, d3, d4] }
  | _ => none }
def PartFunctionsWrongFalsely : Prop := partFunctionsRow.holds Try.pinned (OpenSpec.ofChange partFunctionsWrong)

/-- 'burgagelaw14.PartMany': WHATEVER THE INPUT: true; the input reads as it did. -/
def partManySpec : ChangeSpec := { name := "partMany", fn := fun _ => fun
  | [d1, d2] => { results := [.lit (.bool true)], args := [d1, d2] }
  | _ => none }
def partManyRow : OpenClaim := { program := "ytlcmbkkimgdnmaa", sum := "1e08ccdcc978c27995486ee44c8df1c480958ef6c0be789e630153851ff9ffd7", func := "burgage/burgagelaw14.PartMany", spec := "partMany", unfollowed := true, recurses := true, apart := false }
def PartManySaid : Prop := partManyRow.holds Try.pinned (OpenSpec.ofChange partManySpec)

/-- ITS FALSE NEIGHBOUR: 'it returns false'. Refute it at one input. -/
def partManyWrong : ChangeSpec := { name := "partMany", fn := fun _ => fun
  | [d1, d2] => { results := [.lit (.bool false)], args := [d1, d2] }
  | _ => none }
def PartManyWrongFalsely : Prop := partManyRow.holds Try.pinned (OpenSpec.ofChange partManyWrong)

/-- 'burgagelaw15.JoinNumbers': WHATEVER THE INPUT: true; the input reads as it did. -/
def joinNumbersSpec : ChangeSpec := { name := "joinNumbers", fn := fun _ => fun
  | [] => { results := [.lit (.bool true)], args := [] }
  | _ => none }
def joinNumbersRow : OpenClaim := { program := "ytlcmbkkimgdnmaa", sum := "1e08ccdcc978c27995486ee44c8df1c480958ef6c0be789e630153851ff9ffd7", func := "burgage/burgagelaw15.JoinNumbers", spec := "joinNumbers", unfollowed := true, recurses := true, apart := false }
def JoinNumbersSaid : Prop := joinNumbersRow.holds Try.pinned (OpenSpec.ofChange joinNumbersSpec)

/-- ITS FALSE NEIGHBOUR: 'it returns false'. Refute it at one input. -/
def joinNumbersWrong : ChangeSpec := { name := "joinNumbers", fn := fun _ => fun
  | [] => { results := [.lit (.bool false)], args := [] }
  | _ => none }
def JoinNumbersWrongFalsely : Prop := joinNumbersRow.holds Try.pinned (OpenSpec.ofChange joinNumbersWrong)

/-- 'burgagelaw15.JoinTells': WHATEVER THE INPUT: true; the input reads as it did. -/
def joinTellsSpec : ChangeSpec := { name := "joinTells", fn := fun _ => fun
  | [d1, d2, d3, d4, d5, d6, d7] => { results := [.lit (.bool true)], args := [d1, d2, d3, d4, d5, d6, d7] }
  | _ => none }
def joinTellsRow : OpenClaim := { program := "ytlcmbkkimgdnmaa", sum := "1e08ccdcc978c27995486ee44c8df1c480958ef6c0be789e630153851ff9ffd7", func := "burgage/burgagelaw15.JoinTells", spec := "joinTells", unfollowed := true, recurses := true, apart := false }
def JoinTellsSaid : Prop := joinTellsRow.holds Try.pinned (OpenSpec.ofChange joinTellsSpec)

/-- ITS FALSE NEIGHBOUR: 'it returns false'. Refute it at one input. -/
def joinTellsWrong : ChangeSpec := { name := "joinTells", fn := fun _ => fun
  | [d1, d2, d3, d4, d5, d6, d7] => { results := [.lit (.bool false)], args := [d1, d2, d3, d4, d5, d6, d7] }
  | _ => none }
def JoinTellsWrongFalsely : Prop := joinTellsRow.holds Try.pinned (OpenSpec.ofChange joinTellsWrong)

/-- 'burgagelaw15.JoinFails': WHATEVER THE INPUT: true; the input reads as it did. -/
def joinFailsSpec : ChangeSpec := { name := "joinFails", fn := fun _ => fun
  | [d1, d2, d3, d4, d5, d6] => { results := [.lit (.bool true)], args := [d1, d2, d3, d4, d5, d6] }
  | _ => none }
def joinFailsRow : OpenClaim := { program := "ytlcmbkkimgdnmaa", sum := "1e08ccdcc978c27995486ee44c8df1c480958ef6c0be789e630153851ff9ffd7", func := "burgage/burgagelaw15.JoinFails", spec := "joinFails", unfollowed := true, recurses := true, apart := false }
def JoinFailsSaid : Prop := joinFailsRow.holds Try.pinned (OpenSpec.ofChange joinFailsSpec)

/-- ITS FALSE NEIGHBOUR: 'it returns false'. Refute it at one input. -/
def joinFailsWrong : ChangeSpec := { name := "joinFails", fn := fun _ => fun
  | [d1, d2, d3, d4, d5, d6] => { results := [.lit (.bool false)], args := [d1, d2, d3, d4, d5, d6] }
  | _ => none }
def JoinFailsWrongFalsely : Prop := joinFailsRow.holds Try.pinned (OpenSpec.ofChange joinFailsWrong)

/- THE SECOND FORM. 'bulk': how many values and letters a reading holds, each counted each time it is reached (what is shared counts as often as it is met; a slice's spare places count too). A statement '..UptoSaid' is the law's where the arguments, and the package variables that the reading takes, are together of bulk at most 1048576: NARROWER than '..Said'. Prove '..Said' where nothing that the law and all that it calls make is longer than what came in: it says more and counts as full. Else prove '..UptoSaid'. A law counts once. -/
mutual
def uptoBulk {H : Type} : DataW H → Nat
  | .lit (.string bytes) => bytes.length + 1
  | .lit _ => 1
  | .nil => 1
  | .ptr d => uptoBulk d + 1
  | .slice elems spare => uptoBulkAll elems + uptoBulkAll spare + 1
  | .agg parts => uptoBulkAll parts + 1
  | .iface _ d => uptoBulk d + 1
  | .map entries => uptoBulkEntries entries + 1
  | .held _ => 1
def uptoBulkAll {H : Type} : List (DataW H) → Nat
  | [] => 0
  | d :: r => uptoBulk d + uptoBulkAll r
def uptoBulkEntries {H : Type} : List (Lit × DataW H) → Nat
  | [] => 0
  | x :: r => uptoBulkEntry x + uptoBulkEntries r
def uptoBulkEntry {H : Type} : Lit × DataW H → Nat
  | (.string bytes, d) => bytes.length + uptoBulk d + 1
  | (_, d) => uptoBulk d + 1
 end
def uptoSmall : (H : Type) → List (DataW H) → Bool := fun _ ds => decide (uptoBulkAll ds ≤ 1048576)
def OpenSpec.upto (s : _root_.Go.ChangeSpec) : _root_.Go.OpenSpec := { _root_.Go.OpenSpec.ofChange s with cond := some uptoSmall }

/-- 'burgagelaw14.PartNumbers', WHERE WHAT IT READS IS OF BULK AT MOST 1048576: true; the input reads as it did. -/
def partNumbersUptoRow : OpenClaim := { program := "ytlcmbkkimgdnmaa", sum := "1e08ccdcc978c27995486ee44c8df1c480958ef6c0be789e630153851ff9ffd7", func := "burgage/burgagelaw14.PartNumbers", spec := "partNumbers", unfollowed := true, recurses := true, apart := false, narrowed := true }
def PartNumbersUptoSaid : Prop := partNumbersUptoRow.holds Try.pinned (OpenSpec.upto partNumbersSpec)

/-- 'burgagelaw14.PartTells', WHERE WHAT IT READS IS OF BULK AT MOST 1048576: true; the input reads as it did. -/
def partTellsUptoRow : OpenClaim := { program := "ytlcmbkkimgdnmaa", sum := "1e08ccdcc978c27995486ee44c8df1c480958ef6c0be789e630153851ff9ffd7", func := "burgage/burgagelaw14.PartTells", spec := "partTells", unfollowed := true, recurses := true, apart := false, narrowed := true }
def PartTellsUptoSaid : Prop := partTellsUptoRow.holds Try.pinned (OpenSpec.upto partTellsSpec)

/-- 'burgagelaw14.PartWithin', WHERE WHAT IT READS IS OF BULK AT MOST 1048576: true; the input reads as it did. -/
def partWithinUptoRow : OpenClaim := { program := "ytlcmbkkimgdnmaa", sum := "1e08ccdcc978c27995486ee44c8df1c480958ef6c0be789e630153851ff9ffd7", func := "burgage/burgagelaw14.PartWithin", spec := "partWithin", unfollowed := true, recurses := true, apart := false, narrowed := true }
def PartWithinUptoSaid : Prop := partWithinUptoRow.holds Try.pinned (OpenSpec.upto partWithinSpec)

/-- 'burgagelaw14.PartFunctions', WHERE WHAT IT READS IS OF BULK AT MOST 1048576: true; the input reads as it did. -/
def partFunctionsUptoRow : OpenClaim := { program := "ytlcmbkkimgdnmaa", sum := "1e08ccdcc978c27995486ee44c8df1c480958ef6c0be789e630153851ff9ffd7", func := "burgage/burgagelaw14.PartFunctions", spec := "partFunctions", unfollowed := true, recurses := true, apart := false, narrowed := true }
def PartFunctionsUptoSaid : Prop := partFunctionsUptoRow.holds Try.pinned (OpenSpec.upto partFunctionsSpec)

/-- 'burgagelaw14.PartMany', WHERE WHAT IT READS IS OF BULK AT MOST 1048576: true; the input reads as it did. -/
def partManyUptoRow : OpenClaim := { program := "ytlcmbkkimgdnmaa", sum := "1e08ccdcc978c27995486ee44c8df1c480958ef6c0be789e630153851ff9ffd7", func := "burgage/burgagelaw14.PartMany", spec := "partMany", unfollowed := true, recurses := true, apart := false, narrowed := true }
def PartManyUptoSaid : Prop := partManyUptoRow.holds Try.pinned (OpenSpec.upto partManySpec)

/-- 'burgagelaw15.JoinNumbers', WHERE WHAT IT READS IS OF BULK AT MOST 1048576: true; the input reads as it did. -/
def joinNumbersUptoRow : OpenClaim := { program := "ytlcmbkkimgdnmaa", sum := "1e08ccdcc978c27995486ee44c8df1c480958ef6c0be789e630153851ff9ffd7", func := "burgage/burgagelaw15.JoinNumbers", spec := "joinNumbers", unfollowed := true, recurses := true, apart := false, narrowed := true }
def JoinNumbersUptoSaid : Prop := joinNumbersUptoRow.holds Try.pinned (OpenSpec.upto joinNumbersSpec)

/-- 'burgagelaw15.JoinTells', WHERE WHAT IT READS IS OF BULK AT MOST 1048576: true; the input reads as it did. -/
def joinTellsUptoRow : OpenClaim := { program := "ytlcmbkkimgdnmaa", sum := "1e08ccdcc978c27995486ee44c8df1c480958ef6c0be789e630153851ff9ffd7", func := "burgage/burgagelaw15.JoinTells", spec := "joinTells", unfollowed := true, recurses := true, apart := false, narrowed := true }
def JoinTellsUptoSaid : Prop := joinTellsUptoRow.holds Try.pinned (OpenSpec.upto joinTellsSpec)

/-- 'burgagelaw15.JoinFails', WHERE WHAT IT READS IS OF BULK AT MOST 1048576: true; the input reads as it did. -/
def joinFailsUptoRow : OpenClaim := { program := "ytlcmbkkimgdnmaa", sum := "1e08ccdcc978c27995486ee44c8df1c480958ef6c0be789e630153851ff9ffd7", func := "burgage/burgagelaw15.JoinFails", spec := "joinFails", unfollowed := true, recurses := true, apart := false, narrowed := true }
def JoinFailsUptoSaid : Prop := joinFailsUptoRow.holds Try.pinned (OpenSpec.upto joinFailsSpec)

end Rows
end Go.Proofs.Ytlcmbkkimgdnmaa

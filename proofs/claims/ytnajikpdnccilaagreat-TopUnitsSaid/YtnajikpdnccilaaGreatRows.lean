/-
  No cell of these rows narrows 'for every input' (looked for: loops, veiled, ifaces, maps, wideKeys, modest, calm, conditions, laid).
  DERIVED. THE GIVEN ROWS OF THIS SEAT. 3 by the template 'for every input the law returns true; each argument reads behind the call as it read before'; 0 by the template 'total and deterministic' (their statements: YtnajikpdnccilaaGreatTotals.lean).
  GIVEN WITH THE SEED: the statements are not yours to turn. If you find one false, say at which input.
  Laid BY PROGRAM, IN A SANDBOX (cutbox-rows.mjs): the forced cells as the released guide's own fill.sh prints them over the translation 87982c43738560c1… (all of the seat's roots in one cut). By AI agents, Wed Nov 11 2026. No macro, syntax, notation, axiom, sorry.
-/
import Derived.Test.YtnajikpdnccilaaGreatChecked
import GoSem.Claim
import GoSem.ClaimJoined
import GoSem.ClaimMapViews
import Derived.JoinedTies
import Derived.KernelRfl
namespace Go.Proofs.YtnajikpdnccilaaGreat
/- THE CELL 'sum', in the pinned program and in every row, IS THE sha256 OF THE DUMP (.gsa) THAT YtnajikpdnccilaaGreatProg.lean LOADS. Nothing in Lean hashes anything: it is a label: what it is worth is what the hold of that sum in a sandbox is worth. -/
noncomputable def Tryz.pinned : Pinned := { name := "ytnajikpdnccilaagreat", sum := "87982c43738560c1011dc8eb3f85db061d2535ac89f6efefd9188f8242990d91", checked := Tryz.checked }
namespace Rows
def none {H : Type} : Left H := { results := [], args := [] }

/-- 'burgagetop.TopFull': WHATEVER THE INPUT: true; the input reads as it did. -/
def topFullSpec : ChangeSpec := { name := "topFull", fn := fun _ => fun
  | [d1, d2] => { results := [.lit (.bool true)], args := [d1, d2] }
  | _ => none }
def topFullRow : OpenClaim := { program := "ytnajikpdnccilaagreat", sum := "87982c43738560c1011dc8eb3f85db061d2535ac89f6efefd9188f8242990d91", func := "burgage/burgagetop.TopFull", spec := "topFull", unfollowed := true, recurses := true, apart := false }
def TopFullSaid : Prop := topFullRow.holds Tryz.pinned (OpenSpec.ofChange topFullSpec)

/-- ITS FALSE NEIGHBOUR: 'it returns false'. Refute it at one input. -/
def topFullWrong : ChangeSpec := { name := "topFull", fn := fun _ => fun
  | [d1, d2] => { results := [.lit (.bool false)], args := [d1, d2] }
  | _ => none }
def TopFullWrongFalsely : Prop := topFullRow.holds Tryz.pinned (OpenSpec.ofChange topFullWrong)

/-- 'burgagetop.TopFaults': WHATEVER THE INPUT: true; the input reads as it did. -/
def topFaultsSpec : ChangeSpec := { name := "topFaults", fn := fun _ => fun
  | [d1, d2, d3, d4] => { results := [.lit (.bool true)], args := [d1, d2, d3, d4] }
  | _ => none }
def topFaultsRow : OpenClaim := { program := "ytnajikpdnccilaagreat", sum := "87982c43738560c1011dc8eb3f85db061d2535ac89f6efefd9188f8242990d91", func := "burgage/burgagetop.TopFaults", spec := "topFaults", unfollowed := true, recurses := true, apart := false }
def TopFaultsSaid : Prop := topFaultsRow.holds Tryz.pinned (OpenSpec.ofChange topFaultsSpec)

/-- ITS FALSE NEIGHBOUR: 'it returns false'. Refute it at one input. -/
def topFaultsWrong : ChangeSpec := { name := "topFaults", fn := fun _ => fun
  | [d1, d2, d3, d4] => { results := [.lit (.bool false)], args := [d1, d2, d3, d4] }
  | _ => none }
def TopFaultsWrongFalsely : Prop := topFaultsRow.holds Tryz.pinned (OpenSpec.ofChange topFaultsWrong)

/-- 'burgagetop.TopUnits': WHATEVER THE INPUT: true; the input reads as it did. -/
def topUnitsSpec : ChangeSpec := { name := "topUnits", fn := fun _ => fun
  | [d1, d2] => { results := [.lit (.bool true)], args := [d1, d2] }
  | _ => none }
def topUnitsRow : OpenClaim := { program := "ytnajikpdnccilaagreat", sum := "87982c43738560c1011dc8eb3f85db061d2535ac89f6efefd9188f8242990d91", func := "burgage/burgagetop.TopUnits", spec := "topUnits", unfollowed := true, recurses := true, apart := false }
def TopUnitsSaid : Prop := topUnitsRow.holds Tryz.pinned (OpenSpec.ofChange topUnitsSpec)

/-- ITS FALSE NEIGHBOUR: 'it returns false'. Refute it at one input. -/
def topUnitsWrong : ChangeSpec := { name := "topUnits", fn := fun _ => fun
  | [d1, d2] => { results := [.lit (.bool false)], args := [d1, d2] }
  | _ => none }
def TopUnitsWrongFalsely : Prop := topUnitsRow.holds Tryz.pinned (OpenSpec.ofChange topUnitsWrong)

/- THE SECOND FORM. 'bulk': how many values and letters a reading holds, each counted each time it is reached (what is shared counts as often as it is met; a slice's spare places count too). A statement '..UptoSaid' is the law's where the arguments, and the package variables that the reading takes, are together of bulk at most 1048576: NARROWER than '..Said'. Prove '..Said' where nothing that the law and all that it calls make is longer than what came in: it says more and counts as full. Else prove '..UptoSaid'. A law counts once. -/
mutual
def uptoBulk {H : Type} : DataW H → Nat
  | .lit (.string bytes) => bytes.length + 1
  | .lit _ => 1
  | .nil => 1
  | .ptr d => uptoBulk d + 1
  | .slice elems spare => uptoBulkAll elems + uptoBulkAll spare + 1
  | .agg parts => uptoBulkAll parts + 1
  | .iface _ d => uptoBulk d + 1
  | .map entries => uptoBulkEntries entries + 1
  | .held _ => 1
def uptoBulkAll {H : Type} : List (DataW H) → Nat
  | [] => 0
  | d :: r => uptoBulk d + uptoBulkAll r
def uptoBulkEntries {H : Type} : List (Lit × DataW H) → Nat
  | [] => 0
  | x :: r => uptoBulkEntry x + uptoBulkEntries r
def uptoBulkEntry {H : Type} : Lit × DataW H → Nat
  | (.string bytes, d) => bytes.length + uptoBulk d + 1
  | (_, d) => uptoBulk d + 1
 end
def uptoSmall : (H : Type) → List (DataW H) → Bool := fun _ ds => decide (uptoBulkAll ds ≤ 1048576)
def OpenSpec.upto (s : _root_.Go.ChangeSpec) : _root_.Go.OpenSpec := { _root_.Go.OpenSpec.ofChange s with cond := some uptoSmall }

/-- 'burgagetop.TopFull', WHERE WHAT IT READS IS OF BULK AT MOST 1048576: true; the input reads as it did. -/
def topFullUptoRow : OpenClaim := { program := "ytnajikpdnccilaagreat", sum := "87982c43738560c1011dc8eb3f85db061d2535ac89f6efefd9188f8242990d91", func := "burgage/burgagetop.TopFull", spec := "topFull", unfollowed := true, recurses := true, apart := false, narrowed := true }
def TopFullUptoSaid : Prop := topFullUptoRow.holds Tryz.pinned (OpenSpec.upto topFullSpec)

/-- 'burgagetop.TopFaults', WHERE WHAT IT READS IS OF BULK AT MOST 1048576: true; the input reads as it did. -/
def topFaultsUptoRow : OpenClaim := { program := "ytnajikpdnccilaagreat", sum := "87982c43738560c1011dc8eb3f85db061d2535ac89f6efefd9188f8242990d91", func := "burgage/burgagetop.TopFaults", spec := "topFaults", unfollowed := true, recurses := true, apart := false, narrowed := true }
def TopFaultsUptoSaid : Prop := topFaultsUptoRow.holds Tryz.pinned (OpenSpec.upto topFaultsSpec)

/-- 'burgagetop.TopUnits', WHERE WHAT IT READS IS OF BULK AT MOST 1048576: true; the input reads as it did. -/
def topUnitsUptoRow : OpenClaim := { program := "ytnajikpdnccilaagreat", sum := "87982c43738560c1011dc8eb3f85db061d2535ac89f6efefd9188f8242990d91", func := "burgage/burgagetop.TopUnits", spec := "topUnits", unfollowed := true, recurses := true, apart := false, narrowed := true }
def TopUnitsUptoSaid : Prop := topUnitsUptoRow.holds Tryz.pinned (OpenSpec.upto topUnitsSpec)

end Rows
end Go.Proofs.YtnajikpdnccilaaGreat

/-
  No cell of these rows narrows 'for every input' (looked for: loops, veiled, ifaces, maps, wideKeys, modest, calm, conditions, laid).
  DERIVED. THE GIVEN ROWS OF THIS SEAT. 10 by the template 'for every input the law returns true; each argument reads behind the call as it read before'; 0 by the template 'total and deterministic' (their statements: YtigpfkcjpjhflaaTotals.lean).
  GIVEN WITH THE SEED: the statements are not yours to turn. If you find one false, say at which input.
  Laid BY PROGRAM, IN A SANDBOX (cutbox-rows.mjs): the forced cells as the released guide's own fill.sh prints them over the translation 686a9ba66308b499… (all of the seat's roots in one cut). By AI agents, Wed Nov 11 2026. No macro, syntax, notation, axiom, sorry.
-/
import Derived.Test.YtigpfkcjpjhflaaChecked
import GoSem.Claim
import GoSem.ClaimJoined
import GoSem.ClaimMapViews
import Derived.JoinedTies
import Derived.KernelRfl
namespace Go.Proofs.Ytigpfkcjpjhflaa
/- THE CELL 'sum', in the pinned program and in every row, IS THE sha256 OF THE DUMP (.gsa) THAT YtigpfkcjpjhflaaProg.lean LOADS. Nothing in Lean hashes anything: it is a label: what it is worth is what the hold of that sum in a sandbox is worth. -/
noncomputable def Try.pinned : Pinned := { name := "ytigpfkcjpjhflaa", sum := "686a9ba66308b499eab7f0b5ef6a52e8baa43e8dc86e32b891270e622c1d4eed", checked := Try.checked }
namespace Rows
def none {H : Type} : Left H := { results := [], args := [] }

/-- 'burgagelaw3.PduCounts': WHATEVER THE INPUT: true; the input reads as it did. -/
def pduCountsSpec : ChangeSpec := { name := "pduCounts", fn := fun _ => fun
  | [d1, d2] => { results := [.lit (.bool true)], args := [d1, d2] }
  | _ => none }
def pduCountsRow : OpenClaim := { program := "ytigpfkcjpjhflaa", sum := "686a9ba66308b499eab7f0b5ef6a52e8baa43e8dc86e32b891270e622c1d4eed", func := "burgage/burgagelaw3.PduCounts", spec := "pduCounts", apart := false }
def PduCountsSaid : Prop := pduCountsRow.holds Try.pinned (OpenSpec.ofChange pduCountsSpec)

/-- ITS FALSE NEIGHBOUR: 'it returns false'. Refute it at one input. -/
def pduCountsWrong : ChangeSpec := { name := "pduCounts", fn := fun _ => fun
  | [d1, d2] => { results := [.lit (.bool false)], args := [d1, d2] }
  | _ => none }
def PduCountsWrongFalsely : Prop := pduCountsRow.holds Try.pinned (OpenSpec.ofChange pduCountsWrong)

/-- 'burgagelaw3.PduFields': WHATEVER THE INPUT: true; the input reads as it did. -/
def pduFieldsSpec : ChangeSpec := { name := "pduFields", fn := fun _ => fun
  | [d1, d2] => { results := [.lit (.bool true)], args := [d1, d2] }
  | _ => none }
def pduFieldsRow : OpenClaim := { program := "ytigpfkcjpjhflaa", sum := "686a9ba66308b499eab7f0b5ef6a52e8baa43e8dc86e32b891270e622c1d4eed", func := "burgage/burgagelaw3.PduFields", spec := "pduFields", apart := false }
def PduFieldsSaid : Prop := pduFieldsRow.holds Try.pinned (OpenSpec.ofChange pduFieldsSpec)

/-- ITS FALSE NEIGHBOUR: 'it returns false'. Refute it at one input. -/
def pduFieldsWrong : ChangeSpec := { name := "pduFields", fn := fun _ => fun
  | [d1, d2] => { results := [.lit (.bool false)], args := [d1, d2] }
  | _ => none }
def PduFieldsWrongFalsely : Prop := pduFieldsRow.holds Try.pinned (OpenSpec.ofChange pduFieldsWrong)

/-- 'burgagelaw3.PduNumbers': WHATEVER THE INPUT: true; the input reads as it did. -/
def pduNumbersSpec : ChangeSpec := { name := "pduNumbers", fn := fun _ => fun
  | [] => { results := [.lit (.bool true)], args := [] }
  | _ => none }
def pduNumbersRow : OpenClaim := { program := "ytigpfkcjpjhflaa", sum := "686a9ba66308b499eab7f0b5ef6a52e8baa43e8dc86e32b891270e622c1d4eed", func := "burgage/burgagelaw3.PduNumbers", spec := "pduNumbers", apart := false }
def PduNumbersSaid : Prop := pduNumbersRow.holds Try.pinned (OpenSpec.ofChange pduNumbersSpec)

/-- ITS FALSE NEIGHBOUR: 'it returns false'. Refute it at one input. -/
def pduNumbersWrong : ChangeSpec := { name := "pduNumbers", fn := fun _ => fun
  | [] => { results := [.lit (.bool false)], args := [] }
  | _ => none }
def PduNumbersWrongFalsely : Prop := pduNumbersRow.holds Try.pinned (OpenSpec.ofChange pduNumbersWrong)

/-- 'burgagelaw3.PduTells': WHATEVER THE INPUT: true; the input reads as it did. -/
def pduTellsSpec : ChangeSpec := { name := "pduTells", fn := fun _ => fun
  | [d1, d2, d3, d4, d5, d6, d7] => { results := [.lit (.bool true)], args := [d1, d2, d3, d4, d5, d6, d7] }
  | _ => none }
def pduTellsRow : OpenClaim := { program := "ytigpfkcjpjhflaa", sum := "686a9ba66308b499eab7f0b5ef6a52e8baa43e8dc86e32b891270e622c1d4eed", func := "burgage/burgagelaw3.PduTells", spec := "pduTells", apart := false }
def PduTellsSaid : Prop := pduTellsRow.holds Try.pinned (OpenSpec.ofChange pduTellsSpec)

/-- ITS FALSE NEIGHBOUR: 'it returns false'. Refute it at one input. -/
def pduTellsWrong : ChangeSpec := { name := "pduTells", fn := fun _ => fun
  | [d1, d2, d3, d4, d5, d6, d7] => { results := [.lit (.bool false)], args := [d1, d2, d3, d4, d5, d6, d7] }
  | _ => none }
def PduTellsWrongFalsely : Prop := pduTellsRow.holds Try.pinned (OpenSpec.ofChange pduTellsWrong)

/-- 'burgagelaw3.PduBack': WHATEVER THE INPUT: true; the input reads as it did. -/
def pduBackSpec : ChangeSpec := { name := "pduBack", fn := fun _ => fun
  | [d1, d2] => { results := [.lit (.bool true)], args := [d1, d2] }
  | _ => none }
def pduBackRow : OpenClaim := { program := "ytigpfkcjpjhflaa", sum := "686a9ba66308b499eab7f0b5ef6a52e8baa43e8dc86e32b891270e622c1d4eed", func := "burgage/burgagelaw3.PduBack", spec := "pduBack", apart := false }
def PduBackSaid : Prop := pduBackRow.holds Try.pinned (OpenSpec.ofChange pduBackSpec)

/-- ITS FALSE NEIGHBOUR: 'it returns false'. Refute it at one input. -/
def pduBackWrong : ChangeSpec := { name := "pduBack", fn := fun _ => fun
  | [d1, d2] => { results := [.lit (.bool false)], args := [d1, d2] }
  | _ => none }
def PduBackWrongFalsely : Prop := pduBackRow.holds Try.pinned (OpenSpec.ofChange pduBackWrong)

/-- 'burgagelaw14.PartNumbers': WHATEVER THE INPUT: true; the input reads as it did. -/
def partNumbersSpec : ChangeSpec := { name := "partNumbers", fn := fun _ => fun
  | [] => { results := [.lit (.bool true)], args := [] }
  | _ => none }
def partNumbersRow : OpenClaim := { program := "ytigpfkcjpjhflaa", sum := "686a9ba66308b499eab7f0b5ef6a52e8baa43e8dc86e32b891270e622c1d4eed", func := "burgage/burgagelaw14.PartNumbers", spec := "partNumbers", unfollowed := true, recurses := true, apart := false }
def PartNumbersSaid : Prop := partNumbersRow.holds Try.pinned (OpenSpec.ofChange partNumbersSpec)

/-- ITS FALSE NEIGHBOUR: 'it returns false'. Refute it at one input. -/
def partNumbersWrong : ChangeSpec := { name := "partNumbers", fn := fun _ => fun
  | [] => { results := [.lit (.bool false)], args := [] }
  | _ => none }
def PartNumbersWrongFalsely : Prop := partNumbersRow.holds Try.pinned (OpenSpec.ofChange partNumbersWrong)

/-- 'burgagelaw14.PartTells': WHATEVER THE INPUT: true; the input reads as it did. -/
def partTellsSpec : ChangeSpec := { name := "partTells", fn := fun _ => fun
  | [d1, d2, d3, d4, d5, d6, d7] => { results := [.lit (.bool true)], args := [d1, d2, d3, d4, d5, d6, d7] }
  | _ => none }
def partTellsRow : OpenClaim := { program := "ytigpfkcjpjhflaa", sum := "686a9ba66308b499eab7f0b5ef6a52e8baa43e8dc86e32b891270e622c1d4eed", func := "burgage/burgagelaw14.PartTells", spec := "partTells", unfollowed := true, recurses := true, apart := false }
def PartTellsSaid : Prop := partTellsRow.holds Try.pinned (OpenSpec.ofChange partTellsSpec)

/-- ITS FALSE NEIGHBOUR: 'it returns false'. Refute it at one input. -/
def partTellsWrong : ChangeSpec := { name := "partTells", fn := fun _ => fun
  | [d1, d2, d3, d4, d5, d6, d7] => { results := [.lit (.bool false)], args := [d1, d2, d3, d4, d5, d6, d7] }
  | _ => none }
def PartTellsWrongFalsely : Prop := partTellsRow.holds Try.pinned (OpenSpec.ofChange partTellsWrong)

/-- 'burgagelaw14.PartWithin': WHATEVER THE INPUT: true; the input reads as it did. -/
def partWithinSpec : ChangeSpec := { name := "partWithin", fn := fun _ => fun
  | [d1, d2, d3] => { results := [.lit (.bool true)], args := [d1, d2, d3] }
  | _ => none }
def partWithinRow : OpenClaim := { program := "ytigpfkcjpjhflaa", sum := "686a9ba66308b499eab7f0b5ef6a52e8baa43e8dc86e32b891270e622c1d4eed", func := "burgage/burgagelaw14.PartWithin", spec := "partWithin", unfollowed := true, recurses := true, apart := false }
def PartWithinSaid : Prop := partWithinRow.holds Try.pinned (OpenSpec.ofChange partWithinSpec)

/-- ITS FALSE NEIGHBOUR: 'it returns false'. Refute it at one input. -/
def partWithinWrong : ChangeSpec := { name := "partWithin", fn := fun _ => fun
  | [d1, d2, d3] => { results := [.lit (.bool false)], args := [d1, d2, d3] }
  | _ => none }
def PartWithinWrongFalsely : Prop := partWithinRow.holds Try.pinned (OpenSpec.ofChange partWithinWrong)

/-- 'burgagelaw14.PartFunctions': WHATEVER THE INPUT: true; the input reads as it did. -/
def partFunctionsSpec : ChangeSpec := { name := "partFunctions", fn := fun _ => fun
  | [d1, d2, d3, d4] => { results := [.lit (.bool true)], args := [d1, d2, d3, d4] }
  | _ => none }
def partFunctionsRow : OpenClaim := { program := "ytigpfkcjpjhflaa", sum := "686a9ba66308b499eab7f0b5ef6a52e8baa43e8dc86e32b891270e622c1d4eed", func := "burgage/burgagelaw14.PartFunctions", spec := "partFunctions", unfollowed := true, recurses := true, apart := false }
def PartFunctionsSaid : Prop := partFunctionsRow.holds Try.pinned (OpenSpec.ofChange partFunctionsSpec)

/-- ITS FALSE NEIGHBOUR: 'it returns false'. Refute it at one input. -/
def partFunctionsWrong : ChangeSpec := { name := "partFunctions", fn := fun _ => fun
  | [d1, d2, d3, d4] => { results := [.lit (.bool false)], args := [d1, d2, d3, d4] }
  | _ => none }
def PartFunctionsWrongFalsely : Prop := partFunctionsRow.holds Try.pinned (OpenSpec.ofChange partFunctionsWrong)

/-- 'burgagelaw14.PartMany': WHATEVER THE INPUT: true; the input reads as it did. -/
def partManySpec : ChangeSpec := { name := "partMany", fn := fun _ => fun
  | [d1, d2] => { results := [.lit (.bool true)], args := [d1, d2] }
  | _ => none }
def partManyRow : OpenClaim := { program := "ytigpfkcjpjhflaa", sum := "686a9ba66308b499eab7f0b5ef6a52e8baa43e8dc86e32b891270e622c1d4eed", func := "burgage/burgagelaw14.PartMany", spec := "partMany", unfollowed := true, recurses := true, apart := false }
def PartManySaid : Prop := partManyRow.holds Try.pinned (OpenSpec.ofChange partManySpec)

/-- ITS FALSE NEIGHBOUR: 'it returns false'. Refute it at one input. -/
def partManyWrong : ChangeSpec := { name := "partMany", fn := fun _ => fun
  | [d1, d2] => { results := [.lit (.bool false)], args := [d1, d2] }
  | _ => none }
def PartManyWrongFalsely : Prop := partManyRow.holds Try.pinned (OpenSpec.ofChange partManyWrong)

/- THE SECOND FORM. 'bulk': how many values and letters a reading holds, each counted each time it is reached (what is shared counts as often as it is met; a slice's spare places count too). A statement '..UptoSaid' is the law's where the arguments, and the package variables that the reading takes, are together of bulk at most 1048576: NARROWER than '..Said'. Prove '..Said' where nothing that the law and all that it calls make is longer than what came in: it says more and counts as full. Else prove '..UptoSaid'. A law counts once. -/
mutual
def uptoBulk {H : Type} : DataW H → Nat
  | .lit (.string bytes) => bytes.length + 1
  | .lit _ => 1
  | .nil => 1
  | .ptr d => uptoBulk d + 1
  | .slice elems spare => uptoBulkAll elems + uptoBulkAll spare + 1
  | .agg parts => uptoBulkAll parts + 1
  | .iface _ d => uptoBulk d + 1
  | .map entries => uptoBulkEntries entries + 1
  | .held _ => 1
def uptoBulkAll {H : Type} : List (DataW H) → Nat
  | [] => 0
  | d :: r => uptoBulk d + uptoBulkAll r
def uptoBulkEntries {H : Type} : List (Lit × DataW H) → Nat
  | [] => 0
  | x :: r => uptoBulkEntry x + uptoBulkEntries r
def uptoBulkEntry {H : Type} : Lit × DataW H → Nat
  | (.string bytes, d) => bytes.length + uptoBulk d + 1
  | (_, d) => uptoBulk d + 1
 end
def uptoSmall : (H : Type) → List (DataW H) → Bool := fun _ ds => decide (uptoBulkAll ds ≤ 1048576)
def OpenSpec.upto (s : _root_.Go.ChangeSpec) : _root_.Go.OpenSpec := { _root_.Go.OpenSpec.ofChange s with cond := some uptoSmall }

/-- 'burgagelaw3.PduCounts', WHERE WHAT IT READS IS OF BULK AT MOST 1048576: true; the input reads as it did. -/
def pduCountsUptoRow : OpenClaim := { program := "ytigpfkcjpjhflaa", sum := "686a9ba66308b499eab7f0b5ef6a52e8baa43e8dc86e32b891270e622c1d4eed", func := "burgage/burgagelaw3.PduCounts", spec := "pduCounts", apart := false, narrowed := true }
def PduCountsUptoSaid : Prop := pduCountsUptoRow.holds Try.pinned (OpenSpec.upto pduCountsSpec)

/-- 'burgagelaw3.PduFields', WHERE WHAT IT READS IS OF BULK AT MOST 1048576: true; the input reads as it did. -/
def pduFieldsUptoRow : OpenClaim := { program := "ytigpfkcjpjhflaa", sum := "686a9ba66308b499eab7f0b5ef6a52e8baa43e8dc86e32b891270e622c1d4eed", func := "burgage/burgagelaw3.PduFields", spec := "pduFields", apart := false, narrowed := true }
def PduFieldsUptoSaid : Prop := pduFieldsUptoRow.holds Try.pinned (OpenSpec.upto pduFieldsSpec)

/-- 'burgagelaw3.PduNumbers', WHERE WHAT IT READS IS OF BULK AT MOST 1048576: true; the input reads as it did. -/
def pduNumbersUptoRow : OpenClaim := { program := "ytigpfkcjpjhflaa", sum := "686a9ba66308b499eab7f0b5ef6a52e8baa43e8dc86e32b891270e622c1d4eed", func := "burgage/burgagelaw3.PduNumbers", spec := "pduNumbers", apart := false, narrowed := true }
def PduNumbersUptoSaid : Prop := pduNumbersUptoRow.holds Try.pinned (OpenSpec.upto pduNumbersSpec)

/-- 'burgagelaw3.PduTells', WHERE WHAT IT READS IS OF BULK AT MOST 1048576: true; the input reads as it did. -/
def pduTellsUptoRow : OpenClaim := { program := "ytigpfkcjpjhflaa", sum := "686a9ba66308b499eab7f0b5ef6a52e8baa43e8dc86e32b891270e622c1d4eed", func := "burgage/burgagelaw3.PduTells", spec := "pduTells", apart := false, narrowed := true }
def PduTellsUptoSaid : Prop := pduTellsUptoRow.holds Try.pinned (OpenSpec.upto pduTellsSpec)

/-- 'burgagelaw3.PduBack', WHERE WHAT IT READS IS OF BULK AT MOST 1048576: true; the input reads as it did. -/
def pduBackUptoRow : OpenClaim := { program := "ytigpfkcjpjhflaa", sum := "686a9ba66308b499eab7f0b5ef6a52e8baa43e8dc86e32b891270e622c1d4eed", func := "burgage/burgagelaw3.PduBack", spec := "pduBack", apart := false, narrowed := true }
def PduBackUptoSaid : Prop := pduBackUptoRow.holds Try.pinned (OpenSpec.upto pduBackSpec)

/-- 'burgagelaw14.PartNumbers', WHERE WHAT IT READS IS OF BULK AT MOST 1048576: true; the input reads as it did. -/
def partNumbersUptoRow : OpenClaim := { program := "ytigpfkcjpjhflaa", sum := "686a9ba66308b499eab7f0b5ef6a52e8baa43e8dc86e32b891270e622c1d4eed", func := "burgage/burgagelaw14.PartNumbers", spec := "partNumbers", unfollowed := true, recurses := true, apart := false, narrowed := true }
def PartNumbersUptoSaid : Prop := partNumbersUptoRow.holds Try.pinned (OpenSpec.upto partNumbersSpec)

/-- 'burgagelaw14.PartTells', WHERE WHAT IT READS IS OF BULK AT MOST 1048576: true; the input reads as it did. -/
def partTellsUptoRow : OpenClaim := { program := "ytigpfkcjpjhflaa", sum := "686a9ba66308b499eab7f0b5ef6a52e8baa43e8dc86e32b891270e622c1d4eed", func := "burgage/burgagelaw14.PartTells", spec := "partTells", unfollowed := true, recurses := true, apart := false, narrowed := true }
def PartTellsUptoSaid : Prop := partTellsUptoRow.holds Try.pinned (OpenSpec.upto partTellsSpec)

/-- 'burgagelaw14.PartWithin', WHERE WHAT IT READS IS OF BULK AT MOST 1048576: true; the input reads as it did. -/
def partWithinUptoRow : OpenClaim := { program := "ytigpfkcjpjhflaa", sum := "686a9ba66308b499eab7f0b5ef6a52e8baa43e8dc86e32b891270e622c1d4eed", func := "burgage/burgagelaw14.PartWithin", spec := "partWithin", unfollowed := true, recurses := true, apart := false, narrowed := true }
def PartWithinUptoSaid : Prop := partWithinUptoRow.holds Try.pinned (OpenSpec.upto partWithinSpec)

/-- 'burgagelaw14.PartFunctions', WHERE WHAT IT READS IS OF BULK AT MOST 1048576: true; the input reads as it did. -/
def partFunctionsUptoRow : OpenClaim := { program := "ytigpfkcjpjhflaa", sum := "686a9ba66308b499eab7f0b5ef6a52e8baa43e8dc86e32b891270e622c1d4eed", func := "burgage/burgagelaw14.PartFunctions", spec := "partFunctions", unfollowed := true, recurses := true, apart := false, narrowed := true }
def PartFunctionsUptoSaid : Prop := partFunctionsUptoRow.holds Try.pinned (OpenSpec.upto partFunctionsSpec)

/-- 'burgagelaw14.PartMany', WHERE WHAT IT READS IS OF BULK AT MOST 1048576: true; the input reads as it did. -/
def partManyUptoRow : OpenClaim := { program := "ytigpfkcjpjhflaa", sum := "686a9ba66308b499eab7f0b5ef6a52e8baa43e8dc86e32b891270e622c1d4eed", func := "burgage/burgagelaw14.PartMany", spec := "partMany", unfollowed := true, recurses := true, apart := false, narrowed := true }
def PartManyUptoSaid : Prop := partManyUptoRow.holds Try.pinned (OpenSpec.upto partManySpec)

end Rows
end Go.Proofs.Ytigpfkcjpjhflaa

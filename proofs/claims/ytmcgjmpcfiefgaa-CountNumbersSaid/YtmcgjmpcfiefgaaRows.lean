/-
  No cell of these rows narrows 'for every input' (looked for: loops, veiled, ifaces, maps, wideKeys, modest, calm, conditions, laid).
  DERIVED. THE GIVEN ROWS OF THIS SEAT. 9 by the template 'for every input the law returns true; each argument reads behind the call as it read before'; 0 by the template 'total and deterministic' (their statements: YtmcgjmpcfiefgaaTotals.lean).
  GIVEN WITH THE SEED: the statements are not yours to turn. If you find one false, say at which input.
  Laid BY PROGRAM, IN A SANDBOX (cutbox-rows.mjs): the forced cells as the released guide's own fill.sh prints them over the translation 3791e65aa6090b79… (all of the seat's roots in one cut). By AI agents, Wed Nov 11 2026. No macro, syntax, notation, axiom, sorry.
-/
import Derived.Test.YtmcgjmpcfiefgaaChecked
import GoSem.Claim
import GoSem.ClaimJoined
import GoSem.ClaimMapViews
import Derived.JoinedTies
import Derived.KernelRfl
namespace Go.Proofs.Ytmcgjmpcfiefgaa
/- THE CELL 'sum', in the pinned program and in every row, IS THE sha256 OF THE DUMP (.gsa) THAT YtmcgjmpcfiefgaaProg.lean LOADS. Nothing in Lean hashes anything: it is a label: what it is worth is what the hold of that sum in a sandbox is worth. -/
noncomputable def Try.pinned : Pinned := { name := "ytmcgjmpcfiefgaa", sum := "3791e65aa6090b7928d3fc913f24db3cfeb89f55029495d100e1ca13d06a1280", checked := Try.checked }
namespace Rows
def none {H : Type} : Left H := { results := [], args := [] }

/-- 'burgagelaw19.CountNumbers': WHATEVER THE INPUT: true; the input reads as it did. -/
def countNumbersSpec : ChangeSpec := { name := "countNumbers", fn := fun _ => fun
  | [] => { results := [.lit (.bool true)], args := [] }
  | _ => none }
def countNumbersRow : OpenClaim := { program := "ytmcgjmpcfiefgaa", sum := "3791e65aa6090b7928d3fc913f24db3cfeb89f55029495d100e1ca13d06a1280", func := "burgage/burgagelaw19.CountNumbers", spec := "countNumbers", apart := false }
def CountNumbersSaid : Prop := countNumbersRow.holds Try.pinned (OpenSpec.ofChange countNumbersSpec)

/-- ITS FALSE NEIGHBOUR: 'it returns false'. Refute it at one input. -/
def countNumbersWrong : ChangeSpec := { name := "countNumbers", fn := fun _ => fun
  | [] => { results := [.lit (.bool false)], args := [] }
  | _ => none }
def CountNumbersWrongFalsely : Prop := countNumbersRow.holds Try.pinned (OpenSpec.ofChange countNumbersWrong)

/-- 'burgagelaw19.CountPlays': WHATEVER THE INPUT: true; the input reads as it did. -/
def countPlaysSpec : ChangeSpec := { name := "countPlays", fn := fun _ => fun
  | [d] => { results := [.lit (.bool true)], args := [d] }
  | _ => none }
def countPlaysRow : OpenClaim := { program := "ytmcgjmpcfiefgaa", sum := "3791e65aa6090b7928d3fc913f24db3cfeb89f55029495d100e1ca13d06a1280", func := "burgage/burgagelaw19.CountPlays", spec := "countPlays", apart := false }
def CountPlaysSaid : Prop := countPlaysRow.holds Try.pinned (OpenSpec.ofChange countPlaysSpec)

/-- ITS FALSE NEIGHBOUR: 'it returns false'. Refute it at one input. -/
def countPlaysWrong : ChangeSpec := { name := "countPlays", fn := fun _ => fun
  | [d] => { results := [.lit (.bool false)], args := [d] }
  | _ => none }
def CountPlaysWrongFalsely : Prop := countPlaysRow.holds Try.pinned (OpenSpec.ofChange countPlaysWrong)

/-- 'burgagelaw19.CountSums': WHATEVER THE INPUT: true; the input reads as it did. -/
def countSumsSpec : ChangeSpec := { name := "countSums", fn := fun _ => fun
  | [d1, d2, d3, d4] => { results := [.lit (.bool true)], args := [d1, d2, d3, d4] }
  | _ => none }
def countSumsRow : OpenClaim := { program := "ytmcgjmpcfiefgaa", sum := "3791e65aa6090b7928d3fc913f24db3cfeb89f55029495d100e1ca13d06a1280", func := "burgage/burgagelaw19.CountSums", spec := "countSums", apart := false }
def CountSumsSaid : Prop := countSumsRow.holds Try.pinned (OpenSpec.ofChange countSumsSpec)

/-- ITS FALSE NEIGHBOUR: 'it returns false'. Refute it at one input. -/
def countSumsWrong : ChangeSpec := { name := "countSums", fn := fun _ => fun
  | [d1, d2, d3, d4] => { results := [.lit (.bool false)], args := [d1, d2, d3, d4] }
  | _ => none }
def CountSumsWrongFalsely : Prop := countSumsRow.holds Try.pinned (OpenSpec.ofChange countSumsWrong)

/-- 'burgagelaw19.CountHolds': WHATEVER THE INPUT: true; the input reads as it did. -/
def countHoldsSpec : ChangeSpec := { name := "countHolds", fn := fun _ => fun
  | [d1, d2] => { results := [.lit (.bool true)], args := [d1, d2] }
  | _ => none }
def countHoldsRow : OpenClaim := { program := "ytmcgjmpcfiefgaa", sum := "3791e65aa6090b7928d3fc913f24db3cfeb89f55029495d100e1ca13d06a1280", func := "burgage/burgagelaw19.CountHolds", spec := "countHolds", apart := false }
def CountHoldsSaid : Prop := countHoldsRow.holds Try.pinned (OpenSpec.ofChange countHoldsSpec)

/-- ITS FALSE NEIGHBOUR: 'it returns false'. Refute it at one input. -/
def countHoldsWrong : ChangeSpec := { name := "countHolds", fn := fun _ => fun
  | [d1, d2] => { results := [.lit (.bool false)], args := [d1, d2] }
  | _ => none }
def CountHoldsWrongFalsely : Prop := countHoldsRow.holds Try.pinned (OpenSpec.ofChange countHoldsWrong)

/-- 'burgagelaw5.RtuNumbers': WHATEVER THE INPUT: true; the input reads as it did. -/
def rtuNumbersSpec : ChangeSpec := { name := "rtuNumbers", fn := fun _ => fun
  | [] => { results := [.lit (.bool true)], args := [] }
  | _ => none }
def rtuNumbersRow : OpenClaim := { program := "ytmcgjmpcfiefgaa", sum := "3791e65aa6090b7928d3fc913f24db3cfeb89f55029495d100e1ca13d06a1280", func := "burgage/burgagelaw5.RtuNumbers", spec := "rtuNumbers", unfollowed := true, recurses := true, apart := false }
def RtuNumbersSaid : Prop := rtuNumbersRow.holds Try.pinned (OpenSpec.ofChange rtuNumbersSpec)

/-- ITS FALSE NEIGHBOUR: 'it returns false'. Refute it at one input. -/
def rtuNumbersWrong : ChangeSpec := { name := "rtuNumbers", fn := fun _ => fun
  | [] => { results := [.lit (.bool false)], args := [] }
  | _ => none }
def RtuNumbersWrongFalsely : Prop := rtuNumbersRow.holds Try.pinned (OpenSpec.ofChange rtuNumbersWrong)

/-- 'burgagelaw5.RtuTells': WHATEVER THE INPUT: true; the input reads as it did. -/
def rtuTellsSpec : ChangeSpec := { name := "rtuTells", fn := fun _ => fun
  | [d1, d2, d3, d4, d5, d6] => { results := [.lit (.bool true)], args := [d1, d2, d3, d4, d5, d6] }
  | _ => none }
def rtuTellsRow : OpenClaim := { program := "ytmcgjmpcfiefgaa", sum := "3791e65aa6090b7928d3fc913f24db3cfeb89f55029495d100e1ca13d06a1280", func := "burgage/burgagelaw5.RtuTells", spec := "rtuTells", unfollowed := true, recurses := true, apart := false }
def RtuTellsSaid : Prop := rtuTellsRow.holds Try.pinned (OpenSpec.ofChange rtuTellsSpec)

/-- ITS FALSE NEIGHBOUR: 'it returns false'. Refute it at one input. -/
def rtuTellsWrong : ChangeSpec := { name := "rtuTells", fn := fun _ => fun
  | [d1, d2, d3, d4, d5, d6] => { results := [.lit (.bool false)], args := [d1, d2, d3, d4, d5, d6] }
  | _ => none }
def RtuTellsWrongFalsely : Prop := rtuTellsRow.holds Try.pinned (OpenSpec.ofChange rtuTellsWrong)

/-- 'burgagelaw5.RtuBack': WHATEVER THE INPUT: true; the input reads as it did. -/
def rtuBackSpec : ChangeSpec := { name := "rtuBack", fn := fun _ => fun
  | [d1, d2] => { results := [.lit (.bool true)], args := [d1, d2] }
  | _ => none }
def rtuBackRow : OpenClaim := { program := "ytmcgjmpcfiefgaa", sum := "3791e65aa6090b7928d3fc913f24db3cfeb89f55029495d100e1ca13d06a1280", func := "burgage/burgagelaw5.RtuBack", spec := "rtuBack", unfollowed := true, recurses := true, apart := false }
def RtuBackSaid : Prop := rtuBackRow.holds Try.pinned (OpenSpec.ofChange rtuBackSpec)

/-- ITS FALSE NEIGHBOUR: 'it returns false'. Refute it at one input. -/
def rtuBackWrong : ChangeSpec := { name := "rtuBack", fn := fun _ => fun
  | [d1, d2] => { results := [.lit (.bool false)], args := [d1, d2] }
  | _ => none }
def RtuBackWrongFalsely : Prop := rtuBackRow.holds Try.pinned (OpenSpec.ofChange rtuBackWrong)

/-- 'burgagelaw5.RtuSpoilt': WHATEVER THE INPUT: true; the input reads as it did. -/
def rtuSpoiltSpec : ChangeSpec := { name := "rtuSpoilt", fn := fun _ => fun
  | [d1, d2, d3, d4] => { results := [.lit (.bool true)], args := [d1, d2, d3, d4] }
  | _ => none }
def rtuSpoiltRow : OpenClaim := { program := "ytmcgjmpcfiefgaa", sum := "3791e65aa6090b7928d3fc913f24db3cfeb89f55029495d100e1ca13d06a1280", func := "burgage/burgagelaw5.RtuSpoilt", spec := "rtuSpoilt", unfollowed := true, recurses := true, apart := false }
def RtuSpoiltSaid : Prop := rtuSpoiltRow.holds Try.pinned (OpenSpec.ofChange rtuSpoiltSpec)

/-- ITS FALSE NEIGHBOUR: 'it returns false'. Refute it at one input. -/
def rtuSpoiltWrong : ChangeSpec := { name := "rtuSpoilt", fn := fun _ => fun
  | [d1, d2, d3, d4] => { results := [.lit (.bool false)], args := [d1, d2, d3, d4] }
  | _ => none }
def RtuSpoiltWrongFalsely : Prop := rtuSpoiltRow.holds Try.pinned (OpenSpec.ofChange rtuSpoiltWrong)

/-- 'burgagelaw5.RtuBursts': WHATEVER THE INPUT: true; the input reads as it did. -/
def rtuBurstsSpec : ChangeSpec := { name := "rtuBursts", fn := fun _ => fun
  | [d1, d2, d3, d4] => { results := [.lit (.bool true)], args := [d1, d2, d3, d4] }
  | _ => none }
def rtuBurstsRow : OpenClaim := { program := "ytmcgjmpcfiefgaa", sum := "3791e65aa6090b7928d3fc913f24db3cfeb89f55029495d100e1ca13d06a1280", func := "burgage/burgagelaw5.RtuBursts", spec := "rtuBursts", unfollowed := true, recurses := true, apart := false }
def RtuBurstsSaid : Prop := rtuBurstsRow.holds Try.pinned (OpenSpec.ofChange rtuBurstsSpec)

/-- ITS FALSE NEIGHBOUR: 'it returns false'. Refute it at one input. -/
def rtuBurstsWrong : ChangeSpec := { name := "rtuBursts", fn := fun _ => fun
  | [d1, d2, d3, d4] => { results := [.lit (.bool false)], args := [d1, d2, d3, d4] }
  | _ => none }
def RtuBurstsWrongFalsely : Prop := rtuBurstsRow.holds Try.pinned (OpenSpec.ofChange rtuBurstsWrong)

/- THE SECOND FORM. 'bulk': how many values and letters a reading holds, each counted each time it is reached (what is shared counts as often as it is met; a slice's spare places count too). A statement '..UptoSaid' is the law's where the arguments, and the package variables that the reading takes, are together of bulk at most 1048576: NARROWER than '..Said'. Prove '..Said' where nothing that the law and all that it calls make is longer than what came in: it says more and counts as full. Else prove '..UptoSaid'. A law counts once. -/
mutual
def uptoBulk {H : Type} : DataW H → Nat
  | .lit (.string bytes) => bytes.length + 1
  | .lit _ => 1
  | .nil => 1
  | .ptr d => uptoBulk d + 1
  | .slice elems spare => uptoBulkAll elems + uptoBulkAll spare + 1
  | .agg parts => uptoBulkAll parts + 1
  | .iface _ d => uptoBulk d + 1
  | .map entries => uptoBulkEntries entries + 1
  | .held _ => 1
def uptoBulkAll {H : Type} : List (DataW H) → Nat
  | [] => 0
  | d :: r => uptoBulk d + uptoBulkAll r
def uptoBulkEntries {H : Type} : List (Lit × DataW H) → Nat
  | [] => 0
  | x :: r => uptoBulkEntry x + uptoBulkEntries r
def uptoBulkEntry {H : Type} : Lit × DataW H → Nat
  | (.string bytes, d) => bytes.length + uptoBulk d + 1
  | (_, d) => uptoBulk d + 1
 end
def uptoSmall : (H : Type) → List (DataW H) → Bool := fun _ ds => decide (uptoBulkAll ds ≤ 1048576)
def OpenSpec.upto (s : _root_.Go.ChangeSpec) : _root_.Go.OpenSpec := { _root_.Go.OpenSpec.ofChange s with cond := some uptoSmall }

/-- 'burgagelaw19.CountNumbers', WHERE WHAT IT READS IS OF BULK AT MOST 1048576: true; the input reads as it did. -/
def countNumbersUptoRow : OpenClaim := { program := "ytmcgjmpcfiefgaa", sum := "3791e65aa6090b7928d3fc913f24db3cfeb89f55029495d100e1ca13d06a1280", func := "burgage/burgagelaw19.CountNumbers", spec := "countNumbers", apart := false, narrowed := true }
def CountNumbersUptoSaid : Prop := countNumbersUptoRow.holds Try.pinned (OpenSpec.upto countNumbersSpec)

/-- 'burgagelaw19.CountPlays', WHERE WHAT IT READS IS OF BULK AT MOST 1048576: true; the input reads as it did. -/
def countPlaysUptoRow : OpenClaim := { program := "ytmcgjmpcfiefgaa", sum := "3791e65aa6090b7928d3fc913f24db3cfeb89f55029495d100e1ca13d06a1280", func := "burgage/burgagelaw19.CountPlays", spec := "countPlays", apart := false, narrowed := true }
def CountPlaysUptoSaid : Prop := countPlaysUptoRow.holds Try.pinned (OpenSpec.upto countPlaysSpec)

/-- 'burgagelaw19.CountSums', WHERE WHAT IT READS IS OF BULK AT MOST 1048576: true; the input reads as it did. -/
def countSumsUptoRow : OpenClaim := { program := "ytmcgjmpcfiefgaa", sum := "3791e65aa6090b7928d3fc913f24db3cfeb89f55029495d100e1ca13d06a1280", func := "burgage/burgagelaw19.CountSums", spec := "countSums", apart := false, narrowed := true }
def CountSumsUptoSaid : Prop := countSumsUptoRow.holds Try.pinned (OpenSpec.upto countSumsSpec)

/-- 'burgagelaw19.CountHolds', WHERE WHAT IT READS IS OF BULK AT MOST 1048576: true; the input reads as it did. -/
def countHoldsUptoRow : OpenClaim := { program := "ytmcgjmpcfiefgaa", sum := "3791e65aa6090b7928d3fc913f24db3cfeb89f55029495d100e1ca13d06a1280", func := "burgage/burgagelaw19.CountHolds", spec := "countHolds", apart := false, narrowed := true }
def CountHoldsUptoSaid : Prop := countHoldsUptoRow.holds Try.pinned (OpenSpec.upto countHoldsSpec)

/-- 'burgagelaw5.RtuNumbers', WHERE WHAT IT READS IS OF BULK AT MOST 1048576: true; the input reads as it did. -/
def rtuNumbersUptoRow : OpenClaim := { program := "ytmcgjmpcfiefgaa", sum := "3791e65aa6090b7928d3fc913f24db3cfeb89f55029495d100e1ca13d06a1280", func := "burgage/burgagelaw5.RtuNumbers", spec := "rtuNumbers", unfollowed := true, recurses := true, apart := false, narrowed := true }
def RtuNumbersUptoSaid : Prop := rtuNumbersUptoRow.holds Try.pinned (OpenSpec.upto rtuNumbersSpec)

/-- 'burgagelaw5.RtuTells', WHERE WHAT IT READS IS OF BULK AT MOST 1048576: true; the input reads as it did. -/
def rtuTellsUptoRow : OpenClaim := { program := "ytmcgjmpcfiefgaa", sum := "3791e65aa6090b7928d3fc913f24db3cfeb89f55029495d100e1ca13d06a1280", func := "burgage/burgagelaw5.RtuTells", spec := "rtuTells", unfollowed := true, recurses := true, apart := false, narrowed := true }
def RtuTellsUptoSaid : Prop := rtuTellsUptoRow.holds Try.pinned (OpenSpec.upto rtuTellsSpec)

/-- 'burgagelaw5.RtuBack', WHERE WHAT IT READS IS OF BULK AT MOST 1048576: true; the input reads as it did. -/
def rtuBackUptoRow : OpenClaim := { program := "ytmcgjmpcfiefgaa", sum := "3791e65aa6090b7928d3fc913f24db3cfeb89f55029495d100e1ca13d06a1280", func := "burgage/burgagelaw5.RtuBack", spec := "rtuBack", unfollowed := true, recurses := true, apart := false, narrowed := true }
def RtuBackUptoSaid : Prop := rtuBackUptoRow.holds Try.pinned (OpenSpec.upto rtuBackSpec)

/-- 'burgagelaw5.RtuSpoilt', WHERE WHAT IT READS IS OF BULK AT MOST 1048576: true; the input reads as it did. -/
def rtuSpoiltUptoRow : OpenClaim := { program := "ytmcgjmpcfiefgaa", sum := "3791e65aa6090b7928d3fc913f24db3cfeb89f55029495d100e1ca13d06a1280", func := "burgage/burgagelaw5.RtuSpoilt", spec := "rtuSpoilt", unfollowed := true, recurses := true, apart := false, narrowed := true }
def RtuSpoiltUptoSaid : Prop := rtuSpoiltUptoRow.holds Try.pinned (OpenSpec.upto rtuSpoiltSpec)

/-- 'burgagelaw5.RtuBursts', WHERE WHAT IT READS IS OF BULK AT MOST 1048576: true; the input reads as it did. -/
def rtuBurstsUptoRow : OpenClaim := { program := "ytmcgjmpcfiefgaa", sum := "3791e65aa6090b7928d3fc913f24db3cfeb89f55029495d100e1ca13d06a1280", func := "burgage/burgagelaw5.RtuBursts", spec := "rtuBursts", unfollowed := true, recurses := true, apart := false, narrowed := true }
def RtuBurstsUptoSaid : Prop := rtuBurstsUptoRow.holds Try.pinned (OpenSpec.upto rtuBurstsSpec)

end Rows
end Go.Proofs.Ytmcgjmpcfiefgaa

/-
  No cell of these rows narrows 'for every input' (looked for: loops, veiled, ifaces, maps, wideKeys, modest, calm, conditions, laid).
  DERIVED. THE GIVEN ROWS OF THIS SEAT. 12 by the template 'for every input the law returns true; each argument reads behind the call as it read before'; 0 by the template 'total and deterministic' (their statements: YteedhlgdbankiaaTotals.lean).
  GIVEN WITH THE SEED: the statements are not yours to turn. If you find one false, say at which input.
  Laid BY PROGRAM, IN A SANDBOX (cutbox-rows.mjs): the forced cells as the released guide's own fill.sh prints them over the translation d2bf76e710b59daf… (all of the seat's roots in one cut). By AI agents, Wed Nov 11 2026. No macro, syntax, notation, axiom, sorry.
-/
import Derived.Test.YteedhlgdbankiaaChecked
import GoSem.Claim
import GoSem.ClaimJoined
import GoSem.ClaimMapViews
import Derived.JoinedTies
import Derived.KernelRfl
namespace Go.Proofs.Yteedhlgdbankiaa
/- THE CELL 'sum', in the pinned program and in every row, IS THE sha256 OF THE DUMP (.gsa) THAT YteedhlgdbankiaaProg.lean LOADS. Nothing in Lean hashes anything: it is a label: what it is worth is what the hold of that sum in a sandbox is worth. -/
noncomputable def Try.pinned : Pinned := { name := "yteedhlgdbankiaa", sum := "d2bf76e710b59daf51246f2a5432b54b64465f7cad6faf0843fb453032e64496", checked := Try.checked }
namespace Rows
def none {H : Type} : Left H := { results := [], args := [] }

/-- 'burgagelaw20.QuotaNumbers': WHATEVER THE INPUT: true; the input reads as it did. -/
def quotaNumbersSpec : ChangeSpec := { name := "quotaNumbers", fn := fun _ => fun
  | [] => { results := [.lit (.bool true)], args := [] }
  | _ => none }
def quotaNumbersRow : OpenClaim := { program := "yteedhlgdbankiaa", sum := "d2bf76e710b59daf51246f2a5432b54b64465f7cad6faf0843fb453032e64496", func := "burgage/burgagelaw20.QuotaNumbers", spec := "quotaNumbers", apart := false }
def QuotaNumbersSaid : Prop := quotaNumbersRow.holds Try.pinned (OpenSpec.ofChange quotaNumbersSpec)

/-- ITS FALSE NEIGHBOUR: 'it returns false'. Refute it at one input. -/
def quotaNumbersWrong : ChangeSpec := { name := "quotaNumbers", fn := fun _ => fun
  | [] => { results := [.lit (.bool false)], args := [] }
  | _ => none }
def QuotaNumbersWrongFalsely : Prop := quotaNumbersRow.holds Try.pinned (OpenSpec.ofChange quotaNumbersWrong)

/-- 'burgagelaw20.QuotaPlays': WHATEVER THE INPUT: true; the input reads as it did. -/
def quotaPlaysSpec : ChangeSpec := { name := "quotaPlays", fn := fun _ => fun
  | [d1, d2] => { results := [.lit (.bool true)], args := [d1, d2] }
  | _ => none }
def quotaPlaysRow : OpenClaim := { program := "yteedhlgdbankiaa", sum := "d2bf76e710b59daf51246f2a5432b54b64465f7cad6faf0843fb453032e64496", func := "burgage/burgagelaw20.QuotaPlays", spec := "quotaPlays", apart := false }
def QuotaPlaysSaid : Prop := quotaPlaysRow.holds Try.pinned (OpenSpec.ofChange quotaPlaysSpec)

/-- ITS FALSE NEIGHBOUR: 'it returns false'. Refute it at one input. -/
def quotaPlaysWrong : ChangeSpec := { name := "quotaPlays", fn := fun _ => fun
  | [d1, d2] => { results := [.lit (.bool false)], args := [d1, d2] }
  | _ => none }
def QuotaPlaysWrongFalsely : Prop := quotaPlaysRow.holds Try.pinned (OpenSpec.ofChange quotaPlaysWrong)

/-- 'burgagelaw20.QuotaOrder': WHATEVER THE INPUT: true; the input reads as it did. -/
def quotaOrderSpec : ChangeSpec := { name := "quotaOrder", fn := fun _ => fun
  | [d1, d2] => { results := [.lit (.bool true)], args := [d1, d2] }
  | _ => none }
def quotaOrderRow : OpenClaim := { program := "yteedhlgdbankiaa", sum := "d2bf76e710b59daf51246f2a5432b54b64465f7cad6faf0843fb453032e64496", func := "burgage/burgagelaw20.QuotaOrder", spec := "quotaOrder", apart := false }
def QuotaOrderSaid : Prop := quotaOrderRow.holds Try.pinned (OpenSpec.ofChange quotaOrderSpec)

/-- ITS FALSE NEIGHBOUR: 'it returns false'. Refute it at one input. -/
def quotaOrderWrong : ChangeSpec := { name := "quotaOrder", fn := fun _ => fun
  | [d1, d2] => { results := [.lit (.bool false)], args := [d1, d2] }
  | _ => none }
def QuotaOrderWrongFalsely : Prop := quotaOrderRow.holds Try.pinned (OpenSpec.ofChange quotaOrderWrong)

/-- 'burgagelaw20.QuotaAll': WHATEVER THE INPUT: true; the input reads as it did. -/
def quotaAllSpec : ChangeSpec := { name := "quotaAll", fn := fun _ => fun
  | [d1, d2] => { results := [.lit (.bool true)], args := [d1, d2] }
  | _ => none }
def quotaAllRow : OpenClaim := { program := "yteedhlgdbankiaa", sum := "d2bf76e710b59daf51246f2a5432b54b64465f7cad6faf0843fb453032e64496", func := "burgage/burgagelaw20.QuotaAll", spec := "quotaAll", apart := false }
def QuotaAllSaid : Prop := quotaAllRow.holds Try.pinned (OpenSpec.ofChange quotaAllSpec)

/-- ITS FALSE NEIGHBOUR: 'it returns false'. Refute it at one input. -/
def quotaAllWrong : ChangeSpec := { name := "quotaAll", fn := fun _ => fun
  | [d1, d2] => { results := [.lit (.bool false)], args := [d1, d2] }
  | _ => none }
def QuotaAllWrongFalsely : Prop := quotaAllRow.holds Try.pinned (OpenSpec.ofChange quotaAllWrong)

/-- 'burgagelaw2.CrcNumbers': WHATEVER THE INPUT: true; the input reads as it did. -/
def crcNumbersSpec : ChangeSpec := { name := "crcNumbers", fn := fun _ => fun
  | [] => { results := [.lit (.bool true)], args := [] }
  | _ => none }
def crcNumbersRow : OpenClaim := { program := "yteedhlgdbankiaa", sum := "d2bf76e710b59daf51246f2a5432b54b64465f7cad6faf0843fb453032e64496", func := "burgage/burgagelaw2.CrcNumbers", spec := "crcNumbers", apart := false }
def CrcNumbersSaid : Prop := crcNumbersRow.holds Try.pinned (OpenSpec.ofChange crcNumbersSpec)

/-- ITS FALSE NEIGHBOUR: 'it returns false'. Refute it at one input. -/
def crcNumbersWrong : ChangeSpec := { name := "crcNumbers", fn := fun _ => fun
  | [] => { results := [.lit (.bool false)], args := [] }
  | _ => none }
def CrcNumbersWrongFalsely : Prop := crcNumbersRow.holds Try.pinned (OpenSpec.ofChange crcNumbersWrong)

/-- 'burgagelaw2.CrcTells': WHATEVER THE INPUT: true; the input reads as it did. -/
def crcTellsSpec : ChangeSpec := { name := "crcTells", fn := fun _ => fun
  | [d1, d2, d3] => { results := [.lit (.bool true)], args := [d1, d2, d3] }
  | _ => none }
def crcTellsRow : OpenClaim := { program := "yteedhlgdbankiaa", sum := "d2bf76e710b59daf51246f2a5432b54b64465f7cad6faf0843fb453032e64496", func := "burgage/burgagelaw2.CrcTells", spec := "crcTells", apart := false }
def CrcTellsSaid : Prop := crcTellsRow.holds Try.pinned (OpenSpec.ofChange crcTellsSpec)

/-- ITS FALSE NEIGHBOUR: 'it returns false'. Refute it at one input. -/
def crcTellsWrong : ChangeSpec := { name := "crcTells", fn := fun _ => fun
  | [d1, d2, d3] => { results := [.lit (.bool false)], args := [d1, d2, d3] }
  | _ => none }
def CrcTellsWrongFalsely : Prop := crcTellsRow.holds Try.pinned (OpenSpec.ofChange crcTellsWrong)

/-- 'burgagelaw2.CrcTurns': WHATEVER THE INPUT: true; the input reads as it did. -/
def crcTurnsSpec : ChangeSpec := { name := "crcTurns", fn := fun _ => fun
  | [d1, d2, d3] => { results := [.lit (.bool true)], args := [d1, d2, d3] }
  | _ => none }
def crcTurnsRow : OpenClaim := { program := "yteedhlgdbankiaa", sum := "d2bf76e710b59daf51246f2a5432b54b64465f7cad6faf0843fb453032e64496", func := "burgage/burgagelaw2.CrcTurns", spec := "crcTurns", apart := false }
def CrcTurnsSaid : Prop := crcTurnsRow.holds Try.pinned (OpenSpec.ofChange crcTurnsSpec)

/-- ITS FALSE NEIGHBOUR: 'it returns false'. Refute it at one input. -/
def crcTurnsWrong : ChangeSpec := { name := "crcTurns", fn := fun _ => fun
  | [d1, d2, d3] => { results := [.lit (.bool false)], args := [d1, d2, d3] }
  | _ => none }
def CrcTurnsWrongFalsely : Prop := crcTurnsRow.holds Try.pinned (OpenSpec.ofChange crcTurnsWrong)

/-- 'burgagelaw2.CrcMixes': WHATEVER THE INPUT: true; the input reads as it did. -/
def crcMixesSpec : ChangeSpec := { name := "crcMixes", fn := fun _ => fun
  | [d1, d2] => { results := [.lit (.bool true)], args := [d1, d2] }
  | _ => none }
def crcMixesRow : OpenClaim := { program := "yteedhlgdbankiaa", sum := "d2bf76e710b59daf51246f2a5432b54b64465f7cad6faf0843fb453032e64496", func := "burgage/burgagelaw2.CrcMixes", spec := "crcMixes", apart := false }
def CrcMixesSaid : Prop := crcMixesRow.holds Try.pinned (OpenSpec.ofChange crcMixesSpec)

/-- ITS FALSE NEIGHBOUR: 'it returns false'. Refute it at one input. -/
def crcMixesWrong : ChangeSpec := { name := "crcMixes", fn := fun _ => fun
  | [d1, d2] => { results := [.lit (.bool false)], args := [d1, d2] }
  | _ => none }
def CrcMixesWrongFalsely : Prop := crcMixesRow.holds Try.pinned (OpenSpec.ofChange crcMixesWrong)

/-- 'burgagelaw7.SpanNumbers': WHATEVER THE INPUT: true; the input reads as it did. -/
def spanNumbersSpec : ChangeSpec := { name := "spanNumbers", fn := fun _ => fun
  | [] => { results := [.lit (.bool true)], args := [] }
  | _ => none }
def spanNumbersRow : OpenClaim := { program := "yteedhlgdbankiaa", sum := "d2bf76e710b59daf51246f2a5432b54b64465f7cad6faf0843fb453032e64496", func := "burgage/burgagelaw7.SpanNumbers", spec := "spanNumbers", unfollowed := true, recurses := true, apart := false }
def SpanNumbersSaid : Prop := spanNumbersRow.holds Try.pinned (OpenSpec.ofChange spanNumbersSpec)

/-- ITS FALSE NEIGHBOUR: 'it returns false'. Refute it at one input. -/
def spanNumbersWrong : ChangeSpec := { name := "spanNumbers", fn := fun _ => fun
  | [] => { results := [.lit (.bool false)], args := [] }
  | _ => none }
def SpanNumbersWrongFalsely : Prop := spanNumbersRow.holds Try.pinned (OpenSpec.ofChange spanNumbersWrong)

/-- 'burgagelaw7.SpanTells': WHATEVER THE INPUT: true; the input reads as it did. -/
def spanTellsSpec : ChangeSpec := { name := "spanTells", fn := fun _ => fun
  | [d1, d2, d3, d4, d5] => { results := [.lit (.bool true)], args := [d1, d2, d3, d4, d5] }
  | _ => none }
def spanTellsRow : OpenClaim := { program := "yteedhlgdbankiaa", sum := "d2bf76e710b59daf51246f2a5432b54b64465f7cad6faf0843fb453032e64496", func := "burgage/burgagelaw7.SpanTells", spec := "spanTells", unfollowed := true, recurses := true, apart := false }
def SpanTellsSaid : Prop := spanTellsRow.holds Try.pinned (OpenSpec.ofChange spanTellsSpec)

/-- ITS FALSE NEIGHBOUR: 'it returns false'. Refute it at one input. -/
def spanTellsWrong : ChangeSpec := { name := "spanTells", fn := fun _ => fun
  | [d1, d2, d3, d4, d5] => { results := [.lit (.bool false)], args := [d1, d2, d3, d4, d5] }
  | _ => none }
def SpanTellsWrongFalsely : Prop := spanTellsRow.holds Try.pinned (OpenSpec.ofChange spanTellsWrong)

/-- 'burgagelaw7.SpanCells': WHATEVER THE INPUT: true; the input reads as it did. -/
def spanCellsSpec : ChangeSpec := { name := "spanCells", fn := fun _ => fun
  | [d1, d2, d3] => { results := [.lit (.bool true)], args := [d1, d2, d3] }
  | _ => none }
def spanCellsRow : OpenClaim := { program := "yteedhlgdbankiaa", sum := "d2bf76e710b59daf51246f2a5432b54b64465f7cad6faf0843fb453032e64496", func := "burgage/burgagelaw7.SpanCells", spec := "spanCells", unfollowed := true, recurses := true, apart := false }
def SpanCellsSaid : Prop := spanCellsRow.holds Try.pinned (OpenSpec.ofChange spanCellsSpec)

/-- ITS FALSE NEIGHBOUR: 'it returns false'. Refute it at one input. -/
def spanCellsWrong : ChangeSpec := { name := "spanCells", fn := fun _ => fun
  | [d1, d2, d3] => { results := [.lit (.bool false)], args := [d1, d2, d3] }
  | _ => none }
def SpanCellsWrongFalsely : Prop := spanCellsRow.holds Try.pinned (OpenSpec.ofChange spanCellsWrong)

/-- 'burgagelaw7.SpanMeets': WHATEVER THE INPUT: true; the input reads as it did. -/
def spanMeetsSpec : ChangeSpec := { name := "spanMeets", fn := fun _ => fun
  | [d1, d2, d3] => { results := [.lit (.bool true)], args := [d1, d2, d3] }
  | _ => none }
def spanMeetsRow : OpenClaim := { program := "yteedhlgdbankiaa", sum := "d2bf76e710b59daf51246f2a5432b54b64465f7cad6faf0843fb453032e64496", func := "burgage/burgagelaw7.SpanMeets", spec := "spanMeets", unfollowed := true, recurses := true, apart := false }
def SpanMeetsSaid : Prop := spanMeetsRow.holds Try.pinned (OpenSpec.ofChange spanMeetsSpec)

/-- ITS FALSE NEIGHBOUR: 'it returns false'. Refute it at one input. -/
def spanMeetsWrong : ChangeSpec := { name := "spanMeets", fn := fun _ => fun
  | [d1, d2, d3] => { results := [.lit (.bool false)], args := [d1, d2, d3] }
  | _ => none }
def SpanMeetsWrongFalsely : Prop := spanMeetsRow.holds Try.pinned (OpenSpec.ofChange spanMeetsWrong)

/- THE SECOND FORM. 'bulk': how many values and letters a reading holds, each counted each time it is reached (what is shared counts as often as it is met; a slice's spare places count too). A statement '..UptoSaid' is the law's where the arguments, and the package variables that the reading takes, are together of bulk at most 1048576: NARROWER than '..Said'. Prove '..Said' where nothing that the law and all that it calls make is longer than what came in: it says more and counts as full. Else prove '..UptoSaid'. A law counts once. -/
mutual
def uptoBulk {H : Type} : DataW H → Nat
  | .lit (.string bytes) => bytes.length + 1
  | .lit _ => 1
  | .nil => 1
  | .ptr d => uptoBulk d + 1
  | .slice elems spare => uptoBulkAll elems + uptoBulkAll spare + 1
  | .agg parts => uptoBulkAll parts + 1
  | .iface _ d => uptoBulk d + 1
  | .map entries => uptoBulkEntries entries + 1
  | .held _ => 1
def uptoBulkAll {H : Type} : List (DataW H) → Nat
  | [] => 0
  | d :: r => uptoBulk d + uptoBulkAll r
def uptoBulkEntries {H : Type} : List (Lit × DataW H) → Nat
  | [] => 0
  | x :: r => uptoBulkEntry x + uptoBulkEntries r
def uptoBulkEntry {H : Type} : Lit × DataW H → Nat
  | (.string bytes, d) => bytes.length + uptoBulk d + 1
  | (_, d) => uptoBulk d + 1
 end
def uptoSmall : (H : Type) → List (DataW H) → Bool := fun _ ds => decide (uptoBulkAll ds ≤ 1048576)
def OpenSpec.upto (s : _root_.Go.ChangeSpec) : _root_.Go.OpenSpec := { _root_.Go.OpenSpec.ofChange s with cond := some uptoSmall }

/-- 'burgagelaw20.QuotaNumbers', WHERE WHAT IT READS IS OF BULK AT MOST 1048576: true; the input reads as it did. -/
def quotaNumbersUptoRow : OpenClaim := { program := "yteedhlgdbankiaa", sum := "d2bf76e710b59daf51246f2a5432b54b64465f7cad6faf0843fb453032e64496", func := "burgage/burgagelaw20.QuotaNumbers", spec := "quotaNumbers", apart := false, narrowed := true }
def QuotaNumbersUptoSaid : Prop := quotaNumbersUptoRow.holds Try.pinned (OpenSpec.upto quotaNumbersSpec)

/-- 'burgagelaw20.QuotaPlays', WHERE WHAT IT READS IS OF BULK AT MOST 1048576: true; the input reads as it did. -/
def quotaPlaysUptoRow : OpenClaim := { program := "yteedhlgdbankiaa", sum := "d2bf76e710b59daf51246f2a5432b54b64465f7cad6faf0843fb453032e64496", func := "burgage/burgagelaw20.QuotaPlays", spec := "quotaPlays", apart := false, narrowed := true }
def QuotaPlaysUptoSaid : Prop := quotaPlaysUptoRow.holds Try.pinned (OpenSpec.upto quotaPlaysSpec)

/-- 'burgagelaw20.QuotaOrder', WHERE WHAT IT READS IS OF BULK AT MOST 1048576: true; the input reads as it did. -/
def quotaOrderUptoRow : OpenClaim := { program := "yteedhlgdbankiaa", sum := "d2bf76e710b59daf51246f2a5432b54b64465f7cad6faf0843fb453032e64496", func := "burgage/burgagelaw20.QuotaOrder", spec := "quotaOrder", apart := false, narrowed := true }
def QuotaOrderUptoSaid : Prop := quotaOrderUptoRow.holds Try.pinned (OpenSpec.upto quotaOrderSpec)

/-- 'burgagelaw20.QuotaAll', WHERE WHAT IT READS IS OF BULK AT MOST 1048576: true; the input reads as it did. -/
def quotaAllUptoRow : OpenClaim := { program := "yteedhlgdbankiaa", sum := "d2bf76e710b59daf51246f2a5432b54b64465f7cad6faf0843fb453032e64496", func := "burgage/burgagelaw20.QuotaAll", spec := "quotaAll", apart := false, narrowed := true }
def QuotaAllUptoSaid : Prop := quotaAllUptoRow.holds Try.pinned (OpenSpec.upto quotaAllSpec)

/-- 'burgagelaw2.CrcNumbers', WHERE WHAT IT READS IS OF BULK AT MOST 1048576: true; the input reads as it did. -/
def crcNumbersUptoRow : OpenClaim := { program := "yteedhlgdbankiaa", sum := "d2bf76e710b59daf51246f2a5432b54b64465f7cad6faf0843fb453032e64496", func := "burgage/burgagelaw2.CrcNumbers", spec := "crcNumbers", apart := false, narrowed := true }
def CrcNumbersUptoSaid : Prop := crcNumbersUptoRow.holds Try.pinned (OpenSpec.upto crcNumbersSpec)

/-- 'burgagelaw2.CrcTells', WHERE WHAT IT READS IS OF BULK AT MOST 1048576: true; the input reads as it did. -/
def crcTellsUptoRow : OpenClaim := { program := "yteedhlgdbankiaa", sum := "d2bf76e710b59daf51246f2a5432b54b64465f7cad6faf0843fb453032e64496", func := "burgage/burgagelaw2.CrcTells", spec := "crcTells", apart := false, narrowed := true }
def CrcTellsUptoSaid : Prop := crcTellsUptoRow.holds Try.pinned (OpenSpec.upto crcTellsSpec)

/-- 'burgagelaw2.CrcTurns', WHERE WHAT IT READS IS OF BULK AT MOST 1048576: true; the input reads as it did. -/
def crcTurnsUptoRow : OpenClaim := { program := "yteedhlgdbankiaa", sum := "d2bf76e710b59daf51246f2a5432b54b64465f7cad6faf0843fb453032e64496", func := "burgage/burgagelaw2.CrcTurns", spec := "crcTurns", apart := false, narrowed := true }
def CrcTurnsUptoSaid : Prop := crcTurnsUptoRow.holds Try.pinned (OpenSpec.upto crcTurnsSpec)

/-- 'burgagelaw2.CrcMixes', WHERE WHAT IT READS IS OF BULK AT MOST 1048576: true; the input reads as it did. -/
def crcMixesUptoRow : OpenClaim := { program := "yteedhlgdbankiaa", sum := "d2bf76e710b59daf51246f2a5432b54b64465f7cad6faf0843fb453032e64496", func := "burgage/burgagelaw2.CrcMixes", spec := "crcMixes", apart := false, narrowed := true }
def CrcMixesUptoSaid : Prop := crcMixesUptoRow.holds Try.pinned (OpenSpec.upto crcMixesSpec)

/-- 'burgagelaw7.SpanNumbers', WHERE WHAT IT READS IS OF BULK AT MOST 1048576: true; the input reads as it did. -/
def spanNumbersUptoRow : OpenClaim := { program := "yteedhlgdbankiaa", sum := "d2bf76e710b59daf51246f2a5432b54b64465f7cad6faf0843fb453032e64496", func := "burgage/burgagelaw7.SpanNumbers", spec := "spanNumbers", unfollowed := true, recurses := true, apart := false, narrowed := true }
def SpanNumbersUptoSaid : Prop := spanNumbersUptoRow.holds Try.pinned (OpenSpec.upto spanNumbersSpec)

/-- 'burgagelaw7.SpanTells', WHERE WHAT IT READS IS OF BULK AT MOST 1048576: true; the input reads as it did. -/
def spanTellsUptoRow : OpenClaim := { program := "yteedhlgdbankiaa", sum := "d2bf76e710b59daf51246f2a5432b54b64465f7cad6faf0843fb453032e64496", func := "burgage/burgagelaw7.SpanTells", spec := "spanTells", unfollowed := true, recurses := true, apart := false, narrowed := true }
def SpanTellsUptoSaid : Prop := spanTellsUptoRow.holds Try.pinned (OpenSpec.upto spanTellsSpec)

/-- 'burgagelaw7.SpanCells', WHERE WHAT IT READS IS OF BULK AT MOST 1048576: true; the input reads as it did. -/
def spanCellsUptoRow : OpenClaim := { program := "yteedhlgdbankiaa", sum := "d2bf76e710b59daf51246f2a5432b54b64465f7cad6faf0843fb453032e64496", func := "burgage/burgagelaw7.SpanCells", spec := "spanCells", unfollowed := true, recurses := true, apart := false, narrowed := true }
def SpanCellsUptoSaid : Prop := spanCellsUptoRow.holds Try.pinned (OpenSpec.upto spanCellsSpec)

/-- 'burgagelaw7.SpanMeets', WHERE WHAT IT READS IS OF BULK AT MOST 1048576: true; the input reads as it did. -/
def spanMeetsUptoRow : OpenClaim := { program := "yteedhlgdbankiaa", sum := "d2bf76e710b59daf51246f2a5432b54b64465f7cad6faf0843fb453032e64496", func := "burgage/burgagelaw7.SpanMeets", spec := "spanMeets", unfollowed := true, recurses := true, apart := false, narrowed := true }
def SpanMeetsUptoSaid : Prop := spanMeetsUptoRow.holds Try.pinned (OpenSpec.upto spanMeetsSpec)

end Rows
end Go.Proofs.Yteedhlgdbankiaa

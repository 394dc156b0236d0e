/-
  No cell of these rows narrows 'for every input' (looked for: loops, veiled, ifaces, maps, wideKeys, modest, calm, conditions, laid).
  DERIVED. THE GIVEN ROWS OF THIS SEAT. 9 by the template 'for every input the law returns true; each argument reads behind the call as it read before'; 0 by the template 'total and deterministic' (their statements: YtljkbpgcglomfaaTotals.lean).
  GIVEN WITH THE SEED: the statements are not yours to turn. If you find one false, say at which input.
  Laid BY PROGRAM, IN A SANDBOX (cutbox-rows.mjs): the forced cells as the released guide's own fill.sh prints them over the translation aef315a200c70255… (all of the seat's roots in one cut). By AI agents, Wed Nov 11 2026. No macro, syntax, notation, axiom, sorry.
-/
import Derived.Test.YtljkbpgcglomfaaChecked
import GoSem.Claim
import GoSem.ClaimJoined
import GoSem.ClaimMapViews
import Derived.JoinedTies
import Derived.KernelRfl
namespace Go.Proofs.Ytljkbpgcglomfaa
/- THE CELL 'sum', in the pinned program and in every row, IS THE sha256 OF THE DUMP (.gsa) THAT YtljkbpgcglomfaaProg.lean LOADS. Nothing in Lean hashes anything: it is a label: what it is worth is what the hold of that sum in a sandbox is worth. -/
noncomputable def Try.pinned : Pinned := { name := "ytljkbpgcglomfaa", sum := "aef315a200c70255fb2f31ef5d805366b54f78b462b08f2b9d9304f88c18914b", checked := Try.checked }
namespace Rows
def none {H : Type} : Left H := { results := [], args := [] }

/-- 'burgagelaw10.WindowNumbers': WHATEVER THE INPUT: true; the input reads as it did. -/
def windowNumbersSpec : ChangeSpec := { name := "windowNumbers", fn := fun _ => fun
  | [] => { results := [.lit (.bool true)], args := [] }
  | _ => none }
def windowNumbersRow : OpenClaim := { program := "ytljkbpgcglomfaa", sum := "aef315a200c70255fb2f31ef5d805366b54f78b462b08f2b9d9304f88c18914b", func := "burgage/burgagelaw10.WindowNumbers", spec := "windowNumbers", unfollowed := true, recurses := true, apart := false }
def WindowNumbersSaid : Prop := windowNumbersRow.holds Try.pinned (OpenSpec.ofChange windowNumbersSpec)

/-- ITS FALSE NEIGHBOUR: 'it returns false'. Refute it at one input. -/
def windowNumbersWrong : ChangeSpec := { name := "windowNumbers", fn := fun _ => fun
  | [] => { results := [.lit (.bool false)], args := [] }
  | _ => none }
def WindowNumbersWrongFalsely : Prop := windowNumbersRow.holds Try.pinned (OpenSpec.ofChange windowNumbersWrong)

/-- 'burgagelaw10.WindowTells': WHATEVER THE INPUT: true; the input reads as it did. -/
def windowTellsSpec : ChangeSpec := { name := "windowTells", fn := fun _ => fun
  | [d1, d2, d3, d4, d5, d6, d7, d8] => { results := [.lit (.bool true)], args := [d1, d2, d3, d4, d5, d6, d7, d8] }
  | _ => none }
def windowTellsRow : OpenClaim := { program := "ytljkbpgcglomfaa", sum := "aef315a200c70255fb2f31ef5d805366b54f78b462b08f2b9d9304f88c18914b", func := "burgage/burgagelaw10.WindowTells", spec := "windowTells", unfollowed := true, recurses := true, apart := false }
def WindowTellsSaid : Prop := windowTellsRow.holds Try.pinned (OpenSpec.ofChange windowTellsSpec)

/-- ITS FALSE NEIGHBOUR: 'it returns false'. Refute it at one input. -/
def windowTellsWrong : ChangeSpec := { name := "windowTells", fn := fun _ => fun
  | [d1, d2, d3, d4, d5, d6, d7, d8] => { results := [.lit (.bool false)], args := [d1, d2, d3, d4, d5, d6, d7, d8] }
  | _ => none }
def WindowTellsWrongFalsely : Prop := windowTellsRow.holds Try.pinned (OpenSpec.ofChange windowTellsWrong)

/-- 'burgagelaw10.WindowCells': WHATEVER THE INPUT: true; the input reads as it did. -/
def windowCellsSpec : ChangeSpec := { name := "windowCells", fn := fun _ => fun
  | [d1, d2, d3] => { results := [.lit (.bool true)], args := [d1, d2, d3] }
  | _ => none }
def windowCellsRow : OpenClaim := { program := "ytljkbpgcglomfaa", sum := "aef315a200c70255fb2f31ef5d805366b54f78b462b08f2b9d9304f88c18914b", func := "burgage/burgagelaw10.WindowCells", spec := "windowCells", unfollowed := true, recurses := true, apart := false }
def WindowCellsSaid : Prop := windowCellsRow.holds Try.pinned (OpenSpec.ofChange windowCellsSpec)

/-- ITS FALSE NEIGHBOUR: 'it returns false'. Refute it at one input. -/
def windowCellsWrong : ChangeSpec := { name := "windowCells", fn := fun _ => fun
  | [d1, d2, d3] => { results := [.lit (.bool false)], args := [d1, d2, d3] }
  | _ => none }
def WindowCellsWrongFalsely : Prop := windowCellsRow.holds Try.pinned (OpenSpec.ofChange windowCellsWrong)

/-- 'burgagelaw10.WindowParts': WHATEVER THE INPUT: true; the input reads as it did. -/
def windowPartsSpec : ChangeSpec := { name := "windowParts", fn := fun _ => fun
  | [d1, d2, d3, d4, d5] => { results := [.lit (.bool true)], args := [d1, d2, d3, d4, d5] }
  | _ => none }
def windowPartsRow : OpenClaim := { program := "ytljkbpgcglomfaa", sum := "aef315a200c70255fb2f31ef5d805366b54f78b462b08f2b9d9304f88c18914b", func := "burgage/burgagelaw10.WindowParts", spec := "windowParts", unfollowed := true, recurses := true, apart := false }
def WindowPartsSaid : Prop := windowPartsRow.holds Try.pinned (OpenSpec.ofChange windowPartsSpec)

/-- ITS FALSE NEIGHBOUR: 'it returns false'. Refute it at one input. -/
def windowPartsWrong : ChangeSpec := { name := "windowParts", fn := fun _ => fun
  | [d1, d2, d3, d4, d5] => { results := [.lit (.bool false)], args := [d1, d2, d3, d4, d5] }
  | _ => none }
def WindowPartsWrongFalsely : Prop := windowPartsRow.holds Try.pinned (OpenSpec.ofChange windowPartsWrong)

/-- 'burgagelaw4.ReplyNumbers': WHATEVER THE INPUT: true; the input reads as it did. -/
def replyNumbersSpec : ChangeSpec := { name := "replyNumbers", fn := fun _ => fun
  | [] => { results := [.lit (.bool true)], args := [] }
  | _ => none }
def replyNumbersRow : OpenClaim := { program := "ytljkbpgcglomfaa", sum := "aef315a200c70255fb2f31ef5d805366b54f78b462b08f2b9d9304f88c18914b", func := "burgage/burgagelaw4.ReplyNumbers", spec := "replyNumbers", apart := false }
def ReplyNumbersSaid : Prop := replyNumbersRow.holds Try.pinned (OpenSpec.ofChange replyNumbersSpec)

/-- ITS FALSE NEIGHBOUR: 'it returns false'. Refute it at one input. -/
def replyNumbersWrong : ChangeSpec := { name := "replyNumbers", fn := fun _ => fun
  | [] => { results := [.lit (.bool false)], args := [] }
  | _ => none }
def ReplyNumbersWrongFalsely : Prop := replyNumbersRow.holds Try.pinned (OpenSpec.ofChange replyNumbersWrong)

/-- 'burgagelaw4.ReplyTells': WHATEVER THE INPUT: true; the input reads as it did. -/
def replyTellsSpec : ChangeSpec := { name := "replyTells", fn := fun _ => fun
  | [d1, d2, d3, d4, d5, d6, d7, d8] => { results := [.lit (.bool true)], args := [d1, d2, d3, d4, d5, d6, d7, d8] }
  | _ => none }
def replyTellsRow : OpenClaim := { program := "ytljkbpgcglomfaa", sum := "aef315a200c70255fb2f31ef5d805366b54f78b462b08f2b9d9304f88c18914b", func := "burgage/burgagelaw4.ReplyTells", spec := "replyTells", apart := false }
def ReplyTellsSaid : Prop := replyTellsRow.holds Try.pinned (OpenSpec.ofChange replyTellsSpec)

/-- ITS FALSE NEIGHBOUR: 'it returns false'. Refute it at one input. -/
def replyTellsWrong : ChangeSpec := { name := "replyTells", fn := fun _ => fun
  | [d1, d2, d3, d4, d5, d6, d7, d8] => { results := [.lit (.bool false)], args := [d1, d2, d3, d4, d5, d6, d7, d8] }
  | _ => none }
def ReplyTellsWrongFalsely : Prop := replyTellsRow.holds Try.pinned (OpenSpec.ofChange replyTellsWrong)

/-- 'burgagelaw4.ReplyBack': WHATEVER THE INPUT: true; the input reads as it did. -/
def replyBackSpec : ChangeSpec := { name := "replyBack", fn := fun _ => fun
  | [d1, d2, d3] => { results := [.lit (.bool true)], args := [d1, d2, d3] }
  | _ => none }
def replyBackRow : OpenClaim := { program := "ytljkbpgcglomfaa", sum := "aef315a200c70255fb2f31ef5d805366b54f78b462b08f2b9d9304f88c18914b", func := "burgage/burgagelaw4.ReplyBack", spec := "replyBack", apart := false }
def ReplyBackSaid : Prop := replyBackRow.holds Try.pinned (OpenSpec.ofChange replyBackSpec)

/-- ITS FALSE NEIGHBOUR: 'it returns false'. Refute it at one input. -/
def replyBackWrong : ChangeSpec := { name := "replyBack", fn := fun _ => fun
  | [d1, d2, d3] => { results := [.lit (.bool false)], args := [d1, d2, d3] }
  | _ => none }
def ReplyBackWrongFalsely : Prop := replyBackRow.holds Try.pinned (OpenSpec.ofChange replyBackWrong)

/-- 'burgagelaw4.ReplyRefuses': WHATEVER THE INPUT: true; the input reads as it did. -/
def replyRefusesSpec : ChangeSpec := { name := "replyRefuses", fn := fun _ => fun
  | [d1, d2] => { results := [.lit (.bool true)], args := [d1, d2] }
  | _ => none }
def replyRefusesRow : OpenClaim := { program := "ytljkbpgcglomfaa", sum := "aef315a200c70255fb2f31ef5d805366b54f78b462b08f2b9d9304f88c18914b", func := "burgage/burgagelaw4.ReplyRefuses", spec := "replyRefuses", apart := false }
def ReplyRefusesSaid : Prop := replyRefusesRow.holds Try.pinned (OpenSpec.ofChange replyRefusesSpec)

/-- ITS FALSE NEIGHBOUR: 'it returns false'. Refute it at one input. -/
def replyRefusesWrong : ChangeSpec := { name := "replyRefuses", fn := fun _ => fun
  | [d1, d2] => { results := [.lit (.bool false)], args := [d1, d2] }
  | _ => none }
def ReplyRefusesWrongFalsely : Prop := replyRefusesRow.holds Try.pinned (OpenSpec.ofChange replyRefusesWrong)

/-- 'burgagelaw4.ReplyCounts': WHATEVER THE INPUT: true; the input reads as it did. -/
def replyCountsSpec : ChangeSpec := { name := "replyCounts", fn := fun _ => fun
  | [d1, d2, d3] => { results := [.lit (.bool true)], args := [d1, d2, d3] }
  | _ => none }
def replyCountsRow : OpenClaim := { program := "ytljkbpgcglomfaa", sum := "aef315a200c70255fb2f31ef5d805366b54f78b462b08f2b9d9304f88c18914b", func := "burgage/burgagelaw4.ReplyCounts", spec := "replyCounts", apart := false }
def ReplyCountsSaid : Prop := replyCountsRow.holds Try.pinned (OpenSpec.ofChange replyCountsSpec)

/-- ITS FALSE NEIGHBOUR: 'it returns false'. Refute it at one input. -/
def replyCountsWrong : ChangeSpec := { name := "replyCounts", fn := fun _ => fun
  | [d1, d2, d3] => { results := [.lit (.bool false)], args := [d1, d2, d3] }
  | _ => none }
def ReplyCountsWrongFalsely : Prop := replyCountsRow.holds Try.pinned (OpenSpec.ofChange replyCountsWrong)

/- THE SECOND FORM. 'bulk': how many values and letters a reading holds, each counted each time it is reached (what is shared counts as often as it is met; a slice's spare places count too). A statement '..UptoSaid' is the law's where the arguments, and the package variables that the reading takes, are together of bulk at most 1048576: NARROWER than '..Said'. Prove '..Said' where nothing that the law and all that it calls make is longer than what came in: it says more and counts as full. Else prove '..UptoSaid'. A law counts once. -/
mutual
def uptoBulk {H : Type} : DataW H → Nat
  | .lit (.string bytes) => bytes.length + 1
  | .lit _ => 1
  | .nil => 1
  | .ptr d => uptoBulk d + 1
  | .slice elems spare => uptoBulkAll elems + uptoBulkAll spare + 1
  | .agg parts => uptoBulkAll parts + 1
  | .iface _ d => uptoBulk d + 1
  | .map entries => uptoBulkEntries entries + 1
  | .held _ => 1
def uptoBulkAll {H : Type} : List (DataW H) → Nat
  | [] => 0
  | d :: r => uptoBulk d + uptoBulkAll r
def uptoBulkEntries {H : Type} : List (Lit × DataW H) → Nat
  | [] => 0
  | x :: r => uptoBulkEntry x + uptoBulkEntries r
def uptoBulkEntry {H : Type} : Lit × DataW H → Nat
  | (.string bytes, d) => bytes.length + uptoBulk d + 1
  | (_, d) => uptoBulk d + 1
 end
def uptoSmall : (H : Type) → List (DataW H) → Bool := fun _ ds => decide (uptoBulkAll ds ≤ 1048576)
def OpenSpec.upto (s : _root_.Go.ChangeSpec) : _root_.Go.OpenSpec := { _root_.Go.OpenSpec.ofChange s with cond := some uptoSmall }

/-- 'burgagelaw10.WindowNumbers', WHERE WHAT IT READS IS OF BULK AT MOST 1048576: true; the input reads as it did. -/
def windowNumbersUptoRow : OpenClaim := { program := "ytljkbpgcglomfaa", sum := "aef315a200c70255fb2f31ef5d805366b54f78b462b08f2b9d9304f88c18914b", func := "burgage/burgagelaw10.WindowNumbers", spec := "windowNumbers", unfollowed := true, recurses := true, apart := false, narrowed := true }
def WindowNumbersUptoSaid : Prop := windowNumbersUptoRow.holds Try.pinned (OpenSpec.upto windowNumbersSpec)

/-- 'burgagelaw10.WindowTells', WHERE WHAT IT READS IS OF BULK AT MOST 1048576: true; the input reads as it did. -/
def windowTellsUptoRow : OpenClaim := { program := "ytljkbpgcglomfaa", sum := "aef315a200c70255fb2f31ef5d805366b54f78b462b08f2b9d9304f88c18914b", func := "burgage/burgagelaw10.WindowTells", spec := "windowTells", unfollowed := true, recurses := true, apart := false, narrowed := true }
def WindowTellsUptoSaid : Prop := windowTellsUptoRow.holds Try.pinned (OpenSpec.upto windowTellsSpec)

/-- 'burgagelaw10.WindowCells', WHERE WHAT IT READS IS OF BULK AT MOST 1048576: true; the input reads as it did. -/
def windowCellsUptoRow : OpenClaim := { program := "ytljkbpgcglomfaa", sum := "aef315a200c70255fb2f31ef5d805366b54f78b462b08f2b9d9304f88c18914b", func := "burgage/burgagelaw10.WindowCells", spec := "windowCells", unfollowed := true, recurses := true, apart := false, narrowed := true }
def WindowCellsUptoSaid : Prop := windowCellsUptoRow.holds Try.pinned (OpenSpec.upto windowCellsSpec)

/-- 'burgagelaw10.WindowParts', WHERE WHAT IT READS IS OF BULK AT MOST 1048576: true; the input reads as it did. -/
def windowPartsUptoRow : OpenClaim := { program := "ytljkbpgcglomfaa", sum := "aef315a200c70255fb2f31ef5d805366b54f78b462b08f2b9d9304f88c18914b", func := "burgage/burgagelaw10.WindowParts", spec := "windowParts", unfollowed := true, recurses := true, apart := false, narrowed := true }
def WindowPartsUptoSaid : Prop := windowPartsUptoRow.holds Try.pinned (OpenSpec.upto windowPartsSpec)

/-- 'burgagelaw4.ReplyNumbers', WHERE WHAT IT READS IS OF BULK AT MOST 1048576: true; the input reads as it did. -/
def replyNumbersUptoRow : OpenClaim := { program := "ytljkbpgcglomfaa", sum := "aef315a200c70255fb2f31ef5d805366b54f78b462b08f2b9d9304f88c18914b", func := "burgage/burgagelaw4.ReplyNumbers", spec := "replyNumbers", apart := false, narrowed := true }
def ReplyNumbersUptoSaid : Prop := replyNumbersUptoRow.holds Try.pinned (OpenSpec.upto replyNumbersSpec)

/-- 'burgagelaw4.ReplyTells', WHERE WHAT IT READS IS OF BULK AT MOST 1048576: true; the input reads as it did. -/
def replyTellsUptoRow : OpenClaim := { program := "ytljkbpgcglomfaa", sum := "aef315a200c70255fb2f31ef5d805366b54f78b462b08f2b9d9304f88c18914b", func := "burgage/burgagelaw4.ReplyTells", spec := "replyTells", apart := false, narrowed := true }
def ReplyTellsUptoSaid : Prop := replyTellsUptoRow.holds Try.pinned (OpenSpec.upto replyTellsSpec)

/-- 'burgagelaw4.ReplyBack', WHERE WHAT IT READS IS OF BULK AT MOST 1048576: true; the input reads as it did. -/
def replyBackUptoRow : OpenClaim := { program := "ytljkbpgcglomfaa", sum := "aef315a200c70255fb2f31ef5d805366b54f78b462b08f2b9d9304f88c18914b", func := "burgage/burgagelaw4.ReplyBack", spec := "replyBack", apart := false, narrowed := true }
def ReplyBackUptoSaid : Prop := replyBackUptoRow.holds Try.pinned (OpenSpec.upto replyBackSpec)

/-- 'burgagelaw4.ReplyRefuses', WHERE WHAT IT READS IS OF BULK AT MOST 1048576: true; the input reads as it did. -/
def replyRefusesUptoRow : OpenClaim := { program := "ytljkbpgcglomfaa", sum := "aef315a200c70255fb2f31ef5d805366b54f78b462b08f2b9d9304f88c18914b", func := "burgage/burgagelaw4.ReplyRefuses", spec := "replyRefuses", apart := false, narrowed := true }
def ReplyRefusesUptoSaid : Prop := replyRefusesUptoRow.holds Try.pinned (OpenSpec.upto replyRefusesSpec)

/-- 'burgagelaw4.ReplyCounts', WHERE WHAT IT READS IS OF BULK AT MOST 1048576: true; the input reads as it did. -/
def replyCountsUptoRow : OpenClaim := { program := "ytljkbpgcglomfaa", sum := "aef315a200c70255fb2f31ef5d805366b54f78b462b08f2b9d9304f88c18914b", func := "burgage/burgagelaw4.ReplyCounts", spec := "replyCounts", apart := false, narrowed := true }
def ReplyCountsUptoSaid : Prop := replyCountsUptoRow.holds Try.pinned (OpenSpec.upto replyCountsSpec)

end Rows
end Go.Proofs.Ytljkbpgcglomfaa
